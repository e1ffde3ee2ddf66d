/- DepsStands: in an order each module stands once, and behind each other one that it needs. It answers true. Conditions: none. -/
import Derived.Test.YtbcnhellcpeecaaDepsD
set_option autoImplicit false
set_option maxRecDepth 100000
set_option linter.unusedVariables false
namespace Go.Proofs.Ytbcnhellcpeecaa.depsStands
open Go Go.ChangeShapes Go.WideShapes Go.ChangeAt Go.RowKit Go.Abs
theorem own : ownKnob Try.prog.godebug = none := by kernel_rfl
theorem laidOut : laidOutB Try.prog = true := by kernel_rfl
theorem mixed : Try.prog.follows .mixedOrders = true := by kernel_rfl
theorem plain : Sound Try.prog (acall (comp Try.prog) (fun _ => none) 60) := acall_ok mixed (fun f g h => by cases h) 60
theorem known : ans (acall (comp Try.prog) (fun _ => none) 60 8 [] ⟨.e, 0⟩) = some (.bool true) := by kernel_rfl
theorem sound : Sound Try.prog (acall F0 E8 301) := acall_ok mixed (single_sound (closed_sound plain known rfl)) 301
def specs : List (Bool × List Sh) := [(false, [.slc [.str, .slc [.str]]]), (false, [.slc [.str]])]
theorem all (xs : List AV) (h : okArgs specs xs) : ans (acall F0 E8 301 4 xs ⟨.e, 0⟩) = some (.bool true) := by
  simp only [specs, okArgs, okA] at h
  obtain ⟨_, _, rfl, ⟨_, e1, h1⟩, _, _, rfl, ⟨_, e2, h2⟩, rfl⟩ := h
  cases e1; cases e2
  obtain ⟨D, hD⟩ := deps_of h1
  obtain ⟨ns, hH⟩ := strs_of h2
  obtain ⟨s', h⟩ := told4 (hD ⟨.e, 0⟩) (hH ⟨.e, 0⟩)
  rw [h]; rfl
theorem lifted (os : Os) (started : os.Started) (H : Type) (enc : TypeId × Value → H) :
    ReturnsInHanded {} Try.checked os 4 .any (Rows.depsStandsSpec.pre6 enc Try.prog Try.f4 Rows.depsStandsRow.domain false) (Rows.depsStandsSpec.post enc Try.prog Try.f4 false true false false) := by
  refine returnsInHanded_of_change (C := Try.checked) own started (by kernel_rfl) Try.func4
    (ChangeSpec.witness6 (enc := enc) (C := Try.checked) false ⟨#[], #[.slice none 0 0, .slice none 0 0], []⟩ 8 (by kernel_rfl) (by kernel_rfl) (by kernel_rfl) (by kernel_rfl)) ?_
  intro W base args ds gs before hval hW hcnd _
  exact law_contract sound laidOut rfl (by kernel_rfl) (rt := 4) rfl (by kernel_rfl) (fun ds h => by match ds, h with | [a, b], _ => rfl) (specs := specs) (by kernel_rfl) all W base args ds gs before hval hW
theorem over : Rows.depsStandsRow.holds Try.pinned (OpenSpec.ofChange Rows.depsStandsSpec) :=
  OpenClaim.holds_of_wide 4 Try.f4 rfl rfl rfl rfl rfl rfl rfl ⟨rfl, rfl, rfl, rfl, rfl⟩ rfl rfl rfl rfl rfl (by kernel_rfl) Try.func4 (by kernel_rfl)
    (of_decide_eq_true (by kernel_rfl)) (by unfold Func.isWrapper; first | (rw [if_pos (by decide +kernel)]; kernel_rfl) | (rw [if_neg (by decide +kernel)]; exact ⟨rfl, rfl⟩))
    (fun os started H enc _ => lifted os started H enc)
end Go.Proofs.Ytbcnhellcpeecaa.depsStands
namespace Go.Proofs.Ytbcnhellcpeecaa
theorem depsStands_holds : Rows.DepsStandsSaid := depsStands.over
#print axioms depsStands_holds
end Go.Proofs.Ytbcnhellcpeecaa
