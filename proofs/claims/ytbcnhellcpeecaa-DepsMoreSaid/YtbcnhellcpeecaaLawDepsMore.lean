/- DepsMore: more that there is already makes no other order; what needs nothing more stands behind an order as it is, put behind it. It answers true. Conditions: none. -/
import Derived.Test.YtbcnhellcpeecaaDepsE
set_option autoImplicit false
set_option maxRecDepth 100000
set_option linter.unusedVariables false
namespace Go.Proofs.Ytbcnhellcpeecaa.depsMore
open Go Go.ChangeShapes Go.WideShapes Go.ChangeAt Go.RowKit Go.Abs
theorem own : ownKnob Try.prog.godebug = none := by kernel_rfl
theorem laidOut : laidOutB Try.prog = true := by kernel_rfl
theorem mixed : Try.prog.follows .mixedOrders = true := by kernel_rfl
theorem plain : Sound Try.prog (acall (comp Try.prog) (fun _ => none) 60) := acall_ok mixed (fun f g h => by cases h) 60
theorem known : ans (acall (comp Try.prog) (fun _ => none) 60 8 [] ⟨.e, 0⟩) = some (.bool true) := by kernel_rfl
theorem sound : Sound Try.prog (acall F0 E8 301) := acall_ok mixed (single_sound (closed_sound plain known rfl)) 301
def specs : List (Bool × List Sh) := [(false, [.slc [.str, .slc [.str]]]), (false, [.slc [.str]]), (false, [.str])]
theorem all (xs : List AV) (h : okArgs specs xs) : ans (acall F0 E8 301 6 xs ⟨.e, 0⟩) = some (.bool true) := by
  simp only [specs, okArgs, okA] at h
  obtain ⟨_, _, rfl, ⟨_, e1, h1⟩, _, _, rfl, ⟨_, e2, h2⟩, _, _, rfl, ⟨_, e3, h3⟩, rfl⟩ := h
  cases e1; cases e2; cases e3
  obtain ⟨D, hD⟩ := deps_of h1
  obtain ⟨ns, hH⟩ := strs_of h2
  simp only [okS] at h3
  obtain ⟨more, rfl, _⟩ := h3
  obtain ⟨s', h⟩ := told6 (more := more) (hD ⟨.e, 0⟩) (hH ⟨.e, 0⟩)
  rw [h]; rfl
theorem lifted (os : Os) (started : os.Started) (H : Type) (enc : TypeId × Value → H) :
    ReturnsInHanded {} Try.checked os 6 .any (Rows.depsMoreSpec.pre6 enc Try.prog Try.f6 Rows.depsMoreRow.domain false) (Rows.depsMoreSpec.post enc Try.prog Try.f6 false true false false) := by
  refine returnsInHanded_of_change (C := Try.checked) own started (by kernel_rfl) Try.func6
    (ChangeSpec.witness6 (enc := enc) (C := Try.checked) false ⟨#[], #[.slice none 0 0, .slice none 0 0, .string ByteArray.empty], []⟩ 8 (by kernel_rfl) (by kernel_rfl) (by kernel_rfl) (by kernel_rfl)) ?_
  intro W base args ds gs before hval hW hcnd _
  exact law_contract sound laidOut rfl (by kernel_rfl) (rt := 4) rfl (by kernel_rfl) (fun ds h => by match ds, h with | [a, b, c], _ => rfl) (specs := specs) (by kernel_rfl) all W base args ds gs before hval hW
theorem over : Rows.depsMoreRow.holds Try.pinned (OpenSpec.ofChange Rows.depsMoreSpec) :=
  OpenClaim.holds_of_wide 6 Try.f6 rfl rfl rfl rfl rfl rfl rfl ⟨rfl, rfl, rfl, rfl, rfl⟩ rfl rfl rfl rfl rfl (by kernel_rfl) Try.func6 (by kernel_rfl)
    (of_decide_eq_true (by kernel_rfl)) (by unfold Func.isWrapper; first | (rw [if_pos (by decide +kernel)]; kernel_rfl) | (rw [if_neg (by decide +kernel)]; exact ⟨rfl, rfl⟩))
    (fun os started H enc _ => lifted os started H enc)
end Go.Proofs.Ytbcnhellcpeecaa.depsMore
namespace Go.Proofs.Ytbcnhellcpeecaa
theorem depsMore_holds : Rows.DepsMoreSaid := depsMore.over
#print axioms depsMore_holds
end Go.Proofs.Ytbcnhellcpeecaa
