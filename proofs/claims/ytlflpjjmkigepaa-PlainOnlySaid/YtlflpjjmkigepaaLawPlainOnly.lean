/- Bytes that are right are loaded into a heap with room, and saved as just these; with less room nothing is made; without a heap there is nothing: PlainOnly answers true. Conditions: none. -/
import Derived.Test.YtlflpjjmkigepaaPlnH
import Derived.Test.YtlflpjjmkigepaaAbsLaw
set_option autoImplicit false
set_option maxRecDepth 100000
set_option linter.unusedSimpArgs false
namespace Go.Proofs.Ytlflpjjmkigepaa.plainOnly
open Go Go.ChangeShapes Go.WideShapes Go.ChangeAt Go.RowKit Go.Abs
theorem own : ownKnob Try.prog.godebug = none := by kernel_rfl
theorem laidOut : laidOutB Try.prog = true := by kernel_rfl
theorem maxLen_eq : maxLen = 9223372036854775807 := by decide
abbrev specs : List (Bool × List Sh) := [(false, [.str])]
theorem all (xs : List AV) (h : okArgs specs xs) : CT Try.prog true 7 xs [] fun v _ => v = .bool true := by
  simp only [okArgs, okA] at h
  obtain ⟨_, _, rfl, ⟨_, e1, h1⟩, rfl⟩ := h
  cases e1
  simp only [okS] at h1
  obtain ⟨s, rfl, _, hs⟩ := h1
  exact only7 hs
theorem lifted (os : Os) (started : os.Started) (H : Type) (enc : TypeId × Value → H) :
    ReturnsInHanded {} Try.checked os 7 .any (Rows.plainOnlySpec.pre6 enc Try.prog Try.f7 Rows.plainOnlyRow.domain false) (Rows.plainOnlySpec.post enc Try.prog Try.f7 false true false false) := by
  refine returnsInHanded_of_change (C := Try.checked) own started (by kernel_rfl) Try.func7
    (ChangeSpec.witness6 (enc := enc) (C := Try.checked) false ⟨#[], #[.string ByteArray.empty], []⟩ 8 (by kernel_rfl) (by kernel_rfl) (by kernel_rfl) (by kernel_rfl)) ?_
  intro W base args ds gs before hval hW hcnd _
  exact law_contractM laidOut rfl (by kernel_rfl) (rt := 4) rfl (by kernel_rfl) (fun ds h => by match ds, h with | [a], _ => rfl) (specs := specs) (by kernel_rfl) all W base args ds gs before hval hW
theorem over : Rows.plainOnlyRow.holds Try.pinned (OpenSpec.ofChange Rows.plainOnlySpec) :=
  OpenClaim.holds_of_wide 7 Try.f7 rfl rfl rfl rfl rfl rfl rfl ⟨rfl, rfl, rfl, rfl, rfl⟩ rfl rfl rfl rfl rfl (by kernel_rfl) Try.func7 (by kernel_rfl)
    (of_decide_eq_true (by kernel_rfl)) (by unfold Func.isWrapper; first | (rw [if_pos (by decide +kernel)]; kernel_rfl) | (rw [if_neg (by decide +kernel)]; exact ⟨rfl, rfl⟩))
    (fun os started H enc _ => lifted os started H enc)
end Go.Proofs.Ytlflpjjmkigepaa.plainOnly
namespace Go.Proofs.Ytlflpjjmkigepaa
theorem plainOnly_holds : Rows.PlainOnlySaid := plainOnly.over
#print axioms plainOnly_holds
end Go.Proofs.Ytlflpjjmkigepaa
