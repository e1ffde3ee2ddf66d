/- A table that is not there has no module: ModsNil answers true. Conditions: none. -/
import Derived.Test.YtlimjjilakldgaaModD
import Derived.Test.YtlimjjilakldgaaAbsLaw
set_option autoImplicit false
set_option maxRecDepth 100000
namespace Go.Proofs.Ytlimjjilakldgaa.modsNil
open Go Go.ChangeShapes Go.WideShapes Go.ChangeAt Go.RowKit Go.Abs
theorem own : ownKnob Try.prog.godebug = none := by kernel_rfl
theorem laidOut : laidOutB Try.prog = true := by kernel_rfl
theorem maxLen_eq : maxLen = 9223372036854775807 := by decide
abbrev specs : List (Bool × List Sh) := [(false, [.str]), (false, [.int .i64])]
theorem all (xs : List AV) (h : okArgs specs xs) : CT Try.prog false 6 xs [] fun v _ => v = .bool true := by
  simp only [okArgs, okA] at h
  obtain ⟨_, _, rfl, ⟨_, e1, h1⟩, _, _, rfl, ⟨_, e2, h2⟩, rfl⟩ := h
  cases e1; cases e2
  simp only [okS] at h1 h2
  obtain ⟨s, rfl, hl, _⟩ := h1
  obtain ⟨n, rfl, _⟩ := h2
  rw [maxLen_eq] at hl
  exact (nil6 hl).mono fun _ _ h => h.2
theorem lifted (os : Os) (started : os.Started) (H : Type) (enc : TypeId × Value → H) :
    ReturnsInHanded {} Try.checked os 6 .any (Rows.modsNilSpec.pre6 enc Try.prog Try.f6 Rows.modsNilRow.domain false) (Rows.modsNilSpec.post enc Try.prog Try.f6 false true false false) := by
  refine returnsInHanded_of_change (C := Try.checked) own started (by kernel_rfl) Try.func6
    (ChangeSpec.witness6 (enc := enc) (C := Try.checked) false ⟨#[], #[.string ByteArray.empty, .int .i64 0], []⟩ 8 (by kernel_rfl) (by kernel_rfl) (by kernel_rfl) (by kernel_rfl)) ?_
  intro W base args ds gs before hval hW hcnd _
  exact law_contractM laidOut rfl (by kernel_rfl) (rt := 4) rfl (by kernel_rfl) (fun ds h => by match ds, h with | [a, b], _ => rfl) (specs := specs) (by kernel_rfl) all W base args ds gs before hval hW
theorem over : Rows.modsNilRow.holds Try.pinned (OpenSpec.ofChange Rows.modsNilSpec) :=
  OpenClaim.holds_of_wide 6 Try.f6 rfl rfl rfl rfl rfl rfl rfl ⟨rfl, rfl, rfl, rfl, rfl⟩ rfl rfl rfl rfl rfl (by kernel_rfl) Try.func6 (by kernel_rfl)
    (of_decide_eq_true (by kernel_rfl)) (by unfold Func.isWrapper; first | (rw [if_pos (by decide +kernel)]; kernel_rfl) | (rw [if_neg (by decide +kernel)]; exact ⟨rfl, rfl⟩))
    (fun os started H enc _ => lifted os started H enc)
end Go.Proofs.Ytlimjjilakldgaa.modsNil
namespace Go.Proofs.Ytlimjjilakldgaa
theorem modsNil_holds : Rows.ModsNilSaid := modsNil.over
#print axioms modsNil_holds
end Go.Proofs.Ytlimjjilakldgaa
