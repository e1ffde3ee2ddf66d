/- A function is found in the current unit alone, by its name and its number of parameters: ModsFinds answers true. Conditions: none. -/
import Derived.Test.YtlimjjilakldgaaModI
import Derived.Test.YtlimjjilakldgaaAbsLaw
set_option autoImplicit false
set_option maxRecDepth 100000
namespace Go.Proofs.Ytlimjjilakldgaa.modsFinds
open Go Go.ChangeShapes Go.WideShapes Go.ChangeAt Go.RowKit Go.Abs
theorem own : ownKnob Try.prog.godebug = none := by kernel_rfl
theorem laidOut : laidOutB Try.prog = true := by kernel_rfl
theorem maxLen_eq : maxLen = 9223372036854775807 := by decide
abbrev specs : List (Bool × List Sh) := [(false, [.str]), (false, [.str]), (false, [.int .i64])]
theorem all (xs : List AV) (h : okArgs specs xs) : CT Try.prog false 4 xs [] fun v _ => v = .bool true := by
  simp only [okArgs, okA] at h
  obtain ⟨_, _, rfl, ⟨_, e1, h1⟩, _, _, rfl, ⟨_, e2, h2⟩, _, _, rfl, ⟨_, e3, h3⟩, rfl⟩ := h
  cases e1; cases e2; cases e3
  simp only [okS] at h1 h2 h3
  obtain ⟨s, rfl, hl, hs⟩ := h1
  obtain ⟨d, rfl, hl2, hs2⟩ := h2
  obtain ⟨n, rfl, _⟩ := h3
  rw [maxLen_eq] at hl hl2
  exact finds4 ⟨hl, hs⟩ ⟨hl2, hs2⟩
theorem lifted (os : Os) (started : os.Started) (H : Type) (enc : TypeId × Value → H) :
    ReturnsInHanded {} Try.checked os 4 .any (Rows.modsFindsSpec.pre6 enc Try.prog Try.f4 Rows.modsFindsRow.domain false) (Rows.modsFindsSpec.post enc Try.prog Try.f4 false true false false) := by
  refine returnsInHanded_of_change (C := Try.checked) own started (by kernel_rfl) Try.func4
    (ChangeSpec.witness6 (enc := enc) (C := Try.checked) false ⟨#[], #[.string ByteArray.empty, .string ByteArray.empty, .int .i64 0], []⟩ 8 (by kernel_rfl) (by kernel_rfl) (by kernel_rfl) (by kernel_rfl)) ?_
  intro W base args ds gs before hval hW hcnd _
  exact law_contractM laidOut rfl (by kernel_rfl) (rt := 4) rfl (by kernel_rfl) (fun ds h => by match ds, h with | [a, b, c], _ => rfl) (specs := specs) (by kernel_rfl) all W base args ds gs before hval hW
theorem over : Rows.modsFindsRow.holds Try.pinned (OpenSpec.ofChange Rows.modsFindsSpec) :=
  OpenClaim.holds_of_wide 4 Try.f4 rfl rfl rfl rfl rfl rfl rfl ⟨rfl, rfl, rfl, rfl, rfl⟩ rfl rfl rfl rfl rfl (by kernel_rfl) Try.func4 (by kernel_rfl)
    (of_decide_eq_true (by kernel_rfl)) (by unfold Func.isWrapper; first | (rw [if_pos (by decide +kernel)]; kernel_rfl) | (rw [if_neg (by decide +kernel)]; exact ⟨rfl, rfl⟩))
    (fun os started H enc _ => lifted os started H enc)
end Go.Proofs.Ytlimjjilakldgaa.modsFinds
namespace Go.Proofs.Ytlimjjilakldgaa
theorem modsFinds_holds : Rows.ModsFindsSaid := modsFinds.over
#print axioms modsFinds_holds
end Go.Proofs.Ytlimjjilakldgaa
