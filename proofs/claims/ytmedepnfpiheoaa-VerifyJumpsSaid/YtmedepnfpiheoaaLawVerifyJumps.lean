/- Of code that may run each jump stays in it, and what is named is there: VerifyJumps answers true. Conditions: none. -/
import Derived.Test.YtmedepnfpiheoaaVerK
import Derived.Test.YtmedepnfpiheoaaVerC
set_option autoImplicit false
namespace Go.Proofs.Ytmedepnfpiheoaa.verifyJumps
open Go Go.ChangeShapes Go.WideShapes Go.ChangeAt Go.RowKit Go.Abs
theorem own : ownKnob Try.prog.godebug = none := by kernel_rfl
theorem laidOut : laidOutB Try.prog = true := by kernel_rfl
theorem all (xs : List AV) (h : okArgs specs xs) : CT Try.prog false 4 xs [] fun v _ => v = .bool true := by
  obtain ⟨u, rfl, hu⟩ := args_ok h
  exact fun s hs => (jumps4 hu s hs).mono fun w s2 _ ⟨K2, h1, h2, _, h3⟩ => ⟨K2, h1, h2, h3⟩
theorem lifted (os : Os) (started : os.Started) (H : Type) (enc : TypeId × Value → H) :
    ReturnsInHanded {} Try.checked os 4 .any (Rows.verifyJumpsSpec.pre6 enc Try.prog Try.f4 Rows.verifyJumpsRow.domain false) (Rows.verifyJumpsSpec.post enc Try.prog Try.f4 false true false false) := by
  refine returnsInHanded_of_change (C := Try.checked) own started (by kernel_rfl) Try.func4
    (ChangeSpec.witness6 (enc := enc) (C := Try.checked) false ⟨#[], #[.agg #[.string ByteArray.empty, .int .i64 0, .slice none 0 0, .int .i64 0, .slice none 0 0]], []⟩ 8 (by kernel_rfl) (by kernel_rfl) (by kernel_rfl) (by kernel_rfl)) ?_
  intro W base args ds gs before hval hW hcnd _
  exact law_contractM laidOut rfl (by kernel_rfl) (rt := 4) rfl (by kernel_rfl) (fun ds h => by match ds, h with | [a], _ => rfl) (specs := specs) (by kernel_rfl) all W base args ds gs before hval hW
theorem over : Rows.verifyJumpsRow.holds Try.pinned (OpenSpec.ofChange Rows.verifyJumpsSpec) :=
  OpenClaim.holds_of_wide 4 Try.f4 rfl rfl rfl rfl rfl rfl rfl ⟨rfl, rfl, rfl, rfl, rfl⟩ rfl rfl rfl rfl rfl (by kernel_rfl) Try.func4 (by kernel_rfl)
    (of_decide_eq_true (by kernel_rfl)) (by unfold Func.isWrapper; first | (rw [if_pos (by decide +kernel)]; kernel_rfl) | (rw [if_neg (by decide +kernel)]; exact ⟨rfl, rfl⟩))
    (fun os started H enc _ => lifted os started H enc)
end Go.Proofs.Ytmedepnfpiheoaa.verifyJumps
namespace Go.Proofs.Ytmedepnfpiheoaa
theorem verifyJumps_holds : Rows.VerifyJumpsSaid := verifyJumps.over
#print axioms verifyJumps_holds
end Go.Proofs.Ytmedepnfpiheoaa
