/- A world that is not there runs nothing, without modules there is none: VmNil answers true. Conditions: none. -/
import Derived.Test.YtiiajdfjnamfcaaGreatPlnA
import Derived.Test.YtiiajdfjnamfcaaGreatPlnB
import Derived.Test.YtiiajdfjnamfcaaGreatAbsLaw
set_option autoImplicit false
set_option maxRecDepth 100000
namespace Go.Proofs.YtiiajdfjnamfcaaGreat.vmNil
open Go Go.ChangeShapes Go.WideShapes Go.ChangeAt Go.RowKit Go.Abs
theorem own : ownKnob Try.prog.godebug = none := by kernel_rfl
theorem laidOut : laidOutB Try.prog = true := by kernel_rfl
theorem maxLen_eq : maxLen = 9223372036854775807 := by decide
abbrev specs : List (Bool × List Sh) := [(false, [.int .i64]), (false, [.int .i64]), (false, [.str])]
theorem all (xs : List AV) (h : okArgs specs xs) : CT Try.prog false 3 xs [] fun v _ => v = .bool true := by
 simp only [okArgs, okA] at h
 obtain ⟨_, _, rfl, ⟨_, e1, h1⟩, _, _, rfl, ⟨_, e2, h2⟩, _, _, rfl, ⟨_, e3, h3⟩, rfl⟩ := h
 cases e1; cases e2; cases e3
 simp only [okS] at h1 h2 h3
 obtain ⟨i, rfl, _⟩ := h1
 obtain ⟨j, rfl, _⟩ := h2
 obtain ⟨s, rfl, hl, _⟩ := h3
 rw [maxLen_eq] at hl
 exact nil3 closed4 hl
theorem lifted (os : Os) (started : os.Started) (H : Type) (enc : TypeId × Value → H) :
  ReturnsInHanded {} Tryz.checked os 3 .any (Rows.vmNilSpec.pre6 enc Try.prog Tryz.f3 Rows.vmNilRow.domain false) (Rows.vmNilSpec.post enc Try.prog Tryz.f3 false true false false) := by
 refine returnsInHanded_of_change (C := Tryz.checked) own started (by kernel_rfl) Tryz.func3
  (ChangeSpec.witness6 (enc := enc) (C := Tryz.checked) false ⟨#[], #[.int .i64 0, .int .i64 0, .string ByteArray.empty], []⟩ 8 (by kernel_rfl) (by kernel_rfl) (by kernel_rfl) (by kernel_rfl)) ?_
 intro W base args ds gs before hval hW hcnd _
 exact law_contractM laidOut rfl (by kernel_rfl) (rt := 4) rfl (by kernel_rfl) (fun ds h => by match ds, h with | [a, b, c], _ => rfl) (specs := specs) (by kernel_rfl) all W base args ds gs before hval hW
theorem over : Rows.vmNilRow.holds Tryz.pinned (OpenSpec.ofChange Rows.vmNilSpec) :=
 OpenClaim.holds_of_wide 3 Tryz.f3 rfl rfl rfl rfl rfl rfl rfl ⟨rfl, rfl, rfl, rfl, rfl⟩ rfl rfl rfl rfl rfl (by kernel_rfl) Tryz.func3 (by kernel_rfl)
  (of_decide_eq_true (by kernel_rfl)) (by unfold Func.isWrapper; first | (rw [if_pos (by decide +kernel)]; kernel_rfl) | (rw [if_neg (by decide +kernel)]; exact ⟨rfl, rfl⟩))
  (fun os started H enc _ => lifted os started H enc)
end Go.Proofs.YtiiajdfjnamfcaaGreat.vmNil
namespace Go.Proofs.YtiiajdfjnamfcaaGreat
theorem vmNil_holds : Rows.VmNilSaid := vmNil.over
#print axioms vmNil_holds
end Go.Proofs.YtiiajdfjnamfcaaGreat
