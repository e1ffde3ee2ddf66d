/- DepsRings: modules that need the next one each are put in order from the last one on; closed to a ring they are none; a ring among others is found. It answers true. Conditions: none. -/
import Derived.Test.YtbcnhellcpeecaaDepsF
set_option autoImplicit false
set_option maxRecDepth 100000
set_option linter.unusedVariables false
namespace Go.Proofs.Ytbcnhellcpeecaa.depsRings
open Go Go.ChangeShapes Go.WideShapes Go.ChangeAt Go.RowKit Go.Abs
theorem own : ownKnob Try.prog.godebug = none := by kernel_rfl
theorem laidOut : laidOutB Try.prog = true := by kernel_rfl
theorem mixed : Try.prog.follows .mixedOrders = true := by kernel_rfl
theorem plain : Sound Try.prog (acall (comp Try.prog) (fun _ => none) 60) := acall_ok mixed (fun f g h => by cases h) 60
theorem known : ans (acall (comp Try.prog) (fun _ => none) 60 8 [] ⟨.e, 0⟩) = some (.bool true) := by kernel_rfl
theorem sound : Sound Try.prog (acall F0 E8 301) := acall_ok mixed (single_sound (closed_sound plain known rfl)) 301
def specs : List (Bool × List Sh) := [(false, [.int .u8]), (false, [.int .u8]), (false, [.bool])]
theorem all (xs : List AV) (h : okArgs specs xs) : ans (acall F0 E8 301 5 xs ⟨.e, 0⟩) = some (.bool true) := by
  simp only [specs, okArgs, okA] at h
  obtain ⟨_, _, rfl, ⟨_, e1, h1⟩, _, _, rfl, ⟨_, e2, h2⟩, _, _, rfl, ⟨_, e3, h3⟩, rfl⟩ := h
  cases e1; cases e2; cases e3
  simp only [okS] at h1 h2 h3
  obtain ⟨n, rfl, wn⟩ := h1
  obtain ⟨o, rfl, wo⟩ := h2
  obtain ⟨c, rfl⟩ := h3
  have nat : ∀ {n : Int}, (Lit.int .u8 n).wf = true → ∃ m : Nat, m < 256 ∧ n = Int.ofNat m := by
    intro n h
    simp [Lit.wf, IntKind.min, IntKind.max, IntKind.signed, IntKind.bits] at h
    refine ⟨n.toNat, by omega, ?_⟩
    show n = (n.toNat : Int)
    omega
  obtain ⟨a, ha, rfl⟩ := nat wn
  obtain ⟨b, hb, rfl⟩ := nat wo
  obtain ⟨s', h⟩ := told5 (s0 := ⟨.e, 0⟩) (c := c) ha hb
  rw [h]; rfl
theorem lifted (os : Os) (started : os.Started) (H : Type) (enc : TypeId × Value → H) :
    ReturnsInHanded {} Try.checked os 5 .any (Rows.depsRingsSpec.pre6 enc Try.prog Try.f5 Rows.depsRingsRow.domain false) (Rows.depsRingsSpec.post enc Try.prog Try.f5 false true false false) := by
  refine returnsInHanded_of_change (C := Try.checked) own started (by kernel_rfl) Try.func5
    (ChangeSpec.witness6 (enc := enc) (C := Try.checked) false ⟨#[], #[.int .u8 0, .int .u8 0, .bool false], []⟩ 8 (by kernel_rfl) (by kernel_rfl) (by kernel_rfl) (by kernel_rfl)) ?_
  intro W base args ds gs before hval hW hcnd _
  exact law_contract sound laidOut rfl (by kernel_rfl) (rt := 4) rfl (by kernel_rfl) (fun ds h => by match ds, h with | [a, b, c], _ => rfl) (specs := specs) (by kernel_rfl) all W base args ds gs before hval hW
theorem over : Rows.depsRingsRow.holds Try.pinned (OpenSpec.ofChange Rows.depsRingsSpec) :=
  OpenClaim.holds_of_wide 5 Try.f5 rfl rfl rfl rfl rfl rfl rfl ⟨rfl, rfl, rfl, rfl, rfl⟩ rfl rfl rfl rfl rfl (by kernel_rfl) Try.func5 (by kernel_rfl)
    (of_decide_eq_true (by kernel_rfl)) (by unfold Func.isWrapper; first | (rw [if_pos (by decide +kernel)]; kernel_rfl) | (rw [if_neg (by decide +kernel)]; exact ⟨rfl, rfl⟩))
    (fun os started H enc _ => lifted os started H enc)
end Go.Proofs.Ytbcnhellcpeecaa.depsRings
namespace Go.Proofs.Ytbcnhellcpeecaa
theorem depsRings_holds : Rows.DepsRingsSaid := depsRings.over
#print axioms depsRings_holds
end Go.Proofs.Ytbcnhellcpeecaa
