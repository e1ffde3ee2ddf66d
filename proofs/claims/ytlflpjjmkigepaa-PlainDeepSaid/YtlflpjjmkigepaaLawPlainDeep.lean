/- Tables within one another are plain up to so many as there may be; a table that is in itself is not: PlainDeep answers true. Conditions: none. -/
import Derived.Test.YtlflpjjmkigepaaPlnH
import Derived.Test.YtlflpjjmkigepaaAbsLaw
set_option autoImplicit false
set_option maxRecDepth 100000
set_option linter.unusedSimpArgs false
namespace Go.Proofs.Ytlflpjjmkigepaa.plainDeep
open Go Go.ChangeShapes Go.WideShapes Go.ChangeAt Go.RowKit Go.Abs
theorem own : ownKnob Try.prog.godebug = none := by kernel_rfl
theorem laidOut : laidOutB Try.prog = true := by kernel_rfl
abbrev specs : List (Bool × List Sh) := [(false, [.int .u8]), (false, [.bool])]
theorem all (xs : List AV) (h : okArgs specs xs) : CT Try.prog true 8 xs [] fun v _ => v = .bool true := by
  simp only [okArgs, okA] at h
  obtain ⟨_, _, rfl, ⟨_, e0, h0⟩, _, _, rfl, ⟨_, e1, h1⟩, rfl⟩ := h
  cases e0
  cases e1
  simp only [okS] at h0 h1
  obtain ⟨n, rfl, hn⟩ := h0
  obtain ⟨r, rfl⟩ := h1
  simp only [Lit.wf, Bool.and_eq_true, decide_eq_true_eq] at hn
  have e1 : IntKind.min .u8 = 0 := by decide
  have e2 : IntKind.max .u8 = 255 := by decide
  rw [e1, e2] at hn
  obtain ⟨m, rfl⟩ : ∃ m : Nat, n = .ofNat m := ⟨n.toNat, by simp; omega⟩
  exact deep8 (by have := hn.2; simp at this; omega)
theorem lifted (os : Os) (started : os.Started) (H : Type) (enc : TypeId × Value → H) :
    ReturnsInHanded {} Try.checked os 8 .any (Rows.plainDeepSpec.pre6 enc Try.prog Try.f8 Rows.plainDeepRow.domain false) (Rows.plainDeepSpec.post enc Try.prog Try.f8 false true false false) := by
  refine returnsInHanded_of_change (C := Try.checked) own started (by kernel_rfl) Try.func8
    (ChangeSpec.witness6 (enc := enc) (C := Try.checked) false ⟨#[], #[.int .u8 0, .bool false], []⟩ 8 (by kernel_rfl) (by kernel_rfl) (by kernel_rfl) (by kernel_rfl)) ?_
  intro W base args ds gs before hval hW hcnd _
  exact law_contractM laidOut rfl (by kernel_rfl) (rt := 4) rfl (by kernel_rfl) (fun ds h => by match ds, h with | [a, b], _ => rfl) (specs := specs) (by kernel_rfl) all W base args ds gs before hval hW
theorem over : Rows.plainDeepRow.holds Try.pinned (OpenSpec.ofChange Rows.plainDeepSpec) :=
  OpenClaim.holds_of_wide 8 Try.f8 rfl rfl rfl rfl rfl rfl rfl ⟨rfl, rfl, rfl, rfl, rfl⟩ rfl rfl rfl rfl rfl (by kernel_rfl) Try.func8 (by kernel_rfl)
    (of_decide_eq_true (by kernel_rfl)) (by unfold Func.isWrapper; first | (rw [if_pos (by decide +kernel)]; kernel_rfl) | (rw [if_neg (by decide +kernel)]; exact ⟨rfl, rfl⟩))
    (fun os started H enc _ => lifted os started H enc)
end Go.Proofs.Ytlflpjjmkigepaa.plainDeep
namespace Go.Proofs.Ytlflpjjmkigepaa
theorem plainDeep_holds : Rows.PlainDeepSaid := plainDeep.over
#print axioms plainDeep_holds
end Go.Proofs.Ytlflpjjmkigepaa
