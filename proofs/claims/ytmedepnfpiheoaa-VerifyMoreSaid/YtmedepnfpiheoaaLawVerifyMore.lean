/- A register more, or a constant more, makes no code wrong that may run; a jump beyond its end does: VerifyMore answers true. Conditions: none. -/
import Derived.Test.YtmedepnfpiheoaaVerL
import Derived.Test.YtmedepnfpiheoaaVerC
set_option autoImplicit false
namespace Go.Proofs.Ytmedepnfpiheoaa.verifyMore
open Go Go.ChangeShapes Go.WideShapes Go.ChangeAt Go.RowKit Go.Abs
theorem own : ownKnob Try.prog.godebug = none := by kernel_rfl
theorem laidOut : laidOutB Try.prog = true := by kernel_rfl
def specs5 : List (Bool × List Sh) := [(true, unitSh), (false, [.int .u8])]
theorem all (xs : List AV) (h : okArgs specs5 xs) : CT Try.prog false 5 xs [] fun v _ => v = .bool true := by
  simp only [specs5, okArgs, okA] at h
  obtain ⟨_, _, rfl, ⟨ys, rfl, hy⟩, _, _, rfl, h2, rfl⟩ := h
  obtain ⟨u, rfl, hu⟩ := unit_ok hy
  obtain ⟨_, e, h2⟩ := h2
  cases e
  simp only [okS] at h2
  obtain ⟨n, rfl, h3⟩ := h2
  obtain ⟨m, hm, rfl⟩ : ∃ m : Nat, m < 256 ∧ n = Int.ofNat m := by
    simp [Lit.wf, IntKind.min, IntKind.max, IntKind.signed, IntKind.bits] at h3
    refine ⟨n.toNat, by omega, ?_⟩
    show n = (n.toNat : Int)
    omega
  exact fun s hs => (more5 hu hm s hs).mono fun w s2 _ ⟨K2, h1, h2, _, h3⟩ => ⟨K2, h1, h2, h3⟩
theorem lifted (os : Os) (started : os.Started) (H : Type) (enc : TypeId × Value → H) :
    ReturnsInHanded {} Try.checked os 5 .any (Rows.verifyMoreSpec.pre6 enc Try.prog Try.f5 Rows.verifyMoreRow.domain false) (Rows.verifyMoreSpec.post enc Try.prog Try.f5 false true false false) := by
  refine returnsInHanded_of_change (C := Try.checked) own started (by kernel_rfl) Try.func5
    (ChangeSpec.witness6 (enc := enc) (C := Try.checked) false ⟨#[], #[.agg #[.string ByteArray.empty, .int .i64 0, .slice none 0 0, .int .i64 0, .slice none 0 0], .int .u8 0], []⟩ 8 (by kernel_rfl) (by kernel_rfl) (by kernel_rfl) (by kernel_rfl)) ?_
  intro W base args ds gs before hval hW hcnd _
  exact law_contractM laidOut rfl (by kernel_rfl) (rt := 4) rfl (by kernel_rfl) (fun ds h => by match ds, h with | [a, b], _ => rfl) (specs := specs5) (by kernel_rfl) all W base args ds gs before hval hW
theorem over : Rows.verifyMoreRow.holds Try.pinned (OpenSpec.ofChange Rows.verifyMoreSpec) :=
  OpenClaim.holds_of_wide 5 Try.f5 rfl rfl rfl rfl rfl rfl rfl ⟨rfl, rfl, rfl, rfl, rfl⟩ rfl rfl rfl rfl rfl (by kernel_rfl) Try.func5 (by kernel_rfl)
    (of_decide_eq_true (by kernel_rfl)) (by unfold Func.isWrapper; first | (rw [if_pos (by decide +kernel)]; kernel_rfl) | (rw [if_neg (by decide +kernel)]; exact ⟨rfl, rfl⟩))
    (fun os started H enc _ => lifted os started H enc)
end Go.Proofs.Ytmedepnfpiheoaa.verifyMore
namespace Go.Proofs.Ytmedepnfpiheoaa
theorem verifyMore_holds : Rows.VerifyMoreSaid := verifyMore.over
#print axioms verifyMore_holds
end Go.Proofs.Ytmedepnfpiheoaa
