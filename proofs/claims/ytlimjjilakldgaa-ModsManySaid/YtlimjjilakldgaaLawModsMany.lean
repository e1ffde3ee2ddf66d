/- No more modules than may be are taken; their names are told in order, each once: ModsMany answers true. Conditions: none. -/
import Derived.Test.YtlimjjilakldgaaModM
import Derived.Test.YtlimjjilakldgaaAbsLaw
set_option autoImplicit false
set_option maxRecDepth 100000
namespace Go.Proofs.Ytlimjjilakldgaa.modsMany
open Go Go.ChangeShapes Go.WideShapes Go.ChangeAt Go.RowKit Go.Abs
theorem own : ownKnob Try.prog.godebug = none := by kernel_rfl
theorem laidOut : laidOutB Try.prog = true := by kernel_rfl
theorem maxLen_eq : maxLen = 9223372036854775807 := by decide
abbrev specs : List (Bool × List Sh) := [(false, [.slc [.str]])]
theorem str_rows {rows : List (List AV)} (h : ∀ r, r ∈ rows → okL [.str] r) : ∃ l : List (List Nat), rows = l.map txR ∧ ∀ s, s ∈ l → Txt s := by
  induction rows with
  | nil => exact ⟨[], rfl, fun _ h => by cases h⟩
  | cons r rows ih =>
    obtain ⟨l, rfl, hl⟩ := ih fun r hr => h r (List.mem_cons_of_mem _ hr)
    have := h r (by simp)
    simp only [okL, okS] at this
    obtain ⟨_, _, rfl, ⟨a, rfl, h1, h2⟩, rfl⟩ := this
    rw [maxLen_eq] at h1
    refine ⟨a :: l, rfl, fun s hs => ?_⟩
    rcases List.mem_cons.1 hs with rfl | hs
    · exact ⟨h1, h2⟩
    · exact hl s hs
theorem all (xs : List AV) (h : okArgs specs xs) : CT Try.prog false 5 xs [] fun v _ => v = .bool true := by
  simp only [okArgs, okA] at h
  obtain ⟨_, _, rfl, ⟨_, e1, h1⟩, rfl⟩ := h
  cases e1
  obtain ⟨r1, a1, l1, k1⟩ := ASl.of h1
  obtain ⟨ns, rfl, hns⟩ := str_rows k1
  rw [List.length_map, maxLen_eq] at l1
  exact many5 a1 l1 hns
theorem lifted (os : Os) (started : os.Started) (H : Type) (enc : TypeId × Value → H) :
    ReturnsInHanded {} Try.checked os 5 .any (Rows.modsManySpec.pre6 enc Try.prog Try.f5 Rows.modsManyRow.domain false) (Rows.modsManySpec.post enc Try.prog Try.f5 false true false false) := by
  refine returnsInHanded_of_change (C := Try.checked) own started (by kernel_rfl) Try.func5
    (ChangeSpec.witness6 (enc := enc) (C := Try.checked) false ⟨#[], #[.slice none 0 0], []⟩ 8 (by kernel_rfl) (by kernel_rfl) (by kernel_rfl) (by kernel_rfl)) ?_
  intro W base args ds gs before hval hW hcnd _
  exact law_contractM laidOut rfl (by kernel_rfl) (rt := 4) rfl (by kernel_rfl) (fun ds h => by match ds, h with | [a], _ => rfl) (specs := specs) (by kernel_rfl) all W base args ds gs before hval hW
theorem over : Rows.modsManyRow.holds Try.pinned (OpenSpec.ofChange Rows.modsManySpec) :=
  OpenClaim.holds_of_wide 5 Try.f5 rfl rfl rfl rfl rfl rfl rfl ⟨rfl, rfl, rfl, rfl, rfl⟩ rfl rfl rfl rfl rfl (by kernel_rfl) Try.func5 (by kernel_rfl)
    (of_decide_eq_true (by kernel_rfl)) (by unfold Func.isWrapper; first | (rw [if_pos (by decide +kernel)]; kernel_rfl) | (rw [if_neg (by decide +kernel)]; exact ⟨rfl, rfl⟩))
    (fun os started H enc _ => lifted os started H enc)
end Go.Proofs.Ytlimjjilakldgaa.modsMany
namespace Go.Proofs.Ytlimjjilakldgaa
theorem modsMany_holds : Rows.ModsManySaid := modsMany.over
#print axioms modsMany_holds
end Go.Proofs.Ytlimjjilakldgaa
