/- A module's current unit has the highest version that was added, and its old one, if any, the one ahead: ModsVersions answers true. Conditions: none. -/
import Derived.Test.YtlimjjilakldgaaModK
import Derived.Test.YtlimjjilakldgaaAbsLaw
set_option autoImplicit false
set_option maxRecDepth 100000
namespace Go.Proofs.Ytlimjjilakldgaa.modsVersions
open Go Go.ChangeShapes Go.WideShapes Go.ChangeAt Go.RowKit Go.Abs
theorem own : ownKnob Try.prog.godebug = none := by kernel_rfl
theorem laidOut : laidOutB Try.prog = true := by kernel_rfl
theorem maxLen_eq : maxLen = 9223372036854775807 := by decide
abbrev specs : List (Bool × List Sh) := [(false, [.str]), (false, [.slc [.int .i64]]), (false, [.slc [.bool]])]
theorem int_rows {rows : List (List AV)} (h : ∀ r, r ∈ rows → okL [.int .i64] r) : ∃ l : List Int, rows = l.map fun a => [.int .i64 a] := by
  induction rows with
  | nil => exact ⟨[], rfl⟩
  | cons r rows ih =>
    obtain ⟨l, rfl⟩ := ih fun r hr => h r (List.mem_cons_of_mem _ hr)
    have := h r (by simp)
    simp only [okL, okS] at this
    obtain ⟨_, _, rfl, ⟨a, rfl, _⟩, rfl⟩ := this
    exact ⟨a :: l, rfl⟩
theorem bool_rows {rows : List (List AV)} (h : ∀ r, r ∈ rows → okL [.bool] r) : ∃ l : List Bool, rows = l.map rowB := by
  induction rows with
  | nil => exact ⟨[], rfl⟩
  | cons r rows ih =>
    obtain ⟨l, rfl⟩ := ih fun r hr => h r (List.mem_cons_of_mem _ hr)
    have := h r (by simp)
    simp only [okL, okS] at this
    obtain ⟨_, _, rfl, ⟨a, rfl⟩, rfl⟩ := this
    exact ⟨a :: l, rfl⟩
theorem all (xs : List AV) (h : okArgs specs xs) : CT Try.prog false 3 xs [] fun v _ => v = .bool true := by
  simp only [okArgs, okA] at h
  obtain ⟨_, _, rfl, ⟨_, e1, h1⟩, _, _, rfl, ⟨_, e2, h2⟩, _, _, rfl, ⟨_, e3, h3⟩, rfl⟩ := h
  cases e1; cases e2; cases e3
  simp only [okS] at h1
  obtain ⟨s, rfl, hl, hs⟩ := h1
  obtain ⟨r2, a2, l2, k2⟩ := ASl.of h2
  obtain ⟨r3, a3, l3, k3⟩ := ASl.of h3
  obtain ⟨vs, rfl⟩ := int_rows k2
  obtain ⟨ps, rfl⟩ := bool_rows k3
  rw [List.length_map, maxLen_eq] at l2 l3
  rw [maxLen_eq] at hl
  exact versions3 ⟨hl, hs⟩ a2 l2 a3 l3
theorem lifted (os : Os) (started : os.Started) (H : Type) (enc : TypeId × Value → H) :
    ReturnsInHanded {} Try.checked os 3 .any (Rows.modsVersionsSpec.pre6 enc Try.prog Try.f3 Rows.modsVersionsRow.domain false) (Rows.modsVersionsSpec.post enc Try.prog Try.f3 false true false false) := by
  refine returnsInHanded_of_change (C := Try.checked) own started (by kernel_rfl) Try.func3
    (ChangeSpec.witness6 (enc := enc) (C := Try.checked) false ⟨#[], #[.string ByteArray.empty, .slice none 0 0, .slice none 0 0], []⟩ 8 (by kernel_rfl) (by kernel_rfl) (by kernel_rfl) (by kernel_rfl)) ?_
  intro W base args ds gs before hval hW hcnd _
  exact law_contractM laidOut rfl (by kernel_rfl) (rt := 4) rfl (by kernel_rfl) (fun ds h => by match ds, h with | [a, b, c], _ => rfl) (specs := specs) (by kernel_rfl) all W base args ds gs before hval hW
theorem over : Rows.modsVersionsRow.holds Try.pinned (OpenSpec.ofChange Rows.modsVersionsSpec) :=
  OpenClaim.holds_of_wide 3 Try.f3 rfl rfl rfl rfl rfl rfl rfl ⟨rfl, rfl, rfl, rfl, rfl⟩ rfl rfl rfl rfl rfl (by kernel_rfl) Try.func3 (by kernel_rfl)
    (of_decide_eq_true (by kernel_rfl)) (by unfold Func.isWrapper; first | (rw [if_pos (by decide +kernel)]; kernel_rfl) | (rw [if_neg (by decide +kernel)]; exact ⟨rfl, rfl⟩))
    (fun os started H enc _ => lifted os started H enc)
end Go.Proofs.Ytlimjjilakldgaa.modsVersions
namespace Go.Proofs.Ytlimjjilakldgaa
theorem modsVersions_holds : Rows.ModsVersionsSaid := modsVersions.over
#print axioms modsVersions_holds
end Go.Proofs.Ytlimjjilakldgaa
