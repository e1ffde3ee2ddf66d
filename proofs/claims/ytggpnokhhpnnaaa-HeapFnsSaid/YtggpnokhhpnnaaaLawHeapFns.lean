/- Closures are told as they were made, each by its own value; a cell that is set is no other one's: HeapFns answers true. Conditions: none. -/
import Derived.Test.YtggpnokhhpnnaaaHepD
import Derived.Test.YtggpnokhhpnnaaaAbsLaw
set_option autoImplicit false
set_option maxRecDepth 100000
set_option linter.unusedSimpArgs false
namespace Go.Proofs.Ytggpnokhhpnnaaa.heapFns
open Go Go.ChangeShapes Go.WideShapes Go.ChangeAt Go.RowKit Go.Abs
theorem own : ownKnob Try.prog.godebug = none := by kernel_rfl
theorem laidOut : laidOutB Try.prog = true := by kernel_rfl
theorem maxLen_eq : maxLen = 9223372036854775807 := by decide
abbrev cloSh : List Sh := [.int .i64, .int .i64, .slc [.int .i64]]
abbrev specs : List (Bool × List Sh) := [(false, [.slc cloSh]), (false, [.int .i64]), (true, [.int .i64, .int .i64, .str])]
theorem int_rows {rows : List (List AV)} (h : ∀ r, r ∈ rows → okL [.int .i64] r) : ∃ l : List Int, rows = l.map rowI := by
  induction rows with
  | nil => exact ⟨[], rfl⟩
  | cons r rows ih =>
    obtain ⟨l, rfl⟩ := ih fun r hr => h r (List.mem_cons_of_mem _ hr)
    have := h r (by simp)
    simp only [okL, okS] at this
    obtain ⟨_, _, rfl, ⟨a, rfl, _⟩, rfl⟩ := this
    exact ⟨a :: l, rfl⟩
theorem clo_ok {r : List AV} (h : okL cloSh r) : ∃ q : Clo, r = cloR q ∧ OkC q := by
  simp only [okL] at h
  obtain ⟨_, _, rfl, h1, _, _, rfl, h2, cv, _, rfl, h3, rfl⟩ := h
  simp only [okS] at h1 h2
  obtain ⟨u, rfl, _⟩ := h1
  obtain ⟨p, rfl, _⟩ := h2
  obtain ⟨rows, a, hl, hr⟩ := ASl.of h3
  obtain ⟨l, rfl⟩ := int_rows hr
  rw [List.length_map, maxLen_eq] at hl
  exact ⟨⟨u, p, cv, l⟩, rfl, a, hl⟩
theorem clo_rows {rows : List (List AV)} (h : ∀ r, r ∈ rows → okL cloSh r) : ∃ l : List Clo, rows = l.map cloR ∧ ∀ q, q ∈ l → OkC q := by
  induction rows with
  | nil => exact ⟨[], rfl, by simp⟩
  | cons r rows ih =>
    obtain ⟨l, rfl, h2⟩ := ih fun r hr => h r (List.mem_cons_of_mem _ hr)
    obtain ⟨q, rfl, hq⟩ := clo_ok (h r (by simp))
    refine ⟨q :: l, rfl, fun p hp => ?_⟩
    rcases List.mem_cons.1 hp with rfl | hp
    · exact hq
    · exact h2 p hp
theorem all (xs : List AV) (h : okArgs specs xs) : CT Try.prog false 5 xs [] fun v _ => v = .bool true := by
  simp only [specs, okArgs, okA] at h
  obtain ⟨_, _, rfl, ⟨_, e1, h1⟩, _, _, rfl, ⟨_, e2, h2⟩, _, _, rfl, ⟨ys, rfl, hy⟩, rfl⟩ := h
  cases e1; cases e2
  obtain ⟨rows, a, hl, hr⟩ := ASl.of h1
  obtain ⟨l, rfl, hO⟩ := clo_rows hr
  rw [List.length_map, maxLen_eq] at hl
  simp only [okS] at h2
  obtain ⟨n, rfl, _⟩ := h2
  simp only [okL, okS] at hy
  obtain ⟨_, _, rfl, ⟨k, rfl, _⟩, _, _, rfl, ⟨m, rfl, _⟩, _, _, rfl, ⟨s, rfl, _⟩, rfl⟩ := hy
  exact fns5 (v := ⟨k, m, s⟩) a hO hl
theorem lifted (os : Os) (started : os.Started) (H : Type) (enc : TypeId × Value → H) :
    ReturnsInHanded {} Try.checked os 5 .any (Rows.heapFnsSpec.pre6 enc Try.prog Try.f5 Rows.heapFnsRow.domain false) (Rows.heapFnsSpec.post enc Try.prog Try.f5 false true false false) := by
  refine returnsInHanded_of_change (C := Try.checked) own started (by kernel_rfl) Try.func5
    (ChangeSpec.witness6 (enc := enc) (C := Try.checked) false ⟨#[], #[.slice none 0 0, .int .i64 0, .agg #[.int .i64 0, .int .i64 0, .string ByteArray.empty]], []⟩ 8 (by kernel_rfl) (by kernel_rfl) (by kernel_rfl) (by kernel_rfl)) ?_
  intro W base args ds gs before hval hW hcnd _
  exact law_contractM laidOut rfl (by kernel_rfl) (rt := 4) rfl (by kernel_rfl) (fun ds h => by match ds, h with | [a, b, c], _ => rfl) (specs := specs) (by kernel_rfl) all W base args ds gs before hval hW
theorem over : Rows.heapFnsRow.holds Try.pinned (OpenSpec.ofChange Rows.heapFnsSpec) :=
  OpenClaim.holds_of_wide 5 Try.f5 rfl rfl rfl rfl rfl rfl rfl ⟨rfl, rfl, rfl, rfl, rfl⟩ rfl rfl rfl rfl rfl (by kernel_rfl) Try.func5 (by kernel_rfl)
    (of_decide_eq_true (by kernel_rfl)) (by unfold Func.isWrapper; first | (rw [if_pos (by decide +kernel)]; kernel_rfl) | (rw [if_neg (by decide +kernel)]; exact ⟨rfl, rfl⟩))
    (fun os started H enc _ => lifted os started H enc)
end Go.Proofs.Ytggpnokhhpnnaaa.heapFns
namespace Go.Proofs.Ytggpnokhhpnnaaa
theorem heapFns_holds : Rows.HeapFnsSaid := heapFns.over
#print axioms heapFns_holds
end Go.Proofs.Ytggpnokhhpnnaaa
