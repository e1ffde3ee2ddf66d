/- What was saved is loaded as it was: saved anew it has the same bytes; the heap uses just as much more as is needed, and its old tables are as they were: PlainBack answers true. Conditions: none. -/
import Derived.Test.YtlflpjjmkigepaaPlnH
import Derived.Test.YtlflpjjmkigepaaAbsLaw
set_option autoImplicit false
set_option maxRecDepth 100000
set_option linter.unusedSimpArgs false
namespace Go.Proofs.Ytlflpjjmkigepaa.plainBack
open Go Go.ChangeShapes Go.WideShapes Go.ChangeAt Go.RowKit Go.Abs
theorem own : ownKnob Try.prog.godebug = none := by kernel_rfl
theorem laidOut : laidOutB Try.prog = true := by kernel_rfl
theorem maxLen_eq : maxLen = 9223372036854775807 := by decide
abbrev opSh : List Sh := [.int .i64, .int .i64, .int .i64, .str, .int .i64, .int .i64, .str, .bool, .int .i64]
abbrev specs : List (Bool × List Sh) := [(false, [.slc opSh]), (false, [.int .i64])]
theorem wf_rng {n : Int} (h : (Lit.int .i64 n).wf = true) : rng n := by
  simp only [Lit.wf, Bool.and_eq_true, decide_eq_true_eq] at h
  have e1 : IntKind.min .i64 = -9223372036854775808 := by decide
  have e2 : IntKind.max .i64 = 9223372036854775807 := by decide
  rw [e1, e2] at h
  unfold rng
  omega
theorem op_ok {r : List AV} (h : okL opSh r) : ∃ o : PO, r = poR o ∧ o.ok := by
  simp only [okL] at h
  obtain ⟨x0, _, rfl, h0, x1, _, rfl, h1, x2, _, rfl, h2, x3, _, rfl, h3, x4, _, rfl, h4, x5, _, rfl, h5, x6, _, rfl, h6, x7, _, rfl, h7, x8, _, rfl, h8, rfl⟩ := h
  simp only [okS] at h0 h1 h2 h3 h4 h5 h6 h7 h8
  obtain ⟨n0, rfl, w0⟩ := h0
  obtain ⟨n1, rfl, w1⟩ := h1
  obtain ⟨n2, rfl, w2⟩ := h2
  obtain ⟨n3, rfl, _, w3⟩ := h3
  obtain ⟨n4, rfl, w4⟩ := h4
  obtain ⟨n5, rfl, w5⟩ := h5
  obtain ⟨n6, rfl, _, w6⟩ := h6
  obtain ⟨n7, rfl⟩ := h7
  obtain ⟨n8, rfl, w8⟩ := h8
  exact ⟨⟨n0, ⟨n1, n2, n3⟩, ⟨n4, n5, n6⟩, n7, n8⟩, rfl, ⟨wf_rng w0, wf_rng w8, wf_rng w2, wf_rng w5, w3, w6⟩⟩
theorem op_rows {rows : List (List AV)} (h : ∀ r, r ∈ rows → okL opSh r) : ∃ l : List PO, rows = l.map poR ∧ ∀ o, o ∈ l → o.ok := by
  induction rows with
  | nil => exact ⟨[], rfl, by simp⟩
  | cons r rows ih =>
    obtain ⟨l, rfl, h2⟩ := ih fun r hr => h r (List.mem_cons_of_mem _ hr)
    obtain ⟨q, rfl, hq⟩ := op_ok (h r (by simp))
    refine ⟨q :: l, rfl, fun p hp => ?_⟩
    rcases List.mem_cons.1 hp with rfl | hp
    · exact hq
    · exact h2 p hp
theorem all (xs : List AV) (h : okArgs specs xs) : CT Try.prog true 6 xs [] fun v _ => v = .bool true := by
  simp only [okArgs, okA] at h
  obtain ⟨_, _, rfl, ⟨_, e1, h1⟩, _, _, rfl, ⟨_, e2, h2⟩, rfl⟩ := h
  cases e1
  cases e2
  obtain ⟨rows, a, hl, hr⟩ := ASl.of h1
  obtain ⟨l, rfl, hO⟩ := op_rows hr
  rw [List.length_map, maxLen_eq] at hl
  simp only [okS] at h2
  obtain ⟨n, rfl, hn⟩ := h2
  exact back6 a hO hl (wf_rng hn)
theorem lifted (os : Os) (started : os.Started) (H : Type) (enc : TypeId × Value → H) :
    ReturnsInHanded {} Try.checked os 6 .any (Rows.plainBackSpec.pre6 enc Try.prog Try.f6 Rows.plainBackRow.domain false) (Rows.plainBackSpec.post enc Try.prog Try.f6 false true false false) := by
  refine returnsInHanded_of_change (C := Try.checked) own started (by kernel_rfl) Try.func6
    (ChangeSpec.witness6 (enc := enc) (C := Try.checked) false ⟨#[], #[.slice none 0 0, .int .i64 0], []⟩ 8 (by kernel_rfl) (by kernel_rfl) (by kernel_rfl) (by kernel_rfl)) ?_
  intro W base args ds gs before hval hW hcnd _
  exact law_contractM laidOut rfl (by kernel_rfl) (rt := 4) rfl (by kernel_rfl) (fun ds h => by match ds, h with | [a, b], _ => rfl) (specs := specs) (by kernel_rfl) all W base args ds gs before hval hW
theorem over : Rows.plainBackRow.holds Try.pinned (OpenSpec.ofChange Rows.plainBackSpec) :=
  OpenClaim.holds_of_wide 6 Try.f6 rfl rfl rfl rfl rfl rfl rfl ⟨rfl, rfl, rfl, rfl, rfl⟩ rfl rfl rfl rfl rfl (by kernel_rfl) Try.func6 (by kernel_rfl)
    (of_decide_eq_true (by kernel_rfl)) (by unfold Func.isWrapper; first | (rw [if_pos (by decide +kernel)]; kernel_rfl) | (rw [if_neg (by decide +kernel)]; exact ⟨rfl, rfl⟩))
    (fun os started H enc _ => lifted os started H enc)
end Go.Proofs.Ytlflpjjmkigepaa.plainBack
namespace Go.Proofs.Ytlflpjjmkigepaa
theorem plainBack_holds : Rows.PlainBackSaid := plainBack.over
#print axioms plainBack_holds
end Go.Proofs.Ytlflpjjmkigepaa
