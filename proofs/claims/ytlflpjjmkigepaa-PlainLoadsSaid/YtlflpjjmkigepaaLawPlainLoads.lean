/- Whatever bytes are loaded, into heaps of whatever room: the value, and what the heap has then, are as the document says: PlainLoads answers true. Conditions: none. -/
import Derived.Test.YtlflpjjmkigepaaPlnG
import Derived.Test.YtlflpjjmkigepaaAbsLaw
set_option autoImplicit false
set_option maxRecDepth 100000
set_option linter.unusedSimpArgs false
namespace Go.Proofs.Ytlflpjjmkigepaa.plainLoads
open Go Go.ChangeShapes Go.WideShapes Go.ChangeAt Go.RowKit Go.Abs
theorem own : ownKnob Try.prog.godebug = none := by kernel_rfl
theorem laidOut : laidOutB Try.prog = true := by kernel_rfl
theorem maxLen_eq : maxLen = 9223372036854775807 := by decide
abbrev specs : List (Bool × List Sh) := [(false, [.int .i64]), (false, [.slc [.str]])]
theorem wf_rng {n : Int} (h : (Lit.int .i64 n).wf = true) : rng n := by
  simp only [Lit.wf, Bool.and_eq_true, decide_eq_true_eq] at h
  have e1 : IntKind.min .i64 = -9223372036854775808 := by decide
  have e2 : IntKind.max .i64 = 9223372036854775807 := by decide
  rw [e1, e2] at h
  unfold rng
  omega
theorem str_rows {rows : List (List AV)} (h : ∀ r, r ∈ rows → okL [.str] r) : ∃ l : List (List Nat), rows = l.map strR ∧ ∀ s, s ∈ l → ∀ x, x ∈ s → x < 256 := by
  induction rows with
  | nil => exact ⟨[], rfl, by simp⟩
  | cons r rows ih =>
    obtain ⟨l, rfl, h2⟩ := ih fun r hr => h r (List.mem_cons_of_mem _ hr)
    have := h r (by simp)
    simp only [okL, okS] at this
    obtain ⟨_, _, rfl, ⟨s, rfl, _, hs⟩, rfl⟩ := this
    refine ⟨s :: l, rfl, fun p hp => ?_⟩
    rcases List.mem_cons.1 hp with rfl | hp
    · exact hs
    · exact h2 p hp
theorem all (xs : List AV) (h : okArgs specs xs) : CT Try.prog true 5 xs [] fun v _ => v = .bool true := by
  simp only [okArgs, okA] at h
  obtain ⟨_, _, rfl, ⟨_, e0, h0⟩, _, _, rfl, ⟨_, e1, h1⟩, rfl⟩ := h
  cases e0
  cases e1
  simp only [okS] at h0
  obtain ⟨n, rfl, hn⟩ := h0
  obtain ⟨rows, a, hl, hr⟩ := ASl.of h1
  obtain ⟨l, rfl, hO⟩ := str_rows hr
  rw [List.length_map, maxLen_eq] at hl
  exact loads5 (wf_rng hn) a hO hl
theorem lifted (os : Os) (started : os.Started) (H : Type) (enc : TypeId × Value → H) :
    ReturnsInHanded {} Try.checked os 5 .any (Rows.plainLoadsSpec.pre6 enc Try.prog Try.f5 Rows.plainLoadsRow.domain false) (Rows.plainLoadsSpec.post enc Try.prog Try.f5 false true false false) := by
  refine returnsInHanded_of_change (C := Try.checked) own started (by kernel_rfl) Try.func5
    (ChangeSpec.witness6 (enc := enc) (C := Try.checked) false ⟨#[], #[.int .i64 0, .slice none 0 0], []⟩ 8 (by kernel_rfl) (by kernel_rfl) (by kernel_rfl) (by kernel_rfl)) ?_
  intro W base args ds gs before hval hW hcnd _
  exact law_contractM laidOut rfl (by kernel_rfl) (rt := 4) rfl (by kernel_rfl) (fun ds h => by match ds, h with | [a, b], _ => rfl) (specs := specs) (by kernel_rfl) all W base args ds gs before hval hW
theorem over : Rows.plainLoadsRow.holds Try.pinned (OpenSpec.ofChange Rows.plainLoadsSpec) :=
  OpenClaim.holds_of_wide 5 Try.f5 rfl rfl rfl rfl rfl rfl rfl ⟨rfl, rfl, rfl, rfl, rfl⟩ rfl rfl rfl rfl rfl (by kernel_rfl) Try.func5 (by kernel_rfl)
    (of_decide_eq_true (by kernel_rfl)) (by unfold Func.isWrapper; first | (rw [if_pos (by decide +kernel)]; kernel_rfl) | (rw [if_neg (by decide +kernel)]; exact ⟨rfl, rfl⟩))
    (fun os started H enc _ => lifted os started H enc)
end Go.Proofs.Ytlflpjjmkigepaa.plainLoads
namespace Go.Proofs.Ytlflpjjmkigepaa
theorem plainLoads_holds : Rows.PlainLoadsSaid := plainLoads.over
#print axioms plainLoads_holds
end Go.Proofs.Ytlflpjjmkigepaa
