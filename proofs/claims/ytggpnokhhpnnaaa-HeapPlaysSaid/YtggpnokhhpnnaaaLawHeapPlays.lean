/- Whatever objects are made, put, got, set, read and copied, answers, and what is used, are as the document says: HeapPlays answers true. Conditions: none. -/
import Derived.Test.YtggpnokhhpnnaaaHepT
import Derived.Test.YtggpnokhhpnnaaaAbsLaw
set_option autoImplicit false
set_option maxRecDepth 100000
set_option linter.unusedSimpArgs false
namespace Go.Proofs.Ytggpnokhhpnnaaa.heapPlays
open Go Go.ChangeShapes Go.WideShapes Go.ChangeAt Go.RowKit Go.Abs
theorem own : ownKnob Try.prog.godebug = none := by kernel_rfl
theorem laidOut : laidOutB Try.prog = true := by kernel_rfl
theorem maxLen_eq : maxLen = 9223372036854775807 := by decide
abbrev opSh : List Sh := [.int .i64, .int .i64, .int .i64, .str, .int .i64, .int .i64, .str, .int .i64, .int .i64, .str, .int .i64, .int .i64, .slc [.int .i64], .int .i64]
abbrev specs : List (Bool × List Sh) := [(false, [.int .i64]), (false, [.slc opSh])]
theorem int_rows {rows : List (List AV)} (h : ∀ r, r ∈ rows → okL [.int .i64] r) : ∃ l : List Int, rows = l.map rowI := by
  induction rows with
  | nil => exact ⟨[], rfl⟩
  | cons r rows ih =>
    obtain ⟨l, rfl⟩ := ih fun r hr => h r (List.mem_cons_of_mem _ hr)
    have := h r (by simp)
    simp only [okL, okS] at this
    obtain ⟨_, _, rfl, ⟨a, rfl, _⟩, rfl⟩ := this
    exact ⟨a :: l, rfl⟩
theorem op_ok {r : List AV} (h : okL opSh r) : ∃ o : OpS, r = opS o ∧ OkP o := by
  simp only [okL] at h
  obtain ⟨x0, _, rfl, h0, x1, _, rfl, h1, x2, _, rfl, h2, x3, _, rfl, h3, x4, _, rfl, h4, x5, _, rfl, h5, x6, _, rfl, h6, x7, _, rfl, h7, x8, _, rfl, h8, x9, _, rfl, h9, xa, _, rfl, ha, xb, _, rfl, hb, xc, _, rfl, hc, xd, _, rfl, hd, rfl⟩ := h
  simp only [okS] at h0 h1 h2 h3 h4 h5 h6 h7 h8 h9 ha hb hd
  obtain ⟨n0, rfl, _⟩ := h0
  obtain ⟨n1, rfl, _⟩ := h1
  obtain ⟨n2, rfl, _⟩ := h2
  obtain ⟨n3, rfl, _⟩ := h3
  obtain ⟨n4, rfl, _⟩ := h4
  obtain ⟨n5, rfl, _⟩ := h5
  obtain ⟨n6, rfl, hl, _⟩ := h6
  obtain ⟨n7, rfl, _⟩ := h7
  obtain ⟨n8, rfl, _⟩ := h8
  obtain ⟨n9, rfl, _⟩ := h9
  obtain ⟨na, rfl, _⟩ := ha
  obtain ⟨nb, rfl, _⟩ := hb
  obtain ⟨nd, rfl, _⟩ := hd
  obtain ⟨rows, a, _, hr⟩ := ASl.of hc
  obtain ⟨l, rfl⟩ := int_rows hr
  exact ⟨⟨n0, ⟨n1, n2, n3⟩, ⟨n4, n5, n6⟩, ⟨n7, n8, n9⟩, na, nb, xc, l, nd⟩, rfl, ⟨a⟩⟩
theorem op_rows {rows : List (List AV)} (h : ∀ r, r ∈ rows → okL opSh r) : ∃ l : List OpS, rows = l.map opS ∧ ∀ o, o ∈ l → OkP o := by
  induction rows with
  | nil => exact ⟨[], rfl, by simp⟩
  | cons r rows ih =>
    obtain ⟨l, rfl, h2⟩ := ih fun r hr => h r (List.mem_cons_of_mem _ hr)
    obtain ⟨q, rfl, hq⟩ := op_ok (h r (by simp))
    refine ⟨q :: l, rfl, fun p hp => ?_⟩
    rcases List.mem_cons.1 hp with rfl | hp
    · exact hq
    · exact h2 p hp
theorem all (xs : List AV) (h : okArgs specs xs) : CT Try.prog true 6 xs [] fun v _ => v = .bool true := by
  simp only [okArgs, okA] at h
  obtain ⟨_, _, rfl, ⟨_, e0, h0⟩, _, _, rfl, ⟨_, e1, h1⟩, rfl⟩ := h
  cases e0
  cases e1
  simp only [okS] at h0
  obtain ⟨n, rfl, _⟩ := h0
  obtain ⟨rows, a, hl, hr⟩ := ASl.of h1
  obtain ⟨l, rfl, hO⟩ := op_rows hr
  rw [List.length_map, maxLen_eq] at hl
  exact plays6 a hO hl
theorem lifted (os : Os) (started : os.Started) (H : Type) (enc : TypeId × Value → H) :
    ReturnsInHanded {} Try.checked os 6 .any (Rows.heapPlaysSpec.pre6 enc Try.prog Try.f6 Rows.heapPlaysRow.domain false) (Rows.heapPlaysSpec.post enc Try.prog Try.f6 false true false false) := by
  refine returnsInHanded_of_change (C := Try.checked) own started (by kernel_rfl) Try.func6
    (ChangeSpec.witness6 (enc := enc) (C := Try.checked) false ⟨#[], #[.int .i64 0, .slice none 0 0], []⟩ 8 (by kernel_rfl) (by kernel_rfl) (by kernel_rfl) (by kernel_rfl)) ?_
  intro W base args ds gs before hval hW hcnd _
  exact law_contractM laidOut rfl (by kernel_rfl) (rt := 4) rfl (by kernel_rfl) (fun ds h => by match ds, h with | [a, b], _ => rfl) (specs := specs) (by kernel_rfl) all W base args ds gs before hval hW
theorem over : Rows.heapPlaysRow.holds Try.pinned (OpenSpec.ofChange Rows.heapPlaysSpec) :=
  OpenClaim.holds_of_wide 6 Try.f6 rfl rfl rfl rfl rfl rfl rfl ⟨rfl, rfl, rfl, rfl, rfl⟩ rfl rfl rfl rfl rfl (by kernel_rfl) Try.func6 (by kernel_rfl)
    (of_decide_eq_true (by kernel_rfl)) (by unfold Func.isWrapper; first | (rw [if_pos (by decide +kernel)]; kernel_rfl) | (rw [if_neg (by decide +kernel)]; exact ⟨rfl, rfl⟩))
    (fun os started H enc _ => lifted os started H enc)
end Go.Proofs.Ytggpnokhhpnnaaa.heapPlays
namespace Go.Proofs.Ytggpnokhhpnnaaa
theorem heapPlays_holds : Rows.HeapPlaysSaid := heapPlays.over
#print axioms heapPlays_holds
end Go.Proofs.Ytggpnokhhpnnaaa
