/- Whatever is added, set, purged, found and copied, answers and modules are as the document says: ModsPlays answers true. Conditions: none. -/
import Derived.Test.YtlimjjilakldgaaGreatPlnH
import Derived.Test.YtlimjjilakldgaaGreatAbsLaw
set_option autoImplicit false
set_option maxRecDepth 100000
set_option linter.unusedVariables false
set_option linter.unusedSimpArgs false
namespace Go.Proofs.YtlimjjilakldgaaGreat
open Go Go.Abs
theorem pull {α : Type} {f : α → List AV} {R : α → Prop} : ∀ {rows : List (List AV)}, (∀ r, r ∈ rows → ∃ x, r = f x ∧ R x) → ∃ l : List α, rows = l.map f ∧ ∀ x, x ∈ l → R x
 | [], _ => ⟨[], rfl, by simp⟩
 | r :: rs, h => by
  obtain ⟨x, rfl, hx⟩ := h r (by simp)
  obtain ⟨l, rfl, hl⟩ := pull (fun r hr => h r (List.mem_cons_of_mem _ hr))
  exact ⟨x :: l, rfl, fun y hy => by rcases List.mem_cons.1 hy with rfl | hy; exact hx; exact hl y hy⟩
theorem maxLen_eq : maxLen = 9223372036854775807 := by decide
def insSh : List Sh := [.int .i64, .int .i64, .int .i64, .int .i64]
def valSh : List Sh := [.int .i64, .int .i64, .str]
def capSh : List Sh := [.bool, .int .i64]
def protoSh : List Sh := [.str, .int .i64, .int .i64, .slc insSh, .slc valSh, .slc capSh]
def useSh : List Sh := [.str, .str, .int .i64]
def unitSh : List Sh := [.str, .int .i64, .slc useSh, .int .i64, .slc protoSh]
theorem ins_ok {r : List AV} (h : okL insSh r) : ∃ x : Ins, r = insR x ∧ True := by
 simp only [insSh, okL, okS] at h
 obtain ⟨_, _, rfl, ⟨a, rfl, _⟩, _, _, rfl, ⟨b, rfl, _⟩, _, _, rfl, ⟨c, rfl, _⟩, _, _, rfl, ⟨d, rfl, _⟩, rfl⟩ := h
 exact ⟨⟨a, b, c, d⟩, rfl, trivial⟩
theorem val_ok {r : List AV} (h : okL valSh r) : ∃ x : Val, r = valR x ∧ True := by
 simp only [valSh, okL, okS] at h
 obtain ⟨_, _, rfl, ⟨a, rfl, _⟩, _, _, rfl, ⟨b, rfl, _⟩, _, _, rfl, ⟨c, rfl, _⟩, rfl⟩ := h
 exact ⟨⟨a, b, c⟩, rfl, trivial⟩
theorem cap_ok {r : List AV} (h : okL capSh r) : ∃ x : Cap, r = capR x ∧ True := by
 simp only [capSh, okL, okS] at h
 obtain ⟨_, _, rfl, ⟨a, rfl⟩, _, _, rfl, ⟨b, rfl, _⟩, rfl⟩ := h
 exact ⟨⟨a, b⟩, rfl, trivial⟩
theorem use_ok {r : List AV} (h : okL useSh r) : ∃ x : Use, r = useR x ∧ Txt x.m ∧ Txt x.n := by
 simp only [useSh, okL, okS] at h
 obtain ⟨_, _, rfl, ⟨a, rfl, a1, a2⟩, _, _, rfl, ⟨b, rfl, b1, b2⟩, _, _, rfl, ⟨c, rfl, _⟩, rfl⟩ := h
 rw [maxLen_eq] at a1 b1
 exact ⟨⟨a, b, c⟩, rfl, ⟨a1, a2⟩, ⟨b1, b2⟩⟩
theorem proto_ok {r : List AV} (h : okL protoSh r) : ∃ p : Proto, r = protoR p ∧ OkP p := by
 simp only [protoSh, okL] at h
 obtain ⟨_, _, rfl, h1, _, _, rfl, h2, _, _, rfl, h3, cv, _, rfl, h4, kv, _, rfl, h5, pv, _, rfl, h6, rfl⟩ := h
 obtain ⟨r4, s4, l4, k4⟩ := ASl.of h4
 obtain ⟨r5, s5, l5, k5⟩ := ASl.of h5
 obtain ⟨r6, s6, l6, k6⟩ := ASl.of h6
 obtain ⟨c, rfl, _⟩ := pull fun r hr => ins_ok (k4 r hr)
 obtain ⟨k, rfl, _⟩ := pull fun r hr => val_ok (k5 r hr)
 obtain ⟨p, rfl, _⟩ := pull fun r hr => cap_ok (k6 r hr)
 simp only [okS] at h1 h2 h3
 obtain ⟨nm, rfl, n1, n2⟩ := h1
 obtain ⟨a, rfl, _⟩ := h2
 obtain ⟨b, rfl, _⟩ := h3
 rw [maxLen_eq] at n1 l4 l5 l6
 rw [List.length_map] at l4 l5 l6
 exact ⟨⟨nm, a, b, cv, c, kv, k, pv, p⟩, rfl, ⟨⟨n1, n2⟩, s4, s5, s6, l4, l5, l6⟩⟩
theorem unit_ok {r : List AV} (h : okL unitSh r) : ∃ u : Unt, r = unitR u ∧ OkU u := by
 simp only [unitSh, okL] at h
 obtain ⟨_, _, rfl, h1, _, _, rfl, h2, cv, _, rfl, h3, _, _, rfl, h4, pv, _, rfl, h5, rfl⟩ := h
 obtain ⟨r3, s3, l3, k3⟩ := ASl.of h3
 obtain ⟨r5, s5, l5, k5⟩ := ASl.of h5
 obtain ⟨c, rfl, hc⟩ := pull fun r hr => use_ok (k3 r hr)
 obtain ⟨p, rfl, hp⟩ := pull fun r hr => proto_ok (k5 r hr)
 simp only [okS] at h1 h2 h4
 obtain ⟨nm, rfl, n1, n2⟩ := h1
 obtain ⟨a, rfl, _⟩ := h2
 obtain ⟨b, rfl, _⟩ := h4
 rw [maxLen_eq] at n1 l3 l5
 rw [List.length_map] at l3 l5
 exact ⟨⟨nm, a, cv, c, b, pv, p⟩, rfl, ⟨⟨n1, n2⟩, s3, s5, l3, l5, hc, hp⟩⟩
def opSh : List Sh := [.int .i64, .str, .int .i64, .slc useSh, .int .i64, .slc protoSh, .str, .str, .str, .int .i64]
theorem op_ok {r : List AV} (h : okL opSh r) : ∃ o : OpM, r = opR o ∧ OkX o := by
 simp only [opSh, okL] at h
 obtain ⟨_, _, rfl, h0, _, _, rfl, h1, _, _, rfl, h2, cv, _, rfl, h3, _, _, rfl, h4, pv, _, rfl, h5, _, _, rfl, h6, _, _, rfl, h7, _, _, rfl, h8, _, _, rfl, h9, rfl⟩ := h
 obtain ⟨u, hu, hok⟩ := unit_ok (r := [_, _, _, _, _]) (by simp only [unitSh, okL]; exact ⟨_, _, rfl, h1, _, _, rfl, h2, _, _, rfl, h3, _, _, rfl, h4, _, _, rfl, h5, rfl⟩)
 simp only [okS] at h0 h6 h7 h8 h9
 obtain ⟨k, rfl, _⟩ := h0
 obtain ⟨nm, rfl, n1, n2⟩ := h6
 obtain ⟨st, rfl, s1, s2⟩ := h7
 obtain ⟨fn, rfl, f1, f2⟩ := h8
 obtain ⟨n, rfl, _⟩ := h9
 rw [maxLen_eq] at n1 s1 f1
 simp only [unitR, List.cons.injEq, and_true] at hu
 obtain ⟨e1, e2, e3, e4, e5⟩ := hu
 exact ⟨⟨k, u, nm, st, fn, n⟩, by simp only [opR, e1, e2, e3, e4, e5], ⟨hok, ⟨n1, n2⟩, ⟨s1, s2⟩, ⟨f1, f2⟩⟩⟩
end Go.Proofs.YtlimjjilakldgaaGreat
namespace Go.Proofs.YtlimjjilakldgaaGreat.modsPlays
open Go Go.ChangeShapes Go.WideShapes Go.ChangeAt Go.RowKit Go.Abs
theorem own : ownKnob Try.prog.godebug = none := by kernel_rfl
theorem laidOut : laidOutB Try.prog = true := by kernel_rfl
abbrev specs : List (Bool × List Sh) := [(false, [.slc opSh])]
theorem all (xs : List AV) (h : okArgs specs xs) : CT Try.prog true 3 xs [] fun v _ => v = .bool true := by
 simp only [okArgs, okA] at h
 obtain ⟨_, _, rfl, ⟨_, e1, h1⟩, rfl⟩ := h
 cases e1
 obtain ⟨r1, a1, l1, k1⟩ := ASl.of h1
 obtain ⟨os, rfl, hos⟩ := pull fun r hr => op_ok (k1 r hr)
 rw [List.length_map, maxLen_eq] at l1
 exact plays3 a1 l1 hos
theorem lifted (os : Os) (started : os.Started) (H : Type) (enc : TypeId × Value → H) :
  ReturnsInHanded {} Tryz.checked os 3 .any (Rows.modsPlaysSpec.pre6 enc Try.prog Tryz.f3 Rows.modsPlaysRow.domain false) (Rows.modsPlaysSpec.post enc Try.prog Tryz.f3 false true false false) := by
 refine returnsInHanded_of_change (C := Tryz.checked) own started (by kernel_rfl) Tryz.func3
  (ChangeSpec.witness6 (enc := enc) (C := Tryz.checked) false ⟨#[], #[.slice none 0 0], []⟩ 8 (by kernel_rfl) (by kernel_rfl) (by kernel_rfl) (by kernel_rfl)) ?_
 intro W base args ds gs before hval hW hcnd _
 exact law_contractM laidOut rfl (by kernel_rfl) (rt := 4) rfl (by kernel_rfl) (fun ds h => by match ds, h with | [a], _ => rfl) (specs := specs) (by kernel_rfl) all W base args ds gs before hval hW
theorem over : Rows.modsPlaysRow.holds Tryz.pinned (OpenSpec.ofChange Rows.modsPlaysSpec) :=
 OpenClaim.holds_of_wide 3 Tryz.f3 rfl rfl rfl rfl rfl rfl rfl ⟨rfl, rfl, rfl, rfl, rfl⟩ rfl rfl rfl rfl rfl (by kernel_rfl) Tryz.func3 (by kernel_rfl)
  (of_decide_eq_true (by kernel_rfl)) (by unfold Func.isWrapper; first | (rw [if_pos (by decide +kernel)]; kernel_rfl) | (rw [if_neg (by decide +kernel)]; exact ⟨rfl, rfl⟩))
  (fun os started H enc _ => lifted os started H enc)
end Go.Proofs.YtlimjjilakldgaaGreat.modsPlays
namespace Go.Proofs.YtlimjjilakldgaaGreat
theorem modsPlays_holds : Rows.ModsPlaysSaid := modsPlays.over
#print axioms modsPlays_holds
end Go.Proofs.YtlimjjilakldgaaGreat
