/- A heap that is not there holds nothing: HeapNil answers true. Conditions: none. -/
import Derived.Test.YtggpnokhhpnnaaaRows
import Derived.Test.YtggpnokhhpnnaaaAbsLaw
set_option autoImplicit false
namespace Go.Proofs.Ytggpnokhhpnnaaa.heapNil
open Go Go.ChangeShapes Go.WideShapes Go.ChangeAt Go.RowKit Go.Abs

theorem own : ownKnob Try.prog.godebug = none := by kernel_rfl
theorem laidOut : laidOutB Try.prog = true := by kernel_rfl
theorem mixed : Try.prog.follows .mixedOrders = true := by kernel_rfl

/-- The evaluator with no stand-in. -/
theorem plain : Sound Try.prog (acall (comp Try.prog) (fun _ => none) 60) := acall_ok mixed (fun f g h => by cases h) 60
set_option maxRecDepth 100000 in
theorem known : ans (acall (comp Try.prog) (fun _ => none) 60 15 [] ⟨.e, 0⟩) = some (.bool true) := by kernel_rfl
/-- The evaluator with the closed checks told. -/
theorem sound : Sound Try.prog (acall (comp Try.prog) (single 15 (closed (.bool true))) 60) := acall_ok mixed (single_sound (closed_sound plain known rfl)) 60

set_option maxRecDepth 100000 in
theorem told (k1 v1 k2 v2 : Int) (k3 v3 : List Nat) (n : Int) :
    ans (acall (comp Try.prog) (single 15 (closed (.bool true))) 60 7 [.agg [.int .i64 k1, .int .i64 k2, .str k3], .agg [.int .i64 v1, .int .i64 v2, .str v3], .int .i64 n] ⟨.e, 0⟩) = some (.bool true) := by kernel_rfl

def specs : List (Bool × List Sh) := [(true, [.int .i64, .int .i64, .str]), (true, [.int .i64, .int .i64, .str]), (false, [.int .i64])]

theorem all (xs : List AV) (h : okArgs specs xs) : ans (acall (comp Try.prog) (single 15 (closed (.bool true))) 60 7 xs ⟨.e, 0⟩) = some (.bool true) := by
  simp only [specs, okArgs, okA, okL, okS] at h
  obtain ⟨_, _, rfl, ⟨_, rfl, _, _, rfl, ⟨k1, rfl, _⟩, _, _, rfl, ⟨k2, rfl, _⟩, _, _, rfl, ⟨k3, rfl, _⟩, rfl⟩, _, _, rfl, ⟨_, rfl, _, _, rfl, ⟨v1, rfl, _⟩, _, _, rfl, ⟨v2, rfl, _⟩, _, _, rfl, ⟨v3, rfl, _⟩, rfl⟩, _, _, rfl, ⟨_, he, hn⟩, rfl⟩ := h
  cases he
  simp only [okS] at hn
  obtain ⟨n, rfl, _⟩ := hn
  exact told k1 v1 k2 v2 k3 v3 n

set_option maxRecDepth 100000 in
theorem lifted (os : Os) (started : os.Started) (H : Type) (enc : TypeId × Value → H) :
    ReturnsInHanded {} Try.checked os 7 .any (Rows.heapNilSpec.pre6 enc Try.prog Try.f7 Rows.heapNilRow.domain false) (Rows.heapNilSpec.post enc Try.prog Try.f7 false true false false) := by
  refine returnsInHanded_of_change (C := Try.checked) own started (by kernel_rfl) Try.func7
    (ChangeSpec.witness6 (enc := enc) (C := Try.checked) false ⟨#[], #[.agg #[.int .i64 0, .int .i64 0, .string ByteArray.empty], .agg #[.int .i64 0, .int .i64 0, .string ByteArray.empty], .int .i64 0], []⟩ 8 (by kernel_rfl) (by kernel_rfl) (by kernel_rfl) (by kernel_rfl)) ?_
  intro W base args ds gs before hval hW hcnd _
  exact law_contract sound laidOut rfl (by kernel_rfl) (rt := 4) rfl (by kernel_rfl) (fun ds h => by match ds, h with | [a, b, c], _ => rfl) (specs := specs) (by kernel_rfl) all W base args ds gs before hval hW

theorem over : Rows.heapNilRow.holds Try.pinned (OpenSpec.ofChange Rows.heapNilSpec) :=
  OpenClaim.holds_of_wide 7 Try.f7 rfl rfl rfl rfl rfl rfl rfl ⟨rfl, rfl, rfl, rfl, rfl⟩ rfl rfl rfl rfl rfl (by kernel_rfl) Try.func7 (by kernel_rfl)
    (of_decide_eq_true (by kernel_rfl)) (by unfold Func.isWrapper; first | (rw [if_pos (by decide +kernel)]; kernel_rfl) | (rw [if_neg (by decide +kernel)]; exact ⟨rfl, rfl⟩))
    (fun os started H enc _ => lifted os started H enc)
end Go.Proofs.Ytggpnokhhpnnaaa.heapNil
namespace Go.Proofs.Ytggpnokhhpnnaaa
theorem heapNil_holds : Rows.HeapNilSaid := heapNil.over
#print axioms heapNil_holds
end Go.Proofs.Ytggpnokhhpnnaaa
