/-
  No cell of these rows narrows 'for every input' (looked for: loops, veiled, ifaces, maps, wideKeys, modest, calm, conditions, laid).
  DERIVED. THE GIVEN ROWS OF THIS SEAT. 4 by the template 'for every input the law returns true; each argument reads behind the call as it read before'; 0 by the template 'total and deterministic' (their statements: YtlimjjilakldgaaTotals.lean).
  GIVEN WITH THE SEED: the statements are not yours to turn. If you find one false, say at which input.
  Laid BY PROGRAM, IN A SANDBOX (cutbox-rows.mjs): the forced cells as the released guide's own fill.sh prints them over the translation 94a169d2bdf63393… (all of the seat's roots in one cut). By AI agents, Wed Nov 11 2026. No macro, syntax, notation, axiom, sorry.
-/
import Derived.Test.YtlimjjilakldgaaChecked
import GoSem.Claim
import GoSem.ClaimJoined
import GoSem.ClaimMapViews
import Derived.JoinedTies
import Derived.KernelRfl
namespace Go.Proofs.Ytlimjjilakldgaa
/- THE CELL 'sum', in the pinned program and in every row, IS THE sha256 OF THE DUMP (.gsa) THAT YtlimjjilakldgaaProg.lean LOADS. Nothing in Lean hashes anything: it is a label: what it is worth is what the hold of that sum in a sandbox is worth. -/
noncomputable def Try.pinned : Pinned := { name := "ytlimjjilakldgaa", sum := "94a169d2bdf63393bf6ea74f0b234e97a326703c9921a20bd41565945fc80c37", checked := Try.checked }
namespace Rows
def none {H : Type} : Left H := { results := [], args := [] }

/-- 'chrysalislaw20.ModsVersions': WHATEVER THE INPUT: true; the input reads as it did. -/
def modsVersionsSpec : ChangeSpec := { name := "modsVersions", fn := fun _ => fun
  | [d1, d2, d3] => { results := [.lit (.bool true)], args := [d1, d2, d3] }
  | _ => none }
def modsVersionsRow : OpenClaim := { program := "ytlimjjilakldgaa", sum := "94a169d2bdf63393bf6ea74f0b234e97a326703c9921a20bd41565945fc80c37", func := "chrysalis/chrysalislaw20.ModsVersions", spec := "modsVersions", unfollowed := true, recurses := true, apart := false }
def ModsVersionsSaid : Prop := modsVersionsRow.holds Try.pinned (OpenSpec.ofChange modsVersionsSpec)

/-- ITS FALSE NEIGHBOUR: 'it returns false'. Refute it at one input. -/
def modsVersionsWrong : ChangeSpec := { name := "modsVersions", fn := fun _ => fun
  | [d1, d2, d3] => { results := [.lit (.bool false)], args := [d1, d2, d3] }
  | _ => none }
def ModsVersionsWrongFalsely : Prop := modsVersionsRow.holds Try.pinned (OpenSpec.ofChange modsVersionsWrong)

/-- 'chrysalislaw20.ModsFinds': WHATEVER THE INPUT: true; the input reads as it did. -/
def modsFindsSpec : ChangeSpec := { name := "modsFinds", fn := fun _ => fun
  | [d1, d2, d3] => { results := [.lit (.bool true)], args := [d1, d2, d3] }
  | _ => none }
def modsFindsRow : OpenClaim := { program := "ytlimjjilakldgaa", sum := "94a169d2bdf63393bf6ea74f0b234e97a326703c9921a20bd41565945fc80c37", func := "chrysalis/chrysalislaw20.ModsFinds", spec := "modsFinds", unfollowed := true, recurses := true, apart := false }
def ModsFindsSaid : Prop := modsFindsRow.holds Try.pinned (OpenSpec.ofChange modsFindsSpec)

/-- ITS FALSE NEIGHBOUR: 'it returns false'. Refute it at one input. -/
def modsFindsWrong : ChangeSpec := { name := "modsFinds", fn := fun _ => fun
  | [d1, d2, d3] => { results := [.lit (.bool false)], args := [d1, d2, d3] }
  | _ => none }
def ModsFindsWrongFalsely : Prop := modsFindsRow.holds Try.pinned (OpenSpec.ofChange modsFindsWrong)

/-- 'chrysalislaw20.ModsMany': WHATEVER THE INPUT: true; the input reads as it did. -/
def modsManySpec : ChangeSpec := { name := "modsMany", fn := fun _ => fun
  | [d] => { results := [.lit (.bool true)], args := [d] }
  | _ => none }
def modsManyRow : OpenClaim := { program := "ytlimjjilakldgaa", sum := "94a169d2bdf63393bf6ea74f0b234e97a326703c9921a20bd41565945fc80c37", func := "chrysalis/chrysalislaw20.ModsMany", spec := "modsMany", unfollowed := true, recurses := true, apart := false }
def ModsManySaid : Prop := modsManyRow.holds Try.pinned (OpenSpec.ofChange modsManySpec)

/-- ITS FALSE NEIGHBOUR: 'it returns false'. Refute it at one input. -/
def modsManyWrong : ChangeSpec := { name := "modsMany", fn := fun _ => fun
  | [d] => { results := [.lit (.bool false)], args := [d] }
  | _ => none }
def ModsManyWrongFalsely : Prop := modsManyRow.holds Try.pinned (OpenSpec.ofChange modsManyWrong)

/-- 'chrysalislaw20.ModsNil': WHATEVER THE INPUT: true; the input reads as it did. -/
def modsNilSpec : ChangeSpec := { name := "modsNil", fn := fun _ => fun
  | [d1, d2] => { results := [.lit (.bool true)], args := [d1, d2] }
  | _ => none }
def modsNilRow : OpenClaim := { program := "ytlimjjilakldgaa", sum := "94a169d2bdf63393bf6ea74f0b234e97a326703c9921a20bd41565945fc80c37", func := "chrysalis/chrysalislaw20.ModsNil", spec := "modsNil", unfollowed := true, recurses := true, apart := false }
def ModsNilSaid : Prop := modsNilRow.holds Try.pinned (OpenSpec.ofChange modsNilSpec)

/-- ITS FALSE NEIGHBOUR: 'it returns false'. Refute it at one input. -/
def modsNilWrong : ChangeSpec := { name := "modsNil", fn := fun _ => fun
  | [d1, d2] => { results := [.lit (.bool false)], args := [d1, d2] }
  | _ => none }
def ModsNilWrongFalsely : Prop := modsNilRow.holds Try.pinned (OpenSpec.ofChange modsNilWrong)

/- THE SECOND FORM. 'bulk': how many values and letters a reading holds, each counted each time it is reached (what is shared counts as often as it is met; a slice's spare places count too). A statement '..UptoSaid' is the law's where the arguments, and the package variables that the reading takes, are together of bulk at most 1048576: NARROWER than '..Said'. Prove '..Said' where nothing that the law and all that it calls make is longer than what came in: it says more and counts as full. Else prove '..UptoSaid'. A law counts once. -/
mutual
def uptoBulk {H : Type} : DataW H → Nat
  | .lit (.string bytes) => bytes.length + 1
  | .lit _ => 1
  | .nil => 1
  | .ptr d => uptoBulk d + 1
  | .slice elems spare => uptoBulkAll elems + uptoBulkAll spare + 1
  | .agg parts => uptoBulkAll parts + 1
  | .iface _ d => uptoBulk d + 1
  | .map entries => uptoBulkEntries entries + 1
  | .held _ => 1
def uptoBulkAll {H : Type} : List (DataW H) → Nat
  | [] => 0
  | d :: r => uptoBulk d + uptoBulkAll r
def uptoBulkEntries {H : Type} : List (Lit × DataW H) → Nat
  | [] => 0
  | x :: r => uptoBulkEntry x + uptoBulkEntries r
def uptoBulkEntry {H : Type} : Lit × DataW H → Nat
  | (.string bytes, d) => bytes.length + uptoBulk d + 1
  | (_, d) => uptoBulk d + 1
 end
def uptoSmall : (H : Type) → List (DataW H) → Bool := fun _ ds => decide (uptoBulkAll ds ≤ 1048576)
def OpenSpec.upto (s : _root_.Go.ChangeSpec) : _root_.Go.OpenSpec := { _root_.Go.OpenSpec.ofChange s with cond := some uptoSmall }

/-- 'chrysalislaw20.ModsVersions', WHERE WHAT IT READS IS OF BULK AT MOST 1048576: true; the input reads as it did. -/
def modsVersionsUptoRow : OpenClaim := { program := "ytlimjjilakldgaa", sum := "94a169d2bdf63393bf6ea74f0b234e97a326703c9921a20bd41565945fc80c37", func := "chrysalis/chrysalislaw20.ModsVersions", spec := "modsVersions", unfollowed := true, recurses := true, apart := false, narrowed := true }
def ModsVersionsUptoSaid : Prop := modsVersionsUptoRow.holds Try.pinned (OpenSpec.upto modsVersionsSpec)

/-- 'chrysalislaw20.ModsFinds', WHERE WHAT IT READS IS OF BULK AT MOST 1048576: true; the input reads as it did. -/
def modsFindsUptoRow : OpenClaim := { program := "ytlimjjilakldgaa", sum := "94a169d2bdf63393bf6ea74f0b234e97a326703c9921a20bd41565945fc80c37", func := "chrysalis/chrysalislaw20.ModsFinds", spec := "modsFinds", unfollowed := true, recurses := true, apart := false, narrowed := true }
def ModsFindsUptoSaid : Prop := modsFindsUptoRow.holds Try.pinned (OpenSpec.upto modsFindsSpec)

/-- 'chrysalislaw20.ModsMany', WHERE WHAT IT READS IS OF BULK AT MOST 1048576: true; the input reads as it did. -/
def modsManyUptoRow : OpenClaim := { program := "ytlimjjilakldgaa", sum := "94a169d2bdf63393bf6ea74f0b234e97a326703c9921a20bd41565945fc80c37", func := "chrysalis/chrysalislaw20.ModsMany", spec := "modsMany", unfollowed := true, recurses := true, apart := false, narrowed := true }
def ModsManyUptoSaid : Prop := modsManyUptoRow.holds Try.pinned (OpenSpec.upto modsManySpec)

/-- 'chrysalislaw20.ModsNil', WHERE WHAT IT READS IS OF BULK AT MOST 1048576: true; the input reads as it did. -/
def modsNilUptoRow : OpenClaim := { program := "ytlimjjilakldgaa", sum := "94a169d2bdf63393bf6ea74f0b234e97a326703c9921a20bd41565945fc80c37", func := "chrysalis/chrysalislaw20.ModsNil", spec := "modsNil", unfollowed := true, recurses := true, apart := false, narrowed := true }
def ModsNilUptoSaid : Prop := modsNilUptoRow.holds Try.pinned (OpenSpec.upto modsNilSpec)

end Rows
end Go.Proofs.Ytlimjjilakldgaa
