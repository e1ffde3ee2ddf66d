/-
  No cell of these rows narrows 'for every input' (looked for: loops, veiled, ifaces, maps, wideKeys, modest, calm, conditions, laid).
  DERIVED. THE GIVEN ROWS OF THIS SEAT. 3 by the template 'for every input the law returns true; each argument reads behind the call as it read before'; 0 by the template 'total and deterministic' (their statements: YtmedepnfpiheoaaTotals.lean).
  GIVEN WITH THE SEED: the statements are not yours to turn. If you find one false, say at which input.
  Laid BY PROGRAM, IN A SANDBOX (cutbox-rows.mjs): the forced cells as the released guide's own fill.sh prints them over the translation 13e7b8006945d97e… (all of the seat's roots in one cut). By AI agents, Wed Nov 11 2026. No macro, syntax, notation, axiom, sorry.
-/
import Derived.Test.YtmedepnfpiheoaaChecked
import GoSem.Claim
import GoSem.ClaimJoined
import GoSem.ClaimMapViews
import Derived.JoinedTies
import Derived.KernelRfl
namespace Go.Proofs.Ytmedepnfpiheoaa
/- THE CELL 'sum', in the pinned program and in every row, IS THE sha256 OF THE DUMP (.gsa) THAT YtmedepnfpiheoaaProg.lean LOADS. Nothing in Lean hashes anything: it is a label: what it is worth is what the hold of that sum in a sandbox is worth. -/
noncomputable def Try.pinned : Pinned := { name := "ytmedepnfpiheoaa", sum := "13e7b8006945d97e6a6d83322af3b763d010250f7f9e3c12d72f30b7d62ad2c7", checked := Try.checked }
namespace Rows
def none {H : Type} : Left H := { results := [], args := [] }

/-- 'chrysalislaw15.VerifyChecks': WHATEVER THE INPUT: true; the input reads as it did. -/
def verifyChecksSpec : ChangeSpec := { name := "verifyChecks", fn := fun _ => fun
  | [d] => { results := [.lit (.bool true)], args := [d] }
  | _ => none }
def verifyChecksRow : OpenClaim := { program := "ytmedepnfpiheoaa", sum := "13e7b8006945d97e6a6d83322af3b763d010250f7f9e3c12d72f30b7d62ad2c7", func := "chrysalis/chrysalislaw15.VerifyChecks", spec := "verifyChecks", unfollowed := true, recurses := true, apart := false }
def VerifyChecksSaid : Prop := verifyChecksRow.holds Try.pinned (OpenSpec.ofChange verifyChecksSpec)

/-- ITS FALSE NEIGHBOUR: 'it returns false'. Refute it at one input. -/
def verifyChecksWrong : ChangeSpec := { name := "verifyChecks", fn := fun _ => fun
  | [d] => { results := [.lit (.bool false)], args := [d] }
  | _ => none }
def VerifyChecksWrongFalsely : Prop := verifyChecksRow.holds Try.pinned (OpenSpec.ofChange verifyChecksWrong)

/-- 'chrysalislaw15.VerifyJumps': WHATEVER THE INPUT: true; the input reads as it did. -/
def verifyJumpsSpec : ChangeSpec := { name := "verifyJumps", fn := fun _ => fun
  | [d] => { results := [.lit (.bool true)], args := [d] }
  | _ => none }
def verifyJumpsRow : OpenClaim := { program := "ytmedepnfpiheoaa", sum := "13e7b8006945d97e6a6d83322af3b763d010250f7f9e3c12d72f30b7d62ad2c7", func := "chrysalis/chrysalislaw15.VerifyJumps", spec := "verifyJumps", unfollowed := true, recurses := true, apart := false }
def VerifyJumpsSaid : Prop := verifyJumpsRow.holds Try.pinned (OpenSpec.ofChange verifyJumpsSpec)

/-- ITS FALSE NEIGHBOUR: 'it returns false'. Refute it at one input. -/
def verifyJumpsWrong : ChangeSpec := { name := "verifyJumps", fn := fun _ => fun
  | [d] => { results := [.lit (.bool false)], args := [d] }
  | _ => none }
def VerifyJumpsWrongFalsely : Prop := verifyJumpsRow.holds Try.pinned (OpenSpec.ofChange verifyJumpsWrong)

/-- 'chrysalislaw15.VerifyMore': WHATEVER THE INPUT: true; the input reads as it did. -/
def verifyMoreSpec : ChangeSpec := { name := "verifyMore", fn := fun _ => fun
  | [d1, d2] => { results := [.lit (.bool true)], args := [d1, d2] }
  | _ => none }
def verifyMoreRow : OpenClaim := { program := "ytmedepnfpiheoaa", sum := "13e7b8006945d97e6a6d83322af3b763d010250f7f9e3c12d72f30b7d62ad2c7", func := "chrysalis/chrysalislaw15.VerifyMore", spec := "verifyMore", unfollowed := true, recurses := true, apart := false }
def VerifyMoreSaid : Prop := verifyMoreRow.holds Try.pinned (OpenSpec.ofChange verifyMoreSpec)

/-- ITS FALSE NEIGHBOUR: 'it returns false'. Refute it at one input. -/
def verifyMoreWrong : ChangeSpec := { name := "verifyMore", fn := fun _ => fun
  | [d1, d2] => { results := [.lit (.bool false)], args := [d1, d2] }
  | _ => none }
def VerifyMoreWrongFalsely : Prop := verifyMoreRow.holds Try.pinned (OpenSpec.ofChange verifyMoreWrong)

/- THE SECOND FORM. 'bulk': how many values and letters a reading holds, each counted each time it is reached (what is shared counts as often as it is met; a slice's spare places count too). A statement '..UptoSaid' is the law's where the arguments, and the package variables that the reading takes, are together of bulk at most 1048576: NARROWER than '..Said'. Prove '..Said' where nothing that the law and all that it calls make is longer than what came in: it says more and counts as full. Else prove '..UptoSaid'. A law counts once. -/
mutual
def uptoBulk {H : Type} : DataW H → Nat
  | .lit (.string bytes) => bytes.length + 1
  | .lit _ => 1
  | .nil => 1
  | .ptr d => uptoBulk d + 1
  | .slice elems spare => uptoBulkAll elems + uptoBulkAll spare + 1
  | .agg parts => uptoBulkAll parts + 1
  | .iface _ d => uptoBulk d + 1
  | .map entries => uptoBulkEntries entries + 1
  | .held _ => 1
def uptoBulkAll {H : Type} : List (DataW H) → Nat
  | [] => 0
  | d :: r => uptoBulk d + uptoBulkAll r
def uptoBulkEntries {H : Type} : List (Lit × DataW H) → Nat
  | [] => 0
  | x :: r => uptoBulkEntry x + uptoBulkEntries r
def uptoBulkEntry {H : Type} : Lit × DataW H → Nat
  | (.string bytes, d) => bytes.length + uptoBulk d + 1
  | (_, d) => uptoBulk d + 1
 end
def uptoSmall : (H : Type) → List (DataW H) → Bool := fun _ ds => decide (uptoBulkAll ds ≤ 1048576)
def OpenSpec.upto (s : _root_.Go.ChangeSpec) : _root_.Go.OpenSpec := { _root_.Go.OpenSpec.ofChange s with cond := some uptoSmall }

/-- 'chrysalislaw15.VerifyChecks', WHERE WHAT IT READS IS OF BULK AT MOST 1048576: true; the input reads as it did. -/
def verifyChecksUptoRow : OpenClaim := { program := "ytmedepnfpiheoaa", sum := "13e7b8006945d97e6a6d83322af3b763d010250f7f9e3c12d72f30b7d62ad2c7", func := "chrysalis/chrysalislaw15.VerifyChecks", spec := "verifyChecks", unfollowed := true, recurses := true, apart := false, narrowed := true }
def VerifyChecksUptoSaid : Prop := verifyChecksUptoRow.holds Try.pinned (OpenSpec.upto verifyChecksSpec)

/-- 'chrysalislaw15.VerifyJumps', WHERE WHAT IT READS IS OF BULK AT MOST 1048576: true; the input reads as it did. -/
def verifyJumpsUptoRow : OpenClaim := { program := "ytmedepnfpiheoaa", sum := "13e7b8006945d97e6a6d83322af3b763d010250f7f9e3c12d72f30b7d62ad2c7", func := "chrysalis/chrysalislaw15.VerifyJumps", spec := "verifyJumps", unfollowed := true, recurses := true, apart := false, narrowed := true }
def VerifyJumpsUptoSaid : Prop := verifyJumpsUptoRow.holds Try.pinned (OpenSpec.upto verifyJumpsSpec)

/-- 'chrysalislaw15.VerifyMore', WHERE WHAT IT READS IS OF BULK AT MOST 1048576: true; the input reads as it did. -/
def verifyMoreUptoRow : OpenClaim := { program := "ytmedepnfpiheoaa", sum := "13e7b8006945d97e6a6d83322af3b763d010250f7f9e3c12d72f30b7d62ad2c7", func := "chrysalis/chrysalislaw15.VerifyMore", spec := "verifyMore", unfollowed := true, recurses := true, apart := false, narrowed := true }
def VerifyMoreUptoSaid : Prop := verifyMoreUptoRow.holds Try.pinned (OpenSpec.upto verifyMoreSpec)

end Rows
end Go.Proofs.Ytmedepnfpiheoaa
