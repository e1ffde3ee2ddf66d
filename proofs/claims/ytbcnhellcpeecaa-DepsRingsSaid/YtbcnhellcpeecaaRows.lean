/-
  No cell of these rows narrows 'for every input' (looked for: loops, veiled, ifaces, maps, wideKeys, modest, calm, conditions, laid).
  DERIVED. THE GIVEN ROWS OF THIS SEAT. 4 by the template 'for every input the law returns true; each argument reads behind the call as it read before'; 0 by the template 'total and deterministic' (their statements: YtbcnhellcpeecaaTotals.lean).
  GIVEN WITH THE SEED: the statements are not yours to turn. If you find one false, say at which input.
  Laid BY PROGRAM, IN A SANDBOX (cutbox-rows.mjs): the forced cells as the released guide's own fill.sh prints them over the translation cbf2e439092aa359… (all of the seat's roots in one cut). By AI agents, Wed Nov 11 2026. No macro, syntax, notation, axiom, sorry.
-/
import Derived.Test.YtbcnhellcpeecaaChecked
import GoSem.Claim
import GoSem.ClaimJoined
import GoSem.ClaimMapViews
import Derived.JoinedTies
import Derived.KernelRfl
namespace Go.Proofs.Ytbcnhellcpeecaa
/- THE CELL 'sum', in the pinned program and in every row, IS THE sha256 OF THE DUMP (.gsa) THAT YtbcnhellcpeecaaProg.lean LOADS. Nothing in Lean hashes anything: it is a label: what it is worth is what the hold of that sum in a sandbox is worth. -/
noncomputable def Try.pinned : Pinned := { name := "ytbcnhellcpeecaa", sum := "cbf2e439092aa359366636a4a6ff9d5b12e88eee1e5abb8133c2d843d32f9aaa", checked := Try.checked }
namespace Rows
def none {H : Type} : Left H := { results := [], args := [] }

/-- 'chrysalislaw24.DepsOrder': WHATEVER THE INPUT: true; the input reads as it did. -/
def depsOrderSpec : ChangeSpec := { name := "depsOrder", fn := fun _ => fun
  | [d1, d2] => { results := [.lit (.bool true)], args := [d1, d2] }
  | _ => none }
def depsOrderRow : OpenClaim := { program := "ytbcnhellcpeecaa", sum := "cbf2e439092aa359366636a4a6ff9d5b12e88eee1e5abb8133c2d843d32f9aaa", func := "chrysalis/chrysalislaw24.DepsOrder", spec := "depsOrder", apart := false }
def DepsOrderSaid : Prop := depsOrderRow.holds Try.pinned (OpenSpec.ofChange depsOrderSpec)

/-- ITS FALSE NEIGHBOUR: 'it returns false'. Refute it at one input. -/
def depsOrderWrong : ChangeSpec := { name := "depsOrder", fn := fun _ => fun
  | [d1, d2] => { results := [.lit (.bool false)], args := [d1, d2] }
  | _ => none }
def DepsOrderWrongFalsely : Prop := depsOrderRow.holds Try.pinned (OpenSpec.ofChange depsOrderWrong)

/-- 'chrysalislaw24.DepsStands': WHATEVER THE INPUT: true; the input reads as it did. -/
def depsStandsSpec : ChangeSpec := { name := "depsStands", fn := fun _ => fun
  | [d1, d2] => { results := [.lit (.bool true)], args := [d1, d2] }
  | _ => none }
def depsStandsRow : OpenClaim := { program := "ytbcnhellcpeecaa", sum := "cbf2e439092aa359366636a4a6ff9d5b12e88eee1e5abb8133c2d843d32f9aaa", func := "chrysalis/chrysalislaw24.DepsStands", spec := "depsStands", apart := false }
def DepsStandsSaid : Prop := depsStandsRow.holds Try.pinned (OpenSpec.ofChange depsStandsSpec)

/-- ITS FALSE NEIGHBOUR: 'it returns false'. Refute it at one input. -/
def depsStandsWrong : ChangeSpec := { name := "depsStands", fn := fun _ => fun
  | [d1, d2] => { results := [.lit (.bool false)], args := [d1, d2] }
  | _ => none }
def DepsStandsWrongFalsely : Prop := depsStandsRow.holds Try.pinned (OpenSpec.ofChange depsStandsWrong)

/-- 'chrysalislaw24.DepsRings': WHATEVER THE INPUT: true; the input reads as it did. -/
def depsRingsSpec : ChangeSpec := { name := "depsRings", fn := fun _ => fun
  | [d1, d2, d3] => { results := [.lit (.bool true)], args := [d1, d2, d3] }
  | _ => none }
def depsRingsRow : OpenClaim := { program := "ytbcnhellcpeecaa", sum := "cbf2e439092aa359366636a4a6ff9d5b12e88eee1e5abb8133c2d843d32f9aaa", func := "chrysalis/chrysalislaw24.DepsRings", spec := "depsRings", apart := false }
def DepsRingsSaid : Prop := depsRingsRow.holds Try.pinned (OpenSpec.ofChange depsRingsSpec)

/-- ITS FALSE NEIGHBOUR: 'it returns false'. Refute it at one input. -/
def depsRingsWrong : ChangeSpec := { name := "depsRings", fn := fun _ => fun
  | [d1, d2, d3] => { results := [.lit (.bool false)], args := [d1, d2, d3] }
  | _ => none }
def DepsRingsWrongFalsely : Prop := depsRingsRow.holds Try.pinned (OpenSpec.ofChange depsRingsWrong)

/-- 'chrysalislaw24.DepsMore': WHATEVER THE INPUT: true; the input reads as it did. -/
def depsMoreSpec : ChangeSpec := { name := "depsMore", fn := fun _ => fun
  | [d1, d2, d3] => { results := [.lit (.bool true)], args := [d1, d2, d3] }
  | _ => none }
def depsMoreRow : OpenClaim := { program := "ytbcnhellcpeecaa", sum := "cbf2e439092aa359366636a4a6ff9d5b12e88eee1e5abb8133c2d843d32f9aaa", func := "chrysalis/chrysalislaw24.DepsMore", spec := "depsMore", apart := false }
def DepsMoreSaid : Prop := depsMoreRow.holds Try.pinned (OpenSpec.ofChange depsMoreSpec)

/-- ITS FALSE NEIGHBOUR: 'it returns false'. Refute it at one input. -/
def depsMoreWrong : ChangeSpec := { name := "depsMore", fn := fun _ => fun
  | [d1, d2, d3] => { results := [.lit (.bool false)], args := [d1, d2, d3] }
  | _ => none }
def DepsMoreWrongFalsely : Prop := depsMoreRow.holds Try.pinned (OpenSpec.ofChange depsMoreWrong)

/- THE SECOND FORM. 'bulk': how many values and letters a reading holds, each counted each time it is reached (what is shared counts as often as it is met; a slice's spare places count too). A statement '..UptoSaid' is the law's where the arguments, and the package variables that the reading takes, are together of bulk at most 1048576: NARROWER than '..Said'. Prove '..Said' where nothing that the law and all that it calls make is longer than what came in: it says more and counts as full. Else prove '..UptoSaid'. A law counts once. -/
mutual
def uptoBulk {H : Type} : DataW H → Nat
  | .lit (.string bytes) => bytes.length + 1
  | .lit _ => 1
  | .nil => 1
  | .ptr d => uptoBulk d + 1
  | .slice elems spare => uptoBulkAll elems + uptoBulkAll spare + 1
  | .agg parts => uptoBulkAll parts + 1
  | .iface _ d => uptoBulk d + 1
  | .map entries => uptoBulkEntries entries + 1
  | .held _ => 1
def uptoBulkAll {H : Type} : List (DataW H) → Nat
  | [] => 0
  | d :: r => uptoBulk d + uptoBulkAll r
def uptoBulkEntries {H : Type} : List (Lit × DataW H) → Nat
  | [] => 0
  | x :: r => uptoBulkEntry x + uptoBulkEntries r
def uptoBulkEntry {H : Type} : Lit × DataW H → Nat
  | (.string bytes, d) => bytes.length + uptoBulk d + 1
  | (_, d) => uptoBulk d + 1
 end
def uptoSmall : (H : Type) → List (DataW H) → Bool := fun _ ds => decide (uptoBulkAll ds ≤ 1048576)
def OpenSpec.upto (s : _root_.Go.ChangeSpec) : _root_.Go.OpenSpec := { _root_.Go.OpenSpec.ofChange s with cond := some uptoSmall }

/-- 'chrysalislaw24.DepsOrder', WHERE WHAT IT READS IS OF BULK AT MOST 1048576: true; the input reads as it did. -/
def depsOrderUptoRow : OpenClaim := { program := "ytbcnhellcpeecaa", sum := "cbf2e439092aa359366636a4a6ff9d5b12e88eee1e5abb8133c2d843d32f9aaa", func := "chrysalis/chrysalislaw24.DepsOrder", spec := "depsOrder", apart := false, narrowed := true }
def DepsOrderUptoSaid : Prop := depsOrderUptoRow.holds Try.pinned (OpenSpec.upto depsOrderSpec)

/-- 'chrysalislaw24.DepsStands', WHERE WHAT IT READS IS OF BULK AT MOST 1048576: true; the input reads as it did. -/
def depsStandsUptoRow : OpenClaim := { program := "ytbcnhellcpeecaa", sum := "cbf2e439092aa359366636a4a6ff9d5b12e88eee1e5abb8133c2d843d32f9aaa", func := "chrysalis/chrysalislaw24.DepsStands", spec := "depsStands", apart := false, narrowed := true }
def DepsStandsUptoSaid : Prop := depsStandsUptoRow.holds Try.pinned (OpenSpec.upto depsStandsSpec)

/-- 'chrysalislaw24.DepsRings', WHERE WHAT IT READS IS OF BULK AT MOST 1048576: true; the input reads as it did. -/
def depsRingsUptoRow : OpenClaim := { program := "ytbcnhellcpeecaa", sum := "cbf2e439092aa359366636a4a6ff9d5b12e88eee1e5abb8133c2d843d32f9aaa", func := "chrysalis/chrysalislaw24.DepsRings", spec := "depsRings", apart := false, narrowed := true }
def DepsRingsUptoSaid : Prop := depsRingsUptoRow.holds Try.pinned (OpenSpec.upto depsRingsSpec)

/-- 'chrysalislaw24.DepsMore', WHERE WHAT IT READS IS OF BULK AT MOST 1048576: true; the input reads as it did. -/
def depsMoreUptoRow : OpenClaim := { program := "ytbcnhellcpeecaa", sum := "cbf2e439092aa359366636a4a6ff9d5b12e88eee1e5abb8133c2d843d32f9aaa", func := "chrysalis/chrysalislaw24.DepsMore", spec := "depsMore", apart := false, narrowed := true }
def DepsMoreUptoSaid : Prop := depsMoreUptoRow.holds Try.pinned (OpenSpec.upto depsMoreSpec)

end Rows
end Go.Proofs.Ytbcnhellcpeecaa
