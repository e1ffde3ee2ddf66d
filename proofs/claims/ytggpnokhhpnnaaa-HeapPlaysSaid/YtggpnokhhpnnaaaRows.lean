/-
  No cell of these rows narrows 'for every input' (looked for: loops, veiled, ifaces, maps, wideKeys, modest, calm, conditions, laid).
  DERIVED. THE GIVEN ROWS OF THIS SEAT. 5 by the template 'for every input the law returns true; each argument reads behind the call as it read before'; 0 by the template 'total and deterministic' (their statements: YtggpnokhhpnnaaaTotals.lean).
  GIVEN WITH THE SEED: the statements are not yours to turn. If you find one false, say at which input.
  Laid BY PROGRAM, IN A SANDBOX (cutbox-rows.mjs): the forced cells as the released guide's own fill.sh prints them over the translation e1d9d70d61dbb99a… (all of the seat's roots in one cut). By AI agents, Wed Nov 11 2026. No macro, syntax, notation, axiom, sorry.
-/
import Derived.Test.YtggpnokhhpnnaaaChecked
import GoSem.Claim
import GoSem.ClaimJoined
import GoSem.ClaimMapViews
import Derived.JoinedTies
import Derived.KernelRfl
namespace Go.Proofs.Ytggpnokhhpnnaaa
/- THE CELL 'sum', in the pinned program and in every row, IS THE sha256 OF THE DUMP (.gsa) THAT YtggpnokhhpnnaaaProg.lean LOADS. Nothing in Lean hashes anything: it is a label: what it is worth is what the hold of that sum in a sandbox is worth. -/
noncomputable def Try.pinned : Pinned := { name := "ytggpnokhhpnnaaa", sum := "e1d9d70d61dbb99a60383ac9d704b68acbb015be5f18297eb37f8bd787f875dc", checked := Try.checked }
namespace Rows
def none {H : Type} : Left H := { results := [], args := [] }

/-- 'chrysalislaw18.HeapRoom': WHATEVER THE INPUT: true; the input reads as it did. -/
def heapRoomSpec : ChangeSpec := { name := "heapRoom", fn := fun _ => fun
  | [d1, d2] => { results := [.lit (.bool true)], args := [d1, d2] }
  | _ => none }
def heapRoomRow : OpenClaim := { program := "ytggpnokhhpnnaaa", sum := "e1d9d70d61dbb99a60383ac9d704b68acbb015be5f18297eb37f8bd787f875dc", func := "chrysalis/chrysalislaw18.HeapRoom", spec := "heapRoom", plainKeys := false, apart := false }
def HeapRoomSaid : Prop := heapRoomRow.holds Try.pinned (OpenSpec.ofChange heapRoomSpec)

/-- ITS FALSE NEIGHBOUR: 'it returns false'. Refute it at one input. -/
def heapRoomWrong : ChangeSpec := { name := "heapRoom", fn := fun _ => fun
  | [d1, d2] => { results := [.lit (.bool false)], args := [d1, d2] }
  | _ => none }
def HeapRoomWrongFalsely : Prop := heapRoomRow.holds Try.pinned (OpenSpec.ofChange heapRoomWrong)

/-- 'chrysalislaw18.HeapPuts': WHATEVER THE INPUT: true; the input reads as it did. -/
def heapPutsSpec : ChangeSpec := { name := "heapPuts", fn := fun _ => fun
  | [d] => { results := [.lit (.bool true)], args := [d] }
  | _ => none }
def heapPutsRow : OpenClaim := { program := "ytggpnokhhpnnaaa", sum := "e1d9d70d61dbb99a60383ac9d704b68acbb015be5f18297eb37f8bd787f875dc", func := "chrysalis/chrysalislaw18.HeapPuts", spec := "heapPuts", plainKeys := false, apart := false }
def HeapPutsSaid : Prop := heapPutsRow.holds Try.pinned (OpenSpec.ofChange heapPutsSpec)

/-- ITS FALSE NEIGHBOUR: 'it returns false'. Refute it at one input. -/
def heapPutsWrong : ChangeSpec := { name := "heapPuts", fn := fun _ => fun
  | [d] => { results := [.lit (.bool false)], args := [d] }
  | _ => none }
def HeapPutsWrongFalsely : Prop := heapPutsRow.holds Try.pinned (OpenSpec.ofChange heapPutsWrong)

/-- 'chrysalislaw18.HeapFns': WHATEVER THE INPUT: true; the input reads as it did. -/
def heapFnsSpec : ChangeSpec := { name := "heapFns", fn := fun _ => fun
  | [d1, d2, d3] => { results := [.lit (.bool true)], args := [d1, d2, d3] }
  | _ => none }
def heapFnsRow : OpenClaim := { program := "ytggpnokhhpnnaaa", sum := "e1d9d70d61dbb99a60383ac9d704b68acbb015be5f18297eb37f8bd787f875dc", func := "chrysalis/chrysalislaw18.HeapFns", spec := "heapFns", plainKeys := false, apart := false }
def HeapFnsSaid : Prop := heapFnsRow.holds Try.pinned (OpenSpec.ofChange heapFnsSpec)

/-- ITS FALSE NEIGHBOUR: 'it returns false'. Refute it at one input. -/
def heapFnsWrong : ChangeSpec := { name := "heapFns", fn := fun _ => fun
  | [d1, d2, d3] => { results := [.lit (.bool false)], args := [d1, d2, d3] }
  | _ => none }
def HeapFnsWrongFalsely : Prop := heapFnsRow.holds Try.pinned (OpenSpec.ofChange heapFnsWrong)

/-- 'chrysalislaw18.HeapPlays': WHATEVER THE INPUT: true; the input reads as it did. -/
def heapPlaysSpec : ChangeSpec := { name := "heapPlays", fn := fun _ => fun
  | [d1, d2] => { results := [.lit (.bool true)], args := [d1, d2] }
  | _ => none }
def heapPlaysRow : OpenClaim := { program := "ytggpnokhhpnnaaa", sum := "e1d9d70d61dbb99a60383ac9d704b68acbb015be5f18297eb37f8bd787f875dc", func := "chrysalis/chrysalislaw18.HeapPlays", spec := "heapPlays", plainKeys := false, apart := false }
def HeapPlaysSaid : Prop := heapPlaysRow.holds Try.pinned (OpenSpec.ofChange heapPlaysSpec)

/-- ITS FALSE NEIGHBOUR: 'it returns false'. Refute it at one input. -/
def heapPlaysWrong : ChangeSpec := { name := "heapPlays", fn := fun _ => fun
  | [d1, d2] => { results := [.lit (.bool false)], args := [d1, d2] }
  | _ => none }
def HeapPlaysWrongFalsely : Prop := heapPlaysRow.holds Try.pinned (OpenSpec.ofChange heapPlaysWrong)

/-- 'chrysalislaw18.HeapNil': WHATEVER THE INPUT: true; the input reads as it did. -/
def heapNilSpec : ChangeSpec := { name := "heapNil", fn := fun _ => fun
  | [d1, d2, d3] => { results := [.lit (.bool true)], args := [d1, d2, d3] }
  | _ => none }
def heapNilRow : OpenClaim := { program := "ytggpnokhhpnnaaa", sum := "e1d9d70d61dbb99a60383ac9d704b68acbb015be5f18297eb37f8bd787f875dc", func := "chrysalis/chrysalislaw18.HeapNil", spec := "heapNil", plainKeys := false, apart := false }
def HeapNilSaid : Prop := heapNilRow.holds Try.pinned (OpenSpec.ofChange heapNilSpec)

/-- ITS FALSE NEIGHBOUR: 'it returns false'. Refute it at one input. -/
def heapNilWrong : ChangeSpec := { name := "heapNil", fn := fun _ => fun
  | [d1, d2, d3] => { results := [.lit (.bool false)], args := [d1, d2, d3] }
  | _ => none }
def HeapNilWrongFalsely : Prop := heapNilRow.holds Try.pinned (OpenSpec.ofChange heapNilWrong)

/- THE SECOND FORM. 'bulk': how many values and letters a reading holds, each counted each time it is reached (what is shared counts as often as it is met; a slice's spare places count too). A statement '..UptoSaid' is the law's where the arguments, and the package variables that the reading takes, are together of bulk at most 1048576: NARROWER than '..Said'. Prove '..Said' where nothing that the law and all that it calls make is longer than what came in: it says more and counts as full. Else prove '..UptoSaid'. A law counts once. -/
mutual
def uptoBulk {H : Type} : DataW H → Nat
  | .lit (.string bytes) => bytes.length + 1
  | .lit _ => 1
  | .nil => 1
  | .ptr d => uptoBulk d + 1
  | .slice elems spare => uptoBulkAll elems + uptoBulkAll spare + 1
  | .agg parts => uptoBulkAll parts + 1
  | .iface _ d => uptoBulk d + 1
  | .map entries => uptoBulkEntries entries + 1
  | .held _ => 1
def uptoBulkAll {H : Type} : List (DataW H) → Nat
  | [] => 0
  | d :: r => uptoBulk d + uptoBulkAll r
def uptoBulkEntries {H : Type} : List (Lit × DataW H) → Nat
  | [] => 0
  | x :: r => uptoBulkEntry x + uptoBulkEntries r
def uptoBulkEntry {H : Type} : Lit × DataW H → Nat
  | (.string bytes, d) => bytes.length + uptoBulk d + 1
  | (_, d) => uptoBulk d + 1
 end
def uptoSmall : (H : Type) → List (DataW H) → Bool := fun _ ds => decide (uptoBulkAll ds ≤ 1048576)
def OpenSpec.upto (s : _root_.Go.ChangeSpec) : _root_.Go.OpenSpec := { _root_.Go.OpenSpec.ofChange s with cond := some uptoSmall }

/-- 'chrysalislaw18.HeapRoom', WHERE WHAT IT READS IS OF BULK AT MOST 1048576: true; the input reads as it did. -/
def heapRoomUptoRow : OpenClaim := { program := "ytggpnokhhpnnaaa", sum := "e1d9d70d61dbb99a60383ac9d704b68acbb015be5f18297eb37f8bd787f875dc", func := "chrysalis/chrysalislaw18.HeapRoom", spec := "heapRoom", plainKeys := false, apart := false, narrowed := true }
def HeapRoomUptoSaid : Prop := heapRoomUptoRow.holds Try.pinned (OpenSpec.upto heapRoomSpec)

/-- 'chrysalislaw18.HeapPuts', WHERE WHAT IT READS IS OF BULK AT MOST 1048576: true; the input reads as it did. -/
def heapPutsUptoRow : OpenClaim := { program := "ytggpnokhhpnnaaa", sum := "e1d9d70d61dbb99a60383ac9d704b68acbb015be5f18297eb37f8bd787f875dc", func := "chrysalis/chrysalislaw18.HeapPuts", spec := "heapPuts", plainKeys := false, apart := false, narrowed := true }
def HeapPutsUptoSaid : Prop := heapPutsUptoRow.holds Try.pinned (OpenSpec.upto heapPutsSpec)

/-- 'chrysalislaw18.HeapFns', WHERE WHAT IT READS IS OF BULK AT MOST 1048576: true; the input reads as it did. -/
def heapFnsUptoRow : OpenClaim := { program := "ytggpnokhhpnnaaa", sum := "e1d9d70d61dbb99a60383ac9d704b68acbb015be5f18297eb37f8bd787f875dc", func := "chrysalis/chrysalislaw18.HeapFns", spec := "heapFns", plainKeys := false, apart := false, narrowed := true }
def HeapFnsUptoSaid : Prop := heapFnsUptoRow.holds Try.pinned (OpenSpec.upto heapFnsSpec)

/-- 'chrysalislaw18.HeapPlays', WHERE WHAT IT READS IS OF BULK AT MOST 1048576: true; the input reads as it did. -/
def heapPlaysUptoRow : OpenClaim := { program := "ytggpnokhhpnnaaa", sum := "e1d9d70d61dbb99a60383ac9d704b68acbb015be5f18297eb37f8bd787f875dc", func := "chrysalis/chrysalislaw18.HeapPlays", spec := "heapPlays", plainKeys := false, apart := false, narrowed := true }
def HeapPlaysUptoSaid : Prop := heapPlaysUptoRow.holds Try.pinned (OpenSpec.upto heapPlaysSpec)

/-- 'chrysalislaw18.HeapNil', WHERE WHAT IT READS IS OF BULK AT MOST 1048576: true; the input reads as it did. -/
def heapNilUptoRow : OpenClaim := { program := "ytggpnokhhpnnaaa", sum := "e1d9d70d61dbb99a60383ac9d704b68acbb015be5f18297eb37f8bd787f875dc", func := "chrysalis/chrysalislaw18.HeapNil", spec := "heapNil", plainKeys := false, apart := false, narrowed := true }
def HeapNilUptoSaid : Prop := heapNilUptoRow.holds Try.pinned (OpenSpec.upto heapNilSpec)

end Rows
end Go.Proofs.Ytggpnokhhpnnaaa
