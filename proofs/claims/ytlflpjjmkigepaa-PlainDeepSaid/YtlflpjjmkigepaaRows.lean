/-
  No cell of these rows narrows 'for every input' (looked for: loops, veiled, ifaces, maps, wideKeys, modest, calm, conditions, laid).
  DERIVED. THE GIVEN ROWS OF THIS SEAT. 6 by the template 'for every input the law returns true; each argument reads behind the call as it read before'; 0 by the template 'total and deterministic' (their statements: YtlflpjjmkigepaaTotals.lean).
  GIVEN WITH THE SEED: the statements are not yours to turn. If you find one false, say at which input.
  Laid BY PROGRAM, IN A SANDBOX (cutbox-rows.mjs): the forced cells as the released guide's own fill.sh prints them over the translation c629b121e346f965… (all of the seat's roots in one cut). By AI agents, Wed Nov 11 2026. No macro, syntax, notation, axiom, sorry.
-/
import Derived.Test.YtlflpjjmkigepaaChecked
import GoSem.Claim
import GoSem.ClaimJoined
import GoSem.ClaimMapViews
import Derived.JoinedTies
import Derived.KernelRfl
namespace Go.Proofs.Ytlflpjjmkigepaa
/- THE CELL 'sum', in the pinned program and in every row, IS THE sha256 OF THE DUMP (.gsa) THAT YtlflpjjmkigepaaProg.lean LOADS. Nothing in Lean hashes anything: it is a label: what it is worth is what the hold of that sum in a sandbox is worth. -/
noncomputable def Try.pinned : Pinned := { name := "ytlflpjjmkigepaa", sum := "c629b121e346f965df0ab9ad0c5e2688e5251503596033173d6df68b82abf757", checked := Try.checked }
namespace Rows
def none {H : Type} : Left H := { results := [], args := [] }

/-- 'chrysalislaw19.PlainSaves': WHATEVER THE INPUT: true; the input reads as it did. -/
def plainSavesSpec : ChangeSpec := { name := "plainSaves", fn := fun _ => fun
  | [d1, d2] => { results := [.lit (.bool true)], args := [d1, d2] }
  | _ => none }
def plainSavesRow : OpenClaim := { program := "ytlflpjjmkigepaa", sum := "c629b121e346f965df0ab9ad0c5e2688e5251503596033173d6df68b82abf757", func := "chrysalis/chrysalislaw19.PlainSaves", spec := "plainSaves", unfollowed := true, recurses := true, plainKeys := false, apart := false }
def PlainSavesSaid : Prop := plainSavesRow.holds Try.pinned (OpenSpec.ofChange plainSavesSpec)

/-- ITS FALSE NEIGHBOUR: 'it returns false'. Refute it at one input. -/
def plainSavesWrong : ChangeSpec := { name := "plainSaves", fn := fun _ => fun
  | [d1, d2] => { results := [.lit (.bool false)], args := [d1, d2] }
  | _ => none }
def PlainSavesWrongFalsely : Prop := plainSavesRow.holds Try.pinned (OpenSpec.ofChange plainSavesWrong)

/-- 'chrysalislaw19.PlainRight': WHATEVER THE INPUT: true; the input reads as it did. -/
def plainRightSpec : ChangeSpec := { name := "plainRight", fn := fun _ => fun
  | [d] => { results := [.lit (.bool true)], args := [d] }
  | _ => none }
def plainRightRow : OpenClaim := { program := "ytlflpjjmkigepaa", sum := "c629b121e346f965df0ab9ad0c5e2688e5251503596033173d6df68b82abf757", func := "chrysalis/chrysalislaw19.PlainRight", spec := "plainRight", unfollowed := true, recurses := true, plainKeys := false, apart := false }
def PlainRightSaid : Prop := plainRightRow.holds Try.pinned (OpenSpec.ofChange plainRightSpec)

/-- ITS FALSE NEIGHBOUR: 'it returns false'. Refute it at one input. -/
def plainRightWrong : ChangeSpec := { name := "plainRight", fn := fun _ => fun
  | [d] => { results := [.lit (.bool false)], args := [d] }
  | _ => none }
def PlainRightWrongFalsely : Prop := plainRightRow.holds Try.pinned (OpenSpec.ofChange plainRightWrong)

/-- 'chrysalislaw19.PlainLoads': WHATEVER THE INPUT: true; the input reads as it did. -/
def plainLoadsSpec : ChangeSpec := { name := "plainLoads", fn := fun _ => fun
  | [d1, d2] => { results := [.lit (.bool true)], args := [d1, d2] }
  | _ => none }
def plainLoadsRow : OpenClaim := { program := "ytlflpjjmkigepaa", sum := "c629b121e346f965df0ab9ad0c5e2688e5251503596033173d6df68b82abf757", func := "chrysalis/chrysalislaw19.PlainLoads", spec := "plainLoads", unfollowed := true, recurses := true, plainKeys := false, apart := false }
def PlainLoadsSaid : Prop := plainLoadsRow.holds Try.pinned (OpenSpec.ofChange plainLoadsSpec)

/-- ITS FALSE NEIGHBOUR: 'it returns false'. Refute it at one input. -/
def plainLoadsWrong : ChangeSpec := { name := "plainLoads", fn := fun _ => fun
  | [d1, d2] => { results := [.lit (.bool false)], args := [d1, d2] }
  | _ => none }
def PlainLoadsWrongFalsely : Prop := plainLoadsRow.holds Try.pinned (OpenSpec.ofChange plainLoadsWrong)

/-- 'chrysalislaw19.PlainBack': WHATEVER THE INPUT: true; the input reads as it did. -/
def plainBackSpec : ChangeSpec := { name := "plainBack", fn := fun _ => fun
  | [d1, d2] => { results := [.lit (.bool true)], args := [d1, d2] }
  | _ => none }
def plainBackRow : OpenClaim := { program := "ytlflpjjmkigepaa", sum := "c629b121e346f965df0ab9ad0c5e2688e5251503596033173d6df68b82abf757", func := "chrysalis/chrysalislaw19.PlainBack", spec := "plainBack", unfollowed := true, recurses := true, plainKeys := false, apart := false }
def PlainBackSaid : Prop := plainBackRow.holds Try.pinned (OpenSpec.ofChange plainBackSpec)

/-- ITS FALSE NEIGHBOUR: 'it returns false'. Refute it at one input. -/
def plainBackWrong : ChangeSpec := { name := "plainBack", fn := fun _ => fun
  | [d1, d2] => { results := [.lit (.bool false)], args := [d1, d2] }
  | _ => none }
def PlainBackWrongFalsely : Prop := plainBackRow.holds Try.pinned (OpenSpec.ofChange plainBackWrong)

/-- 'chrysalislaw19.PlainOnly': WHATEVER THE INPUT: true; the input reads as it did. -/
def plainOnlySpec : ChangeSpec := { name := "plainOnly", fn := fun _ => fun
  | [d] => { results := [.lit (.bool true)], args := [d] }
  | _ => none }
def plainOnlyRow : OpenClaim := { program := "ytlflpjjmkigepaa", sum := "c629b121e346f965df0ab9ad0c5e2688e5251503596033173d6df68b82abf757", func := "chrysalis/chrysalislaw19.PlainOnly", spec := "plainOnly", unfollowed := true, recurses := true, plainKeys := false, apart := false }
def PlainOnlySaid : Prop := plainOnlyRow.holds Try.pinned (OpenSpec.ofChange plainOnlySpec)

/-- ITS FALSE NEIGHBOUR: 'it returns false'. Refute it at one input. -/
def plainOnlyWrong : ChangeSpec := { name := "plainOnly", fn := fun _ => fun
  | [d] => { results := [.lit (.bool false)], args := [d] }
  | _ => none }
def PlainOnlyWrongFalsely : Prop := plainOnlyRow.holds Try.pinned (OpenSpec.ofChange plainOnlyWrong)

/-- 'chrysalislaw19.PlainDeep': WHATEVER THE INPUT: true; the input reads as it did. -/
def plainDeepSpec : ChangeSpec := { name := "plainDeep", fn := fun _ => fun
  | [d1, d2] => { results := [.lit (.bool true)], args := [d1, d2] }
  | _ => none }
def plainDeepRow : OpenClaim := { program := "ytlflpjjmkigepaa", sum := "c629b121e346f965df0ab9ad0c5e2688e5251503596033173d6df68b82abf757", func := "chrysalis/chrysalislaw19.PlainDeep", spec := "plainDeep", unfollowed := true, recurses := true, plainKeys := false, apart := false }
def PlainDeepSaid : Prop := plainDeepRow.holds Try.pinned (OpenSpec.ofChange plainDeepSpec)

/-- ITS FALSE NEIGHBOUR: 'it returns false'. Refute it at one input. -/
def plainDeepWrong : ChangeSpec := { name := "plainDeep", fn := fun _ => fun
  | [d1, d2] => { results := [.lit (.bool false)], args := [d1, d2] }
  | _ => none }
def PlainDeepWrongFalsely : Prop := plainDeepRow.holds Try.pinned (OpenSpec.ofChange plainDeepWrong)

/- THE SECOND FORM. 'bulk': how many values and letters a reading holds, each counted each time it is reached (what is shared counts as often as it is met; a slice's spare places count too). A statement '..UptoSaid' is the law's where the arguments, and the package variables that the reading takes, are together of bulk at most 1048576: NARROWER than '..Said'. Prove '..Said' where nothing that the law and all that it calls make is longer than what came in: it says more and counts as full. Else prove '..UptoSaid'. A law counts once. -/
mutual
def uptoBulk {H : Type} : DataW H → Nat
  | .lit (.string bytes) => bytes.length + 1
  | .lit _ => 1
  | .nil => 1
  | .ptr d => uptoBulk d + 1
  | .slice elems spare => uptoBulkAll elems + uptoBulkAll spare + 1
  | .agg parts => uptoBulkAll parts + 1
  | .iface _ d => uptoBulk d + 1
  | .map entries => uptoBulkEntries entries + 1
  | .held _ => 1
def uptoBulkAll {H : Type} : List (DataW H) → Nat
  | [] => 0
  | d :: r => uptoBulk d + uptoBulkAll r
def uptoBulkEntries {H : Type} : List (Lit × DataW H) → Nat
  | [] => 0
  | x :: r => uptoBulkEntry x + uptoBulkEntries r
def uptoBulkEntry {H : Type} : Lit × DataW H → Nat
  | (.string bytes, d) => bytes.length + uptoBulk d + 1
  | (_, d) => uptoBulk d + 1
 end
def uptoSmall : (H : Type) → List (DataW H) → Bool := fun _ ds => decide (uptoBulkAll ds ≤ 1048576)
def OpenSpec.upto (s : _root_.Go.ChangeSpec) : _root_.Go.OpenSpec := { _root_.Go.OpenSpec.ofChange s with cond := some uptoSmall }

/-- 'chrysalislaw19.PlainSaves', WHERE WHAT IT READS IS OF BULK AT MOST 1048576: true; the input reads as it did. -/
def plainSavesUptoRow : OpenClaim := { program := "ytlflpjjmkigepaa", sum := "c629b121e346f965df0ab9ad0c5e2688e5251503596033173d6df68b82abf757", func := "chrysalis/chrysalislaw19.PlainSaves", spec := "plainSaves", unfollowed := true, recurses := true, plainKeys := false, apart := false, narrowed := true }
def PlainSavesUptoSaid : Prop := plainSavesUptoRow.holds Try.pinned (OpenSpec.upto plainSavesSpec)

/-- 'chrysalislaw19.PlainRight', WHERE WHAT IT READS IS OF BULK AT MOST 1048576: true; the input reads as it did. -/
def plainRightUptoRow : OpenClaim := { program := "ytlflpjjmkigepaa", sum := "c629b121e346f965df0ab9ad0c5e2688e5251503596033173d6df68b82abf757", func := "chrysalis/chrysalislaw19.PlainRight", spec := "plainRight", unfollowed := true, recurses := true, plainKeys := false, apart := false, narrowed := true }
def PlainRightUptoSaid : Prop := plainRightUptoRow.holds Try.pinned (OpenSpec.upto plainRightSpec)

/-- 'chrysalislaw19.PlainLoads', WHERE WHAT IT READS IS OF BULK AT MOST 1048576: true; the input reads as it did. -/
def plainLoadsUptoRow : OpenClaim := { program := "ytlflpjjmkigepaa", sum := "c629b121e346f965df0ab9ad0c5e2688e5251503596033173d6df68b82abf757", func := "chrysalis/chrysalislaw19.PlainLoads", spec := "plainLoads", unfollowed := true, recurses := true, plainKeys := false, apart := false, narrowed := true }
def PlainLoadsUptoSaid : Prop := plainLoadsUptoRow.holds Try.pinned (OpenSpec.upto plainLoadsSpec)

/-- 'chrysalislaw19.PlainBack', WHERE WHAT IT READS IS OF BULK AT MOST 1048576: true; the input reads as it did. -/
def plainBackUptoRow : OpenClaim := { program := "ytlflpjjmkigepaa", sum := "c629b121e346f965df0ab9ad0c5e2688e5251503596033173d6df68b82abf757", func := "chrysalis/chrysalislaw19.PlainBack", spec := "plainBack", unfollowed := true, recurses := true, plainKeys := false, apart := false, narrowed := true }
def PlainBackUptoSaid : Prop := plainBackUptoRow.holds Try.pinned (OpenSpec.upto plainBackSpec)

/-- 'chrysalislaw19.PlainOnly', WHERE WHAT IT READS IS OF BULK AT MOST 1048576: true; the input reads as it did. -/
def plainOnlyUptoRow : OpenClaim := { program := "ytlflpjjmkigepaa", sum := "c629b121e346f965df0ab9ad0c5e2688e5251503596033173d6df68b82abf757", func := "chrysalis/chrysalislaw19.PlainOnly", spec := "plainOnly", unfollowed := true, recurses := true, plainKeys := false, apart := false, narrowed := true }
def PlainOnlyUptoSaid : Prop := plainOnlyUptoRow.holds Try.pinned (OpenSpec.upto plainOnlySpec)

/-- 'chrysalislaw19.PlainDeep', WHERE WHAT IT READS IS OF BULK AT MOST 1048576: true; the input reads as it did. -/
def plainDeepUptoRow : OpenClaim := { program := "ytlflpjjmkigepaa", sum := "c629b121e346f965df0ab9ad0c5e2688e5251503596033173d6df68b82abf757", func := "chrysalis/chrysalislaw19.PlainDeep", spec := "plainDeep", unfollowed := true, recurses := true, plainKeys := false, apart := false, narrowed := true }
def PlainDeepUptoSaid : Prop := plainDeepUptoRow.holds Try.pinned (OpenSpec.upto plainDeepSpec)

end Rows
end Go.Proofs.Ytlflpjjmkigepaa
