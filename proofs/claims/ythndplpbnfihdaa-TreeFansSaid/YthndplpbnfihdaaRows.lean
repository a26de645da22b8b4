/-
  No cell of these rows narrows 'for every input' (looked for: loops, veiled, ifaces, maps, wideKeys, modest, calm, conditions, laid).
  DERIVED. THE GIVEN ROWS OF THIS SEAT. 6 by the template 'for every input the law returns true; each argument reads behind the call as it read before'; 0 by the template 'total and deterministic' (their statements: YthndplpbnfihdaaTotals.lean).
  GIVEN WITH THE SEED: the statements are not yours to turn. If you find one false, say at which input.
  Laid BY PROGRAM, IN A SANDBOX (cutbox-rows.mjs): the forced cells as the released guide's own fill.sh prints them over the translation f7c4cfba9be6dfd4… (all of the seat's roots in one cut). By AI agents, Wed Nov 11 2026. No macro, syntax, notation, axiom, sorry.
-/
import Derived.Test.YthndplpbnfihdaaChecked
import GoSem.Claim
import GoSem.ClaimJoined
import GoSem.ClaimMapViews
import Derived.JoinedTies
import Derived.KernelRfl
namespace Go.Proofs.Ythndplpbnfihdaa
/- THE CELL 'sum', in the pinned program and in every row, IS THE sha256 OF THE DUMP (.gsa) THAT YthndplpbnfihdaaProg.lean LOADS. Nothing in Lean hashes anything: it is a label: what it is worth is what the hold of that sum in a sandbox is worth. -/
noncomputable def Try.pinned : Pinned := { name := "ythndplpbnfihdaa", sum := "f7c4cfba9be6dfd4eccc652cbc5571a918f012b6e48084c7abe5e23763875f0d", checked := Try.checked }
namespace Rows
def none {H : Type} : Left H := { results := [], args := [] }

/-- 'umlautlaw15.TreeThrough': WHATEVER THE INPUT: true; the input reads as it did. -/
def treeThroughSpec : ChangeSpec := { name := "treeThrough", fn := fun _ => fun
  | [d1, d2] => { results := [.lit (.bool true)], args := [d1, d2] }
  | _ => none }
def treeThroughRow : OpenClaim := { program := "ythndplpbnfihdaa", sum := "f7c4cfba9be6dfd4eccc652cbc5571a918f012b6e48084c7abe5e23763875f0d", func := "umlaut/umlautlaw15.TreeThrough", spec := "treeThrough", inPlace := ["slices.overlaps[string]", "slices.overlaps[int]", "slices.overlaps[*umlaut/btree.node]"], unfollowed := true, recurses := true, apart := false }
def TreeThroughSaid : Prop := treeThroughRow.holds Try.pinned (OpenSpec.ofChange treeThroughSpec)

/-- ITS FALSE NEIGHBOUR: 'it returns false'. Refute it at one input. -/
def treeThroughWrong : ChangeSpec := { name := "treeThrough", fn := fun _ => fun
  | [d1, d2] => { results := [.lit (.bool false)], args := [d1, d2] }
  | _ => none }
def TreeThroughWrongFalsely : Prop := treeThroughRow.holds Try.pinned (OpenSpec.ofChange treeThroughWrong)

/-- 'umlautlaw15.TreeEmpties': WHATEVER THE INPUT: true; the input reads as it did. -/
def treeEmptiesSpec : ChangeSpec := { name := "treeEmpties", fn := fun _ => fun
  | [d1, d2, d3, d4] => { results := [.lit (.bool true)], args := [d1, d2, d3, d4] }
  | _ => none }
def treeEmptiesRow : OpenClaim := { program := "ythndplpbnfihdaa", sum := "f7c4cfba9be6dfd4eccc652cbc5571a918f012b6e48084c7abe5e23763875f0d", func := "umlaut/umlautlaw15.TreeEmpties", spec := "treeEmpties", inPlace := ["slices.overlaps[string]", "slices.overlaps[int]", "slices.overlaps[*umlaut/btree.node]"], unfollowed := true, recurses := true, apart := false }
def TreeEmptiesSaid : Prop := treeEmptiesRow.holds Try.pinned (OpenSpec.ofChange treeEmptiesSpec)

/-- ITS FALSE NEIGHBOUR: 'it returns false'. Refute it at one input. -/
def treeEmptiesWrong : ChangeSpec := { name := "treeEmpties", fn := fun _ => fun
  | [d1, d2, d3, d4] => { results := [.lit (.bool false)], args := [d1, d2, d3, d4] }
  | _ => none }
def TreeEmptiesWrongFalsely : Prop := treeEmptiesRow.holds Try.pinned (OpenSpec.ofChange treeEmptiesWrong)

/-- 'umlautlaw15.TreePlays': WHATEVER THE INPUT: true; the input reads as it did. -/
def treePlaysSpec : ChangeSpec := { name := "treePlays", fn := fun _ => fun
  | [d1, d2] => { results := [.lit (.bool true)], args := [d1, d2] }
  | _ => none }
def treePlaysRow : OpenClaim := { program := "ythndplpbnfihdaa", sum := "f7c4cfba9be6dfd4eccc652cbc5571a918f012b6e48084c7abe5e23763875f0d", func := "umlaut/umlautlaw15.TreePlays", spec := "treePlays", inPlace := ["slices.overlaps[string]", "slices.overlaps[int]", "slices.overlaps[*umlaut/btree.node]"], unfollowed := true, recurses := true, apart := false }
def TreePlaysSaid : Prop := treePlaysRow.holds Try.pinned (OpenSpec.ofChange treePlaysSpec)

/-- ITS FALSE NEIGHBOUR: 'it returns false'. Refute it at one input. -/
def treePlaysWrong : ChangeSpec := { name := "treePlays", fn := fun _ => fun
  | [d1, d2] => { results := [.lit (.bool false)], args := [d1, d2] }
  | _ => none }
def TreePlaysWrongFalsely : Prop := treePlaysRow.holds Try.pinned (OpenSpec.ofChange treePlaysWrong)

/-- 'umlautlaw15.TreeRanges': WHATEVER THE INPUT: true; the input reads as it did. -/
def treeRangesSpec : ChangeSpec := { name := "treeRanges", fn := fun _ => fun
  | [d1, d2, d3, d4, d5, d6] => { results := [.lit (.bool true)], args := [d1, d2, d3, d4, d5, d6] }
  | _ => none }
def treeRangesRow : OpenClaim := { program := "ythndplpbnfihdaa", sum := "f7c4cfba9be6dfd4eccc652cbc5571a918f012b6e48084c7abe5e23763875f0d", func := "umlaut/umlautlaw15.TreeRanges", spec := "treeRanges", inPlace := ["slices.overlaps[string]", "slices.overlaps[int]", "slices.overlaps[*umlaut/btree.node]"], unfollowed := true, recurses := true, apart := false }
def TreeRangesSaid : Prop := treeRangesRow.holds Try.pinned (OpenSpec.ofChange treeRangesSpec)

/-- ITS FALSE NEIGHBOUR: 'it returns false'. Refute it at one input. -/
def treeRangesWrong : ChangeSpec := { name := "treeRanges", fn := fun _ => fun
  | [d1, d2, d3, d4, d5, d6] => { results := [.lit (.bool false)], args := [d1, d2, d3, d4, d5, d6] }
  | _ => none }
def TreeRangesWrongFalsely : Prop := treeRangesRow.holds Try.pinned (OpenSpec.ofChange treeRangesWrong)

/-- 'umlautlaw15.TreeFans': WHATEVER THE INPUT: true; the input reads as it did. -/
def treeFansSpec : ChangeSpec := { name := "treeFans", fn := fun _ => fun
  | [d1, d2] => { results := [.lit (.bool true)], args := [d1, d2] }
  | _ => none }
def treeFansRow : OpenClaim := { program := "ythndplpbnfihdaa", sum := "f7c4cfba9be6dfd4eccc652cbc5571a918f012b6e48084c7abe5e23763875f0d", func := "umlaut/umlautlaw15.TreeFans", spec := "treeFans", inPlace := ["slices.overlaps[string]", "slices.overlaps[int]", "slices.overlaps[*umlaut/btree.node]"], unfollowed := true, recurses := true, apart := false }
def TreeFansSaid : Prop := treeFansRow.holds Try.pinned (OpenSpec.ofChange treeFansSpec)

/-- ITS FALSE NEIGHBOUR: 'it returns false'. Refute it at one input. -/
def treeFansWrong : ChangeSpec := { name := "treeFans", fn := fun _ => fun
  | [d1, d2] => { results := [.lit (.bool false)], args := [d1, d2] }
  | _ => none }
def TreeFansWrongFalsely : Prop := treeFansRow.holds Try.pinned (OpenSpec.ofChange treeFansWrong)

/-- 'umlautlaw15.TreeSeeks': WHATEVER THE INPUT: true; the input reads as it did. -/
def treeSeeksSpec : ChangeSpec := { name := "treeSeeks", fn := fun _ => fun
  | [d1, d2, d3, d4, d5] => { results := [.lit (.bool true)], args := [d1, d2, d3, d4, d5] }
  | _ => none }
def treeSeeksRow : OpenClaim := { program := "ythndplpbnfihdaa", sum := "f7c4cfba9be6dfd4eccc652cbc5571a918f012b6e48084c7abe5e23763875f0d", func := "umlaut/umlautlaw15.TreeSeeks", spec := "treeSeeks", inPlace := ["slices.overlaps[string]", "slices.overlaps[int]", "slices.overlaps[*umlaut/btree.node]"], unfollowed := true, recurses := true, apart := false }
def TreeSeeksSaid : Prop := treeSeeksRow.holds Try.pinned (OpenSpec.ofChange treeSeeksSpec)

/-- ITS FALSE NEIGHBOUR: 'it returns false'. Refute it at one input. -/
def treeSeeksWrong : ChangeSpec := { name := "treeSeeks", fn := fun _ => fun
  | [d1, d2, d3, d4, d5] => { results := [.lit (.bool false)], args := [d1, d2, d3, d4, d5] }
  | _ => none }
def TreeSeeksWrongFalsely : Prop := treeSeeksRow.holds Try.pinned (OpenSpec.ofChange treeSeeksWrong)

/- THE SECOND FORM. 'bulk': how many values and letters a reading holds, each counted each time it is reached (what is shared counts as often as it is met; a slice's spare places count too). A statement '..UptoSaid' is the law's where the arguments, and the package variables that the reading takes, are together of bulk at most 1048576: NARROWER than '..Said'. Prove '..Said' where nothing that the law and all that it calls make is longer than what came in: it says more and counts as full. Else prove '..UptoSaid'. A law counts once. -/
mutual
def uptoBulk {H : Type} : DataW H → Nat
  | .lit (.string bytes) => bytes.length + 1
  | .lit _ => 1
  | .nil => 1
  | .ptr d => uptoBulk d + 1
  | .slice elems spare => uptoBulkAll elems + uptoBulkAll spare + 1
  | .agg parts => uptoBulkAll parts + 1
  | .iface _ d => uptoBulk d + 1
  | .map entries => uptoBulkEntries entries + 1
  | .held _ => 1
def uptoBulkAll {H : Type} : List (DataW H) → Nat
  | [] => 0
  | d :: r => uptoBulk d + uptoBulkAll r
def uptoBulkEntries {H : Type} : List (Lit × DataW H) → Nat
  | [] => 0
  | x :: r => uptoBulkEntry x + uptoBulkEntries r
def uptoBulkEntry {H : Type} : Lit × DataW H → Nat
  | (.string bytes, d) => bytes.length + uptoBulk d + 1
  | (_, d) => uptoBulk d + 1
 end
def uptoSmall : (H : Type) → List (DataW H) → Bool := fun _ ds => decide (uptoBulkAll ds ≤ 1048576)
def OpenSpec.upto (s : _root_.Go.ChangeSpec) : _root_.Go.OpenSpec := { _root_.Go.OpenSpec.ofChange s with cond := some uptoSmall }

/-- 'umlautlaw15.TreeThrough', WHERE WHAT IT READS IS OF BULK AT MOST 1048576: true; the input reads as it did. -/
def treeThroughUptoRow : OpenClaim := { program := "ythndplpbnfihdaa", sum := "f7c4cfba9be6dfd4eccc652cbc5571a918f012b6e48084c7abe5e23763875f0d", func := "umlaut/umlautlaw15.TreeThrough", spec := "treeThrough", inPlace := ["slices.overlaps[string]", "slices.overlaps[int]", "slices.overlaps[*umlaut/btree.node]"], unfollowed := true, recurses := true, apart := false, narrowed := true }
def TreeThroughUptoSaid : Prop := treeThroughUptoRow.holds Try.pinned (OpenSpec.upto treeThroughSpec)

/-- 'umlautlaw15.TreeEmpties', WHERE WHAT IT READS IS OF BULK AT MOST 1048576: true; the input reads as it did. -/
def treeEmptiesUptoRow : OpenClaim := { program := "ythndplpbnfihdaa", sum := "f7c4cfba9be6dfd4eccc652cbc5571a918f012b6e48084c7abe5e23763875f0d", func := "umlaut/umlautlaw15.TreeEmpties", spec := "treeEmpties", inPlace := ["slices.overlaps[string]", "slices.overlaps[int]", "slices.overlaps[*umlaut/btree.node]"], unfollowed := true, recurses := true, apart := false, narrowed := true }
def TreeEmptiesUptoSaid : Prop := treeEmptiesUptoRow.holds Try.pinned (OpenSpec.upto treeEmptiesSpec)

/-- 'umlautlaw15.TreePlays', WHERE WHAT IT READS IS OF BULK AT MOST 1048576: true; the input reads as it did. -/
def treePlaysUptoRow : OpenClaim := { program := "ythndplpbnfihdaa", sum := "f7c4cfba9be6dfd4eccc652cbc5571a918f012b6e48084c7abe5e23763875f0d", func := "umlaut/umlautlaw15.TreePlays", spec := "treePlays", inPlace := ["slices.overlaps[string]", "slices.overlaps[int]", "slices.overlaps[*umlaut/btree.node]"], unfollowed := true, recurses := true, apart := false, narrowed := true }
def TreePlaysUptoSaid : Prop := treePlaysUptoRow.holds Try.pinned (OpenSpec.upto treePlaysSpec)

/-- 'umlautlaw15.TreeRanges', WHERE WHAT IT READS IS OF BULK AT MOST 1048576: true; the input reads as it did. -/
def treeRangesUptoRow : OpenClaim := { program := "ythndplpbnfihdaa", sum := "f7c4cfba9be6dfd4eccc652cbc5571a918f012b6e48084c7abe5e23763875f0d", func := "umlaut/umlautlaw15.TreeRanges", spec := "treeRanges", inPlace := ["slices.overlaps[string]", "slices.overlaps[int]", "slices.overlaps[*umlaut/btree.node]"], unfollowed := true, recurses := true, apart := false, narrowed := true }
def TreeRangesUptoSaid : Prop := treeRangesUptoRow.holds Try.pinned (OpenSpec.upto treeRangesSpec)

/-- 'umlautlaw15.TreeFans', WHERE WHAT IT READS IS OF BULK AT MOST 1048576: true; the input reads as it did. -/
def treeFansUptoRow : OpenClaim := { program := "ythndplpbnfihdaa", sum := "f7c4cfba9be6dfd4eccc652cbc5571a918f012b6e48084c7abe5e23763875f0d", func := "umlaut/umlautlaw15.TreeFans", spec := "treeFans", inPlace := ["slices.overlaps[string]", "slices.overlaps[int]", "slices.overlaps[*umlaut/btree.node]"], unfollowed := true, recurses := true, apart := false, narrowed := true }
def TreeFansUptoSaid : Prop := treeFansUptoRow.holds Try.pinned (OpenSpec.upto treeFansSpec)

/-- 'umlautlaw15.TreeSeeks', WHERE WHAT IT READS IS OF BULK AT MOST 1048576: true; the input reads as it did. -/
def treeSeeksUptoRow : OpenClaim := { program := "ythndplpbnfihdaa", sum := "f7c4cfba9be6dfd4eccc652cbc5571a918f012b6e48084c7abe5e23763875f0d", func := "umlaut/umlautlaw15.TreeSeeks", spec := "treeSeeks", inPlace := ["slices.overlaps[string]", "slices.overlaps[int]", "slices.overlaps[*umlaut/btree.node]"], unfollowed := true, recurses := true, apart := false, narrowed := true }
def TreeSeeksUptoSaid : Prop := treeSeeksUptoRow.holds Try.pinned (OpenSpec.upto treeSeeksSpec)

end Rows
end Go.Proofs.Ythndplpbnfihdaa
