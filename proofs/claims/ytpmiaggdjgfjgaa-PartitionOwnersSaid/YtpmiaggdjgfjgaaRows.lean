/-
  No cell of these rows narrows 'for every input' (looked for: loops, veiled, ifaces, maps, wideKeys, modest, calm, conditions, laid).
  DERIVED. THE GIVEN ROWS OF THIS SEAT. 5 by the template 'for every input the law returns true; each argument reads behind the call as it read before'; 0 by the template 'total and deterministic' (their statements: YtpmiaggdjgfjgaaTotals.lean).
  GIVEN WITH THE SEED: the statements are not yours to turn. If you find one false, say at which input.
  Laid BY PROGRAM, IN A SANDBOX (cutbox-rows.mjs): the forced cells as the released guide's own fill.sh prints them over the translation e93dd4e8a6c3bc66… (all of the seat's roots in one cut). By AI agents, Wed Nov 11 2026. No macro, syntax, notation, axiom, sorry.
-/
import Derived.Test.YtpmiaggdjgfjgaaChecked
import GoSem.Claim
import GoSem.ClaimJoined
import GoSem.ClaimMapViews
import Derived.JoinedTies
import Derived.KernelRfl
namespace Go.Proofs.Ytpmiaggdjgfjgaa
/- THE CELL 'sum', in the pinned program and in every row, IS THE sha256 OF THE DUMP (.gsa) THAT YtpmiaggdjgfjgaaProg.lean LOADS. Nothing in Lean hashes anything: it is a label: what it is worth is what the hold of that sum in a sandbox is worth. -/
noncomputable def Try.pinned : Pinned := { name := "ytpmiaggdjgfjgaa", sum := "e93dd4e8a6c3bc664019b257f42cb3a51fc60e41af8e678091a1a88b8da0e2cb", checked := Try.checked }
namespace Rows
def none {H : Type} : Left H := { results := [], args := [] }

/-- 'multihoplaw37.PartitionJoins': WHATEVER THE INPUT: true; the input reads as it did. -/
def partitionJoinsSpec : ChangeSpec := { name := "partitionJoins", fn := fun _ => fun
  | [d1, d2, d3, d4, d5, d6] => { results := [.lit (.bool true)], args := [d1, d2, d3, d4, d5, d6] }
  | _ => none }
def partitionJoinsRow : OpenClaim := { program := "ytpmiaggdjgfjgaa", sum := "e93dd4e8a6c3bc664019b257f42cb3a51fc60e41af8e678091a1a88b8da0e2cb", func := "multihop/multihoplaw37.PartitionJoins", spec := "partitionJoins", inPlace := ["internal/bytealg.Compare"], unfollowed := true, recurses := true, apart := false }
def PartitionJoinsSaid : Prop := partitionJoinsRow.holds Try.pinned (OpenSpec.ofChange partitionJoinsSpec)

/-- ITS FALSE NEIGHBOUR: 'it returns false'. Refute it at one input. -/
def partitionJoinsWrong : ChangeSpec := { name := "partitionJoins", fn := fun _ => fun
  | [d1, d2, d3, d4, d5, d6] => { results := [.lit (.bool false)], args := [d1, d2, d3, d4, d5, d6] }
  | _ => none }
def PartitionJoinsWrongFalsely : Prop := partitionJoinsRow.holds Try.pinned (OpenSpec.ofChange partitionJoinsWrong)

/-- 'multihoplaw37.PartitionMeets': WHATEVER THE INPUT: true; the input reads as it did. -/
def partitionMeetsSpec : ChangeSpec := { name := "partitionMeets", fn := fun _ => fun
  | [d] => { results := [.lit (.bool true)], args := [d] }
  | _ => none }
def partitionMeetsRow : OpenClaim := { program := "ytpmiaggdjgfjgaa", sum := "e93dd4e8a6c3bc664019b257f42cb3a51fc60e41af8e678091a1a88b8da0e2cb", func := "multihop/multihoplaw37.PartitionMeets", spec := "partitionMeets", inPlace := ["internal/bytealg.Compare"], unfollowed := true, recurses := true, apart := false }
def PartitionMeetsSaid : Prop := partitionMeetsRow.holds Try.pinned (OpenSpec.ofChange partitionMeetsSpec)

/-- ITS FALSE NEIGHBOUR: 'it returns false'. Refute it at one input. -/
def partitionMeetsWrong : ChangeSpec := { name := "partitionMeets", fn := fun _ => fun
  | [d] => { results := [.lit (.bool false)], args := [d] }
  | _ => none }
def PartitionMeetsWrongFalsely : Prop := partitionMeetsRow.holds Try.pinned (OpenSpec.ofChange partitionMeetsWrong)

/-- 'multihoplaw37.PartitionLeaves': WHATEVER THE INPUT: true; the input reads as it did. -/
def partitionLeavesSpec : ChangeSpec := { name := "partitionLeaves", fn := fun _ => fun
  | [d1, d2, d3] => { results := [.lit (.bool true)], args := [d1, d2, d3] }
  | _ => none }
def partitionLeavesRow : OpenClaim := { program := "ytpmiaggdjgfjgaa", sum := "e93dd4e8a6c3bc664019b257f42cb3a51fc60e41af8e678091a1a88b8da0e2cb", func := "multihop/multihoplaw37.PartitionLeaves", spec := "partitionLeaves", inPlace := ["internal/bytealg.Compare"], unfollowed := true, recurses := true, apart := false }
def PartitionLeavesSaid : Prop := partitionLeavesRow.holds Try.pinned (OpenSpec.ofChange partitionLeavesSpec)

/-- ITS FALSE NEIGHBOUR: 'it returns false'. Refute it at one input. -/
def partitionLeavesWrong : ChangeSpec := { name := "partitionLeaves", fn := fun _ => fun
  | [d1, d2, d3] => { results := [.lit (.bool false)], args := [d1, d2, d3] }
  | _ => none }
def PartitionLeavesWrongFalsely : Prop := partitionLeavesRow.holds Try.pinned (OpenSpec.ofChange partitionLeavesWrong)

/-- 'multihoplaw37.PartitionParts': WHATEVER THE INPUT: true; the input reads as it did. -/
def partitionPartsSpec : ChangeSpec := { name := "partitionParts", fn := fun _ => fun
  | [d] => { results := [.lit (.bool true)], args := [d] }
  | _ => none }
def partitionPartsRow : OpenClaim := { program := "ytpmiaggdjgfjgaa", sum := "e93dd4e8a6c3bc664019b257f42cb3a51fc60e41af8e678091a1a88b8da0e2cb", func := "multihop/multihoplaw37.PartitionParts", spec := "partitionParts", inPlace := ["internal/bytealg.Compare"], unfollowed := true, recurses := true, apart := false }
def PartitionPartsSaid : Prop := partitionPartsRow.holds Try.pinned (OpenSpec.ofChange partitionPartsSpec)

/-- ITS FALSE NEIGHBOUR: 'it returns false'. Refute it at one input. -/
def partitionPartsWrong : ChangeSpec := { name := "partitionParts", fn := fun _ => fun
  | [d] => { results := [.lit (.bool false)], args := [d] }
  | _ => none }
def PartitionPartsWrongFalsely : Prop := partitionPartsRow.holds Try.pinned (OpenSpec.ofChange partitionPartsWrong)

/-- 'multihoplaw37.PartitionOwners': WHATEVER THE INPUT: true; the input reads as it did. -/
def partitionOwnersSpec : ChangeSpec := { name := "partitionOwners", fn := fun _ => fun
  | [d] => { results := [.lit (.bool true)], args := [d] }
  | _ => none }
def partitionOwnersRow : OpenClaim := { program := "ytpmiaggdjgfjgaa", sum := "e93dd4e8a6c3bc664019b257f42cb3a51fc60e41af8e678091a1a88b8da0e2cb", func := "multihop/multihoplaw37.PartitionOwners", spec := "partitionOwners", inPlace := ["internal/bytealg.Compare", "slices.overlaps[multihop/api.Claim]"], unfollowed := true, recurses := true, apart := false }
def PartitionOwnersSaid : Prop := partitionOwnersRow.holds Try.pinned (OpenSpec.ofChange partitionOwnersSpec)

/-- ITS FALSE NEIGHBOUR: 'it returns false'. Refute it at one input. -/
def partitionOwnersWrong : ChangeSpec := { name := "partitionOwners", fn := fun _ => fun
  | [d] => { results := [.lit (.bool false)], args := [d] }
  | _ => none }
def PartitionOwnersWrongFalsely : Prop := partitionOwnersRow.holds Try.pinned (OpenSpec.ofChange partitionOwnersWrong)

/- THE SECOND FORM. 'bulk': how many values and letters a reading holds, each counted each time it is reached (what is shared counts as often as it is met; a slice's spare places count too). A statement '..UptoSaid' is the law's where the arguments, and the package variables that the reading takes, are together of bulk at most 1048576: NARROWER than '..Said'. Prove '..Said' where nothing that the law and all that it calls make is longer than what came in: it says more and counts as full. Else prove '..UptoSaid'. A law counts once. -/
mutual
def uptoBulk {H : Type} : DataW H → Nat
  | .lit (.string bytes) => bytes.length + 1
  | .lit _ => 1
  | .nil => 1
  | .ptr d => uptoBulk d + 1
  | .slice elems spare => uptoBulkAll elems + uptoBulkAll spare + 1
  | .agg parts => uptoBulkAll parts + 1
  | .iface _ d => uptoBulk d + 1
  | .map entries => uptoBulkEntries entries + 1
  | .held _ => 1
def uptoBulkAll {H : Type} : List (DataW H) → Nat
  | [] => 0
  | d :: r => uptoBulk d + uptoBulkAll r
def uptoBulkEntries {H : Type} : List (Lit × DataW H) → Nat
  | [] => 0
  | x :: r => uptoBulkEntry x + uptoBulkEntries r
def uptoBulkEntry {H : Type} : Lit × DataW H → Nat
  | (.string bytes, d) => bytes.length + uptoBulk d + 1
  | (_, d) => uptoBulk d + 1
 end
def uptoSmall : (H : Type) → List (DataW H) → Bool := fun _ ds => decide (uptoBulkAll ds ≤ 1048576)
def OpenSpec.upto (s : _root_.Go.ChangeSpec) : _root_.Go.OpenSpec := { _root_.Go.OpenSpec.ofChange s with cond := some uptoSmall }

/-- 'multihoplaw37.PartitionJoins', WHERE WHAT IT READS IS OF BULK AT MOST 1048576: true; the input reads as it did. -/
def partitionJoinsUptoRow : OpenClaim := { program := "ytpmiaggdjgfjgaa", sum := "e93dd4e8a6c3bc664019b257f42cb3a51fc60e41af8e678091a1a88b8da0e2cb", func := "multihop/multihoplaw37.PartitionJoins", spec := "partitionJoins", inPlace := ["internal/bytealg.Compare"], unfollowed := true, recurses := true, apart := false, narrowed := true }
def PartitionJoinsUptoSaid : Prop := partitionJoinsUptoRow.holds Try.pinned (OpenSpec.upto partitionJoinsSpec)

/-- 'multihoplaw37.PartitionMeets', WHERE WHAT IT READS IS OF BULK AT MOST 1048576: true; the input reads as it did. -/
def partitionMeetsUptoRow : OpenClaim := { program := "ytpmiaggdjgfjgaa", sum := "e93dd4e8a6c3bc664019b257f42cb3a51fc60e41af8e678091a1a88b8da0e2cb", func := "multihop/multihoplaw37.PartitionMeets", spec := "partitionMeets", inPlace := ["internal/bytealg.Compare"], unfollowed := true, recurses := true, apart := false, narrowed := true }
def PartitionMeetsUptoSaid : Prop := partitionMeetsUptoRow.holds Try.pinned (OpenSpec.upto partitionMeetsSpec)

/-- 'multihoplaw37.PartitionLeaves', WHERE WHAT IT READS IS OF BULK AT MOST 1048576: true; the input reads as it did. -/
def partitionLeavesUptoRow : OpenClaim := { program := "ytpmiaggdjgfjgaa", sum := "e93dd4e8a6c3bc664019b257f42cb3a51fc60e41af8e678091a1a88b8da0e2cb", func := "multihop/multihoplaw37.PartitionLeaves", spec := "partitionLeaves", inPlace := ["internal/bytealg.Compare"], unfollowed := true, recurses := true, apart := false, narrowed := true }
def PartitionLeavesUptoSaid : Prop := partitionLeavesUptoRow.holds Try.pinned (OpenSpec.upto partitionLeavesSpec)

/-- 'multihoplaw37.PartitionParts', WHERE WHAT IT READS IS OF BULK AT MOST 1048576: true; the input reads as it did. -/
def partitionPartsUptoRow : OpenClaim := { program := "ytpmiaggdjgfjgaa", sum := "e93dd4e8a6c3bc664019b257f42cb3a51fc60e41af8e678091a1a88b8da0e2cb", func := "multihop/multihoplaw37.PartitionParts", spec := "partitionParts", inPlace := ["internal/bytealg.Compare"], unfollowed := true, recurses := true, apart := false, narrowed := true }
def PartitionPartsUptoSaid : Prop := partitionPartsUptoRow.holds Try.pinned (OpenSpec.upto partitionPartsSpec)

/-- 'multihoplaw37.PartitionOwners', WHERE WHAT IT READS IS OF BULK AT MOST 1048576: true; the input reads as it did. -/
def partitionOwnersUptoRow : OpenClaim := { program := "ytpmiaggdjgfjgaa", sum := "e93dd4e8a6c3bc664019b257f42cb3a51fc60e41af8e678091a1a88b8da0e2cb", func := "multihop/multihoplaw37.PartitionOwners", spec := "partitionOwners", inPlace := ["internal/bytealg.Compare", "slices.overlaps[multihop/api.Claim]"], unfollowed := true, recurses := true, apart := false, narrowed := true }
def PartitionOwnersUptoSaid : Prop := partitionOwnersUptoRow.holds Try.pinned (OpenSpec.upto partitionOwnersSpec)

end Rows
end Go.Proofs.Ytpmiaggdjgfjgaa
