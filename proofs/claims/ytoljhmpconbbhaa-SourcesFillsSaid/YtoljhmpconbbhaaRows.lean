/-
  No cell of these rows narrows 'for every input' (looked for: loops, veiled, ifaces, maps, wideKeys, modest, calm, conditions, laid).
  DERIVED. THE GIVEN ROWS OF THIS SEAT. 6 by the template 'for every input the law returns true; each argument reads behind the call as it read before'; 0 by the template 'total and deterministic' (their statements: YtoljhmpconbbhaaTotals.lean).
  GIVEN WITH THE SEED: the statements are not yours to turn. If you find one false, say at which input.
  Laid BY PROGRAM, IN A SANDBOX (cutbox-rows.mjs): the forced cells as the released guide's own fill.sh prints them over the translation 6d28b9ebb03f5914… (all of the seat's roots in one cut). By AI agents, Wed Nov 11 2026. No macro, syntax, notation, axiom, sorry.
-/
import Derived.Test.YtoljhmpconbbhaaChecked
import GoSem.Claim
import GoSem.ClaimJoined
import GoSem.ClaimMapViews
import Derived.JoinedTies
import Derived.KernelRfl
namespace Go.Proofs.Ytoljhmpconbbhaa
/- THE CELL 'sum', in the pinned program and in every row, IS THE sha256 OF THE DUMP (.gsa) THAT YtoljhmpconbbhaaProg.lean LOADS. Nothing in Lean hashes anything: it is a label: what it is worth is what the hold of that sum in a sandbox is worth. -/
noncomputable def Try.pinned : Pinned := { name := "ytoljhmpconbbhaa", sum := "6d28b9ebb03f59149812bf67aca81c3c4751047653320e91c0f210991f15a68e", checked := Try.checked }
namespace Rows
def none {H : Type} : Left H := { results := [], args := [] }

/-- 'multihoplaw26.SourcesOrders': WHATEVER THE INPUT: true; the input reads as it did. -/
def sourcesOrdersSpec : ChangeSpec := { name := "sourcesOrders", fn := fun _ => fun
  | [d1, d2, d3] => { results := [.lit (.bool true)], args := [d1, d2, d3] }
  | _ => none }
def sourcesOrdersRow : OpenClaim := { program := "ytoljhmpconbbhaa", sum := "6d28b9ebb03f59149812bf67aca81c3c4751047653320e91c0f210991f15a68e", func := "multihop/multihoplaw26.SourcesOrders", spec := "sourcesOrders", inPlace := ["internal/bytealg.Compare", "slices.overlaps[multihop/api.Source]"], unfollowed := true, recurses := true, apart := false }
def SourcesOrdersSaid : Prop := sourcesOrdersRow.holds Try.pinned (OpenSpec.ofChange sourcesOrdersSpec)

/-- ITS FALSE NEIGHBOUR: 'it returns false'. Refute it at one input. -/
def sourcesOrdersWrong : ChangeSpec := { name := "sourcesOrders", fn := fun _ => fun
  | [d1, d2, d3] => { results := [.lit (.bool false)], args := [d1, d2, d3] }
  | _ => none }
def SourcesOrdersWrongFalsely : Prop := sourcesOrdersRow.holds Try.pinned (OpenSpec.ofChange sourcesOrdersWrong)

/-- 'multihoplaw26.SourcesFall': WHATEVER THE INPUT: true; the input reads as it did. -/
def sourcesFallSpec : ChangeSpec := { name := "sourcesFall", fn := fun _ => fun
  | [d] => { results := [.lit (.bool true)], args := [d] }
  | _ => none }
def sourcesFallRow : OpenClaim := { program := "ytoljhmpconbbhaa", sum := "6d28b9ebb03f59149812bf67aca81c3c4751047653320e91c0f210991f15a68e", func := "multihop/multihoplaw26.SourcesFall", spec := "sourcesFall", inPlace := ["internal/bytealg.Compare", "slices.overlaps[multihop/api.Source]"], unfollowed := true, recurses := true, apart := false }
def SourcesFallSaid : Prop := sourcesFallRow.holds Try.pinned (OpenSpec.ofChange sourcesFallSpec)

/-- ITS FALSE NEIGHBOUR: 'it returns false'. Refute it at one input. -/
def sourcesFallWrong : ChangeSpec := { name := "sourcesFall", fn := fun _ => fun
  | [d] => { results := [.lit (.bool false)], args := [d] }
  | _ => none }
def SourcesFallWrongFalsely : Prop := sourcesFallRow.holds Try.pinned (OpenSpec.ofChange sourcesFallWrong)

/-- 'multihoplaw26.SourcesRecords': WHATEVER THE INPUT: true; the input reads as it did. -/
def sourcesRecordsSpec : ChangeSpec := { name := "sourcesRecords", fn := fun _ => fun
  | [d1, d2, d3, d4, d5] => { results := [.lit (.bool true)], args := [d1, d2, d3, d4, d5] }
  | _ => none }
def sourcesRecordsRow : OpenClaim := { program := "ytoljhmpconbbhaa", sum := "6d28b9ebb03f59149812bf67aca81c3c4751047653320e91c0f210991f15a68e", func := "multihop/multihoplaw26.SourcesRecords", spec := "sourcesRecords", inPlace := ["internal/bytealg.Compare", "slices.overlaps[multihop/api.Source]"], unfollowed := true, recurses := true, apart := false }
def SourcesRecordsSaid : Prop := sourcesRecordsRow.holds Try.pinned (OpenSpec.ofChange sourcesRecordsSpec)

/-- ITS FALSE NEIGHBOUR: 'it returns false'. Refute it at one input. -/
def sourcesRecordsWrong : ChangeSpec := { name := "sourcesRecords", fn := fun _ => fun
  | [d1, d2, d3, d4, d5] => { results := [.lit (.bool false)], args := [d1, d2, d3, d4, d5] }
  | _ => none }
def SourcesRecordsWrongFalsely : Prop := sourcesRecordsRow.holds Try.pinned (OpenSpec.ofChange sourcesRecordsWrong)

/-- 'multihoplaw26.SourcesBound': WHATEVER THE INPUT: true; the input reads as it did. -/
def sourcesBoundSpec : ChangeSpec := { name := "sourcesBound", fn := fun _ => fun
  | [d1, d2, d3, d4] => { results := [.lit (.bool true)], args := [d1, d2, d3, d4] }
  | _ => none }
def sourcesBoundRow : OpenClaim := { program := "ytoljhmpconbbhaa", sum := "6d28b9ebb03f59149812bf67aca81c3c4751047653320e91c0f210991f15a68e", func := "multihop/multihoplaw26.SourcesBound", spec := "sourcesBound", inPlace := ["internal/bytealg.Compare", "slices.overlaps[multihop/api.Source]"], unfollowed := true, recurses := true, apart := false }
def SourcesBoundSaid : Prop := sourcesBoundRow.holds Try.pinned (OpenSpec.ofChange sourcesBoundSpec)

/-- ITS FALSE NEIGHBOUR: 'it returns false'. Refute it at one input. -/
def sourcesBoundWrong : ChangeSpec := { name := "sourcesBound", fn := fun _ => fun
  | [d1, d2, d3, d4] => { results := [.lit (.bool false)], args := [d1, d2, d3, d4] }
  | _ => none }
def SourcesBoundWrongFalsely : Prop := sourcesBoundRow.holds Try.pinned (OpenSpec.ofChange sourcesBoundWrong)

/-- 'multihoplaw26.SourcesFills': WHATEVER THE INPUT: true; the input reads as it did. -/
def sourcesFillsSpec : ChangeSpec := { name := "sourcesFills", fn := fun _ => fun
  | [d1, d2] => { results := [.lit (.bool true)], args := [d1, d2] }
  | _ => none }
def sourcesFillsRow : OpenClaim := { program := "ytoljhmpconbbhaa", sum := "6d28b9ebb03f59149812bf67aca81c3c4751047653320e91c0f210991f15a68e", func := "multihop/multihoplaw26.SourcesFills", spec := "sourcesFills", inPlace := ["internal/bytealg.Compare", "slices.overlaps[multihop/api.Source]"], unfollowed := true, recurses := true, apart := false }
def SourcesFillsSaid : Prop := sourcesFillsRow.holds Try.pinned (OpenSpec.ofChange sourcesFillsSpec)

/-- ITS FALSE NEIGHBOUR: 'it returns false'. Refute it at one input. -/
def sourcesFillsWrong : ChangeSpec := { name := "sourcesFills", fn := fun _ => fun
  | [d1, d2] => { results := [.lit (.bool false)], args := [d1, d2] }
  | _ => none }
def SourcesFillsWrongFalsely : Prop := sourcesFillsRow.holds Try.pinned (OpenSpec.ofChange sourcesFillsWrong)

/-- 'multihoplaw26.SourcesLooks': WHATEVER THE INPUT: true; the input reads as it did. -/
def sourcesLooksSpec : ChangeSpec := { name := "sourcesLooks", fn := fun _ => fun
  | [d1, d2, d3, d4, d5] => { results := [.lit (.bool true)], args := [d1, d2, d3, d4, d5] }
  | _ => none }
def sourcesLooksRow : OpenClaim := { program := "ytoljhmpconbbhaa", sum := "6d28b9ebb03f59149812bf67aca81c3c4751047653320e91c0f210991f15a68e", func := "multihop/multihoplaw26.SourcesLooks", spec := "sourcesLooks", inPlace := ["internal/bytealg.Compare", "slices.overlaps[multihop/api.Source]"], unfollowed := true, recurses := true, apart := false }
def SourcesLooksSaid : Prop := sourcesLooksRow.holds Try.pinned (OpenSpec.ofChange sourcesLooksSpec)

/-- ITS FALSE NEIGHBOUR: 'it returns false'. Refute it at one input. -/
def sourcesLooksWrong : ChangeSpec := { name := "sourcesLooks", fn := fun _ => fun
  | [d1, d2, d3, d4, d5] => { results := [.lit (.bool false)], args := [d1, d2, d3, d4, d5] }
  | _ => none }
def SourcesLooksWrongFalsely : Prop := sourcesLooksRow.holds Try.pinned (OpenSpec.ofChange sourcesLooksWrong)

/- THE SECOND FORM. 'bulk': how many values and letters a reading holds, each counted each time it is reached (what is shared counts as often as it is met; a slice's spare places count too). A statement '..UptoSaid' is the law's where the arguments, and the package variables that the reading takes, are together of bulk at most 1048576: NARROWER than '..Said'. Prove '..Said' where nothing that the law and all that it calls make is longer than what came in: it says more and counts as full. Else prove '..UptoSaid'. A law counts once. -/
mutual
def uptoBulk {H : Type} : DataW H → Nat
  | .lit (.string bytes) => bytes.length + 1
  | .lit _ => 1
  | .nil => 1
  | .ptr d => uptoBulk d + 1
  | .slice elems spare => uptoBulkAll elems + uptoBulkAll spare + 1
  | .agg parts => uptoBulkAll parts + 1
  | .iface _ d => uptoBulk d + 1
  | .map entries => uptoBulkEntries entries + 1
  | .held _ => 1
def uptoBulkAll {H : Type} : List (DataW H) → Nat
  | [] => 0
  | d :: r => uptoBulk d + uptoBulkAll r
def uptoBulkEntries {H : Type} : List (Lit × DataW H) → Nat
  | [] => 0
  | x :: r => uptoBulkEntry x + uptoBulkEntries r
def uptoBulkEntry {H : Type} : Lit × DataW H → Nat
  | (.string bytes, d) => bytes.length + uptoBulk d + 1
  | (_, d) => uptoBulk d + 1
 end
def uptoSmall : (H : Type) → List (DataW H) → Bool := fun _ ds => decide (uptoBulkAll ds ≤ 1048576)
def OpenSpec.upto (s : _root_.Go.ChangeSpec) : _root_.Go.OpenSpec := { _root_.Go.OpenSpec.ofChange s with cond := some uptoSmall }

/-- 'multihoplaw26.SourcesOrders', WHERE WHAT IT READS IS OF BULK AT MOST 1048576: true; the input reads as it did. -/
def sourcesOrdersUptoRow : OpenClaim := { program := "ytoljhmpconbbhaa", sum := "6d28b9ebb03f59149812bf67aca81c3c4751047653320e91c0f210991f15a68e", func := "multihop/multihoplaw26.SourcesOrders", spec := "sourcesOrders", inPlace := ["internal/bytealg.Compare", "slices.overlaps[multihop/api.Source]"], unfollowed := true, recurses := true, apart := false, narrowed := true }
def SourcesOrdersUptoSaid : Prop := sourcesOrdersUptoRow.holds Try.pinned (OpenSpec.upto sourcesOrdersSpec)

/-- 'multihoplaw26.SourcesFall', WHERE WHAT IT READS IS OF BULK AT MOST 1048576: true; the input reads as it did. -/
def sourcesFallUptoRow : OpenClaim := { program := "ytoljhmpconbbhaa", sum := "6d28b9ebb03f59149812bf67aca81c3c4751047653320e91c0f210991f15a68e", func := "multihop/multihoplaw26.SourcesFall", spec := "sourcesFall", inPlace := ["internal/bytealg.Compare", "slices.overlaps[multihop/api.Source]"], unfollowed := true, recurses := true, apart := false, narrowed := true }
def SourcesFallUptoSaid : Prop := sourcesFallUptoRow.holds Try.pinned (OpenSpec.upto sourcesFallSpec)

/-- 'multihoplaw26.SourcesRecords', WHERE WHAT IT READS IS OF BULK AT MOST 1048576: true; the input reads as it did. -/
def sourcesRecordsUptoRow : OpenClaim := { program := "ytoljhmpconbbhaa", sum := "6d28b9ebb03f59149812bf67aca81c3c4751047653320e91c0f210991f15a68e", func := "multihop/multihoplaw26.SourcesRecords", spec := "sourcesRecords", inPlace := ["internal/bytealg.Compare", "slices.overlaps[multihop/api.Source]"], unfollowed := true, recurses := true, apart := false, narrowed := true }
def SourcesRecordsUptoSaid : Prop := sourcesRecordsUptoRow.holds Try.pinned (OpenSpec.upto sourcesRecordsSpec)

/-- 'multihoplaw26.SourcesBound', WHERE WHAT IT READS IS OF BULK AT MOST 1048576: true; the input reads as it did. -/
def sourcesBoundUptoRow : OpenClaim := { program := "ytoljhmpconbbhaa", sum := "6d28b9ebb03f59149812bf67aca81c3c4751047653320e91c0f210991f15a68e", func := "multihop/multihoplaw26.SourcesBound", spec := "sourcesBound", inPlace := ["internal/bytealg.Compare", "slices.overlaps[multihop/api.Source]"], unfollowed := true, recurses := true, apart := false, narrowed := true }
def SourcesBoundUptoSaid : Prop := sourcesBoundUptoRow.holds Try.pinned (OpenSpec.upto sourcesBoundSpec)

/-- 'multihoplaw26.SourcesFills', WHERE WHAT IT READS IS OF BULK AT MOST 1048576: true; the input reads as it did. -/
def sourcesFillsUptoRow : OpenClaim := { program := "ytoljhmpconbbhaa", sum := "6d28b9ebb03f59149812bf67aca81c3c4751047653320e91c0f210991f15a68e", func := "multihop/multihoplaw26.SourcesFills", spec := "sourcesFills", inPlace := ["internal/bytealg.Compare", "slices.overlaps[multihop/api.Source]"], unfollowed := true, recurses := true, apart := false, narrowed := true }
def SourcesFillsUptoSaid : Prop := sourcesFillsUptoRow.holds Try.pinned (OpenSpec.upto sourcesFillsSpec)

/-- 'multihoplaw26.SourcesLooks', WHERE WHAT IT READS IS OF BULK AT MOST 1048576: true; the input reads as it did. -/
def sourcesLooksUptoRow : OpenClaim := { program := "ytoljhmpconbbhaa", sum := "6d28b9ebb03f59149812bf67aca81c3c4751047653320e91c0f210991f15a68e", func := "multihop/multihoplaw26.SourcesLooks", spec := "sourcesLooks", inPlace := ["internal/bytealg.Compare", "slices.overlaps[multihop/api.Source]"], unfollowed := true, recurses := true, apart := false, narrowed := true }
def SourcesLooksUptoSaid : Prop := sourcesLooksUptoRow.holds Try.pinned (OpenSpec.upto sourcesLooksSpec)

end Rows
end Go.Proofs.Ytoljhmpconbbhaa
