/-
  No cell of these rows narrows 'for every input' (looked for: loops, veiled, ifaces, maps, wideKeys, modest, calm, conditions, laid).
  DERIVED. THE GIVEN ROWS OF THIS SEAT. 5 by the template 'for every input the law returns true; each argument reads behind the call as it read before'; 0 by the template 'total and deterministic' (their statements: YtbbmobmnijljgaaTotals.lean).
  GIVEN WITH THE SEED: the statements are not yours to turn. If you find one false, say at which input.
  Laid BY PROGRAM, IN A SANDBOX (cutbox-rows.mjs): the forced cells as the released guide's own fill.sh prints them over the translation 3a2d201acc9d4102… (all of the seat's roots in one cut). By AI agents, Wed Nov 11 2026. No macro, syntax, notation, axiom, sorry.
-/
import Derived.Test.YtbbmobmnijljgaaChecked
import GoSem.Claim
import GoSem.ClaimJoined
import GoSem.ClaimMapViews
import Derived.JoinedTies
import Derived.KernelRfl
namespace Go.Proofs.Ytbbmobmnijljgaa
/- THE CELL 'sum', in the pinned program and in every row, IS THE sha256 OF THE DUMP (.gsa) THAT YtbbmobmnijljgaaProg.lean LOADS. Nothing in Lean hashes anything: it is a label: what it is worth is what the hold of that sum in a sandbox is worth. -/
noncomputable def Try.pinned : Pinned := { name := "ytbbmobmnijljgaa", sum := "3a2d201acc9d410259c0aa8000f9235a9fe06aaf9c562edf6e945c060da4a352", checked := Try.checked }
namespace Rows
def none {H : Type} : Left H := { results := [], args := [] }

/-- 'multihoplaw28.RequestsOnce': WHATEVER THE INPUT: true; the input reads as it did. -/
def requestsOnceSpec : ChangeSpec := { name := "requestsOnce", fn := fun _ => fun
  | [d1, d2, d3, d4] => { results := [.lit (.bool true)], args := [d1, d2, d3, d4] }
  | _ => none }
def requestsOnceRow : OpenClaim := { program := "ytbbmobmnijljgaa", sum := "3a2d201acc9d410259c0aa8000f9235a9fe06aaf9c562edf6e945c060da4a352", func := "multihop/multihoplaw28.RequestsOnce", spec := "requestsOnce", inPlace := ["internal/bytealg.Compare", "slices.overlaps[multihop/api.Request]"], unfollowed := true, recurses := true, apart := false }
def RequestsOnceSaid : Prop := requestsOnceRow.holds Try.pinned (OpenSpec.ofChange requestsOnceSpec)

/-- ITS FALSE NEIGHBOUR: 'it returns false'. Refute it at one input. -/
def requestsOnceWrong : ChangeSpec := { name := "requestsOnce", fn := fun _ => fun
  | [d1, d2, d3, d4] => { results := [.lit (.bool false)], args := [d1, d2, d3, d4] }
  | _ => none }
def RequestsOnceWrongFalsely : Prop := requestsOnceRow.holds Try.pinned (OpenSpec.ofChange requestsOnceWrong)

/-- 'multihoplaw28.RequestsEnd': WHATEVER THE INPUT: true; the input reads as it did. -/
def requestsEndSpec : ChangeSpec := { name := "requestsEnd", fn := fun _ => fun
  | [d1, d2, d3, d4] => { results := [.lit (.bool true)], args := [d1, d2, d3, d4] }
  | _ => none }
def requestsEndRow : OpenClaim := { program := "ytbbmobmnijljgaa", sum := "3a2d201acc9d410259c0aa8000f9235a9fe06aaf9c562edf6e945c060da4a352", func := "multihop/multihoplaw28.RequestsEnd", spec := "requestsEnd", inPlace := ["internal/bytealg.Compare", "slices.overlaps[multihop/api.Request]"], unfollowed := true, recurses := true, apart := false }
def RequestsEndSaid : Prop := requestsEndRow.holds Try.pinned (OpenSpec.ofChange requestsEndSpec)

/-- ITS FALSE NEIGHBOUR: 'it returns false'. Refute it at one input. -/
def requestsEndWrong : ChangeSpec := { name := "requestsEnd", fn := fun _ => fun
  | [d1, d2, d3, d4] => { results := [.lit (.bool false)], args := [d1, d2, d3, d4] }
  | _ => none }
def RequestsEndWrongFalsely : Prop := requestsEndRow.holds Try.pinned (OpenSpec.ofChange requestsEndWrong)

/-- 'multihoplaw28.RequestsFull': WHATEVER THE INPUT: true; the input reads as it did. -/
def requestsFullSpec : ChangeSpec := { name := "requestsFull", fn := fun _ => fun
  | [d1, d2] => { results := [.lit (.bool true)], args := [d1, d2] }
  | _ => none }
def requestsFullRow : OpenClaim := { program := "ytbbmobmnijljgaa", sum := "3a2d201acc9d410259c0aa8000f9235a9fe06aaf9c562edf6e945c060da4a352", func := "multihop/multihoplaw28.RequestsFull", spec := "requestsFull", inPlace := ["internal/bytealg.Compare", "slices.overlaps[multihop/api.Request]"], unfollowed := true, recurses := true, apart := false }
def RequestsFullSaid : Prop := requestsFullRow.holds Try.pinned (OpenSpec.ofChange requestsFullSpec)

/-- ITS FALSE NEIGHBOUR: 'it returns false'. Refute it at one input. -/
def requestsFullWrong : ChangeSpec := { name := "requestsFull", fn := fun _ => fun
  | [d1, d2] => { results := [.lit (.bool false)], args := [d1, d2] }
  | _ => none }
def RequestsFullWrongFalsely : Prop := requestsFullRow.holds Try.pinned (OpenSpec.ofChange requestsFullWrong)

/-- 'multihoplaw28.RequestsForms': WHATEVER THE INPUT: true; the input reads as it did. -/
def requestsFormsSpec : ChangeSpec := { name := "requestsForms", fn := fun _ => fun
  | [d1, d2, d3, d4, d5, d6, d7, d8] => { results := [.lit (.bool true)], args := [d1, d2, d3, d4, d5, d6, d7, d8] }
  | _ => none }
def requestsFormsRow : OpenClaim := { program := "ytbbmobmnijljgaa", sum := "3a2d201acc9d410259c0aa8000f9235a9fe06aaf9c562edf6e945c060da4a352", func := "multihop/multihoplaw28.RequestsForms", spec := "requestsForms", inPlace := ["internal/bytealg.Compare", "slices.overlaps[multihop/api.Request]"], unfollowed := true, recurses := true, apart := false }
def RequestsFormsSaid : Prop := requestsFormsRow.holds Try.pinned (OpenSpec.ofChange requestsFormsSpec)

/-- ITS FALSE NEIGHBOUR: 'it returns false'. Refute it at one input. -/
def requestsFormsWrong : ChangeSpec := { name := "requestsForms", fn := fun _ => fun
  | [d1, d2, d3, d4, d5, d6, d7, d8] => { results := [.lit (.bool false)], args := [d1, d2, d3, d4, d5, d6, d7, d8] }
  | _ => none }
def RequestsFormsWrongFalsely : Prop := requestsFormsRow.holds Try.pinned (OpenSpec.ofChange requestsFormsWrong)

/-- 'multihoplaw28.RequestsMet': WHATEVER THE INPUT: true; the input reads as it did. -/
def requestsMetSpec : ChangeSpec := { name := "requestsMet", fn := fun _ => fun
  | [d1, d2, d3, d4, d5] => { results := [.lit (.bool true)], args := [d1, d2, d3, d4, d5] }
  | _ => none }
def requestsMetRow : OpenClaim := { program := "ytbbmobmnijljgaa", sum := "3a2d201acc9d410259c0aa8000f9235a9fe06aaf9c562edf6e945c060da4a352", func := "multihop/multihoplaw28.RequestsMet", spec := "requestsMet", inPlace := ["internal/bytealg.Compare", "slices.overlaps[multihop/api.Request]"], unfollowed := true, recurses := true, apart := false }
def RequestsMetSaid : Prop := requestsMetRow.holds Try.pinned (OpenSpec.ofChange requestsMetSpec)

/-- ITS FALSE NEIGHBOUR: 'it returns false'. Refute it at one input. -/
def requestsMetWrong : ChangeSpec := { name := "requestsMet", fn := fun _ => fun
  | [d1, d2, d3, d4, d5] => { results := [.lit (.bool false)], args := [d1, d2, d3, d4, d5] }
  | _ => none }
def RequestsMetWrongFalsely : Prop := requestsMetRow.holds Try.pinned (OpenSpec.ofChange requestsMetWrong)

/- THE SECOND FORM. 'bulk': how many values and letters a reading holds, each counted each time it is reached (what is shared counts as often as it is met; a slice's spare places count too). A statement '..UptoSaid' is the law's where the arguments, and the package variables that the reading takes, are together of bulk at most 1048576: NARROWER than '..Said'. Prove '..Said' where nothing that the law and all that it calls make is longer than what came in: it says more and counts as full. Else prove '..UptoSaid'. A law counts once. -/
mutual
def uptoBulk {H : Type} : DataW H → Nat
  | .lit (.string bytes) => bytes.length + 1
  | .lit _ => 1
  | .nil => 1
  | .ptr d => uptoBulk d + 1
  | .slice elems spare => uptoBulkAll elems + uptoBulkAll spare + 1
  | .agg parts => uptoBulkAll parts + 1
  | .iface _ d => uptoBulk d + 1
  | .map entries => uptoBulkEntries entries + 1
  | .held _ => 1
def uptoBulkAll {H : Type} : List (DataW H) → Nat
  | [] => 0
  | d :: r => uptoBulk d + uptoBulkAll r
def uptoBulkEntries {H : Type} : List (Lit × DataW H) → Nat
  | [] => 0
  | x :: r => uptoBulkEntry x + uptoBulkEntries r
def uptoBulkEntry {H : Type} : Lit × DataW H → Nat
  | (.string bytes, d) => bytes.length + uptoBulk d + 1
  | (_, d) => uptoBulk d + 1
 end
def uptoSmall : (H : Type) → List (DataW H) → Bool := fun _ ds => decide (uptoBulkAll ds ≤ 1048576)
def OpenSpec.upto (s : _root_.Go.ChangeSpec) : _root_.Go.OpenSpec := { _root_.Go.OpenSpec.ofChange s with cond := some uptoSmall }

/-- 'multihoplaw28.RequestsOnce', WHERE WHAT IT READS IS OF BULK AT MOST 1048576: true; the input reads as it did. -/
def requestsOnceUptoRow : OpenClaim := { program := "ytbbmobmnijljgaa", sum := "3a2d201acc9d410259c0aa8000f9235a9fe06aaf9c562edf6e945c060da4a352", func := "multihop/multihoplaw28.RequestsOnce", spec := "requestsOnce", inPlace := ["internal/bytealg.Compare", "slices.overlaps[multihop/api.Request]"], unfollowed := true, recurses := true, apart := false, narrowed := true }
def RequestsOnceUptoSaid : Prop := requestsOnceUptoRow.holds Try.pinned (OpenSpec.upto requestsOnceSpec)

/-- 'multihoplaw28.RequestsEnd', WHERE WHAT IT READS IS OF BULK AT MOST 1048576: true; the input reads as it did. -/
def requestsEndUptoRow : OpenClaim := { program := "ytbbmobmnijljgaa", sum := "3a2d201acc9d410259c0aa8000f9235a9fe06aaf9c562edf6e945c060da4a352", func := "multihop/multihoplaw28.RequestsEnd", spec := "requestsEnd", inPlace := ["internal/bytealg.Compare", "slices.overlaps[multihop/api.Request]"], unfollowed := true, recurses := true, apart := false, narrowed := true }
def RequestsEndUptoSaid : Prop := requestsEndUptoRow.holds Try.pinned (OpenSpec.upto requestsEndSpec)

/-- 'multihoplaw28.RequestsFull', WHERE WHAT IT READS IS OF BULK AT MOST 1048576: true; the input reads as it did. -/
def requestsFullUptoRow : OpenClaim := { program := "ytbbmobmnijljgaa", sum := "3a2d201acc9d410259c0aa8000f9235a9fe06aaf9c562edf6e945c060da4a352", func := "multihop/multihoplaw28.RequestsFull", spec := "requestsFull", inPlace := ["internal/bytealg.Compare", "slices.overlaps[multihop/api.Request]"], unfollowed := true, recurses := true, apart := false, narrowed := true }
def RequestsFullUptoSaid : Prop := requestsFullUptoRow.holds Try.pinned (OpenSpec.upto requestsFullSpec)

/-- 'multihoplaw28.RequestsForms', WHERE WHAT IT READS IS OF BULK AT MOST 1048576: true; the input reads as it did. -/
def requestsFormsUptoRow : OpenClaim := { program := "ytbbmobmnijljgaa", sum := "3a2d201acc9d410259c0aa8000f9235a9fe06aaf9c562edf6e945c060da4a352", func := "multihop/multihoplaw28.RequestsForms", spec := "requestsForms", inPlace := ["internal/bytealg.Compare", "slices.overlaps[multihop/api.Request]"], unfollowed := true, recurses := true, apart := false, narrowed := true }
def RequestsFormsUptoSaid : Prop := requestsFormsUptoRow.holds Try.pinned (OpenSpec.upto requestsFormsSpec)

/-- 'multihoplaw28.RequestsMet', WHERE WHAT IT READS IS OF BULK AT MOST 1048576: true; the input reads as it did. -/
def requestsMetUptoRow : OpenClaim := { program := "ytbbmobmnijljgaa", sum := "3a2d201acc9d410259c0aa8000f9235a9fe06aaf9c562edf6e945c060da4a352", func := "multihop/multihoplaw28.RequestsMet", spec := "requestsMet", inPlace := ["internal/bytealg.Compare", "slices.overlaps[multihop/api.Request]"], unfollowed := true, recurses := true, apart := false, narrowed := true }
def RequestsMetUptoSaid : Prop := requestsMetUptoRow.holds Try.pinned (OpenSpec.upto requestsMetSpec)

end Rows
end Go.Proofs.Ytbbmobmnijljgaa
