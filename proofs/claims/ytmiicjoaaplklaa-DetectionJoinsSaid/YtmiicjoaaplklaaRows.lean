/-
  No cell of these rows narrows 'for every input' (looked for: loops, veiled, ifaces, maps, wideKeys, modest, calm, conditions, laid).
  DERIVED. THE GIVEN ROWS OF THIS SEAT. 7 by the template 'for every input the law returns true; each argument reads behind the call as it read before'; 0 by the template 'total and deterministic' (their statements: YtmiicjoaaplklaaTotals.lean).
  GIVEN WITH THE SEED: the statements are not yours to turn. If you find one false, say at which input.
  Laid BY PROGRAM, IN A SANDBOX (cutbox-rows.mjs): the forced cells as the released guide's own fill.sh prints them over the translation e2bc709ec1aad7b8… (all of the seat's roots in one cut). By AI agents, Wed Nov 11 2026. No macro, syntax, notation, axiom, sorry.
-/
import Derived.Test.YtmiicjoaaplklaaChecked
import GoSem.Claim
import GoSem.ClaimJoined
import GoSem.ClaimMapViews
import Derived.JoinedTies
import Derived.KernelRfl
namespace Go.Proofs.Ytmiicjoaaplklaa
/- THE CELL 'sum', in the pinned program and in every row, IS THE sha256 OF THE DUMP (.gsa) THAT YtmiicjoaaplklaaProg.lean LOADS. Nothing in Lean hashes anything: it is a label: what it is worth is what the hold of that sum in a sandbox is worth. -/
noncomputable def Try.pinned : Pinned := { name := "ytmiicjoaaplklaa", sum := "e2bc709ec1aad7b8179f929ca83a6ed0213275470591eac45631fe9d9c1e4945", checked := Try.checked }
namespace Rows
def none {H : Type} : Left H := { results := [], args := [] }

/-- 'multihoplaw22.DetectionRequests': WHATEVER THE INPUT: true; the input reads as it did. -/
def detectionRequestsSpec : ChangeSpec := { name := "detectionRequests", fn := fun _ => fun
  | [d1, d2, d3, d4, d5, d6, d7] => { results := [.lit (.bool true)], args := [d1, d2, d3, d4, d5, d6, d7] }
  | _ => none }
def detectionRequestsRow : OpenClaim := { program := "ytmiicjoaaplklaa", sum := "e2bc709ec1aad7b8179f929ca83a6ed0213275470591eac45631fe9d9c1e4945", func := "multihop/multihoplaw22.DetectionRequests", spec := "detectionRequests", inPlace := ["internal/bytealg.Compare", "slices.overlaps[multihop/api.Claim]"], unfollowed := true, recurses := true, apart := false }
def DetectionRequestsSaid : Prop := detectionRequestsRow.holds Try.pinned (OpenSpec.ofChange detectionRequestsSpec)

/-- ITS FALSE NEIGHBOUR: 'it returns false'. Refute it at one input. -/
def detectionRequestsWrong : ChangeSpec := { name := "detectionRequests", fn := fun _ => fun
  | [d1, d2, d3, d4, d5, d6, d7] => { results := [.lit (.bool false)], args := [d1, d2, d3, d4, d5, d6, d7] }
  | _ => none }
def DetectionRequestsWrongFalsely : Prop := detectionRequestsRow.holds Try.pinned (OpenSpec.ofChange detectionRequestsWrong)

/-- 'multihoplaw22.DetectionKeeps': WHATEVER THE INPUT: true; the input reads as it did. -/
def detectionKeepsSpec : ChangeSpec := { name := "detectionKeeps", fn := fun _ => fun
  | [d] => { results := [.lit (.bool true)], args := [d] }
  | _ => none }
def detectionKeepsRow : OpenClaim := { program := "ytmiicjoaaplklaa", sum := "e2bc709ec1aad7b8179f929ca83a6ed0213275470591eac45631fe9d9c1e4945", func := "multihop/multihoplaw22.DetectionKeeps", spec := "detectionKeeps", inPlace := ["internal/bytealg.Compare", "slices.overlaps[multihop/api.Claim]"], unfollowed := true, recurses := true, apart := false }
def DetectionKeepsSaid : Prop := detectionKeepsRow.holds Try.pinned (OpenSpec.ofChange detectionKeepsSpec)

/-- ITS FALSE NEIGHBOUR: 'it returns false'. Refute it at one input. -/
def detectionKeepsWrong : ChangeSpec := { name := "detectionKeeps", fn := fun _ => fun
  | [d] => { results := [.lit (.bool false)], args := [d] }
  | _ => none }
def DetectionKeepsWrongFalsely : Prop := detectionKeepsRow.holds Try.pinned (OpenSpec.ofChange detectionKeepsWrong)

/-- 'multihoplaw22.DetectionAnswers': WHATEVER THE INPUT: true; the input reads as it did. -/
def detectionAnswersSpec : ChangeSpec := { name := "detectionAnswers", fn := fun _ => fun
  | [d1, d2, d3] => { results := [.lit (.bool true)], args := [d1, d2, d3] }
  | _ => none }
def detectionAnswersRow : OpenClaim := { program := "ytmiicjoaaplklaa", sum := "e2bc709ec1aad7b8179f929ca83a6ed0213275470591eac45631fe9d9c1e4945", func := "multihop/multihoplaw22.DetectionAnswers", spec := "detectionAnswers", inPlace := ["internal/bytealg.Compare", "slices.overlaps[multihop/api.Claim]"], unfollowed := true, recurses := true, apart := false }
def DetectionAnswersSaid : Prop := detectionAnswersRow.holds Try.pinned (OpenSpec.ofChange detectionAnswersSpec)

/-- ITS FALSE NEIGHBOUR: 'it returns false'. Refute it at one input. -/
def detectionAnswersWrong : ChangeSpec := { name := "detectionAnswers", fn := fun _ => fun
  | [d1, d2, d3] => { results := [.lit (.bool false)], args := [d1, d2, d3] }
  | _ => none }
def DetectionAnswersWrongFalsely : Prop := detectionAnswersRow.holds Try.pinned (OpenSpec.ofChange detectionAnswersWrong)

/-- 'multihoplaw22.DetectionValidates': WHATEVER THE INPUT: true; the input reads as it did. -/
def detectionValidatesSpec : ChangeSpec := { name := "detectionValidates", fn := fun _ => fun
  | [d1, d2, d3, d4, d5, d6] => { results := [.lit (.bool true)], args := [d1, d2, d3, d4, d5, d6] }
  | _ => none }
def detectionValidatesRow : OpenClaim := { program := "ytmiicjoaaplklaa", sum := "e2bc709ec1aad7b8179f929ca83a6ed0213275470591eac45631fe9d9c1e4945", func := "multihop/multihoplaw22.DetectionValidates", spec := "detectionValidates", inPlace := ["internal/bytealg.Compare", "slices.overlaps[multihop/api.Claim]"], unfollowed := true, recurses := true, apart := false }
def DetectionValidatesSaid : Prop := detectionValidatesRow.holds Try.pinned (OpenSpec.ofChange detectionValidatesSpec)

/-- ITS FALSE NEIGHBOUR: 'it returns false'. Refute it at one input. -/
def detectionValidatesWrong : ChangeSpec := { name := "detectionValidates", fn := fun _ => fun
  | [d1, d2, d3, d4, d5, d6] => { results := [.lit (.bool false)], args := [d1, d2, d3, d4, d5, d6] }
  | _ => none }
def DetectionValidatesWrongFalsely : Prop := detectionValidatesRow.holds Try.pinned (OpenSpec.ofChange detectionValidatesWrong)

/-- 'multihoplaw22.DetectionMerges': WHATEVER THE INPUT: true; the input reads as it did. -/
def detectionMergesSpec : ChangeSpec := { name := "detectionMerges", fn := fun _ => fun
  | [d1, d2, d3, d4] => { results := [.lit (.bool true)], args := [d1, d2, d3, d4] }
  | _ => none }
def detectionMergesRow : OpenClaim := { program := "ytmiicjoaaplklaa", sum := "e2bc709ec1aad7b8179f929ca83a6ed0213275470591eac45631fe9d9c1e4945", func := "multihop/multihoplaw22.DetectionMerges", spec := "detectionMerges", inPlace := ["internal/bytealg.Compare", "slices.overlaps[multihop/api.Claim]"], unfollowed := true, recurses := true, apart := false }
def DetectionMergesSaid : Prop := detectionMergesRow.holds Try.pinned (OpenSpec.ofChange detectionMergesSpec)

/-- ITS FALSE NEIGHBOUR: 'it returns false'. Refute it at one input. -/
def detectionMergesWrong : ChangeSpec := { name := "detectionMerges", fn := fun _ => fun
  | [d1, d2, d3, d4] => { results := [.lit (.bool false)], args := [d1, d2, d3, d4] }
  | _ => none }
def DetectionMergesWrongFalsely : Prop := detectionMergesRow.holds Try.pinned (OpenSpec.ofChange detectionMergesWrong)

/-- 'multihoplaw22.DetectionJoins': WHATEVER THE INPUT: true; the input reads as it did. -/
def detectionJoinsSpec : ChangeSpec := { name := "detectionJoins", fn := fun _ => fun
  | [d] => { results := [.lit (.bool true)], args := [d] }
  | _ => none }
def detectionJoinsRow : OpenClaim := { program := "ytmiicjoaaplklaa", sum := "e2bc709ec1aad7b8179f929ca83a6ed0213275470591eac45631fe9d9c1e4945", func := "multihop/multihoplaw22.DetectionJoins", spec := "detectionJoins", inPlace := ["internal/bytealg.Compare", "slices.overlaps[multihop/api.Claim]"], unfollowed := true, recurses := true, apart := false }
def DetectionJoinsSaid : Prop := detectionJoinsRow.holds Try.pinned (OpenSpec.ofChange detectionJoinsSpec)

/-- ITS FALSE NEIGHBOUR: 'it returns false'. Refute it at one input. -/
def detectionJoinsWrong : ChangeSpec := { name := "detectionJoins", fn := fun _ => fun
  | [d] => { results := [.lit (.bool false)], args := [d] }
  | _ => none }
def DetectionJoinsWrongFalsely : Prop := detectionJoinsRow.holds Try.pinned (OpenSpec.ofChange detectionJoinsWrong)

/-- 'multihoplaw22.DetectionFills': WHATEVER THE INPUT: true; the input reads as it did. -/
def detectionFillsSpec : ChangeSpec := { name := "detectionFills", fn := fun _ => fun
  | [d1, d2] => { results := [.lit (.bool true)], args := [d1, d2] }
  | _ => none }
def detectionFillsRow : OpenClaim := { program := "ytmiicjoaaplklaa", sum := "e2bc709ec1aad7b8179f929ca83a6ed0213275470591eac45631fe9d9c1e4945", func := "multihop/multihoplaw22.DetectionFills", spec := "detectionFills", inPlace := ["internal/bytealg.Compare", "slices.overlaps[multihop/api.Claim]"], unfollowed := true, recurses := true, apart := false }
def DetectionFillsSaid : Prop := detectionFillsRow.holds Try.pinned (OpenSpec.ofChange detectionFillsSpec)

/-- ITS FALSE NEIGHBOUR: 'it returns false'. Refute it at one input. -/
def detectionFillsWrong : ChangeSpec := { name := "detectionFills", fn := fun _ => fun
  | [d1, d2] => { results := [.lit (.bool false)], args := [d1, d2] }
  | _ => none }
def DetectionFillsWrongFalsely : Prop := detectionFillsRow.holds Try.pinned (OpenSpec.ofChange detectionFillsWrong)

/- THE SECOND FORM. 'bulk': how many values and letters a reading holds, each counted each time it is reached (what is shared counts as often as it is met; a slice's spare places count too). A statement '..UptoSaid' is the law's where the arguments, and the package variables that the reading takes, are together of bulk at most 1048576: NARROWER than '..Said'. Prove '..Said' where nothing that the law and all that it calls make is longer than what came in: it says more and counts as full. Else prove '..UptoSaid'. A law counts once. -/
mutual
def uptoBulk {H : Type} : DataW H → Nat
  | .lit (.string bytes) => bytes.length + 1
  | .lit _ => 1
  | .nil => 1
  | .ptr d => uptoBulk d + 1
  | .slice elems spare => uptoBulkAll elems + uptoBulkAll spare + 1
  | .agg parts => uptoBulkAll parts + 1
  | .iface _ d => uptoBulk d + 1
  | .map entries => uptoBulkEntries entries + 1
  | .held _ => 1
def uptoBulkAll {H : Type} : List (DataW H) → Nat
  | [] => 0
  | d :: r => uptoBulk d + uptoBulkAll r
def uptoBulkEntries {H : Type} : List (Lit × DataW H) → Nat
  | [] => 0
  | x :: r => uptoBulkEntry x + uptoBulkEntries r
def uptoBulkEntry {H : Type} : Lit × DataW H → Nat
  | (.string bytes, d) => bytes.length + uptoBulk d + 1
  | (_, d) => uptoBulk d + 1
 end
def uptoSmall : (H : Type) → List (DataW H) → Bool := fun _ ds => decide (uptoBulkAll ds ≤ 1048576)
def OpenSpec.upto (s : _root_.Go.ChangeSpec) : _root_.Go.OpenSpec := { _root_.Go.OpenSpec.ofChange s with cond := some uptoSmall }

/-- 'multihoplaw22.DetectionRequests', WHERE WHAT IT READS IS OF BULK AT MOST 1048576: true; the input reads as it did. -/
def detectionRequestsUptoRow : OpenClaim := { program := "ytmiicjoaaplklaa", sum := "e2bc709ec1aad7b8179f929ca83a6ed0213275470591eac45631fe9d9c1e4945", func := "multihop/multihoplaw22.DetectionRequests", spec := "detectionRequests", inPlace := ["internal/bytealg.Compare", "slices.overlaps[multihop/api.Claim]"], unfollowed := true, recurses := true, apart := false, narrowed := true }
def DetectionRequestsUptoSaid : Prop := detectionRequestsUptoRow.holds Try.pinned (OpenSpec.upto detectionRequestsSpec)

/-- 'multihoplaw22.DetectionKeeps', WHERE WHAT IT READS IS OF BULK AT MOST 1048576: true; the input reads as it did. -/
def detectionKeepsUptoRow : OpenClaim := { program := "ytmiicjoaaplklaa", sum := "e2bc709ec1aad7b8179f929ca83a6ed0213275470591eac45631fe9d9c1e4945", func := "multihop/multihoplaw22.DetectionKeeps", spec := "detectionKeeps", inPlace := ["internal/bytealg.Compare", "slices.overlaps[multihop/api.Claim]"], unfollowed := true, recurses := true, apart := false, narrowed := true }
def DetectionKeepsUptoSaid : Prop := detectionKeepsUptoRow.holds Try.pinned (OpenSpec.upto detectionKeepsSpec)

/-- 'multihoplaw22.DetectionAnswers', WHERE WHAT IT READS IS OF BULK AT MOST 1048576: true; the input reads as it did. -/
def detectionAnswersUptoRow : OpenClaim := { program := "ytmiicjoaaplklaa", sum := "e2bc709ec1aad7b8179f929ca83a6ed0213275470591eac45631fe9d9c1e4945", func := "multihop/multihoplaw22.DetectionAnswers", spec := "detectionAnswers", inPlace := ["internal/bytealg.Compare", "slices.overlaps[multihop/api.Claim]"], unfollowed := true, recurses := true, apart := false, narrowed := true }
def DetectionAnswersUptoSaid : Prop := detectionAnswersUptoRow.holds Try.pinned (OpenSpec.upto detectionAnswersSpec)

/-- 'multihoplaw22.DetectionValidates', WHERE WHAT IT READS IS OF BULK AT MOST 1048576: true; the input reads as it did. -/
def detectionValidatesUptoRow : OpenClaim := { program := "ytmiicjoaaplklaa", sum := "e2bc709ec1aad7b8179f929ca83a6ed0213275470591eac45631fe9d9c1e4945", func := "multihop/multihoplaw22.DetectionValidates", spec := "detectionValidates", inPlace := ["internal/bytealg.Compare", "slices.overlaps[multihop/api.Claim]"], unfollowed := true, recurses := true, apart := false, narrowed := true }
def DetectionValidatesUptoSaid : Prop := detectionValidatesUptoRow.holds Try.pinned (OpenSpec.upto detectionValidatesSpec)

/-- 'multihoplaw22.DetectionMerges', WHERE WHAT IT READS IS OF BULK AT MOST 1048576: true; the input reads as it did. -/
def detectionMergesUptoRow : OpenClaim := { program := "ytmiicjoaaplklaa", sum := "e2bc709ec1aad7b8179f929ca83a6ed0213275470591eac45631fe9d9c1e4945", func := "multihop/multihoplaw22.DetectionMerges", spec := "detectionMerges", inPlace := ["internal/bytealg.Compare", "slices.overlaps[multihop/api.Claim]"], unfollowed := true, recurses := true, apart := false, narrowed := true }
def DetectionMergesUptoSaid : Prop := detectionMergesUptoRow.holds Try.pinned (OpenSpec.upto detectionMergesSpec)

/-- 'multihoplaw22.DetectionJoins', WHERE WHAT IT READS IS OF BULK AT MOST 1048576: true; the input reads as it did. -/
def detectionJoinsUptoRow : OpenClaim := { program := "ytmiicjoaaplklaa", sum := "e2bc709ec1aad7b8179f929ca83a6ed0213275470591eac45631fe9d9c1e4945", func := "multihop/multihoplaw22.DetectionJoins", spec := "detectionJoins", inPlace := ["internal/bytealg.Compare", "slices.overlaps[multihop/api.Claim]"], unfollowed := true, recurses := true, apart := false, narrowed := true }
def DetectionJoinsUptoSaid : Prop := detectionJoinsUptoRow.holds Try.pinned (OpenSpec.upto detectionJoinsSpec)

/-- 'multihoplaw22.DetectionFills', WHERE WHAT IT READS IS OF BULK AT MOST 1048576: true; the input reads as it did. -/
def detectionFillsUptoRow : OpenClaim := { program := "ytmiicjoaaplklaa", sum := "e2bc709ec1aad7b8179f929ca83a6ed0213275470591eac45631fe9d9c1e4945", func := "multihop/multihoplaw22.DetectionFills", spec := "detectionFills", inPlace := ["internal/bytealg.Compare", "slices.overlaps[multihop/api.Claim]"], unfollowed := true, recurses := true, apart := false, narrowed := true }
def DetectionFillsUptoSaid : Prop := detectionFillsUptoRow.holds Try.pinned (OpenSpec.upto detectionFillsSpec)

end Rows
end Go.Proofs.Ytmiicjoaaplklaa
