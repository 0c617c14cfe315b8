/-
  No cell of these rows narrows 'for every input' (looked for: loops, veiled, ifaces, maps, wideKeys, modest, calm, conditions, laid).
  DERIVED. THE GIVEN ROWS OF THIS SEAT. 6 by the template 'for every input the law returns true; each argument reads behind the call as it read before'; 0 by the template 'total and deterministic' (their statements: YtmblmljcjmmlgaaTotals.lean).
  GIVEN WITH THE SEED: the statements are not yours to turn. If you find one false, say at which input.
  Laid BY PROGRAM, IN A SANDBOX (cutbox-rows.mjs): the forced cells as the released guide's own fill.sh prints them over the translation 4b7dc2163e1e905c… (all of the seat's roots in one cut). By AI agents, Wed Nov 11 2026. No macro, syntax, notation, axiom, sorry.
-/
import Derived.Test.YtmblmljcjmmlgaaChecked
import GoSem.Claim
import GoSem.ClaimJoined
import GoSem.ClaimMapViews
import Derived.JoinedTies
import Derived.KernelRfl
namespace Go.Proofs.Ytmblmljcjmmlgaa
/- THE CELL 'sum', in the pinned program and in every row, IS THE sha256 OF THE DUMP (.gsa) THAT YtmblmljcjmmlgaaProg.lean LOADS. Nothing in Lean hashes anything: it is a label: what it is worth is what the hold of that sum in a sandbox is worth. -/
noncomputable def Try.pinned : Pinned := { name := "ytmblmljcjmmlgaa", sum := "4b7dc2163e1e905c30b449b70e02722ff070b567bccfe42e3b398b700b609861", checked := Try.checked }
namespace Rows
def none {H : Type} : Left H := { results := [], args := [] }

/-- 'multihoplaw38.ReactiveImproves': WHATEVER THE INPUT: true; the input reads as it did. -/
def reactiveImprovesSpec : ChangeSpec := { name := "reactiveImproves", fn := fun _ => fun
  | [d] => { results := [.lit (.bool true)], args := [d] }
  | _ => none }
def reactiveImprovesRow : OpenClaim := { program := "ytmblmljcjmmlgaa", sum := "4b7dc2163e1e905c30b449b70e02722ff070b567bccfe42e3b398b700b609861", func := "multihop/multihoplaw38.ReactiveImproves", spec := "reactiveImproves", unfollowed := true, recurses := true, apart := false }
def ReactiveImprovesSaid : Prop := reactiveImprovesRow.holds Try.pinned (OpenSpec.ofChange reactiveImprovesSpec)

/-- ITS FALSE NEIGHBOUR: 'it returns false'. Refute it at one input. -/
def reactiveImprovesWrong : ChangeSpec := { name := "reactiveImproves", fn := fun _ => fun
  | [d] => { results := [.lit (.bool false)], args := [d] }
  | _ => none }
def ReactiveImprovesWrongFalsely : Prop := reactiveImprovesRow.holds Try.pinned (OpenSpec.ofChange reactiveImprovesWrong)

/-- 'multihoplaw38.ReactiveHears': WHATEVER THE INPUT: true; the input reads as it did. -/
def reactiveHearsSpec : ChangeSpec := { name := "reactiveHears", fn := fun _ => fun
  | [d1, d2, d3, d4, d5, d6] => { results := [.lit (.bool true)], args := [d1, d2, d3, d4, d5, d6] }
  | _ => none }
def reactiveHearsRow : OpenClaim := { program := "ytmblmljcjmmlgaa", sum := "4b7dc2163e1e905c30b449b70e02722ff070b567bccfe42e3b398b700b609861", func := "multihop/multihoplaw38.ReactiveHears", spec := "reactiveHears", unfollowed := true, recurses := true, apart := false }
def ReactiveHearsSaid : Prop := reactiveHearsRow.holds Try.pinned (OpenSpec.ofChange reactiveHearsSpec)

/-- ITS FALSE NEIGHBOUR: 'it returns false'. Refute it at one input. -/
def reactiveHearsWrong : ChangeSpec := { name := "reactiveHears", fn := fun _ => fun
  | [d1, d2, d3, d4, d5, d6] => { results := [.lit (.bool false)], args := [d1, d2, d3, d4, d5, d6] }
  | _ => none }
def ReactiveHearsWrongFalsely : Prop := reactiveHearsRow.holds Try.pinned (OpenSpec.ofChange reactiveHearsWrong)

/-- 'multihoplaw38.ReactiveFinds': WHATEVER THE INPUT: true; the input reads as it did. -/
def reactiveFindsSpec : ChangeSpec := { name := "reactiveFinds", fn := fun _ => fun
  | [d1, d2] => { results := [.lit (.bool true)], args := [d1, d2] }
  | _ => none }
def reactiveFindsRow : OpenClaim := { program := "ytmblmljcjmmlgaa", sum := "4b7dc2163e1e905c30b449b70e02722ff070b567bccfe42e3b398b700b609861", func := "multihop/multihoplaw38.ReactiveFinds", spec := "reactiveFinds", unfollowed := true, recurses := true, apart := false }
def ReactiveFindsSaid : Prop := reactiveFindsRow.holds Try.pinned (OpenSpec.ofChange reactiveFindsSpec)

/-- ITS FALSE NEIGHBOUR: 'it returns false'. Refute it at one input. -/
def reactiveFindsWrong : ChangeSpec := { name := "reactiveFinds", fn := fun _ => fun
  | [d1, d2] => { results := [.lit (.bool false)], args := [d1, d2] }
  | _ => none }
def ReactiveFindsWrongFalsely : Prop := reactiveFindsRow.holds Try.pinned (OpenSpec.ofChange reactiveFindsWrong)

/-- 'multihoplaw38.ReactiveBreaks': WHATEVER THE INPUT: true; the input reads as it did. -/
def reactiveBreaksSpec : ChangeSpec := { name := "reactiveBreaks", fn := fun _ => fun
  | [d1, d2, d3] => { results := [.lit (.bool true)], args := [d1, d2, d3] }
  | _ => none }
def reactiveBreaksRow : OpenClaim := { program := "ytmblmljcjmmlgaa", sum := "4b7dc2163e1e905c30b449b70e02722ff070b567bccfe42e3b398b700b609861", func := "multihop/multihoplaw38.ReactiveBreaks", spec := "reactiveBreaks", unfollowed := true, recurses := true, apart := false }
def ReactiveBreaksSaid : Prop := reactiveBreaksRow.holds Try.pinned (OpenSpec.ofChange reactiveBreaksSpec)

/-- ITS FALSE NEIGHBOUR: 'it returns false'. Refute it at one input. -/
def reactiveBreaksWrong : ChangeSpec := { name := "reactiveBreaks", fn := fun _ => fun
  | [d1, d2, d3] => { results := [.lit (.bool false)], args := [d1, d2, d3] }
  | _ => none }
def ReactiveBreaksWrongFalsely : Prop := reactiveBreaksRow.holds Try.pinned (OpenSpec.ofChange reactiveBreaksWrong)

/-- 'multihoplaw38.ReactiveEnds': WHATEVER THE INPUT: true; the input reads as it did. -/
def reactiveEndsSpec : ChangeSpec := { name := "reactiveEnds", fn := fun _ => fun
  | [d1, d2, d3] => { results := [.lit (.bool true)], args := [d1, d2, d3] }
  | _ => none }
def reactiveEndsRow : OpenClaim := { program := "ytmblmljcjmmlgaa", sum := "4b7dc2163e1e905c30b449b70e02722ff070b567bccfe42e3b398b700b609861", func := "multihop/multihoplaw38.ReactiveEnds", spec := "reactiveEnds", unfollowed := true, recurses := true, apart := false }
def ReactiveEndsSaid : Prop := reactiveEndsRow.holds Try.pinned (OpenSpec.ofChange reactiveEndsSpec)

/-- ITS FALSE NEIGHBOUR: 'it returns false'. Refute it at one input. -/
def reactiveEndsWrong : ChangeSpec := { name := "reactiveEnds", fn := fun _ => fun
  | [d1, d2, d3] => { results := [.lit (.bool false)], args := [d1, d2, d3] }
  | _ => none }
def ReactiveEndsWrongFalsely : Prop := reactiveEndsRow.holds Try.pinned (OpenSpec.ofChange reactiveEndsWrong)

/-- 'multihoplaw38.ReactiveActs': WHATEVER THE INPUT: true; the input reads as it did. -/
def reactiveActsSpec : ChangeSpec := { name := "reactiveActs", fn := fun _ => fun
  | [d1, d2, d3, d4] => { results := [.lit (.bool true)], args := [d1, d2, d3, d4] }
  | _ => none }
def reactiveActsRow : OpenClaim := { program := "ytmblmljcjmmlgaa", sum := "4b7dc2163e1e905c30b449b70e02722ff070b567bccfe42e3b398b700b609861", func := "multihop/multihoplaw38.ReactiveActs", spec := "reactiveActs", unfollowed := true, recurses := true, apart := false }
def ReactiveActsSaid : Prop := reactiveActsRow.holds Try.pinned (OpenSpec.ofChange reactiveActsSpec)

/-- ITS FALSE NEIGHBOUR: 'it returns false'. Refute it at one input. -/
def reactiveActsWrong : ChangeSpec := { name := "reactiveActs", fn := fun _ => fun
  | [d1, d2, d3, d4] => { results := [.lit (.bool false)], args := [d1, d2, d3, d4] }
  | _ => none }
def ReactiveActsWrongFalsely : Prop := reactiveActsRow.holds Try.pinned (OpenSpec.ofChange reactiveActsWrong)

/- THE SECOND FORM. 'bulk': how many values and letters a reading holds, each counted each time it is reached (what is shared counts as often as it is met; a slice's spare places count too). A statement '..UptoSaid' is the law's where the arguments, and the package variables that the reading takes, are together of bulk at most 1048576: NARROWER than '..Said'. Prove '..Said' where nothing that the law and all that it calls make is longer than what came in: it says more and counts as full. Else prove '..UptoSaid'. A law counts once. -/
mutual
def uptoBulk {H : Type} : DataW H → Nat
  | .lit (.string bytes) => bytes.length + 1
  | .lit _ => 1
  | .nil => 1
  | .ptr d => uptoBulk d + 1
  | .slice elems spare => uptoBulkAll elems + uptoBulkAll spare + 1
  | .agg parts => uptoBulkAll parts + 1
  | .iface _ d => uptoBulk d + 1
  | .map entries => uptoBulkEntries entries + 1
  | .held _ => 1
def uptoBulkAll {H : Type} : List (DataW H) → Nat
  | [] => 0
  | d :: r => uptoBulk d + uptoBulkAll r
def uptoBulkEntries {H : Type} : List (Lit × DataW H) → Nat
  | [] => 0
  | x :: r => uptoBulkEntry x + uptoBulkEntries r
def uptoBulkEntry {H : Type} : Lit × DataW H → Nat
  | (.string bytes, d) => bytes.length + uptoBulk d + 1
  | (_, d) => uptoBulk d + 1
 end
def uptoSmall : (H : Type) → List (DataW H) → Bool := fun _ ds => decide (uptoBulkAll ds ≤ 1048576)
def OpenSpec.upto (s : _root_.Go.ChangeSpec) : _root_.Go.OpenSpec := { _root_.Go.OpenSpec.ofChange s with cond := some uptoSmall }

/-- 'multihoplaw38.ReactiveImproves', WHERE WHAT IT READS IS OF BULK AT MOST 1048576: true; the input reads as it did. -/
def reactiveImprovesUptoRow : OpenClaim := { program := "ytmblmljcjmmlgaa", sum := "4b7dc2163e1e905c30b449b70e02722ff070b567bccfe42e3b398b700b609861", func := "multihop/multihoplaw38.ReactiveImproves", spec := "reactiveImproves", unfollowed := true, recurses := true, apart := false, narrowed := true }
def ReactiveImprovesUptoSaid : Prop := reactiveImprovesUptoRow.holds Try.pinned (OpenSpec.upto reactiveImprovesSpec)

/-- 'multihoplaw38.ReactiveHears', WHERE WHAT IT READS IS OF BULK AT MOST 1048576: true; the input reads as it did. -/
def reactiveHearsUptoRow : OpenClaim := { program := "ytmblmljcjmmlgaa", sum := "4b7dc2163e1e905c30b449b70e02722ff070b567bccfe42e3b398b700b609861", func := "multihop/multihoplaw38.ReactiveHears", spec := "reactiveHears", unfollowed := true, recurses := true, apart := false, narrowed := true }
def ReactiveHearsUptoSaid : Prop := reactiveHearsUptoRow.holds Try.pinned (OpenSpec.upto reactiveHearsSpec)

/-- 'multihoplaw38.ReactiveFinds', WHERE WHAT IT READS IS OF BULK AT MOST 1048576: true; the input reads as it did. -/
def reactiveFindsUptoRow : OpenClaim := { program := "ytmblmljcjmmlgaa", sum := "4b7dc2163e1e905c30b449b70e02722ff070b567bccfe42e3b398b700b609861", func := "multihop/multihoplaw38.ReactiveFinds", spec := "reactiveFinds", unfollowed := true, recurses := true, apart := false, narrowed := true }
def ReactiveFindsUptoSaid : Prop := reactiveFindsUptoRow.holds Try.pinned (OpenSpec.upto reactiveFindsSpec)

/-- 'multihoplaw38.ReactiveBreaks', WHERE WHAT IT READS IS OF BULK AT MOST 1048576: true; the input reads as it did. -/
def reactiveBreaksUptoRow : OpenClaim := { program := "ytmblmljcjmmlgaa", sum := "4b7dc2163e1e905c30b449b70e02722ff070b567bccfe42e3b398b700b609861", func := "multihop/multihoplaw38.ReactiveBreaks", spec := "reactiveBreaks", unfollowed := true, recurses := true, apart := false, narrowed := true }
def ReactiveBreaksUptoSaid : Prop := reactiveBreaksUptoRow.holds Try.pinned (OpenSpec.upto reactiveBreaksSpec)

/-- 'multihoplaw38.ReactiveEnds', WHERE WHAT IT READS IS OF BULK AT MOST 1048576: true; the input reads as it did. -/
def reactiveEndsUptoRow : OpenClaim := { program := "ytmblmljcjmmlgaa", sum := "4b7dc2163e1e905c30b449b70e02722ff070b567bccfe42e3b398b700b609861", func := "multihop/multihoplaw38.ReactiveEnds", spec := "reactiveEnds", unfollowed := true, recurses := true, apart := false, narrowed := true }
def ReactiveEndsUptoSaid : Prop := reactiveEndsUptoRow.holds Try.pinned (OpenSpec.upto reactiveEndsSpec)

/-- 'multihoplaw38.ReactiveActs', WHERE WHAT IT READS IS OF BULK AT MOST 1048576: true; the input reads as it did. -/
def reactiveActsUptoRow : OpenClaim := { program := "ytmblmljcjmmlgaa", sum := "4b7dc2163e1e905c30b449b70e02722ff070b567bccfe42e3b398b700b609861", func := "multihop/multihoplaw38.ReactiveActs", spec := "reactiveActs", unfollowed := true, recurses := true, apart := false, narrowed := true }
def ReactiveActsUptoSaid : Prop := reactiveActsUptoRow.holds Try.pinned (OpenSpec.upto reactiveActsSpec)

end Rows
end Go.Proofs.Ytmblmljcjmmlgaa
