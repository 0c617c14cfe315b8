/-
  No cell of these rows narrows 'for every input' (looked for: loops, veiled, ifaces, maps, wideKeys, modest, calm, conditions, laid).
  DERIVED. THE GIVEN ROWS OF THIS SEAT. 5 by the template 'for every input the law returns true; each argument reads behind the call as it read before'; 0 by the template 'total and deterministic' (their statements: YtgkkceoocaincaaTotals.lean).
  GIVEN WITH THE SEED: the statements are not yours to turn. If you find one false, say at which input.
  Laid BY PROGRAM, IN A SANDBOX (cutbox-rows.mjs): the forced cells as the released guide's own fill.sh prints them over the translation 0dc172d56d566543… (all of the seat's roots in one cut). By AI agents, Wed Nov 11 2026. No macro, syntax, notation, axiom, sorry.
-/
import Derived.Test.YtgkkceoocaincaaChecked
import GoSem.Claim
import GoSem.ClaimJoined
import GoSem.ClaimMapViews
import Derived.JoinedTies
import Derived.KernelRfl
namespace Go.Proofs.Ytgkkceoocaincaa
/- THE CELL 'sum', in the pinned program and in every row, IS THE sha256 OF THE DUMP (.gsa) THAT YtgkkceoocaincaaProg.lean LOADS. Nothing in Lean hashes anything: it is a label: what it is worth is what the hold of that sum in a sandbox is worth. -/
noncomputable def Try.pinned : Pinned := { name := "ytgkkceoocaincaa", sum := "0dc172d56d566543c9b01c0f4f79a0d6aad8fca827dec1073325b98950ca9eef", checked := Try.checked }
namespace Rows
def none {H : Type} : Left H := { results := [], args := [] }

/-- 'multihoplaw25.SequenceOrders': WHATEVER THE INPUT: true; the input reads as it did. -/
def sequenceOrdersSpec : ChangeSpec := { name := "sequenceOrders", fn := fun _ => fun
  | [d1, d2, d3, d4] => { results := [.lit (.bool true)], args := [d1, d2, d3, d4] }
  | _ => none }
def sequenceOrdersRow : OpenClaim := { program := "ytgkkceoocaincaa", sum := "0dc172d56d566543c9b01c0f4f79a0d6aad8fca827dec1073325b98950ca9eef", func := "multihop/multihoplaw25.SequenceOrders", spec := "sequenceOrders", apart := false }
def SequenceOrdersSaid : Prop := sequenceOrdersRow.holds Try.pinned (OpenSpec.ofChange sequenceOrdersSpec)

/-- ITS FALSE NEIGHBOUR: 'it returns false'. Refute it at one input. -/
def sequenceOrdersWrong : ChangeSpec := { name := "sequenceOrders", fn := fun _ => fun
  | [d1, d2, d3, d4] => { results := [.lit (.bool false)], args := [d1, d2, d3, d4] }
  | _ => none }
def SequenceOrdersWrongFalsely : Prop := sequenceOrdersRow.holds Try.pinned (OpenSpec.ofChange sequenceOrdersWrong)

/-- 'multihoplaw25.SequenceTotal': WHATEVER THE INPUT: true; the input reads as it did. -/
def sequenceTotalSpec : ChangeSpec := { name := "sequenceTotal", fn := fun _ => fun
  | [d1, d2] => { results := [.lit (.bool true)], args := [d1, d2] }
  | _ => none }
def sequenceTotalRow : OpenClaim := { program := "ytgkkceoocaincaa", sum := "0dc172d56d566543c9b01c0f4f79a0d6aad8fca827dec1073325b98950ca9eef", func := "multihop/multihoplaw25.SequenceTotal", spec := "sequenceTotal", apart := false }
def SequenceTotalSaid : Prop := sequenceTotalRow.holds Try.pinned (OpenSpec.ofChange sequenceTotalSpec)

/-- ITS FALSE NEIGHBOUR: 'it returns false'. Refute it at one input. -/
def sequenceTotalWrong : ChangeSpec := { name := "sequenceTotal", fn := fun _ => fun
  | [d1, d2] => { results := [.lit (.bool false)], args := [d1, d2] }
  | _ => none }
def SequenceTotalWrongFalsely : Prop := sequenceTotalRow.holds Try.pinned (OpenSpec.ofChange sequenceTotalWrong)

/-- 'multihoplaw25.SequenceChains': WHATEVER THE INPUT: true; the input reads as it did. -/
def sequenceChainsSpec : ChangeSpec := { name := "sequenceChains", fn := fun _ => fun
  | [d1, d2, d3] => { results := [.lit (.bool true)], args := [d1, d2, d3] }
  | _ => none }
def sequenceChainsRow : OpenClaim := { program := "ytgkkceoocaincaa", sum := "0dc172d56d566543c9b01c0f4f79a0d6aad8fca827dec1073325b98950ca9eef", func := "multihop/multihoplaw25.SequenceChains", spec := "sequenceChains", apart := false }
def SequenceChainsSaid : Prop := sequenceChainsRow.holds Try.pinned (OpenSpec.ofChange sequenceChainsSpec)

/-- ITS FALSE NEIGHBOUR: 'it returns false'. Refute it at one input. -/
def sequenceChainsWrong : ChangeSpec := { name := "sequenceChains", fn := fun _ => fun
  | [d1, d2, d3] => { results := [.lit (.bool false)], args := [d1, d2, d3] }
  | _ => none }
def SequenceChainsWrongFalsely : Prop := sequenceChainsRow.holds Try.pinned (OpenSpec.ofChange sequenceChainsWrong)

/-- 'multihoplaw25.SequenceForms': WHATEVER THE INPUT: true; the input reads as it did. -/
def sequenceFormsSpec : ChangeSpec := { name := "sequenceForms", fn := fun _ => fun
  | [d1, d2, d3, d4, d5] => { results := [.lit (.bool true)], args := [d1, d2, d3, d4, d5] }
  | _ => none }
def sequenceFormsRow : OpenClaim := { program := "ytgkkceoocaincaa", sum := "0dc172d56d566543c9b01c0f4f79a0d6aad8fca827dec1073325b98950ca9eef", func := "multihop/multihoplaw25.SequenceForms", spec := "sequenceForms", apart := false }
def SequenceFormsSaid : Prop := sequenceFormsRow.holds Try.pinned (OpenSpec.ofChange sequenceFormsSpec)

/-- ITS FALSE NEIGHBOUR: 'it returns false'. Refute it at one input. -/
def sequenceFormsWrong : ChangeSpec := { name := "sequenceForms", fn := fun _ => fun
  | [d1, d2, d3, d4, d5] => { results := [.lit (.bool false)], args := [d1, d2, d3, d4, d5] }
  | _ => none }
def SequenceFormsWrongFalsely : Prop := sequenceFormsRow.holds Try.pinned (OpenSpec.ofChange sequenceFormsWrong)

/-- 'multihoplaw25.SequenceExtends': WHATEVER THE INPUT: true; the input reads as it did. -/
def sequenceExtendsSpec : ChangeSpec := { name := "sequenceExtends", fn := fun _ => fun
  | [d1, d2] => { results := [.lit (.bool true)], args := [d1, d2] }
  | _ => none }
def sequenceExtendsRow : OpenClaim := { program := "ytgkkceoocaincaa", sum := "0dc172d56d566543c9b01c0f4f79a0d6aad8fca827dec1073325b98950ca9eef", func := "multihop/multihoplaw25.SequenceExtends", spec := "sequenceExtends", apart := false }
def SequenceExtendsSaid : Prop := sequenceExtendsRow.holds Try.pinned (OpenSpec.ofChange sequenceExtendsSpec)

/-- ITS FALSE NEIGHBOUR: 'it returns false'. Refute it at one input. -/
def sequenceExtendsWrong : ChangeSpec := { name := "sequenceExtends", fn := fun _ => fun
  | [d1, d2] => { results := [.lit (.bool false)], args := [d1, d2] }
  | _ => none }
def SequenceExtendsWrongFalsely : Prop := sequenceExtendsRow.holds Try.pinned (OpenSpec.ofChange sequenceExtendsWrong)

/- THE SECOND FORM. 'bulk': how many values and letters a reading holds, each counted each time it is reached (what is shared counts as often as it is met; a slice's spare places count too). A statement '..UptoSaid' is the law's where the arguments, and the package variables that the reading takes, are together of bulk at most 1048576: NARROWER than '..Said'. Prove '..Said' where nothing that the law and all that it calls make is longer than what came in: it says more and counts as full. Else prove '..UptoSaid'. A law counts once. -/
mutual
def uptoBulk {H : Type} : DataW H → Nat
  | .lit (.string bytes) => bytes.length + 1
  | .lit _ => 1
  | .nil => 1
  | .ptr d => uptoBulk d + 1
  | .slice elems spare => uptoBulkAll elems + uptoBulkAll spare + 1
  | .agg parts => uptoBulkAll parts + 1
  | .iface _ d => uptoBulk d + 1
  | .map entries => uptoBulkEntries entries + 1
  | .held _ => 1
def uptoBulkAll {H : Type} : List (DataW H) → Nat
  | [] => 0
  | d :: r => uptoBulk d + uptoBulkAll r
def uptoBulkEntries {H : Type} : List (Lit × DataW H) → Nat
  | [] => 0
  | x :: r => uptoBulkEntry x + uptoBulkEntries r
def uptoBulkEntry {H : Type} : Lit × DataW H → Nat
  | (.string bytes, d) => bytes.length + uptoBulk d + 1
  | (_, d) => uptoBulk d + 1
 end
def uptoSmall : (H : Type) → List (DataW H) → Bool := fun _ ds => decide (uptoBulkAll ds ≤ 1048576)
def OpenSpec.upto (s : _root_.Go.ChangeSpec) : _root_.Go.OpenSpec := { _root_.Go.OpenSpec.ofChange s with cond := some uptoSmall }

/-- 'multihoplaw25.SequenceOrders', WHERE WHAT IT READS IS OF BULK AT MOST 1048576: true; the input reads as it did. -/
def sequenceOrdersUptoRow : OpenClaim := { program := "ytgkkceoocaincaa", sum := "0dc172d56d566543c9b01c0f4f79a0d6aad8fca827dec1073325b98950ca9eef", func := "multihop/multihoplaw25.SequenceOrders", spec := "sequenceOrders", apart := false, narrowed := true }
def SequenceOrdersUptoSaid : Prop := sequenceOrdersUptoRow.holds Try.pinned (OpenSpec.upto sequenceOrdersSpec)

/-- 'multihoplaw25.SequenceTotal', WHERE WHAT IT READS IS OF BULK AT MOST 1048576: true; the input reads as it did. -/
def sequenceTotalUptoRow : OpenClaim := { program := "ytgkkceoocaincaa", sum := "0dc172d56d566543c9b01c0f4f79a0d6aad8fca827dec1073325b98950ca9eef", func := "multihop/multihoplaw25.SequenceTotal", spec := "sequenceTotal", apart := false, narrowed := true }
def SequenceTotalUptoSaid : Prop := sequenceTotalUptoRow.holds Try.pinned (OpenSpec.upto sequenceTotalSpec)

/-- 'multihoplaw25.SequenceChains', WHERE WHAT IT READS IS OF BULK AT MOST 1048576: true; the input reads as it did. -/
def sequenceChainsUptoRow : OpenClaim := { program := "ytgkkceoocaincaa", sum := "0dc172d56d566543c9b01c0f4f79a0d6aad8fca827dec1073325b98950ca9eef", func := "multihop/multihoplaw25.SequenceChains", spec := "sequenceChains", apart := false, narrowed := true }
def SequenceChainsUptoSaid : Prop := sequenceChainsUptoRow.holds Try.pinned (OpenSpec.upto sequenceChainsSpec)

/-- 'multihoplaw25.SequenceForms', WHERE WHAT IT READS IS OF BULK AT MOST 1048576: true; the input reads as it did. -/
def sequenceFormsUptoRow : OpenClaim := { program := "ytgkkceoocaincaa", sum := "0dc172d56d566543c9b01c0f4f79a0d6aad8fca827dec1073325b98950ca9eef", func := "multihop/multihoplaw25.SequenceForms", spec := "sequenceForms", apart := false, narrowed := true }
def SequenceFormsUptoSaid : Prop := sequenceFormsUptoRow.holds Try.pinned (OpenSpec.upto sequenceFormsSpec)

/-- 'multihoplaw25.SequenceExtends', WHERE WHAT IT READS IS OF BULK AT MOST 1048576: true; the input reads as it did. -/
def sequenceExtendsUptoRow : OpenClaim := { program := "ytgkkceoocaincaa", sum := "0dc172d56d566543c9b01c0f4f79a0d6aad8fca827dec1073325b98950ca9eef", func := "multihop/multihoplaw25.SequenceExtends", spec := "sequenceExtends", apart := false, narrowed := true }
def SequenceExtendsUptoSaid : Prop := sequenceExtendsUptoRow.holds Try.pinned (OpenSpec.upto sequenceExtendsSpec)

end Rows
end Go.Proofs.Ytgkkceoocaincaa
