/-
  No cell of these rows narrows 'for every input' (looked for: loops, veiled, ifaces, maps, wideKeys, modest, calm, conditions, laid).
  DERIVED. THE GIVEN ROWS OF THIS SEAT. 5 by the template 'for every input the law returns true; each argument reads behind the call as it read before'; 0 by the template 'total and deterministic' (their statements: YtkmcmhohelgjfaaTotals.lean).
  GIVEN WITH THE SEED: the statements are not yours to turn. If you find one false, say at which input.
  Laid BY PROGRAM, IN A SANDBOX (cutbox-rows.mjs): the forced cells as the released guide's own fill.sh prints them over the translation c7ac22c8916aa48d… (all of the seat's roots in one cut). By AI agents, Wed Nov 11 2026. No macro, syntax, notation, axiom, sorry.
-/
import Derived.Test.YtkmcmhohelgjfaaChecked
import GoSem.Claim
import GoSem.ClaimJoined
import GoSem.ClaimMapViews
import Derived.JoinedTies
import Derived.KernelRfl
namespace Go.Proofs.Ytkmcmhohelgjfaa
/- THE CELL 'sum', in the pinned program and in every row, IS THE sha256 OF THE DUMP (.gsa) THAT YtkmcmhohelgjfaaProg.lean LOADS. Nothing in Lean hashes anything: it is a label: what it is worth is what the hold of that sum in a sandbox is worth. -/
noncomputable def Try.pinned : Pinned := { name := "ytkmcmhohelgjfaa", sum := "c7ac22c8916aa48d88d3d135aba3a67e6876f7ad59127bef55d6bd17e4861796", checked := Try.checked }
namespace Rows
def none {H : Type} : Left H := { results := [], args := [] }

/-- 'multihoplaw32.OracleFollows': WHATEVER THE INPUT: true; the input reads as it did. -/
def oracleFollowsSpec : ChangeSpec := { name := "oracleFollows", fn := fun _ => fun
  | [d1, d2, d3] => { results := [.lit (.bool true)], args := [d1, d2, d3] }
  | _ => none }
def oracleFollowsRow : OpenClaim := { program := "ytkmcmhohelgjfaa", sum := "c7ac22c8916aa48d88d3d135aba3a67e6876f7ad59127bef55d6bd17e4861796", func := "multihop/multihoplaw32.OracleFollows", spec := "oracleFollows", apart := false }
def OracleFollowsSaid : Prop := oracleFollowsRow.holds Try.pinned (OpenSpec.ofChange oracleFollowsSpec)

/-- ITS FALSE NEIGHBOUR: 'it returns false'. Refute it at one input. -/
def oracleFollowsWrong : ChangeSpec := { name := "oracleFollows", fn := fun _ => fun
  | [d1, d2, d3] => { results := [.lit (.bool false)], args := [d1, d2, d3] }
  | _ => none }
def OracleFollowsWrongFalsely : Prop := oracleFollowsRow.holds Try.pinned (OpenSpec.ofChange oracleFollowsWrong)

/-- 'multihoplaw32.OracleShortest': WHATEVER THE INPUT: true; the input reads as it did. -/
def oracleShortestSpec : ChangeSpec := { name := "oracleShortest", fn := fun _ => fun
  | [d] => { results := [.lit (.bool true)], args := [d] }
  | _ => none }
def oracleShortestRow : OpenClaim := { program := "ytkmcmhohelgjfaa", sum := "c7ac22c8916aa48d88d3d135aba3a67e6876f7ad59127bef55d6bd17e4861796", func := "multihop/multihoplaw32.OracleShortest", spec := "oracleShortest", apart := false }
def OracleShortestSaid : Prop := oracleShortestRow.holds Try.pinned (OpenSpec.ofChange oracleShortestSpec)

/-- ITS FALSE NEIGHBOUR: 'it returns false'. Refute it at one input. -/
def oracleShortestWrong : ChangeSpec := { name := "oracleShortest", fn := fun _ => fun
  | [d] => { results := [.lit (.bool false)], args := [d] }
  | _ => none }
def OracleShortestWrongFalsely : Prop := oracleShortestRow.holds Try.pinned (OpenSpec.ofChange oracleShortestWrong)

/-- 'multihoplaw32.OracleConnects': WHATEVER THE INPUT: true; the input reads as it did. -/
def oracleConnectsSpec : ChangeSpec := { name := "oracleConnects", fn := fun _ => fun
  | [d] => { results := [.lit (.bool true)], args := [d] }
  | _ => none }
def oracleConnectsRow : OpenClaim := { program := "ytkmcmhohelgjfaa", sum := "c7ac22c8916aa48d88d3d135aba3a67e6876f7ad59127bef55d6bd17e4861796", func := "multihop/multihoplaw32.OracleConnects", spec := "oracleConnects", apart := false }
def OracleConnectsSaid : Prop := oracleConnectsRow.holds Try.pinned (OpenSpec.ofChange oracleConnectsSpec)

/-- ITS FALSE NEIGHBOUR: 'it returns false'. Refute it at one input. -/
def oracleConnectsWrong : ChangeSpec := { name := "oracleConnects", fn := fun _ => fun
  | [d] => { results := [.lit (.bool false)], args := [d] }
  | _ => none }
def OracleConnectsWrongFalsely : Prop := oracleConnectsRow.holds Try.pinned (OpenSpec.ofChange oracleConnectsWrong)

/-- 'multihoplaw32.OracleForms': WHATEVER THE INPUT: true; the input reads as it did. -/
def oracleFormsSpec : ChangeSpec := { name := "oracleForms", fn := fun _ => fun
  | [d1, d2, d3] => { results := [.lit (.bool true)], args := [d1, d2, d3] }
  | _ => none }
def oracleFormsRow : OpenClaim := { program := "ytkmcmhohelgjfaa", sum := "c7ac22c8916aa48d88d3d135aba3a67e6876f7ad59127bef55d6bd17e4861796", func := "multihop/multihoplaw32.OracleForms", spec := "oracleForms", apart := false }
def OracleFormsSaid : Prop := oracleFormsRow.holds Try.pinned (OpenSpec.ofChange oracleFormsSpec)

/-- ITS FALSE NEIGHBOUR: 'it returns false'. Refute it at one input. -/
def oracleFormsWrong : ChangeSpec := { name := "oracleForms", fn := fun _ => fun
  | [d1, d2, d3] => { results := [.lit (.bool false)], args := [d1, d2, d3] }
  | _ => none }
def OracleFormsWrongFalsely : Prop := oracleFormsRow.holds Try.pinned (OpenSpec.ofChange oracleFormsWrong)

/-- 'multihoplaw32.OracleNumbers': WHATEVER THE INPUT: true; the input reads as it did. -/
def oracleNumbersSpec : ChangeSpec := { name := "oracleNumbers", fn := fun _ => fun
  | [d] => { results := [.lit (.bool true)], args := [d] }
  | _ => none }
def oracleNumbersRow : OpenClaim := { program := "ytkmcmhohelgjfaa", sum := "c7ac22c8916aa48d88d3d135aba3a67e6876f7ad59127bef55d6bd17e4861796", func := "multihop/multihoplaw32.OracleNumbers", spec := "oracleNumbers", inPlace := ["slices.overlaps[int]"], apart := false }
def OracleNumbersSaid : Prop := oracleNumbersRow.holds Try.pinned (OpenSpec.ofChange oracleNumbersSpec)

/-- ITS FALSE NEIGHBOUR: 'it returns false'. Refute it at one input. -/
def oracleNumbersWrong : ChangeSpec := { name := "oracleNumbers", fn := fun _ => fun
  | [d] => { results := [.lit (.bool false)], args := [d] }
  | _ => none }
def OracleNumbersWrongFalsely : Prop := oracleNumbersRow.holds Try.pinned (OpenSpec.ofChange oracleNumbersWrong)

/- THE SECOND FORM. 'bulk': how many values and letters a reading holds, each counted each time it is reached (what is shared counts as often as it is met; a slice's spare places count too). A statement '..UptoSaid' is the law's where the arguments, and the package variables that the reading takes, are together of bulk at most 1048576: NARROWER than '..Said'. Prove '..Said' where nothing that the law and all that it calls make is longer than what came in: it says more and counts as full. Else prove '..UptoSaid'. A law counts once. -/
mutual
def uptoBulk {H : Type} : DataW H → Nat
  | .lit (.string bytes) => bytes.length + 1
  | .lit _ => 1
  | .nil => 1
  | .ptr d => uptoBulk d + 1
  | .slice elems spare => uptoBulkAll elems + uptoBulkAll spare + 1
  | .agg parts => uptoBulkAll parts + 1
  | .iface _ d => uptoBulk d + 1
  | .map entries => uptoBulkEntries entries + 1
  | .held _ => 1
def uptoBulkAll {H : Type} : List (DataW H) → Nat
  | [] => 0
  | d :: r => uptoBulk d + uptoBulkAll r
def uptoBulkEntries {H : Type} : List (Lit × DataW H) → Nat
  | [] => 0
  | x :: r => uptoBulkEntry x + uptoBulkEntries r
def uptoBulkEntry {H : Type} : Lit × DataW H → Nat
  | (.string bytes, d) => bytes.length + uptoBulk d + 1
  | (_, d) => uptoBulk d + 1
 end
def uptoSmall : (H : Type) → List (DataW H) → Bool := fun _ ds => decide (uptoBulkAll ds ≤ 1048576)
def OpenSpec.upto (s : _root_.Go.ChangeSpec) : _root_.Go.OpenSpec := { _root_.Go.OpenSpec.ofChange s with cond := some uptoSmall }

/-- 'multihoplaw32.OracleFollows', WHERE WHAT IT READS IS OF BULK AT MOST 1048576: true; the input reads as it did. -/
def oracleFollowsUptoRow : OpenClaim := { program := "ytkmcmhohelgjfaa", sum := "c7ac22c8916aa48d88d3d135aba3a67e6876f7ad59127bef55d6bd17e4861796", func := "multihop/multihoplaw32.OracleFollows", spec := "oracleFollows", apart := false, narrowed := true }
def OracleFollowsUptoSaid : Prop := oracleFollowsUptoRow.holds Try.pinned (OpenSpec.upto oracleFollowsSpec)

/-- 'multihoplaw32.OracleShortest', WHERE WHAT IT READS IS OF BULK AT MOST 1048576: true; the input reads as it did. -/
def oracleShortestUptoRow : OpenClaim := { program := "ytkmcmhohelgjfaa", sum := "c7ac22c8916aa48d88d3d135aba3a67e6876f7ad59127bef55d6bd17e4861796", func := "multihop/multihoplaw32.OracleShortest", spec := "oracleShortest", apart := false, narrowed := true }
def OracleShortestUptoSaid : Prop := oracleShortestUptoRow.holds Try.pinned (OpenSpec.upto oracleShortestSpec)

/-- 'multihoplaw32.OracleConnects', WHERE WHAT IT READS IS OF BULK AT MOST 1048576: true; the input reads as it did. -/
def oracleConnectsUptoRow : OpenClaim := { program := "ytkmcmhohelgjfaa", sum := "c7ac22c8916aa48d88d3d135aba3a67e6876f7ad59127bef55d6bd17e4861796", func := "multihop/multihoplaw32.OracleConnects", spec := "oracleConnects", apart := false, narrowed := true }
def OracleConnectsUptoSaid : Prop := oracleConnectsUptoRow.holds Try.pinned (OpenSpec.upto oracleConnectsSpec)

/-- 'multihoplaw32.OracleForms', WHERE WHAT IT READS IS OF BULK AT MOST 1048576: true; the input reads as it did. -/
def oracleFormsUptoRow : OpenClaim := { program := "ytkmcmhohelgjfaa", sum := "c7ac22c8916aa48d88d3d135aba3a67e6876f7ad59127bef55d6bd17e4861796", func := "multihop/multihoplaw32.OracleForms", spec := "oracleForms", apart := false, narrowed := true }
def OracleFormsUptoSaid : Prop := oracleFormsUptoRow.holds Try.pinned (OpenSpec.upto oracleFormsSpec)

/-- 'multihoplaw32.OracleNumbers', WHERE WHAT IT READS IS OF BULK AT MOST 1048576: true; the input reads as it did. -/
def oracleNumbersUptoRow : OpenClaim := { program := "ytkmcmhohelgjfaa", sum := "c7ac22c8916aa48d88d3d135aba3a67e6876f7ad59127bef55d6bd17e4861796", func := "multihop/multihoplaw32.OracleNumbers", spec := "oracleNumbers", inPlace := ["slices.overlaps[int]"], apart := false, narrowed := true }
def OracleNumbersUptoSaid : Prop := oracleNumbersUptoRow.holds Try.pinned (OpenSpec.upto oracleNumbersSpec)

end Rows
end Go.Proofs.Ytkmcmhohelgjfaa
