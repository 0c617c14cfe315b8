/-
  No cell of these rows narrows 'for every input' (looked for: loops, veiled, ifaces, maps, wideKeys, modest, calm, conditions, laid).
  DERIVED. THE GIVEN ROWS OF THIS SEAT. 6 by the template 'for every input the law returns true; each argument reads behind the call as it read before'; 0 by the template 'total and deterministic' (their statements: YteebplkhnhpiiaaTotals.lean).
  GIVEN WITH THE SEED: the statements are not yours to turn. If you find one false, say at which input.
  Laid BY PROGRAM, IN A SANDBOX (cutbox-rows.mjs): the forced cells as the released guide's own fill.sh prints them over the translation 63ecbf24f59dd544… (all of the seat's roots in one cut). By AI agents, Wed Nov 11 2026. No macro, syntax, notation, axiom, sorry.
-/
import Derived.Test.YteebplkhnhpiiaaChecked
import GoSem.Claim
import GoSem.ClaimJoined
import GoSem.ClaimMapViews
import Derived.JoinedTies
import Derived.KernelRfl
namespace Go.Proofs.Yteebplkhnhpiiaa
/- THE CELL 'sum', in the pinned program and in every row, IS THE sha256 OF THE DUMP (.gsa) THAT YteebplkhnhpiiaaProg.lean LOADS. Nothing in Lean hashes anything: it is a label: what it is worth is what the hold of that sum in a sandbox is worth. -/
noncomputable def Try.pinned : Pinned := { name := "yteebplkhnhpiiaa", sum := "63ecbf24f59dd5446ff692512d5b54ad9c0f986c0e45f6ca7ddd18bc916e6332", checked := Try.checked }
namespace Rows
def none {H : Type} : Left H := { results := [], args := [] }

/-- 'multihoplaw17.ReassemblyForms': WHATEVER THE INPUT: true; the input reads as it did. -/
def reassemblyFormsSpec : ChangeSpec := { name := "reassemblyForms", fn := fun _ => fun
  | [d1, d2, d3, d4, d5, d6] => { results := [.lit (.bool true)], args := [d1, d2, d3, d4, d5, d6] }
  | _ => none }
def reassemblyFormsRow : OpenClaim := { program := "yteebplkhnhpiiaa", sum := "63ecbf24f59dd5446ff692512d5b54ad9c0f986c0e45f6ca7ddd18bc916e6332", func := "multihop/multihoplaw17.ReassemblyForms", spec := "reassemblyForms", inPlace := ["slices.overlaps[multihop/api.Fragment]"], unfollowed := true, recurses := true, apart := false }
def ReassemblyFormsSaid : Prop := reassemblyFormsRow.holds Try.pinned (OpenSpec.ofChange reassemblyFormsSpec)

/-- ITS FALSE NEIGHBOUR: 'it returns false'. Refute it at one input. -/
def reassemblyFormsWrong : ChangeSpec := { name := "reassemblyForms", fn := fun _ => fun
  | [d1, d2, d3, d4, d5, d6] => { results := [.lit (.bool false)], args := [d1, d2, d3, d4, d5, d6] }
  | _ => none }
def ReassemblyFormsWrongFalsely : Prop := reassemblyFormsRow.holds Try.pinned (OpenSpec.ofChange reassemblyFormsWrong)

/-- 'multihoplaw17.ReassemblyPlays': WHATEVER THE INPUT: true; the input reads as it did. -/
def reassemblyPlaysSpec : ChangeSpec := { name := "reassemblyPlays", fn := fun _ => fun
  | [d] => { results := [.lit (.bool true)], args := [d] }
  | _ => none }
def reassemblyPlaysRow : OpenClaim := { program := "yteebplkhnhpiiaa", sum := "63ecbf24f59dd5446ff692512d5b54ad9c0f986c0e45f6ca7ddd18bc916e6332", func := "multihop/multihoplaw17.ReassemblyPlays", spec := "reassemblyPlays", inPlace := ["slices.overlaps[multihop/api.Fragment]"], unfollowed := true, recurses := true, apart := false }
def ReassemblyPlaysSaid : Prop := reassemblyPlaysRow.holds Try.pinned (OpenSpec.ofChange reassemblyPlaysSpec)

/-- ITS FALSE NEIGHBOUR: 'it returns false'. Refute it at one input. -/
def reassemblyPlaysWrong : ChangeSpec := { name := "reassemblyPlays", fn := fun _ => fun
  | [d] => { results := [.lit (.bool false)], args := [d] }
  | _ => none }
def ReassemblyPlaysWrongFalsely : Prop := reassemblyPlaysRow.holds Try.pinned (OpenSpec.ofChange reassemblyPlaysWrong)

/-- 'multihoplaw17.ReassemblyWhole': WHATEVER THE INPUT: true; the input reads as it did. -/
def reassemblyWholeSpec : ChangeSpec := { name := "reassemblyWhole", fn := fun _ => fun
  | [d1, d2, d3, d4] => { results := [.lit (.bool true)], args := [d1, d2, d3, d4] }
  | _ => none }
def reassemblyWholeRow : OpenClaim := { program := "yteebplkhnhpiiaa", sum := "63ecbf24f59dd5446ff692512d5b54ad9c0f986c0e45f6ca7ddd18bc916e6332", func := "multihop/multihoplaw17.ReassemblyWhole", spec := "reassemblyWhole", inPlace := ["slices.overlaps[multihop/api.Fragment]"], unfollowed := true, recurses := true, apart := false }
def ReassemblyWholeSaid : Prop := reassemblyWholeRow.holds Try.pinned (OpenSpec.ofChange reassemblyWholeSpec)

/-- ITS FALSE NEIGHBOUR: 'it returns false'. Refute it at one input. -/
def reassemblyWholeWrong : ChangeSpec := { name := "reassemblyWhole", fn := fun _ => fun
  | [d1, d2, d3, d4] => { results := [.lit (.bool false)], args := [d1, d2, d3, d4] }
  | _ => none }
def ReassemblyWholeWrongFalsely : Prop := reassemblyWholeRow.holds Try.pinned (OpenSpec.ofChange reassemblyWholeWrong)

/-- 'multihoplaw17.ReassemblyApart': WHATEVER THE INPUT: true; the input reads as it did. -/
def reassemblyApartSpec : ChangeSpec := { name := "reassemblyApart", fn := fun _ => fun
  | [d1, d2, d3, d4, d5] => { results := [.lit (.bool true)], args := [d1, d2, d3, d4, d5] }
  | _ => none }
def reassemblyApartRow : OpenClaim := { program := "yteebplkhnhpiiaa", sum := "63ecbf24f59dd5446ff692512d5b54ad9c0f986c0e45f6ca7ddd18bc916e6332", func := "multihop/multihoplaw17.ReassemblyApart", spec := "reassemblyApart", inPlace := ["slices.overlaps[multihop/api.Fragment]"], unfollowed := true, recurses := true, apart := false }
def ReassemblyApartSaid : Prop := reassemblyApartRow.holds Try.pinned (OpenSpec.ofChange reassemblyApartSpec)

/-- ITS FALSE NEIGHBOUR: 'it returns false'. Refute it at one input. -/
def reassemblyApartWrong : ChangeSpec := { name := "reassemblyApart", fn := fun _ => fun
  | [d1, d2, d3, d4, d5] => { results := [.lit (.bool false)], args := [d1, d2, d3, d4, d5] }
  | _ => none }
def ReassemblyApartWrongFalsely : Prop := reassemblyApartRow.holds Try.pinned (OpenSpec.ofChange reassemblyApartWrong)

/-- 'multihoplaw17.ReassemblyLate': WHATEVER THE INPUT: true; the input reads as it did. -/
def reassemblyLateSpec : ChangeSpec := { name := "reassemblyLate", fn := fun _ => fun
  | [d1, d2, d3, d4] => { results := [.lit (.bool true)], args := [d1, d2, d3, d4] }
  | _ => none }
def reassemblyLateRow : OpenClaim := { program := "yteebplkhnhpiiaa", sum := "63ecbf24f59dd5446ff692512d5b54ad9c0f986c0e45f6ca7ddd18bc916e6332", func := "multihop/multihoplaw17.ReassemblyLate", spec := "reassemblyLate", inPlace := ["slices.overlaps[multihop/api.Fragment]"], unfollowed := true, recurses := true, apart := false }
def ReassemblyLateSaid : Prop := reassemblyLateRow.holds Try.pinned (OpenSpec.ofChange reassemblyLateSpec)

/-- ITS FALSE NEIGHBOUR: 'it returns false'. Refute it at one input. -/
def reassemblyLateWrong : ChangeSpec := { name := "reassemblyLate", fn := fun _ => fun
  | [d1, d2, d3, d4] => { results := [.lit (.bool false)], args := [d1, d2, d3, d4] }
  | _ => none }
def ReassemblyLateWrongFalsely : Prop := reassemblyLateRow.holds Try.pinned (OpenSpec.ofChange reassemblyLateWrong)

/-- 'multihoplaw17.ReassemblyFull': WHATEVER THE INPUT: true; the input reads as it did. -/
def reassemblyFullSpec : ChangeSpec := { name := "reassemblyFull", fn := fun _ => fun
  | [d] => { results := [.lit (.bool true)], args := [d] }
  | _ => none }
def reassemblyFullRow : OpenClaim := { program := "yteebplkhnhpiiaa", sum := "63ecbf24f59dd5446ff692512d5b54ad9c0f986c0e45f6ca7ddd18bc916e6332", func := "multihop/multihoplaw17.ReassemblyFull", spec := "reassemblyFull", inPlace := ["slices.overlaps[multihop/api.Fragment]"], unfollowed := true, recurses := true, apart := false }
def ReassemblyFullSaid : Prop := reassemblyFullRow.holds Try.pinned (OpenSpec.ofChange reassemblyFullSpec)

/-- ITS FALSE NEIGHBOUR: 'it returns false'. Refute it at one input. -/
def reassemblyFullWrong : ChangeSpec := { name := "reassemblyFull", fn := fun _ => fun
  | [d] => { results := [.lit (.bool false)], args := [d] }
  | _ => none }
def ReassemblyFullWrongFalsely : Prop := reassemblyFullRow.holds Try.pinned (OpenSpec.ofChange reassemblyFullWrong)

/- THE SECOND FORM. 'bulk': how many values and letters a reading holds, each counted each time it is reached (what is shared counts as often as it is met; a slice's spare places count too). A statement '..UptoSaid' is the law's where the arguments, and the package variables that the reading takes, are together of bulk at most 1048576: NARROWER than '..Said'. Prove '..Said' where nothing that the law and all that it calls make is longer than what came in: it says more and counts as full. Else prove '..UptoSaid'. A law counts once. -/
mutual
def uptoBulk {H : Type} : DataW H → Nat
  | .lit (.string bytes) => bytes.length + 1
  | .lit _ => 1
  | .nil => 1
  | .ptr d => uptoBulk d + 1
  | .slice elems spare => uptoBulkAll elems + uptoBulkAll spare + 1
  | .agg parts => uptoBulkAll parts + 1
  | .iface _ d => uptoBulk d + 1
  | .map entries => uptoBulkEntries entries + 1
  | .held _ => 1
def uptoBulkAll {H : Type} : List (DataW H) → Nat
  | [] => 0
  | d :: r => uptoBulk d + uptoBulkAll r
def uptoBulkEntries {H : Type} : List (Lit × DataW H) → Nat
  | [] => 0
  | x :: r => uptoBulkEntry x + uptoBulkEntries r
def uptoBulkEntry {H : Type} : Lit × DataW H → Nat
  | (.string bytes, d) => bytes.length + uptoBulk d + 1
  | (_, d) => uptoBulk d + 1
 end
def uptoSmall : (H : Type) → List (DataW H) → Bool := fun _ ds => decide (uptoBulkAll ds ≤ 1048576)
def OpenSpec.upto (s : _root_.Go.ChangeSpec) : _root_.Go.OpenSpec := { _root_.Go.OpenSpec.ofChange s with cond := some uptoSmall }

/-- 'multihoplaw17.ReassemblyForms', WHERE WHAT IT READS IS OF BULK AT MOST 1048576: true; the input reads as it did. -/
def reassemblyFormsUptoRow : OpenClaim := { program := "yteebplkhnhpiiaa", sum := "63ecbf24f59dd5446ff692512d5b54ad9c0f986c0e45f6ca7ddd18bc916e6332", func := "multihop/multihoplaw17.ReassemblyForms", spec := "reassemblyForms", inPlace := ["slices.overlaps[multihop/api.Fragment]"], unfollowed := true, recurses := true, apart := false, narrowed := true }
def ReassemblyFormsUptoSaid : Prop := reassemblyFormsUptoRow.holds Try.pinned (OpenSpec.upto reassemblyFormsSpec)

/-- 'multihoplaw17.ReassemblyPlays', WHERE WHAT IT READS IS OF BULK AT MOST 1048576: true; the input reads as it did. -/
def reassemblyPlaysUptoRow : OpenClaim := { program := "yteebplkhnhpiiaa", sum := "63ecbf24f59dd5446ff692512d5b54ad9c0f986c0e45f6ca7ddd18bc916e6332", func := "multihop/multihoplaw17.ReassemblyPlays", spec := "reassemblyPlays", inPlace := ["slices.overlaps[multihop/api.Fragment]"], unfollowed := true, recurses := true, apart := false, narrowed := true }
def ReassemblyPlaysUptoSaid : Prop := reassemblyPlaysUptoRow.holds Try.pinned (OpenSpec.upto reassemblyPlaysSpec)

/-- 'multihoplaw17.ReassemblyWhole', WHERE WHAT IT READS IS OF BULK AT MOST 1048576: true; the input reads as it did. -/
def reassemblyWholeUptoRow : OpenClaim := { program := "yteebplkhnhpiiaa", sum := "63ecbf24f59dd5446ff692512d5b54ad9c0f986c0e45f6ca7ddd18bc916e6332", func := "multihop/multihoplaw17.ReassemblyWhole", spec := "reassemblyWhole", inPlace := ["slices.overlaps[multihop/api.Fragment]"], unfollowed := true, recurses := true, apart := false, narrowed := true }
def ReassemblyWholeUptoSaid : Prop := reassemblyWholeUptoRow.holds Try.pinned (OpenSpec.upto reassemblyWholeSpec)

/-- 'multihoplaw17.ReassemblyApart', WHERE WHAT IT READS IS OF BULK AT MOST 1048576: true; the input reads as it did. -/
def reassemblyApartUptoRow : OpenClaim := { program := "yteebplkhnhpiiaa", sum := "63ecbf24f59dd5446ff692512d5b54ad9c0f986c0e45f6ca7ddd18bc916e6332", func := "multihop/multihoplaw17.ReassemblyApart", spec := "reassemblyApart", inPlace := ["slices.overlaps[multihop/api.Fragment]"], unfollowed := true, recurses := true, apart := false, narrowed := true }
def ReassemblyApartUptoSaid : Prop := reassemblyApartUptoRow.holds Try.pinned (OpenSpec.upto reassemblyApartSpec)

/-- 'multihoplaw17.ReassemblyLate', WHERE WHAT IT READS IS OF BULK AT MOST 1048576: true; the input reads as it did. -/
def reassemblyLateUptoRow : OpenClaim := { program := "yteebplkhnhpiiaa", sum := "63ecbf24f59dd5446ff692512d5b54ad9c0f986c0e45f6ca7ddd18bc916e6332", func := "multihop/multihoplaw17.ReassemblyLate", spec := "reassemblyLate", inPlace := ["slices.overlaps[multihop/api.Fragment]"], unfollowed := true, recurses := true, apart := false, narrowed := true }
def ReassemblyLateUptoSaid : Prop := reassemblyLateUptoRow.holds Try.pinned (OpenSpec.upto reassemblyLateSpec)

/-- 'multihoplaw17.ReassemblyFull', WHERE WHAT IT READS IS OF BULK AT MOST 1048576: true; the input reads as it did. -/
def reassemblyFullUptoRow : OpenClaim := { program := "yteebplkhnhpiiaa", sum := "63ecbf24f59dd5446ff692512d5b54ad9c0f986c0e45f6ca7ddd18bc916e6332", func := "multihop/multihoplaw17.ReassemblyFull", spec := "reassemblyFull", inPlace := ["slices.overlaps[multihop/api.Fragment]"], unfollowed := true, recurses := true, apart := false, narrowed := true }
def ReassemblyFullUptoSaid : Prop := reassemblyFullUptoRow.holds Try.pinned (OpenSpec.upto reassemblyFullSpec)

end Rows
end Go.Proofs.Yteebplkhnhpiiaa
