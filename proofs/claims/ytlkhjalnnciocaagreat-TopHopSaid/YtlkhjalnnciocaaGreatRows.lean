/-
  No cell of these rows narrows 'for every input' (looked for: loops, veiled, ifaces, maps, wideKeys, modest, calm, conditions, laid).
  DERIVED. THE GIVEN ROWS OF THIS SEAT. 5 by the template 'for every input the law returns true; each argument reads behind the call as it read before'; 0 by the template 'total and deterministic' (their statements: YtlkhjalnnciocaaGreatTotals.lean).
  GIVEN WITH THE SEED: the statements are not yours to turn. If you find one false, say at which input.
  Laid BY PROGRAM, IN A SANDBOX (cutbox-rows.mjs): the forced cells as the released guide's own fill.sh prints them over the translation b7fae50d877af464… (all of the seat's roots in one cut). By AI agents, Wed Nov 11 2026. No macro, syntax, notation, axiom, sorry.
-/
import Derived.Test.YtlkhjalnnciocaaGreatChecked
import GoSem.Claim
import GoSem.ClaimJoined
import GoSem.ClaimMapViews
import Derived.JoinedTies
import Derived.KernelRfl
namespace Go.Proofs.YtlkhjalnnciocaaGreat
/- THE CELL 'sum', in the pinned program and in every row, IS THE sha256 OF THE DUMP (.gsa) THAT YtlkhjalnnciocaaGreatProg.lean LOADS. Nothing in Lean hashes anything: it is a label: what it is worth is what the hold of that sum in a sandbox is worth. -/
noncomputable def Tryz.pinned : Pinned := { name := "ytlkhjalnnciocaagreat", sum := "b7fae50d877af464cbd6dffa94233b9a37e54c2bdb8357e99e914905c197a89e", checked := Tryz.checked }
namespace Rows
def none {H : Type} : Left H := { results := [], args := [] }

/-- 'multihoptop.TopNoise': WHATEVER THE INPUT: true; the input reads as it did. -/
def topNoiseSpec : ChangeSpec := { name := "topNoise", fn := fun _ => fun
  | [d1, d2, d3] => { results := [.lit (.bool true)], args := [d1, d2, d3] }
  | _ => none }
def topNoiseRow : OpenClaim := { program := "ytlkhjalnnciocaagreat", sum := "b7fae50d877af464cbd6dffa94233b9a37e54c2bdb8357e99e914905c197a89e", func := "multihop/multihoptop.TopNoise", spec := "topNoise", unfollowed := true, recurses := true, plainKeys := false, apart := false }
def TopNoiseSaid : Prop := topNoiseRow.holds Tryz.pinned (OpenSpec.ofChange topNoiseSpec)

/-- ITS FALSE NEIGHBOUR: 'it returns false'. Refute it at one input. -/
def topNoiseWrong : ChangeSpec := { name := "topNoise", fn := fun _ => fun
  | [d1, d2, d3] => { results := [.lit (.bool false)], args := [d1, d2, d3] }
  | _ => none }
def TopNoiseWrongFalsely : Prop := topNoiseRow.holds Tryz.pinned (OpenSpec.ofChange topNoiseWrong)

/-- 'multihoptop.TopReplays': WHATEVER THE INPUT: true; the input reads as it did. -/
def topReplaysSpec : ChangeSpec := { name := "topReplays", fn := fun _ => fun
  | [d1, d2, d3] => { results := [.lit (.bool true)], args := [d1, d2, d3] }
  | _ => none }
def topReplaysRow : OpenClaim := { program := "ytlkhjalnnciocaagreat", sum := "b7fae50d877af464cbd6dffa94233b9a37e54c2bdb8357e99e914905c197a89e", func := "multihop/multihoptop.TopReplays", spec := "topReplays", unfollowed := true, recurses := true, plainKeys := false, apart := false }
def TopReplaysSaid : Prop := topReplaysRow.holds Tryz.pinned (OpenSpec.ofChange topReplaysSpec)

/-- ITS FALSE NEIGHBOUR: 'it returns false'. Refute it at one input. -/
def topReplaysWrong : ChangeSpec := { name := "topReplays", fn := fun _ => fun
  | [d1, d2, d3] => { results := [.lit (.bool false)], args := [d1, d2, d3] }
  | _ => none }
def TopReplaysWrongFalsely : Prop := topReplaysRow.holds Tryz.pinned (OpenSpec.ofChange topReplaysWrong)

/-- 'multihoptop.TopDownward': WHATEVER THE INPUT: true; the input reads as it did. -/
def topDownwardSpec : ChangeSpec := { name := "topDownward", fn := fun _ => fun
  | [d1, d2] => { results := [.lit (.bool true)], args := [d1, d2] }
  | _ => none }
def topDownwardRow : OpenClaim := { program := "ytlkhjalnnciocaagreat", sum := "b7fae50d877af464cbd6dffa94233b9a37e54c2bdb8357e99e914905c197a89e", func := "multihop/multihoptop.TopDownward", spec := "topDownward", inPlace := ["internal/bytealg.Compare"], unfollowed := true, recurses := true, plainKeys := false, apart := false }
def TopDownwardSaid : Prop := topDownwardRow.holds Tryz.pinned (OpenSpec.ofChange topDownwardSpec)

/-- ITS FALSE NEIGHBOUR: 'it returns false'. Refute it at one input. -/
def topDownwardWrong : ChangeSpec := { name := "topDownward", fn := fun _ => fun
  | [d1, d2] => { results := [.lit (.bool false)], args := [d1, d2] }
  | _ => none }
def TopDownwardWrongFalsely : Prop := topDownwardRow.holds Tryz.pinned (OpenSpec.ofChange topDownwardWrong)

/-- 'multihoptop.TopContexts': WHATEVER THE INPUT: true; the input reads as it did. -/
def topContextsSpec : ChangeSpec := { name := "topContexts", fn := fun _ => fun
  | [d1, d2] => { results := [.lit (.bool true)], args := [d1, d2] }
  | _ => none }
def topContextsRow : OpenClaim := { program := "ytlkhjalnnciocaagreat", sum := "b7fae50d877af464cbd6dffa94233b9a37e54c2bdb8357e99e914905c197a89e", func := "multihop/multihoptop.TopContexts", spec := "topContexts", unfollowed := true, recurses := true, plainKeys := false, apart := false }
def TopContextsSaid : Prop := topContextsRow.holds Tryz.pinned (OpenSpec.ofChange topContextsSpec)

/-- ITS FALSE NEIGHBOUR: 'it returns false'. Refute it at one input. -/
def topContextsWrong : ChangeSpec := { name := "topContexts", fn := fun _ => fun
  | [d1, d2] => { results := [.lit (.bool false)], args := [d1, d2] }
  | _ => none }
def TopContextsWrongFalsely : Prop := topContextsRow.holds Tryz.pinned (OpenSpec.ofChange topContextsWrong)

/-- 'multihoptop.TopHop': WHATEVER THE INPUT: true; the input reads as it did. -/
def topHopSpec : ChangeSpec := { name := "topHop", fn := fun _ => fun
  | [d1, d2, d3] => { results := [.lit (.bool true)], args := [d1, d2, d3] }
  | _ => none }
def topHopRow : OpenClaim := { program := "ytlkhjalnnciocaagreat", sum := "b7fae50d877af464cbd6dffa94233b9a37e54c2bdb8357e99e914905c197a89e", func := "multihop/multihoptop.TopHop", spec := "topHop", inPlace := ["slices.overlaps[multihop/api.Fragment]"], unfollowed := true, recurses := true, plainKeys := false, apart := false }
def TopHopSaid : Prop := topHopRow.holds Tryz.pinned (OpenSpec.ofChange topHopSpec)

/-- ITS FALSE NEIGHBOUR: 'it returns false'. Refute it at one input. -/
def topHopWrong : ChangeSpec := { name := "topHop", fn := fun _ => fun
  | [d1, d2, d3] => { results := [.lit (.bool false)], args := [d1, d2, d3] }
  | _ => none }
def TopHopWrongFalsely : Prop := topHopRow.holds Tryz.pinned (OpenSpec.ofChange topHopWrong)

/- THE SECOND FORM. 'bulk': how many values and letters a reading holds, each counted each time it is reached (what is shared counts as often as it is met; a slice's spare places count too). A statement '..UptoSaid' is the law's where the arguments, and the package variables that the reading takes, are together of bulk at most 1048576: NARROWER than '..Said'. Prove '..Said' where nothing that the law and all that it calls make is longer than what came in: it says more and counts as full. Else prove '..UptoSaid'. A law counts once. -/
mutual
def uptoBulk {H : Type} : DataW H → Nat
  | .lit (.string bytes) => bytes.length + 1
  | .lit _ => 1
  | .nil => 1
  | .ptr d => uptoBulk d + 1
  | .slice elems spare => uptoBulkAll elems + uptoBulkAll spare + 1
  | .agg parts => uptoBulkAll parts + 1
  | .iface _ d => uptoBulk d + 1
  | .map entries => uptoBulkEntries entries + 1
  | .held _ => 1
def uptoBulkAll {H : Type} : List (DataW H) → Nat
  | [] => 0
  | d :: r => uptoBulk d + uptoBulkAll r
def uptoBulkEntries {H : Type} : List (Lit × DataW H) → Nat
  | [] => 0
  | x :: r => uptoBulkEntry x + uptoBulkEntries r
def uptoBulkEntry {H : Type} : Lit × DataW H → Nat
  | (.string bytes, d) => bytes.length + uptoBulk d + 1
  | (_, d) => uptoBulk d + 1
 end
def uptoSmall : (H : Type) → List (DataW H) → Bool := fun _ ds => decide (uptoBulkAll ds ≤ 1048576)
def OpenSpec.upto (s : _root_.Go.ChangeSpec) : _root_.Go.OpenSpec := { _root_.Go.OpenSpec.ofChange s with cond := some uptoSmall }

/-- 'multihoptop.TopNoise', WHERE WHAT IT READS IS OF BULK AT MOST 1048576: true; the input reads as it did. -/
def topNoiseUptoRow : OpenClaim := { program := "ytlkhjalnnciocaagreat", sum := "b7fae50d877af464cbd6dffa94233b9a37e54c2bdb8357e99e914905c197a89e", func := "multihop/multihoptop.TopNoise", spec := "topNoise", unfollowed := true, recurses := true, plainKeys := false, apart := false, narrowed := true }
def TopNoiseUptoSaid : Prop := topNoiseUptoRow.holds Tryz.pinned (OpenSpec.upto topNoiseSpec)

/-- 'multihoptop.TopReplays', WHERE WHAT IT READS IS OF BULK AT MOST 1048576: true; the input reads as it did. -/
def topReplaysUptoRow : OpenClaim := { program := "ytlkhjalnnciocaagreat", sum := "b7fae50d877af464cbd6dffa94233b9a37e54c2bdb8357e99e914905c197a89e", func := "multihop/multihoptop.TopReplays", spec := "topReplays", unfollowed := true, recurses := true, plainKeys := false, apart := false, narrowed := true }
def TopReplaysUptoSaid : Prop := topReplaysUptoRow.holds Tryz.pinned (OpenSpec.upto topReplaysSpec)

/-- 'multihoptop.TopDownward', WHERE WHAT IT READS IS OF BULK AT MOST 1048576: true; the input reads as it did. -/
def topDownwardUptoRow : OpenClaim := { program := "ytlkhjalnnciocaagreat", sum := "b7fae50d877af464cbd6dffa94233b9a37e54c2bdb8357e99e914905c197a89e", func := "multihop/multihoptop.TopDownward", spec := "topDownward", inPlace := ["internal/bytealg.Compare"], unfollowed := true, recurses := true, plainKeys := false, apart := false, narrowed := true }
def TopDownwardUptoSaid : Prop := topDownwardUptoRow.holds Tryz.pinned (OpenSpec.upto topDownwardSpec)

/-- 'multihoptop.TopContexts', WHERE WHAT IT READS IS OF BULK AT MOST 1048576: true; the input reads as it did. -/
def topContextsUptoRow : OpenClaim := { program := "ytlkhjalnnciocaagreat", sum := "b7fae50d877af464cbd6dffa94233b9a37e54c2bdb8357e99e914905c197a89e", func := "multihop/multihoptop.TopContexts", spec := "topContexts", unfollowed := true, recurses := true, plainKeys := false, apart := false, narrowed := true }
def TopContextsUptoSaid : Prop := topContextsUptoRow.holds Tryz.pinned (OpenSpec.upto topContextsSpec)

/-- 'multihoptop.TopHop', WHERE WHAT IT READS IS OF BULK AT MOST 1048576: true; the input reads as it did. -/
def topHopUptoRow : OpenClaim := { program := "ytlkhjalnnciocaagreat", sum := "b7fae50d877af464cbd6dffa94233b9a37e54c2bdb8357e99e914905c197a89e", func := "multihop/multihoptop.TopHop", spec := "topHop", inPlace := ["slices.overlaps[multihop/api.Fragment]"], unfollowed := true, recurses := true, plainKeys := false, apart := false, narrowed := true }
def TopHopUptoSaid : Prop := topHopUptoRow.holds Tryz.pinned (OpenSpec.upto topHopSpec)

end Rows
end Go.Proofs.YtlkhjalnnciocaaGreat
