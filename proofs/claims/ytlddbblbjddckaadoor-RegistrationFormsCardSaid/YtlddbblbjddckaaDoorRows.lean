/-
  NARROWER THAN 'FOR EVERY INPUT', by the rows' own cells (each row's printed sentence says how): RegistrationOneOwner: laid · RegistrationFull: laid · RegistrationCounters: laid · RegistrationSteps: laid · RegistrationNewest: laid · RegistrationPlays: laid · RegistrationForms: laid · RegistrationConfirms: laid.
  DERIVED. THE GIVEN ROWS OF THIS SEAT. 8 by the template 'for every input the law returns true; each argument reads behind the call as it read before'; 0 by the template 'total and deterministic' (their statements: YtlddbblbjddckaaDoorTotals.lean).
  GIVEN WITH THE SEED: the statements are not yours to turn. If you find one false, say at which input.
  Laid BY PROGRAM, IN A SANDBOX (cutbox-rows.mjs): the forced cells as the released guide's own fill.sh prints them over the translation afd8fe403d6fc2fb… (all of the seat's roots in one cut). By AI agents, Wed Nov 11 2026. No macro, syntax, notation, axiom, sorry.
-/
import Derived.Test.YtlddbblbjddckaaDoorChecked
import GoSem.Claim
import GoSem.ClaimJoined
import GoSem.ClaimMapViews
import Derived.JoinedTies
import Derived.KernelRfl
namespace Go.Proofs.YtlddbblbjddckaaDoor
/- THE CELL 'sum', in the pinned program and in every row, IS THE sha256 OF THE DUMP (.gsa) THAT YtlddbblbjddckaaDoorProg.lean LOADS. Nothing in Lean hashes anything: it is a label: what it is worth is what the hold of that sum in a sandbox is worth. -/
noncomputable def Tryd.pinned : Pinned := { name := "ytlddbblbjddckaadoor", sum := "afd8fe403d6fc2fbcb809eac83ba7bf712c2a42d39a7a5be6075f3438d681d5f", checked := Tryd.checked }
namespace Rows
def none {H : Type} : Left H := { results := [], args := [] }

/- WHAT THE LISTED PACKAGE-LEVEL VARIABLES READ AS WHEN THE CALL BEGINS. Each datum BY PROGRAM (the guide's laid-datum.mjs) off the statement by which the dump's own 'gosem.cut.vars' lays the variable. In a bare row this is a premise. The card (YtlddbblbjddckaaDoorCards.lean) ties it to the program's text. -/
def laid_multihop_multihoplaw21_link {H : Type} : DataW H := .agg [.lit (.int .i64 2), .lit (.int .u16 1), .lit (.int .u64 0)]

/-- 'multihoplaw21.RegistrationOneOwner': WHATEVER THE INPUT: true; the input reads as it did. -/
def registrationOneOwnerSpec : ChangeSpec := { name := "registrationOneOwner", fn := fun _ => fun
  | [d1, d2] => { results := [.lit (.bool true)], args := [d1, d2] }
  | _ => none }
def registrationOneOwnerRow : OpenClaim := { program := "ytlddbblbjddckaadoor", sum := "afd8fe403d6fc2fbcb809eac83ba7bf712c2a42d39a7a5be6075f3438d681d5f", func := "multihop/multihoplaw21.RegistrationOneOwner", spec := "registrationOneOwner", inPlace := ["internal/bytealg.Compare", "slices.overlaps[multihop/api.Registration]"], unfollowed := true, recurses := true, named := ["multihop/multihoplaw21.link"], apart := false, laid := [("multihop/multihoplaw21.link", laid_multihop_multihoplaw21_link)] }
def RegistrationOneOwnerSaid : Prop := registrationOneOwnerRow.holds Tryd.pinned (OpenSpec.ofChange registrationOneOwnerSpec)

/-- ITS FALSE NEIGHBOUR: 'it returns false'. Refute it at one input. -/
def registrationOneOwnerWrong : ChangeSpec := { name := "registrationOneOwner", fn := fun _ => fun
  | [d1, d2] => { results := [.lit (.bool false)], args := [d1, d2] }
  | _ => none }
def RegistrationOneOwnerWrongFalsely : Prop := registrationOneOwnerRow.holds Tryd.pinned (OpenSpec.ofChange registrationOneOwnerWrong)

/-- 'multihoplaw21.RegistrationFull': WHATEVER THE INPUT: true; the input reads as it did. -/
def registrationFullSpec : ChangeSpec := { name := "registrationFull", fn := fun _ => fun
  | [d1, d2] => { results := [.lit (.bool true)], args := [d1, d2] }
  | _ => none }
def registrationFullRow : OpenClaim := { program := "ytlddbblbjddckaadoor", sum := "afd8fe403d6fc2fbcb809eac83ba7bf712c2a42d39a7a5be6075f3438d681d5f", func := "multihop/multihoplaw21.RegistrationFull", spec := "registrationFull", inPlace := ["internal/bytealg.Compare", "slices.overlaps[multihop/api.Registration]"], unfollowed := true, recurses := true, named := ["multihop/multihoplaw21.link"], apart := false, laid := [("multihop/multihoplaw21.link", laid_multihop_multihoplaw21_link)] }
def RegistrationFullSaid : Prop := registrationFullRow.holds Tryd.pinned (OpenSpec.ofChange registrationFullSpec)

/-- ITS FALSE NEIGHBOUR: 'it returns false'. Refute it at one input. -/
def registrationFullWrong : ChangeSpec := { name := "registrationFull", fn := fun _ => fun
  | [d1, d2] => { results := [.lit (.bool false)], args := [d1, d2] }
  | _ => none }
def RegistrationFullWrongFalsely : Prop := registrationFullRow.holds Tryd.pinned (OpenSpec.ofChange registrationFullWrong)

/-- 'multihoplaw21.RegistrationCounters': WHATEVER THE INPUT: true; the input reads as it did. -/
def registrationCountersSpec : ChangeSpec := { name := "registrationCounters", fn := fun _ => fun
  | [d1, d2] => { results := [.lit (.bool true)], args := [d1, d2] }
  | _ => none }
def registrationCountersRow : OpenClaim := { program := "ytlddbblbjddckaadoor", sum := "afd8fe403d6fc2fbcb809eac83ba7bf712c2a42d39a7a5be6075f3438d681d5f", func := "multihop/multihoplaw21.RegistrationCounters", spec := "registrationCounters", inPlace := ["internal/bytealg.Compare", "slices.overlaps[multihop/api.Registration]"], unfollowed := true, recurses := true, named := ["multihop/multihoplaw21.link"], apart := false, laid := [("multihop/multihoplaw21.link", laid_multihop_multihoplaw21_link)] }
def RegistrationCountersSaid : Prop := registrationCountersRow.holds Tryd.pinned (OpenSpec.ofChange registrationCountersSpec)

/-- ITS FALSE NEIGHBOUR: 'it returns false'. Refute it at one input. -/
def registrationCountersWrong : ChangeSpec := { name := "registrationCounters", fn := fun _ => fun
  | [d1, d2] => { results := [.lit (.bool false)], args := [d1, d2] }
  | _ => none }
def RegistrationCountersWrongFalsely : Prop := registrationCountersRow.holds Tryd.pinned (OpenSpec.ofChange registrationCountersWrong)

/-- 'multihoplaw21.RegistrationSteps': WHATEVER THE INPUT: true; the input reads as it did. -/
def registrationStepsSpec : ChangeSpec := { name := "registrationSteps", fn := fun _ => fun
  | [d1, d2] => { results := [.lit (.bool true)], args := [d1, d2] }
  | _ => none }
def registrationStepsRow : OpenClaim := { program := "ytlddbblbjddckaadoor", sum := "afd8fe403d6fc2fbcb809eac83ba7bf712c2a42d39a7a5be6075f3438d681d5f", func := "multihop/multihoplaw21.RegistrationSteps", spec := "registrationSteps", inPlace := ["internal/bytealg.Compare", "slices.overlaps[multihop/api.Registration]"], unfollowed := true, recurses := true, named := ["multihop/multihoplaw21.link"], apart := false, laid := [("multihop/multihoplaw21.link", laid_multihop_multihoplaw21_link)] }
def RegistrationStepsSaid : Prop := registrationStepsRow.holds Tryd.pinned (OpenSpec.ofChange registrationStepsSpec)

/-- ITS FALSE NEIGHBOUR: 'it returns false'. Refute it at one input. -/
def registrationStepsWrong : ChangeSpec := { name := "registrationSteps", fn := fun _ => fun
  | [d1, d2] => { results := [.lit (.bool false)], args := [d1, d2] }
  | _ => none }
def RegistrationStepsWrongFalsely : Prop := registrationStepsRow.holds Tryd.pinned (OpenSpec.ofChange registrationStepsWrong)

/-- 'multihoplaw21.RegistrationNewest': WHATEVER THE INPUT: true; the input reads as it did. -/
def registrationNewestSpec : ChangeSpec := { name := "registrationNewest", fn := fun _ => fun
  | [d1, d2, d3] => { results := [.lit (.bool true)], args := [d1, d2, d3] }
  | _ => none }
def registrationNewestRow : OpenClaim := { program := "ytlddbblbjddckaadoor", sum := "afd8fe403d6fc2fbcb809eac83ba7bf712c2a42d39a7a5be6075f3438d681d5f", func := "multihop/multihoplaw21.RegistrationNewest", spec := "registrationNewest", inPlace := ["internal/bytealg.Compare", "slices.overlaps[multihop/api.Registration]"], unfollowed := true, recurses := true, named := ["multihop/multihoplaw21.link"], apart := false, laid := [("multihop/multihoplaw21.link", laid_multihop_multihoplaw21_link)] }
def RegistrationNewestSaid : Prop := registrationNewestRow.holds Tryd.pinned (OpenSpec.ofChange registrationNewestSpec)

/-- ITS FALSE NEIGHBOUR: 'it returns false'. Refute it at one input. -/
def registrationNewestWrong : ChangeSpec := { name := "registrationNewest", fn := fun _ => fun
  | [d1, d2, d3] => { results := [.lit (.bool false)], args := [d1, d2, d3] }
  | _ => none }
def RegistrationNewestWrongFalsely : Prop := registrationNewestRow.holds Tryd.pinned (OpenSpec.ofChange registrationNewestWrong)

/-- 'multihoplaw21.RegistrationPlays': WHATEVER THE INPUT: true; the input reads as it did. -/
def registrationPlaysSpec : ChangeSpec := { name := "registrationPlays", fn := fun _ => fun
  | [d] => { results := [.lit (.bool true)], args := [d] }
  | _ => none }
def registrationPlaysRow : OpenClaim := { program := "ytlddbblbjddckaadoor", sum := "afd8fe403d6fc2fbcb809eac83ba7bf712c2a42d39a7a5be6075f3438d681d5f", func := "multihop/multihoplaw21.RegistrationPlays", spec := "registrationPlays", inPlace := ["internal/bytealg.Compare", "slices.overlaps[multihop/api.Registration]"], unfollowed := true, recurses := true, named := ["multihop/multihoplaw21.link"], apart := false, laid := [("multihop/multihoplaw21.link", laid_multihop_multihoplaw21_link)] }
def RegistrationPlaysSaid : Prop := registrationPlaysRow.holds Tryd.pinned (OpenSpec.ofChange registrationPlaysSpec)

/-- ITS FALSE NEIGHBOUR: 'it returns false'. Refute it at one input. -/
def registrationPlaysWrong : ChangeSpec := { name := "registrationPlays", fn := fun _ => fun
  | [d] => { results := [.lit (.bool false)], args := [d] }
  | _ => none }
def RegistrationPlaysWrongFalsely : Prop := registrationPlaysRow.holds Tryd.pinned (OpenSpec.ofChange registrationPlaysWrong)

/-- 'multihoplaw21.RegistrationForms': WHATEVER THE INPUT: true; the input reads as it did. -/
def registrationFormsSpec : ChangeSpec := { name := "registrationForms", fn := fun _ => fun
  | [d1, d2, d3, d4, d5, d6] => { results := [.lit (.bool true)], args := [d1, d2, d3, d4, d5, d6] }
  | _ => none }
def registrationFormsRow : OpenClaim := { program := "ytlddbblbjddckaadoor", sum := "afd8fe403d6fc2fbcb809eac83ba7bf712c2a42d39a7a5be6075f3438d681d5f", func := "multihop/multihoplaw21.RegistrationForms", spec := "registrationForms", inPlace := ["internal/bytealg.Compare", "slices.overlaps[multihop/api.Registration]"], unfollowed := true, recurses := true, named := ["multihop/multihoplaw21.link"], apart := false, laid := [("multihop/multihoplaw21.link", laid_multihop_multihoplaw21_link)] }
def RegistrationFormsSaid : Prop := registrationFormsRow.holds Tryd.pinned (OpenSpec.ofChange registrationFormsSpec)

/-- ITS FALSE NEIGHBOUR: 'it returns false'. Refute it at one input. -/
def registrationFormsWrong : ChangeSpec := { name := "registrationForms", fn := fun _ => fun
  | [d1, d2, d3, d4, d5, d6] => { results := [.lit (.bool false)], args := [d1, d2, d3, d4, d5, d6] }
  | _ => none }
def RegistrationFormsWrongFalsely : Prop := registrationFormsRow.holds Tryd.pinned (OpenSpec.ofChange registrationFormsWrong)

/-- 'multihoplaw21.RegistrationConfirms': WHATEVER THE INPUT: true; the input reads as it did. -/
def registrationConfirmsSpec : ChangeSpec := { name := "registrationConfirms", fn := fun _ => fun
  | [d1, d2, d3] => { results := [.lit (.bool true)], args := [d1, d2, d3] }
  | _ => none }
def registrationConfirmsRow : OpenClaim := { program := "ytlddbblbjddckaadoor", sum := "afd8fe403d6fc2fbcb809eac83ba7bf712c2a42d39a7a5be6075f3438d681d5f", func := "multihop/multihoplaw21.RegistrationConfirms", spec := "registrationConfirms", inPlace := ["internal/bytealg.Compare", "slices.overlaps[multihop/api.Registration]"], unfollowed := true, recurses := true, named := ["multihop/multihoplaw21.link"], apart := false, laid := [("multihop/multihoplaw21.link", laid_multihop_multihoplaw21_link)] }
def RegistrationConfirmsSaid : Prop := registrationConfirmsRow.holds Tryd.pinned (OpenSpec.ofChange registrationConfirmsSpec)

/-- ITS FALSE NEIGHBOUR: 'it returns false'. Refute it at one input. -/
def registrationConfirmsWrong : ChangeSpec := { name := "registrationConfirms", fn := fun _ => fun
  | [d1, d2, d3] => { results := [.lit (.bool false)], args := [d1, d2, d3] }
  | _ => none }
def RegistrationConfirmsWrongFalsely : Prop := registrationConfirmsRow.holds Tryd.pinned (OpenSpec.ofChange registrationConfirmsWrong)

/- THE SECOND FORM. 'bulk': how many values and letters a reading holds, each counted each time it is reached (what is shared counts as often as it is met; a slice's spare places count too). A statement '..UptoSaid' is the law's where the arguments, and the package variables that the reading takes, are together of bulk at most 1048576: NARROWER than '..Said'. Prove '..Said' where nothing that the law and all that it calls make is longer than what came in: it says more and counts as full. Else prove '..UptoSaid'. A law counts once. -/
mutual
def uptoBulk {H : Type} : DataW H → Nat
  | .lit (.string bytes) => bytes.length + 1
  | .lit _ => 1
  | .nil => 1
  | .ptr d => uptoBulk d + 1
  | .slice elems spare => uptoBulkAll elems + uptoBulkAll spare + 1
  | .agg parts => uptoBulkAll parts + 1
  | .iface _ d => uptoBulk d + 1
  | .map entries => uptoBulkEntries entries + 1
  | .held _ => 1
def uptoBulkAll {H : Type} : List (DataW H) → Nat
  | [] => 0
  | d :: r => uptoBulk d + uptoBulkAll r
def uptoBulkEntries {H : Type} : List (Lit × DataW H) → Nat
  | [] => 0
  | x :: r => uptoBulkEntry x + uptoBulkEntries r
def uptoBulkEntry {H : Type} : Lit × DataW H → Nat
  | (.string bytes, d) => bytes.length + uptoBulk d + 1
  | (_, d) => uptoBulk d + 1
 end
def uptoSmall : (H : Type) → List (DataW H) → Bool := fun _ ds => decide (uptoBulkAll ds ≤ 1048576)
def OpenSpec.upto (s : _root_.Go.ChangeSpec) : _root_.Go.OpenSpec := { _root_.Go.OpenSpec.ofChange s with cond := some uptoSmall }

/-- 'multihoplaw21.RegistrationOneOwner', WHERE WHAT IT READS IS OF BULK AT MOST 1048576: true; the input reads as it did. -/
def registrationOneOwnerUptoRow : OpenClaim := { program := "ytlddbblbjddckaadoor", sum := "afd8fe403d6fc2fbcb809eac83ba7bf712c2a42d39a7a5be6075f3438d681d5f", func := "multihop/multihoplaw21.RegistrationOneOwner", spec := "registrationOneOwner", inPlace := ["internal/bytealg.Compare", "slices.overlaps[multihop/api.Registration]"], unfollowed := true, recurses := true, named := ["multihop/multihoplaw21.link"], apart := false, laid := [("multihop/multihoplaw21.link", laid_multihop_multihoplaw21_link)], narrowed := true }
def RegistrationOneOwnerUptoSaid : Prop := registrationOneOwnerUptoRow.holds Tryd.pinned (OpenSpec.upto registrationOneOwnerSpec)

/-- 'multihoplaw21.RegistrationFull', WHERE WHAT IT READS IS OF BULK AT MOST 1048576: true; the input reads as it did. -/
def registrationFullUptoRow : OpenClaim := { program := "ytlddbblbjddckaadoor", sum := "afd8fe403d6fc2fbcb809eac83ba7bf712c2a42d39a7a5be6075f3438d681d5f", func := "multihop/multihoplaw21.RegistrationFull", spec := "registrationFull", inPlace := ["internal/bytealg.Compare", "slices.overlaps[multihop/api.Registration]"], unfollowed := true, recurses := true, named := ["multihop/multihoplaw21.link"], apart := false, laid := [("multihop/multihoplaw21.link", laid_multihop_multihoplaw21_link)], narrowed := true }
def RegistrationFullUptoSaid : Prop := registrationFullUptoRow.holds Tryd.pinned (OpenSpec.upto registrationFullSpec)

/-- 'multihoplaw21.RegistrationCounters', WHERE WHAT IT READS IS OF BULK AT MOST 1048576: true; the input reads as it did. -/
def registrationCountersUptoRow : OpenClaim := { program := "ytlddbblbjddckaadoor", sum := "afd8fe403d6fc2fbcb809eac83ba7bf712c2a42d39a7a5be6075f3438d681d5f", func := "multihop/multihoplaw21.RegistrationCounters", spec := "registrationCounters", inPlace := ["internal/bytealg.Compare", "slices.overlaps[multihop/api.Registration]"], unfollowed := true, recurses := true, named := ["multihop/multihoplaw21.link"], apart := false, laid := [("multihop/multihoplaw21.link", laid_multihop_multihoplaw21_link)], narrowed := true }
def RegistrationCountersUptoSaid : Prop := registrationCountersUptoRow.holds Tryd.pinned (OpenSpec.upto registrationCountersSpec)

/-- 'multihoplaw21.RegistrationSteps', WHERE WHAT IT READS IS OF BULK AT MOST 1048576: true; the input reads as it did. -/
def registrationStepsUptoRow : OpenClaim := { program := "ytlddbblbjddckaadoor", sum := "afd8fe403d6fc2fbcb809eac83ba7bf712c2a42d39a7a5be6075f3438d681d5f", func := "multihop/multihoplaw21.RegistrationSteps", spec := "registrationSteps", inPlace := ["internal/bytealg.Compare", "slices.overlaps[multihop/api.Registration]"], unfollowed := true, recurses := true, named := ["multihop/multihoplaw21.link"], apart := false, laid := [("multihop/multihoplaw21.link", laid_multihop_multihoplaw21_link)], narrowed := true }
def RegistrationStepsUptoSaid : Prop := registrationStepsUptoRow.holds Tryd.pinned (OpenSpec.upto registrationStepsSpec)

/-- 'multihoplaw21.RegistrationNewest', WHERE WHAT IT READS IS OF BULK AT MOST 1048576: true; the input reads as it did. -/
def registrationNewestUptoRow : OpenClaim := { program := "ytlddbblbjddckaadoor", sum := "afd8fe403d6fc2fbcb809eac83ba7bf712c2a42d39a7a5be6075f3438d681d5f", func := "multihop/multihoplaw21.RegistrationNewest", spec := "registrationNewest", inPlace := ["internal/bytealg.Compare", "slices.overlaps[multihop/api.Registration]"], unfollowed := true, recurses := true, named := ["multihop/multihoplaw21.link"], apart := false, laid := [("multihop/multihoplaw21.link", laid_multihop_multihoplaw21_link)], narrowed := true }
def RegistrationNewestUptoSaid : Prop := registrationNewestUptoRow.holds Tryd.pinned (OpenSpec.upto registrationNewestSpec)

/-- 'multihoplaw21.RegistrationPlays', WHERE WHAT IT READS IS OF BULK AT MOST 1048576: true; the input reads as it did. -/
def registrationPlaysUptoRow : OpenClaim := { program := "ytlddbblbjddckaadoor", sum := "afd8fe403d6fc2fbcb809eac83ba7bf712c2a42d39a7a5be6075f3438d681d5f", func := "multihop/multihoplaw21.RegistrationPlays", spec := "registrationPlays", inPlace := ["internal/bytealg.Compare", "slices.overlaps[multihop/api.Registration]"], unfollowed := true, recurses := true, named := ["multihop/multihoplaw21.link"], apart := false, laid := [("multihop/multihoplaw21.link", laid_multihop_multihoplaw21_link)], narrowed := true }
def RegistrationPlaysUptoSaid : Prop := registrationPlaysUptoRow.holds Tryd.pinned (OpenSpec.upto registrationPlaysSpec)

/-- 'multihoplaw21.RegistrationForms', WHERE WHAT IT READS IS OF BULK AT MOST 1048576: true; the input reads as it did. -/
def registrationFormsUptoRow : OpenClaim := { program := "ytlddbblbjddckaadoor", sum := "afd8fe403d6fc2fbcb809eac83ba7bf712c2a42d39a7a5be6075f3438d681d5f", func := "multihop/multihoplaw21.RegistrationForms", spec := "registrationForms", inPlace := ["internal/bytealg.Compare", "slices.overlaps[multihop/api.Registration]"], unfollowed := true, recurses := true, named := ["multihop/multihoplaw21.link"], apart := false, laid := [("multihop/multihoplaw21.link", laid_multihop_multihoplaw21_link)], narrowed := true }
def RegistrationFormsUptoSaid : Prop := registrationFormsUptoRow.holds Tryd.pinned (OpenSpec.upto registrationFormsSpec)

/-- 'multihoplaw21.RegistrationConfirms', WHERE WHAT IT READS IS OF BULK AT MOST 1048576: true; the input reads as it did. -/
def registrationConfirmsUptoRow : OpenClaim := { program := "ytlddbblbjddckaadoor", sum := "afd8fe403d6fc2fbcb809eac83ba7bf712c2a42d39a7a5be6075f3438d681d5f", func := "multihop/multihoplaw21.RegistrationConfirms", spec := "registrationConfirms", inPlace := ["internal/bytealg.Compare", "slices.overlaps[multihop/api.Registration]"], unfollowed := true, recurses := true, named := ["multihop/multihoplaw21.link"], apart := false, laid := [("multihop/multihoplaw21.link", laid_multihop_multihoplaw21_link)], narrowed := true }
def RegistrationConfirmsUptoSaid : Prop := registrationConfirmsUptoRow.holds Tryd.pinned (OpenSpec.upto registrationConfirmsSpec)

end Rows
end Go.Proofs.YtlddbblbjddckaaDoor
