/-
  DERIVED. GIVEN WITH THE SEED: THE CARDS: each row of YtlddbblbjddckaaDoorRows.lean that lists a variable, with what it lists TIED to the program's text (the seventh form; the later family's looks); each row that meets fmt, with fmt's text TOLD by the authors' own Lean function (tested against real Go, not proved from fmt's source: count such statements apart). THE CARD IS WHAT COUNTS. Prove the row's statement (the work); the ties are given (YtlddbblbjddckaaDoorTie.lean); close each card by the builder's one call (the guide's Derived/Test/ToyasCard.lean, 'card_holds'). Laid BY PROGRAM, IN A SANDBOX (cutbox-door.mjs). By AI agents, Wed Nov 11 2026. No macro, syntax, notation, axiom, sorry.
-/
import Derived.Test.YtlddbblbjddckaaDoorRows
import GoSem.ClaimSeven
namespace Go.Proofs.YtlddbblbjddckaaDoor
namespace Rows

/-- THE TIED CARD OF 'multihoplaw21.RegistrationOneOwner'. -/
def registrationOneOwnerCard : Claim7 := { stood := { row := registrationOneOwnerRow, standIns := [], harness := (true, "3beca1cc248b73409f9910b904e75342a76114bdd891acd0089a88d1f2af0e4d"), looks := false }, kinds := [], alts := [], laidByText := true, laidKinds := [.data], laidTests := true, laidLooks := .later }
def RegistrationOneOwnerCardSaid : Prop := Claim7.holds Tryd.pinned (.plain (OpenSpec.ofChange registrationOneOwnerSpec)) registrationOneOwnerCard

/-- THE TIED CARD OF 'multihoplaw21.RegistrationFull'. -/
def registrationFullCard : Claim7 := { stood := { row := registrationFullRow, standIns := [], harness := (true, "3beca1cc248b73409f9910b904e75342a76114bdd891acd0089a88d1f2af0e4d"), looks := false }, kinds := [], alts := [], laidByText := true, laidKinds := [.data], laidTests := true, laidLooks := .later }
def RegistrationFullCardSaid : Prop := Claim7.holds Tryd.pinned (.plain (OpenSpec.ofChange registrationFullSpec)) registrationFullCard

/-- THE TIED CARD OF 'multihoplaw21.RegistrationCounters'. -/
def registrationCountersCard : Claim7 := { stood := { row := registrationCountersRow, standIns := [], harness := (true, "3beca1cc248b73409f9910b904e75342a76114bdd891acd0089a88d1f2af0e4d"), looks := false }, kinds := [], alts := [], laidByText := true, laidKinds := [.data], laidTests := true, laidLooks := .later }
def RegistrationCountersCardSaid : Prop := Claim7.holds Tryd.pinned (.plain (OpenSpec.ofChange registrationCountersSpec)) registrationCountersCard

/-- THE TIED CARD OF 'multihoplaw21.RegistrationSteps'. -/
def registrationStepsCard : Claim7 := { stood := { row := registrationStepsRow, standIns := [], harness := (true, "3beca1cc248b73409f9910b904e75342a76114bdd891acd0089a88d1f2af0e4d"), looks := false }, kinds := [], alts := [], laidByText := true, laidKinds := [.data], laidTests := true, laidLooks := .later }
def RegistrationStepsCardSaid : Prop := Claim7.holds Tryd.pinned (.plain (OpenSpec.ofChange registrationStepsSpec)) registrationStepsCard

/-- THE TIED CARD OF 'multihoplaw21.RegistrationNewest'. -/
def registrationNewestCard : Claim7 := { stood := { row := registrationNewestRow, standIns := [], harness := (true, "3beca1cc248b73409f9910b904e75342a76114bdd891acd0089a88d1f2af0e4d"), looks := false }, kinds := [], alts := [], laidByText := true, laidKinds := [.data], laidTests := true, laidLooks := .later }
def RegistrationNewestCardSaid : Prop := Claim7.holds Tryd.pinned (.plain (OpenSpec.ofChange registrationNewestSpec)) registrationNewestCard

/-- THE TIED CARD OF 'multihoplaw21.RegistrationPlays'. -/
def registrationPlaysCard : Claim7 := { stood := { row := registrationPlaysRow, standIns := [], harness := (true, "3beca1cc248b73409f9910b904e75342a76114bdd891acd0089a88d1f2af0e4d"), looks := false }, kinds := [], alts := [], laidByText := true, laidKinds := [.data], laidTests := true, laidLooks := .later }
def RegistrationPlaysCardSaid : Prop := Claim7.holds Tryd.pinned (.plain (OpenSpec.ofChange registrationPlaysSpec)) registrationPlaysCard

/-- THE TIED CARD OF 'multihoplaw21.RegistrationForms'. -/
def registrationFormsCard : Claim7 := { stood := { row := registrationFormsRow, standIns := [], harness := (true, "3beca1cc248b73409f9910b904e75342a76114bdd891acd0089a88d1f2af0e4d"), looks := false }, kinds := [], alts := [], laidByText := true, laidKinds := [.data], laidTests := true, laidLooks := .later }
def RegistrationFormsCardSaid : Prop := Claim7.holds Tryd.pinned (.plain (OpenSpec.ofChange registrationFormsSpec)) registrationFormsCard

/-- THE TIED CARD OF 'multihoplaw21.RegistrationConfirms'. -/
def registrationConfirmsCard : Claim7 := { stood := { row := registrationConfirmsRow, standIns := [], harness := (true, "3beca1cc248b73409f9910b904e75342a76114bdd891acd0089a88d1f2af0e4d"), looks := false }, kinds := [], alts := [], laidByText := true, laidKinds := [.data], laidTests := true, laidLooks := .later }
def RegistrationConfirmsCardSaid : Prop := Claim7.holds Tryd.pinned (.plain (OpenSpec.ofChange registrationConfirmsSpec)) registrationConfirmsCard

/-- THE SECOND FORM's CARD OF 'multihoplaw21.RegistrationOneOwner'. -/
def registrationOneOwnerUptoCard : Claim7 := { stood := { row := registrationOneOwnerUptoRow, standIns := [], harness := (true, "3beca1cc248b73409f9910b904e75342a76114bdd891acd0089a88d1f2af0e4d"), looks := false }, kinds := [], alts := [], laidByText := true, laidKinds := [.data], laidTests := true, laidLooks := .later }
def RegistrationOneOwnerUptoCardSaid : Prop := Claim7.holds Tryd.pinned (.plain (OpenSpec.upto registrationOneOwnerSpec)) registrationOneOwnerUptoCard

/-- THE SECOND FORM's CARD OF 'multihoplaw21.RegistrationFull'. -/
def registrationFullUptoCard : Claim7 := { stood := { row := registrationFullUptoRow, standIns := [], harness := (true, "3beca1cc248b73409f9910b904e75342a76114bdd891acd0089a88d1f2af0e4d"), looks := false }, kinds := [], alts := [], laidByText := true, laidKinds := [.data], laidTests := true, laidLooks := .later }
def RegistrationFullUptoCardSaid : Prop := Claim7.holds Tryd.pinned (.plain (OpenSpec.upto registrationFullSpec)) registrationFullUptoCard

/-- THE SECOND FORM's CARD OF 'multihoplaw21.RegistrationCounters'. -/
def registrationCountersUptoCard : Claim7 := { stood := { row := registrationCountersUptoRow, standIns := [], harness := (true, "3beca1cc248b73409f9910b904e75342a76114bdd891acd0089a88d1f2af0e4d"), looks := false }, kinds := [], alts := [], laidByText := true, laidKinds := [.data], laidTests := true, laidLooks := .later }
def RegistrationCountersUptoCardSaid : Prop := Claim7.holds Tryd.pinned (.plain (OpenSpec.upto registrationCountersSpec)) registrationCountersUptoCard

/-- THE SECOND FORM's CARD OF 'multihoplaw21.RegistrationSteps'. -/
def registrationStepsUptoCard : Claim7 := { stood := { row := registrationStepsUptoRow, standIns := [], harness := (true, "3beca1cc248b73409f9910b904e75342a76114bdd891acd0089a88d1f2af0e4d"), looks := false }, kinds := [], alts := [], laidByText := true, laidKinds := [.data], laidTests := true, laidLooks := .later }
def RegistrationStepsUptoCardSaid : Prop := Claim7.holds Tryd.pinned (.plain (OpenSpec.upto registrationStepsSpec)) registrationStepsUptoCard

/-- THE SECOND FORM's CARD OF 'multihoplaw21.RegistrationNewest'. -/
def registrationNewestUptoCard : Claim7 := { stood := { row := registrationNewestUptoRow, standIns := [], harness := (true, "3beca1cc248b73409f9910b904e75342a76114bdd891acd0089a88d1f2af0e4d"), looks := false }, kinds := [], alts := [], laidByText := true, laidKinds := [.data], laidTests := true, laidLooks := .later }
def RegistrationNewestUptoCardSaid : Prop := Claim7.holds Tryd.pinned (.plain (OpenSpec.upto registrationNewestSpec)) registrationNewestUptoCard

/-- THE SECOND FORM's CARD OF 'multihoplaw21.RegistrationPlays'. -/
def registrationPlaysUptoCard : Claim7 := { stood := { row := registrationPlaysUptoRow, standIns := [], harness := (true, "3beca1cc248b73409f9910b904e75342a76114bdd891acd0089a88d1f2af0e4d"), looks := false }, kinds := [], alts := [], laidByText := true, laidKinds := [.data], laidTests := true, laidLooks := .later }
def RegistrationPlaysUptoCardSaid : Prop := Claim7.holds Tryd.pinned (.plain (OpenSpec.upto registrationPlaysSpec)) registrationPlaysUptoCard

/-- THE SECOND FORM's CARD OF 'multihoplaw21.RegistrationForms'. -/
def registrationFormsUptoCard : Claim7 := { stood := { row := registrationFormsUptoRow, standIns := [], harness := (true, "3beca1cc248b73409f9910b904e75342a76114bdd891acd0089a88d1f2af0e4d"), looks := false }, kinds := [], alts := [], laidByText := true, laidKinds := [.data], laidTests := true, laidLooks := .later }
def RegistrationFormsUptoCardSaid : Prop := Claim7.holds Tryd.pinned (.plain (OpenSpec.upto registrationFormsSpec)) registrationFormsUptoCard

/-- THE SECOND FORM's CARD OF 'multihoplaw21.RegistrationConfirms'. -/
def registrationConfirmsUptoCard : Claim7 := { stood := { row := registrationConfirmsUptoRow, standIns := [], harness := (true, "3beca1cc248b73409f9910b904e75342a76114bdd891acd0089a88d1f2af0e4d"), looks := false }, kinds := [], alts := [], laidByText := true, laidKinds := [.data], laidTests := true, laidLooks := .later }
def RegistrationConfirmsUptoCardSaid : Prop := Claim7.holds Tryd.pinned (.plain (OpenSpec.upto registrationConfirmsSpec)) registrationConfirmsUptoCard
end Rows
end Go.Proofs.YtlddbblbjddckaaDoor
