/-
  DERIVED. GIVEN WITH THE SEED: THE CARDS: each row of YthilboheomikjaaGreatDoorRows.lean that lists a variable, with what it lists TIED to the program's text (the seventh form; the later family's looks); each row that meets fmt, with fmt's text TOLD by the authors' own Lean function (tested against real Go, not proved from fmt's source: count such statements apart). THE CARD IS WHAT COUNTS. Prove the row's statement (the work); the ties are given (YthilboheomikjaaGreatDoorTie.lean); close each card by the builder's one call (the guide's Derived/Test/ToyasCard.lean, 'card_holds'). Laid BY PROGRAM, IN A SANDBOX (cutbox-door.mjs). By AI agents, Wed Nov 11 2026. No macro, syntax, notation, axiom, sorry.
-/
import Derived.Test.YthilboheomikjaaGreatDoorRows
import GoSem.ClaimSeven
namespace Go.Proofs.YthilboheomikjaaGreatDoor
namespace Rows

/-- THE TIED CARD OF 'entrepotlaw11.DfaFinds'. -/
def dfaFindsCard : Claim7 := { stood := { row := dfaFindsRow, standIns := [], harness := (true, "773e8328e7318b7f98927c444e50885c61c99cd9f53232fe82705b935b13e098"), looks := true }, kinds := [], alts := [], laidByText := true, laidKinds := [.data, .data, .data], laidTests := true, laidLooks := .later }
def DfaFindsCardSaid : Prop := Claim7.holds Tryz.pinned (.plain (OpenSpec.ofChange dfaFindsSpec)) dfaFindsCard

/-- THE TIED CARD OF 'entrepotlaw11.DfaDecides'. -/
def dfaDecidesCard : Claim7 := { stood := { row := dfaDecidesRow, standIns := [], harness := (true, "773e8328e7318b7f98927c444e50885c61c99cd9f53232fe82705b935b13e098"), looks := true }, kinds := [], alts := [], laidByText := true, laidKinds := [.data, .data, .data], laidTests := true, laidLooks := .later }
def DfaDecidesCardSaid : Prop := Claim7.holds Tryz.pinned (.plain (OpenSpec.ofChange dfaDecidesSpec)) dfaDecidesCard

/-- THE TIED CARD OF 'entrepotlaw11.DfaNone'. -/
def dfaNoneCard : Claim7 := { stood := { row := dfaNoneRow, standIns := [], harness := (true, "773e8328e7318b7f98927c444e50885c61c99cd9f53232fe82705b935b13e098"), looks := true }, kinds := [], alts := [], laidByText := true, laidKinds := [.data, .data, .data], laidTests := true, laidLooks := .later }
def DfaNoneCardSaid : Prop := Claim7.holds Tryz.pinned (.plain (OpenSpec.ofChange dfaNoneSpec)) dfaNoneCard

/-- THE TIED CARD OF 'entrepotlaw10.RexParses'. -/
def rexParsesCard : Claim7 := { stood := { row := rexParsesRow, standIns := [], harness := (true, "773e8328e7318b7f98927c444e50885c61c99cd9f53232fe82705b935b13e098"), looks := true }, kinds := [], alts := [], laidByText := true, laidKinds := [.data, .data, .data, .data, .sentinel, .sentinel, .pinned], laidTests := true, laidLooks := .later }
def RexParsesCardSaid : Prop := Claim7.holds Tryz.pinned (.plain (OpenSpec.ofChange rexParsesSpec)) rexParsesCard

/-- THE TIED CARD OF 'entrepotlaw10.RexMatches'. -/
def rexMatchesCard : Claim7 := { stood := { row := rexMatchesRow, standIns := [], harness := (true, "773e8328e7318b7f98927c444e50885c61c99cd9f53232fe82705b935b13e098"), looks := true }, kinds := [], alts := [], laidByText := true, laidKinds := [.data, .data, .data, .data, .sentinel, .sentinel, .pinned], laidTests := true, laidLooks := .later }
def RexMatchesCardSaid : Prop := Claim7.holds Tryz.pinned (.plain (OpenSpec.ofChange rexMatchesSpec)) rexMatchesCard

/-- THE TIED CARD OF 'entrepotlaw10.RexTexts'. -/
def rexTextsCard : Claim7 := { stood := { row := rexTextsRow, standIns := [], harness := (true, "773e8328e7318b7f98927c444e50885c61c99cd9f53232fe82705b935b13e098"), looks := true }, kinds := [], alts := [], laidByText := true, laidKinds := [.data, .data, .data, .data, .sentinel, .sentinel, .pinned], laidTests := true, laidLooks := .later }
def RexTextsCardSaid : Prop := Claim7.holds Tryz.pinned (.plain (OpenSpec.ofChange rexTextsSpec)) rexTextsCard

/-- THE TIED CARD OF 'entrepotlaw10.RexQuotes'. -/
def rexQuotesCard : Claim7 := { stood := { row := rexQuotesRow, standIns := [], harness := (true, "773e8328e7318b7f98927c444e50885c61c99cd9f53232fe82705b935b13e098"), looks := true }, kinds := [], alts := [], laidByText := true, laidKinds := [.data, .data, .data, .data, .sentinel, .sentinel, .pinned], laidTests := true, laidLooks := .later }
def RexQuotesCardSaid : Prop := Claim7.holds Tryz.pinned (.plain (OpenSpec.ofChange rexQuotesSpec)) rexQuotesCard

/-- THE TIED CARD OF 'entrepotlaw10.RexLaws'. -/
def rexLawsCard : Claim7 := { stood := { row := rexLawsRow, standIns := [], harness := (true, "773e8328e7318b7f98927c444e50885c61c99cd9f53232fe82705b935b13e098"), looks := true }, kinds := [], alts := [], laidByText := true, laidKinds := [.data, .data, .data, .data, .sentinel, .sentinel, .pinned], laidTests := true, laidLooks := .later }
def RexLawsCardSaid : Prop := Claim7.holds Tryz.pinned (.plain (OpenSpec.ofChange rexLawsSpec)) rexLawsCard

/-- THE TIED CARD OF 'entrepotlaw10.RexClasses'. -/
def rexClassesCard : Claim7 := { stood := { row := rexClassesRow, standIns := [], harness := (true, "773e8328e7318b7f98927c444e50885c61c99cd9f53232fe82705b935b13e098"), looks := true }, kinds := [], alts := [], laidByText := true, laidKinds := [.data, .data, .data, .data, .sentinel, .sentinel, .pinned], laidTests := true, laidLooks := .later }
def RexClassesCardSaid : Prop := Claim7.holds Tryz.pinned (.plain (OpenSpec.ofChange rexClassesSpec)) rexClassesCard

/-- THE TIED CARD OF 'entrepotlaw10.RexTimes'. -/
def rexTimesCard : Claim7 := { stood := { row := rexTimesRow, standIns := [], harness := (true, "773e8328e7318b7f98927c444e50885c61c99cd9f53232fe82705b935b13e098"), looks := true }, kinds := [], alts := [], laidByText := true, laidKinds := [.data, .data, .data, .data, .sentinel, .sentinel, .pinned], laidTests := true, laidLooks := .later }
def RexTimesCardSaid : Prop := Claim7.holds Tryz.pinned (.plain (OpenSpec.ofChange rexTimesSpec)) rexTimesCard

/-- THE TIED CARD OF 'entrepotlaw10.RexWrong'. -/
def rexWrongCard : Claim7 := { stood := { row := rexWrongRow, standIns := [], harness := (true, "773e8328e7318b7f98927c444e50885c61c99cd9f53232fe82705b935b13e098"), looks := true }, kinds := [], alts := [], laidByText := true, laidKinds := [.data, .data, .data, .data, .sentinel, .sentinel, .pinned], laidTests := true, laidLooks := .later }
def RexWrongCardSaid : Prop := Claim7.holds Tryz.pinned (.plain (OpenSpec.ofChange rexWrongSpec)) rexWrongCard

/-- THE TIED CARD OF 'entrepotlaw10.RexPrints'. -/
def rexPrintsCard : Claim7 := { stood := { row := rexPrintsRow, standIns := [], harness := (true, "773e8328e7318b7f98927c444e50885c61c99cd9f53232fe82705b935b13e098"), looks := true }, kinds := [], alts := [], laidByText := true, laidKinds := [.data, .data, .data, .data, .sentinel, .sentinel, .pinned], laidTests := true, laidLooks := .later }
def RexPrintsCardSaid : Prop := Claim7.holds Tryz.pinned (.plain (OpenSpec.ofChange rexPrintsSpec)) rexPrintsCard

/-- THE SECOND FORM's CARD OF 'entrepotlaw11.DfaFinds'. -/
def dfaFindsUptoCard : Claim7 := { stood := { row := dfaFindsUptoRow, standIns := [], harness := (true, "773e8328e7318b7f98927c444e50885c61c99cd9f53232fe82705b935b13e098"), looks := true }, kinds := [], alts := [], laidByText := true, laidKinds := [.data, .data, .data], laidTests := true, laidLooks := .later }
def DfaFindsUptoCardSaid : Prop := Claim7.holds Tryz.pinned (.plain (OpenSpec.upto dfaFindsSpec)) dfaFindsUptoCard

/-- THE SECOND FORM's CARD OF 'entrepotlaw11.DfaDecides'. -/
def dfaDecidesUptoCard : Claim7 := { stood := { row := dfaDecidesUptoRow, standIns := [], harness := (true, "773e8328e7318b7f98927c444e50885c61c99cd9f53232fe82705b935b13e098"), looks := true }, kinds := [], alts := [], laidByText := true, laidKinds := [.data, .data, .data], laidTests := true, laidLooks := .later }
def DfaDecidesUptoCardSaid : Prop := Claim7.holds Tryz.pinned (.plain (OpenSpec.upto dfaDecidesSpec)) dfaDecidesUptoCard

/-- THE SECOND FORM's CARD OF 'entrepotlaw11.DfaNone'. -/
def dfaNoneUptoCard : Claim7 := { stood := { row := dfaNoneUptoRow, standIns := [], harness := (true, "773e8328e7318b7f98927c444e50885c61c99cd9f53232fe82705b935b13e098"), looks := true }, kinds := [], alts := [], laidByText := true, laidKinds := [.data, .data, .data], laidTests := true, laidLooks := .later }
def DfaNoneUptoCardSaid : Prop := Claim7.holds Tryz.pinned (.plain (OpenSpec.upto dfaNoneSpec)) dfaNoneUptoCard

/-- THE SECOND FORM's CARD OF 'entrepotlaw10.RexParses'. -/
def rexParsesUptoCard : Claim7 := { stood := { row := rexParsesUptoRow, standIns := [], harness := (true, "773e8328e7318b7f98927c444e50885c61c99cd9f53232fe82705b935b13e098"), looks := true }, kinds := [], alts := [], laidByText := true, laidKinds := [.data, .data, .data, .data, .sentinel, .sentinel, .pinned], laidTests := true, laidLooks := .later }
def RexParsesUptoCardSaid : Prop := Claim7.holds Tryz.pinned (.plain (OpenSpec.upto rexParsesSpec)) rexParsesUptoCard

/-- THE SECOND FORM's CARD OF 'entrepotlaw10.RexMatches'. -/
def rexMatchesUptoCard : Claim7 := { stood := { row := rexMatchesUptoRow, standIns := [], harness := (true, "773e8328e7318b7f98927c444e50885c61c99cd9f53232fe82705b935b13e098"), looks := true }, kinds := [], alts := [], laidByText := true, laidKinds := [.data, .data, .data, .data, .sentinel, .sentinel, .pinned], laidTests := true, laidLooks := .later }
def RexMatchesUptoCardSaid : Prop := Claim7.holds Tryz.pinned (.plain (OpenSpec.upto rexMatchesSpec)) rexMatchesUptoCard

/-- THE SECOND FORM's CARD OF 'entrepotlaw10.RexTexts'. -/
def rexTextsUptoCard : Claim7 := { stood := { row := rexTextsUptoRow, standIns := [], harness := (true, "773e8328e7318b7f98927c444e50885c61c99cd9f53232fe82705b935b13e098"), looks := true }, kinds := [], alts := [], laidByText := true, laidKinds := [.data, .data, .data, .data, .sentinel, .sentinel, .pinned], laidTests := true, laidLooks := .later }
def RexTextsUptoCardSaid : Prop := Claim7.holds Tryz.pinned (.plain (OpenSpec.upto rexTextsSpec)) rexTextsUptoCard

/-- THE SECOND FORM's CARD OF 'entrepotlaw10.RexQuotes'. -/
def rexQuotesUptoCard : Claim7 := { stood := { row := rexQuotesUptoRow, standIns := [], harness := (true, "773e8328e7318b7f98927c444e50885c61c99cd9f53232fe82705b935b13e098"), looks := true }, kinds := [], alts := [], laidByText := true, laidKinds := [.data, .data, .data, .data, .sentinel, .sentinel, .pinned], laidTests := true, laidLooks := .later }
def RexQuotesUptoCardSaid : Prop := Claim7.holds Tryz.pinned (.plain (OpenSpec.upto rexQuotesSpec)) rexQuotesUptoCard

/-- THE SECOND FORM's CARD OF 'entrepotlaw10.RexLaws'. -/
def rexLawsUptoCard : Claim7 := { stood := { row := rexLawsUptoRow, standIns := [], harness := (true, "773e8328e7318b7f98927c444e50885c61c99cd9f53232fe82705b935b13e098"), looks := true }, kinds := [], alts := [], laidByText := true, laidKinds := [.data, .data, .data, .data, .sentinel, .sentinel, .pinned], laidTests := true, laidLooks := .later }
def RexLawsUptoCardSaid : Prop := Claim7.holds Tryz.pinned (.plain (OpenSpec.upto rexLawsSpec)) rexLawsUptoCard

/-- THE SECOND FORM's CARD OF 'entrepotlaw10.RexClasses'. -/
def rexClassesUptoCard : Claim7 := { stood := { row := rexClassesUptoRow, standIns := [], harness := (true, "773e8328e7318b7f98927c444e50885c61c99cd9f53232fe82705b935b13e098"), looks := true }, kinds := [], alts := [], laidByText := true, laidKinds := [.data, .data, .data, .data, .sentinel, .sentinel, .pinned], laidTests := true, laidLooks := .later }
def RexClassesUptoCardSaid : Prop := Claim7.holds Tryz.pinned (.plain (OpenSpec.upto rexClassesSpec)) rexClassesUptoCard

/-- THE SECOND FORM's CARD OF 'entrepotlaw10.RexTimes'. -/
def rexTimesUptoCard : Claim7 := { stood := { row := rexTimesUptoRow, standIns := [], harness := (true, "773e8328e7318b7f98927c444e50885c61c99cd9f53232fe82705b935b13e098"), looks := true }, kinds := [], alts := [], laidByText := true, laidKinds := [.data, .data, .data, .data, .sentinel, .sentinel, .pinned], laidTests := true, laidLooks := .later }
def RexTimesUptoCardSaid : Prop := Claim7.holds Tryz.pinned (.plain (OpenSpec.upto rexTimesSpec)) rexTimesUptoCard

/-- THE SECOND FORM's CARD OF 'entrepotlaw10.RexWrong'. -/
def rexWrongUptoCard : Claim7 := { stood := { row := rexWrongUptoRow, standIns := [], harness := (true, "773e8328e7318b7f98927c444e50885c61c99cd9f53232fe82705b935b13e098"), looks := true }, kinds := [], alts := [], laidByText := true, laidKinds := [.data, .data, .data, .data, .sentinel, .sentinel, .pinned], laidTests := true, laidLooks := .later }
def RexWrongUptoCardSaid : Prop := Claim7.holds Tryz.pinned (.plain (OpenSpec.upto rexWrongSpec)) rexWrongUptoCard

/-- THE SECOND FORM's CARD OF 'entrepotlaw10.RexPrints'. -/
def rexPrintsUptoCard : Claim7 := { stood := { row := rexPrintsUptoRow, standIns := [], harness := (true, "773e8328e7318b7f98927c444e50885c61c99cd9f53232fe82705b935b13e098"), looks := true }, kinds := [], alts := [], laidByText := true, laidKinds := [.data, .data, .data, .data, .sentinel, .sentinel, .pinned], laidTests := true, laidLooks := .later }
def RexPrintsUptoCardSaid : Prop := Claim7.holds Tryz.pinned (.plain (OpenSpec.upto rexPrintsSpec)) rexPrintsUptoCard
end Rows
end Go.Proofs.YthilboheomikjaaGreatDoor
