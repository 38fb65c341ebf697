/-
  DERIVED. GIVEN WITH THE SEED: THE CARDS: each row of YtdjfndijbnpkpaaDoorRows.lean that lists a variable, with what it lists TIED to the program's text (the seventh form; the later family's looks); each row that meets fmt, with fmt's text TOLD by the authors' own Lean function (tested against real Go, not proved from fmt's source: count such statements apart). THE CARD IS WHAT COUNTS. Prove the row's statement (the work); the ties are given (YtdjfndijbnpkpaaDoorTie.lean); close each card by the builder's one call (the guide's Derived/Test/ToyasCard.lean, 'card_holds'). Laid BY PROGRAM, IN A SANDBOX (cutbox-door.mjs). By AI agents, Wed Nov 11 2026. No macro, syntax, notation, axiom, sorry.
-/
import Derived.Test.YtdjfndijbnpkpaaDoorRows
import GoSem.ClaimSeven
namespace Go.Proofs.YtdjfndijbnpkpaaDoor
namespace Rows

/-- THE TIED CARD OF 'refinerylaw05.ParsePlaces'. -/
def parsePlacesCard : Claim7 := { stood := { row := parsePlacesRow, standIns := [], harness := (true, "fb484379844676808e8440c976ead7648e12709fff0efa48feae542c5b96a5aa"), looks := true }, kinds := [], alts := [], laidByText := true, laidKinds := [.data, .data, .data, .data, .sentinel, .sentinel], laidTests := true, laidLooks := .later }
def ParsePlacesCardSaid : Prop := Claim7.holds Tryd.pinned (.plain (OpenSpec.ofChange parsePlacesSpec)) parsePlacesCard

/-- THE TIED CARD OF 'refinerylaw05.ParseReads'. -/
def parseReadsCard : Claim7 := { stood := { row := parseReadsRow, standIns := [], harness := (true, "fb484379844676808e8440c976ead7648e12709fff0efa48feae542c5b96a5aa"), looks := true }, kinds := [], alts := [], laidByText := true, laidKinds := [.data, .data, .data, .data, .sentinel, .sentinel], laidTests := true, laidLooks := .later }
def ParseReadsCardSaid : Prop := Claim7.holds Tryd.pinned (.plain (OpenSpec.ofChange parseReadsSpec)) parseReadsCard

/-- THE TIED CARD OF 'refinerylaw05.ParseGaps'. -/
def parseGapsCard : Claim7 := { stood := { row := parseGapsRow, standIns := [], harness := (true, "fb484379844676808e8440c976ead7648e12709fff0efa48feae542c5b96a5aa"), looks := true }, kinds := [], alts := [], laidByText := true, laidKinds := [.data, .data, .data, .data, .sentinel, .sentinel], laidTests := true, laidLooks := .later }
def ParseGapsCardSaid : Prop := Claim7.holds Tryd.pinned (.plain (OpenSpec.ofChange parseGapsSpec)) parseGapsCard

/-- THE TIED CARD OF 'refinerylaw05.ParseLines'. -/
def parseLinesCard : Claim7 := { stood := { row := parseLinesRow, standIns := [], harness := (true, "fb484379844676808e8440c976ead7648e12709fff0efa48feae542c5b96a5aa"), looks := true }, kinds := [], alts := [], laidByText := true, laidKinds := [.data, .data, .data, .data, .sentinel, .sentinel], laidTests := true, laidLooks := .later }
def ParseLinesCardSaid : Prop := Claim7.holds Tryd.pinned (.plain (OpenSpec.ofChange parseLinesSpec)) parseLinesCard

/-- THE TIED CARD OF 'refinerylaw05.ParseJoins'. -/
def parseJoinsCard : Claim7 := { stood := { row := parseJoinsRow, standIns := [], harness := (true, "fb484379844676808e8440c976ead7648e12709fff0efa48feae542c5b96a5aa"), looks := true }, kinds := [], alts := [], laidByText := true, laidKinds := [.data, .data, .data, .data, .sentinel, .sentinel], laidTests := true, laidLooks := .later }
def ParseJoinsCardSaid : Prop := Claim7.holds Tryd.pinned (.plain (OpenSpec.ofChange parseJoinsSpec)) parseJoinsCard

/-- THE TIED CARD OF 'refinerylaw05.ParseNumbers'. -/
def parseNumbersCard : Claim7 := { stood := { row := parseNumbersRow, standIns := [], harness := (true, "fb484379844676808e8440c976ead7648e12709fff0efa48feae542c5b96a5aa"), looks := true }, kinds := [], alts := [], laidByText := true, laidKinds := [.data, .data, .data, .data, .sentinel, .sentinel], laidTests := true, laidLooks := .later }
def ParseNumbersCardSaid : Prop := Claim7.holds Tryd.pinned (.plain (OpenSpec.ofChange parseNumbersSpec)) parseNumbersCard

/-- THE TIED CARD OF 'refinerylaw05.ParseAny'. -/
def parseAnyCard : Claim7 := { stood := { row := parseAnyRow, standIns := [], harness := (true, "fb484379844676808e8440c976ead7648e12709fff0efa48feae542c5b96a5aa"), looks := true }, kinds := [], alts := [], laidByText := true, laidKinds := [.data, .data, .data, .data, .sentinel, .sentinel], laidTests := true, laidLooks := .later }
def ParseAnyCardSaid : Prop := Claim7.holds Tryd.pinned (.plain (OpenSpec.ofChange parseAnySpec)) parseAnyCard

/-- THE SECOND FORM's CARD OF 'refinerylaw05.ParsePlaces'. -/
def parsePlacesUptoCard : Claim7 := { stood := { row := parsePlacesUptoRow, standIns := [], harness := (true, "fb484379844676808e8440c976ead7648e12709fff0efa48feae542c5b96a5aa"), looks := true }, kinds := [], alts := [], laidByText := true, laidKinds := [.data, .data, .data, .data, .sentinel, .sentinel], laidTests := true, laidLooks := .later }
def ParsePlacesUptoCardSaid : Prop := Claim7.holds Tryd.pinned (.plain (OpenSpec.upto parsePlacesSpec)) parsePlacesUptoCard

/-- THE SECOND FORM's CARD OF 'refinerylaw05.ParseReads'. -/
def parseReadsUptoCard : Claim7 := { stood := { row := parseReadsUptoRow, standIns := [], harness := (true, "fb484379844676808e8440c976ead7648e12709fff0efa48feae542c5b96a5aa"), looks := true }, kinds := [], alts := [], laidByText := true, laidKinds := [.data, .data, .data, .data, .sentinel, .sentinel], laidTests := true, laidLooks := .later }
def ParseReadsUptoCardSaid : Prop := Claim7.holds Tryd.pinned (.plain (OpenSpec.upto parseReadsSpec)) parseReadsUptoCard

/-- THE SECOND FORM's CARD OF 'refinerylaw05.ParseGaps'. -/
def parseGapsUptoCard : Claim7 := { stood := { row := parseGapsUptoRow, standIns := [], harness := (true, "fb484379844676808e8440c976ead7648e12709fff0efa48feae542c5b96a5aa"), looks := true }, kinds := [], alts := [], laidByText := true, laidKinds := [.data, .data, .data, .data, .sentinel, .sentinel], laidTests := true, laidLooks := .later }
def ParseGapsUptoCardSaid : Prop := Claim7.holds Tryd.pinned (.plain (OpenSpec.upto parseGapsSpec)) parseGapsUptoCard

/-- THE SECOND FORM's CARD OF 'refinerylaw05.ParseLines'. -/
def parseLinesUptoCard : Claim7 := { stood := { row := parseLinesUptoRow, standIns := [], harness := (true, "fb484379844676808e8440c976ead7648e12709fff0efa48feae542c5b96a5aa"), looks := true }, kinds := [], alts := [], laidByText := true, laidKinds := [.data, .data, .data, .data, .sentinel, .sentinel], laidTests := true, laidLooks := .later }
def ParseLinesUptoCardSaid : Prop := Claim7.holds Tryd.pinned (.plain (OpenSpec.upto parseLinesSpec)) parseLinesUptoCard

/-- THE SECOND FORM's CARD OF 'refinerylaw05.ParseJoins'. -/
def parseJoinsUptoCard : Claim7 := { stood := { row := parseJoinsUptoRow, standIns := [], harness := (true, "fb484379844676808e8440c976ead7648e12709fff0efa48feae542c5b96a5aa"), looks := true }, kinds := [], alts := [], laidByText := true, laidKinds := [.data, .data, .data, .data, .sentinel, .sentinel], laidTests := true, laidLooks := .later }
def ParseJoinsUptoCardSaid : Prop := Claim7.holds Tryd.pinned (.plain (OpenSpec.upto parseJoinsSpec)) parseJoinsUptoCard

/-- THE SECOND FORM's CARD OF 'refinerylaw05.ParseNumbers'. -/
def parseNumbersUptoCard : Claim7 := { stood := { row := parseNumbersUptoRow, standIns := [], harness := (true, "fb484379844676808e8440c976ead7648e12709fff0efa48feae542c5b96a5aa"), looks := true }, kinds := [], alts := [], laidByText := true, laidKinds := [.data, .data, .data, .data, .sentinel, .sentinel], laidTests := true, laidLooks := .later }
def ParseNumbersUptoCardSaid : Prop := Claim7.holds Tryd.pinned (.plain (OpenSpec.upto parseNumbersSpec)) parseNumbersUptoCard

/-- THE SECOND FORM's CARD OF 'refinerylaw05.ParseAny'. -/
def parseAnyUptoCard : Claim7 := { stood := { row := parseAnyUptoRow, standIns := [], harness := (true, "fb484379844676808e8440c976ead7648e12709fff0efa48feae542c5b96a5aa"), looks := true }, kinds := [], alts := [], laidByText := true, laidKinds := [.data, .data, .data, .data, .sentinel, .sentinel], laidTests := true, laidLooks := .later }
def ParseAnyUptoCardSaid : Prop := Claim7.holds Tryd.pinned (.plain (OpenSpec.upto parseAnySpec)) parseAnyUptoCard
end Rows
end Go.Proofs.YtdjfndijbnpkpaaDoor
