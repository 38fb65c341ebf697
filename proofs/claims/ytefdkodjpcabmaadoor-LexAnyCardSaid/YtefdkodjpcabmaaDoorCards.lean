/-
  DERIVED. GIVEN WITH THE SEED: THE CARDS: each row of YtefdkodjpcabmaaDoorRows.lean that lists a variable, with what it lists TIED to the program's text (the seventh form; the later family's looks); each row that meets fmt, with fmt's text TOLD by the authors' own Lean function (tested against real Go, not proved from fmt's source: count such statements apart). THE CARD IS WHAT COUNTS. Prove the row's statement (the work); the ties are given (YtefdkodjpcabmaaDoorTie.lean); close each card by the builder's one call (the guide's Derived/Test/ToyasCard.lean, 'card_holds'). Laid BY PROGRAM, IN A SANDBOX (cutbox-door.mjs). By AI agents, Wed Nov 11 2026. No macro, syntax, notation, axiom, sorry.
-/
import Derived.Test.YtefdkodjpcabmaaDoorRows
import GoSem.ClaimSeven
namespace Go.Proofs.YtefdkodjpcabmaaDoor
namespace Rows

/-- THE TIED CARD OF 'refinerylaw06.ShowLines'. -/
def showLinesCard : Claim7 := { stood := { row := showLinesRow, standIns := [], harness := (true, "c81a7ef407c66a6993c7162216a6ad6e55d6f09978265345e5624cdf05b2245e"), looks := true }, kinds := [], alts := [], laidByText := true, laidKinds := [.data, .data, .data, .data], laidTests := true, laidLooks := .later }
def ShowLinesCardSaid : Prop := Claim7.holds Tryd.pinned (.plain (OpenSpec.ofChange showLinesSpec)) showLinesCard

/-- THE TIED CARD OF 'refinerylaw04.LexReads'. -/
def lexReadsCard : Claim7 := { stood := { row := lexReadsRow, standIns := [], harness := (true, "c81a7ef407c66a6993c7162216a6ad6e55d6f09978265345e5624cdf05b2245e"), looks := true }, kinds := [], alts := [], laidByText := true, laidKinds := [.data, .data, .data, .sentinel, .sentinel], laidTests := true, laidLooks := .later }
def LexReadsCardSaid : Prop := Claim7.holds Tryd.pinned (.plain (OpenSpec.ofChange lexReadsSpec)) lexReadsCard

/-- THE TIED CARD OF 'refinerylaw04.LexAny'. -/
def lexAnyCard : Claim7 := { stood := { row := lexAnyRow, standIns := [], harness := (true, "c81a7ef407c66a6993c7162216a6ad6e55d6f09978265345e5624cdf05b2245e"), looks := true }, kinds := [], alts := [], laidByText := true, laidKinds := [.data, .data, .data, .sentinel, .sentinel], laidTests := true, laidLooks := .later }
def LexAnyCardSaid : Prop := Claim7.holds Tryd.pinned (.plain (OpenSpec.ofChange lexAnySpec)) lexAnyCard

/-- THE TIED CARD OF 'refinerylaw04.LexStops'. -/
def lexStopsCard : Claim7 := { stood := { row := lexStopsRow, standIns := [], harness := (true, "c81a7ef407c66a6993c7162216a6ad6e55d6f09978265345e5624cdf05b2245e"), looks := true }, kinds := [], alts := [], laidByText := true, laidKinds := [.data, .data, .data, .sentinel, .sentinel], laidTests := true, laidLooks := .later }
def LexStopsCardSaid : Prop := Claim7.holds Tryd.pinned (.plain (OpenSpec.ofChange lexStopsSpec)) lexStopsCard

/-- THE TIED CARD OF 'refinerylaw04.LexNumbers'. -/
def lexNumbersCard : Claim7 := { stood := { row := lexNumbersRow, standIns := [], harness := (true, "c81a7ef407c66a6993c7162216a6ad6e55d6f09978265345e5624cdf05b2245e"), looks := true }, kinds := [], alts := [], laidByText := true, laidKinds := [.data, .data, .data, .sentinel, .sentinel], laidTests := true, laidLooks := .later }
def LexNumbersCardSaid : Prop := Claim7.holds Tryd.pinned (.plain (OpenSpec.ofChange lexNumbersSpec)) lexNumbersCard

/-- THE TIED CARD OF 'refinerylaw04.LexJoins'. -/
def lexJoinsCard : Claim7 := { stood := { row := lexJoinsRow, standIns := [], harness := (true, "c81a7ef407c66a6993c7162216a6ad6e55d6f09978265345e5624cdf05b2245e"), looks := true }, kinds := [], alts := [], laidByText := true, laidKinds := [.data, .data, .data, .sentinel, .sentinel], laidTests := true, laidLooks := .later }
def LexJoinsCardSaid : Prop := Claim7.holds Tryd.pinned (.plain (OpenSpec.ofChange lexJoinsSpec)) lexJoinsCard

/-- THE SECOND FORM's CARD OF 'refinerylaw06.ShowLines'. -/
def showLinesUptoCard : Claim7 := { stood := { row := showLinesUptoRow, standIns := [], harness := (true, "c81a7ef407c66a6993c7162216a6ad6e55d6f09978265345e5624cdf05b2245e"), looks := true }, kinds := [], alts := [], laidByText := true, laidKinds := [.data, .data, .data, .data], laidTests := true, laidLooks := .later }
def ShowLinesUptoCardSaid : Prop := Claim7.holds Tryd.pinned (.plain (OpenSpec.upto showLinesSpec)) showLinesUptoCard

/-- THE SECOND FORM's CARD OF 'refinerylaw04.LexReads'. -/
def lexReadsUptoCard : Claim7 := { stood := { row := lexReadsUptoRow, standIns := [], harness := (true, "c81a7ef407c66a6993c7162216a6ad6e55d6f09978265345e5624cdf05b2245e"), looks := true }, kinds := [], alts := [], laidByText := true, laidKinds := [.data, .data, .data, .sentinel, .sentinel], laidTests := true, laidLooks := .later }
def LexReadsUptoCardSaid : Prop := Claim7.holds Tryd.pinned (.plain (OpenSpec.upto lexReadsSpec)) lexReadsUptoCard

/-- THE SECOND FORM's CARD OF 'refinerylaw04.LexAny'. -/
def lexAnyUptoCard : Claim7 := { stood := { row := lexAnyUptoRow, standIns := [], harness := (true, "c81a7ef407c66a6993c7162216a6ad6e55d6f09978265345e5624cdf05b2245e"), looks := true }, kinds := [], alts := [], laidByText := true, laidKinds := [.data, .data, .data, .sentinel, .sentinel], laidTests := true, laidLooks := .later }
def LexAnyUptoCardSaid : Prop := Claim7.holds Tryd.pinned (.plain (OpenSpec.upto lexAnySpec)) lexAnyUptoCard

/-- THE SECOND FORM's CARD OF 'refinerylaw04.LexStops'. -/
def lexStopsUptoCard : Claim7 := { stood := { row := lexStopsUptoRow, standIns := [], harness := (true, "c81a7ef407c66a6993c7162216a6ad6e55d6f09978265345e5624cdf05b2245e"), looks := true }, kinds := [], alts := [], laidByText := true, laidKinds := [.data, .data, .data, .sentinel, .sentinel], laidTests := true, laidLooks := .later }
def LexStopsUptoCardSaid : Prop := Claim7.holds Tryd.pinned (.plain (OpenSpec.upto lexStopsSpec)) lexStopsUptoCard

/-- THE SECOND FORM's CARD OF 'refinerylaw04.LexNumbers'. -/
def lexNumbersUptoCard : Claim7 := { stood := { row := lexNumbersUptoRow, standIns := [], harness := (true, "c81a7ef407c66a6993c7162216a6ad6e55d6f09978265345e5624cdf05b2245e"), looks := true }, kinds := [], alts := [], laidByText := true, laidKinds := [.data, .data, .data, .sentinel, .sentinel], laidTests := true, laidLooks := .later }
def LexNumbersUptoCardSaid : Prop := Claim7.holds Tryd.pinned (.plain (OpenSpec.upto lexNumbersSpec)) lexNumbersUptoCard

/-- THE SECOND FORM's CARD OF 'refinerylaw04.LexJoins'. -/
def lexJoinsUptoCard : Claim7 := { stood := { row := lexJoinsUptoRow, standIns := [], harness := (true, "c81a7ef407c66a6993c7162216a6ad6e55d6f09978265345e5624cdf05b2245e"), looks := true }, kinds := [], alts := [], laidByText := true, laidKinds := [.data, .data, .data, .sentinel, .sentinel], laidTests := true, laidLooks := .later }
def LexJoinsUptoCardSaid : Prop := Claim7.holds Tryd.pinned (.plain (OpenSpec.upto lexJoinsSpec)) lexJoinsUptoCard
end Rows
end Go.Proofs.YtefdkodjpcabmaaDoor
