/-
  DERIVED. GIVEN WITH THE SEED: THE CARDS: each row of YtlpdlohikfkjnaaDoorRows.lean that lists a variable, with what it lists TIED to the program's text (the seventh form; the later family's looks); each row that meets fmt, with fmt's text TOLD by the authors' own Lean function (tested against real Go, not proved from fmt's source: count such statements apart). THE CARD IS WHAT COUNTS. Prove the row's statement (the work); the ties are given (YtlpdlohikfkjnaaDoorTie.lean); close each card by the builder's one call (the guide's Derived/Test/ToyasCard.lean, 'card_holds'). Laid BY PROGRAM, IN A SANDBOX (cutbox-door.mjs). By AI agents, Wed Nov 11 2026. No macro, syntax, notation, axiom, sorry.
-/
import Derived.Test.YtlpdlohikfkjnaaDoorRows
import GoSem.ClaimSeven
namespace Go.Proofs.YtlpdlohikfkjnaaDoor
namespace Rows

/-- THE TIED CARD OF 'refinerylaw06.ShowLines'. -/
def showLinesCard : Claim7 := { stood := { row := showLinesRow, standIns := [], harness := (true, "18baa3944cf7a2927660b89a104acddf9dd7679da55ea3aedcb4dc312e8b4161"), looks := true }, kinds := [], alts := [], laidByText := true, laidKinds := [.data, .data, .data, .data], laidTests := true, laidLooks := .later }
def ShowLinesCardSaid : Prop := Claim7.holds Tryd.pinned (.plain (OpenSpec.ofChange showLinesSpec)) showLinesCard

/-- THE TIED CARD OF 'refinerylaw06.ShowBack'. -/
def showBackCard : Claim7 := { stood := { row := showBackRow, standIns := [], harness := (true, "18baa3944cf7a2927660b89a104acddf9dd7679da55ea3aedcb4dc312e8b4161"), looks := true }, kinds := [], alts := [], laidByText := true, laidKinds := [.data, .data, .data, .data, .sentinel, .sentinel], laidTests := true, laidLooks := .later }
def ShowBackCardSaid : Prop := Claim7.holds Tryd.pinned (.plain (OpenSpec.ofChange showBackSpec)) showBackCard

/-- THE TIED CARD OF 'refinerylaw06.ShowAny'. -/
def showAnyCard : Claim7 := { stood := { row := showAnyRow, standIns := [], harness := (true, "18baa3944cf7a2927660b89a104acddf9dd7679da55ea3aedcb4dc312e8b4161"), looks := true }, kinds := [], alts := [], laidByText := true, laidKinds := [.data, .data, .data, .data, .sentinel, .sentinel], laidTests := true, laidLooks := .later }
def ShowAnyCardSaid : Prop := Claim7.holds Tryd.pinned (.plain (OpenSpec.ofChange showAnySpec)) showAnyCard

/-- THE SECOND FORM's CARD OF 'refinerylaw06.ShowLines'. -/
def showLinesUptoCard : Claim7 := { stood := { row := showLinesUptoRow, standIns := [], harness := (true, "18baa3944cf7a2927660b89a104acddf9dd7679da55ea3aedcb4dc312e8b4161"), looks := true }, kinds := [], alts := [], laidByText := true, laidKinds := [.data, .data, .data, .data], laidTests := true, laidLooks := .later }
def ShowLinesUptoCardSaid : Prop := Claim7.holds Tryd.pinned (.plain (OpenSpec.upto showLinesSpec)) showLinesUptoCard

/-- THE SECOND FORM's CARD OF 'refinerylaw06.ShowBack'. -/
def showBackUptoCard : Claim7 := { stood := { row := showBackUptoRow, standIns := [], harness := (true, "18baa3944cf7a2927660b89a104acddf9dd7679da55ea3aedcb4dc312e8b4161"), looks := true }, kinds := [], alts := [], laidByText := true, laidKinds := [.data, .data, .data, .data, .sentinel, .sentinel], laidTests := true, laidLooks := .later }
def ShowBackUptoCardSaid : Prop := Claim7.holds Tryd.pinned (.plain (OpenSpec.upto showBackSpec)) showBackUptoCard

/-- THE SECOND FORM's CARD OF 'refinerylaw06.ShowAny'. -/
def showAnyUptoCard : Claim7 := { stood := { row := showAnyUptoRow, standIns := [], harness := (true, "18baa3944cf7a2927660b89a104acddf9dd7679da55ea3aedcb4dc312e8b4161"), looks := true }, kinds := [], alts := [], laidByText := true, laidKinds := [.data, .data, .data, .data, .sentinel, .sentinel], laidTests := true, laidLooks := .later }
def ShowAnyUptoCardSaid : Prop := Claim7.holds Tryd.pinned (.plain (OpenSpec.upto showAnySpec)) showAnyUptoCard
end Rows
end Go.Proofs.YtlpdlohikfkjnaaDoor
