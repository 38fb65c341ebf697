/-
  No cell of these rows narrows 'for every input' (looked for: loops, veiled, ifaces, maps, wideKeys, modest, calm, conditions, laid).
  DERIVED. THE GIVEN ROWS OF THIS SEAT. 4 by the template 'for every input the law returns true; each argument reads behind the call as it read before'; 0 by the template 'total and deterministic' (their statements: YtenfblnmmmppbaaTotals.lean).
  GIVEN WITH THE SEED: the statements are not yours to turn. If you find one false, say at which input.
  Laid BY PROGRAM, IN A SANDBOX (cutbox-rows.mjs): the forced cells as the released guide's own fill.sh prints them over the translation be6783279f301127… (all of the seat's roots in one cut). By AI agents, Wed Nov 11 2026. No macro, syntax, notation, axiom, sorry.
-/
import Derived.Test.YtenfblnmmmppbaaChecked
import GoSem.Claim
import GoSem.ClaimJoined
import GoSem.ClaimMapViews
import Derived.JoinedTies
import Derived.KernelRfl
namespace Go.Proofs.Ytenfblnmmmppbaa
/- THE CELL 'sum', in the pinned program and in every row, IS THE sha256 OF THE DUMP (.gsa) THAT YtenfblnmmmppbaaProg.lean LOADS. Nothing in Lean hashes anything: it is a label: what it is worth is what the hold of that sum in a sandbox is worth. -/
noncomputable def Try.pinned : Pinned := { name := "ytenfblnmmmppbaa", sum := "be6783279f301127522fc9efdabf98f6432ab223a6c345470da62bec58385e7b", checked := Try.checked }
namespace Rows
def none {H : Type} : Left H := { results := [], args := [] }

/-- 'refinerylaw21.SweepDoes': WHATEVER THE INPUT: true; the input reads as it did. -/
def sweepDoesSpec : ChangeSpec := { name := "sweepDoes", fn := fun _ => fun
  | [d1, d2, d3] => { results := [.lit (.bool true)], args := [d1, d2, d3] }
  | _ => none }
def sweepDoesRow : OpenClaim := { program := "ytenfblnmmmppbaa", sum := "be6783279f301127522fc9efdabf98f6432ab223a6c345470da62bec58385e7b", func := "refinery/refinerylaw21.SweepDoes", spec := "sweepDoes", inPlace := ["slices.overlaps[int]"], unfollowed := true, recurses := true, plainKeys := false, apart := false }
def SweepDoesSaid : Prop := sweepDoesRow.holds Try.pinned (OpenSpec.ofChange sweepDoesSpec)

/-- ITS FALSE NEIGHBOUR: 'it returns false'. Refute it at one input. -/
def sweepDoesWrong : ChangeSpec := { name := "sweepDoes", fn := fun _ => fun
  | [d1, d2, d3] => { results := [.lit (.bool false)], args := [d1, d2, d3] }
  | _ => none }
def SweepDoesWrongFalsely : Prop := sweepDoesRow.holds Try.pinned (OpenSpec.ofChange sweepDoesWrong)

/-- 'refinerylaw17.StrictLine': WHATEVER THE INPUT: true; the input reads as it did. -/
def strictLineSpec : ChangeSpec := { name := "strictLine", fn := fun _ => fun
  | [d1, d2] => { results := [.lit (.bool true)], args := [d1, d2] }
  | _ => none }
def strictLineRow : OpenClaim := { program := "ytenfblnmmmppbaa", sum := "be6783279f301127522fc9efdabf98f6432ab223a6c345470da62bec58385e7b", func := "refinery/refinerylaw17.StrictLine", spec := "strictLine", unfollowed := true, recurses := true, plainKeys := false, apart := false }
def StrictLineSaid : Prop := strictLineRow.holds Try.pinned (OpenSpec.ofChange strictLineSpec)

/-- ITS FALSE NEIGHBOUR: 'it returns false'. Refute it at one input. -/
def strictLineWrong : ChangeSpec := { name := "strictLine", fn := fun _ => fun
  | [d1, d2] => { results := [.lit (.bool false)], args := [d1, d2] }
  | _ => none }
def StrictLineWrongFalsely : Prop := strictLineRow.holds Try.pinned (OpenSpec.ofChange strictLineWrong)

/-- 'refinerylaw19.ShareCopies': WHATEVER THE INPUT: true; the input reads as it did. -/
def shareCopiesSpec : ChangeSpec := { name := "shareCopies", fn := fun _ => fun
  | [d1, d2] => { results := [.lit (.bool true)], args := [d1, d2] }
  | _ => none }
def shareCopiesRow : OpenClaim := { program := "ytenfblnmmmppbaa", sum := "be6783279f301127522fc9efdabf98f6432ab223a6c345470da62bec58385e7b", func := "refinery/refinerylaw19.ShareCopies", spec := "shareCopies", unfollowed := true, recurses := true, plainKeys := false, apart := false }
def ShareCopiesSaid : Prop := shareCopiesRow.holds Try.pinned (OpenSpec.ofChange shareCopiesSpec)

/-- ITS FALSE NEIGHBOUR: 'it returns false'. Refute it at one input. -/
def shareCopiesWrong : ChangeSpec := { name := "shareCopies", fn := fun _ => fun
  | [d1, d2] => { results := [.lit (.bool false)], args := [d1, d2] }
  | _ => none }
def ShareCopiesWrongFalsely : Prop := shareCopiesRow.holds Try.pinned (OpenSpec.ofChange shareCopiesWrong)

/-- 'refinerylaw18.FoldMeets': WHATEVER THE INPUT: true; the input reads as it did. -/
def foldMeetsSpec : ChangeSpec := { name := "foldMeets", fn := fun _ => fun
  | [d1, d2, d3, d4] => { results := [.lit (.bool true)], args := [d1, d2, d3, d4] }
  | _ => none }
def foldMeetsRow : OpenClaim := { program := "ytenfblnmmmppbaa", sum := "be6783279f301127522fc9efdabf98f6432ab223a6c345470da62bec58385e7b", func := "refinery/refinerylaw18.FoldMeets", spec := "foldMeets", inPlace := ["slices.overlaps[int]"], unfollowed := true, recurses := true, plainKeys := false, apart := false }
def FoldMeetsSaid : Prop := foldMeetsRow.holds Try.pinned (OpenSpec.ofChange foldMeetsSpec)

/-- ITS FALSE NEIGHBOUR: 'it returns false'. Refute it at one input. -/
def foldMeetsWrong : ChangeSpec := { name := "foldMeets", fn := fun _ => fun
  | [d1, d2, d3, d4] => { results := [.lit (.bool false)], args := [d1, d2, d3, d4] }
  | _ => none }
def FoldMeetsWrongFalsely : Prop := foldMeetsRow.holds Try.pinned (OpenSpec.ofChange foldMeetsWrong)

/- THE SECOND FORM. 'bulk': how many values and letters a reading holds, each counted each time it is reached (what is shared counts as often as it is met; a slice's spare places count too). A statement '..UptoSaid' is the law's where the arguments, and the package variables that the reading takes, are together of bulk at most 1048576: NARROWER than '..Said'. Prove '..Said' where nothing that the law and all that it calls make is longer than what came in: it says more and counts as full. Else prove '..UptoSaid'. A law counts once. -/
mutual
def uptoBulk {H : Type} : DataW H → Nat
  | .lit (.string bytes) => bytes.length + 1
  | .lit _ => 1
  | .nil => 1
  | .ptr d => uptoBulk d + 1
  | .slice elems spare => uptoBulkAll elems + uptoBulkAll spare + 1
  | .agg parts => uptoBulkAll parts + 1
  | .iface _ d => uptoBulk d + 1
  | .map entries => uptoBulkEntries entries + 1
  | .held _ => 1
def uptoBulkAll {H : Type} : List (DataW H) → Nat
  | [] => 0
  | d :: r => uptoBulk d + uptoBulkAll r
def uptoBulkEntries {H : Type} : List (Lit × DataW H) → Nat
  | [] => 0
  | x :: r => uptoBulkEntry x + uptoBulkEntries r
def uptoBulkEntry {H : Type} : Lit × DataW H → Nat
  | (.string bytes, d) => bytes.length + uptoBulk d + 1
  | (_, d) => uptoBulk d + 1
 end
def uptoSmall : (H : Type) → List (DataW H) → Bool := fun _ ds => decide (uptoBulkAll ds ≤ 1048576)
def OpenSpec.upto (s : _root_.Go.ChangeSpec) : _root_.Go.OpenSpec := { _root_.Go.OpenSpec.ofChange s with cond := some uptoSmall }

/-- 'refinerylaw21.SweepDoes', WHERE WHAT IT READS IS OF BULK AT MOST 1048576: true; the input reads as it did. -/
def sweepDoesUptoRow : OpenClaim := { program := "ytenfblnmmmppbaa", sum := "be6783279f301127522fc9efdabf98f6432ab223a6c345470da62bec58385e7b", func := "refinery/refinerylaw21.SweepDoes", spec := "sweepDoes", inPlace := ["slices.overlaps[int]"], unfollowed := true, recurses := true, plainKeys := false, apart := false, narrowed := true }
def SweepDoesUptoSaid : Prop := sweepDoesUptoRow.holds Try.pinned (OpenSpec.upto sweepDoesSpec)

/-- 'refinerylaw17.StrictLine', WHERE WHAT IT READS IS OF BULK AT MOST 1048576: true; the input reads as it did. -/
def strictLineUptoRow : OpenClaim := { program := "ytenfblnmmmppbaa", sum := "be6783279f301127522fc9efdabf98f6432ab223a6c345470da62bec58385e7b", func := "refinery/refinerylaw17.StrictLine", spec := "strictLine", unfollowed := true, recurses := true, plainKeys := false, apart := false, narrowed := true }
def StrictLineUptoSaid : Prop := strictLineUptoRow.holds Try.pinned (OpenSpec.upto strictLineSpec)

/-- 'refinerylaw19.ShareCopies', WHERE WHAT IT READS IS OF BULK AT MOST 1048576: true; the input reads as it did. -/
def shareCopiesUptoRow : OpenClaim := { program := "ytenfblnmmmppbaa", sum := "be6783279f301127522fc9efdabf98f6432ab223a6c345470da62bec58385e7b", func := "refinery/refinerylaw19.ShareCopies", spec := "shareCopies", unfollowed := true, recurses := true, plainKeys := false, apart := false, narrowed := true }
def ShareCopiesUptoSaid : Prop := shareCopiesUptoRow.holds Try.pinned (OpenSpec.upto shareCopiesSpec)

/-- 'refinerylaw18.FoldMeets', WHERE WHAT IT READS IS OF BULK AT MOST 1048576: true; the input reads as it did. -/
def foldMeetsUptoRow : OpenClaim := { program := "ytenfblnmmmppbaa", sum := "be6783279f301127522fc9efdabf98f6432ab223a6c345470da62bec58385e7b", func := "refinery/refinerylaw18.FoldMeets", spec := "foldMeets", inPlace := ["slices.overlaps[int]"], unfollowed := true, recurses := true, plainKeys := false, apart := false, narrowed := true }
def FoldMeetsUptoSaid : Prop := foldMeetsUptoRow.holds Try.pinned (OpenSpec.upto foldMeetsSpec)

end Rows
end Go.Proofs.Ytenfblnmmmppbaa
