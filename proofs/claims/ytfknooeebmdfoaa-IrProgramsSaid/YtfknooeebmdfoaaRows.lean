/-
  No cell of these rows narrows 'for every input' (looked for: loops, veiled, ifaces, maps, wideKeys, modest, calm, conditions, laid).
  DERIVED. THE GIVEN ROWS OF THIS SEAT. 8 by the template 'for every input the law returns true; each argument reads behind the call as it read before'; 0 by the template 'total and deterministic' (their statements: YtfknooeebmdfoaaTotals.lean).
  GIVEN WITH THE SEED: the statements are not yours to turn. If you find one false, say at which input.
  Laid BY PROGRAM, IN A SANDBOX (cutbox-rows.mjs): the forced cells as the released guide's own fill.sh prints them over the translation 3e75d5cee5b60681… (all of the seat's roots in one cut). By AI agents, Wed Nov 11 2026. No macro, syntax, notation, axiom, sorry.
-/
import Derived.Test.YtfknooeebmdfoaaChecked
import GoSem.Claim
import GoSem.ClaimJoined
import GoSem.ClaimMapViews
import Derived.JoinedTies
import Derived.KernelRfl
namespace Go.Proofs.Ytfknooeebmdfoaa
/- THE CELL 'sum', in the pinned program and in every row, IS THE sha256 OF THE DUMP (.gsa) THAT YtfknooeebmdfoaaProg.lean LOADS. Nothing in Lean hashes anything: it is a label: what it is worth is what the hold of that sum in a sandbox is worth. -/
noncomputable def Try.pinned : Pinned := { name := "ytfknooeebmdfoaa", sum := "3e75d5cee5b6068156af4ea9e47a6d423e1d324371f81a3f85e488193a1ffc15", checked := Try.checked }
namespace Rows
def none {H : Type} : Left H := { results := [], args := [] }

/-- 'refinerylaw22.LeaveRows': WHATEVER THE INPUT: true; the input reads as it did. -/
def leaveRowsSpec : ChangeSpec := { name := "leaveRows", fn := fun _ => fun
  | [d1, d2] => { results := [.lit (.bool true)], args := [d1, d2] }
  | _ => none }
def leaveRowsRow : OpenClaim := { program := "ytfknooeebmdfoaa", sum := "3e75d5cee5b6068156af4ea9e47a6d423e1d324371f81a3f85e488193a1ffc15", func := "refinery/refinerylaw22.LeaveRows", spec := "leaveRows", unfollowed := true, recurses := true, apart := false }
def LeaveRowsSaid : Prop := leaveRowsRow.holds Try.pinned (OpenSpec.ofChange leaveRowsSpec)

/-- ITS FALSE NEIGHBOUR: 'it returns false'. Refute it at one input. -/
def leaveRowsWrong : ChangeSpec := { name := "leaveRows", fn := fun _ => fun
  | [d1, d2] => { results := [.lit (.bool false)], args := [d1, d2] }
  | _ => none }
def LeaveRowsWrongFalsely : Prop := leaveRowsRow.holds Try.pinned (OpenSpec.ofChange leaveRowsWrong)

/-- 'refinerylaw22.LeaveLine': WHATEVER THE INPUT: true; the input reads as it did. -/
def leaveLineSpec : ChangeSpec := { name := "leaveLine", fn := fun _ => fun
  | [d1, d2] => { results := [.lit (.bool true)], args := [d1, d2] }
  | _ => none }
def leaveLineRow : OpenClaim := { program := "ytfknooeebmdfoaa", sum := "3e75d5cee5b6068156af4ea9e47a6d423e1d324371f81a3f85e488193a1ffc15", func := "refinery/refinerylaw22.LeaveLine", spec := "leaveLine", unfollowed := true, recurses := true, apart := false }
def LeaveLineSaid : Prop := leaveLineRow.holds Try.pinned (OpenSpec.ofChange leaveLineSpec)

/-- ITS FALSE NEIGHBOUR: 'it returns false'. Refute it at one input. -/
def leaveLineWrong : ChangeSpec := { name := "leaveLine", fn := fun _ => fun
  | [d1, d2] => { results := [.lit (.bool false)], args := [d1, d2] }
  | _ => none }
def LeaveLineWrongFalsely : Prop := leaveLineRow.holds Try.pinned (OpenSpec.ofChange leaveLineWrong)

/-- 'refinerylaw03.IrChecks': WHATEVER THE INPUT: true; the input reads as it did. -/
def irChecksSpec : ChangeSpec := { name := "irChecks", fn := fun _ => fun
  | [d1, d2, d3] => { results := [.lit (.bool true)], args := [d1, d2, d3] }
  | _ => none }
def irChecksRow : OpenClaim := { program := "ytfknooeebmdfoaa", sum := "3e75d5cee5b6068156af4ea9e47a6d423e1d324371f81a3f85e488193a1ffc15", func := "refinery/refinerylaw03.IrChecks", spec := "irChecks", unfollowed := true, recurses := true, apart := false }
def IrChecksSaid : Prop := irChecksRow.holds Try.pinned (OpenSpec.ofChange irChecksSpec)

/-- ITS FALSE NEIGHBOUR: 'it returns false'. Refute it at one input. -/
def irChecksWrong : ChangeSpec := { name := "irChecks", fn := fun _ => fun
  | [d1, d2, d3] => { results := [.lit (.bool false)], args := [d1, d2, d3] }
  | _ => none }
def IrChecksWrongFalsely : Prop := irChecksRow.holds Try.pinned (OpenSpec.ofChange irChecksWrong)

/-- 'refinerylaw03.IrOnly': WHATEVER THE INPUT: true; the input reads as it did. -/
def irOnlySpec : ChangeSpec := { name := "irOnly", fn := fun _ => fun
  | [d1, d2, d3, d4, d5, d6, d7] => { results := [.lit (.bool true)], args := [d1, d2, d3, d4, d5, d6, d7] }
  | _ => none }
def irOnlyRow : OpenClaim := { program := "ytfknooeebmdfoaa", sum := "3e75d5cee5b6068156af4ea9e47a6d423e1d324371f81a3f85e488193a1ffc15", func := "refinery/refinerylaw03.IrOnly", spec := "irOnly", unfollowed := true, recurses := true, apart := false }
def IrOnlySaid : Prop := irOnlyRow.holds Try.pinned (OpenSpec.ofChange irOnlySpec)

/-- ITS FALSE NEIGHBOUR: 'it returns false'. Refute it at one input. -/
def irOnlyWrong : ChangeSpec := { name := "irOnly", fn := fun _ => fun
  | [d1, d2, d3, d4, d5, d6, d7] => { results := [.lit (.bool false)], args := [d1, d2, d3, d4, d5, d6, d7] }
  | _ => none }
def IrOnlyWrongFalsely : Prop := irOnlyRow.holds Try.pinned (OpenSpec.ofChange irOnlyWrong)

/-- 'refinerylaw03.IrLasts': WHATEVER THE INPUT: true; the input reads as it did. -/
def irLastsSpec : ChangeSpec := { name := "irLasts", fn := fun _ => fun
  | [d1, d2, d3] => { results := [.lit (.bool true)], args := [d1, d2, d3] }
  | _ => none }
def irLastsRow : OpenClaim := { program := "ytfknooeebmdfoaa", sum := "3e75d5cee5b6068156af4ea9e47a6d423e1d324371f81a3f85e488193a1ffc15", func := "refinery/refinerylaw03.IrLasts", spec := "irLasts", apart := false }
def IrLastsSaid : Prop := irLastsRow.holds Try.pinned (OpenSpec.ofChange irLastsSpec)

/-- ITS FALSE NEIGHBOUR: 'it returns false'. Refute it at one input. -/
def irLastsWrong : ChangeSpec := { name := "irLasts", fn := fun _ => fun
  | [d1, d2, d3] => { results := [.lit (.bool false)], args := [d1, d2, d3] }
  | _ => none }
def IrLastsWrongFalsely : Prop := irLastsRow.holds Try.pinned (OpenSpec.ofChange irLastsWrong)

/-- 'refinerylaw03.IrInstrs': WHATEVER THE INPUT: true; the input reads as it did. -/
def irInstrsSpec : ChangeSpec := { name := "irInstrs", fn := fun _ => fun
  | [d1, d2, d3, d4] => { results := [.lit (.bool true)], args := [d1, d2, d3, d4] }
  | _ => none }
def irInstrsRow : OpenClaim := { program := "ytfknooeebmdfoaa", sum := "3e75d5cee5b6068156af4ea9e47a6d423e1d324371f81a3f85e488193a1ffc15", func := "refinery/refinerylaw03.IrInstrs", spec := "irInstrs", unfollowed := true, recurses := true, apart := false }
def IrInstrsSaid : Prop := irInstrsRow.holds Try.pinned (OpenSpec.ofChange irInstrsSpec)

/-- ITS FALSE NEIGHBOUR: 'it returns false'. Refute it at one input. -/
def irInstrsWrong : ChangeSpec := { name := "irInstrs", fn := fun _ => fun
  | [d1, d2, d3, d4] => { results := [.lit (.bool false)], args := [d1, d2, d3, d4] }
  | _ => none }
def IrInstrsWrongFalsely : Prop := irInstrsRow.holds Try.pinned (OpenSpec.ofChange irInstrsWrong)

/-- 'refinerylaw03.IrCounts': WHATEVER THE INPUT: true; the input reads as it did. -/
def irCountsSpec : ChangeSpec := { name := "irCounts", fn := fun _ => fun
  | [d1, d2, d3] => { results := [.lit (.bool true)], args := [d1, d2, d3] }
  | _ => none }
def irCountsRow : OpenClaim := { program := "ytfknooeebmdfoaa", sum := "3e75d5cee5b6068156af4ea9e47a6d423e1d324371f81a3f85e488193a1ffc15", func := "refinery/refinerylaw03.IrCounts", spec := "irCounts", unfollowed := true, recurses := true, apart := false }
def IrCountsSaid : Prop := irCountsRow.holds Try.pinned (OpenSpec.ofChange irCountsSpec)

/-- ITS FALSE NEIGHBOUR: 'it returns false'. Refute it at one input. -/
def irCountsWrong : ChangeSpec := { name := "irCounts", fn := fun _ => fun
  | [d1, d2, d3] => { results := [.lit (.bool false)], args := [d1, d2, d3] }
  | _ => none }
def IrCountsWrongFalsely : Prop := irCountsRow.holds Try.pinned (OpenSpec.ofChange irCountsWrong)

/-- 'refinerylaw03.IrPrograms': WHATEVER THE INPUT: true; the input reads as it did. -/
def irProgramsSpec : ChangeSpec := { name := "irPrograms", fn := fun _ => fun
  | [d1, d2, d3] => { results := [.lit (.bool true)], args := [d1, d2, d3] }
  | _ => none }
def irProgramsRow : OpenClaim := { program := "ytfknooeebmdfoaa", sum := "3e75d5cee5b6068156af4ea9e47a6d423e1d324371f81a3f85e488193a1ffc15", func := "refinery/refinerylaw03.IrPrograms", spec := "irPrograms", unfollowed := true, recurses := true, apart := false }
def IrProgramsSaid : Prop := irProgramsRow.holds Try.pinned (OpenSpec.ofChange irProgramsSpec)

/-- ITS FALSE NEIGHBOUR: 'it returns false'. Refute it at one input. -/
def irProgramsWrong : ChangeSpec := { name := "irPrograms", fn := fun _ => fun
  | [d1, d2, d3] => { results := [.lit (.bool false)], args := [d1, d2, d3] }
  | _ => none }
def IrProgramsWrongFalsely : Prop := irProgramsRow.holds Try.pinned (OpenSpec.ofChange irProgramsWrong)

/- THE SECOND FORM. 'bulk': how many values and letters a reading holds, each counted each time it is reached (what is shared counts as often as it is met; a slice's spare places count too). A statement '..UptoSaid' is the law's where the arguments, and the package variables that the reading takes, are together of bulk at most 1048576: NARROWER than '..Said'. Prove '..Said' where nothing that the law and all that it calls make is longer than what came in: it says more and counts as full. Else prove '..UptoSaid'. A law counts once. -/
mutual
def uptoBulk {H : Type} : DataW H → Nat
  | .lit (.string bytes) => bytes.length + 1
  | .lit _ => 1
  | .nil => 1
  | .ptr d => uptoBulk d + 1
  | .slice elems spare => uptoBulkAll elems + uptoBulkAll spare + 1
  | .agg parts => uptoBulkAll parts + 1
  | .iface _ d => uptoBulk d + 1
  | .map entries => uptoBulkEntries entries + 1
  | .held _ => 1
def uptoBulkAll {H : Type} : List (DataW H) → Nat
  | [] => 0
  | d :: r => uptoBulk d + uptoBulkAll r
def uptoBulkEntries {H : Type} : List (Lit × DataW H) → Nat
  | [] => 0
  | x :: r => uptoBulkEntry x + uptoBulkEntries r
def uptoBulkEntry {H : Type} : Lit × DataW H → Nat
  | (.string bytes, d) => bytes.length + uptoBulk d + 1
  | (_, d) => uptoBulk d + 1
 end
def uptoSmall : (H : Type) → List (DataW H) → Bool := fun _ ds => decide (uptoBulkAll ds ≤ 1048576)
def OpenSpec.upto (s : _root_.Go.ChangeSpec) : _root_.Go.OpenSpec := { _root_.Go.OpenSpec.ofChange s with cond := some uptoSmall }

/-- 'refinerylaw22.LeaveRows', WHERE WHAT IT READS IS OF BULK AT MOST 1048576: true; the input reads as it did. -/
def leaveRowsUptoRow : OpenClaim := { program := "ytfknooeebmdfoaa", sum := "3e75d5cee5b6068156af4ea9e47a6d423e1d324371f81a3f85e488193a1ffc15", func := "refinery/refinerylaw22.LeaveRows", spec := "leaveRows", unfollowed := true, recurses := true, apart := false, narrowed := true }
def LeaveRowsUptoSaid : Prop := leaveRowsUptoRow.holds Try.pinned (OpenSpec.upto leaveRowsSpec)

/-- 'refinerylaw22.LeaveLine', WHERE WHAT IT READS IS OF BULK AT MOST 1048576: true; the input reads as it did. -/
def leaveLineUptoRow : OpenClaim := { program := "ytfknooeebmdfoaa", sum := "3e75d5cee5b6068156af4ea9e47a6d423e1d324371f81a3f85e488193a1ffc15", func := "refinery/refinerylaw22.LeaveLine", spec := "leaveLine", unfollowed := true, recurses := true, apart := false, narrowed := true }
def LeaveLineUptoSaid : Prop := leaveLineUptoRow.holds Try.pinned (OpenSpec.upto leaveLineSpec)

/-- 'refinerylaw03.IrChecks', WHERE WHAT IT READS IS OF BULK AT MOST 1048576: true; the input reads as it did. -/
def irChecksUptoRow : OpenClaim := { program := "ytfknooeebmdfoaa", sum := "3e75d5cee5b6068156af4ea9e47a6d423e1d324371f81a3f85e488193a1ffc15", func := "refinery/refinerylaw03.IrChecks", spec := "irChecks", unfollowed := true, recurses := true, apart := false, narrowed := true }
def IrChecksUptoSaid : Prop := irChecksUptoRow.holds Try.pinned (OpenSpec.upto irChecksSpec)

/-- 'refinerylaw03.IrOnly', WHERE WHAT IT READS IS OF BULK AT MOST 1048576: true; the input reads as it did. -/
def irOnlyUptoRow : OpenClaim := { program := "ytfknooeebmdfoaa", sum := "3e75d5cee5b6068156af4ea9e47a6d423e1d324371f81a3f85e488193a1ffc15", func := "refinery/refinerylaw03.IrOnly", spec := "irOnly", unfollowed := true, recurses := true, apart := false, narrowed := true }
def IrOnlyUptoSaid : Prop := irOnlyUptoRow.holds Try.pinned (OpenSpec.upto irOnlySpec)

/-- 'refinerylaw03.IrLasts', WHERE WHAT IT READS IS OF BULK AT MOST 1048576: true; the input reads as it did. -/
def irLastsUptoRow : OpenClaim := { program := "ytfknooeebmdfoaa", sum := "3e75d5cee5b6068156af4ea9e47a6d423e1d324371f81a3f85e488193a1ffc15", func := "refinery/refinerylaw03.IrLasts", spec := "irLasts", apart := false, narrowed := true }
def IrLastsUptoSaid : Prop := irLastsUptoRow.holds Try.pinned (OpenSpec.upto irLastsSpec)

/-- 'refinerylaw03.IrInstrs', WHERE WHAT IT READS IS OF BULK AT MOST 1048576: true; the input reads as it did. -/
def irInstrsUptoRow : OpenClaim := { program := "ytfknooeebmdfoaa", sum := "3e75d5cee5b6068156af4ea9e47a6d423e1d324371f81a3f85e488193a1ffc15", func := "refinery/refinerylaw03.IrInstrs", spec := "irInstrs", unfollowed := true, recurses := true, apart := false, narrowed := true }
def IrInstrsUptoSaid : Prop := irInstrsUptoRow.holds Try.pinned (OpenSpec.upto irInstrsSpec)

/-- 'refinerylaw03.IrCounts', WHERE WHAT IT READS IS OF BULK AT MOST 1048576: true; the input reads as it did. -/
def irCountsUptoRow : OpenClaim := { program := "ytfknooeebmdfoaa", sum := "3e75d5cee5b6068156af4ea9e47a6d423e1d324371f81a3f85e488193a1ffc15", func := "refinery/refinerylaw03.IrCounts", spec := "irCounts", unfollowed := true, recurses := true, apart := false, narrowed := true }
def IrCountsUptoSaid : Prop := irCountsUptoRow.holds Try.pinned (OpenSpec.upto irCountsSpec)

/-- 'refinerylaw03.IrPrograms', WHERE WHAT IT READS IS OF BULK AT MOST 1048576: true; the input reads as it did. -/
def irProgramsUptoRow : OpenClaim := { program := "ytfknooeebmdfoaa", sum := "3e75d5cee5b6068156af4ea9e47a6d423e1d324371f81a3f85e488193a1ffc15", func := "refinery/refinerylaw03.IrPrograms", spec := "irPrograms", unfollowed := true, recurses := true, apart := false, narrowed := true }
def IrProgramsUptoSaid : Prop := irProgramsUptoRow.holds Try.pinned (OpenSpec.upto irProgramsSpec)

end Rows
end Go.Proofs.Ytfknooeebmdfoaa
