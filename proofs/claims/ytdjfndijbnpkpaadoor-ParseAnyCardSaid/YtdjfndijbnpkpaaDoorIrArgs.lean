/-
  What the laws of layer 3 are given, opened.
-/
import Derived.Test.YtdjfndijbnpkpaaDoorIr6
import Derived.Test.YtdjfndijbnpkpaaDoorAmC
set_option linter.unusedVariables false
set_option linter.unusedSimpArgs false
set_option linter.unusedSectionVars false
set_option maxRecDepth 100000
namespace Go.Proofs.YtdjfndijbnpkpaaDoor.Sh
open Go Go.AM Go.Proofs
theorem list7 {α : Type} {l : List α} (h : l.length = 7) : ∃ a b c d e f g, l = [a, b, c, d, e, f, g] := match l, h with | [a, b, c, d, e, f, g], _ => ⟨a, b, c, d, e, f, g, rfl⟩
theorem list5 {α : Type} {l : List α} (h : l.length = 5) : ∃ a b c d e, l = [a, b, c, d, e] := match l, h with | [a, b, c, d, e], _ => ⟨a, b, c, d, e, rfl⟩
theorem list3 {α : Type} {l : List α} (h : l.length = 3) : ∃ a b c, l = [a, b, c] := match l, h with | [a, b, c], _ => ⟨a, b, c, rfl⟩
theorem one5 : pg.cellsOf 5 = 1 := by kernel_rfl
theorem one4 : pg.cellsOf 4 = 1 := by kernel_rfl
structure Line where
 kind : Int
 op : Int
 dst : Int
 a : Int
 b : Int
 slot : Int
 n : Int
def cLine (x : Line) : List Value := [U x.kind, U x.op, U x.dst, U x.a, U x.b, U x.slot, .int .i16 x.n]
structure Line.Ok (x : Line) : Prop where
 kind : 0 ≤ x.kind ∧ x.kind ≤ 255
 op : 0 ≤ x.op ∧ x.op ≤ 255
 dst : 0 ≤ x.dst ∧ x.dst ≤ 255
 a : 0 ≤ x.a ∧ x.a ≤ 255
 b : 0 ≤ x.b ∧ x.b ≤ 255
 slot : 0 ≤ x.slot ∧ x.slot ≤ 255
 n : -32768 ≤ x.n ∧ x.n ≤ 32767
def Line.instr (x : Line) (regs : Int) : Instr := Instr.only ⟨x.kind % 9, x.op % 12, x.dst % regs, x.a % regs, x.b % regs, x.n, x.slot % 3⟩
theorem cells_Line : pg.cellsOf 44 = 7 := by kernel_rfl
theorem one16 : pg.cellsOf 42 = 1 := by kernel_rfl
theorem wt_Line {st : St} {cs : List Value} (h : WT pg st 44 cs) : ∃ x : Line, cs = cLine x ∧ x.Ok := by
 obtain ⟨hl, hf⟩ := h.getStruct Tryd.underlying44
 rw [cells_Line] at hl
 obtain ⟨a, b, c, d, e, f, g, rfl⟩ := list7 hl
 simp only [List.forall_mem_cons] at hf
 obtain ⟨h1, h2, h3, h4, h5, h6, h7, _⟩ := hf
 obtain ⟨x1, rfl, w1⟩ := fld Tryd.underlying5 one5 h1 rfl
 obtain ⟨x2, rfl, w2⟩ := fld Tryd.underlying5 one5 h2 rfl
 obtain ⟨x3, rfl, w3⟩ := fld Tryd.underlying5 one5 h3 rfl
 obtain ⟨x4, rfl, w4⟩ := fld Tryd.underlying5 one5 h4 rfl
 obtain ⟨x5, rfl, w5⟩ := fld Tryd.underlying5 one5 h5 rfl
 obtain ⟨x6, rfl, w6⟩ := fld Tryd.underlying5 one5 h6 rfl
 obtain ⟨x7, rfl, w7⟩ := fld Tryd.underlying42 one16 h7 rfl
 exact ⟨⟨x1, x2, x3, x4, x5, x6, x7⟩, rfl, ⟨bounds_u8 w1, bounds_u8 w2, bounds_u8 w3, bounds_u8 w4, bounds_u8 w5, bounds_u8 w6, bounds_i16 w7⟩⟩
end Go.Proofs.YtdjfndijbnpkpaaDoor.Sh
