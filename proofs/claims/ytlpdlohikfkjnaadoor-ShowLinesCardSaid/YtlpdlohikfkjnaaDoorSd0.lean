/-
  What show prints, plainly.
-/
import Derived.Lib.ItoaNum
set_option linter.unusedVariables false
set_option linter.unusedSimpArgs false
set_option linter.unusedSectionVars false
namespace Go.Proofs
open Go.Lib
inductive It where
 | s (t : List UInt8)
 | i (n : Int)
 | l (n : Int)
def It.b : It → List UInt8
 | .s t => t
 | .i n => itoa n
 | .l n => itoa n
def itB (l : List It) : List UInt8 := l.flatMap It.b
def lastIt (k a y n : Int) : List It :=
 if k = 0 then [.s [106, 117, 109, 112, 32, 64], .i y] else if k = 1 then [.s [98, 114, 32, 37], .i a, .s [44, 32, 64], .i y, .s [44, 32, 64], .i n] else if k = 2 then [.s [114, 101, 116, 32, 37], .i a] else [.s [116, 114, 97, 112]]
def namesL : List (List UInt8) := [[97, 100, 100], [115, 117, 98], [109, 117, 108], [100, 105, 118], [114, 101, 109], [97, 110, 100], [111, 114], [120, 111, 114], [115, 104, 108], [115, 104, 114], [101, 113], [108, 116]]
structure In where
 (k c d a b n s : Int)
structure La where
 (k a y n : Int)
structure Bl where
 label : Int
 ins : List In
 last : La
def setIt (d : Int) : List It := [.s [37], .i d, .s [32, 61, 32]]
def In.its (x : In) : List It :=
 if x.k = 0 then setIt x.d ++ [.l x.n] else if x.k = 1 then setIt x.d ++ [.s [37], .i x.a]
 else if x.k = 2 then setIt x.d ++ [.s (namesL.getD x.c.toNat []), .s [32, 37], .i x.a, .s [44, 32, 37], .i x.b]
 else if x.k = 3 then setIt x.d ++ [.s [105, 110]] else if x.k = 4 then [.s [111, 117, 116, 32, 37], .i x.a]
 else if x.k = 5 then setIt x.d ++ [.s [108, 111, 97, 100, 32, 36], .i x.s] else if x.k = 6 then [.s [115, 116, 111, 114, 101, 32, 36], .i x.s, .s [44, 32, 37], .i x.a]
 else if x.k = 7 then setIt x.d ++ [.s [103, 101, 116, 32, 37], .i x.a] else [.s [112, 117, 116, 32, 37], .i x.a, .s [44, 32, 37], .i x.b]
def In.txt (x : In) : List UInt8 := itB x.its
def La.txt (l : La) : List UInt8 := itB (lastIt l.k l.a l.y l.n)
def insT (l : List In) : List UInt8 := l.flatMap fun x => itB [.s [32, 32], .s x.txt, .s [10]]
def Bl.txt (b : Bl) : List UInt8 := itB [.s [64], .i b.label, .s [58, 10]] ++ insT b.ins ++ itB [.s [32, 32], .s b.last.txt, .s [10]]
def progT (bs : List Bl) : List UInt8 := bs.flatMap Bl.txt
abbrev Fit (n : Int) : Prop := -9223372036854775808 ≤ n ∧ n ≤ 9223372036854775807
structure In.Ok (x : In) : Prop where
 k : 0 ≤ x.k ∧ x.k < 9
 c : 0 ≤ x.c ∧ x.c < 12
 d : Fit x.d
 a : Fit x.a
 b : Fit x.b
 n : Fit x.n
 s : Fit x.s
instance (x : In) : Decidable x.Ok := decidable_of_iff ((0 ≤ x.k ∧ x.k < 9) ∧ (0 ≤ x.c ∧ x.c < 12) ∧ Fit x.d ∧ Fit x.a ∧ Fit x.b ∧ Fit x.n ∧ Fit x.s) ⟨fun ⟨a, b, c, d, e, f, g⟩ => ⟨a, b, c, d, e, f, g⟩, fun ⟨a, b, c, d, e, f, g⟩ => ⟨a, b, c, d, e, f, g⟩⟩
structure La.Ok (l : La) : Prop where
 k : 0 ≤ l.k ∧ l.k < 4
 a : Fit l.a
 y : Fit l.y
 n : Fit l.n
instance (l : La) : Decidable l.Ok := decidable_of_iff ((0 ≤ l.k ∧ l.k < 4) ∧ Fit l.a ∧ Fit l.y ∧ Fit l.n) ⟨fun ⟨a, b, c, d⟩ => ⟨a, b, c, d⟩, fun ⟨a, b, c, d⟩ => ⟨a, b, c, d⟩⟩
structure Bl.Ok (b : Bl) : Prop where
 label : Fit b.label
 ins : ∀ x ∈ b.ins, x.Ok
 last : b.last.Ok
 len : b.ins.length ≤ 1000000
instance (b : Bl) : Decidable b.Ok := decidable_of_iff (Fit b.label ∧ (∀ x ∈ b.ins, x.Ok) ∧ b.last.Ok ∧ b.ins.length ≤ 1000000) ⟨fun ⟨a, b, c, d⟩ => ⟨a, b, c, d⟩, fun ⟨a, b, c, d⟩ => ⟨a, b, c, d⟩⟩
def ProgOk (bs : List Bl) : Prop := bs ≠ [] ∧ bs.length ≤ 1000000 ∧ (∀ b ∈ bs, b.Ok) ∧ (progT bs).length ≤ 1000000000
instance (bs : List Bl) : Decidable (ProgOk bs) := by unfold ProgOk; exact inferInstanceAs (Decidable (_ ∧ _ ∧ _ ∧ _))
end Go.Proofs
