/-
  The parser, plainly.
-/
import Derived.Test.YtdjfndijbnpkpaaDoorIr5
import Derived.Test.YtdjfndijbnpkpaaDoorLx0
set_option linter.unusedVariables false
set_option linter.unusedSimpArgs false
set_option linter.unusedSectionVars false
namespace Go.Proofs.YtdjfndijbnpkpaaDoor.Sh
open Go Go.AM Go.Proofs Go.AM.Lx
structure PS where
 rest : List Tok
 at_ : Nat
 err : Int
namespace PS
def hd (s : PS) : Tok := match s.rest with | [] => endT 0 | t :: _ => t
def adv (s : PS) : PS := { s with rest := s.rest.tail }
def fail (e : Int) (s : PS) : PS := if s.err = 0 then { s with at_ := s.hd.at_, err := e } else s
def is (k : Int) (x : List UInt8) (s : PS) : Bool := decide (s.err = 0) && (decide (s.hd.kind = k) && (decide (x = []) || decide (s.hd.text = x)))
def take (k : Int) (x : List UInt8) (s : PS) : Tok × PS := if s.is k x then (s.hd, if k ≠ 0 then s.adv else s) else (endT 0, s.fail 5)
def lines (s : PS) : PS := if s.err = 0 then { s with rest := s.rest.dropWhile fun t => decide (t.kind = 7) } else s
def below (k : Int) (most : Int) (s : PS) : Int × PS :=
 let s2 := ((if s.is k [] && decide (most ≤ s.hd.n) then s.fail 2 else s).take k []).2
 (if s2.err = 0 then s.hd.n else 0, s2)
def reg (s : PS) : Int × PS := s.below 2 100000
def label (s : PS) : Int × PS := s.below 3 100000
def slot (s : PS) : Int × PS := s.below 4 16
def word (s : PS) : List UInt8 := if s.is 1 [] then s.hd.text else []
def sign (c : UInt8) (s : PS) : PS := (s.take 6 [c]).2
def eol (s : PS) : PS := (s.take 7 []).2
end PS
def wJump : List UInt8 := [106, 117, 109, 112]
def wBr : List UInt8 := [98, 114]
def wRet : List UInt8 := [114, 101, 116]
def wTrap : List UInt8 := [116, 114, 97, 112]
def wOut : List UInt8 := [111, 117, 116]
def wStore : List UInt8 := [115, 116, 111, 114, 101]
def wPut : List UInt8 := [112, 117, 116]
def wIn : List UInt8 := [105, 110]
def wLoad : List UInt8 := [108, 111, 97, 100]
def wGet : List UInt8 := [103, 101, 116]
def findFrom (w : List UInt8) : List (List UInt8) → Nat → Option Nat
 | [], _ => none
 | n :: l, i => if n = w then some i else findFrom w l (i + 1)
def findOp (w : List UInt8) : Option Nat := findFrom w opNames 0
namespace PS
def last (s : PS) : (Last × Bool) × PS :=
 if s.word = wJump then ((⟨0, 0, s.adv.label.1, 0⟩, true), s.adv.label.2)
 else if s.word = wBr then
  let a := s.adv.reg
  let y := (a.2.sign 44).label
  let n := (y.2.sign 44).label
  ((⟨1, a.1, y.1, n.1⟩, true), n.2)
 else if s.word = wRet then ((⟨2, s.adv.reg.1, 0, 0⟩, true), s.adv.reg.2)
 else if s.word = wTrap then ((⟨3, 0, 0, 0⟩, true), s.adv)
 else ((⟨0, 0, 0, 0⟩, false), s)
def right (s : PS) : Instr × PS :=
 if s.is 5 [] then (⟨0, 0, 0, 0, 0, s.hd.n, 0⟩, s.adv)
 else if s.is 2 [] then (⟨1, 0, 0, s.reg.1, 0, 0, 0⟩, s.reg.2)
 else match findOp s.word with
  | some op =>
    let a := s.adv.reg
    let b := (a.2.sign 44).reg
    (⟨2, op, 0, a.1, b.1, 0, 0⟩, b.2)
  | none =>
    if s.word = wIn then (⟨3, 0, 0, 0, 0, 0, 0⟩, s.adv)
    else if s.word = wLoad then (⟨5, 0, 0, 0, 0, 0, s.adv.slot.1⟩, s.adv.slot.2)
    else if s.word = wGet then (⟨7, 0, 0, s.adv.reg.1, 0, 0, 0⟩, s.adv.reg.2)
    else (⟨0, 0, 0, 0, 0, 0, 0⟩, s.fail 5)
def instr (s : PS) : Instr × PS :=
 if s.word = wOut then (⟨4, 0, 0, s.adv.reg.1, 0, 0, 0⟩, s.adv.reg.2)
 else if s.word = wStore then
  let t := s.adv.slot
  let a := (t.2.sign 44).reg
  (⟨6, 0, 0, a.1, 0, 0, t.1⟩, a.2)
 else if s.word = wPut then
  let a := s.adv.reg
  let b := (a.2.sign 44).reg
  (⟨8, 0, 0, a.1, b.1, 0, 0⟩, b.2)
 else
  let d := s.reg
  let x := (d.2.sign 61).right
  (if x.2.err = 0 then { x.1 with dst := d.1 } else ⟨0, 0, 0, 0, 0, 0, 0⟩, x.2)
def bloop : Nat → PS → List Instr → Option (List Instr × Last × PS)
 | 0, _, _ => none
 | f + 1, s, l =>
   if s.err = 0 then
    if s.lines.last.1.2 then some (l, s.lines.last.1.1, s.lines.last.2)
    else bloop f s.lines.last.2.instr.2.eol (l ++ [s.lines.last.2.instr.1])
   else some (l, ⟨0, 0, 0, 0⟩, s)
def block (f : Nat) (s : PS) : Option (Block × PS) :=
 match bloop f (s.label.2.sign 58).eol [] with
 | some (l, e, s') => some (⟨s.label.1, [], l, e⟩, if s'.is 0 [] then s' else s'.eol)
 | none => none
def progL : Nat → PS → Prog → Option (Prog × PS)
 | 0, _, _ => none
 | f + 1, s, l =>
   if s.is 3 [] then
    match block f s with
    | some (b, s') => progL f s'.lines (l ++ [b])
    | none => none
   else some (l, (s.take 0 []).2)
def prog (f : Nat) (s : PS) : Option (Prog × PS) := progL f s.lines []
end PS
end Go.Proofs.YtdjfndijbnpkpaaDoor.Sh
namespace Go.Proofs.YtdjfndijbnpkpaaDoor.Sh.PS
open Go Go.AM Go.Proofs Go.AM.Lx
section
variable {t : Tok} {r : List Tok} {a : Nat}
theorem is_ok {k : Int} {x : List UInt8} (hk : t.kind = k) (hx : x = [] ∨ t.text = x) : is k x ⟨t :: r, a, 0⟩ = true := by
 unfold is hd
 rcases hx with h | h <;> simp [hk, h]
theorem is_no {k : Int} {x : List UInt8} (hk : t.kind ≠ k) : is k x ⟨t :: r, a, 0⟩ = false := by
 unfold is hd
 simp [hk]
theorem take_ok {k : Int} {x : List UInt8} (hk : t.kind = k) (hx : x = [] ∨ t.text = x) (h0 : k ≠ 0) : take k x ⟨t :: r, a, 0⟩ = (t, ⟨r, a, 0⟩) := by
 unfold take
 rw [is_ok hk hx]
 simp [h0, hd, adv]
theorem below_ok {k most : Int} (hk : t.kind = k) (h0 : k ≠ 0) (hn : t.n < most) : below k most ⟨t :: r, a, 0⟩ = (t.n, ⟨r, a, 0⟩) := by
 unfold below
 rw [is_ok hk (.inl rfl)]
 have : ¬ most ≤ t.n := by omega
 simp [hd, this, take_ok hk (.inl rfl) h0]
theorem reg_ok (hk : t.kind = 2) (hn : t.n < 100000) : reg ⟨t :: r, a, 0⟩ = (t.n, ⟨r, a, 0⟩) := below_ok hk (by decide) hn
theorem label_ok (hk : t.kind = 3) (hn : t.n < 100000) : label ⟨t :: r, a, 0⟩ = (t.n, ⟨r, a, 0⟩) := below_ok hk (by decide) hn
theorem slot_ok (hk : t.kind = 4) (hn : t.n < 16) : slot ⟨t :: r, a, 0⟩ = (t.n, ⟨r, a, 0⟩) := below_ok hk (by decide) hn
theorem sign_ok {c : UInt8} (hk : t.kind = 6) (hx : t.text = [c]) : sign c ⟨t :: r, a, 0⟩ = ⟨r, a, 0⟩ := by
 unfold sign
 rw [take_ok hk (.inr hx) (by decide)]
theorem eol_ok (hk : t.kind = 7) : eol ⟨t :: r, a, 0⟩ = ⟨r, a, 0⟩ := by
 unfold eol
 rw [take_ok hk (.inl rfl) (by decide)]
theorem word_ok (hk : t.kind = 1) : word ⟨t :: r, a, 0⟩ = t.text := by
 unfold word
 rw [is_ok hk (.inl rfl)]
 rfl
theorem word_no (hk : t.kind ≠ 1) : word ⟨t :: r, a, 0⟩ = [] := by
 unfold word
 rw [is_no hk]
 rfl
theorem adv_ok : adv ⟨t :: r, a, 0⟩ = ⟨r, a, 0⟩ := rfl
theorem lines_ok {ls : List Tok} (hl : ∀ x ∈ ls, x.kind = 7) (hk : t.kind ≠ 7) : lines ⟨ls ++ t :: r, a, 0⟩ = ⟨t :: r, a, 0⟩ := by
 unfold lines
 have : (ls ++ t :: r).dropWhile (fun t => decide (t.kind = 7)) = t :: r := by
  induction ls with
  | nil => simp [hk]
  | cons x ls ih =>
    rw [List.cons_append, List.dropWhile_cons, if_pos (by simp [hl x (List.mem_cons_self ..)])]
    exact ih fun y hy => hl y (List.mem_cons_of_mem _ hy)
 simp [this]
end
end Go.Proofs.YtdjfndijbnpkpaaDoor.Sh.PS
