/-
 The parser, plainly.
 The reader's functions: fail, is, take, lines, below, word, Find.
 The reader's functions: lines, below, word, Find.
 The reader's functions: last, right, instr.
 The reader's functions: right, instr.
 The reader's functions: block, program.
 Parse.
 Chapter 5's own functions: number, reg.
 Plain programs of one block, read; Awake of chapter 5.
-/
import Derived.Test.YtlpdlohikfkjnaaDoorIrX
import Derived.Test.YtlpdlohikfkjnaaDoorLx0
import Derived.Test.YtlpdlohikfkjnaaDoorLxY
section
set_option linter.unusedVariables false
set_option linter.unusedSimpArgs false
set_option linter.unusedSectionVars false
namespace Go.Proofs.YtlpdlohikfkjnaaDoor.Sh
open Go Go.AM Go.Proofs Go.AM.Lx
structure PS where
 rest : List Tok
 at_ : Nat
 err : Int
namespace PS
def hd (s : PS) : Tok := match s.rest with | [] => endT 0 | t :: _ => t
def adv (s : PS) : PS := { s with rest := s.rest.tail }
def fail (e : Int) (s : PS) : PS := if s.err = 0 then { s with at_ := s.hd.at_, err := e } else s
def is (k : Int) (x : List UInt8) (s : PS) : Bool := decide (s.err = 0) && (decide (s.hd.kind = k) && (decide (x = []) || decide (s.hd.text = x)))
def take (k : Int) (x : List UInt8) (s : PS) : Tok × PS := if s.is k x then (s.hd, if k ≠ 0 then s.adv else s) else (endT 0, s.fail 5)
def lines (s : PS) : PS := if s.err = 0 then { s with rest := s.rest.dropWhile fun t => decide (t.kind = 7) } else s
def below (k : Int) (most : Int) (s : PS) : Int × PS :=
 let s2 := ((if s.is k [] && decide (most ≤ s.hd.n) then s.fail 2 else s).take k []).2
 (if s2.err = 0 then s.hd.n else 0, s2)
def reg (s : PS) : Int × PS := s.below 2 100000
def label (s : PS) : Int × PS := s.below 3 100000
def slot (s : PS) : Int × PS := s.below 4 16
def word (s : PS) : List UInt8 := if s.is 1 [] then s.hd.text else []
def sign (c : UInt8) (s : PS) : PS := (s.take 6 [c]).2
def eol (s : PS) : PS := (s.take 7 []).2
end PS
def wJump : List UInt8 := [106, 117, 109, 112]
def wBr : List UInt8 := [98, 114]
def wRet : List UInt8 := [114, 101, 116]
def wTrap : List UInt8 := [116, 114, 97, 112]
def wOut : List UInt8 := [111, 117, 116]
def wStore : List UInt8 := [115, 116, 111, 114, 101]
def wPut : List UInt8 := [112, 117, 116]
def wIn : List UInt8 := [105, 110]
def wLoad : List UInt8 := [108, 111, 97, 100]
def wGet : List UInt8 := [103, 101, 116]
def findFrom (w : List UInt8) : List (List UInt8) → Nat → Option Nat
 | [], _ => none
 | n :: l, i => if n = w then some i else findFrom w l (i + 1)
def findOp (w : List UInt8) : Option Nat := findFrom w opNames 0
namespace PS
def last (s : PS) : (Last × Bool) × PS :=
 if s.word = wJump then ((⟨0, 0, s.adv.label.1, 0⟩, true), s.adv.label.2)
 else if s.word = wBr then
  let a := s.adv.reg
  let y := (a.2.sign 44).label
  let n := (y.2.sign 44).label
  ((⟨1, a.1, y.1, n.1⟩, true), n.2)
 else if s.word = wRet then ((⟨2, s.adv.reg.1, 0, 0⟩, true), s.adv.reg.2)
 else if s.word = wTrap then ((⟨3, 0, 0, 0⟩, true), s.adv)
 else ((⟨0, 0, 0, 0⟩, false), s)
def right (s : PS) : Instr × PS :=
 if s.is 5 [] then (⟨0, 0, 0, 0, 0, s.hd.n, 0⟩, s.adv)
 else if s.is 2 [] then (⟨1, 0, 0, s.reg.1, 0, 0, 0⟩, s.reg.2)
 else match findOp s.word with
  | some op =>
    let a := s.adv.reg
    let b := (a.2.sign 44).reg
    (⟨2, op, 0, a.1, b.1, 0, 0⟩, b.2)
  | none =>
    if s.word = wIn then (⟨3, 0, 0, 0, 0, 0, 0⟩, s.adv)
    else if s.word = wLoad then (⟨5, 0, 0, 0, 0, 0, s.adv.slot.1⟩, s.adv.slot.2)
    else if s.word = wGet then (⟨7, 0, 0, s.adv.reg.1, 0, 0, 0⟩, s.adv.reg.2)
    else (⟨0, 0, 0, 0, 0, 0, 0⟩, s.fail 5)
def instr (s : PS) : Instr × PS :=
 if s.word = wOut then (⟨4, 0, 0, s.adv.reg.1, 0, 0, 0⟩, s.adv.reg.2)
 else if s.word = wStore then
  let t := s.adv.slot
  let a := (t.2.sign 44).reg
  (⟨6, 0, 0, a.1, 0, 0, t.1⟩, a.2)
 else if s.word = wPut then
  let a := s.adv.reg
  let b := (a.2.sign 44).reg
  (⟨8, 0, 0, a.1, b.1, 0, 0⟩, b.2)
 else
  let d := s.reg
  let x := (d.2.sign 61).right
  (if x.2.err = 0 then { x.1 with dst := d.1 } else ⟨0, 0, 0, 0, 0, 0, 0⟩, x.2)
def bloop : Nat → PS → List Instr → Option (List Instr × Last × PS)
 | 0, _, _ => none
 | f + 1, s, l =>
   if s.err = 0 then
    if s.lines.last.1.2 then some (l, s.lines.last.1.1, s.lines.last.2)
    else bloop f s.lines.last.2.instr.2.eol (l ++ [s.lines.last.2.instr.1])
   else some (l, ⟨0, 0, 0, 0⟩, s)
def block (f : Nat) (s : PS) : Option (Block × PS) :=
 match bloop f (s.label.2.sign 58).eol [] with
 | some (l, e, s') => some (⟨s.label.1, [], l, e⟩, if s'.is 0 [] then s' else s'.eol)
 | none => none
def progL : Nat → PS → Prog → Option (Prog × PS)
 | 0, _, _ => none
 | f + 1, s, l =>
   if s.is 3 [] then
    match block f s with
    | some (b, s') => progL f s'.lines (l ++ [b])
    | none => none
   else some (l, (s.take 0 []).2)
def prog (f : Nat) (s : PS) : Option (Prog × PS) := progL f s.lines []
end PS
end Go.Proofs.YtlpdlohikfkjnaaDoor.Sh
namespace Go.Proofs.YtlpdlohikfkjnaaDoor.Sh.PS
open Go Go.AM Go.Proofs Go.AM.Lx
section
variable {t : Tok} {r : List Tok} {a : Nat}
theorem is_ok {k : Int} {x : List UInt8} (hk : t.kind = k) (hx : x = [] ∨ t.text = x) : is k x ⟨t :: r, a, 0⟩ = true := by
 unfold is hd
 rcases hx with h | h <;> simp [hk, h]
theorem is_no {k : Int} {x : List UInt8} (hk : t.kind ≠ k) : is k x ⟨t :: r, a, 0⟩ = false := by
 unfold is hd
 simp [hk]
theorem take_ok {k : Int} {x : List UInt8} (hk : t.kind = k) (hx : x = [] ∨ t.text = x) (h0 : k ≠ 0) : take k x ⟨t :: r, a, 0⟩ = (t, ⟨r, a, 0⟩) := by
 unfold take
 rw [is_ok hk hx]
 simp [h0, hd, adv]
theorem below_ok {k most : Int} (hk : t.kind = k) (h0 : k ≠ 0) (hn : t.n < most) : below k most ⟨t :: r, a, 0⟩ = (t.n, ⟨r, a, 0⟩) := by
 unfold below
 rw [is_ok hk (.inl rfl)]
 have : ¬ most ≤ t.n := by omega
 simp [hd, this, take_ok hk (.inl rfl) h0]
theorem reg_ok (hk : t.kind = 2) (hn : t.n < 100000) : reg ⟨t :: r, a, 0⟩ = (t.n, ⟨r, a, 0⟩) := below_ok hk (by decide) hn
theorem label_ok (hk : t.kind = 3) (hn : t.n < 100000) : label ⟨t :: r, a, 0⟩ = (t.n, ⟨r, a, 0⟩) := below_ok hk (by decide) hn
theorem slot_ok (hk : t.kind = 4) (hn : t.n < 16) : slot ⟨t :: r, a, 0⟩ = (t.n, ⟨r, a, 0⟩) := below_ok hk (by decide) hn
theorem sign_ok {c : UInt8} (hk : t.kind = 6) (hx : t.text = [c]) : sign c ⟨t :: r, a, 0⟩ = ⟨r, a, 0⟩ := by
 unfold sign
 rw [take_ok hk (.inr hx) (by decide)]
theorem word_ok (hk : t.kind = 1) : word ⟨t :: r, a, 0⟩ = t.text := by
 unfold word
 rw [is_ok hk (.inl rfl)]
 rfl
theorem word_no (hk : t.kind ≠ 1) : word ⟨t :: r, a, 0⟩ = [] := by
 unfold word
 rw [is_no hk]
 rfl
theorem adv_ok : adv ⟨t :: r, a, 0⟩ = ⟨r, a, 0⟩ := rfl
end
end Go.Proofs.YtlpdlohikfkjnaaDoor.Sh.PS
end
section
set_option linter.unusedVariables false
set_option linter.unusedSimpArgs false
set_option linter.unusedSectionVars false
set_option maxRecDepth 100000
namespace Go.Proofs.YtlpdlohikfkjnaaDoor.Sh
open Go Go.AM Go.Proofs Go.AM.Lx
structure Keep (rb : Nat) (st st' : St) : Prop where
 next : st.next ≤ st'.next
 ro : st'.ro = st.ro
 get : ∀ id, id < st.next → id ≠ rb → st'.get id = st.get id
theorem Keep.refl (rb : Nat) (st : St) : Keep rb st st := ⟨Nat.le_refl _, rfl, fun _ _ _ => rfl⟩
theorem Keep.trans {rb : Nat} {a b c : St} (h : Keep rb a b) (k : Keep rb b c) : Keep rb a c :=
 ⟨Nat.le_trans h.next k.next, k.ro.trans h.ro, fun id hi hn => (k.get id (Nat.lt_of_lt_of_le hi h.next) hn).trans (h.get id hi hn)⟩
theorem _root_.Go.AM.Ext.keep {a b : St} (h : Ext a b) (rb : Nat) : Keep rb a b := ⟨h.next, h.ro, fun id hi _ => h.get id hi⟩
theorem Keep.put {rb : Nat} {a b : St} (h : Keep rb a b) (o : AObj) : Keep rb a (b.put rb o) := ⟨h.next, h.ro, fun id hi hn => by rw [get_put, if_neg hn]; exact h.get id hi hn⟩
theorem Keep.ext {rb : Nat} {st0 a b : St} (h : Keep rb a b) (h0 : st0.next ≤ rb) (h1 : st0.next ≤ a.next) : ∀ id, id < st0.next → b.get id = a.get id := fun id hi => h.get id (by omega) (by omega)
structure Toks (st0 : St) (rb : Nat) (vl : Value) (ts : List Tok) : Prop where
 at_ : ∀ (i : Nat) t, ts[i]? = some t → ∃ b o, b < st0.next ∧ b ≠ rb ∧ (∀ s : St, sIxA 4 none vl (I i) s = .ok (P b o, s)) ∧ ∀ s : St, Keep rb st0 s → s.loadN b o 4 = .ok (cTok t) ∧ ∀ k y, (cTok t)[k]? = some y → s.load1 b (o + k) = .ok y
 last : ∀ (i : Nat) t, ts[i]? = some t → (t.kind = 0 ↔ i + 1 = ts.length)
 small : ts.length ≤ 200000
 num : ∀ t ∈ ts, -9223372036854775808 ≤ t.n ∧ t.n ≤ 9223372036854775807
 lt : rb < st0.next
 ro : st0.ro ≤ rb
 cell : cellOk vl = true
 tup : isTuple vl = false
 vars : VOk st0
 old : ∀ p ∈ pvars, p.1 ≠ rb
structure RD (st0 st : St) (rb : Nat) (vl : Value) (ts : List Tok) (s : PS) : Prop where
 keep : Keep rb st0 st
 pos : ∃ i : Nat, st.get rb = some (.cells [vl, I i, I s.at_, I s.err]) ∧ s.rest = ts.drop i ∧ i < ts.length
section
variable {st0 st : St} {rb : Nat} {vl : Value} {ts : List Tok} {s : PS}
theorem RD.mono {st' : St} (h : RD st0 st rb vl ts s) (hT : Toks st0 rb vl ts) (hE : Ext st st') : RD st0 st' rb vl ts s :=
 ⟨h.keep.trans (hE.keep rb), by
   obtain ⟨i, h1, h2⟩ := h.pos
   exact ⟨i, by rw [hE.get _ (Nat.lt_of_lt_of_le hT.lt h.keep.next)]; exact h1, h2⟩⟩
theorem RD.vars (h : RD st0 st rb vl ts s) (hT : Toks st0 rb vl ts) : VOk st := ⟨Nat.le_trans hT.vars.next h.keep.next, by rw [h.keep.ro]; exact Nat.le_trans hT.vars.ro h.keep.next, fun p hp => by
 rw [h.keep.get _ (Nat.lt_of_lt_of_le (pvars_lt p hp) hT.vars.next) (hT.old p hp)]; exact hT.vars.vars p hp⟩
theorem RD.look (h : RD st0 st rb vl ts s) (hT : Toks st0 rb vl ts) : ∃ (i b o : Nat), st.get rb = some (.cells [vl, I i, I s.at_, I s.err]) ∧ st.load1 rb 0 = .ok vl ∧ st.load1 rb 1 = .ok (I i) ∧ st.load1 rb 2 = .ok (I s.at_) ∧ st.load1 rb 3 = .ok (I s.err) ∧
 (∀ s' : St, sIxA 4 none vl (I i) s' = .ok (P b o, s')) ∧ (∀ s', Keep rb st s' → s'.loadN b o 4 = .ok (cTok s.hd) ∧ ∀ k y, (cTok s.hd)[k]? = some y → s'.load1 b (o + k) = .ok y) ∧ ts[i]? = some s.hd ∧ s.rest = ts.drop i ∧ i < ts.length ∧ s.rest = s.hd :: ts.drop (i + 1) := by
 obtain ⟨i, h1, h2, h3⟩ := h.pos
 have hd : ts[i]? = some s.hd := by
  unfold PS.hd
  rw [h2, List.drop_eq_getElem_cons h3, List.getElem?_eq_getElem h3]
 obtain ⟨b, o, k1, k2, k3, k4⟩ := hT.at_ i _ hd
 refine ⟨i, b, o, h1, load1_eq h1 rfl, load1_eq h1 rfl, load1_eq h1 rfl, load1_eq h1 rfl, k3, fun s' hs => k4 s' (h.keep.trans hs), hd, h2, h3, ?_⟩
 have := List.getElem?_eq_some_iff.1 hd
 rw [h2, List.drop_eq_getElem_cons h3, this.2]
theorem RD.step (h : RD st0 st rb vl ts s) (hT : Toks st0 rb vl ts) {i : Nat} (hg : st.get rb = some (.cells [vl, I i, I s.at_, I s.err])) (hr : s.rest = ts.drop i) (hi : i < ts.length) (hk : s.hd.kind ≠ 0) (hd : ts[i]? = some s.hd) :
 IntKind.i64.wrap ((i : Int) + 1) = ((i + 1 : Nat) : Int) ∧ st.storeN rb 1 [I ((i + 1 : Nat) : Int)] = .ok (st.put rb (.cells [vl, I ((i + 1 : Nat) : Int), I s.at_, I s.err])) ∧ RD st0 (st.put rb (.cells [vl, I ((i + 1 : Nat) : Int), I s.at_, I s.err])) rb vl ts s.adv := by
 have hs := hT.small
 have hro : st.ro ≤ rb := by rw [h.keep.ro]; exact hT.ro
 have hl := hT.last i _ hd
 refine ⟨by rw [wrap_id (by omega)]; omega, by simp [hg, Res.need, hro], h.keep.put _, i + 1, by rw [get_put, if_pos rfl]; rfl, ?_, ?_⟩
 ·show s.rest.tail = _
  rw [hr, List.tail_drop]
 ·have : ¬ i + 1 = ts.length := fun e => hk (hl.2 e)
  omega
@[simp] theorem sNilc_P' (b o : Nat) (st : St) : sNilc (P b o) st = .ok (P b o, st) := rfl
end
variable {K : Ctx} (hF : Fix pgF K)
include hF
section
variable {st0 st : St} {rb : Nat} {vl : Value} {ts : List Tok} {s : PS}
end
end Go.Proofs.YtlpdlohikfkjnaaDoor.Sh
end
section
set_option linter.unusedVariables false
set_option linter.unusedSimpArgs false
set_option linter.unusedSectionVars false
set_option maxRecDepth 100000
namespace Go.Proofs.YtlpdlohikfkjnaaDoor.Sh
open Go Go.AM Go.Proofs Go.AM.Lx
section
variable {st0 st : St} {rb : Nat} {vl : Value} {ts : List Tok} {s : PS}
theorem RD.adv (h : RD st0 st rb vl ts s) (hT : Toks st0 rb vl ts) (hk : s.hd.kind ≠ 0) : ∃ (i : Nat) (st' : St), st.load1 rb 1 = .ok (I i) ∧ IntKind.i64.wrap ((i : Int) + 1) = ((i + 1 : Nat) : Int) ∧ st.storeN rb 1 [I ((i + 1 : Nat) : Int)] = .ok st' ∧ Keep rb st st' ∧ RD st0 st' rb vl ts s.adv ∧ st'.load1 rb 0 = .ok vl ∧ st'.load1 rb 1 = .ok (I ((i + 1 : Nat) : Int)) ∧ ts[i]? = some s.hd ∧ i < ts.length := by
 obtain ⟨i, b, o, hg, l0, l1, l2, l3, k1, k2, hd, hr, hi, _⟩ := h.look hT
 obtain ⟨w1, w2, w3⟩ := h.step hT hg hr hi hk hd
 exact ⟨i, _, l1, w1, w2, (Keep.refl rb st).put _, w3, load1_eq (xs := [vl, I ((i + 1 : Nat) : Int), I s.at_, I s.err]) (by rw [get_put, if_pos rfl]) rfl, load1_eq (xs := [vl, I ((i + 1 : Nat) : Int), I s.at_, I s.err]) (by rw [get_put, if_pos rfl]) rfl, hd, hi⟩
theorem RD.err (h : RD st0 st rb vl ts s) : st.load1 rb 3 = .ok (I s.err) := by
 obtain ⟨i, h1, _⟩ := h.pos
 exact load1_eq h1 rfl
theorem RD.cons (h : RD st0 st rb vl ts s) (hT : Toks st0 rb vl ts) : ∃ r, s.rest = s.hd :: r ∧ s.rest.length ≤ 200000 := by
 obtain ⟨i, b, o, hg, l0, l1, l2, l3, k1, k2, hd, hr, hi, hx⟩ := h.look hT
 have := hT.small
 exact ⟨_, hx, by rw [hr, List.length_drop]; omega⟩
end
variable {K : Ctx} (hF : Fix pgF K)
include hF
section
variable {st0 st : St} {rb : Nat} {vl : Value} {ts : List Tok} {s : PS}
end
end Go.Proofs.YtlpdlohikfkjnaaDoor.Sh
end
section
set_option linter.unusedVariables false
set_option linter.unusedSimpArgs false
set_option linter.unusedSectionVars false
set_option maxRecDepth 100000
namespace Go.Proofs.YtlpdlohikfkjnaaDoor.Sh
open Go Go.AM Go.Proofs Go.AM.Lx
section
variable (s : St)
end
variable {K : Ctx} (hF : Fix pgF K)
include hF
section
variable {st0 st : St} {rb : Nat} {vl : Value} {ts : List Tok} {s : PS}
end
end Go.Proofs.YtlpdlohikfkjnaaDoor.Sh
end
section
set_option linter.unusedVariables false
set_option linter.unusedSimpArgs false
set_option linter.unusedSectionVars false
set_option maxRecDepth 100000
namespace Go.Proofs.YtlpdlohikfkjnaaDoor.Sh
open Go Go.AM Go.Proofs Go.AM.Lx
variable {K : Ctx} (hF : Fix pgF K)
include hF
section
variable {st0 st : St} {rb : Nat} {vl : Value} {ts : List Tok} {s : PS}
end
end Go.Proofs.YtlpdlohikfkjnaaDoor.Sh
end
section
set_option linter.unusedVariables false
set_option linter.unusedSimpArgs false
set_option linter.unusedSectionVars false
set_option maxRecDepth 100000
namespace Go.Proofs.YtlpdlohikfkjnaaDoor.Sh
open Go Go.AM Go.Proofs Go.AM.Lx
variable {K : Ctx} (hF : Fix pgF K)
include hF
section
variable {st0 : St} {rb : Nat} {vl : Value} {ts : List Tok}
structure Mine (n0 : Nat) (st : St) (ids : List Nat) : Prop where
 nd : ids.Nodup
 at_ : ∀ id ∈ ids, n0 ≤ id ∧ id < st.next
structure KeepN (n0 rb : Nat) (st st' : St) : Prop where
 next : st.next ≤ st'.next
 ro : st'.ro = st.ro
 get : ∀ id, id < n0 → id ≠ rb → st'.get id = st.get id
omit hF in
theorem KeepN.trans {n0 rb : Nat} {a b c : St} (h : KeepN n0 rb a b) (k : KeepN n0 rb b c) : KeepN n0 rb a c := ⟨Nat.le_trans h.next k.next, k.ro.trans h.ro, fun id hi hx => (k.get id hi hx).trans (h.get id hi hx)⟩
omit hF in
theorem Keep.n {n0 rb : Nat} {a b : St} (h : Keep rb a b) (hn : n0 ≤ a.next) : KeepN n0 rb a b := ⟨h.next, h.ro, fun id hi hx => h.get id (Nat.lt_of_lt_of_le hi hn) hx⟩
omit hF in
theorem Mine.mono {n0 : Nat} {st st' : St} {ids : List Nat} (h : Mine n0 st ids) (hn : st.next ≤ st'.next) : Mine n0 st' ids := ⟨h.nd, fun id hi => ⟨(h.at_ id hi).1, Nat.lt_of_lt_of_le (h.at_ id hi).2 hn⟩⟩
omit hF in
theorem RD.frame {st st' : St} {s : PS} {n0 : Nat} (h : RD st0 st rb vl ts s) (hT : Toks st0 rb vl ts) (hn : st.next ≤ st'.next) (hro : st'.ro = st.ro) (h0 : st0.next ≤ n0) (hE : ∀ id, id < n0 → st'.get id = st.get id) : RD st0 st' rb vl ts s := by
 have hl := hT.lt
 refine ⟨⟨Nat.le_trans h.keep.next hn, hro.trans h.keep.ro, fun id hi hx => (hE id (by omega)).trans (h.keep.get id hi hx)⟩, ?_⟩
 obtain ⟨i, h1, h2⟩ := h.pos
 exact ⟨i, by rw [hE rb (by omega)]; exact h1, h2⟩
end
end Go.Proofs.YtlpdlohikfkjnaaDoor.Sh
end
section
set_option linter.unusedVariables false
set_option linter.unusedSimpArgs false
set_option linter.unusedSectionVars false
set_option maxRecDepth 100000
namespace Go.AM.Lx
end Go.AM.Lx
namespace Go.Proofs.YtlpdlohikfkjnaaDoor.Sh
open Go Go.AM Go.Proofs Go.AM.Lx
structure SplitR (st : St) (x : List Tok × Nat × Int) (v : Value) (s : St) (ids : List Nat) : Prop where
 ext : Ext st s
 toks : RepSl 4 RTok s v x.1 ids
 nd : ids.Nodup
 fresh : ∀ id ∈ ids, st.next ≤ id ∧ id < s.next
variable {K : Ctx} (hF : Fix pgF K)
include hF
end Go.Proofs.YtlpdlohikfkjnaaDoor.Sh
end
section
set_option linter.unusedVariables false
set_option linter.unusedSimpArgs false
set_option linter.unusedSectionVars false
set_option maxRecDepth 100000
namespace Go.AM
end Go.AM
namespace Go.Proofs.YtlpdlohikfkjnaaDoor.Sh
open Go Go.AM Go.Proofs Go.AM.Lx
theorem itoa_pos {n : Int} (h : ¬ n < 0) : Lib.itoa n = Lib.decDigits n.toNat := by unfold Lib.itoa; rw [if_neg h]
variable {K : Ctx} (hF : Fix pgF K)
include hF
end Go.Proofs.YtlpdlohikfkjnaaDoor.Sh
end
section
set_option linter.unusedVariables false
set_option linter.unusedSimpArgs false
set_option linter.unusedSectionVars false
set_option maxRecDepth 100000
namespace Go.Proofs.YtlpdlohikfkjnaaDoor.Sh
open Go Go.AM Go.Proofs Go.AM.Lx
namespace PS
structure SetT (i n : Int) (l : List Tok) : Prop where
 is : ∃ t1 t2 t3 t4 : Tok, l = [t1, t2, t3, t4] ∧ t1.kind = 2 ∧ t1.n = i ∧ t2.kind = 6 ∧ t2.text = [61] ∧ t3.kind = 5 ∧ t3.n = n ∧ t4.kind = 7
theorem last_no {t : Tok} {r : List Tok} {a : Nat} (hk : t.kind ≠ 1) : last ⟨t :: r, a, 0⟩ = ((⟨0, 0, 0, 0⟩, false), ⟨t :: r, a, 0⟩) := by
 unfold last
 rw [word_no hk, if_neg (by decide), if_neg (by decide), if_neg (by decide), if_neg (by decide)]
theorem last_trap {t : Tok} {r : List Tok} {a : Nat} (hk : t.kind = 1) (hx : t.text = wTrap) : last ⟨t :: r, a, 0⟩ = ((⟨3, 0, 0, 0⟩, true), ⟨r, a, 0⟩) := by
 unfold last
 rw [word_ok hk, hx, if_neg (by decide), if_neg (by decide), if_neg (by decide), if_pos rfl]
 rfl
end PS
variable {K : Ctx} (hF : Fix pgF K)
include hF
end Go.Proofs.YtlpdlohikfkjnaaDoor.Sh
end
