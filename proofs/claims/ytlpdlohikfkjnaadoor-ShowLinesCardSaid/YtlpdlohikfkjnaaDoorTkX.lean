/-
 Chapter 5's own functions: Instr, Last: the tokens of an instruction, of an end.
  Chapter 5's own functions: the tokens of an instruction.
  Chapter 5's own functions: Tokens, Text.
 What is read of the text of a program's tokens.
  Plain programs, laid out as tokens: they are read.
  Plain programs, laid out as tokens: they are read (blocks, programs).
 Tokens of plain programs: what is read of their texts (helpers for the laws of chapter 5).
  Plain programs that may be: what the laws of chapter 5 use; small programs are such.
  A program's tokens without the last one are read, too.
  Parts of lists of tokens; gaps that came in.
 The parser takes steps: it goes on to later tokens, and keeps its first error; tokens laid out otherwise are read alike; a token that no place takes is an error, there.
 Tokens laid out otherwise are read alike.
 What is read has no more tokens than were there; what is so of all that is read.
 What show prints, read.
-/
import Derived.Test.YtlpdlohikfkjnaaDoorPaX
import Derived.Test.YtlpdlohikfkjnaaDoorShB
import Derived.Test.YtlpdlohikfkjnaaDoorIrY
import Derived.Test.YtlpdlohikfkjnaaDoorSd0
section
set_option linter.unusedVariables false
set_option linter.unusedSimpArgs false
set_option linter.unusedSectionVars false
set_option maxRecDepth 100000
namespace Go.Proofs.YtlpdlohikfkjnaaDoor.Sh
open Go Go.AM Go.Proofs Go.AM.Lx
abbrev Rd := List UInt8 × Tok
def rReg (n : Int) : Rd := (37 :: Lib.itoa n, ⟨2, 0, [], n⟩)
def rLab (n : Int) : Rd := (64 :: Lib.itoa n, ⟨3, 0, [], n⟩)
def rSlot (n : Int) : Rd := (36 :: Lib.itoa n, ⟨4, 0, [], n⟩)
def rNum (n : Int) : Rd := (Lib.itoa n, ⟨5, 0, [], n⟩)
def rSign (c : UInt8) : Rd := ([c], ⟨6, 0, [c], 0⟩)
def rWord (w : List UInt8) : Rd := (w, ⟨1, 0, w, 0⟩)
def rLine : Rd := ([10], ⟨7, 0, [], 0⟩)
def opWord (o : Int) : List UInt8 := opNames.getD (o % 12).toNat []
def rdI (x : Instr) : List Rd :=
 if x.kind = 0 then [rReg x.dst, rSign 61, rNum x.n]
 else if x.kind = 1 then [rReg x.dst, rSign 61, rReg x.a]
 else if x.kind = 2 then [rReg x.dst, rSign 61, rWord (opWord x.op), rReg x.a, rSign 44, rReg x.b]
 else if x.kind = 3 then [rReg x.dst, rSign 61, rWord wIn]
 else if x.kind = 5 then [rReg x.dst, rSign 61, rWord wLoad, rSlot x.slot]
 else if x.kind = 7 then [rReg x.dst, rSign 61, rWord wGet, rReg x.a]
 else if x.kind = 4 then [rWord wOut, rReg x.a]
 else if x.kind = 6 then [rWord wStore, rSlot x.slot, rSign 44, rReg x.a]
 else [rWord wPut, rReg x.a, rSign 44, rReg x.b]
def rdL (l : Last) : List Rd :=
 if l.kind = 0 then [rWord wJump, rLab l.yes]
 else if l.kind = 1 then [rWord wBr, rReg l.a, rSign 44, rLab l.yes, rSign 44, rLab l.no]
 else if l.kind = 2 then [rWord wRet, rReg l.a]
 else [rWord wTrap]
def fitN (n : Int) : Prop := -9223372036854775808 ≤ n ∧ n ≤ 9223372036854775807
structure Instr.Fit (x : Instr) : Prop where
 dst : fitN x.dst
 a : fitN x.a
 b : fitN x.b
 n : fitN x.n
 slot : fitN x.slot
 op : 0 ≤ x.op ∧ x.op ≤ 255
structure Last.Fit (l : Last) : Prop where
 a : fitN l.a
 yes : fitN l.yes
 no : fitN l.no
variable {K : Ctx} (hF : Fix pgF K)
include hF
end Go.Proofs.YtlpdlohikfkjnaaDoor.Sh
namespace Go.Proofs.YtlpdlohikfkjnaaDoor.Sh
open Go Go.AM Go.Proofs Go.AM.Lx
variable {K : Ctx} (hF : Fix pgF K)
include hF
end Go.Proofs.YtlpdlohikfkjnaaDoor.Sh
namespace Go.Proofs.YtlpdlohikfkjnaaDoor.Sh
open Go Go.AM Go.Proofs Go.AM.Lx
variable {K : Ctx} (hF : Fix pgF K)
include hF
section
variable {J : JT (Value × St)}
end
end Go.Proofs.YtlpdlohikfkjnaaDoor.Sh
namespace Go.Proofs.YtlpdlohikfkjnaaDoor.Sh
open Go Go.AM Go.Proofs Go.AM.Lx
variable {K : Ctx} (hF : Fix pgF K)
include hF
end Go.Proofs.YtlpdlohikfkjnaaDoor.Sh
end
section
set_option linter.unusedVariables false
set_option linter.unusedSimpArgs false
set_option linter.unusedSectionVars false
set_option maxRecDepth 100000
namespace Go.Proofs.YtlpdlohikfkjnaaDoor.Sh
open Go Go.AM Go.Proofs Go.AM.Lx
def same (a t : Tok) : Prop := t.kind = a.kind ∧ t.text = a.text ∧ t.n = a.n
inductive Lay : List Rd → List Tok → Prop
 | nil : Lay [] []
 | cons {p : Rd} {l : List Rd} {t : Tok} {ts : List Tok} (h : same p.2 t) (k : Lay l ts) : Lay (p :: l) (t :: ts)
 | dbl {p : Rd} {l : List Rd} {t u : Tok} {ts : List Tok} (h : p.2.kind = 7) (h1 : t.kind = 7) (h2 : u.kind = 7) (k : Lay l ts) : Lay (p :: l) (t :: u :: ts)
structure Item (p : Rd) : Prop where
 reads : Reads p.1 p.2
 line : p.1 = [10] → p.2 = rLine.2
theorem lay_ne {p : Rd} {l : List Rd} {ts : List Tok} (h : Lay (p :: l) ts) (hk : p.2.kind ≠ 7) : ∃ t ts', ts = t :: ts' ∧ same p.2 t ∧ Lay l ts' := by
 cases h with
 | cons h k => exact ⟨_, _, rfl, h, k⟩
 | dbl h _ _ _ => exact absurd h hk
end Go.Proofs.YtlpdlohikfkjnaaDoor.Sh
namespace Go.Proofs.YtlpdlohikfkjnaaDoor.Sh
open Go Go.AM Go.Proofs Go.AM.Lx
structure Instr.Good (x : Instr) : Prop where
 kind : 0 ≤ x.kind ∧ x.kind < 9
 op : 0 ≤ x.op ∧ x.op < 12
 only : x = x.only
 dst : 0 ≤ x.dst ∧ x.dst < 100000
 a : 0 ≤ x.a ∧ x.a < 100000
 b : 0 ≤ x.b ∧ x.b < 100000
 slot : 0 ≤ x.slot ∧ x.slot < 16
 n : fitN x.n
theorem good_of {x : Instr} (hc : x.check = 0) (hk : 0 ≤ x.kind) (ho : 0 ≤ x.op) (hn : fitN x.n) : x.Good := by
 unfold Instr.check at hc
 split at hc
 ·cases hc
 ·rename_i h1
  split at hc
  ·cases hc
  ·rename_i h2
   split at hc
   ·cases hc
   ·rename_i h3
    have h2 : x = x.only := Classical.byContradiction h2
    have hop : x.op < 12 := by
     by_cases k2 : x.kind = 2
     ·omega
     ·have : x.op = 0 := by rw [h2]; unfold Instr.only; simp [k2]
      omega
    simp only [not_or, Bool.not_eq_true', Bool.not_eq_false', isReg, decide_eq_true_eq, decide_eq_false_iff_not, Classical.not_not] at h3
    simp [isReg] at h3
    exact ⟨⟨hk, by omega⟩, ⟨ho, hop⟩, h2, h3.1, h3.2.1, h3.2.2.1, ⟨by omega, by omega⟩, hn⟩
structure Last.Good (l : Last) : Prop where
 kind : 0 ≤ l.kind ∧ l.kind < 4
 only : l = l.only
 a : 0 ≤ l.a ∧ l.a < 100000
 yes : 0 ≤ l.yes ∧ l.yes < 100000
 no : 0 ≤ l.no ∧ l.no < 100000
theorem opWord_ok {o : Int} (h : 0 ≤ o ∧ o < 12) : findOp (opWord o) = some o.toNat ∧ opWord o ≠ [] ∧ (∀ c ∈ opWord o, isLet c = true) ∧ (opWord o).length ≤ 21 := by
 obtain ⟨i, rfl⟩ : ∃ i : Nat, o = i := ⟨o.toNat, by omega⟩
 have hi : i < 12 := by omega
 have e : ((i : Int) % 12).toNat = i := by omega
 unfold opWord
 rw [e]
 have key : ∀ j : Fin 12, findOp (opNames.getD j.val []) = some j.val ∧ opNames.getD j.val [] ≠ [] ∧ (∀ c ∈ opNames.getD j.val [], isLet c = true) ∧ (opNames.getD j.val []).length ≤ 21 := by decide
 have := key ⟨i, hi⟩
 simpa using this
namespace PS
theorem last_none {t : Tok} {r : List Tok} {a : Nat} (h : t.kind = 1 → t.text ≠ wJump ∧ t.text ≠ wBr ∧ t.text ≠ wRet ∧ t.text ≠ wTrap) : last ⟨t :: r, a, 0⟩ = ((⟨0, 0, 0, 0⟩, false), ⟨t :: r, a, 0⟩) := by
 by_cases hk : t.kind = 1
 ·obtain ⟨h1, h2, h3, h4⟩ := h hk
  unfold last
  rw [word_ok hk, if_neg h1, if_neg h2, if_neg h3, if_neg h4]
 ·exact last_no hk
theorem instr_lay {x : Instr} (h : x.Good) {l : List Rd} {ts : List Tok} (hl : Lay (rdI x ++ l) ts) (r : List Tok) (a : Nat) :
 ∃ t u ts', ts = t :: u ∧ t.kind ≠ 7 ∧ last ⟨ts ++ r, a, 0⟩ = ((⟨0, 0, 0, 0⟩, false), ⟨ts ++ r, a, 0⟩) ∧ Lay l ts' ∧ instr ⟨ts ++ r, a, 0⟩ = (x, ⟨ts' ++ r, a, 0⟩) := by
 have hon := h.only
 have hd := h.dst; have ha := h.a; have hb := h.b; have hs := h.slot; have ho := h.op
 have hk := h.kind
 obtain ⟨k, o, d, xa, xb, n, sl⟩ := x
 simp only at hd ha hb hs ho hk
 simp only [Instr.only, Instr.sets, Instr.reads, Instr.mk.injEq] at hon
 have sets : ∀ (p : Rd) (m : List Rd), Lay (rReg d :: rSign 61 :: (p :: m ++ l)) ts → p.2.kind ≠ 7 → ∃ t1 t2 t3 u, ts = t1 :: t2 :: t3 :: u ∧ t1.kind = 2 ∧ t1.n = d ∧ t2.kind = 6 ∧ t2.text = [61] ∧ same p.2 t3 ∧ Lay (m ++ l) u := fun p m hm hp => by
  obtain ⟨t1, u1, rfl, s1, hm⟩ := lay_ne hm (by simp [rReg])
  obtain ⟨t2, u2, rfl, s2, hm⟩ := lay_ne hm (by simp [rSign])
  obtain ⟨t3, u3, rfl, s3, hm⟩ := lay_ne hm hp
  exact ⟨t1, t2, t3, u3, rfl, s1.1, s1.2.2, s2.1, s2.2.1, s3, hm⟩
 have head : ∀ (t1 t2 t3 : Tok) (u v : List Tok) (y : Instr), t1.kind = 2 → t1.n = d → t2.kind = 6 → t2.text = [61] → right ⟨t3 :: (u ++ r), a, 0⟩ = (y, ⟨v, a, 0⟩) → instr ⟨t1 :: t2 :: t3 :: (u ++ r), a, 0⟩ = ({ y with dst := d }, ⟨v, a, 0⟩) := fun t1 t2 t3 u v y h1 h2 h3 h4 h5 => by
  unfold instr
  rw [word_no (by rw [h1]; decide), if_neg (by decide), if_neg (by decide), if_neg (by decide), reg_ok h1 (by omega)]
  simp only
  rw [sign_ok h3 h4, h5, h2]
  rfl
 have rword : ∀ (t3 : Tok) (v : List Tok), t3.kind = 1 → is 5 [] ⟨t3 :: v, a, 0⟩ = false ∧ is 2 [] ⟨t3 :: v, a, 0⟩ = false ∧ word ⟨t3 :: v, a, 0⟩ = t3.text := fun t3 v hk => ⟨is_no (by rw [hk]; decide), is_no (by rw [hk]; decide), word_ok hk⟩
 rcases (show k = 0 ∨ k = 1 ∨ k = 2 ∨ k = 3 ∨ k = 4 ∨ k = 5 ∨ k = 6 ∨ k = 7 ∨ k = 8 by omega) with rfl | rfl | rfl | rfl | rfl | rfl | rfl | rfl | rfl
 ·simp [rdI] at hl hon
  obtain ⟨rfl, rfl, rfl, rfl⟩ := hon
  obtain ⟨t1, t2, t3, u, rfl, h1, h2, h3, h4, s3, hm⟩ := sets (rNum n) [] hl (by simp [rNum])
  have k3 : t3.kind = 5 := s3.1
  have n3 : t3.n = n := s3.2.2
  refine ⟨t1, _, u, rfl, by rw [h1]; decide, last_no (by rw [h1]; decide), hm, ?_⟩
  refine head t1 t2 t3 u _ ⟨0, 0, 0, 0, 0, n, 0⟩ h1 h2 h3 h4 ?_
  unfold right
  rw [is_ok k3 (.inl rfl)]
  simp [PS.hd, adv, n3]
 ·simp [rdI] at hl hon
  obtain ⟨rfl, rfl, rfl, rfl⟩ := hon
  obtain ⟨t1, t2, t3, u, rfl, h1, h2, h3, h4, s3, hm⟩ := sets (rReg xa) [] hl (by simp [rReg])
  have k3 : t3.kind = 2 := s3.1
  have n3 : t3.n = xa := s3.2.2
  refine ⟨t1, _, u, rfl, by rw [h1]; decide, last_no (by rw [h1]; decide), hm, ?_⟩
  refine head t1 t2 t3 u _ ⟨1, 0, 0, xa, 0, 0, 0⟩ h1 h2 h3 h4 ?_
  unfold right
  rw [is_no (by rw [k3]; decide), is_ok k3 (.inl rfl), reg_ok k3 (by omega), n3]
  rfl
 ·simp [rdI] at hl hon
  obtain ⟨rfl, rfl⟩ := hon
  obtain ⟨t1, t2, t3, u, rfl, h1, h2, h3, h4, s3, hm⟩ := sets (rWord (opWord o)) [rReg xa, rSign 44, rReg xb] hl (by simp [rWord])
  have k3 : t3.kind = 1 := s3.1
  have x3 : t3.text = opWord o := s3.2.1
  obtain ⟨t4, u4, rfl, s4, hm⟩ := lay_ne hm (by simp [rReg])
  obtain ⟨t5, u5, rfl, s5, hm⟩ := lay_ne hm (by simp [rSign])
  obtain ⟨t6, u6, rfl, s6, hm⟩ := lay_ne hm (by simp [rReg])
  have k4 : t4.kind = 2 := s4.1
  have n4 : t4.n = xa := s4.2.2
  have k6 : t6.kind = 2 := s6.1
  have n6 : t6.n = xb := s6.2.2
  refine ⟨t1, _, u6, rfl, by rw [h1]; decide, last_no (by rw [h1]; decide), hm, ?_⟩
  refine head t1 t2 t3 (t4 :: t5 :: t6 :: u6) _ ⟨2, o, 0, xa, xb, 0, 0⟩ h1 h2 h3 h4 ?_
  obtain ⟨w1, w2, w3⟩ := rword t3 (t4 :: t5 :: t6 :: (u6 ++ r)) k3
  obtain ⟨f1, f2, f3, f4⟩ := opWord_ok ho
  unfold right
  simp only [List.cons_append]
  rw [w1, w2, w3, x3, f1]
  simp only [Bool.false_eq_true, if_false, adv_ok]
  rw [reg_ok k4 (by omega)]
  simp only
  rw [sign_ok s5.1 s5.2.1, reg_ok k6 (by omega), n4, n6]
  have : ((o.toNat : Nat) : Int) = o := by omega
  rw [this]
 ·simp [rdI] at hl hon
  obtain ⟨rfl, rfl, rfl, rfl, rfl⟩ := hon
  obtain ⟨t1, t2, t3, u, rfl, h1, h2, h3, h4, s3, hm⟩ := sets (rWord wIn) [] hl (by simp [rWord])
  have k3 : t3.kind = 1 := s3.1
  have x3 : t3.text = wIn := s3.2.1
  refine ⟨t1, _, u, rfl, by rw [h1]; decide, last_no (by rw [h1]; decide), hm, ?_⟩
  refine head t1 t2 t3 u _ ⟨3, 0, 0, 0, 0, 0, 0⟩ h1 h2 h3 h4 ?_
  obtain ⟨w1, w2, w3⟩ := rword t3 (u ++ r) k3
  have f1 : findOp wIn = none := by decide
  unfold right
  rw [w1, w2, w3, x3, f1]
  simp only [Bool.false_eq_true, if_false, if_true]
  rfl
 ·simp [rdI] at hl hon
  obtain ⟨rfl, rfl, rfl, rfl, rfl⟩ := hon
  obtain ⟨t1, u1, rfl, s1, hm⟩ := lay_ne hl (by simp [rWord])
  obtain ⟨t2, u2, rfl, s2, hm⟩ := lay_ne hm (by simp [rReg])
  have k1 : t1.kind = 1 := s1.1
  have x1 : t1.text = wOut := s1.2.1
  have k2 : t2.kind = 2 := s2.1
  have n2 : t2.n = xa := s2.2.2
  refine ⟨t1, _, u2, rfl, by rw [k1]; decide, last_none (fun _ => by rw [x1]; decide), hm, ?_⟩
  unfold instr
  simp only [List.cons_append]
  rw [word_ok k1, x1, if_pos rfl, adv_ok, reg_ok k2 (by omega), n2]
 ·simp [rdI] at hl hon
  obtain ⟨rfl, rfl, rfl, rfl⟩ := hon
  obtain ⟨t1, t2, t3, u, rfl, h1, h2, h3, h4, s3, hm⟩ := sets (rWord wLoad) [rSlot sl] hl (by simp [rWord])
  have k3 : t3.kind = 1 := s3.1
  have x3 : t3.text = wLoad := s3.2.1
  obtain ⟨t4, u4, rfl, s4, hm⟩ := lay_ne hm (by simp [rSlot])
  have k4 : t4.kind = 4 := s4.1
  have n4 : t4.n = sl := s4.2.2
  refine ⟨t1, _, u4, rfl, by rw [h1]; decide, last_no (by rw [h1]; decide), hm, ?_⟩
  refine head t1 t2 t3 (t4 :: u4) _ ⟨5, 0, 0, 0, 0, 0, sl⟩ h1 h2 h3 h4 ?_
  obtain ⟨w1, w2, w3⟩ := rword t3 (t4 :: (u4 ++ r)) k3
  have f1 : findOp wLoad = none := by decide
  unfold right
  simp only [List.cons_append]
  rw [w1, w2, w3, x3, f1]
  simp only [Bool.false_eq_true, if_false, adv_ok]
  rw [if_neg (by decide), if_pos trivial, slot_ok k4 (by omega), n4]
 ·simp [rdI] at hl hon
  obtain ⟨rfl, rfl, rfl, rfl⟩ := hon
  obtain ⟨t1, u1, rfl, s1, hm⟩ := lay_ne hl (by simp [rWord])
  obtain ⟨t2, u2, rfl, s2, hm⟩ := lay_ne hm (by simp [rSlot])
  obtain ⟨t3, u3, rfl, s3, hm⟩ := lay_ne hm (by simp [rSign])
  obtain ⟨t4, u4, rfl, s4, hm⟩ := lay_ne hm (by simp [rReg])
  have k1 : t1.kind = 1 := s1.1
  have x1 : t1.text = wStore := s1.2.1
  have k2 : t2.kind = 4 := s2.1
  have n2 : t2.n = sl := s2.2.2
  have k4 : t4.kind = 2 := s4.1
  have n4 : t4.n = xa := s4.2.2
  refine ⟨t1, _, u4, rfl, by rw [k1]; decide, last_none (fun _ => by rw [x1]; decide), hm, ?_⟩
  unfold instr
  simp only [List.cons_append]
  rw [word_ok k1, x1, if_neg (by decide), if_pos rfl, adv_ok, slot_ok k2 (by omega)]
  simp only
  rw [sign_ok s3.1 s3.2.1, reg_ok k4 (by omega), n2, n4]
 ·simp [rdI] at hl hon
  obtain ⟨rfl, rfl, rfl, rfl⟩ := hon
  obtain ⟨t1, t2, t3, u, rfl, h1, h2, h3, h4, s3, hm⟩ := sets (rWord wGet) [rReg xa] hl (by simp [rWord])
  have k3 : t3.kind = 1 := s3.1
  have x3 : t3.text = wGet := s3.2.1
  obtain ⟨t4, u4, rfl, s4, hm⟩ := lay_ne hm (by simp [rReg])
  have k4 : t4.kind = 2 := s4.1
  have n4 : t4.n = xa := s4.2.2
  refine ⟨t1, _, u4, rfl, by rw [h1]; decide, last_no (by rw [h1]; decide), hm, ?_⟩
  refine head t1 t2 t3 (t4 :: u4) _ ⟨7, 0, 0, xa, 0, 0, 0⟩ h1 h2 h3 h4 ?_
  obtain ⟨w1, w2, w3⟩ := rword t3 (t4 :: (u4 ++ r)) k3
  have f1 : findOp wGet = none := by decide
  unfold right
  simp only [List.cons_append]
  rw [w1, w2, w3, x3, f1]
  simp only [Bool.false_eq_true, if_false, adv_ok]
  rw [if_neg (by decide), if_neg (by decide), if_pos trivial, reg_ok k4 (by omega), n4]
 ·simp [rdI] at hl hon
  obtain ⟨rfl, rfl, rfl, rfl⟩ := hon
  obtain ⟨t1, u1, rfl, s1, hm⟩ := lay_ne hl (by simp [rWord])
  obtain ⟨t2, u2, rfl, s2, hm⟩ := lay_ne hm (by simp [rReg])
  obtain ⟨t3, u3, rfl, s3, hm⟩ := lay_ne hm (by simp [rSign])
  obtain ⟨t4, u4, rfl, s4, hm⟩ := lay_ne hm (by simp [rReg])
  have k1 : t1.kind = 1 := s1.1
  have x1 : t1.text = wPut := s1.2.1
  have k2 : t2.kind = 2 := s2.1
  have n2 : t2.n = xa := s2.2.2
  have k4 : t4.kind = 2 := s4.1
  have n4 : t4.n = xb := s4.2.2
  refine ⟨t1, _, u4, rfl, by rw [k1]; decide, last_none (fun _ => by rw [x1]; decide), hm, ?_⟩
  unfold instr
  simp only [List.cons_append]
  rw [word_ok k1, x1, if_neg (by decide), if_neg (by decide), if_pos rfl, adv_ok, reg_ok k2 (by omega)]
  simp only
  rw [sign_ok s3.1 s3.2.1, reg_ok k4 (by omega), n2, n4]
theorem last_lay {e : Last} (h : e.Good) {l : List Rd} {ts : List Tok} (hl : Lay (rdL e ++ l) ts) (r : List Tok) (a : Nat) :
 ∃ t u ts', ts = t :: u ∧ t.kind ≠ 7 ∧ Lay l ts' ∧ last ⟨ts ++ r, a, 0⟩ = ((e, true), ⟨ts' ++ r, a, 0⟩) := by
 have hon := h.only
 have ha := h.a; have hy := h.yes; have hn := h.no; have hk := h.kind
 obtain ⟨k, xa, y, n⟩ := e
 simp only at ha hy hn hk
 simp only [Last.only, Last.mk.injEq] at hon
 rcases (show k = 0 ∨ k = 1 ∨ k = 2 ∨ k = 3 by omega) with rfl | rfl | rfl | rfl
 ·simp [rdL] at hl hon
  obtain ⟨rfl, rfl⟩ := hon
  obtain ⟨t1, u1, rfl, s1, hm⟩ := lay_ne hl (by simp [rWord])
  obtain ⟨t2, u2, rfl, s2, hm⟩ := lay_ne hm (by simp [rLab])
  have k1 : t1.kind = 1 := s1.1
  have x1 : t1.text = wJump := s1.2.1
  have k2 : t2.kind = 3 := s2.1
  have n2 : t2.n = y := s2.2.2
  refine ⟨t1, _, u2, rfl, by rw [k1]; decide, hm, ?_⟩
  unfold last
  simp only [List.cons_append]
  rw [word_ok k1, x1, if_pos rfl, adv_ok, label_ok k2 (by omega), n2]
 ·simp [rdL] at hl hon
  obtain ⟨t1, u1, rfl, s1, hm⟩ := lay_ne hl (by simp [rWord])
  obtain ⟨t2, u2, rfl, s2, hm⟩ := lay_ne hm (by simp [rReg])
  obtain ⟨t3, u3, rfl, s3, hm⟩ := lay_ne hm (by simp [rSign])
  obtain ⟨t4, u4, rfl, s4, hm⟩ := lay_ne hm (by simp [rLab])
  obtain ⟨t5, u5, rfl, s5, hm⟩ := lay_ne hm (by simp [rSign])
  obtain ⟨t6, u6, rfl, s6, hm⟩ := lay_ne hm (by simp [rLab])
  have k1 : t1.kind = 1 := s1.1
  have x1 : t1.text = wBr := s1.2.1
  have k2 : t2.kind = 2 := s2.1
  have n2 : t2.n = xa := s2.2.2
  have k4 : t4.kind = 3 := s4.1
  have n4 : t4.n = y := s4.2.2
  have k6 : t6.kind = 3 := s6.1
  have n6 : t6.n = n := s6.2.2
  refine ⟨t1, _, u6, rfl, by rw [k1]; decide, hm, ?_⟩
  unfold last
  simp only [List.cons_append]
  rw [word_ok k1, x1, if_neg (by decide), if_pos rfl, adv_ok, reg_ok k2 (by omega)]
  simp only
  rw [sign_ok s3.1 s3.2.1, label_ok k4 (by omega)]
  simp only
  rw [sign_ok s5.1 s5.2.1, label_ok k6 (by omega), n2, n4, n6]
 ·simp [rdL] at hl hon
  obtain ⟨rfl, rfl⟩ := hon
  obtain ⟨t1, u1, rfl, s1, hm⟩ := lay_ne hl (by simp [rWord])
  obtain ⟨t2, u2, rfl, s2, hm⟩ := lay_ne hm (by simp [rReg])
  have k1 : t1.kind = 1 := s1.1
  have x1 : t1.text = wRet := s1.2.1
  have k2 : t2.kind = 2 := s2.1
  have n2 : t2.n = xa := s2.2.2
  refine ⟨t1, _, u2, rfl, by rw [k1]; decide, hm, ?_⟩
  unfold last
  simp only [List.cons_append]
  rw [word_ok k1, x1, if_neg (by decide), if_neg (by decide), if_pos rfl, adv_ok, reg_ok k2 (by omega), n2]
 ·simp [rdL] at hl hon
  obtain ⟨rfl, rfl, rfl⟩ := hon
  obtain ⟨t1, u1, rfl, s1, hm⟩ := lay_ne hl (by simp [rWord])
  refine ⟨t1, _, u1, rfl, by rw [s1.1]; decide, hm, ?_⟩
  exact last_trap s1.1 s1.2.1
end PS
end Go.Proofs.YtlpdlohikfkjnaaDoor.Sh
namespace Go.Proofs.YtlpdlohikfkjnaaDoor.Sh
open Go Go.AM Go.Proofs Go.AM.Lx
structure Block.Good (b : Block) : Prop where
 label : 0 ≤ b.label ∧ b.label < 100000
 phis : b.phis = []
 instrs : ∀ x ∈ b.instrs, x.Good
 last : b.last.Good
namespace PS
end PS
variable {K : Ctx} (hF : Fix pgF K)
include hF
end Go.Proofs.YtlpdlohikfkjnaaDoor.Sh
end
section
set_option linter.unusedVariables false
set_option linter.unusedSimpArgs false
set_option linter.unusedSectionVars false
set_option maxRecDepth 100000
set_option linter.unnecessarySimpa false
namespace Go.Proofs.YtlpdlohikfkjnaaDoor.Sh
open Go Go.AM Go.Proofs Go.AM.Lx
variable {K : Ctx} (hF : Fix pgF K)
include hF
end Go.Proofs.YtlpdlohikfkjnaaDoor.Sh
namespace Go.Proofs.YtlpdlohikfkjnaaDoor.Sh
open Go Go.AM Go.Proofs Go.AM.Lx
structure Block.Base (b : Block) : Prop where
 phis : b.phis = []
 instrs : ∀ x ∈ b.instrs, 0 ≤ x.kind ∧ 0 ≤ x.op ∧ fitN x.n
 last : 0 ≤ b.last.kind
theorem line_base {x : Line} (hx : x.Ok) (r : Int) : 0 ≤ (x.instr r).kind ∧ 0 ≤ (x.instr r).op ∧ fitN (x.instr r).n := by
 refine ⟨by show 0 ≤ x.kind % 9; omega, ?_, ?_⟩
 ·have := Int.emod_nonneg x.op (show (12 : Int) ≠ 0 by decide)
  unfold Line.instr Instr.only
  simp only
  split <;> omega
 ·have := hx.n
  unfold Line.instr Instr.only fitN
  simp only
  split <;> constructor <;> omega
end Go.Proofs.YtlpdlohikfkjnaaDoor.Sh
namespace Go.Proofs.YtlpdlohikfkjnaaDoor.Sh
open Go Go.AM Go.Proofs Go.AM.Lx
namespace PS
end PS
variable {K : Ctx} (hF : Fix pgF K)
include hF
end Go.Proofs.YtlpdlohikfkjnaaDoor.Sh
namespace Go.Proofs.YtlpdlohikfkjnaaDoor.Sh
open Go Go.AM Go.Proofs Go.AM.Lx
end Go.Proofs.YtlpdlohikfkjnaaDoor.Sh
end
section
set_option linter.unusedVariables false
set_option linter.unusedSimpArgs false
set_option linter.unusedSectionVars false
set_option linter.unnecessarySimpa false
set_option maxRecDepth 100000
namespace Go.Proofs.YtlpdlohikfkjnaaDoor.Sh.PS
open Go Go.AM Go.Proofs Go.AM.Lx
structure Stp (s s' : PS) : Prop where
 suf : s'.rest <:+ s.rest
 keep : s.err ≠ 0 → s'.err = s.err ∧ s'.at_ = s.at_
 at_ : ∀ B, (∀ t ∈ s.rest, t.at_ ≤ B) → s.at_ ≤ B → s'.at_ ≤ B
theorem Stp.refl (s : PS) : Stp s s := ⟨List.suffix_refl _, fun _ => ⟨rfl, rfl⟩, fun _ _ h => h⟩
theorem Stp.trans {a b c : PS} (h : Stp a b) (k : Stp b c) : Stp a c where
 suf := k.suf.trans h.suf
 keep := fun he => by
  obtain ⟨h1, h2⟩ := h.keep he
  obtain ⟨k1, k2⟩ := k.keep (by rw [h1]; exact he)
  exact ⟨k1.trans h1, k2.trans h2⟩
 at_ := fun B hB h0 => k.at_ B (fun t ht => hB t (h.suf.subset ht)) (h.at_ B hB h0)
theorem Stp.ok {a b : PS} (h : Stp a b) (hb : b.err = 0) : a.err = 0 := Classical.byContradiction fun hne => hne ((h.keep hne).1.symm.trans hb)
theorem Stp.len {a b : PS} (h : Stp a b) : b.rest.length ≤ a.rest.length := h.suf.length_le
section
variable {zz : Tok} (hk : zz.kind = 1) (hx : zz.text = [122, 122])
def Zs (zz : Tok) (s : PS) : Prop := s.err = 0 ∧ ∃ r, s.rest = zz :: r
def Fs (zz : Tok) (s : PS) : Prop := s.err = 5 ∧ s.at_ = zz.at_
def Ps (zz : Tok) (s1 s2 : PS) : Prop := s1.err = 0 ∧ s2.err = 0 ∧ ∃ pre x r1 r2, (∀ t ∈ pre, t.kind ≠ 0) ∧ s1.rest = pre ++ x :: r1 ∧ s2.rest = pre ++ zz :: r2
theorem Fs.is {s : PS} (h : Fs zz s) (k : Int) (x : List UInt8) : s.is k x = false := by
 unfold PS.is
 rw [h.1]
 rfl
include hk hx
omit hk hx
theorem Ps.cases {s1 s2 : PS} (h : Ps zz s1 s2) : Zs zz s2 ∨ (∃ t u1 u2, s1 = ⟨t :: u1, s1.at_, 0⟩ ∧ s2 = ⟨t :: u2, s2.at_, 0⟩ ∧ t.kind ≠ 0 ∧ Ps zz s1.adv s2.adv) := by
 obtain ⟨h1, h2, pre, x, r1, r2, hp, e1, e2⟩ := h
 cases pre with
 | nil => exact .inl ⟨h2, r2, e2⟩
 | cons t pre =>
   obtain ⟨a1, b1, c1⟩ := s1
   obtain ⟨a2, b2, c2⟩ := s2
   simp only at h1 h2 e1 e2
   subst h1 h2 e1 e2
   exact .inr ⟨t, _, _, rfl, rfl, hp t (by simp), rfl, rfl, pre, x, r1, r2, fun q hq => hp q (by simp [hq]), rfl, rfl⟩
include hk hx
end
end Go.Proofs.YtlpdlohikfkjnaaDoor.Sh.PS
end
section
set_option linter.unusedVariables false
set_option linter.unusedSimpArgs false
set_option linter.unusedSectionVars false
set_option linter.unnecessarySimpa false
set_option maxRecDepth 100000
namespace Go.Proofs.YtlpdlohikfkjnaaDoor.Sh.PS
open Go Go.AM Go.Proofs Go.AM.Lx
def Gx (ls : List Tok) (s1 s2 : PS) : Prop := s1.err = s2.err ∧ (s1.err = 0 → ∃ l ts e, Lay l ts ∧ e.kind = 0 ∧ e.text = [] ∧ e.n = 0 ∧ s1.rest = l.map (·.2) ++ [endT 0] ∧ s2.rest = ls ++ (ts ++ [e]))
def Gs (s1 s2 : PS) : Prop := Gx [] s1 s2
def Ge (s1 s2 : PS) : Prop := ∃ ls, (∀ t ∈ ls, t.kind = 7) ∧ Gx ls s1 s2
theorem Gs.ge {s1 s2 : PS} (h : Gs s1 s2) : Ge s1 s2 := ⟨[], by simp, h⟩
theorem Gs.cases {s1 s2 : PS} (h : Gs s1 s2) (h0 : s1.err = 0) : s2.err = 0 ∧ ∃ t1 t2 u1 u2, s1.rest = t1 :: u1 ∧ s2.rest = t2 :: u2 ∧ t1.kind = t2.kind ∧ (t1.kind ≠ 7 → t1.text = t2.text ∧ t1.n = t2.n ∧ (t1.kind ≠ 0 → Gs s1.adv s2.adv)) ∧ (t1.kind = 7 → Ge s1.adv s2.adv) := by
 obtain ⟨he, hr⟩ := h
 refine ⟨by rw [← he]; exact h0, ?_⟩
 obtain ⟨l, ts, e, hl, k0, k1, k2, e1, e2⟩ := hr h0
 rw [List.nil_append] at e2
 cases hl with
 | nil => exact ⟨endT 0, e, [], [], e1, e2, k0.symm, fun _ => ⟨k1.symm, k2.symm, fun hne => absurd rfl hne⟩, fun h7 => by cases h7⟩
 | @cons p l t ts hs hl =>
   have hg : Gs s1.adv s2.adv := ⟨he, fun _ => ⟨l, ts, e, hl, k0, k1, k2, by show s1.rest.tail = _; rw [e1]; rfl, by show s2.rest.tail = _; rw [e2]; rfl⟩⟩
   exact ⟨p.2, t, _, _, by rw [e1]; rfl, by rw [e2]; rfl, hs.1.symm, fun _ => ⟨hs.2.1.symm, hs.2.2.symm, fun _ => hg⟩, fun _ => hg.ge⟩
 | @dbl p l t u ts hp h1 h2 hl =>
   refine ⟨p.2, t, _, _, by rw [e1]; rfl, by rw [e2]; rfl, by rw [hp, h1], fun hne => absurd hp hne, fun _ => ⟨[u], by simpa using h2, he, fun _ => ⟨l, ts, e, hl, k0, k1, k2, by show s1.rest.tail = _; rw [e1]; rfl, by show s2.rest.tail = _; rw [e2]; rfl⟩⟩⟩
end Go.Proofs.YtlpdlohikfkjnaaDoor.Sh.PS
end
section
set_option linter.unusedVariables false
set_option linter.unusedSimpArgs false
set_option linter.unusedSectionVars false
set_option linter.unnecessarySimpa false
set_option maxRecDepth 100000
namespace Go.Proofs.YtlpdlohikfkjnaaDoor.Sh.PS
open Go Go.AM Go.Proofs Go.AM.Lx
def TF (s : PS) : Prop := ∀ t ∈ s.rest, fitN t.n
theorem TF.hd {s : PS} (h : TF s) : fitN s.hd.n := by
 unfold PS.hd
 cases hr : s.rest with
 | nil => exact ⟨by decide, by decide⟩
 | cons t r => exact h t (by rw [hr]; simp)
end Go.Proofs.YtlpdlohikfkjnaaDoor.Sh.PS
namespace Go.Proofs.YtlpdlohikfkjnaaDoor.Sh
open Go Go.AM Go.Proofs Go.AM.Lx
variable {K : Ctx} (hF : Fix pgF K)
include hF
end Go.Proofs.YtlpdlohikfkjnaaDoor.Sh
end
section
set_option linter.unusedVariables false
set_option linter.unusedSimpArgs false
set_option linter.unusedSectionVars false
namespace Go.Proofs.YtlpdlohikfkjnaaDoor.Sh
open Go Go.AM Go.Proofs Go.AM.Lx
def RdT (l : List Rd) (w : List UInt8) : Prop := ∀ (rest : List UInt8) (a : Nat), Stop rest → ∃ ts, Lay l ts ∧ evs (w ++ rest) a = ts.map (fun t => (t, (0 : Int))) ++ evs rest (a + w.length)
def Ends (w : List UInt8) : Prop := ∀ rest, Stop rest → Stop (w ++ rest)
theorem ends_nil : Ends [] := fun rest h => h
theorem ends_cons {c : UInt8} (w : List UInt8) (h1 : isDig c = false) (h2 : isLet c = false) : Ends (c :: w) := fun rest _ => stop_cons _ h1 h2
theorem rt_nil : RdT [] [] := fun rest a _ => ⟨[], .nil, rfl⟩
theorem rt_blank {l : List Rd} {w : List UInt8} (h : RdT l w) : RdT l (32 :: w) := fun rest a hs => by
 obtain ⟨ts, h1, h2⟩ := h rest (a + 1) hs
 exact ⟨ts, h1, by rw [List.cons_append, evs_blank _ _ (by decide), h2, List.length_cons, Nat.add_assoc, Nat.add_comm 1]⟩
theorem rt_one {p : Rd} {x w : List UInt8} {l : List Rd} (hp : ∀ (rest : List UInt8) (a : Nat), Stop rest → evs (x ++ rest) a = (⟨p.2.kind, a, p.2.text, p.2.n⟩, 0) :: evs rest (a + x.length)) (e : Ends w) (h : RdT l w) : RdT (p :: l) (x ++ w) := fun rest a hs => by
 obtain ⟨ts, h1, h2⟩ := h rest (a + x.length) hs
 exact ⟨(⟨p.2.kind, a, p.2.text, p.2.n⟩ : Tok) :: ts, .cons ⟨rfl, rfl, rfl⟩ h1, by rw [List.append_assoc, hp _ _ (e rest hs), h2, List.length_append, Nat.add_assoc]; rfl⟩
theorem rt_sign {c : UInt8} (hc : isSign c) {l : List Rd} {w : List UInt8} (h : RdT l w) : RdT (rSign c :: l) (c :: w) := fun rest a hs => by
 obtain ⟨ts, h1, h2⟩ := h rest (a + 1) hs
 exact ⟨⟨6, a, [c], 0⟩ :: ts, .cons ⟨rfl, rfl, rfl⟩ h1, by rw [List.cons_append, sSign hc, h2, List.length_cons, Nat.add_assoc, Nat.add_comm 1]; rfl⟩
theorem rt_mark {m : UInt8} (hm : isMark m) {n : Int} (hn : 0 ≤ n ∧ n < 100000) {l : List Rd} {w : List UInt8} (e : Ends w) (h : RdT l w) : RdT ((m :: Lib.itoa n, ⟨regKind m, 0, [], n⟩) :: l) (m :: (Lib.itoa n ++ w)) := by
 obtain ⟨u, rfl⟩ : ∃ u : Nat, n = u := ⟨n.toNat, by omega⟩
 have e' : Lib.itoa (u : Int) = Lib.decDigits u := by rw [itoa_pos (by omega)]; rfl
 rw [e']
 exact rt_one (x := m :: Lib.decDigits u) (fun rest a hs => sMark hm (by omega) hs a) e h
theorem rt_reg {n : Int} (hn : 0 ≤ n ∧ n < 100000) {l : List Rd} {w : List UInt8} (e : Ends w) (h : RdT l w) : RdT (rReg n :: l) (37 :: (Lib.itoa n ++ w)) := rt_mark (m := 37) (by decide) hn e h
theorem rt_lab {n : Int} (hn : 0 ≤ n ∧ n < 100000) {l : List Rd} {w : List UInt8} (e : Ends w) (h : RdT l w) : RdT (rLab n :: l) (64 :: (Lib.itoa n ++ w)) := rt_mark (m := 64) (by decide) hn e h
theorem rt_slot {n : Int} (hn : 0 ≤ n ∧ n < 16) {l : List Rd} {w : List UInt8} (e : Ends w) (h : RdT l w) : RdT (rSlot n :: l) (36 :: (Lib.itoa n ++ w)) := rt_mark (m := 36) (by decide) ⟨hn.1, by omega⟩ e h
theorem rt_num {n : Int} (hn : fitN n) {l : List Rd} {w : List UInt8} (e : Ends w) (h : RdT l w) : RdT (rNum n :: l) (Lib.itoa n ++ w) := rt_one (fun rest a hs => sNum hn.1 hn.2 hs a) e h
theorem rt_word {x : List UInt8} (h0 : x ≠ []) (h1 : ∀ c ∈ x, isLet c = true) {l : List Rd} {w : List UInt8} (e : Ends w) (h : RdT l w) : RdT (rWord x :: l) (x ++ w) := rt_one (fun rest a hs => sWord h0 h1 hs a) e h
def inI (x : Instr) : In := ⟨x.kind, x.op, x.dst, x.a, x.b, x.n, x.slot⟩
def laL (l : Last) : La := ⟨l.kind, l.a, l.yes, l.no⟩
theorem rt_I {x : Instr} (h : x.Good) : RdT (rdI x) (inI x).txt := by
 obtain ⟨hk, ho, _, hd, ha, hb, hs, hn⟩ := h
 obtain ⟨_, o2, o3, _⟩ := opWord_ok ho
 have eo : namesL.getD x.op.toNat [] = opWord x.op := by
  unfold opWord
  rw [Int.emod_eq_of_lt ho.1 ho.2]
  rfl
 obtain ⟨k, o, d, a, b, n, sl⟩ := x
 simp only at hk ho hd ha hb hs hn o2 o3 eo
 have dec1 : ∀ w, Ends (32 :: w) := fun w => ends_cons _ (by decide) (by decide)
 have dec2 : ∀ w, Ends (44 :: w) := fun w => ends_cons _ (by decide) (by decide)
 have hset : ∀ {l : List Rd} {w : List UInt8}, RdT l w → RdT (rReg d :: rSign 61 :: l) (itB (setIt d) ++ w) := fun {l w} h => by
  have e : itB (setIt d) ++ w = 37 :: (Lib.itoa d ++ 32 :: 61 :: 32 :: w) := by simp [itB, setIt, It.b]
  rw [e]
  exact rt_reg hd (dec1 _) (rt_blank (rt_sign (by decide) (rt_blank h)))
 have happ : ∀ m, itB (setIt d ++ m) = itB (setIt d) ++ itB m := fun m => by unfold itB; rw [List.flatMap_append]
 have hr : ∀ {n : Int}, 0 ≤ n ∧ n < 100000 → RdT [rReg n] (37 :: Lib.itoa n) := fun {n} hn => by
  have := rt_reg hn ends_nil rt_nil
  rwa [List.append_nil] at this
 have hsl : RdT [rSlot sl] (36 :: Lib.itoa sl) := by
  have := rt_slot hs ends_nil rt_nil
  rwa [List.append_nil] at this
 rcases (show k = 0 ∨ k = 1 ∨ k = 2 ∨ k = 3 ∨ k = 4 ∨ k = 5 ∨ k = 6 ∨ k = 7 ∨ k = 8 by omega) with rfl | rfl | rfl | rfl | rfl | rfl | rfl | rfl | rfl
 ·show RdT [rReg d, rSign 61, rNum n] (itB (setIt d ++ [.l n]))
  rw [happ]
  refine hset ?_
  have := rt_num hn ends_nil rt_nil
  exact this
 ·show RdT [rReg d, rSign 61, rReg a] (itB (setIt d ++ [.s [37], .i a]))
  rw [happ, show itB [.s [37], .i a] = 37 :: Lib.itoa a by simp [itB, It.b]]
  exact hset (hr ha)
 ·show RdT [rReg d, rSign 61, rWord (opWord o), rReg a, rSign 44, rReg b] (itB (setIt d ++ [.s (namesL.getD o.toNat []), .s [32, 37], .i a, .s [44, 32, 37], .i b]))
  rw [eo, happ, show itB [.s (opWord o), .s [32, 37], .i a, .s [44, 32, 37], .i b] = opWord o ++ 32 :: 37 :: (Lib.itoa a ++ 44 :: 32 :: 37 :: Lib.itoa b) by simp [itB, It.b]]
  exact hset (rt_word o2 o3 (dec1 _) (rt_blank (rt_reg ha (dec2 _) (rt_sign (by decide) (rt_blank (hr hb))))))
 ·show RdT [rReg d, rSign 61, rWord wIn] (itB (setIt d ++ [.s [105, 110]]))
  rw [happ]
  exact hset (rt_word (x := wIn) (w := []) (by decide) (by decide) ends_nil rt_nil)
 ·show RdT [rWord wOut, rReg a] (itB [.s [111, 117, 116, 32, 37], .i a])
  rw [show itB [.s [111, 117, 116, 32, 37], .i a] = wOut ++ 32 :: 37 :: Lib.itoa a by simp [itB, It.b, wOut]]
  exact rt_word (by decide) (by decide) (dec1 _) (rt_blank (hr ha))
 ·show RdT [rReg d, rSign 61, rWord wLoad, rSlot sl] (itB (setIt d ++ [.s [108, 111, 97, 100, 32, 36], .i sl]))
  rw [happ, show itB [.s [108, 111, 97, 100, 32, 36], .i sl] = wLoad ++ 32 :: 36 :: Lib.itoa sl by simp [itB, It.b, wLoad]]
  exact hset (rt_word (by decide) (by decide) (dec1 _) (rt_blank hsl))
 ·show RdT [rWord wStore, rSlot sl, rSign 44, rReg a] (itB [.s [115, 116, 111, 114, 101, 32, 36], .i sl, .s [44, 32, 37], .i a])
  rw [show itB [.s [115, 116, 111, 114, 101, 32, 36], .i sl, .s [44, 32, 37], .i a] = wStore ++ 32 :: 36 :: (Lib.itoa sl ++ 44 :: 32 :: 37 :: Lib.itoa a) by simp [itB, It.b, wStore]]
  exact rt_word (by decide) (by decide) (dec1 _) (rt_blank (rt_slot hs (dec2 _) (rt_sign (by decide) (rt_blank (hr ha)))))
 ·show RdT [rReg d, rSign 61, rWord wGet, rReg a] (itB (setIt d ++ [.s [103, 101, 116, 32, 37], .i a]))
  rw [happ, show itB [.s [103, 101, 116, 32, 37], .i a] = wGet ++ 32 :: 37 :: Lib.itoa a by simp [itB, It.b, wGet]]
  exact hset (rt_word (by decide) (by decide) (dec1 _) (rt_blank (hr ha)))
 ·show RdT [rWord wPut, rReg a, rSign 44, rReg b] (itB [.s [112, 117, 116, 32, 37], .i a, .s [44, 32, 37], .i b])
  rw [show itB [.s [112, 117, 116, 32, 37], .i a, .s [44, 32, 37], .i b] = wPut ++ 32 :: 37 :: (Lib.itoa a ++ 44 :: 32 :: 37 :: Lib.itoa b) by simp [itB, It.b, wPut]]
  exact rt_word (by decide) (by decide) (dec1 _) (rt_blank (rt_reg ha (dec2 _) (rt_sign (by decide) (rt_blank (hr hb)))))
theorem rt_L {l : Last} (h : l.Good) : RdT (rdL l) (laL l).txt := by
 obtain ⟨hk, _, ha, hy, hn⟩ := h
 obtain ⟨k, a, y, n⟩ := l
 simp only at hk ha hy hn
 have dec1 : ∀ w, Ends (32 :: w) := fun w => ends_cons _ (by decide) (by decide)
 have dec2 : ∀ w, Ends (44 :: w) := fun w => ends_cons _ (by decide) (by decide)
 have hr : ∀ {n : Int}, 0 ≤ n ∧ n < 100000 → RdT [rReg n] (37 :: Lib.itoa n) := fun {n} hn => by
  have := rt_reg hn ends_nil rt_nil
  rwa [List.append_nil] at this
 have hl : ∀ {n : Int}, 0 ≤ n ∧ n < 100000 → RdT [rLab n] (64 :: Lib.itoa n) := fun {n} hn => by
  have := rt_lab hn ends_nil rt_nil
  rwa [List.append_nil] at this
 rcases (show k = 0 ∨ k = 1 ∨ k = 2 ∨ k = 3 by omega) with rfl | rfl | rfl | rfl
 ·show RdT [rWord wJump, rLab y] (itB [.s [106, 117, 109, 112, 32, 64], .i y])
  rw [show itB [.s [106, 117, 109, 112, 32, 64], .i y] = wJump ++ 32 :: 64 :: Lib.itoa y by simp [itB, It.b, wJump]]
  exact rt_word (by decide) (by decide) (dec1 _) (rt_blank (hl hy))
 ·show RdT [rWord wBr, rReg a, rSign 44, rLab y, rSign 44, rLab n] (itB [.s [98, 114, 32, 37], .i a, .s [44, 32, 64], .i y, .s [44, 32, 64], .i n])
  rw [show itB [.s [98, 114, 32, 37], .i a, .s [44, 32, 64], .i y, .s [44, 32, 64], .i n] = wBr ++ 32 :: 37 :: (Lib.itoa a ++ 44 :: 32 :: 64 :: (Lib.itoa y ++ 44 :: 32 :: 64 :: Lib.itoa n)) by simp [itB, It.b, wBr]]
  exact rt_word (by decide) (by decide) (dec1 _) (rt_blank (rt_reg ha (dec2 _) (rt_sign (by decide) (rt_blank (rt_lab hy (dec2 _) (rt_sign (by decide) (rt_blank (hl hn))))))))
 ·show RdT [rWord wRet, rReg a] (itB [.s [114, 101, 116, 32, 37], .i a])
  rw [show itB [.s [114, 101, 116, 32, 37], .i a] = wRet ++ 32 :: 37 :: Lib.itoa a by simp [itB, It.b, wRet]]
  exact rt_word (by decide) (by decide) (dec1 _) (rt_blank (hr ha))
 ·show RdT [rWord wTrap] (itB [.s [116, 114, 97, 112]])
  exact rt_word (x := wTrap) (w := []) (by decide) (by decide) ends_nil rt_nil
theorem map_inj {ts us : List Tok} {e f : Tok} (h : ts.map (fun t => (t, (0 : Int))) ++ [(e, (0 : Int))] = us.map (fun t => (t, (0 : Int))) ++ [(f, 0)]) : ts = us := by
 have h1 := (List.append_inj_left' h rfl)
 have := congrArg (List.map Prod.fst) h1
 simpa [Function.comp_def] using this
theorem rt_all {l : List Rd} {w : List UInt8} (h : RdT l w) : ∃ ts, Lay l ts ∧ evs w 0 = ts.map (fun t => (t, (0 : Int))) ++ [(endT w.length, 0)] := by
 obtain ⟨ts, h1, h2⟩ := h [] 0 stop_nil
 exact ⟨ts, h1, by rw [List.append_nil, evs_nil, Nat.zero_add] at h2; exact h2⟩
theorem inI_inj {x y : Instr} (hx : x.Good) (hy : y.Good) (h : (inI x).txt = (inI y).txt) : x = y := by
 obtain ⟨ts, h1, h2⟩ := rt_all (rt_I hx)
 obtain ⟨us, k1, k2⟩ := rt_all (rt_I hy)
 rw [h, k2] at h2
 have e := map_inj h2
 subst e
 rw [← List.append_nil (rdI x)] at h1
 rw [← List.append_nil (rdI y)] at k1
 obtain ⟨_, _, _, _, _, _, _, e1⟩ := PS.instr_lay hx h1 [] 0
 obtain ⟨_, _, _, _, _, _, _, e2⟩ := PS.instr_lay hy k1 [] 0
 rw [e1] at e2
 exact congrArg Prod.fst e2
theorem laL_inj {x y : Last} (hx : x.Good) (hy : y.Good) (h : (laL x).txt = (laL y).txt) : x = y := by
 obtain ⟨ts, h1, h2⟩ := rt_all (rt_L hx)
 obtain ⟨us, k1, k2⟩ := rt_all (rt_L hy)
 rw [h, k2] at h2
 have e := map_inj h2
 subst e
 rw [← List.append_nil (rdL x)] at h1
 rw [← List.append_nil (rdL y)] at k1
 obtain ⟨_, _, _, _, _, _, e1⟩ := PS.last_lay hx h1 [] 0
 obtain ⟨_, _, _, _, _, _, e2⟩ := PS.last_lay hy k1 [] 0
 rw [e1] at e2
 exact congrArg (fun p => p.1.1) e2
theorem inI_laL {x : Instr} {l : Last} (hx : x.Good) (hl : l.Good) : (inI x).txt ≠ (laL l).txt := fun h => by
 obtain ⟨ts, h1, h2⟩ := rt_all (rt_I hx)
 obtain ⟨us, k1, k2⟩ := rt_all (rt_L hl)
 rw [h, k2] at h2
 have e := map_inj h2
 subst e
 rw [← List.append_nil (rdI x)] at h1
 rw [← List.append_nil (rdL l)] at k1
 obtain ⟨_, _, _, _, _, e1, _, _⟩ := PS.instr_lay hx h1 [] 0
 obtain ⟨_, _, _, _, _, _, e2⟩ := PS.last_lay hl k1 [] 0
 rw [e1] at e2
 have := congrArg (fun p => p.1.2) e2
 cases this
end Go.Proofs.YtlpdlohikfkjnaaDoor.Sh
end
