/-
  What is read of the text of a program's tokens.
  Plain programs, laid out as tokens: they are read.
  Plain programs, laid out as tokens: they are read (blocks, programs).
-/
import Derived.Test.YtdjfndijbnpkpaaDoorTkA
set_option linter.unusedVariables false
set_option linter.unusedSimpArgs false
set_option linter.unusedSectionVars false
set_option maxRecDepth 100000
namespace Go.Proofs.YtdjfndijbnpkpaaDoor.Sh
open Go Go.AM Go.Proofs Go.AM.Lx
def same (a t : Tok) : Prop := t.kind = a.kind ∧ t.text = a.text ∧ t.n = a.n
inductive Lay : List Rd → List Tok → Prop
 | nil : Lay [] []
 | cons {p : Rd} {l : List Rd} {t : Tok} {ts : List Tok} (h : same p.2 t) (k : Lay l ts) : Lay (p :: l) (t :: ts)
 | dbl {p : Rd} {l : List Rd} {t u : Tok} {ts : List Tok} (h : p.2.kind = 7) (h1 : t.kind = 7) (h2 : u.kind = 7) (k : Lay l ts) : Lay (p :: l) (t :: u :: ts)
structure Item (p : Rd) : Prop where
 reads : Reads p.1 p.2
 line : p.1 = [10] → p.2 = rLine.2
theorem blanks (k : Int) (x : List UInt8) (a : Nat) : evs (gapW k ++ x) a = evs x (a + (gapW k).length) := by
 unfold gapW
 split
 ·rw [show [32, 32] ++ x = 32 :: 32 :: x from rfl, evs_blank _ _ (by decide), evs_blank _ _ (by decide)]
  rfl
 ·rw [show [32] ++ x = 32 :: x from rfl, evs_blank _ _ (by decide)]
  rfl
theorem gap_blank (k : Int) : ∃ g, gapW k = 32 :: g := by
 unfold gapW
 split
 ·exact ⟨[32], rfl⟩
 ·exact ⟨[], rfl⟩
theorem lay_text (gs : List Int) : ∀ (l : List Rd) (i a : Nat), (∀ p ∈ l, Item p) → ∃ ts, Lay l ts ∧ ∀ rest, evs (textG gs l i ++ rest) a = ts.map (fun t => (t, (0 : Int))) ++ evs rest (a + (textG gs l i).length) := by
 intro l
 induction l with
 | nil => intro i a _; exact ⟨[], .nil, fun rest => by simp [textG]⟩
 | cons p l ih =>
   intro i a h
   have hp := h p (List.mem_cons_self ..)
   generalize hk : gapAt gs i = k
   have hl := fun a => ih (i + 1) a fun q hq => h q (List.mem_cons_of_mem _ hq)
   have he : ∀ rest, textG gs (p :: l) i ++ rest = preW k p.1 ++ (p.1 ++ (gapW k ++ (textG gs l (i + 1) ++ rest))) := fun rest => by simp [textG, hk]
   have hlen : (textG gs (p :: l) i).length = (preW k p.1).length + p.1.length + (gapW k).length + (textG gs l (i + 1)).length := by simp [textG, hk, Nat.add_assoc]
   have tok : ∀ b, ∃ ts, Lay l ts ∧ ∀ rest, evs (p.1 ++ (gapW k ++ (textG gs l (i + 1) ++ rest))) b = ((⟨p.2.kind, b, p.2.text, p.2.n⟩ : Tok) :: ts).map (fun t => (t, (0 : Int))) ++ evs rest (b + p.1.length + (gapW k).length + (textG gs l (i + 1)).length) := fun b => by
    obtain ⟨ts, h1, h2⟩ := hl (b + p.1.length + (gapW k).length)
    refine ⟨ts, h1, fun rest => ?_⟩
    obtain ⟨g, hg⟩ := gap_blank k
    have : gapW k ++ (textG gs l (i + 1) ++ rest) = 32 :: (g ++ (textG gs l (i + 1) ++ rest)) := by rw [hg]; rfl
    rw [this, hp.reads.ok, ← this, blanks, h2]
    simp [Nat.add_assoc]
   by_cases c1 : p.1 = [10] ∧ k % 5 = 1
   ·have e : preW k p.1 = [32, 35, 32, 116, 114, 97, 112, 32, 64] := by unfold preW; rw [if_pos c1]
    obtain ⟨ts, h1, h2⟩ := tok (a + 9)
    refine ⟨_, .cons (t := ⟨p.2.kind, a + 9, p.2.text, p.2.n⟩) ⟨rfl, rfl, rfl⟩ h1, fun rest => ?_⟩
    rw [he, hlen, e]
    generalize hx : p.1 ++ (gapW k ++ (textG gs l (i + 1) ++ rest)) = x at *
    have hx10 : ∃ y, x = 10 :: y := by rw [← hx, c1.1]; exact ⟨_, rfl⟩
    obtain ⟨y, rfl⟩ := hx10
    have q1 : ((32 :: 116 :: 114 :: 97 :: 112 :: 32 :: 64 :: 10 :: y).dropWhile fun c : UInt8 => decide (c.toNat ≠ 10)) = 10 :: y := by simp [List.dropWhile]
    have q2 : ((32 :: 116 :: 114 :: 97 :: 112 :: 32 :: 64 :: 10 :: y).takeWhile fun c : UInt8 => decide (c.toNat ≠ 10)).length = 7 := by simp [List.takeWhile]
    have h2 := h2 rest
    rw [hx] at h2
    rw [show [32, 35, 32, 116, 114, 97, 112, 32, 64] ++ 10 :: y = 32 :: 35 :: 32 :: 116 :: 114 :: 97 :: 112 :: 32 :: 64 :: 10 :: y from rfl, evs_blank _ _ (by decide), evs_note _ _ (by decide), q1, q2, show a + 1 + 1 + 7 = a + 9 by omega, h2]
    simp [Nat.add_assoc]
   ·by_cases c2 : p.1 = [10] ∧ k % 5 = 2
    ·have e : preW k p.1 = [10, 32, 32] := by unfold preW; rw [if_neg c1, if_pos c2]
     obtain ⟨ts, h1, h2⟩ := tok (a + 3)
     have hp7 : p.2.kind = 7 := by rw [hp.line c2.1]; rfl
     refine ⟨_, .dbl (t := ⟨7, a, [], 0⟩) (u := ⟨p.2.kind, a + 3, p.2.text, p.2.n⟩) hp7 rfl hp7 h1, fun rest => ?_⟩
     have h2 := h2 rest
     rw [he, hlen, e]
     generalize p.1 ++ (gapW k ++ (textG gs l (i + 1) ++ rest)) = x at *
     rw [show [10, 32, 32] ++ x = 10 :: 32 :: 32 :: x from rfl, evs_line, evs_blank _ _ (by decide), evs_blank _ _ (by decide), show a + 1 + 1 + 1 = a + 3 by omega, h2]
     simp [Nat.add_assoc]
    ·have e : preW k p.1 = [] := by unfold preW; rw [if_neg c1, if_neg c2]
     obtain ⟨ts, h1, h2⟩ := tok a
     refine ⟨_, .cons (t := ⟨p.2.kind, a, p.2.text, p.2.n⟩) ⟨rfl, rfl, rfl⟩ h1, fun rest => ?_⟩
     rw [he, hlen, e, List.nil_append, h2 rest]
     simp [Nat.add_assoc]
theorem item_reg {n : Int} (h : 0 ≤ n ∧ n ≤ 9223372036854775807) : Item (rReg n) := by
 obtain ⟨u, rfl⟩ : ∃ u : Nat, n = u := ⟨n.toNat, by omega⟩
 have e : Lib.itoa (u : Int) = Lib.decDigits u := by rw [itoa_pos (by omega)]; rfl
 refine ⟨?_, fun h => by cases h⟩
 have := Reads.mark (m := 37) (u := u) (by decide) (by omega)
 unfold rReg
 rw [e]
 exact this
theorem item_lab {n : Int} (h : 0 ≤ n ∧ n ≤ 9223372036854775807) : Item (rLab n) := by
 obtain ⟨u, rfl⟩ : ∃ u : Nat, n = u := ⟨n.toNat, by omega⟩
 have e : Lib.itoa (u : Int) = Lib.decDigits u := by rw [itoa_pos (by omega)]; rfl
 refine ⟨?_, fun h => by cases h⟩
 have := Reads.mark (m := 64) (u := u) (by decide) (by omega)
 unfold rLab
 rw [e]
 exact this
theorem item_slot {n : Int} (h : 0 ≤ n ∧ n ≤ 9223372036854775807) : Item (rSlot n) := by
 obtain ⟨u, rfl⟩ : ∃ u : Nat, n = u := ⟨n.toNat, by omega⟩
 have e : Lib.itoa (u : Int) = Lib.decDigits u := by rw [itoa_pos (by omega)]; rfl
 refine ⟨?_, fun h => by cases h⟩
 have := Reads.mark (m := 36) (u := u) (by decide) (by omega)
 unfold rSlot
 rw [e]
 exact this
theorem item_num {n : Int} (h : fitN n) : Item (rNum n) := by
 refine ⟨Reads.num h.1 h.2, fun h => ?_⟩
 exfalso
 unfold rNum at h
 by_cases c : n < 0
 ·rw [itoa_neg c] at h; cases h
 ·rw [itoa_pos c] at h
  have h : Lib.decDigits n.toNat = [10] := h
  have := isDig_range (decDigits_dig n.toNat 10 (by rw [h]; simp))
  simp at this
theorem item_sign {c : UInt8} (h : isSign c) : Item (rSign c) := ⟨Reads.sign h, fun e => by
 have : c = 10 := by unfold rSign at e; simpa using e
 subst this
 exact absurd h (by decide)⟩
theorem item_word {w : List UInt8} (h0 : w ≠ []) (h1 : ∀ c ∈ w, isLet c = true) (h2 : w.length ≤ 21) : Item (rWord w) := ⟨Reads.word h0 h1 h2, fun e => by
 have e : w = [10] := e
 subst e
 exact absurd (h1 10 (by simp)) (by decide)⟩
theorem item_line : Item rLine := ⟨Reads.line, fun _ => rfl⟩
end Go.Proofs.YtdjfndijbnpkpaaDoor.Sh
namespace Go.Proofs.YtdjfndijbnpkpaaDoor.Sh
open Go Go.AM Go.Proofs Go.AM.Lx
structure Instr.Good (x : Instr) : Prop where
 kind : 0 ≤ x.kind ∧ x.kind < 9
 op : 0 ≤ x.op ∧ x.op < 12
 only : x = x.only
 dst : 0 ≤ x.dst ∧ x.dst < 100000
 a : 0 ≤ x.a ∧ x.a < 100000
 b : 0 ≤ x.b ∧ x.b < 100000
 slot : 0 ≤ x.slot ∧ x.slot < 16
 n : fitN x.n
theorem good_of {x : Instr} (hc : x.check = 0) (hk : 0 ≤ x.kind) (ho : 0 ≤ x.op) (hn : fitN x.n) : x.Good := by
 unfold Instr.check at hc
 split at hc
 ·cases hc
 ·rename_i h1
  split at hc
  ·cases hc
  ·rename_i h2
   split at hc
   ·cases hc
   ·rename_i h3
    have h2 : x = x.only := Classical.byContradiction h2
    have hop : x.op < 12 := by
     by_cases k2 : x.kind = 2
     ·omega
     ·have : x.op = 0 := by rw [h2]; unfold Instr.only; simp [k2]
      omega
    simp only [not_or, Bool.not_eq_true', Bool.not_eq_false', isReg, decide_eq_true_eq, decide_eq_false_iff_not, Classical.not_not] at h3
    simp [isReg] at h3
    exact ⟨⟨hk, by omega⟩, ⟨ho, hop⟩, h2, h3.1, h3.2.1, h3.2.2.1, ⟨by omega, by omega⟩, hn⟩
structure Last.Good (l : Last) : Prop where
 kind : 0 ≤ l.kind ∧ l.kind < 4
 only : l = l.only
 a : 0 ≤ l.a ∧ l.a < 100000
 yes : 0 ≤ l.yes ∧ l.yes < 100000
 no : 0 ≤ l.no ∧ l.no < 100000
theorem opWord_ok {o : Int} (h : 0 ≤ o ∧ o < 12) : findOp (opWord o) = some o.toNat ∧ opWord o ≠ [] ∧ (∀ c ∈ opWord o, isLet c = true) ∧ (opWord o).length ≤ 21 := by
 obtain ⟨i, rfl⟩ : ∃ i : Nat, o = i := ⟨o.toNat, by omega⟩
 have hi : i < 12 := by omega
 have e : ((i : Int) % 12).toNat = i := by omega
 unfold opWord
 rw [e]
 have key : ∀ j : Fin 12, findOp (opNames.getD j.val []) = some j.val ∧ opNames.getD j.val [] ≠ [] ∧ (∀ c ∈ opNames.getD j.val [], isLet c = true) ∧ (opNames.getD j.val []).length ≤ 21 := by decide
 have := key ⟨i, hi⟩
 simpa using this
theorem items_I {x : Instr} (h : x.Good) : ∀ p ∈ rdI x, Item p := by
 have hr : ∀ n : Int, 0 ≤ n ∧ n < 100000 → Item (rReg n) := fun n hn => item_reg ⟨hn.1, by omega⟩
 have ho := opWord_ok h.op
 have hs : Item (rSlot x.slot) := item_slot ⟨h.slot.1, by have := h.slot.2; omega⟩
 unfold rdI
 repeat' split
 all_goals simp only [List.forall_mem_cons]
 all_goals (repeat' apply And.intro)
 all_goals first
  | exact hr _ h.dst
  | exact hr _ h.a
  | exact hr _ h.b
  | exact hs
  | exact item_num h.n
  | exact item_word ho.2.1 ho.2.2.1 ho.2.2.2
  | exact item_sign (by decide)
  | exact item_word (by decide) (by decide) (by decide)
  | (intro p hp; cases hp)
theorem items_L {l : Last} (h : l.Good) : ∀ p ∈ rdL l, Item p := by
 have hr : ∀ n : Int, 0 ≤ n ∧ n < 100000 → Item (rReg n) := fun n hn => item_reg ⟨hn.1, by omega⟩
 have hl : ∀ n : Int, 0 ≤ n ∧ n < 100000 → Item (rLab n) := fun n hn => item_lab ⟨hn.1, by omega⟩
 unfold rdL
 repeat' split
 all_goals simp only [List.forall_mem_cons]
 all_goals (repeat' apply And.intro)
 all_goals first
  | exact hr _ h.a
  | exact hl _ h.yes
  | exact hl _ h.no
  | exact item_sign (by decide)
  | exact item_word (by decide) (by decide) (by decide)
  | (intro p hp; cases hp)
namespace PS
end PS
end Go.Proofs.YtdjfndijbnpkpaaDoor.Sh
namespace Go.Proofs.YtdjfndijbnpkpaaDoor.Sh
open Go Go.AM Go.Proofs Go.AM.Lx
structure Block.Good (b : Block) : Prop where
 label : 0 ≤ b.label ∧ b.label < 100000
 phis : b.phis = []
 instrs : ∀ x ∈ b.instrs, x.Good
 last : b.last.Good
namespace PS
end PS
theorem items_P {p : Prog} (h : ∀ b ∈ p, b.Good) : ∀ q ∈ rdP p, Item q := by
 intro q hq
 unfold rdP at hq
 obtain ⟨b, hb, hq⟩ := List.mem_flatMap.1 hq
 have g := h b hb
 unfold rdB at hq
 simp only [List.mem_append, List.mem_cons, List.not_mem_nil, or_false, List.mem_flatMap] at hq
 have hlb := g.label
 rcases hq with ((((rfl | rfl | rfl) | ⟨x, hx, hq⟩) | hq) | rfl)
 ·exact item_lab ⟨hlb.1, by omega⟩
 ·exact item_sign (by decide)
 ·exact item_line
 ·rcases hq with hq | rfl
  ·exact items_I (g.instrs x hx) q hq
  ·exact item_line
 ·exact items_L g.last q hq
 ·exact item_line
variable {K : Ctx} (hF : Fix pgF K)
include hF
end Go.Proofs.YtdjfndijbnpkpaaDoor.Sh
