/-
  What is read of the text of a program's tokens.
  Plain programs, laid out as tokens: they are read.
  Plain programs, laid out as tokens: they are read (blocks, programs).
-/
import Derived.Test.YtdjfndijbnpkpaaDoorTkA
set_option linter.unusedVariables false
set_option linter.unusedSimpArgs false
set_option linter.unusedSectionVars false
set_option maxRecDepth 100000
namespace Go.Proofs.YtdjfndijbnpkpaaDoor.Sh
open Go Go.AM Go.Proofs Go.AM.Lx
def same (a t : Tok) : Prop := t.kind = a.kind ∧ t.text = a.text ∧ t.n = a.n
inductive Lay : List Rd → List Tok → Prop
 | nil : Lay [] []
 | cons {p : Rd} {l : List Rd} {t : Tok} {ts : List Tok} (h : same p.2 t) (k : Lay l ts) : Lay (p :: l) (t :: ts)
 | dbl {p : Rd} {l : List Rd} {t u : Tok} {ts : List Tok} (h : p.2.kind = 7) (h1 : t.kind = 7) (h2 : u.kind = 7) (k : Lay l ts) : Lay (p :: l) (t :: u :: ts)
structure Item (p : Rd) : Prop where
 reads : Reads p.1 p.2
 line : p.1 = [10] → p.2 = rLine.2
theorem blanks (k : Int) (x : List UInt8) (a : Nat) : evs (gapW k ++ x) a = evs x (a + (gapW k).length) := by
 unfold gapW
 split
 ·rw [show [32, 32] ++ x = 32 :: 32 :: x from rfl, evs_blank _ _ (by decide), evs_blank _ _ (by decide)]
  rfl
 ·rw [show [32] ++ x = 32 :: x from rfl, evs_blank _ _ (by decide)]
  rfl
theorem gap_blank (k : Int) : ∃ g, gapW k = 32 :: g := by
 unfold gapW
 split
 ·exact ⟨[32], rfl⟩
 ·exact ⟨[], rfl⟩
theorem lay_text (gs : List Int) : ∀ (l : List Rd) (i a : Nat), (∀ p ∈ l, Item p) → ∃ ts, Lay l ts ∧ ∀ rest, evs (textG gs l i ++ rest) a = ts.map (fun t => (t, (0 : Int))) ++ evs rest (a + (textG gs l i).length) := by
 intro l
 induction l with
 | nil => intro i a _; exact ⟨[], .nil, fun rest => by simp [textG]⟩
 | cons p l ih =>
   intro i a h
   have hp := h p (List.mem_cons_self ..)
   generalize hk : gapAt gs i = k
   have hl := fun a => ih (i + 1) a fun q hq => h q (List.mem_cons_of_mem _ hq)
   have he : ∀ rest, textG gs (p :: l) i ++ rest = preW k p.1 ++ (p.1 ++ (gapW k ++ (textG gs l (i + 1) ++ rest))) := fun rest => by simp [textG, hk]
   have hlen : (textG gs (p :: l) i).length = (preW k p.1).length + p.1.length + (gapW k).length + (textG gs l (i + 1)).length := by simp [textG, hk, Nat.add_assoc]
   have tok : ∀ b, ∃ ts, Lay l ts ∧ ∀ rest, evs (p.1 ++ (gapW k ++ (textG gs l (i + 1) ++ rest))) b = ((⟨p.2.kind, b, p.2.text, p.2.n⟩ : Tok) :: ts).map (fun t => (t, (0 : Int))) ++ evs rest (b + p.1.length + (gapW k).length + (textG gs l (i + 1)).length) := fun b => by
    obtain ⟨ts, h1, h2⟩ := hl (b + p.1.length + (gapW k).length)
    refine ⟨ts, h1, fun rest => ?_⟩
    obtain ⟨g, hg⟩ := gap_blank k
    have : gapW k ++ (textG gs l (i + 1) ++ rest) = 32 :: (g ++ (textG gs l (i + 1) ++ rest)) := by rw [hg]; rfl
    rw [this, hp.reads.ok, ← this, blanks, h2]
    simp [Nat.add_assoc]
   by_cases c1 : p.1 = [10] ∧ k % 5 = 1
   ·have e : preW k p.1 = [32, 35, 32, 116, 114, 97, 112, 32, 64] := by unfold preW; rw [if_pos c1]
    obtain ⟨ts, h1, h2⟩ := tok (a + 9)
    refine ⟨_, .cons (t := ⟨p.2.kind, a + 9, p.2.text, p.2.n⟩) ⟨rfl, rfl, rfl⟩ h1, fun rest => ?_⟩
    rw [he, hlen, e]
    generalize hx : p.1 ++ (gapW k ++ (textG gs l (i + 1) ++ rest)) = x at *
    have hx10 : ∃ y, x = 10 :: y := by rw [← hx, c1.1]; exact ⟨_, rfl⟩
    obtain ⟨y, rfl⟩ := hx10
    have q1 : ((32 :: 116 :: 114 :: 97 :: 112 :: 32 :: 64 :: 10 :: y).dropWhile fun c : UInt8 => decide (c.toNat ≠ 10)) = 10 :: y := by simp [List.dropWhile]
    have q2 : ((32 :: 116 :: 114 :: 97 :: 112 :: 32 :: 64 :: 10 :: y).takeWhile fun c : UInt8 => decide (c.toNat ≠ 10)).length = 7 := by simp [List.takeWhile]
    have h2 := h2 rest
    rw [hx] at h2
    rw [show [32, 35, 32, 116, 114, 97, 112, 32, 64] ++ 10 :: y = 32 :: 35 :: 32 :: 116 :: 114 :: 97 :: 112 :: 32 :: 64 :: 10 :: y from rfl, evs_blank _ _ (by decide), evs_note _ _ (by decide), q1, q2, show a + 1 + 1 + 7 = a + 9 by omega, h2]
    simp [Nat.add_assoc]
   ·by_cases c2 : p.1 = [10] ∧ k % 5 = 2
    ·have e : preW k p.1 = [10, 32, 32] := by unfold preW; rw [if_neg c1, if_pos c2]
     obtain ⟨ts, h1, h2⟩ := tok (a + 3)
     have hp7 : p.2.kind = 7 := by rw [hp.line c2.1]; rfl
     refine ⟨_, .dbl (t := ⟨7, a, [], 0⟩) (u := ⟨p.2.kind, a + 3, p.2.text, p.2.n⟩) hp7 rfl hp7 h1, fun rest => ?_⟩
     have h2 := h2 rest
     rw [he, hlen, e]
     generalize p.1 ++ (gapW k ++ (textG gs l (i + 1) ++ rest)) = x at *
     rw [show [10, 32, 32] ++ x = 10 :: 32 :: 32 :: x from rfl, evs_line, evs_blank _ _ (by decide), evs_blank _ _ (by decide), show a + 1 + 1 + 1 = a + 3 by omega, h2]
     simp [Nat.add_assoc]
    ·have e : preW k p.1 = [] := by unfold preW; rw [if_neg c1, if_neg c2]
     obtain ⟨ts, h1, h2⟩ := tok a
     refine ⟨_, .cons (t := ⟨p.2.kind, a, p.2.text, p.2.n⟩) ⟨rfl, rfl, rfl⟩ h1, fun rest => ?_⟩
     rw [he, hlen, e, List.nil_append, h2 rest]
     simp [Nat.add_assoc]
theorem split_lay {gs : List Int} {l : List Rd} (h : ∀ p ∈ l, Item p) (hl : (textG gs l 0).length ≤ 100000) : ∃ ts e, Lay l ts ∧ e.kind = 0 ∧ split (events (textG gs l 0)) = (ts ++ [e], 0, 0) := by
 obtain ⟨ts, h1, h2⟩ := lay_text gs l 0 0 h
 refine ⟨ts, endT (textG gs l 0).length, h1, rfl, ?_⟩
 unfold events
 rw [if_neg (by omega)]
 have := h2 []
 rw [List.append_nil, evs_nil, Nat.zero_add] at this
 rw [this, split_toks, split_cons, if_pos rfl]
 unfold Lx.ahead Lx.split
 rfl
theorem lay_ne {p : Rd} {l : List Rd} {ts : List Tok} (h : Lay (p :: l) ts) (hk : p.2.kind ≠ 7) : ∃ t ts', ts = t :: ts' ∧ same p.2 t ∧ Lay l ts' := by
 cases h with
 | cons h k => exact ⟨_, _, rfl, h, k⟩
 | dbl h _ _ _ => exact absurd h hk
theorem lay_line {p : Rd} {l : List Rd} {ts : List Tok} (h : Lay (p :: l) ts) (hk : p.2.kind = 7) : ∃ t ls ts', ts = t :: (ls ++ ts') ∧ t.kind = 7 ∧ (∀ x ∈ ls, x.kind = 7) ∧ Lay l ts' := by
 cases h with
 | cons h k => exact ⟨_, [], _, rfl, by rw [h.1, hk], by simp, k⟩
 | dbl h h1 h2 k => exact ⟨_, [_], _, rfl, h1, by simpa using h2, k⟩
theorem item_reg {n : Int} (h : 0 ≤ n ∧ n ≤ 9223372036854775807) : Item (rReg n) := by
 obtain ⟨u, rfl⟩ : ∃ u : Nat, n = u := ⟨n.toNat, by omega⟩
 have e : Lib.itoa (u : Int) = Lib.decDigits u := by rw [itoa_pos (by omega)]; rfl
 refine ⟨?_, fun h => by cases h⟩
 have := Reads.mark (m := 37) (u := u) (by decide) (by omega)
 unfold rReg
 rw [e]
 exact this
theorem item_lab {n : Int} (h : 0 ≤ n ∧ n ≤ 9223372036854775807) : Item (rLab n) := by
 obtain ⟨u, rfl⟩ : ∃ u : Nat, n = u := ⟨n.toNat, by omega⟩
 have e : Lib.itoa (u : Int) = Lib.decDigits u := by rw [itoa_pos (by omega)]; rfl
 refine ⟨?_, fun h => by cases h⟩
 have := Reads.mark (m := 64) (u := u) (by decide) (by omega)
 unfold rLab
 rw [e]
 exact this
theorem item_slot {n : Int} (h : 0 ≤ n ∧ n ≤ 9223372036854775807) : Item (rSlot n) := by
 obtain ⟨u, rfl⟩ : ∃ u : Nat, n = u := ⟨n.toNat, by omega⟩
 have e : Lib.itoa (u : Int) = Lib.decDigits u := by rw [itoa_pos (by omega)]; rfl
 refine ⟨?_, fun h => by cases h⟩
 have := Reads.mark (m := 36) (u := u) (by decide) (by omega)
 unfold rSlot
 rw [e]
 exact this
theorem item_num {n : Int} (h : fitN n) : Item (rNum n) := by
 refine ⟨Reads.num h.1 h.2, fun h => ?_⟩
 exfalso
 unfold rNum at h
 by_cases c : n < 0
 ·rw [itoa_neg c] at h; cases h
 ·rw [itoa_pos c] at h
  have h : Lib.decDigits n.toNat = [10] := h
  have := isDig_range (decDigits_dig n.toNat 10 (by rw [h]; simp))
  simp at this
theorem item_sign {c : UInt8} (h : isSign c) : Item (rSign c) := ⟨Reads.sign h, fun e => by
 have : c = 10 := by unfold rSign at e; simpa using e
 subst this
 exact absurd h (by decide)⟩
theorem item_word {w : List UInt8} (h0 : w ≠ []) (h1 : ∀ c ∈ w, isLet c = true) (h2 : w.length ≤ 21) : Item (rWord w) := ⟨Reads.word h0 h1 h2, fun e => by
 have e : w = [10] := e
 subst e
 exact absurd (h1 10 (by simp)) (by decide)⟩
theorem item_line : Item rLine := ⟨Reads.line, fun _ => rfl⟩
end Go.Proofs.YtdjfndijbnpkpaaDoor.Sh
namespace Go.Proofs.YtdjfndijbnpkpaaDoor.Sh
open Go Go.AM Go.Proofs Go.AM.Lx
structure Instr.Good (x : Instr) : Prop where
 kind : 0 ≤ x.kind ∧ x.kind < 9
 op : 0 ≤ x.op ∧ x.op < 12
 only : x = x.only
 dst : 0 ≤ x.dst ∧ x.dst < 100000
 a : 0 ≤ x.a ∧ x.a < 100000
 b : 0 ≤ x.b ∧ x.b < 100000
 slot : 0 ≤ x.slot ∧ x.slot < 16
 n : fitN x.n
theorem good_of {x : Instr} (hc : x.check = 0) (hk : 0 ≤ x.kind) (ho : 0 ≤ x.op) (hn : fitN x.n) : x.Good := by
 unfold Instr.check at hc
 split at hc
 ·cases hc
 ·rename_i h1
  split at hc
  ·cases hc
  ·rename_i h2
   split at hc
   ·cases hc
   ·rename_i h3
    have h2 : x = x.only := Classical.byContradiction h2
    have hop : x.op < 12 := by
     by_cases k2 : x.kind = 2
     ·omega
     ·have : x.op = 0 := by rw [h2]; unfold Instr.only; simp [k2]
      omega
    simp only [not_or, Bool.not_eq_true', Bool.not_eq_false', isReg, decide_eq_true_eq, decide_eq_false_iff_not, Classical.not_not] at h3
    simp [isReg] at h3
    exact ⟨⟨hk, by omega⟩, ⟨ho, hop⟩, h2, h3.1, h3.2.1, h3.2.2.1, ⟨by omega, by omega⟩, hn⟩
structure Last.Good (l : Last) : Prop where
 kind : 0 ≤ l.kind ∧ l.kind < 4
 only : l = l.only
 a : 0 ≤ l.a ∧ l.a < 100000
 yes : 0 ≤ l.yes ∧ l.yes < 100000
 no : 0 ≤ l.no ∧ l.no < 100000
theorem opWord_ok {o : Int} (h : 0 ≤ o ∧ o < 12) : findOp (opWord o) = some o.toNat ∧ opWord o ≠ [] ∧ (∀ c ∈ opWord o, isLet c = true) ∧ (opWord o).length ≤ 21 := by
 obtain ⟨i, rfl⟩ : ∃ i : Nat, o = i := ⟨o.toNat, by omega⟩
 have hi : i < 12 := by omega
 have e : ((i : Int) % 12).toNat = i := by omega
 unfold opWord
 rw [e]
 have key : ∀ j : Fin 12, findOp (opNames.getD j.val []) = some j.val ∧ opNames.getD j.val [] ≠ [] ∧ (∀ c ∈ opNames.getD j.val [], isLet c = true) ∧ (opNames.getD j.val []).length ≤ 21 := by decide
 have := key ⟨i, hi⟩
 simpa using this
theorem items_I {x : Instr} (h : x.Good) : ∀ p ∈ rdI x, Item p := by
 have hr : ∀ n : Int, 0 ≤ n ∧ n < 100000 → Item (rReg n) := fun n hn => item_reg ⟨hn.1, by omega⟩
 have ho := opWord_ok h.op
 have hs : Item (rSlot x.slot) := item_slot ⟨h.slot.1, by have := h.slot.2; omega⟩
 unfold rdI
 repeat' split
 all_goals simp only [List.forall_mem_cons]
 all_goals (repeat' apply And.intro)
 all_goals first
  | exact hr _ h.dst
  | exact hr _ h.a
  | exact hr _ h.b
  | exact hs
  | exact item_num h.n
  | exact item_word ho.2.1 ho.2.2.1 ho.2.2.2
  | exact item_sign (by decide)
  | exact item_word (by decide) (by decide) (by decide)
  | (intro p hp; cases hp)
theorem items_L {l : Last} (h : l.Good) : ∀ p ∈ rdL l, Item p := by
 have hr : ∀ n : Int, 0 ≤ n ∧ n < 100000 → Item (rReg n) := fun n hn => item_reg ⟨hn.1, by omega⟩
 have hl : ∀ n : Int, 0 ≤ n ∧ n < 100000 → Item (rLab n) := fun n hn => item_lab ⟨hn.1, by omega⟩
 unfold rdL
 repeat' split
 all_goals simp only [List.forall_mem_cons]
 all_goals (repeat' apply And.intro)
 all_goals first
  | exact hr _ h.a
  | exact hl _ h.yes
  | exact hl _ h.no
  | exact item_sign (by decide)
  | exact item_word (by decide) (by decide) (by decide)
  | (intro p hp; cases hp)
namespace PS
theorem last_none {t : Tok} {r : List Tok} {a : Nat} (h : t.kind = 1 → t.text ≠ wJump ∧ t.text ≠ wBr ∧ t.text ≠ wRet ∧ t.text ≠ wTrap) : last ⟨t :: r, a, 0⟩ = ((⟨0, 0, 0, 0⟩, false), ⟨t :: r, a, 0⟩) := by
 by_cases hk : t.kind = 1
 ·obtain ⟨h1, h2, h3, h4⟩ := h hk
  unfold last
  rw [word_ok hk, if_neg h1, if_neg h2, if_neg h3, if_neg h4]
 ·exact last_no hk
theorem instr_lay {x : Instr} (h : x.Good) {l : List Rd} {ts : List Tok} (hl : Lay (rdI x ++ l) ts) (r : List Tok) (a : Nat) :
 ∃ t u ts', ts = t :: u ∧ t.kind ≠ 7 ∧ last ⟨ts ++ r, a, 0⟩ = ((⟨0, 0, 0, 0⟩, false), ⟨ts ++ r, a, 0⟩) ∧ Lay l ts' ∧ instr ⟨ts ++ r, a, 0⟩ = (x, ⟨ts' ++ r, a, 0⟩) := by
 have hon := h.only
 have hd := h.dst; have ha := h.a; have hb := h.b; have hs := h.slot; have ho := h.op
 have hk := h.kind
 obtain ⟨k, o, d, xa, xb, n, sl⟩ := x
 simp only at hd ha hb hs ho hk
 simp only [Instr.only, Instr.sets, Instr.reads, Instr.mk.injEq] at hon
 have sets : ∀ (p : Rd) (m : List Rd), Lay (rReg d :: rSign 61 :: (p :: m ++ l)) ts → p.2.kind ≠ 7 → ∃ t1 t2 t3 u, ts = t1 :: t2 :: t3 :: u ∧ t1.kind = 2 ∧ t1.n = d ∧ t2.kind = 6 ∧ t2.text = [61] ∧ same p.2 t3 ∧ Lay (m ++ l) u := fun p m hm hp => by
  obtain ⟨t1, u1, rfl, s1, hm⟩ := lay_ne hm (by simp [rReg])
  obtain ⟨t2, u2, rfl, s2, hm⟩ := lay_ne hm (by simp [rSign])
  obtain ⟨t3, u3, rfl, s3, hm⟩ := lay_ne hm hp
  exact ⟨t1, t2, t3, u3, rfl, s1.1, s1.2.2, s2.1, s2.2.1, s3, hm⟩
 have head : ∀ (t1 t2 t3 : Tok) (u v : List Tok) (y : Instr), t1.kind = 2 → t1.n = d → t2.kind = 6 → t2.text = [61] → right ⟨t3 :: (u ++ r), a, 0⟩ = (y, ⟨v, a, 0⟩) → instr ⟨t1 :: t2 :: t3 :: (u ++ r), a, 0⟩ = ({ y with dst := d }, ⟨v, a, 0⟩) := fun t1 t2 t3 u v y h1 h2 h3 h4 h5 => by
  unfold instr
  rw [word_no (by rw [h1]; decide), if_neg (by decide), if_neg (by decide), if_neg (by decide), reg_ok h1 (by omega)]
  simp only
  rw [sign_ok h3 h4, h5, h2]
  rfl
 have rword : ∀ (t3 : Tok) (v : List Tok), t3.kind = 1 → is 5 [] ⟨t3 :: v, a, 0⟩ = false ∧ is 2 [] ⟨t3 :: v, a, 0⟩ = false ∧ word ⟨t3 :: v, a, 0⟩ = t3.text := fun t3 v hk => ⟨is_no (by rw [hk]; decide), is_no (by rw [hk]; decide), word_ok hk⟩
 rcases (show k = 0 ∨ k = 1 ∨ k = 2 ∨ k = 3 ∨ k = 4 ∨ k = 5 ∨ k = 6 ∨ k = 7 ∨ k = 8 by omega) with rfl | rfl | rfl | rfl | rfl | rfl | rfl | rfl | rfl
 ·simp [rdI] at hl hon
  obtain ⟨rfl, rfl, rfl, rfl⟩ := hon
  obtain ⟨t1, t2, t3, u, rfl, h1, h2, h3, h4, s3, hm⟩ := sets (rNum n) [] hl (by simp [rNum])
  have k3 : t3.kind = 5 := s3.1
  have n3 : t3.n = n := s3.2.2
  refine ⟨t1, _, u, rfl, by rw [h1]; decide, last_no (by rw [h1]; decide), hm, ?_⟩
  refine head t1 t2 t3 u _ ⟨0, 0, 0, 0, 0, n, 0⟩ h1 h2 h3 h4 ?_
  unfold right
  rw [is_ok k3 (.inl rfl)]
  simp [PS.hd, adv, n3]
 ·simp [rdI] at hl hon
  obtain ⟨rfl, rfl, rfl, rfl⟩ := hon
  obtain ⟨t1, t2, t3, u, rfl, h1, h2, h3, h4, s3, hm⟩ := sets (rReg xa) [] hl (by simp [rReg])
  have k3 : t3.kind = 2 := s3.1
  have n3 : t3.n = xa := s3.2.2
  refine ⟨t1, _, u, rfl, by rw [h1]; decide, last_no (by rw [h1]; decide), hm, ?_⟩
  refine head t1 t2 t3 u _ ⟨1, 0, 0, xa, 0, 0, 0⟩ h1 h2 h3 h4 ?_
  unfold right
  rw [is_no (by rw [k3]; decide), is_ok k3 (.inl rfl), reg_ok k3 (by omega), n3]
  rfl
 ·simp [rdI] at hl hon
  obtain ⟨rfl, rfl⟩ := hon
  obtain ⟨t1, t2, t3, u, rfl, h1, h2, h3, h4, s3, hm⟩ := sets (rWord (opWord o)) [rReg xa, rSign 44, rReg xb] hl (by simp [rWord])
  have k3 : t3.kind = 1 := s3.1
  have x3 : t3.text = opWord o := s3.2.1
  obtain ⟨t4, u4, rfl, s4, hm⟩ := lay_ne hm (by simp [rReg])
  obtain ⟨t5, u5, rfl, s5, hm⟩ := lay_ne hm (by simp [rSign])
  obtain ⟨t6, u6, rfl, s6, hm⟩ := lay_ne hm (by simp [rReg])
  have k4 : t4.kind = 2 := s4.1
  have n4 : t4.n = xa := s4.2.2
  have k6 : t6.kind = 2 := s6.1
  have n6 : t6.n = xb := s6.2.2
  refine ⟨t1, _, u6, rfl, by rw [h1]; decide, last_no (by rw [h1]; decide), hm, ?_⟩
  refine head t1 t2 t3 (t4 :: t5 :: t6 :: u6) _ ⟨2, o, 0, xa, xb, 0, 0⟩ h1 h2 h3 h4 ?_
  obtain ⟨w1, w2, w3⟩ := rword t3 (t4 :: t5 :: t6 :: (u6 ++ r)) k3
  obtain ⟨f1, f2, f3, f4⟩ := opWord_ok ho
  unfold right
  simp only [List.cons_append]
  rw [w1, w2, w3, x3, f1]
  simp only [Bool.false_eq_true, if_false, adv_ok]
  rw [reg_ok k4 (by omega)]
  simp only
  rw [sign_ok s5.1 s5.2.1, reg_ok k6 (by omega), n4, n6]
  have : ((o.toNat : Nat) : Int) = o := by omega
  rw [this]
 ·simp [rdI] at hl hon
  obtain ⟨rfl, rfl, rfl, rfl, rfl⟩ := hon
  obtain ⟨t1, t2, t3, u, rfl, h1, h2, h3, h4, s3, hm⟩ := sets (rWord wIn) [] hl (by simp [rWord])
  have k3 : t3.kind = 1 := s3.1
  have x3 : t3.text = wIn := s3.2.1
  refine ⟨t1, _, u, rfl, by rw [h1]; decide, last_no (by rw [h1]; decide), hm, ?_⟩
  refine head t1 t2 t3 u _ ⟨3, 0, 0, 0, 0, 0, 0⟩ h1 h2 h3 h4 ?_
  obtain ⟨w1, w2, w3⟩ := rword t3 (u ++ r) k3
  have f1 : findOp wIn = none := by decide
  unfold right
  rw [w1, w2, w3, x3, f1]
  simp only [Bool.false_eq_true, if_false, if_true]
  rfl
 ·simp [rdI] at hl hon
  obtain ⟨rfl, rfl, rfl, rfl, rfl⟩ := hon
  obtain ⟨t1, u1, rfl, s1, hm⟩ := lay_ne hl (by simp [rWord])
  obtain ⟨t2, u2, rfl, s2, hm⟩ := lay_ne hm (by simp [rReg])
  have k1 : t1.kind = 1 := s1.1
  have x1 : t1.text = wOut := s1.2.1
  have k2 : t2.kind = 2 := s2.1
  have n2 : t2.n = xa := s2.2.2
  refine ⟨t1, _, u2, rfl, by rw [k1]; decide, last_none (fun _ => by rw [x1]; decide), hm, ?_⟩
  unfold instr
  simp only [List.cons_append]
  rw [word_ok k1, x1, if_pos rfl, adv_ok, reg_ok k2 (by omega), n2]
 ·simp [rdI] at hl hon
  obtain ⟨rfl, rfl, rfl, rfl⟩ := hon
  obtain ⟨t1, t2, t3, u, rfl, h1, h2, h3, h4, s3, hm⟩ := sets (rWord wLoad) [rSlot sl] hl (by simp [rWord])
  have k3 : t3.kind = 1 := s3.1
  have x3 : t3.text = wLoad := s3.2.1
  obtain ⟨t4, u4, rfl, s4, hm⟩ := lay_ne hm (by simp [rSlot])
  have k4 : t4.kind = 4 := s4.1
  have n4 : t4.n = sl := s4.2.2
  refine ⟨t1, _, u4, rfl, by rw [h1]; decide, last_no (by rw [h1]; decide), hm, ?_⟩
  refine head t1 t2 t3 (t4 :: u4) _ ⟨5, 0, 0, 0, 0, 0, sl⟩ h1 h2 h3 h4 ?_
  obtain ⟨w1, w2, w3⟩ := rword t3 (t4 :: (u4 ++ r)) k3
  have f1 : findOp wLoad = none := by decide
  unfold right
  simp only [List.cons_append]
  rw [w1, w2, w3, x3, f1]
  simp only [Bool.false_eq_true, if_false, adv_ok]
  rw [if_neg (by decide), if_pos trivial, slot_ok k4 (by omega), n4]
 ·simp [rdI] at hl hon
  obtain ⟨rfl, rfl, rfl, rfl⟩ := hon
  obtain ⟨t1, u1, rfl, s1, hm⟩ := lay_ne hl (by simp [rWord])
  obtain ⟨t2, u2, rfl, s2, hm⟩ := lay_ne hm (by simp [rSlot])
  obtain ⟨t3, u3, rfl, s3, hm⟩ := lay_ne hm (by simp [rSign])
  obtain ⟨t4, u4, rfl, s4, hm⟩ := lay_ne hm (by simp [rReg])
  have k1 : t1.kind = 1 := s1.1
  have x1 : t1.text = wStore := s1.2.1
  have k2 : t2.kind = 4 := s2.1
  have n2 : t2.n = sl := s2.2.2
  have k4 : t4.kind = 2 := s4.1
  have n4 : t4.n = xa := s4.2.2
  refine ⟨t1, _, u4, rfl, by rw [k1]; decide, last_none (fun _ => by rw [x1]; decide), hm, ?_⟩
  unfold instr
  simp only [List.cons_append]
  rw [word_ok k1, x1, if_neg (by decide), if_pos rfl, adv_ok, slot_ok k2 (by omega)]
  simp only
  rw [sign_ok s3.1 s3.2.1, reg_ok k4 (by omega), n2, n4]
 ·simp [rdI] at hl hon
  obtain ⟨rfl, rfl, rfl, rfl⟩ := hon
  obtain ⟨t1, t2, t3, u, rfl, h1, h2, h3, h4, s3, hm⟩ := sets (rWord wGet) [rReg xa] hl (by simp [rWord])
  have k3 : t3.kind = 1 := s3.1
  have x3 : t3.text = wGet := s3.2.1
  obtain ⟨t4, u4, rfl, s4, hm⟩ := lay_ne hm (by simp [rReg])
  have k4 : t4.kind = 2 := s4.1
  have n4 : t4.n = xa := s4.2.2
  refine ⟨t1, _, u4, rfl, by rw [h1]; decide, last_no (by rw [h1]; decide), hm, ?_⟩
  refine head t1 t2 t3 (t4 :: u4) _ ⟨7, 0, 0, xa, 0, 0, 0⟩ h1 h2 h3 h4 ?_
  obtain ⟨w1, w2, w3⟩ := rword t3 (t4 :: (u4 ++ r)) k3
  have f1 : findOp wGet = none := by decide
  unfold right
  simp only [List.cons_append]
  rw [w1, w2, w3, x3, f1]
  simp only [Bool.false_eq_true, if_false, adv_ok]
  rw [if_neg (by decide), if_neg (by decide), if_pos trivial, reg_ok k4 (by omega), n4]
 ·simp [rdI] at hl hon
  obtain ⟨rfl, rfl, rfl, rfl⟩ := hon
  obtain ⟨t1, u1, rfl, s1, hm⟩ := lay_ne hl (by simp [rWord])
  obtain ⟨t2, u2, rfl, s2, hm⟩ := lay_ne hm (by simp [rReg])
  obtain ⟨t3, u3, rfl, s3, hm⟩ := lay_ne hm (by simp [rSign])
  obtain ⟨t4, u4, rfl, s4, hm⟩ := lay_ne hm (by simp [rReg])
  have k1 : t1.kind = 1 := s1.1
  have x1 : t1.text = wPut := s1.2.1
  have k2 : t2.kind = 2 := s2.1
  have n2 : t2.n = xa := s2.2.2
  have k4 : t4.kind = 2 := s4.1
  have n4 : t4.n = xb := s4.2.2
  refine ⟨t1, _, u4, rfl, by rw [k1]; decide, last_none (fun _ => by rw [x1]; decide), hm, ?_⟩
  unfold instr
  simp only [List.cons_append]
  rw [word_ok k1, x1, if_neg (by decide), if_neg (by decide), if_pos rfl, adv_ok, reg_ok k2 (by omega)]
  simp only
  rw [sign_ok s3.1 s3.2.1, reg_ok k4 (by omega), n2, n4]
theorem last_lay {e : Last} (h : e.Good) {l : List Rd} {ts : List Tok} (hl : Lay (rdL e ++ l) ts) (r : List Tok) (a : Nat) :
 ∃ t u ts', ts = t :: u ∧ t.kind ≠ 7 ∧ Lay l ts' ∧ last ⟨ts ++ r, a, 0⟩ = ((e, true), ⟨ts' ++ r, a, 0⟩) := by
 have hon := h.only
 have ha := h.a; have hy := h.yes; have hn := h.no; have hk := h.kind
 obtain ⟨k, xa, y, n⟩ := e
 simp only at ha hy hn hk
 simp only [Last.only, Last.mk.injEq] at hon
 rcases (show k = 0 ∨ k = 1 ∨ k = 2 ∨ k = 3 by omega) with rfl | rfl | rfl | rfl
 ·simp [rdL] at hl hon
  obtain ⟨rfl, rfl⟩ := hon
  obtain ⟨t1, u1, rfl, s1, hm⟩ := lay_ne hl (by simp [rWord])
  obtain ⟨t2, u2, rfl, s2, hm⟩ := lay_ne hm (by simp [rLab])
  have k1 : t1.kind = 1 := s1.1
  have x1 : t1.text = wJump := s1.2.1
  have k2 : t2.kind = 3 := s2.1
  have n2 : t2.n = y := s2.2.2
  refine ⟨t1, _, u2, rfl, by rw [k1]; decide, hm, ?_⟩
  unfold last
  simp only [List.cons_append]
  rw [word_ok k1, x1, if_pos rfl, adv_ok, label_ok k2 (by omega), n2]
 ·simp [rdL] at hl hon
  obtain ⟨t1, u1, rfl, s1, hm⟩ := lay_ne hl (by simp [rWord])
  obtain ⟨t2, u2, rfl, s2, hm⟩ := lay_ne hm (by simp [rReg])
  obtain ⟨t3, u3, rfl, s3, hm⟩ := lay_ne hm (by simp [rSign])
  obtain ⟨t4, u4, rfl, s4, hm⟩ := lay_ne hm (by simp [rLab])
  obtain ⟨t5, u5, rfl, s5, hm⟩ := lay_ne hm (by simp [rSign])
  obtain ⟨t6, u6, rfl, s6, hm⟩ := lay_ne hm (by simp [rLab])
  have k1 : t1.kind = 1 := s1.1
  have x1 : t1.text = wBr := s1.2.1
  have k2 : t2.kind = 2 := s2.1
  have n2 : t2.n = xa := s2.2.2
  have k4 : t4.kind = 3 := s4.1
  have n4 : t4.n = y := s4.2.2
  have k6 : t6.kind = 3 := s6.1
  have n6 : t6.n = n := s6.2.2
  refine ⟨t1, _, u6, rfl, by rw [k1]; decide, hm, ?_⟩
  unfold last
  simp only [List.cons_append]
  rw [word_ok k1, x1, if_neg (by decide), if_pos rfl, adv_ok, reg_ok k2 (by omega)]
  simp only
  rw [sign_ok s3.1 s3.2.1, label_ok k4 (by omega)]
  simp only
  rw [sign_ok s5.1 s5.2.1, label_ok k6 (by omega), n2, n4, n6]
 ·simp [rdL] at hl hon
  obtain ⟨rfl, rfl⟩ := hon
  obtain ⟨t1, u1, rfl, s1, hm⟩ := lay_ne hl (by simp [rWord])
  obtain ⟨t2, u2, rfl, s2, hm⟩ := lay_ne hm (by simp [rReg])
  have k1 : t1.kind = 1 := s1.1
  have x1 : t1.text = wRet := s1.2.1
  have k2 : t2.kind = 2 := s2.1
  have n2 : t2.n = xa := s2.2.2
  refine ⟨t1, _, u2, rfl, by rw [k1]; decide, hm, ?_⟩
  unfold last
  simp only [List.cons_append]
  rw [word_ok k1, x1, if_neg (by decide), if_neg (by decide), if_pos rfl, adv_ok, reg_ok k2 (by omega), n2]
 ·simp [rdL] at hl hon
  obtain ⟨rfl, rfl, rfl⟩ := hon
  obtain ⟨t1, u1, rfl, s1, hm⟩ := lay_ne hl (by simp [rWord])
  refine ⟨t1, _, u1, rfl, by rw [s1.1]; decide, hm, ?_⟩
  exact last_trap s1.1 s1.2.1
end PS
end Go.Proofs.YtdjfndijbnpkpaaDoor.Sh
namespace Go.Proofs.YtdjfndijbnpkpaaDoor.Sh
open Go Go.AM Go.Proofs Go.AM.Lx
structure Block.Good (b : Block) : Prop where
 label : 0 ≤ b.label ∧ b.label < 100000
 phis : b.phis = []
 instrs : ∀ x ∈ b.instrs, x.Good
 last : b.last.Good
namespace PS
theorem bloop_lay {e : Last} (he : e.Good) {l : List Rd} : ∀ (xs : List Instr) (ls ts : List Tok) (f : Nat) (r : List Tok) (a : Nat) (acc : List Instr), (∀ x ∈ xs, x.Good) → (∀ x ∈ ls, x.kind = 7) → Lay ((xs.flatMap fun x => rdI x ++ [rLine]) ++ (rdL e ++ rLine :: l)) ts →
 ∃ ts', Lay (rLine :: l) ts' ∧ bloop (f + xs.length + 1) ⟨ls ++ (ts ++ r), a, 0⟩ acc = some (acc ++ xs, e, ⟨ts' ++ r, a, 0⟩) := by
 intro xs
 induction xs with
 | nil =>
   intro ls ts f r a acc hx hls hl
   obtain ⟨t, u, ts', rfl, h1, h2, h3⟩ := last_lay he (l := rLine :: l) (ts := ts) (by simpa using hl) r a
   refine ⟨ts', h2, ?_⟩
   have hln : lines ⟨ls ++ (t :: u ++ r), a, 0⟩ = ⟨t :: u ++ r, a, 0⟩ := lines_ok hls h1
   show (if _ then _ else _) = _
   rw [if_pos rfl, hln, h3]
   simp
 | cons x xs ih =>
   intro ls ts f r a acc hx hls hl
   have hl : Lay (rdI x ++ (rLine :: ((xs.flatMap fun x => rdI x ++ [rLine]) ++ (rdL e ++ rLine :: l)))) ts := by simpa using hl
   obtain ⟨t, u, ts1, rfl, h1, h2, h3, h4⟩ := instr_lay (hx x (List.mem_cons_self ..)) hl r a
   obtain ⟨t7, ls', ts2, rfl, h5, h6, h7⟩ := lay_line h3 rfl
   obtain ⟨ts', h8, h9⟩ := ih ls' ts2 f r a (acc ++ [x]) (fun y hy => hx y (List.mem_cons_of_mem _ hy)) h6 h7
   refine ⟨ts', h8, ?_⟩
   have hln : lines ⟨ls ++ (t :: u ++ r), a, 0⟩ = ⟨t :: u ++ r, a, 0⟩ := lines_ok hls h1
   rw [List.length_cons, show f + (xs.length + 1) + 1 = (f + xs.length + 1) + 1 by omega]
   show (if _ then _ else _) = _
   rw [if_pos rfl, hln, h2]
   simp only [Bool.false_eq_true, if_false]
   rw [h4]
   simp only
   have e1 : t7 :: (ls' ++ ts2) ++ r = t7 :: (ls' ++ (ts2 ++ r)) := by simp
   rw [e1, eol_ok h5, h9]
   simp
theorem block_lay {b : Block} (hb : b.Good) {l : List Rd} {ts : List Tok} (hl : Lay (rdB b ++ l) ts) {f : Nat} (hf : b.instrs.length + 1 ≤ f) (r : List Tok) (a : Nat) :
 ∃ t u ls ts', ts = t :: u ∧ t.kind = 3 ∧ (∀ x ∈ ls, x.kind = 7) ∧ Lay l ts' ∧ block f ⟨ts ++ r, a, 0⟩ = some (b, ⟨ls ++ (ts' ++ r), a, 0⟩) := by
 have hl : Lay (rLab b.label :: rSign 58 :: rLine :: ((b.instrs.flatMap fun x => rdI x ++ [rLine]) ++ (rdL b.last ++ rLine :: l))) ts := by
  unfold rdB at hl
  simpa using hl
 obtain ⟨t1, u1, rfl, s1, hm⟩ := lay_ne hl (by simp [rLab])
 obtain ⟨t2, u2, rfl, s2, hm⟩ := lay_ne hm (by simp [rSign])
 obtain ⟨t3, ls3, u3, rfl, k3, hls3, hm⟩ := lay_line hm rfl
 have k1 : t1.kind = 3 := s1.1
 have n1 : t1.n = b.label := s1.2.2
 have hlab := hb.label
 obtain ⟨g, rfl⟩ : ∃ g, f = g + b.instrs.length + 1 := ⟨f - b.instrs.length - 1, by omega⟩
 obtain ⟨ts4, hm4, hbl⟩ := bloop_lay hb.last b.instrs ls3 u3 g r a [] hb.instrs hls3 hm
 obtain ⟨t5, ls5, ts5, rfl, k5, hls5, hm5⟩ := lay_line hm4 rfl
 refine ⟨t1, _, ls5, ts5, rfl, k1, hls5, hm5, ?_⟩
 unfold block
 have e0 : t1 :: t2 :: t3 :: (ls3 ++ u3) ++ r = t1 :: t2 :: t3 :: (ls3 ++ (u3 ++ r)) := by simp
 have e5 : t5 :: (ls5 ++ ts5) ++ r = t5 :: (ls5 ++ (ts5 ++ r)) := by simp
 rw [e0, label_ok k1 (by omega)]
 simp only
 rw [sign_ok s2.1 s2.2.1, eol_ok k3, hbl]
 simp only
 rw [e5, is_no (by rw [k5]; decide), eol_ok k5, n1, List.nil_append]
 simp only [Bool.false_eq_true, if_false]
 have := hb.phis
 obtain ⟨lb, ph, is, la⟩ := b
 simp only at this
 subst this
 rfl
theorem progL_lay {N : Nat} {e : Tok} (he : e.kind = 0) : ∀ (p : Prog) (ls ts : List Tok) (f : Nat) (acc : Prog), (∀ b ∈ p, b.Good ∧ b.instrs.length ≤ N) → (∀ x ∈ ls, x.kind = 7) → Lay (rdP p) ts → p.length + N + 2 ≤ f → ∃ S, progL f (lines ⟨ls ++ (ts ++ [e]), 0, 0⟩) acc = some (acc ++ p, S) ∧ S.err = 0 := by
 intro p
 induction p with
 | nil =>
   intro ls ts f acc hp hls hl hf
   have hl : Lay [] ts := by simpa [rdP] using hl
   cases hl
   obtain ⟨f, rfl⟩ : ∃ g, f = g + 1 := ⟨f - 1, by omega⟩
   have hln : lines ⟨ls ++ ([] ++ [e]), 0, 0⟩ = ⟨[e], 0, 0⟩ := lines_ok hls (by rw [he]; decide)
   rw [hln]
   refine ⟨⟨[e], 0, 0⟩, ?_, rfl⟩
   show (if _ then _ else _) = _
   rw [is_no (by rw [he]; decide), if_neg (by decide)]
   unfold take
   rw [is_ok he (.inl rfl)]
   simp
 | cons b p ih =>
   intro ls ts f acc hp hls hl hf
   have hl : Lay (rdB b ++ rdP p) ts := by simpa [rdP] using hl
   obtain ⟨hb, hN⟩ := hp b (List.mem_cons_self ..)
   simp only [List.length_cons] at hf
   obtain ⟨f, rfl⟩ : ∃ g, f = g + 1 := ⟨f - 1, by omega⟩
   obtain ⟨t, u, ls', ts', rfl, k1, h2, h3, h4⟩ := block_lay hb hl (f := f) (by omega) [e] 0
   obtain ⟨S, h5, h6⟩ := ih ls' ts' f (acc ++ [b]) (fun c hc => hp c (List.mem_cons_of_mem _ hc)) h2 h3 (by omega)
   refine ⟨S, ?_, h6⟩
   have hln : lines ⟨ls ++ (t :: u ++ [e]), 0, 0⟩ = ⟨t :: u ++ [e], 0, 0⟩ := lines_ok hls (by rw [k1]; decide)
   rw [hln]
   show (if _ then _ else _) = _
   rw [show t :: u ++ [e] = t :: (u ++ [e]) from rfl, is_ok k1 (.inl rfl), if_pos rfl, show t :: (u ++ [e]) = t :: u ++ [e] from rfl, h4]
   simp only
   rw [h5]
   simp
end PS
theorem items_P {p : Prog} (h : ∀ b ∈ p, b.Good) : ∀ q ∈ rdP p, Item q := by
 intro q hq
 unfold rdP at hq
 obtain ⟨b, hb, hq⟩ := List.mem_flatMap.1 hq
 have g := h b hb
 unfold rdB at hq
 simp only [List.mem_append, List.mem_cons, List.not_mem_nil, or_false, List.mem_flatMap] at hq
 have hlb := g.label
 rcases hq with ((((rfl | rfl | rfl) | ⟨x, hx, hq⟩) | hq) | rfl)
 ·exact item_lab ⟨hlb.1, by omega⟩
 ·exact item_sign (by decide)
 ·exact item_line
 ·rcases hq with hq | rfl
  ·exact items_I (g.instrs x hx) q hq
  ·exact item_line
 ·exact items_L g.last q hq
 ·exact item_line
variable {K : Ctx} (hF : Fix pgF K)
include hF
theorem Parse_text {p : Prog} {gs : List Int} (hg : ∀ b ∈ p, b.Good) (hc : check p = 0) (hcnt : count p < 4001) (hlen : (textG gs (rdP p) 0).length ≤ 100000) {st : St} (hv : VOk st) :
 Ok (K.go (.call n_parse_Parse [T (textG gs (rdP p) 0)]) st) (ParsePost st p 0 0) := by
 obtain ⟨ts, e, hl, he, hsp⟩ := split_lay (gs := gs) (items_P hg) hlen
 have hmem : ∀ b ∈ p, b.instrs.length ≤ 4000 := fun b hb => by
  have := count_mem hb
  omega
 have hpl := len_le p
 obtain ⟨S, h1, h2⟩ := PS.progL_lay (N := 4000) he p [] ts 10000 [] (fun b hb => ⟨hg b hb, hmem b hb⟩) (by simp) hl (by omega)
 refine Parse_all hF (by unfold Short; omega) hv (fun hne => by rw [hsp] at hne; exact absurd rfl hne) fun _ => ?_
 rw [hsp]
 refine ⟨10000, p, S, by omega, ?_, fun hne => absurd h2 hne, fun _ => ⟨by omega, fun b hb => (hg b hb).phis, fun h => absurd hc h, fun _ => ⟨rfl, rfl, rfl⟩⟩⟩
 have h1' : PS.progL 10000 (PS.lines ⟨ts ++ [e], 0, 0⟩) [] = some (p, S) := by simpa using h1
 exact h1'
end Go.Proofs.YtdjfndijbnpkpaaDoor.Sh
