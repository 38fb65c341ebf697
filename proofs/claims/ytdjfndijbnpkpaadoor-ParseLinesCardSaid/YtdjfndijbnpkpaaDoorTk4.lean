/-
  What is read of the text of a program's tokens.
-/
import Derived.Test.YtdjfndijbnpkpaaDoorTk3
set_option linter.unusedVariables false
set_option linter.unusedSimpArgs false
set_option linter.unusedSectionVars false
set_option maxRecDepth 100000
namespace Go.Proofs.YtdjfndijbnpkpaaDoor.Sh
open Go Go.AM Go.Proofs Go.AM.Lx

/-- The same token, wherever. -/
def same (a t : Tok) : Prop := t.kind = a.kind ∧ t.text = a.text ∧ t.n = a.n
inductive Lay : List Rd → List Tok → Prop
  | nil : Lay [] []
  | cons {p : Rd} {l : List Rd} {t : Tok} {ts : List Tok} (h : same p.2 t) (k : Lay l ts) : Lay (p :: l) (t :: ts)
  | dbl {p : Rd} {l : List Rd} {t u : Tok} {ts : List Tok} (h : p.2.kind = 7) (h1 : t.kind = 7) (h2 : u.kind = 7) (k : Lay l ts) : Lay (p :: l) (t :: u :: ts)
structure Item (p : Rd) : Prop where
  reads : Reads p.1 p.2
  line : p.1 = [10] → p.2 = rLine.2

theorem blanks (k : Int) (x : List UInt8) (a : Nat) : evs (gapW k ++ x) a = evs x (a + (gapW k).length) := by
  unfold gapW
  split
  · rw [show [32, 32] ++ x = 32 :: 32 :: x from rfl, evs_blank _ _ (by decide), evs_blank _ _ (by decide)]
    rfl
  · rw [show [32] ++ x = 32 :: x from rfl, evs_blank _ _ (by decide)]
    rfl
theorem gap_blank (k : Int) : ∃ g, gapW k = 32 :: g := by
  unfold gapW
  split
  · exact ⟨[32], rfl⟩
  · exact ⟨[], rfl⟩
theorem lay_text (gs : List Int) : ∀ (l : List Rd) (i a : Nat), (∀ p ∈ l, Item p) → ∃ ts, Lay l ts ∧ ∀ rest, evs (textG gs l i ++ rest) a = ts.map (fun t => (t, (0 : Int))) ++ evs rest (a + (textG gs l i).length) := by
  intro l
  induction l with
  | nil => intro i a _; exact ⟨[], .nil, fun rest => by simp [textG]⟩
  | cons p l ih =>
    intro i a h
    have hp := h p (List.mem_cons_self ..)
    generalize hk : gapAt gs i = k
    have hl := fun a => ih (i + 1) a fun q hq => h q (List.mem_cons_of_mem _ hq)
    have he : ∀ rest, textG gs (p :: l) i ++ rest = preW k p.1 ++ (p.1 ++ (gapW k ++ (textG gs l (i + 1) ++ rest))) := fun rest => by simp [textG, hk]
    have hlen : (textG gs (p :: l) i).length = (preW k p.1).length + p.1.length + (gapW k).length + (textG gs l (i + 1)).length := by simp [textG, hk, Nat.add_assoc]
    -- the token itself, and the rest
    have tok : ∀ b, ∃ ts, Lay l ts ∧ ∀ rest, evs (p.1 ++ (gapW k ++ (textG gs l (i + 1) ++ rest))) b = ((⟨p.2.kind, b, p.2.text, p.2.n⟩ : Tok) :: ts).map (fun t => (t, (0 : Int))) ++ evs rest (b + p.1.length + (gapW k).length + (textG gs l (i + 1)).length) := fun b => by
      obtain ⟨ts, h1, h2⟩ := hl (b + p.1.length + (gapW k).length)
      refine ⟨ts, h1, fun rest => ?_⟩
      obtain ⟨g, hg⟩ := gap_blank k
      have : gapW k ++ (textG gs l (i + 1) ++ rest) = 32 :: (g ++ (textG gs l (i + 1) ++ rest)) := by rw [hg]; rfl
      rw [this, hp.reads.ok, ← this, blanks, h2]
      simp [Nat.add_assoc]
    by_cases c1 : p.1 = [10] ∧ k % 5 = 1
    · have e : preW k p.1 = [32, 35, 32, 116, 114, 97, 112, 32, 64] := by unfold preW; rw [if_pos c1]
      obtain ⟨ts, h1, h2⟩ := tok (a + 9)
      refine ⟨_, .cons (t := ⟨p.2.kind, a + 9, p.2.text, p.2.n⟩) ⟨rfl, rfl, rfl⟩ h1, fun rest => ?_⟩
      rw [he, hlen, e]
      generalize hx : p.1 ++ (gapW k ++ (textG gs l (i + 1) ++ rest)) = x at *
      have hx10 : ∃ y, x = 10 :: y := by rw [← hx, c1.1]; exact ⟨_, rfl⟩
      obtain ⟨y, rfl⟩ := hx10
      have q1 : ((32 :: 116 :: 114 :: 97 :: 112 :: 32 :: 64 :: 10 :: y).dropWhile fun c : UInt8 => decide (c.toNat ≠ 10)) = 10 :: y := by simp [List.dropWhile]
      have q2 : ((32 :: 116 :: 114 :: 97 :: 112 :: 32 :: 64 :: 10 :: y).takeWhile fun c : UInt8 => decide (c.toNat ≠ 10)).length = 7 := by simp [List.takeWhile]
      have h2 := h2 rest
      rw [hx] at h2
      rw [show [32, 35, 32, 116, 114, 97, 112, 32, 64] ++ 10 :: y = 32 :: 35 :: 32 :: 116 :: 114 :: 97 :: 112 :: 32 :: 64 :: 10 :: y from rfl, evs_blank _ _ (by decide), evs_note _ _ (by decide), q1, q2, show a + 1 + 1 + 7 = a + 9 by omega, h2]
      simp [Nat.add_assoc]
    · by_cases c2 : p.1 = [10] ∧ k % 5 = 2
      · have e : preW k p.1 = [10, 32, 32] := by unfold preW; rw [if_neg c1, if_pos c2]
        obtain ⟨ts, h1, h2⟩ := tok (a + 3)
        have hp7 : p.2.kind = 7 := by rw [hp.line c2.1]; rfl
        refine ⟨_, .dbl (t := ⟨7, a, [], 0⟩) (u := ⟨p.2.kind, a + 3, p.2.text, p.2.n⟩) hp7 rfl hp7 h1, fun rest => ?_⟩
        have h2 := h2 rest
        rw [he, hlen, e]
        generalize p.1 ++ (gapW k ++ (textG gs l (i + 1) ++ rest)) = x at *
        rw [show [10, 32, 32] ++ x = 10 :: 32 :: 32 :: x from rfl, evs_line, evs_blank _ _ (by decide), evs_blank _ _ (by decide), show a + 1 + 1 + 1 = a + 3 by omega, h2]
        simp [Nat.add_assoc]
      · have e : preW k p.1 = [] := by unfold preW; rw [if_neg c1, if_neg c2]
        obtain ⟨ts, h1, h2⟩ := tok a
        refine ⟨_, .cons (t := ⟨p.2.kind, a, p.2.text, p.2.n⟩) ⟨rfl, rfl, rfl⟩ h1, fun rest => ?_⟩
        rw [he, hlen, e, List.nil_append, h2 rest]
        simp [Nat.add_assoc]
/-- The tokens of such a text. -/
theorem split_lay {gs : List Int} {l : List Rd} (h : ∀ p ∈ l, Item p) (hl : (textG gs l 0).length ≤ 100000) : ∃ ts e, Lay l ts ∧ e.kind = 0 ∧ split (events (textG gs l 0)) = (ts ++ [e], 0, 0) := by
  obtain ⟨ts, h1, h2⟩ := lay_text gs l 0 0 h
  refine ⟨ts, endT (textG gs l 0).length, h1, rfl, ?_⟩
  unfold events
  rw [if_neg (by omega)]
  have := h2 []
  rw [List.append_nil, evs_nil, Nat.zero_add] at this
  rw [this, split_toks, split_cons, if_pos rfl]
  unfold Lx.ahead Lx.split
  rfl
theorem lay_ne {p : Rd} {l : List Rd} {ts : List Tok} (h : Lay (p :: l) ts) (hk : p.2.kind ≠ 7) : ∃ t ts', ts = t :: ts' ∧ same p.2 t ∧ Lay l ts' := by
  cases h with
  | cons h k => exact ⟨_, _, rfl, h, k⟩
  | dbl h _ _ _ => exact absurd h hk
theorem lay_line {p : Rd} {l : List Rd} {ts : List Tok} (h : Lay (p :: l) ts) (hk : p.2.kind = 7) : ∃ t ls ts', ts = t :: (ls ++ ts') ∧ t.kind = 7 ∧ (∀ x ∈ ls, x.kind = 7) ∧ Lay l ts' := by
  cases h with
  | cons h k => exact ⟨_, [], _, rfl, by rw [h.1, hk], by simp, k⟩
  | dbl h h1 h2 k => exact ⟨_, [_], _, rfl, h1, by simpa using h2, k⟩
/-! which are items -/
theorem item_reg {n : Int} (h : 0 ≤ n ∧ n ≤ 9223372036854775807) : Item (rReg n) := by
  obtain ⟨u, rfl⟩ : ∃ u : Nat, n = u := ⟨n.toNat, by omega⟩
  have e : Lib.itoa (u : Int) = Lib.decDigits u := by rw [itoa_pos (by omega)]; rfl
  refine ⟨?_, fun h => by cases h⟩
  have := Reads.mark (m := 37) (u := u) (by decide) (by omega)
  unfold rReg
  rw [e]
  exact this
theorem item_lab {n : Int} (h : 0 ≤ n ∧ n ≤ 9223372036854775807) : Item (rLab n) := by
  obtain ⟨u, rfl⟩ : ∃ u : Nat, n = u := ⟨n.toNat, by omega⟩
  have e : Lib.itoa (u : Int) = Lib.decDigits u := by rw [itoa_pos (by omega)]; rfl
  refine ⟨?_, fun h => by cases h⟩
  have := Reads.mark (m := 64) (u := u) (by decide) (by omega)
  unfold rLab
  rw [e]
  exact this
theorem item_slot {n : Int} (h : 0 ≤ n ∧ n ≤ 9223372036854775807) : Item (rSlot n) := by
  obtain ⟨u, rfl⟩ : ∃ u : Nat, n = u := ⟨n.toNat, by omega⟩
  have e : Lib.itoa (u : Int) = Lib.decDigits u := by rw [itoa_pos (by omega)]; rfl
  refine ⟨?_, fun h => by cases h⟩
  have := Reads.mark (m := 36) (u := u) (by decide) (by omega)
  unfold rSlot
  rw [e]
  exact this
theorem item_num {n : Int} (h : fitN n) : Item (rNum n) := by
  refine ⟨Reads.num h.1 h.2, fun h => ?_⟩
  exfalso
  unfold rNum at h
  by_cases c : n < 0
  · rw [itoa_neg c] at h; cases h
  · rw [itoa_pos c] at h
    have h : Lib.decDigits n.toNat = [10] := h
    have := isDig_range (decDigits_dig n.toNat 10 (by rw [h]; simp))
    simp at this
theorem item_sign {c : UInt8} (h : isSign c) : Item (rSign c) := ⟨Reads.sign h, fun e => by
  have : c = 10 := by unfold rSign at e; simpa using e
  subst this
  exact absurd h (by decide)⟩
theorem item_word {w : List UInt8} (h0 : w ≠ []) (h1 : ∀ c ∈ w, isLet c = true) (h2 : w.length ≤ 21) : Item (rWord w) := ⟨Reads.word h0 h1 h2, fun e => by
  have e : w = [10] := e
  subst e
  exact absurd (h1 10 (by simp)) (by decide)⟩
theorem item_line : Item rLine := ⟨Reads.line, fun _ => rfl⟩
end Go.Proofs.YtdjfndijbnpkpaaDoor.Sh

