/-
  Tokens laid out otherwise are read alike.
-/
import Derived.Test.YtdjfndijbnpkpaaDoorPSim
set_option linter.unusedVariables false
set_option linter.unusedSimpArgs false
set_option linter.unusedSectionVars false
set_option linter.unnecessarySimpa false
set_option maxRecDepth 100000
namespace Go.Proofs.YtdjfndijbnpkpaaDoor.Sh.PS
open Go Go.AM Go.Proofs Go.AM.Lx
def Gx (ls : List Tok) (s1 s2 : PS) : Prop := s1.err = s2.err ∧ (s1.err = 0 → ∃ l ts e, Lay l ts ∧ e.kind = 0 ∧ e.text = [] ∧ e.n = 0 ∧ s1.rest = l.map (·.2) ++ [endT 0] ∧ s2.rest = ls ++ (ts ++ [e]))
def Gs (s1 s2 : PS) : Prop := Gx [] s1 s2
def Ge (s1 s2 : PS) : Prop := ∃ ls, (∀ t ∈ ls, t.kind = 7) ∧ Gx ls s1 s2
theorem Gs.ge {s1 s2 : PS} (h : Gs s1 s2) : Ge s1 s2 := ⟨[], by simp, h⟩
theorem Gs.cases {s1 s2 : PS} (h : Gs s1 s2) (h0 : s1.err = 0) : s2.err = 0 ∧ ∃ t1 t2 u1 u2, s1.rest = t1 :: u1 ∧ s2.rest = t2 :: u2 ∧ t1.kind = t2.kind ∧ (t1.kind ≠ 7 → t1.text = t2.text ∧ t1.n = t2.n ∧ (t1.kind ≠ 0 → Gs s1.adv s2.adv)) ∧ (t1.kind = 7 → Ge s1.adv s2.adv) := by
 obtain ⟨he, hr⟩ := h
 refine ⟨by rw [← he]; exact h0, ?_⟩
 obtain ⟨l, ts, e, hl, k0, k1, k2, e1, e2⟩ := hr h0
 rw [List.nil_append] at e2
 cases hl with
 | nil => exact ⟨endT 0, e, [], [], e1, e2, k0.symm, fun _ => ⟨k1.symm, k2.symm, fun hne => absurd rfl hne⟩, fun h7 => by cases h7⟩
 | @cons p l t ts hs hl =>
   have hg : Gs s1.adv s2.adv := ⟨he, fun _ => ⟨l, ts, e, hl, k0, k1, k2, by show s1.rest.tail = _; rw [e1]; rfl, by show s2.rest.tail = _; rw [e2]; rfl⟩⟩
   exact ⟨p.2, t, _, _, by rw [e1]; rfl, by rw [e2]; rfl, hs.1.symm, fun _ => ⟨hs.2.1.symm, hs.2.2.symm, fun _ => hg⟩, fun _ => hg.ge⟩
 | @dbl p l t u ts hp h1 h2 hl =>
   refine ⟨p.2, t, _, _, by rw [e1]; rfl, by rw [e2]; rfl, by rw [hp, h1], fun hne => absurd hp hne, fun _ => ⟨[u], by simpa using h2, he, fun _ => ⟨l, ts, e, hl, k0, k1, k2, by show s1.rest.tail = _; rw [e1]; rfl, by show s2.rest.tail = _; rw [e2]; rfl⟩⟩⟩
theorem take_no {s : PS} {k : Int} {x : List UInt8} (c : s.is k x = false) : (s.take k x).2.err ≠ 0 := by
 unfold take
 rw [c]
 simp only [Bool.false_eq_true, if_false]
 unfold fail
 by_cases h : s.err = 0
 ·rw [if_pos h]; exact (by decide : (5 : Int) ≠ 0)
 ·rw [if_neg h]; exact h
end Go.Proofs.YtdjfndijbnpkpaaDoor.Sh.PS
