/-
  Small programs may be: the plain law.
-/
import Derived.Test.YtdjfndijbnpkpaaDoorIrSmall
import Derived.Test.YtdjfndijbnpkpaaDoorIrLine
set_option linter.unusedVariables false
set_option linter.unusedSimpArgs false
set_option linter.unusedSectionVars false
set_option maxRecDepth 100000
namespace Go.Proofs.YtdjfndijbnpkpaaDoor.Sh
open Go Go.AM Go.Proofs
theorem dupGo_append (p q : Prog) (seen : List Int) : dupGo seen (p ++ q) = if dupGo seen p = 0 then dupGo (seen ++ p.map (·.label)) q else dupGo seen p := by
 induction p generalizing seen with
 | nil => simp [dupGo]
 | cons b p ih =>
   simp only [List.cons_append, dupGo]
   split
   ·simp
   ·split
    ·simp
    ·rw [ih]; simp
def dupL (seen : List Int) : List Int → Int
 | [] => 0
 | b :: p => if b < 0 ∨ 100000 ≤ b then 2 else if b ∈ seen then 8 else dupL (seen ++ [b]) p
theorem dupGo_labels (p : Prog) (seen : List Int) : dupGo seen p = dupL seen (p.map (·.label)) := by
 induction p generalizing seen with
 | nil => rfl
 | cons b p ih => simp only [dupGo, List.map_cons, dupL, ih]
structure Split (q : Prog) (b : Block) : Prop where
 phis : b.phis = []
 qlen : q.length < 8
 ilen : b.instrs.length ≤ 16
 cnt : count q ≤ 200
 lab : ∀ l ∈ (q ++ [b]).map (·.label), 0 ≤ l ∧ l < 1000
 dup : dupGo [] (q ++ [b]) = 0
 fine : ∀ c ∈ q ++ [b], blockErr ((q ++ [b]).map (·.label)) c = 0
section
variable {q : Prog} {b : Block} (h : Split q b)
include h
theorem Split.lens : q.length + 1 ≤ 8 ∧ count (q ++ [b]) ≤ 300 := by
 have h1 := h.qlen; have h2 := h.ilen; have h3 := h.cnt; have h4 := h.phis
 rw [count_append]
 have : count [b] = b.instrs.length + b.phis.length + 1 := by simp [count]
 rw [this, h4]
 simp only [List.length_nil]
 omega
theorem Split.turn {b' : Block} (h1 : b'.label = b.label) (h2 : count [b'] ≤ 3000) : check (q ++ [b']) = blockErr ((q ++ [b]).map (·.label)) b' := by
 have hl : (q ++ [b']).map (·.label) = (q ++ [b]).map (·.label) := by simp [h1]
 have hc := h.cnt
 have hq := h.qlen
 unfold check
 rw [if_neg (by simp; omega), if_neg (by rw [count_append]; omega), if_pos (by rw [dupGo_labels, hl, ← dupGo_labels]; exact h.dup), hl, List.map_append, ferr_append, if_pos]
 ·simp only [List.map_cons, List.map_nil, ferr]
  split
  ·rename_i he; exact he.symm
  ·rfl
 ·exact ferr_zero fun e he => by
   obtain ⟨c, hc, rfl⟩ := List.mem_map.1 he
   exact h.fine c (List.mem_append_left _ hc)
theorem Split.parts : (∀ x ∈ b.instrs, x.check = 0) ∧ b.last.check ((q ++ [b]).map (·.label)) = 0 := by
 have hf := h.fine b (by simp)
 unfold blockErr at hf
 rw [h.phis, List.map_nil, List.nil_append, ferr_append] at hf
 have key : ∀ l : List Int, ferr l = 0 → ∀ e ∈ l, e = 0 := by
  intro l
  induction l with
  | nil => simp
  | cons e l ih =>
    intro hl e' he'
    simp only [ferr] at hl
    split at hl
    ·rename_i h0
     rcases List.mem_cons.1 he' with rfl | he'
     ·exact h0
     ·exact ih hl e' he'
    ·rename_i h0; exact absurd hl h0
 split at hf
 ·rename_i h0
  refine ⟨fun x hx => key _ h0 _ (List.mem_map_of_mem hx), key _ hf _ (by simp)⟩
 ·rename_i h0; exact absurd hf h0
theorem Split.add (x : Instr) : check (q ++ [{ b with instrs := x :: b.instrs }]) = x.check := by
 have hi := h.ilen
 have hp := h.phis
 rw [h.turn (b' := { b with instrs := x :: b.instrs }) rfl (by simp [count, hp]; omega)]
 unfold blockErr
 simp only [hp, List.map_nil, List.nil_append, List.map_cons, List.cons_append, ferr]
 split
 ·rename_i h0
  rw [h0]
  exact ferr_zero fun e he => by
   rcases List.mem_append.1 he with he | he
   ·obtain ⟨y, hy, rfl⟩ := List.mem_map.1 he
    exact h.parts.1 y hy
   ·rw [List.mem_singleton.1 he]; exact h.parts.2
 ·rfl
theorem Split.last (l : Last) : check (q ++ [{ b with last := l }]) = l.check ((q ++ [b]).map (·.label)) := by
 have hi := h.ilen
 have hp := h.phis
 rw [h.turn (b' := { b with last := l }) rfl (by simp [count, hp]; omega)]
 unfold blockErr
 simp only [hp, List.map_nil, List.nil_append]
 rw [ferr_append, if_pos (ferr_zero fun e he => by
  obtain ⟨y, hy, rfl⟩ := List.mem_map.1 he
  exact h.parts.1 y hy)]
 simp only [ferr]
 split
 ·rename_i h0; exact h0.symm
 ·rfl
theorem Split.many (l : List Instr) (hl : l.length = 4000) : check (q ++ [{ b with instrs := l }]) = 3 := by
 have hq := h.qlen
 unfold check
 have h1 := count_nonneg q
 have h2 : 4000 < count (q ++ [{ b with instrs := l }]) := by
  rw [count_append]
  have : count [{ b with instrs := l }] = (l.length : Int) + b.phis.length + 1 := by simp [count]
  rw [this]; omega
 rw [if_neg (by simp; omega), if_pos h2]
theorem Split.label (n : Int) (hn : n < 0 ∨ 99999 < n) : check (q ++ [{ b with label := n }]) = 2 := by
 obtain ⟨h1, h2⟩ := h.lens
 have hd := h.dup
 rw [dupGo_append] at hd
 have hdq : dupGo [] q = 0 := by
  split at hd
  ·assumption
  ·rename_i h0; exact absurd hd h0
 have h3 : dupGo [] (q ++ [{ b with label := n }]) = 2 := by
  rw [dupGo_append, if_pos hdq, dupGo, if_pos (by simp only; omega)]
 have h4 : count (q ++ [{ b with label := n }]) = count (q ++ [b]) := by simp [count]
 unfold check
 rw [if_neg (by simp; omega), if_neg (by omega), if_neg (by rw [h3]; decide), h3]
theorem Split.far : (Last.mk 0 0 77777 0).check ((q ++ [b]).map (·.label)) = 9 := by
 have : 77777 ∉ (q ++ [b]).map (·.label) := fun hm => by have := h.lab _ hm; omega
 unfold Last.check
 rw [if_neg (by decide), if_neg (by decide), if_neg (by decide)]
 show lchk _ [77777] = 9
 rw [lchk, if_neg this]
theorem Split.two : (Phi.mk 0 [b.label, b.label] [0, 0]).check ((q ++ [b]).map (·.label)) = 8 := by
 have : b.label ∈ (q ++ [b]).map (·.label) := by simp
 unfold Phi.check
 rw [if_neg (by simp), if_neg (by simp only; decide), pchk, if_pos this, if_neg (by simp), if_neg (by decide), pchk, if_pos this, if_pos (by simp)]
end
end Go.Proofs.YtdjfndijbnpkpaaDoor.Sh
