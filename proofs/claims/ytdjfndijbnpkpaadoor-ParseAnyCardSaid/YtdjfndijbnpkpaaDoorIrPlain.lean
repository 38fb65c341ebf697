/-
  Small programs may be: the plain law.
-/
import Derived.Test.YtdjfndijbnpkpaaDoorIrSmall
import Derived.Test.YtdjfndijbnpkpaaDoorIrLine
set_option linter.unusedVariables false
set_option linter.unusedSimpArgs false
set_option linter.unusedSectionVars false
set_option maxRecDepth 100000
namespace Go.Proofs.YtdjfndijbnpkpaaDoor.Sh
open Go Go.AM Go.Proofs
theorem dupGo_append (p q : Prog) (seen : List Int) : dupGo seen (p ++ q) = if dupGo seen p = 0 then dupGo (seen ++ p.map (·.label)) q else dupGo seen p := by
 induction p generalizing seen with
 | nil => simp [dupGo]
 | cons b p ih =>
   simp only [List.cons_append, dupGo]
   split
   ·simp
   ·split
    ·simp
    ·rw [ih]; simp
def dupL (seen : List Int) : List Int → Int
 | [] => 0
 | b :: p => if b < 0 ∨ 100000 ≤ b then 2 else if b ∈ seen then 8 else dupL (seen ++ [b]) p
theorem dupGo_labels (p : Prog) (seen : List Int) : dupGo seen p = dupL seen (p.map (·.label)) := by
 induction p generalizing seen with
 | nil => rfl
 | cons b p ih => simp only [dupGo, List.map_cons, dupL, ih]
theorem dup_small {n : Nat} (h : n ≤ 8) : dupL [] ((List.range n).map fun (i : Nat) => plabel i) = 0 := by
 have : n = 0 ∨ n = 1 ∨ n = 2 ∨ n = 3 ∨ n = 4 ∨ n = 5 ∨ n = 6 ∨ n = 7 ∨ n = 8 := by omega
 rcases this with rfl | rfl | rfl | rfl | rfl | rfl | rfl | rfl | rfl <;> decide
theorem prog_labels (s : Small) : s.prog.map (·.label) = (List.range s.n).map fun (i : Nat) => plabel i := by
 unfold Small.prog
 rw [List.map_map]
 rfl
theorem label_in {s : Small} {i : Int} (h : 0 ≤ i ∧ i < s.n) : plabel i ∈ s.prog.map (·.label) := by
 rw [prog_labels, List.mem_map]
 exact ⟨i.toNat, by simp; omega, by congr 1; omega⟩
theorem first_check (r : Nat) (h : r < 6) : (Instr.mk 0 0 r 0 0 ((r : Int) * r) 0).check = 0 := by
 have : r = 0 ∨ r = 1 ∨ r = 2 ∨ r = 3 ∨ r = 4 ∨ r = 5 := by omega
 rcases this with rfl | rfl | rfl | rfl | rfl | rfl <;> decide
theorem last_only_only (l : Last) : l.only.only = l.only := by
 obtain ⟨k, a, y, n⟩ := l
 unfold Last.only
 simp only [Last.mk.injEq, true_and]
 refine ⟨?_, ?_, ?_⟩ <;> split <;> rfl
theorem last_check {ls : List Int} (l : Last) (h1 : 0 ≤ l.kind ∧ l.kind < 4) (h2 : 0 ≤ l.a ∧ l.a ≤ 255) (h3 : l.yes ∈ ls) (h4 : l.no ∈ ls) : l.only.check ls = 0 := by
 have hk : l.only.kind = l.kind := rfl
 have ha : isReg l.only.a = true := reg_small3 (by unfold Last.only; simp only; split <;> omega)
 unfold Last.check
 rw [if_neg (by omega), if_neg (by rw [last_only_only]; simp), if_neg (by simp [ha])]
 obtain ⟨k, a, y, n⟩ := l
 simp only at h1 h2 h3 h4
 have : k = 0 ∨ k = 1 ∨ k = 2 ∨ k = 3 := by omega
 rcases this with rfl | rfl | rfl | rfl <;> simp [Last.only, Last.labels, lchk, h3, h4]
 split <;> simp [lchk, h3, h4]
theorem block_fine {s : Small} (hs : s.Ok) (hl : s.light = true) {i : Nat} (hi : i < s.n) : blockErr (s.prog.map (·.label)) (s.block i) = 0 := by
 obtain ⟨f1, f2, f3, f4, f5, f6⟩ := small_facts hs hl
 refine ferr_zero fun e he => ?_
 have hp : (s.block i).phis = [] := rfl
 rw [hp] at he
 simp only [List.map_nil, List.nil_append, List.mem_append, List.mem_map, List.mem_singleton] at he
 rcases he with ⟨x, hx, rfl⟩ | rfl
 ·unfold Small.block at hx
  simp only [List.mem_append] at hx
  rcases hx with hx | hx
  ·split at hx
   ·unfold Small.firsts at hx
    obtain ⟨r, hr, rfl⟩ := List.mem_map.1 hx
    rw [List.mem_range] at hr
    exact first_check r (by omega)
   ·simp at hx
  ·split at hx
   ·rename_i b hb
    obtain ⟨y, hy, rfl⟩ := List.mem_map.1 hx
    exact line_instr ((hs.blocks b (List.mem_of_getElem? hb)).lines y hy) ⟨f3, f4⟩
   ·simp at hx
 ·unfold Small.block
  simp only
  split
  ·rename_i b hb
   have hbo := hs.blocks b (List.mem_of_getElem? hb)
   have hn : (0 : Int) < s.n := by omega
   refine last_check _ ?_ ?_ (label_in ⟨Int.emod_nonneg _ (by omega), Int.emod_lt_of_pos _ hn⟩) (label_in ⟨Int.emod_nonneg _ (by omega), Int.emod_lt_of_pos _ hn⟩)
   ·simp only
    have : (b.e % 8).toNat = 0 ∨ (b.e % 8).toNat = 1 ∨ (b.e % 8).toNat = 2 ∨ (b.e % 8).toNat = 3 ∨ (b.e % 8).toNat = 4 ∨ (b.e % 8).toNat = 5 ∨ (b.e % 8).toNat = 6 ∨ (b.e % 8).toNat = 7 := by omega
    rcases this with h | h | h | h | h | h | h | h <;> rw [h] <;> decide
   ·have := Int.emod_nonneg b.a (show s.nregs ≠ 0 by omega); have := Int.emod_lt_of_pos b.a (show 0 < s.nregs by omega); simp only; omega
  ·split <;> rfl
structure Split (q : Prog) (b : Block) : Prop where
 phis : b.phis = []
 qlen : q.length < 8
 ilen : b.instrs.length ≤ 16
 cnt : count q ≤ 200
 lab : ∀ l ∈ (q ++ [b]).map (·.label), 0 ≤ l ∧ l < 1000
 dup : dupGo [] (q ++ [b]) = 0
 fine : ∀ c ∈ q ++ [b], blockErr ((q ++ [b]).map (·.label)) c = 0
theorem ins_len {s : Small} (hs : s.Ok) (hl : s.light = true) (i : Nat) : (s.block i).instrs.length ≤ 16 := by
 obtain ⟨f1, f2, f3, f4, f5, f6⟩ := small_facts hs hl
 have h1 : (if i = 0 ∧ s.bare = false then s.firsts else []).length ≤ 6 := by
  split
  ·simp [Small.firsts]; omega
  ·simp
 have h2 : (match s.blocks[i]? with | some b => b.lines.map (fun x : Line => x.instr s.nregs) | none => []).length ≤ 10 := by
  split
  ·rename_i b hb
   simpa using f2 b (List.mem_of_getElem? hb)
  ·simp
 have : (s.block i).instrs.length = (if i = 0 ∧ s.bare = false then s.firsts else []).length + (match s.blocks[i]? with | some b => b.lines.map (fun x : Line => x.instr s.nregs) | none => []).length := List.length_append
 omega
theorem count_small {s : Small} (hs : s.Ok) (hl : s.light = true) (l : List Nat) : count (l.map s.block) ≤ 17 * l.length := by
 induction l with
 | nil => simp [count]
 | cons i l ih =>
   have h1 : count ((i :: l).map s.block) = (((s.block i).instrs.length : Int) + (s.block i).phis.length + 1) + count (l.map s.block) := by simp [count]
   have h2 : (s.block i).phis = [] := rfl
   have := ins_len hs hl i
   rw [h1, h2]
   simp only [List.length_nil, List.length_cons]
   omega
section
variable {q : Prog} {b : Block} (h : Split q b)
include h
theorem Split.lens : q.length + 1 ≤ 8 ∧ count (q ++ [b]) ≤ 300 := by
 have h1 := h.qlen; have h2 := h.ilen; have h3 := h.cnt; have h4 := h.phis
 rw [count_append]
 have : count [b] = b.instrs.length + b.phis.length + 1 := by simp [count]
 rw [this, h4]
 simp only [List.length_nil]
 omega
theorem Split.turn {b' : Block} (h1 : b'.label = b.label) (h2 : count [b'] ≤ 3000) : check (q ++ [b']) = blockErr ((q ++ [b]).map (·.label)) b' := by
 have hl : (q ++ [b']).map (·.label) = (q ++ [b]).map (·.label) := by simp [h1]
 have hc := h.cnt
 have hq := h.qlen
 unfold check
 rw [if_neg (by simp; omega), if_neg (by rw [count_append]; omega), if_pos (by rw [dupGo_labels, hl, ← dupGo_labels]; exact h.dup), hl, List.map_append, ferr_append, if_pos]
 ·simp only [List.map_cons, List.map_nil, ferr]
  split
  ·rename_i he; exact he.symm
  ·rfl
 ·exact ferr_zero fun e he => by
   obtain ⟨c, hc, rfl⟩ := List.mem_map.1 he
   exact h.fine c (List.mem_append_left _ hc)
theorem Split.parts : (∀ x ∈ b.instrs, x.check = 0) ∧ b.last.check ((q ++ [b]).map (·.label)) = 0 := by
 have hf := h.fine b (by simp)
 unfold blockErr at hf
 rw [h.phis, List.map_nil, List.nil_append, ferr_append] at hf
 have key : ∀ l : List Int, ferr l = 0 → ∀ e ∈ l, e = 0 := by
  intro l
  induction l with
  | nil => simp
  | cons e l ih =>
    intro hl e' he'
    simp only [ferr] at hl
    split at hl
    ·rename_i h0
     rcases List.mem_cons.1 he' with rfl | he'
     ·exact h0
     ·exact ih hl e' he'
    ·rename_i h0; exact absurd hl h0
 split at hf
 ·rename_i h0
  refine ⟨fun x hx => key _ h0 _ (List.mem_map_of_mem hx), key _ hf _ (by simp)⟩
 ·rename_i h0; exact absurd hf h0
theorem Split.add (x : Instr) : check (q ++ [{ b with instrs := x :: b.instrs }]) = x.check := by
 have hi := h.ilen
 have hp := h.phis
 rw [h.turn (b' := { b with instrs := x :: b.instrs }) rfl (by simp [count, hp]; omega)]
 unfold blockErr
 simp only [hp, List.map_nil, List.nil_append, List.map_cons, List.cons_append, ferr]
 split
 ·rename_i h0
  rw [h0]
  exact ferr_zero fun e he => by
   rcases List.mem_append.1 he with he | he
   ·obtain ⟨y, hy, rfl⟩ := List.mem_map.1 he
    exact h.parts.1 y hy
   ·rw [List.mem_singleton.1 he]; exact h.parts.2
 ·rfl
theorem Split.last (l : Last) : check (q ++ [{ b with last := l }]) = l.check ((q ++ [b]).map (·.label)) := by
 have hi := h.ilen
 have hp := h.phis
 rw [h.turn (b' := { b with last := l }) rfl (by simp [count, hp]; omega)]
 unfold blockErr
 simp only [hp, List.map_nil, List.nil_append]
 rw [ferr_append, if_pos (ferr_zero fun e he => by
  obtain ⟨y, hy, rfl⟩ := List.mem_map.1 he
  exact h.parts.1 y hy)]
 simp only [ferr]
 split
 ·rename_i h0; exact h0.symm
 ·rfl
theorem Split.many (l : List Instr) (hl : l.length = 4000) : check (q ++ [{ b with instrs := l }]) = 3 := by
 have hq := h.qlen
 unfold check
 have h1 := count_nonneg q
 have h2 : 4000 < count (q ++ [{ b with instrs := l }]) := by
  rw [count_append]
  have : count [{ b with instrs := l }] = (l.length : Int) + b.phis.length + 1 := by simp [count]
  rw [this]; omega
 rw [if_neg (by simp; omega), if_pos h2]
theorem Split.label (n : Int) (hn : n < 0 ∨ 99999 < n) : check (q ++ [{ b with label := n }]) = 2 := by
 obtain ⟨h1, h2⟩ := h.lens
 have hd := h.dup
 rw [dupGo_append] at hd
 have hdq : dupGo [] q = 0 := by
  split at hd
  ·assumption
  ·rename_i h0; exact absurd hd h0
 have h3 : dupGo [] (q ++ [{ b with label := n }]) = 2 := by
  rw [dupGo_append, if_pos hdq, dupGo, if_pos (by simp only; omega)]
 have h4 : count (q ++ [{ b with label := n }]) = count (q ++ [b]) := by simp [count]
 unfold check
 rw [if_neg (by simp; omega), if_neg (by omega), if_neg (by rw [h3]; decide), h3]
theorem Split.far : (Last.mk 0 0 77777 0).check ((q ++ [b]).map (·.label)) = 9 := by
 have : 77777 ∉ (q ++ [b]).map (·.label) := fun hm => by have := h.lab _ hm; omega
 unfold Last.check
 rw [if_neg (by decide), if_neg (by decide), if_neg (by decide)]
 show lchk _ [77777] = 9
 rw [lchk, if_neg this]
theorem Split.two : (Phi.mk 0 [b.label, b.label] [0, 0]).check ((q ++ [b]).map (·.label)) = 8 := by
 have : b.label ∈ (q ++ [b]).map (·.label) := by simp
 unfold Phi.check
 rw [if_neg (by simp), if_neg (by simp only; decide), pchk, if_pos this, if_neg (by simp), if_neg (by decide), pchk, if_pos this, if_pos (by simp)]
end
end Go.Proofs.YtdjfndijbnpkpaaDoor.Sh
