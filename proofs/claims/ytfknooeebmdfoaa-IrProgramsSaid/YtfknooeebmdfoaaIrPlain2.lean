/-
  Registers and counts of programs: the plain law.
-/
import Derived.Test.YtfknooeebmdfoaaIrPlain
import Derived.Test.YtfknooeebmdfoaaIrRegs
set_option linter.unusedVariables false
set_option linter.unusedSimpArgs false
set_option linter.unusedSectionVars false
set_option maxRecDepth 100000
namespace Go.Proofs.Ytfknooeebmdfoaa.Sh
open Go Go.AM Go.Proofs

theorem mx_max (n r : Int) : mx n r = max n (r + 1) := by unfold mx; split <;> omega
theorem fold_mx (l : List Int) : ∀ n : Int, 0 ≤ n → l.foldl mx n = max n (l.foldl mx 0) := by
  induction l with
  | nil => intro n h; simp; omega
  | cons r l ih =>
    intro n h
    rw [List.foldl_cons, List.foldl_cons, ih (mx n r) (by rw [mx_max]; omega), ih (mx 0 r) (by rw [mx_max]; omega), mx_max, mx_max]
    omega
theorem fold_nonneg (l : List Int) : 0 ≤ l.foldl mx 0 := by
  cases l with
  | nil => simp
  | cons r l =>
    rw [List.foldl_cons, fold_mx l (mx 0 r) (by rw [mx_max]; omega), mx_max]
    omega
theorem fold_app (a b : List Int) : (a ++ b).foldl mx 0 = max (a.foldl mx 0) (b.foldl mx 0) := by
  rw [List.foldl_append, fold_mx b _ (fold_nonneg a)]
theorem regs_append (p q : Prog) : regs (p ++ q) = max (regs p) (regs q) := by
  unfold regs seen
  rw [List.flatMap_append, fold_app]
theorem regs_nonneg (p : Prog) : 0 ≤ regs p := fold_nonneg _
theorem regs_first (b : Block) (q : Prog) (n : Int) (hn : 0 ≤ n) : regs ({ b with instrs := b.instrs ++ [⟨0, 0, n, 0, 0, 0, 0⟩] } :: q) = max (regs (b :: q)) (n + 1) := by
  unfold regs seen Block.seen
  simp only [List.flatMap_cons, List.flatMap_append, List.flatMap_nil, List.append_nil, fold_app]
  have : (Instr.mk 0 0 n 0 0 0 0).seen.foldl mx 0 = n + 1 := by
    have e : (Instr.mk 0 0 n 0 0 0 0).seen = [n] := by simp [Instr.seen, Instr.sets, Instr.reads]
    rw [e]
    simp [mx_max]
    omega
  rw [this]
  omega
theorem count_first (b : Block) (q : Prog) (x : Instr) : count ({ b with instrs := b.instrs ++ [x] } :: q) = count (b :: q) + 1 := by
  simp [count]
  omega

theorem fit_reg {n : Int} (h : isReg n = true) : fit n := by
  simp [isReg] at h
  unfold fit
  omega
theorem fit_zero : fit 0 := by unfold fit; omega
theorem fit_instr {x : Instr} (h : x.check = 0) : ∀ r ∈ x.seen, fit r := by
  unfold Instr.check at h
  split at h
  · cases h
  · split at h
    · cases h
    · split at h
      · cases h
      · rename_i hx
        simp at hx
        intro r hr
        unfold Instr.seen at hr
        rcases List.mem_append.1 hr with hr | hr
        · split at hr
          · have : r = x.sets.1 := by simpa using hr
            rw [this]
            unfold Instr.sets
            split
            · exact fit_reg hx.1
            · exact fit_zero
          · cases hr
        · unfold Instr.reads at hr
          split at hr
          · have : r = x.a := by simpa using hr
            rw [this]; exact fit_reg hx.2.1
          · split at hr
            · have : r = x.a ∨ r = x.b := by simpa using hr
              rcases this with rfl | rfl
              · exact fit_reg hx.2.1
              · exact fit_reg hx.2.2.1
            · cases hr
theorem fit_last {l : Last} {ls : List Int} (h : l.check ls = 0) : ∀ r ∈ l.seen, fit r := by
  unfold Last.check at h
  split at h
  · cases h
  · split at h
    · cases h
    · split at h
      · cases h
      · rename_i hx
        intro r hr
        unfold Last.seen Last.reads at hr
        simp at hr
        rw [hr.2]
        exact fit_reg (by simpa using hx)

theorem ferr_all {l : List Int} (h : ferr l = 0) : ∀ e ∈ l, e = 0 := by
  induction l with
  | nil => simp
  | cons e l ih =>
    simp only [ferr] at h
    split at h
    · rename_i h0
      intro e' he'
      rcases List.mem_cons.1 he' with rfl | he'
      · exact h0
      · exact ih h e' he'
    · rename_i h0; exact absurd h h0
/-- What a small program sees is small. -/
theorem small_fit {s : Small} (hs : s.Ok) (hl : s.light = true) : ∀ b ∈ s.prog, (∀ f ∈ b.phis, f.args.length < 2 ^ 62) ∧ ∀ r ∈ b.seen, fit r := by
  intro b hb
  unfold Small.prog at hb
  obtain ⟨i, hi, rfl⟩ := List.mem_map.1 hb
  have hf := block_fine hs hl (List.mem_range.1 hi)
  have hp : (s.block i).phis = [] := rfl
  unfold blockErr at hf
  have ha := ferr_all hf
  refine ⟨by rw [hp]; simp, fun r hr => ?_⟩
  unfold Block.seen at hr
  rw [hp] at hr
  simp only [List.flatMap_nil, List.nil_append, List.mem_append, List.mem_flatMap] at hr
  rcases hr with ⟨x, hx, hr⟩ | hr
  · exact fit_instr (ha _ (List.mem_append_right _ (List.mem_append_left _ (List.mem_map_of_mem hx)))) r hr
  · exact fit_last (ha _ (List.mem_append_right _ (List.mem_append_right _ (List.mem_singleton.2 rfl)))) r hr

theorem small_count {s : Small} (hs : s.Ok) (hl : s.light = true) : count s.prog ≤ 200 := by
  obtain ⟨f1, f2, f3, f4, f5, f6⟩ := small_facts hs hl
  have := count_small hs hl (List.range s.n)
  unfold Small.prog
  rw [List.length_range] at this
  omega
theorem small_dup {s : Small} (hs : s.Ok) (hl : s.light = true) : dupGo [] s.prog = 0 := by
  obtain ⟨f1, f2, f3, f4, f5, f6⟩ := small_facts hs hl
  rw [dupGo_labels, prog_labels]
  exact dup_small f6
theorem small_cons {s : Small} (hs : s.Ok) (hl : s.light = true) : ∃ b q, s.prog = b :: q ∧ b.label = 0 := by
  obtain ⟨f1, f2, f3, f4, f5, f6⟩ := small_facts hs hl
  refine ⟨s.block 0, (List.range (s.n - 1)).map fun i => s.block (i + 1), ?_, rfl⟩
  unfold Small.prog
  have : s.n = (s.n - 1) + 1 := by omega
  conv => lhs; rw [this, List.range_succ_eq_map]
  simp
/-- Two programs together: labels twice. -/
theorem both_check {s t : Small} (hs : s.Ok) (hl : s.light = true) (ht : t.Ok) (htl : t.light = true) : check (s.prog ++ t.prog) = 8 := by
  obtain ⟨b, q, hb, hb0⟩ := small_cons hs hl
  obtain ⟨c, r, hc, hc0⟩ := small_cons ht htl
  have h1 := small_count hs hl
  have h2 := small_count ht htl
  have h3 := count_append s.prog t.prog
  have h4 := len_le (s.prog ++ t.prog)
  have h5 : dupGo [] (s.prog ++ t.prog) = 8 := by
    rw [dupGo_append, if_pos (small_dup hs hl), hc, dupGo, if_neg (by omega), if_pos (by rw [hb, hc0, ← hb0]; simp)]
  have h6 : 1 ≤ (s.prog ++ t.prog).length := by rw [hb]; simp; omega
  unfold check
  rw [if_neg (by omega), if_neg (by omega), if_neg (by rw [h5]; decide), h5]
end Go.Proofs.Ytfknooeebmdfoaa.Sh

