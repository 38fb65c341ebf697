/-
  Plain law: a phi in the first block of a small program.
-/
import Derived.Test.YtfknooeebmdfoaaIrPlain2
import Derived.Test.YtfknooeebmdfoaaIrSame
import Derived.Test.YtfknooeebmdfoaaIrPlainOk
set_option linter.unusedVariables false
set_option linter.unusedSimpArgs false
set_option linter.unusedSectionVars false
set_option maxRecDepth 100000
namespace Go.Proofs.Ytfknooeebmdfoaa.Sh
open Go Go.AM Go.Proofs

theorem fold_mx_iff {l : List Int} : ∀ {n N : Int}, l.foldl mx n = N ↔ (n ≤ N ∧ ∀ r ∈ l, r + 1 ≤ N) ∧ (N = n ∨ ∃ r ∈ l, N = r + 1) := by
  induction l with
  | nil => intro n N; simp; omega
  | cons a l ih =>
    intro n N
    rw [List.foldl_cons, ih, mx_max]
    constructor
    · rintro ⟨⟨h1, h2⟩, h3⟩
      refine ⟨⟨by omega, fun r hr => ?_⟩, ?_⟩
      · rcases List.mem_cons.1 hr with rfl | hr
        · omega
        · exact h2 r hr
      · rcases h3 with h3 | ⟨r, hr, h3⟩
        · by_cases h : a + 1 ≤ n
          · left; omega
          · right; exact ⟨a, List.mem_cons_self .., by omega⟩
        · right; exact ⟨r, List.mem_cons_of_mem _ hr, h3⟩
    · rintro ⟨⟨h1, h2⟩, h3⟩
      have ha := h2 a (List.mem_cons_self ..)
      refine ⟨⟨by omega, fun r hr => h2 r (List.mem_cons_of_mem _ hr)⟩, ?_⟩
      rcases h3 with h3 | ⟨r, hr, h3⟩
      · left; omega
      · rcases List.mem_cons.1 hr with rfl | hr
        · left; omega
        · right; exact ⟨r, hr, h3⟩
/-- It hangs on which there are alone. -/
theorem fold_mx_same {l l' : List Int} (h : ∀ r, r ∈ l ↔ r ∈ l') (n : Int) : l.foldl mx n = l'.foldl mx n := by
  have := (fold_mx_iff (l := l') (n := n)).1 rfl
  refine fold_mx_iff.2 ⟨⟨this.1.1, fun r hr => this.1.2 r ((h r).1 hr)⟩, ?_⟩
  rcases this.2 with k | ⟨r, hr, k⟩
  · exact .inl k
  · exact .inr ⟨r, (h r).2 hr, k⟩

/-- In the order in which the law looks at them. -/
def Instr.look (x : Instr) : List Int := x.reads ++ (if x.sets.2 = true then [x.sets.1] else [])
def Block.look (b : Block) : List Int := b.instrs.flatMap Instr.look ++ b.last.seen
def withPhi (p : Prog) (f : Phi) : Prog := match p with | [] => [] | b :: t => { b with phis := [f] } :: t

theorem look_seen (x : Instr) (r : Int) : r ∈ x.look ↔ r ∈ x.seen := by
  unfold Instr.look Instr.seen
  rw [List.mem_append, List.mem_append]
  exact Or.comm

theorem regs_phi {b : Block} {t : Prog} {f : Phi} (hp : ∀ c ∈ b :: t, c.phis = []) : (((b :: t).flatMap Block.look) ++ (f.dst :: f.args)).foldl mx 0 = regs (withPhi (b :: t) f) := by
  unfold regs
  refine fold_mx_same (fun r => ?_) 0
  have hb : ∀ c : Block, c.phis = [] → (r ∈ c.look ↔ r ∈ c.seen) := fun c hc => by
    unfold Block.look Block.seen
    rw [hc]
    simp only [List.flatMap_nil, List.nil_append, List.mem_append, List.mem_flatMap]
    refine or_congr_left ⟨fun ⟨x, h1, h2⟩ => ⟨x, h1, (look_seen x r).1 h2⟩, fun ⟨x, h1, h2⟩ => ⟨x, h1, (look_seen x r).2 h2⟩⟩
  have ht : r ∈ t.flatMap Block.look ↔ r ∈ t.flatMap Block.seen := by
    simp only [List.mem_flatMap]
    exact ⟨fun ⟨c, h1, h2⟩ => ⟨c, h1, (hb c (hp c (List.mem_cons_of_mem _ h1))).1 h2⟩, fun ⟨c, h1, h2⟩ => ⟨c, h1, (hb c (hp c (List.mem_cons_of_mem _ h1))).2 h2⟩⟩
  have h0 := hb b (hp b (List.mem_cons_self ..))
  have hw : ({ b with phis := [f] } : Block).seen = f.seen ++ (b.instrs.flatMap Instr.seen ++ b.last.seen) := by simp [Block.seen]
  have hs : b.seen = b.instrs.flatMap Instr.seen ++ b.last.seen := by simp [Block.seen, hp b (List.mem_cons_self ..)]
  unfold seen withPhi
  rw [List.flatMap_cons, List.flatMap_cons, hw, ← hs]
  simp only [List.mem_append, h0, ht, Phi.seen]
  constructor
  · rintro ((h | h) | h)
    · exact .inl (.inr h)
    · exact .inr h
    · exact .inl (.inl h)
  · rintro ((h | h) | h)
    · exact .inr h
    · exact .inl (.inl h)
    · exact .inl (.inr h)

theorem count_phi {b : Block} {t : Prog} (f : Phi) (hp : b.phis = []) : count (withPhi (b :: t) f) = count (b :: t) + 1 := by
  simp [count, withPhi, hp]; omega

/-! ### Whether it may be -/
def pch2 : Option Int → List Int → Int
  | _, [] => 0
  | p, l :: fs => if (match p with | some q => decide (l ≤ q) | none => false) = true then 8 else pch2 (some l) fs
theorem pchk_regs {ls : List Int} : ∀ {fs gs : List Int} {p : Option Int}, (∀ l ∈ fs, l ∈ ls) → (∀ a ∈ gs, isReg a = true) → fs.length = gs.length → pchk ls p fs gs = pch2 p fs := by
  intro fs
  induction fs with
  | nil => intro gs p _ _ _; cases gs <;> rfl
  | cons l fs ih =>
    intro gs p h1 h2 h3
    match gs, h3 with
    | a :: gs, h3 =>
      unfold pchk pch2
      rw [if_pos (h1 l (List.mem_cons_self ..))]
      have ha := h2 a (List.mem_cons_self ..)
      rw [if_neg (by rw [ha]; decide : ¬ isReg a = false), ih (fun l hl => h1 l (List.mem_cons_of_mem _ hl)) (fun a ha => h2 a (List.mem_cons_of_mem _ ha)) (by simpa using h3)]
      rfl
theorem sorted_small : ∀ n < 9, ∀ m < 9, decide (pch2 none (((List.range n).map fun (i : Nat) => plabel i).take m) = 0) = isSorted (((List.range n).map fun (i : Nat) => plabel i).take m) := by decide +kernel

theorem phi_check {n : Nat} (hn : n ≤ 8) {m : Nat} {dst : Int} {gs : List Int} (hd : 0 ≤ dst ∧ dst ≤ 255) (hg : ∀ a ∈ gs, 0 ≤ a ∧ a ≤ 255) (hl : gs.length = min m n) :
    decide ((Phi.mk dst (((List.range n).map fun (i : Nat) => plabel i).take m) gs).check ((List.range n).map fun (i : Nat) => plabel i) = 0) = isSorted (((List.range n).map fun (i : Nat) => plabel i).take m) := by
  have hlen : (((List.range n).map fun (i : Nat) => plabel i).take m).length = gs.length := by simp [hl]
  have hc : (Phi.mk dst (((List.range n).map fun (i : Nat) => plabel i).take m) gs).check ((List.range n).map fun (i : Nat) => plabel i) = pch2 none (((List.range n).map fun (i : Nat) => plabel i).take m) := by
    unfold Phi.check
    rw [if_neg (by simp only [hlen, ne_eq, not_true_eq_false, not_false_eq_true]), if_neg (by rw [reg_small3 hd]; decide)]
    exact pchk_regs (fun l h => List.mem_of_mem_take h) (fun a h => reg_small3 (hg a h)) hlen
  rw [hc]
  by_cases hm : m < 9
  · exact sorted_small n (by omega) m hm
  · have : ((List.range n).map fun (i : Nat) => plabel i).take m = ((List.range n).map fun (i : Nat) => plabel i).take 8 := by
      rw [List.take_of_length_le (by simp; omega), List.take_of_length_le (by simp; omega)]
    rw [this]
    exact sorted_small n (by omega) 8 (by omega)

theorem check_phi {s : Small} (hs : s.Ok) (hl : s.light = true) {b : Block} {t : Prog} (hp : s.prog = b :: t) (f : Phi) : check (withPhi (b :: t) f) = f.check (s.prog.map (·.label)) := by
  have hphi : ∀ c ∈ b :: t, c.phis = [] := fun c hc => by
    rw [← hp] at hc
    obtain ⟨i, _, rfl⟩ := List.mem_map.1 hc
    rfl
  have hlab : (withPhi (b :: t) f).map (·.label) = s.prog.map (·.label) := by rw [hp]; rfl
  have hfine : ∀ c ∈ b :: t, blockErr (s.prog.map (·.label)) c = 0 := fun c hc => by
    rw [← hp] at hc
    obtain ⟨i, hi, rfl⟩ := List.mem_map.1 hc
    exact block_fine hs hl (List.mem_range.1 hi)
  have hcnt := small_count hs hl
  have hdup := small_dup hs hl
  obtain ⟨f1, f2, f3, f4, f5, f6⟩ := small_facts hs hl
  have hlen : (withPhi (b :: t) f).length = s.n := by
    have : s.prog.length = s.n := by simp [Small.prog]
    rw [← this, hp]; rfl
  unfold check
  rw [if_neg (by omega), if_neg (by rw [count_phi f (hphi b (List.mem_cons_self ..)), ← hp]; omega), if_pos (by rw [dupGo_labels, hlab, ← dupGo_labels]; exact hdup), hlab]
  have h0 := hfine b (List.mem_cons_self ..)
  have hrest : ferr (t.map (blockErr (s.prog.map (·.label)))) = 0 := ferr_zero fun e he => by
    obtain ⟨c, hc, rfl⟩ := List.mem_map.1 he
    exact hfine c (List.mem_cons_of_mem _ hc)
  have hb : blockErr (s.prog.map (·.label)) { b with phis := [f] } = f.check (s.prog.map (·.label)) := by
    unfold blockErr at h0 ⊢
    rw [hphi b (List.mem_cons_self ..), List.map_nil, List.nil_append] at h0
    simp only [List.map_cons, List.map_nil, List.singleton_append, ferr]
    split
    · rename_i e; rw [e]; exact h0
    · rfl
  unfold withPhi
  rw [List.map_cons, ferr, hb]
  split
  · rename_i e; rw [e]; exact hrest
  · rfl
end Go.Proofs.Ytfknooeebmdfoaa.Sh

