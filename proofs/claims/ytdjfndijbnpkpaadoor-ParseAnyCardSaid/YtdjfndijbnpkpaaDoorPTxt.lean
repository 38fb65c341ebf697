/-
  Tokens of plain programs: what is read of their texts (helpers for the laws of chapter 5).
  Plain programs that may be: what the laws of chapter 5 use; small programs are such.
  A program's tokens without the last one are read, too.
  Parts of lists of tokens; gaps that came in.
-/
import Derived.Test.YtdjfndijbnpkpaaDoorTkB
import Derived.Test.YtdjfndijbnpkpaaDoorIrLine
import Derived.Test.YtdjfndijbnpkpaaDoorIrInstrs0
import Derived.Test.YtdjfndijbnpkpaaDoorIrPlain
import Derived.Test.YtdjfndijbnpkpaaDoorIrSmallArgs
set_option linter.unusedVariables false
set_option linter.unusedSimpArgs false
set_option linter.unusedSectionVars false
set_option maxRecDepth 100000
set_option linter.unnecessarySimpa false
namespace Go.Proofs.YtdjfndijbnpkpaaDoor.Sh
open Go Go.AM Go.Proofs Go.AM.Lx
theorem Instr.Good.fit {x : Instr} (h : x.Good) : x.Fit := by
 obtain ⟨h1, h2, h3, h4, h5, h6, h7, h8⟩ := h
 exact ⟨⟨by omega, by omega⟩, ⟨by omega, by omega⟩, ⟨by omega, by omega⟩, h8, ⟨by omega, by omega⟩, ⟨by omega, by omega⟩⟩
theorem Last.Good.fit {l : Last} (h : l.Good) : l.Fit := by
 obtain ⟨h1, h2, h3, h4, h5⟩ := h
 exact ⟨⟨by omega, by omega⟩, ⟨by omega, by omega⟩, ⟨by omega, by omega⟩⟩
theorem fits_of {p : Prog} (hg : ∀ b ∈ p, b.Good) (hc : count p < 100000) : ∀ b ∈ p, (∀ x ∈ b.instrs, x.Fit) ∧ b.last.Fit ∧ fitN b.label ∧ b.instrs.length ≤ 100000 := fun b hb => by
 have g := hg b hb
 have := count_mem hb
 have hl := g.label
 exact ⟨fun x hx => (g.instrs x hx).fit, g.last.fit, ⟨by omega, by omega⟩, by omega⟩
theorem rsl_toks {n0 : Nat} {st : St} {v : Value} {l : List Rd} (h : Own n0 st 1 v (txs l)) : RSl (Rng n0 st.next) st 1 (fun cs p => cs = [T p.1]) v l := Own.rsl1 (f := fun p : Rd => T p.1) h
theorem items_len {l : List Rd} (h : ∀ p ∈ l, Item p) : ∀ p ∈ l, p.1.length ≤ 21 := fun p hp => (h p hp).reads.len
theorem rdI_len (x : Instr) : (rdI x).length ≤ 6 := by
 unfold rdI
 (repeat' split) <;> simp
theorem rdL_len (l : Last) : (rdL l).length ≤ 6 := by
 unfold rdL
 (repeat' split) <;> simp
theorem rdI_flat_len (is : List Instr) : (is.flatMap fun x => rdI x ++ [rLine]).length ≤ 7 * is.length := by
 induction is with
 | nil => simp
 | cons x is ih =>
   have := rdI_len x
   rw [List.flatMap_cons, List.length_append, List.length_append, List.length_cons]
   simp only [List.length_cons, List.length_nil]
   omega
theorem rdB_len (b : Block) : (rdB b).length ≤ 10 + 7 * b.instrs.length := by
 have h1 := rdI_flat_len b.instrs
 have h2 := rdL_len b.last
 unfold rdB
 simp only [List.length_append, List.length_cons, List.length_nil]
 omega
theorem rdP_len (p : Prog) : (rdP p).length ≤ (10 * count p).toNat := by
 unfold rdP count
 induction p with
 | nil => simp
 | cons b p ih =>
   have h1 := rdB_len b
   have h2 := count_nonneg p
   unfold count at h2
   rw [List.flatMap_cons, List.length_append, List.map_cons, List.sum_cons]
   omega
variable {K : Ctx} (hF : Fix pgF K)
include hF
theorem TokText_ok {A : Nat → Prop} {st : St} {vp : Value} {p : Prog} (hA : ∀ id, A id → id < st.next) (hp : RProg A st vp p) (hg : ∀ b ∈ p, b.Good) (hc : count p < 10000) (hro : st.ro ≤ st.next) {Q : Value × St → Prop} {k : Value × St → Res (Value × St)}
 (h : ∀ vt n0 s, st.next ≤ n0 → Own n0 s 1 vt (txs (rdP p)) → Ext st s → Ok (k (vt, s)) Q) : Ok (Res.thn st (K.go (.call n_refinerylaw05_Tokens [.agg #[vp]]) st) k) Q := by
 have hl := len_le p
 have hr := rdP_len p
 refine (Tokens_ok hF hA hp (fits_of hg (by omega)) hro (by omega) (by omega)).thn fun ⟨vt, s⟩ ⟨n0, e1, e2, e3⟩ => ?_
 exact h vt n0 s e1 e2 e3
end Go.Proofs.YtdjfndijbnpkpaaDoor.Sh
namespace Go.Proofs.YtdjfndijbnpkpaaDoor.Sh
open Go Go.AM Go.Proofs Go.AM.Lx
theorem ferr_all {l : List Int} (h : ferr l = 0) : ∀ e ∈ l, e = 0 := by
 induction l with
 | nil => simp
 | cons e l ih =>
   simp only [ferr] at h
   split at h
   ·rename_i h0
    intro e' he'
    rcases List.mem_cons.1 he' with rfl | he'
    ·exact h0
    ·exact ih h e' he'
   ·rename_i h0; exact absurd h h0
structure Block.Base (b : Block) : Prop where
 phis : b.phis = []
 instrs : ∀ x ∈ b.instrs, 0 ≤ x.kind ∧ 0 ≤ x.op ∧ fitN x.n
 last : 0 ≤ b.last.kind
theorem lchk_all {ls l : List Int} (h : lchk ls l = 0) : ∀ n ∈ l, n ∈ ls := by
 induction l with
 | nil => simp
 | cons n l ih =>
   rw [lchk] at h
   split at h
   ·rename_i c
    intro m hm
    rcases List.mem_cons.1 hm with rfl | hm
    ·exact c
    ·exact ih h m hm
   ·cases h
theorem lgood_of {l : Last} {ls : List Int} (hls : ∀ n ∈ ls, 0 ≤ n ∧ n < 100000) (hc : l.check ls = 0) (hk : 0 ≤ l.kind) : l.Good := by
 unfold Last.check at hc
 split at hc
 ·cases hc
 ·rename_i h1
  split at hc
  ·cases hc
  ·rename_i h2
   split at hc
   ·cases hc
   ·rename_i h3
    have h2 : l = l.only := Classical.byContradiction h2
    have ha : 0 ≤ l.a ∧ l.a < 100000 := by simpa [isReg] using h3
    have hm := fun n hn => hls n (lchk_all hc n hn)
    obtain ⟨k, a, y, n⟩ := l
    simp only [Last.only, Last.mk.injEq, true_and] at h2
    simp only at hk h1 ha
    refine ⟨⟨hk, by simp only; omega⟩, by simp only [Last.only, Last.mk.injEq, true_and]; exact h2, ha, ?_, ?_⟩
    ·rcases (show k = 0 ∨ k = 1 ∨ k = 2 ∨ k = 3 by omega) with rfl | rfl | rfl | rfl
     ·exact hm y (by simp [Last.labels])
     ·exact hm y (by unfold Last.labels; simp only; split <;> simp)
     ·simp at h2; simp [h2]
     ·simp at h2; simp [h2]
    ·rcases (show k = 0 ∨ k = 1 ∨ k = 2 ∨ k = 3 by omega) with rfl | rfl | rfl | rfl
     ·simp at h2; simp [h2]
     ·refine hm n ?_
      unfold Last.labels
      by_cases c : y = n
      ·simp [c]
      ·simp [c]
     ·simp at h2; simp [h2]
     ·simp at h2; simp [h2]
theorem bgood_of {b : Block} {ls : List Int} (hls : ∀ n ∈ ls, 0 ≤ n ∧ n < 100000) (hl : b.label ∈ ls) (hc : blockErr ls b = 0) (hb : b.Base) : b.Good := by
 unfold blockErr at hc
 have ha := ferr_all hc
 refine ⟨hls _ hl, hb.phis, fun x hx => ?_, ?_⟩
 ·obtain ⟨k1, k2, k3⟩ := hb.instrs x hx
  exact good_of (ha _ (List.mem_append_right _ (List.mem_append_left _ (List.mem_map_of_mem hx)))) k1 k2 k3
 ·exact lgood_of hls (ha _ (List.mem_append_right _ (List.mem_append_right _ (by simp)))) hb.last
theorem dupGo_fits : ∀ (p : Prog) (seen : List Int), dupGo seen p = 0 → ∀ b ∈ p, 0 ≤ b.label ∧ b.label < 100000 := by
 intro p
 induction p with
 | nil => simp
 | cons b p ih =>
   intro seen h c hc
   rw [dupGo] at h
   split at h
   ·cases h
   ·split at h
    ·cases h
    ·rcases List.mem_cons.1 hc with rfl | hc
     ·omega
     ·exact ih _ h c hc
theorem check_parts {p : Prog} (h : check p = 0) : dupGo [] p = 0 ∧ (∀ b ∈ p, blockErr (p.map (·.label)) b = 0) ∧ count p ≤ 4000 ∧ 1 ≤ p.length ∧ p.length ≤ 400 := by
 unfold check at h
 split at h
 ·cases h
 ·split at h
  ·cases h
  ·split at h
   ·rename_i h1 h2 h3
    refine ⟨h3, fun b hb => ferr_all h _ (List.mem_map_of_mem hb), by omega, by omega, by omega⟩
   ·rename_i h3; exact absurd h h3
theorem good_check {p : Prog} (h : check p = 0) (hb : ∀ b ∈ p, b.Base) : ∀ b ∈ p, b.Good := fun b hm => by
 obtain ⟨h1, h2, _⟩ := check_parts h
 refine bgood_of (ls := p.map (·.label)) (fun n hn => ?_) (List.mem_map_of_mem hm) (h2 b hm) (hb b hm)
 obtain ⟨c, hc, rfl⟩ := List.mem_map.1 hn
 exact dupGo_fits p [] h1 c hc
theorem small_count {s : Small} (hs : s.Ok) (hl : s.light = true) : count s.prog ≤ 200 := by
 obtain ⟨f1, f2, f3, f4, f5, f6⟩ := small_facts hs hl
 have := count_small hs hl (List.range s.n)
 unfold Small.prog
 rw [List.length_range] at this
 omega
theorem small_dup {s : Small} (hs : s.Ok) (hl : s.light = true) : dupGo [] s.prog = 0 := by
 obtain ⟨f1, f2, f3, f4, f5, f6⟩ := small_facts hs hl
 rw [dupGo_labels, prog_labels]
 exact dup_small f6
theorem small_check {s : Small} (hs : s.Ok) (hl : s.light = true) : check s.prog = 0 := by
 obtain ⟨f1, f2, f3, f4, f5, f6⟩ := small_facts hs hl
 have hc := small_count hs hl
 have hpl : s.prog.length = s.n := by simp [Small.prog]
 unfold check
 rw [if_neg (by omega), if_neg (by omega), if_pos (small_dup hs hl)]
 exact ferr_zero fun e he => by
  obtain ⟨c, hc, rfl⟩ := List.mem_map.1 he
  obtain ⟨i, hi, rfl⟩ := List.mem_map.1 hc
  exact block_fine hs hl (List.mem_range.1 hi)
theorem line_base {x : Line} (hx : x.Ok) (r : Int) : 0 ≤ (x.instr r).kind ∧ 0 ≤ (x.instr r).op ∧ fitN (x.instr r).n := by
 refine ⟨by show 0 ≤ x.kind % 9; omega, ?_, ?_⟩
 ·have := Int.emod_nonneg x.op (show (12 : Int) ≠ 0 by decide)
  unfold Line.instr Instr.only
  simp only
  split <;> omega
 ·have := hx.n
  unfold Line.instr Instr.only fitN
  simp only
  split <;> constructor <;> omega
theorem small_base {s : Small} (hs : s.Ok) (hl : s.light = true) : ∀ b ∈ s.prog, b.Base := by
 obtain ⟨f1, f2, f3, f4, f5, f6⟩ := small_facts hs hl
 intro b hb
 unfold Small.prog at hb
 obtain ⟨i, hi, rfl⟩ := List.mem_map.1 hb
 refine ⟨rfl, fun x hx => ?_, ?_⟩
 ·unfold Small.block at hx
  simp only [List.mem_append] at hx
  rcases hx with hx | hx
  ·split at hx
   ·unfold Small.firsts at hx
    obtain ⟨r, hr, rfl⟩ := List.mem_map.1 hx
    rw [List.mem_range] at hr
    have : r = 0 ∨ r = 1 ∨ r = 2 ∨ r = 3 ∨ r = 4 ∨ r = 5 := by omega
    rcases this with rfl | rfl | rfl | rfl | rfl | rfl <;> exact ⟨by decide, by decide, by unfold fitN; decide⟩
   ·simp at hx
  ·split at hx
   ·rename_i b hb
    obtain ⟨y, hy, rfl⟩ := List.mem_map.1 hx
    exact line_base ((hs.blocks b (List.mem_of_getElem? hb)).lines y hy) _
   ·simp at hx
 ·unfold Small.block
  simp only
  split
  ·rename_i b hb
   show 0 ≤ ends.getD (b.e % 8).toNat 0
   have : (b.e % 8).toNat = 0 ∨ (b.e % 8).toNat = 1 ∨ (b.e % 8).toNat = 2 ∨ (b.e % 8).toNat = 3 ∨ (b.e % 8).toNat = 4 ∨ (b.e % 8).toNat = 5 ∨ (b.e % 8).toNat = 6 ∨ (b.e % 8).toNat = 7 := by omega
   rcases this with h | h | h | h | h | h | h | h <;> rw [h] <;> decide
  ·split <;> decide
theorem small_good {s : Small} (hs : s.Ok) (hl : s.light = true) : ∀ b ∈ s.prog, b.Good := good_check (small_check hs hl) (small_base hs hl)
theorem small_ne {s : Small} (hs : s.Ok) (hl : s.light = true) : s.prog ≠ [] := by
 obtain ⟨f1, f2, f3, f4, f5, f6⟩ := small_facts hs hl
 have hpl : s.prog.length = s.n := by simp [Small.prog]
 intro e
 rw [e] at hpl
 simp at hpl
 omega
end Go.Proofs.YtdjfndijbnpkpaaDoor.Sh
namespace Go.Proofs.YtdjfndijbnpkpaaDoor.Sh
open Go Go.AM Go.Proofs Go.AM.Lx
namespace PS
end PS
variable {K : Ctx} (hF : Fix pgF K)
include hF
end Go.Proofs.YtdjfndijbnpkpaaDoor.Sh
namespace Go.Proofs.YtdjfndijbnpkpaaDoor.Sh
open Go Go.AM Go.Proofs Go.AM.Lx
abbrev RRd (cs : List Value) (p : Rd) : Prop := cs = [T p.1]
theorem txs_at {l : List Rd} {i : Nat} {p : Rd} (h : l[i]? = some p) : ((txs l).drop i).take 1 = [T p.1] := by
 have hi := (List.getElem?_eq_some_iff.1 h).1
 have : (txs l)[i]? = some (T p.1) := by unfold txs; rw [List.getElem?_map, h]; rfl
 obtain ⟨h1, h2⟩ := List.getElem?_eq_some_iff.1 this
 rw [List.drop_eq_getElem_cons h1, h2]
 rfl
theorem textG_nil_len : ∀ {l : List Rd} {i : Nat}, (∀ p ∈ l, p.1.length ≤ 21) → (textG [] l i).length ≤ 22 * l.length := by
 intro l
 induction l with
 | nil => intro i _; simp [textG]
 | cons p l ih =>
   intro i h
   have h1 := h p (List.mem_cons_self ..)
   have h2 := ih (i := i + 1) fun q hq => h q (List.mem_cons_of_mem _ hq)
   have h3 : preW (gapAt [] i) p.1 = [] := by simp [gapAt, preW]
   have h4 : gapW (gapAt [] i) = [32] := by simp [gapAt, gapW]
   simp only [textG, List.length_append, List.length_cons, h3, h4, List.length_nil]
   omega
end Go.Proofs.YtdjfndijbnpkpaaDoor.Sh
