/-
  Tokens of plain programs: what is read of their texts (helpers for the laws of chapter 5).
  Plain programs that may be: what the laws of chapter 5 use; small programs are such.
  A program's tokens without the last one are read, too.
  Parts of lists of tokens; gaps that came in.
-/
import Derived.Test.YtdjfndijbnpkpaaDoorTkB
import Derived.Test.YtdjfndijbnpkpaaDoorIrLine
import Derived.Test.YtdjfndijbnpkpaaDoorIrInstrs0
import Derived.Test.YtdjfndijbnpkpaaDoorIrPlain
import Derived.Test.YtdjfndijbnpkpaaDoorIrSmallArgs
set_option linter.unusedVariables false
set_option linter.unusedSimpArgs false
set_option linter.unusedSectionVars false
set_option maxRecDepth 100000
set_option linter.unnecessarySimpa false
namespace Go.Proofs.YtdjfndijbnpkpaaDoor.Sh
open Go Go.AM Go.Proofs Go.AM.Lx
theorem Instr.Good.fit {x : Instr} (h : x.Good) : x.Fit := by
 obtain ⟨h1, h2, h3, h4, h5, h6, h7, h8⟩ := h
 exact ⟨⟨by omega, by omega⟩, ⟨by omega, by omega⟩, ⟨by omega, by omega⟩, h8, ⟨by omega, by omega⟩, ⟨by omega, by omega⟩⟩
theorem Last.Good.fit {l : Last} (h : l.Good) : l.Fit := by
 obtain ⟨h1, h2, h3, h4, h5⟩ := h
 exact ⟨⟨by omega, by omega⟩, ⟨by omega, by omega⟩, ⟨by omega, by omega⟩⟩
theorem fits_of {p : Prog} (hg : ∀ b ∈ p, b.Good) (hc : count p < 100000) : ∀ b ∈ p, (∀ x ∈ b.instrs, x.Fit) ∧ b.last.Fit ∧ fitN b.label ∧ b.instrs.length ≤ 100000 := fun b hb => by
 have g := hg b hb
 have := count_mem hb
 have hl := g.label
 exact ⟨fun x hx => (g.instrs x hx).fit, g.last.fit, ⟨by omega, by omega⟩, by omega⟩
theorem rsl_toks {n0 : Nat} {st : St} {v : Value} {l : List Rd} (h : Own n0 st 1 v (txs l)) : RSl (Rng n0 st.next) st 1 (fun cs p => cs = [T p.1]) v l := Own.rsl1 (f := fun p : Rd => T p.1) h
theorem items_len {l : List Rd} (h : ∀ p ∈ l, Item p) : ∀ p ∈ l, p.1.length ≤ 21 := fun p hp => (h p hp).reads.len
theorem rdI_len (x : Instr) : (rdI x).length ≤ 6 := by
 unfold rdI
 (repeat' split) <;> simp
theorem rdL_len (l : Last) : (rdL l).length ≤ 6 := by
 unfold rdL
 (repeat' split) <;> simp
theorem rdI_flat_len (is : List Instr) : (is.flatMap fun x => rdI x ++ [rLine]).length ≤ 7 * is.length := by
 induction is with
 | nil => simp
 | cons x is ih =>
   have := rdI_len x
   rw [List.flatMap_cons, List.length_append, List.length_append, List.length_cons]
   simp only [List.length_cons, List.length_nil]
   omega
theorem rdB_len (b : Block) : (rdB b).length ≤ 10 + 7 * b.instrs.length := by
 have h1 := rdI_flat_len b.instrs
 have h2 := rdL_len b.last
 unfold rdB
 simp only [List.length_append, List.length_cons, List.length_nil]
 omega
theorem rdP_len (p : Prog) : (rdP p).length ≤ (10 * count p).toNat := by
 unfold rdP count
 induction p with
 | nil => simp
 | cons b p ih =>
   have h1 := rdB_len b
   have h2 := count_nonneg p
   unfold count at h2
   rw [List.flatMap_cons, List.length_append, List.map_cons, List.sum_cons]
   omega
variable {K : Ctx} (hF : Fix pgF K)
include hF
theorem TokText_ok {A : Nat → Prop} {st : St} {vp : Value} {p : Prog} (hA : ∀ id, A id → id < st.next) (hp : RProg A st vp p) (hg : ∀ b ∈ p, b.Good) (hc : count p < 10000) (hro : st.ro ≤ st.next) {Q : Value × St → Prop} {k : Value × St → Res (Value × St)}
 (h : ∀ vt n0 s, st.next ≤ n0 → Own n0 s 1 vt (txs (rdP p)) → Ext st s → Ok (k (vt, s)) Q) : Ok (Res.thn st (K.go (.call n_refinerylaw05_Tokens [.agg #[vp]]) st) k) Q := by
 have hl := len_le p
 have hr := rdP_len p
 refine (Tokens_ok hF hA hp (fits_of hg (by omega)) hro (by omega) (by omega)).thn fun ⟨vt, s⟩ ⟨n0, e1, e2, e3⟩ => ?_
 exact h vt n0 s e1 e2 e3
end Go.Proofs.YtdjfndijbnpkpaaDoor.Sh
namespace Go.Proofs.YtdjfndijbnpkpaaDoor.Sh
open Go Go.AM Go.Proofs Go.AM.Lx
theorem ferr_all {l : List Int} (h : ferr l = 0) : ∀ e ∈ l, e = 0 := by
 induction l with
 | nil => simp
 | cons e l ih =>
   simp only [ferr] at h
   split at h
   ·rename_i h0
    intro e' he'
    rcases List.mem_cons.1 he' with rfl | he'
    ·exact h0
    ·exact ih h e' he'
   ·rename_i h0; exact absurd h h0
structure Block.Base (b : Block) : Prop where
 phis : b.phis = []
 instrs : ∀ x ∈ b.instrs, 0 ≤ x.kind ∧ 0 ≤ x.op ∧ fitN x.n
 last : 0 ≤ b.last.kind
theorem lchk_all {ls l : List Int} (h : lchk ls l = 0) : ∀ n ∈ l, n ∈ ls := by
 induction l with
 | nil => simp
 | cons n l ih =>
   rw [lchk] at h
   split at h
   ·rename_i c
    intro m hm
    rcases List.mem_cons.1 hm with rfl | hm
    ·exact c
    ·exact ih h m hm
   ·cases h
theorem lgood_of {l : Last} {ls : List Int} (hls : ∀ n ∈ ls, 0 ≤ n ∧ n < 100000) (hc : l.check ls = 0) (hk : 0 ≤ l.kind) : l.Good := by
 unfold Last.check at hc
 split at hc
 ·cases hc
 ·rename_i h1
  split at hc
  ·cases hc
  ·rename_i h2
   split at hc
   ·cases hc
   ·rename_i h3
    have h2 : l = l.only := Classical.byContradiction h2
    have ha : 0 ≤ l.a ∧ l.a < 100000 := by simpa [isReg] using h3
    have hm := fun n hn => hls n (lchk_all hc n hn)
    obtain ⟨k, a, y, n⟩ := l
    simp only [Last.only, Last.mk.injEq, true_and] at h2
    simp only at hk h1 ha
    refine ⟨⟨hk, by simp only; omega⟩, by simp only [Last.only, Last.mk.injEq, true_and]; exact h2, ha, ?_, ?_⟩
    ·rcases (show k = 0 ∨ k = 1 ∨ k = 2 ∨ k = 3 by omega) with rfl | rfl | rfl | rfl
     ·exact hm y (by simp [Last.labels])
     ·exact hm y (by unfold Last.labels; simp only; split <;> simp)
     ·simp at h2; simp [h2]
     ·simp at h2; simp [h2]
    ·rcases (show k = 0 ∨ k = 1 ∨ k = 2 ∨ k = 3 by omega) with rfl | rfl | rfl | rfl
     ·simp at h2; simp [h2]
     ·refine hm n ?_
      unfold Last.labels
      by_cases c : y = n
      ·simp [c]
      ·simp [c]
     ·simp at h2; simp [h2]
     ·simp at h2; simp [h2]
theorem bgood_of {b : Block} {ls : List Int} (hls : ∀ n ∈ ls, 0 ≤ n ∧ n < 100000) (hl : b.label ∈ ls) (hc : blockErr ls b = 0) (hb : b.Base) : b.Good := by
 unfold blockErr at hc
 have ha := ferr_all hc
 refine ⟨hls _ hl, hb.phis, fun x hx => ?_, ?_⟩
 ·obtain ⟨k1, k2, k3⟩ := hb.instrs x hx
  exact good_of (ha _ (List.mem_append_right _ (List.mem_append_left _ (List.mem_map_of_mem hx)))) k1 k2 k3
 ·exact lgood_of hls (ha _ (List.mem_append_right _ (List.mem_append_right _ (by simp)))) hb.last
theorem dupGo_fits : ∀ (p : Prog) (seen : List Int), dupGo seen p = 0 → ∀ b ∈ p, 0 ≤ b.label ∧ b.label < 100000 := by
 intro p
 induction p with
 | nil => simp
 | cons b p ih =>
   intro seen h c hc
   rw [dupGo] at h
   split at h
   ·cases h
   ·split at h
    ·cases h
    ·rcases List.mem_cons.1 hc with rfl | hc
     ·omega
     ·exact ih _ h c hc
theorem check_parts {p : Prog} (h : check p = 0) : dupGo [] p = 0 ∧ (∀ b ∈ p, blockErr (p.map (·.label)) b = 0) ∧ count p ≤ 4000 ∧ 1 ≤ p.length ∧ p.length ≤ 400 := by
 unfold check at h
 split at h
 ·cases h
 ·split at h
  ·cases h
  ·split at h
   ·rename_i h1 h2 h3
    refine ⟨h3, fun b hb => ferr_all h _ (List.mem_map_of_mem hb), by omega, by omega, by omega⟩
   ·rename_i h3; exact absurd h h3
theorem good_check {p : Prog} (h : check p = 0) (hb : ∀ b ∈ p, b.Base) : ∀ b ∈ p, b.Good := fun b hm => by
 obtain ⟨h1, h2, _⟩ := check_parts h
 refine bgood_of (ls := p.map (·.label)) (fun n hn => ?_) (List.mem_map_of_mem hm) (h2 b hm) (hb b hm)
 obtain ⟨c, hc, rfl⟩ := List.mem_map.1 hn
 exact dupGo_fits p [] h1 c hc
theorem small_count {s : Small} (hs : s.Ok) (hl : s.light = true) : count s.prog ≤ 200 := by
 obtain ⟨f1, f2, f3, f4, f5, f6⟩ := small_facts hs hl
 have := count_small hs hl (List.range s.n)
 unfold Small.prog
 rw [List.length_range] at this
 omega
theorem small_dup {s : Small} (hs : s.Ok) (hl : s.light = true) : dupGo [] s.prog = 0 := by
 obtain ⟨f1, f2, f3, f4, f5, f6⟩ := small_facts hs hl
 rw [dupGo_labels, prog_labels]
 exact dup_small f6
theorem small_check {s : Small} (hs : s.Ok) (hl : s.light = true) : check s.prog = 0 := by
 obtain ⟨f1, f2, f3, f4, f5, f6⟩ := small_facts hs hl
 have hc := small_count hs hl
 have hpl : s.prog.length = s.n := by simp [Small.prog]
 unfold check
 rw [if_neg (by omega), if_neg (by omega), if_pos (small_dup hs hl)]
 exact ferr_zero fun e he => by
  obtain ⟨c, hc, rfl⟩ := List.mem_map.1 he
  obtain ⟨i, hi, rfl⟩ := List.mem_map.1 hc
  exact block_fine hs hl (List.mem_range.1 hi)
theorem line_base {x : Line} (hx : x.Ok) (r : Int) : 0 ≤ (x.instr r).kind ∧ 0 ≤ (x.instr r).op ∧ fitN (x.instr r).n := by
 refine ⟨by show 0 ≤ x.kind % 9; omega, ?_, ?_⟩
 ·have := Int.emod_nonneg x.op (show (12 : Int) ≠ 0 by decide)
  unfold Line.instr Instr.only
  simp only
  split <;> omega
 ·have := hx.n
  unfold Line.instr Instr.only fitN
  simp only
  split <;> constructor <;> omega
theorem small_base {s : Small} (hs : s.Ok) (hl : s.light = true) : ∀ b ∈ s.prog, b.Base := by
 obtain ⟨f1, f2, f3, f4, f5, f6⟩ := small_facts hs hl
 intro b hb
 unfold Small.prog at hb
 obtain ⟨i, hi, rfl⟩ := List.mem_map.1 hb
 refine ⟨rfl, fun x hx => ?_, ?_⟩
 ·unfold Small.block at hx
  simp only [List.mem_append] at hx
  rcases hx with hx | hx
  ·split at hx
   ·unfold Small.firsts at hx
    obtain ⟨r, hr, rfl⟩ := List.mem_map.1 hx
    rw [List.mem_range] at hr
    have : r = 0 ∨ r = 1 ∨ r = 2 ∨ r = 3 ∨ r = 4 ∨ r = 5 := by omega
    rcases this with rfl | rfl | rfl | rfl | rfl | rfl <;> exact ⟨by decide, by decide, by unfold fitN; decide⟩
   ·simp at hx
  ·split at hx
   ·rename_i b hb
    obtain ⟨y, hy, rfl⟩ := List.mem_map.1 hx
    exact line_base ((hs.blocks b (List.mem_of_getElem? hb)).lines y hy) _
   ·simp at hx
 ·unfold Small.block
  simp only
  split
  ·rename_i b hb
   show 0 ≤ ends.getD (b.e % 8).toNat 0
   have : (b.e % 8).toNat = 0 ∨ (b.e % 8).toNat = 1 ∨ (b.e % 8).toNat = 2 ∨ (b.e % 8).toNat = 3 ∨ (b.e % 8).toNat = 4 ∨ (b.e % 8).toNat = 5 ∨ (b.e % 8).toNat = 6 ∨ (b.e % 8).toNat = 7 := by omega
   rcases this with h | h | h | h | h | h | h | h <;> rw [h] <;> decide
  ·split <;> decide
theorem small_good {s : Small} (hs : s.Ok) (hl : s.light = true) : ∀ b ∈ s.prog, b.Good := good_check (small_check hs hl) (small_base hs hl)
theorem small_ne {s : Small} (hs : s.Ok) (hl : s.light = true) : s.prog ≠ [] := by
 obtain ⟨f1, f2, f3, f4, f5, f6⟩ := small_facts hs hl
 have hpl : s.prog.length = s.n := by simp [Small.prog]
 intro e
 rw [e] at hpl
 simp at hpl
 omega
end Go.Proofs.YtdjfndijbnpkpaaDoor.Sh
namespace Go.Proofs.YtdjfndijbnpkpaaDoor.Sh
open Go Go.AM Go.Proofs Go.AM.Lx
namespace PS
theorem bloop_lay' {e : Last} (he : e.Good) {l : List Rd} : ∀ (xs : List Instr) (ls ts : List Tok) (f : Nat) (r : List Tok) (a : Nat) (acc : List Instr), (∀ x ∈ xs, x.Good) → (∀ x ∈ ls, x.kind = 7) → Lay ((xs.flatMap fun x => rdI x ++ [rLine]) ++ (rdL e ++ l)) ts →
 ∃ ts', Lay l ts' ∧ bloop (f + xs.length + 1) ⟨ls ++ (ts ++ r), a, 0⟩ acc = some (acc ++ xs, e, ⟨ts' ++ r, a, 0⟩) := by
 intro xs
 induction xs with
 | nil =>
   intro ls ts f r a acc hx hls hl
   obtain ⟨t, u, ts', rfl, h1, h2, h3⟩ := last_lay he (l := l) (ts := ts) (by simpa using hl) r a
   refine ⟨ts', h2, ?_⟩
   have hln : lines ⟨ls ++ (t :: u ++ r), a, 0⟩ = ⟨t :: u ++ r, a, 0⟩ := lines_ok hls h1
   show (if _ then _ else _) = _
   rw [if_pos rfl, hln, h3]
   simp
 | cons x xs ih =>
   intro ls ts f r a acc hx hls hl
   have hl : Lay (rdI x ++ (rLine :: ((xs.flatMap fun x => rdI x ++ [rLine]) ++ (rdL e ++ l)))) ts := by simpa using hl
   obtain ⟨t, u, ts1, rfl, h1, h2, h3, h4⟩ := instr_lay (hx x (List.mem_cons_self ..)) hl r a
   obtain ⟨t7, ls', ts2, rfl, h5, h6, h7⟩ := lay_line h3 rfl
   obtain ⟨ts', h8, h9⟩ := ih ls' ts2 f r a (acc ++ [x]) (fun y hy => hx y (List.mem_cons_of_mem _ hy)) h6 h7
   refine ⟨ts', h8, ?_⟩
   have hln : lines ⟨ls ++ (t :: u ++ r), a, 0⟩ = ⟨t :: u ++ r, a, 0⟩ := lines_ok hls h1
   rw [List.length_cons, show f + (xs.length + 1) + 1 = (f + xs.length + 1) + 1 by omega]
   show (if _ then _ else _) = _
   rw [if_pos rfl, hln, h2]
   simp only [Bool.false_eq_true, if_false]
   rw [h4]
   simp only
   have e1 : t7 :: (ls' ++ ts2) ++ r = t7 :: (ls' ++ (ts2 ++ r)) := by simp
   rw [e1, eol_ok h5, h9]
   simp
theorem block_cut {b : Block} (hb : b.Good) {ts : List Tok} (hl : Lay (rdB b).dropLast ts) {f : Nat} (hf : b.instrs.length + 1 ≤ f) {e : Tok} (he : e.kind = 0) (a : Nat) :
 ∃ t u, ts = t :: u ∧ t.kind = 3 ∧ block f ⟨ts ++ [e], a, 0⟩ = some (b, ⟨[e], a, 0⟩) := by
 have hl : Lay (rLab b.label :: rSign 58 :: rLine :: ((b.instrs.flatMap fun x => rdI x ++ [rLine]) ++ (rdL b.last ++ []))) ts := by
  unfold rdB at hl
  rw [List.dropLast_concat] at hl
  simpa using hl
 obtain ⟨t1, u1, rfl, s1, hm⟩ := lay_ne hl (by simp [rLab])
 obtain ⟨t2, u2, rfl, s2, hm⟩ := lay_ne hm (by simp [rSign])
 obtain ⟨t3, ls3, u3, rfl, k3, hls3, hm⟩ := lay_line hm rfl
 have k1 : t1.kind = 3 := s1.1
 have n1 : t1.n = b.label := s1.2.2
 have hlab := hb.label
 obtain ⟨g, rfl⟩ : ∃ g, f = g + b.instrs.length + 1 := ⟨f - b.instrs.length - 1, by omega⟩
 obtain ⟨ts4, hm4, hbl⟩ := bloop_lay' hb.last b.instrs ls3 u3 g [e] a [] hb.instrs hls3 hm
 cases hm4
 refine ⟨t1, _, rfl, k1, ?_⟩
 unfold block
 have e0 : t1 :: t2 :: t3 :: (ls3 ++ u3) ++ [e] = t1 :: t2 :: t3 :: (ls3 ++ (u3 ++ [e])) := by simp
 rw [e0, label_ok k1 (by omega)]
 simp only
 rw [sign_ok s2.1 s2.2.1, eol_ok k3, hbl]
 simp only
 have hnil : ([] : List Tok) ++ [e] = [e] := rfl
 rw [hnil, is_ok he (.inl rfl), n1, List.nil_append]
 simp only [if_true]
 have := hb.phis
 obtain ⟨lb, ph, is, la⟩ := b
 simp only at this
 subst this
 rfl
theorem progL_cut {N : Nat} {e : Tok} (he : e.kind = 0) : ∀ (p : Prog) (ls ts : List Tok) (f : Nat) (acc : Prog), p ≠ [] → (∀ b ∈ p, b.Good ∧ b.instrs.length ≤ N) → (∀ x ∈ ls, x.kind = 7) → Lay (rdP p).dropLast ts → p.length + N + 2 ≤ f → ∃ S, progL f (lines ⟨ls ++ (ts ++ [e]), 0, 0⟩) acc = some (acc ++ p, S) ∧ S.err = 0 := by
 intro p
 induction p with
 | nil => intro ls ts f acc h; exact absurd rfl h
 | cons b p ih =>
   intro ls ts f acc _ hp hls hl hf
   obtain ⟨hb, hN⟩ := hp b (List.mem_cons_self ..)
   simp only [List.length_cons] at hf
   obtain ⟨f, rfl⟩ : ∃ g, f = g + 1 := ⟨f - 1, by omega⟩
   cases p with
   | nil =>
     have hl : Lay (rdB b).dropLast ts := by simpa [rdP] using hl
     obtain ⟨t, u, rfl, k1, h4⟩ := block_cut hb hl (f := f) (by omega) he 0
     have hln : lines ⟨ls ++ (t :: u ++ [e]), 0, 0⟩ = ⟨t :: u ++ [e], 0, 0⟩ := lines_ok hls (by rw [k1]; decide)
     have hln2 : lines ⟨[e], 0, 0⟩ = ⟨[e], 0, 0⟩ := lines_ok (ls := []) (by simp) (by rw [he]; decide)
     rw [hln]
     refine ⟨⟨[e], 0, 0⟩, ?_, rfl⟩
     show (if _ then _ else _) = _
     rw [show t :: u ++ [e] = t :: (u ++ [e]) from rfl, is_ok k1 (.inl rfl), if_pos rfl, show t :: (u ++ [e]) = t :: u ++ [e] from rfl, h4]
     simp only
     obtain ⟨f, rfl⟩ : ∃ g, f = g + 1 := ⟨f - 1, by omega⟩
     rw [hln2]
     show (if _ then _ else _) = _
     rw [is_no (by rw [he]; decide), if_neg (by decide)]
     unfold take
     rw [is_ok he (.inl rfl)]
     simp
   | cons c p =>
     have hne : rdP (c :: p) ≠ [] := by simp [rdP, rdB]
     have hl : Lay (rdB b ++ (rdP (c :: p)).dropLast) ts := by
      have : rdP (b :: c :: p) = rdB b ++ rdP (c :: p) := by simp [rdP]
      rw [this, List.dropLast_append_of_ne_nil hne] at hl
      exact hl
     obtain ⟨t, u, ls', ts', rfl, k1, h2, h3, h4⟩ := block_lay hb hl (f := f) (by omega) [e] 0
     obtain ⟨S, h5, h6⟩ := ih ls' ts' f (acc ++ [b]) (by simp) (fun c hc => hp c (List.mem_cons_of_mem _ hc)) h2 h3 (by omega)
     refine ⟨S, ?_, h6⟩
     have hln : lines ⟨ls ++ (t :: u ++ [e]), 0, 0⟩ = ⟨t :: u ++ [e], 0, 0⟩ := lines_ok hls (by rw [k1]; decide)
     rw [hln]
     show (if _ then _ else _) = _
     rw [show t :: u ++ [e] = t :: (u ++ [e]) from rfl, is_ok k1 (.inl rfl), if_pos rfl, show t :: (u ++ [e]) = t :: u ++ [e] from rfl, h4]
     simp only
     rw [h5]
     simp
end PS
variable {K : Ctx} (hF : Fix pgF K)
include hF
theorem Parse_cut {p : Prog} {gs : List Int} (hne : p ≠ []) (hg : ∀ b ∈ p, b.Good) (hc : check p = 0) (hcnt : count p < 4001) (hlen : (textG gs (rdP p).dropLast 0).length ≤ 100000) {st : St} (hv : VOk st) :
 Ok (K.go (.call n_parse_Parse [T (textG gs (rdP p).dropLast 0)]) st) (ParsePost st p 0 0) := by
 obtain ⟨ts, e, hl, he, hsp⟩ := split_lay (gs := gs) (l := (rdP p).dropLast) (fun q hq => items_P hg q (List.dropLast_subset _ hq)) hlen
 have hmem : ∀ b ∈ p, b.instrs.length ≤ 4000 := fun b hb => by
  have := count_mem hb
  omega
 have hpl := len_le p
 obtain ⟨S, h1, h2⟩ := PS.progL_cut (N := 4000) he p [] ts 10000 [] hne (fun b hb => ⟨hg b hb, hmem b hb⟩) (by simp) hl (by omega)
 refine Parse_all hF (by unfold Short; omega) hv (fun hne => by rw [hsp] at hne; exact absurd rfl hne) fun _ => ?_
 rw [hsp]
 refine ⟨10000, p, S, by omega, ?_, fun hne => absurd h2 hne, fun _ => ⟨by omega, fun b hb => (hg b hb).phis, fun h => absurd hc h, fun _ => ⟨rfl, rfl, rfl⟩⟩⟩
 have h1' : PS.progL 10000 (PS.lines ⟨ts ++ [e], 0, 0⟩) [] = some (p, S) := by simpa using h1
 exact h1'
end Go.Proofs.YtdjfndijbnpkpaaDoor.Sh
namespace Go.Proofs.YtdjfndijbnpkpaaDoor.Sh
open Go Go.AM Go.Proofs Go.AM.Lx
abbrev RRd (cs : List Value) (p : Rd) : Prop := cs = [T p.1]
theorem txs_at {l : List Rd} {i : Nat} {p : Rd} (h : l[i]? = some p) : ((txs l).drop i).take 1 = [T p.1] := by
 have hi := (List.getElem?_eq_some_iff.1 h).1
 have : (txs l)[i]? = some (T p.1) := by unfold txs; rw [List.getElem?_map, h]; rfl
 obtain ⟨h1, h2⟩ := List.getElem?_eq_some_iff.1 this
 rw [List.drop_eq_getElem_cons h1, h2]
 rfl
theorem toks_to {n0 : Nat} {st : St} {v : Value} {l : List Rd} (h : Own n0 st 1 v (txs l)) {k : Nat} (hk : k ≤ l.length) : ∃ v', sSlice (.slice 1) v none (some (I k)) none st = .ok (v', st) ∧ RSl (Rng n0 st.next) st 1 RRd v' (l.take k) := by
 rcases h with ⟨h0, c, rfl⟩ | ⟨b, n, rfl, h2, h3, h4, h5⟩
 ·have : l = [] := by simpa [txs] using h0
  subst this
  have : k = 0 := by simpa using hk
  subst this
  refine ⟨.slice none 0 1, ?_, by simpa using RSl.nil _ _ _ _ _⟩
  simp [sSlice, aslice, Res.need, boundO, bound]
 ·have hl : (txs l).length = l.length := by simp [txs]
  have hn : n = l.length := by omega
  subst hn
  refine ⟨Sl b 0 k 1, ?_, .inr ⟨b, 0, txs l, by rw [List.length_take, Nat.min_eq_left hk], ⟨h4, h5⟩, h3, by rw [List.length_take]; omega, fun i p hp => ?_⟩⟩
  ·simp [sSlice, aslice, cells_eq h3, Res.need, boundO, bound, hl, hk]
  ·rw [Nat.zero_add, Nat.mul_one]
   rw [List.getElem?_take] at hp
   split at hp
   ·exact txs_at hp
   ·cases hp
theorem wv_gaps {st : St} {v : Value} (h : WV pg st 25 v) : ∃ gs : List Int, RSl (Bel st.next) st 1 (fun cs n => cs = [U n]) v gs ∧ (∀ n ∈ gs, 0 ≤ n ∧ n ≤ 255) ∧ gs.length < 2 ^ 62 := by
 obtain ⟨l, hl, hb⟩ := h.rsl Tryd.underlying25 (c := 1) (R := fun cs n => cs = [U n] ∧ (0 ≤ n ∧ n ≤ 255)) (by kernel_rfl) fun cs hw => by
  obtain ⟨n, e, w⟩ := hw.getInt Tryd.underlying5
  exact ⟨n, e, bounds_u8 w⟩
 refine ⟨l, hl.mono (fun _ h => h) (Agree.refl _ _) fun _ _ _ h => h.1, rsl_all hl, ?_⟩
 have : pg.bytesOf 5 = 1 := by kernel_rfl
 rw [this] at hb
 have : reachBytes < 2 ^ 62 := by decide
 omega
end Go.Proofs.YtdjfndijbnpkpaaDoor.Sh
