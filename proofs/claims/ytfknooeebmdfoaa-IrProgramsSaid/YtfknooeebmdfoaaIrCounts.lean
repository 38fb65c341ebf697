/-
  IrCounts: whatever it is given, the law's function answers true.
-/
import Derived.Test.YtfknooeebmdfoaaIrCounts0
import Derived.Test.YtfknooeebmdfoaaIrPlain2
import Derived.Test.YtfknooeebmdfoaaIrSmallArgs
import Derived.Test.YtfknooeebmdfoaaShL9
set_option linter.unusedVariables false
set_option linter.unusedSimpArgs false
set_option linter.unusedSectionVars false
set_option maxRecDepth 100000
namespace Go.Proofs.Ytfknooeebmdfoaa.Sh
open Go Go.AM Go.Proofs

theorem same_rep {α : Type} {s : Nat} {R : Rep α} {st : St} {v : Value} {l : List α} {ids : List Nat} (h : RepSl s R st v l ids) : sameVal v v = true := by
  obtain ⟨a, n, c, rfl⟩ := h.shape
  simp
theorem same_agg1 {α : Type} {s : Nat} {R : Rep α} {st : St} {v : Value} {l : List α} {ids : List Nat} (h : RepSl s R st v l ids) : sameVal (.agg #[v]) (.agg #[v]) = true := by
  obtain ⟨a, n, c, rfl⟩ := h.shape
  simp [sameVal, sameOne, sameCell, sameCells]
theorem same_small {A : Nat → Prop} {st : St} {v : Value} {s : Small} (h : RSmall A st v s) : sameVal v v = true := by
  obtain ⟨vb, rfl, hb⟩ := h
  rcases hb with ⟨_, c, rfl⟩ | ⟨b, o, xs, rfl, _⟩ <;> simp [sameVal, sameOne, sameCell, sameCells]
theorem PProg.bel {st : St} {v : Value} {p : Prog} {ids : List Nat} (h : PProg st v p ids) (hlt : ∀ id ∈ ids, id < st.next) : RProg (Bel st.next) st v p := h.read.in hlt

variable {K : Ctx} (hF : Fix pgF K)
include hF

theorem Counts_j1 {J} (hJ : IsJ K (retK refinerylaw03_IrCounts_c.results) J) {A : Nat → Prop} {st : St} (hro : st.ro ≤ st.next) {s t : Small} (hs : s.Ok) (hl : s.light = true) (ht : t.Ok) (htl : t.light = true) {v w : Value} (hA : ∀ id, A id → id < st.next) (hv : RSmall A st v s) (hw : RSmall A st w t) {n : Int} (hn : 0 ≤ n ∧ n ≤ 65535) :
    Ok (refinerylaw03_IrCounts_j1 J (.int .u16 n) v w st) fun r => r.1 = B true := by
  have hfv : ∀ s, sField (some 3) 0 v s = .ok (v, s) := by
    obtain ⟨vb, rfl, _⟩ := hv
    intro s; rfl
  have hfw : ∀ s, sField (some 3) 0 w s = .ok (w, s) := by
    obtain ⟨vb, rfl, _⟩ := hw
    intro s; rfl
  have e0 : (if true = true then Res.ok () else Res.err "order" : Res Unit) = .ok () := if_pos rfl
  have hu1 : ∀ (x y : Value) (s : St), cellOk y = true → sUpd 1 0 (.agg #[x]) (.agg #[y]) s = .ok (.agg #[y], s) := fun x y s h => by simp [Res.need, h]
  have hf1 : ∀ (x : Value) (s : St), sField (some 1) 0 (.agg #[x]) s = .ok (.agg #[x], s) := fun x s => rfl
  have hf0 : ∀ (x : Value) (s : St), sField none 0 (.agg #[x]) s = .ok (x, s) := fun x s => rfl
  rw [refinerylaw03_IrCounts_j1_eq hJ]
  simp [hfv]
  refine (Program_ok hF hro hs hl hA hv).thn fun ⟨r1, s1⟩ ⟨vp, ids, h1, hp1, nd1, lo1, hE1⟩ => ?_
  simp only at h1 hp1 lo1 hE1 ⊢
  subst h1
  simp [hfw, Res.need, same_small hw]
  refine (Program_ok hF (hE1.roOk hro) ht htl (fun id h => Nat.lt_of_lt_of_le (hA id h) hE1.next) (hw.mono (hE1.agree hA))).thn fun ⟨r2, s2⟩ ⟨vq, jds, h2, hq2, nd2, lo2, hE2⟩ => ?_
  simp only at h2 hq2 lo2 hE2 ⊢
  subst h2
  have hp2 := hp1.frame (st' := s2) fun id hi => hE2.get id (lo1 id hi).2
  simp [hu1, hf1, hf0, hp2.cell, hq2.cell]
  have cs := small_count hs hl
  have ct := small_count ht htl
  have plen := len_le s.prog
  have qlen := len_le t.prog
  have lp1 : ∀ id ∈ ids, id < s1.next := fun id hi => (lo1 id hi).2
  have lp2 : ∀ id ∈ ids, id < s2.next := fun id hi => Nat.lt_of_lt_of_le (lp1 id hi) hE2.next
  have lq2 : ∀ id ∈ jds, id < s2.next := fun id hi => (lo2 id hi).2
  have hsm : ∀ b ∈ s.prog, ∀ f ∈ b.phis, f.frm.length < 2 ^ 40 ∧ f.args.length < 2 ^ 40 := fun b hb f hf => by
    unfold Small.prog at hb
    obtain ⟨i, _, rfl⟩ := List.mem_map.1 hb
    cases hf
  have hE3 : Ext s2 s2.bump.bump := by simp
  have ro2 : s2.ro ≤ s2.next := (hE1.trans hE2).roOk hro
  generalize hs3 : s2.bump.bump = s3 at *
  have hp3 := hp2.frame (st' := s3) fun id hi => hE3.get id (lp2 id hi)
  have hq3 := hq2.frame (st' := s3) fun id hi => hE3.get id (lq2 id hi)
  have lp3 : ∀ id ∈ ids, id < s3.next := fun id hi => Nat.lt_of_lt_of_le (lp2 id hi) hE3.next
  have lq3 : ∀ id ∈ jds, id < s3.next := fun id hi => Nat.lt_of_lt_of_le (lq2 id hi) hE3.next
  have ro3 : s3.ro ≤ s3.next := hE3.roOk ro2
  refine (Clone_ok hF (fun _ h => h) ro3 (hp3.bel lp3) (by omega) hsm).thn fun ⟨r3, s4⟩ ⟨vc, cds, h3, hc4, nd3, lo3, hE4⟩ => ?_
  simp only at h3 hc4 lo3 hE4 ⊢
  subst h3
  have hp4 := hp3.frame (st' := s4) fun id hi => hE4.get id (lp3 id hi)
  have hq4 := hq3.frame (st' := s4) fun id hi => hE4.get id (lq3 id hi)
  have lp4 : ∀ id ∈ ids, id < s4.next := fun id hi => Nat.lt_of_lt_of_le (lp3 id hi) hE4.next
  have lq4 : ∀ id ∈ jds, id < s4.next := fun id hi => Nat.lt_of_lt_of_le (lq3 id hi) hE4.next
  have ro4 : s4.ro ≤ s4.next := hE4.roOk ro3
  have hne : s.prog ≠ [] := by
    obtain ⟨b, q, h, _⟩ := small_cons hs hl
    rw [h]; simp
  obtain ⟨vb, s5, bds, a1, hb5, a3, a4, a5, a6⟩ := RepSl.cat (bytes := 88) PBlock.fr hc4 hq4 hne (by decide) (fun id hi => (lo3 id hi).2) lq4 (fun id hi => by have := lo3 id hi; rw [hE4.ro]; omega) (List.nodup_append.2 ⟨nd3, nd2, fun x hx y hy e => by have := (lo3 x hx).1; have := lq3 y hy; omega⟩) (by omega)
  simp [hf0, same_rep hq4, a1]
  have hbl : ∀ s, sBuild [.slice none 0 0] [(0, 1, vb)] s = .ok (.agg #[vb], s) := fun s => by
    obtain ⟨x, y, z, e⟩ := hb5.shape
    rw [e]
    simp [sBuild, fillL, Res.need]
  simp [hbl, hu1, hb5.cell]
  have hp5 : PProg s5 vp s.prog ids := hp4.frame fun id hi => a4 id (lp4 id hi) fun hm => by have := (lo3 id hm).1; have := lp3 id hi; omega
  have hq5 : PProg s5 vq t.prog jds := hq4.frame fun id hi => a4 id (lq4 id hi) fun hm => by have := (lo3 id hm).1; have := lq3 id hi; omega
  have lp5 : ∀ id ∈ ids, id < s5.next := fun id hi => Nat.lt_of_lt_of_le (lp4 id hi) a5
  have lq5 : ∀ id ∈ jds, id < s5.next := fun id hi => Nat.lt_of_lt_of_le (lq4 id hi) a5
  have lb5 : ∀ id ∈ bds, id < s5.next := fun id hi => by
    rcases a3 id hi with h | h | h
    · exact Nat.lt_of_lt_of_le (lo3 id h).2 a5
    · exact lq5 id h
    · exact h.2
  have ro5 : s5.ro ≤ s5.next := by rw [a6]; omega
  have hE6 : Ext s5 s5.bump := by simp
  generalize hs6 : s5.bump = s6 at *
  have hp6 := hp5.frame (st' := s6) fun id hi => hE6.get id (lp5 id hi)
  have lp6 : ∀ id ∈ ids, id < s6.next := fun id hi => Nat.lt_of_lt_of_le (lp5 id hi) hE6.next
  refine (Clone_ok hF (fun _ h => h) (hE6.roOk ro5) (hp6.bel lp6) (by omega) hsm).thn fun ⟨r4, s7⟩ ⟨vr, rds, h4, hr7, nd4, lo4, hE7⟩ => ?_
  simp only at h4 hr7 lo4 hE7 ⊢
  subst h4
  simp [hf0, hu1, hr7.cell]
  have hE8 : Ext s7 s7.bump := by simp
  have hE58 := (hE6.trans hE7).trans hE8
  generalize hs8 : s7.bump = s8 at *
  obtain ⟨b, q, hbq, _⟩ := small_cons hs hl
  rw [hbq] at hr7
  have hr8 := hr7.frame (st' := s8) fun id hi => hE8.get id (lo4 id hi).2
  obtain ⟨bid, vi, i2, rfl, b1, b2, b3, b4, b5, b6, b7⟩ := first_put hr8 nd4
  have hld := b6 s8 rfl
  have hix : ∀ s, sIxA 7 none (Sl bid 0 (q.length + 1) 7) (I 0) s = .ok (P bid 0, s) := fun s => by
    simp [sIxA, index, Res.need, show (0 : Int) < q.length + 1 by omega]
  have hw64 : IntKind.i64.wrap n = n := wrap_id (by omega)
  have hbi : ∀ s, sBuild [U 0, U 0, I 0, I 0, I 0, I 0, I 0] [(2, 1, I n)] s = .ok (vI ⟨0, 0, n, 0, 0, 0, 0⟩, s) := fun s => by
    simp [sBuild, fillL, Res.need, vI]
  simp [hix, hld, hw64, hbi]
  have lr8 : ∀ id ∈ rds, id < s8.next := fun id hi => Nat.lt_of_lt_of_le (lo4 id hi).2 hE8.next
  have r8 : ∀ id ∈ rds, s5.next ≤ id := fun id hi => Nat.le_trans hE6.next (lo4 id hi).1
  have ro8 : ∀ id ∈ rds, s8.ro ≤ id := fun id hi => by rw [hE58.ro]; exact Nat.le_trans ro5 (r8 id hi)
  have cb : b.instrs.length < 1000 := by
    have := count_mem (show b ∈ s.prog by rw [hbq]; simp)
    omega
  obtain ⟨vi', s9, is', d1, d2, d3, d4, d5, d6, d7⟩ := RepSl.push (bytes := 48) PInstr.fr b5 (by decide) (x := ⟨0, 0, n, 0, 0, 0, 0⟩) (cs := cI ⟨0, 0, n, 0, 0, 0, 0⟩) (is := []) ⟨rfl, rfl⟩ rfl rfl (fun id hi => lr8 id (b4 id (by simpa using hi))) (fun id hi => ro8 id (b4 id hi)) (by simpa using b3) (by omega)
  obtain ⟨s10, rds', c1, hr10, c3, c4, c5, c6⟩ := b7 s9 vi' is' (b.instrs ++ [⟨0, 0, n, 0, 0, 0, 0⟩]) (fun id hi hne => d5 id (lr8 id hi) hne) d2 (fun hm => by
    rcases d4 _ hm with h | h | h
    · exact b2 h
    · cases h
    · have := lr8 _ b1; omega) (by rw [d7]; exact ro8 _ b1)
  have hsto : sStore 1 (P bid 2) vi' s9 = .ok (nothing, s10) := by
    obtain ⟨x, y, z, e⟩ := d2.shape
    rw [e] at c1 ⊢
    simp [-storeN_def, c1, Res.need]
  simp [d1, hsto]
  have keep : ∀ id, id < s5.next → s10.get id = s5.get id := fun id hi => by
    have h1 : id < s8.next := Nat.lt_of_lt_of_le hi hE58.next
    rw [c4 id fun e => by have := r8 _ b1; omega, d5 id h1 fun hm => by have := r8 _ (b4 id hm); omega, hE58.get id hi]
  have nx : s5.next ≤ s10.next := by have := hE58.next; omega
  have hp10 : PProg s10 vp s.prog ids := hp5.frame fun id hi => keep id (lp5 id hi)
  have hq10 : PProg s10 vq t.prog jds := hq5.frame fun id hi => keep id (lq5 id hi)
  have hb10 : PProg s10 vb (s.prog ++ t.prog) bds := RepSl.frame PBlock.fr hb5 fun id hi => keep id (lb5 id hi)
  have lr10 : ∀ id ∈ rds', id < s10.next := fun id hi => by
    rw [c5]
    rcases c3 id hi with h | h
    · exact Nat.lt_trans (lr8 id h) d6
    · rcases d4 id h with h | h | h
      · exact Nat.lt_trans (lr8 id (b4 id h)) d6
      · cases h
      · exact h.2
  have ro10 : s10.ro ≤ s10.next := by rw [c6, d7, hE58.ro]; omega
  have P1 : ∀ s', Ext s10 s' → RProg (Bel s'.next) s' vp s.prog := fun s' hE => (hp10.frame fun id hi => hE.get id (Nat.lt_of_lt_of_le (lp5 id hi) nx)).bel fun id hi => Nat.lt_of_lt_of_le (Nat.lt_of_lt_of_le (lp5 id hi) nx) hE.next
  have P2 : ∀ s', Ext s10 s' → RProg (Bel s'.next) s' vq t.prog := fun s' hE => (hq10.frame fun id hi => hE.get id (Nat.lt_of_lt_of_le (lq5 id hi) nx)).bel fun id hi => Nat.lt_of_lt_of_le (Nat.lt_of_lt_of_le (lq5 id hi) nx) hE.next
  have P3 : ∀ s', Ext s10 s' → RProg (Bel s'.next) s' vb (s.prog ++ t.prog) := fun s' hE => (hb10.frame fun id hi => hE.get id (Nat.lt_of_lt_of_le (lb5 id hi) nx)).bel fun id hi => Nat.lt_of_lt_of_le (Nat.lt_of_lt_of_le (lb5 id hi) nx) hE.next
  have P4 : ∀ s', Ext s10 s' → RProg (Bel s'.next) s' (Sl bid 0 (q.length + 1) 7) ({ b with instrs := b.instrs ++ [⟨0, 0, n, 0, 0, 0, 0⟩] } :: q) := fun s' hE => (hr10.frame fun id hi => hE.get id (lr10 id hi)).bel fun id hi => Nat.lt_of_lt_of_le (lr10 id hi) hE.next
  clear hv hw hp1 hq2 hp2 hp3 hq3 hc4 hp4 hq4 hb5 hp5 hq5 hp6 hr7 hr8 b5 b6 b7 d2 c1 d1 hix hld hbi hbl
  have sp := same_agg1 hp10
  have sq := same_agg1 hq10
  have cc := count_append s.prog t.prog
  have ex : Ext s10 s10 := Ext.refl _
  refine (Count_ok hF (fun _ h => h) (P3 _ ex) (by omega)).call fun t1 hT1 => ?_
  simp [sp]
  refine (Count_ok hF (fun _ h => h) (P1 _ hT1) (by omega)).call fun t2 hT2 => ?_
  have hT2 := hT1.trans hT2
  simp [sq]
  refine (Count_ok hF (fun _ h => h) (P2 _ hT2) (by omega)).call fun t3 hT3 => ?_
  have hT3 := hT2.trans hT3
  rw [cc]
  have n1 := count_nonneg s.prog
  have n2 := count_nonneg t.prog
  have w1 : IntKind.i64.wrap (count s.prog + count t.prog) = count s.prog + count t.prog := wrap_id (by omega)
  simp [w1, hf1]
  have F1 := small_fit hs hl
  have F2 := small_fit ht htl
  have F3 : ∀ b ∈ s.prog ++ t.prog, (∀ f ∈ b.phis, f.args.length < 2 ^ 62) ∧ ∀ r ∈ b.seen, fit r := fun b hb => (List.mem_append.1 hb).elim (F1 b) (F2 b)
  have F4 : ∀ c ∈ { b with instrs := b.instrs ++ [⟨0, 0, n, 0, 0, 0, 0⟩] } :: q, (∀ f ∈ c.phis, f.args.length < 2 ^ 62) ∧ ∀ r ∈ c.seen, fit r := fun c hc => by
    rcases List.mem_cons.1 hc with rfl | hc
    · have hb := F1 b (by rw [hbq]; simp)
      refine ⟨hb.1, fun r hr => ?_⟩
      unfold Block.seen at hr
      simp only [List.flatMap_append, List.mem_append] at hr
      have hn' : ∀ r ∈ [(⟨0, 0, n, 0, 0, 0, 0⟩ : Instr)].flatMap Instr.seen, fit r := fun r hr => by
        have : r = n := by simpa [Instr.seen, Instr.sets, Instr.reads] using hr
        rw [this]; unfold fit; omega
      rcases hr with hr | (hr | hr) | hr
      · exact hb.2 r (List.mem_append_left _ hr)
      · exact hb.2 r (List.mem_append_right _ (List.mem_append_left _ hr))
      · exact hn' r hr
      · exact hb.2 r (List.mem_append_right _ (List.mem_append_right _ hr))
    · exact F1 c (by rw [hbq]; exact List.mem_cons_of_mem _ hc)
  have rm : (if regs t.prog > regs s.prog then regs t.prog else regs s.prog) = regs (s.prog ++ t.prog) := by rw [regs_append]; split <;> omega
  simp only [gt_iff_lt] at rm
  refine (Regs_ok hF (fun _ h => h) (hT3.roOk ro10) (P3 _ hT3) (by omega) F3).callB fun t4 hT4 => ?_
  have hT4 := hT3.trans hT4
  refine (Regs_ok hF (fun _ h => h) (hT4.roOk ro10) (P1 _ hT4) (by omega) F1).callB fun t5 hT5 => ?_
  have hT5 := hT4.trans hT5
  refine (Regs_ok hF (fun _ h => h) (hT5.roOk ro10) (P2 _ hT5) (by omega) F2).callB fun t6 hT6 => ?_
  have hT6 := hT5.trans hT6
  simp [rm]
  have hbc := both_check hs hl ht htl
  have hnp : ∀ c ∈ s.prog ++ t.prog, ∀ f ∈ c.phis, f.frm.length < 2 ^ 62 := fun c hc f hf => by
    have : c.phis = [] := by
      rcases List.mem_append.1 hc with hc | hc
      · unfold Small.prog at hc
        obtain ⟨i, _, rfl⟩ := List.mem_map.1 hc
        rfl
      · unfold Small.prog at hc
        obtain ⟨i, _, rfl⟩ := List.mem_map.1 hc
        rfl
    rw [this] at hf; cases hf
  refine (Check_ok hF (fun _ h => h) (P3 _ hT6) (by omega) hnp (hT6.roOk ro10)).callB fun t7 hT7 => ?_
  have hT7 := hT6.trans hT7
  simp [hbc]
  have cf : count ({ b with instrs := b.instrs ++ [⟨0, 0, n, 0, 0, 0, 0⟩] } :: q) = count s.prog + 1 := by rw [count_first, hbq]
  have rf : (if n + 1 > regs s.prog then n + 1 else regs s.prog) = regs ({ b with instrs := b.instrs ++ [⟨0, 0, n, 0, 0, 0, 0⟩] } :: q) := by rw [regs_first b q n hn.1, ← hbq]; split <;> omega
  simp only [gt_iff_lt] at rf
  have w2 : IntKind.i64.wrap (count s.prog + 1) = count s.prog + 1 := wrap_id (by omega)
  have w3 : IntKind.i64.wrap (n + 1) = n + 1 := wrap_id (by omega)
  refine (Count_ok hF (fun _ h => h) (P4 _ hT7) (by omega)).callB fun t8 hT8 => ?_
  have hT8 := hT7.trans hT8
  refine (Count_ok hF (fun _ h => h) (P1 _ hT8) (by omega)).callB fun t9 hT9 => ?_
  have hT9 := hT8.trans hT9
  simp [cf, w2]
  refine (Regs_ok hF (fun _ h => h) (hT9.roOk ro10) (P4 _ hT9) (by omega) F4).callB fun ta hTa => ?_
  have hTa := hT9.trans hTa
  refine (Regs_ok hF (fun _ h => h) (hTa.roOk ro10) (P1 _ hTa) (by omega) F1).callB fun tb hTb => ?_
  simp [hw64, w3, rf]

theorem IrCounts_ok {A : Nat → Prop} {st : St} (hro : st.ro ≤ st.next) {s t : Small} (hs : s.Ok) (hns : s.blocks.length < 2 ^ 62) (ht : t.Ok) (hnt : t.blocks.length < 2 ^ 62) {v w : Value} (hA : ∀ id, A id → id < st.next) (hv : RSmall A st v s) (hw : RSmall A st w t) {n : Int} (hn : 0 ≤ n ∧ n ≤ 65535) :
    Ok (K.go (.call n_refinerylaw03_IrCounts [v, w, .int .u16 n]) st) fun r => r.1 = B true := by
  refine refinerylaw03_IrCounts_of hF fun J hJ => ?_
  rw [refinerylaw03_IrCounts_eq]
  have hlb : ∀ s, sLbox v s = .ok (v, s.bump) := by
    obtain ⟨vb, rfl, _⟩ := hv
    intro s; rfl
  have hlw : ∀ s, sLbox w s = .ok (w, s.bump) := by
    obtain ⟨vb, rfl, _⟩ := hw
    intro s; rfl
  have hfv : ∀ s, sField (some 3) 0 v s = .ok (v, s) := by
    obtain ⟨vb, rfl, _⟩ := hv
    intro s; rfl
  have hfw : ∀ s, sField (some 3) 0 w s = .ok (w, s) := by
    obtain ⟨vb, rfl, _⟩ := hw
    intro s; rfl
  simp [hlb, hlw]
  refine (Awake3_ok hF _ (by show st.ro ≤ st.next + 2; omega)).call fun s1 hE1 => ?_
  have hE : Ext st s1 := Ext.trans (by simp) hE1
  simp [refinerylaw03_IrCounts_j0_eq hJ, hfv]
  refine (Light_ok hF (fun id h => Nat.lt_of_lt_of_le (hA id h) hE.next) (hv.mono (hE.agree hA)) hns).call fun s2 hE2 => ?_
  have hE' := hE.trans hE2
  cases hlt : s.light with
  | false => simp
  | true =>
    simp [hfw]
    refine (Light_ok hF (fun id h => Nat.lt_of_lt_of_le (hA id h) hE'.next) (hw.mono (hE'.agree hA)) hnt).call fun s3 hE3 => ?_
    have hE' := hE'.trans hE3
    cases hlt2 : t.light with
    | false => simp
    | true =>
      simp
      exact Counts_j1 hF hJ (hE'.roOk hro) hs hlt ht hlt2 (fun id h => Nat.lt_of_lt_of_le (hA id h) hE'.next) (hv.mono (hE'.agree hA)) (hw.mono (hE'.agree hA)) hn

theorem IrCounts_args (st : St) (args : List Value) (hro : st.ro = st.next) (h : WVs pg st [42, 42, 76] args) : Ok (K.go (.call n_refinerylaw03_IrCounts args) st) fun r => r.1 = .bool true := by
  match args, h with
  | [v0, v1, v2], ⟨h0, h1, h2, _⟩ =>
    obtain ⟨s, hv, hs, hl⟩ := wv_Small h0
    obtain ⟨t, hw, ht, htl⟩ := wv_Small h1
    obtain ⟨n2, rfl, w2⟩ := h2.int Try.underlying76
    exact IrCounts_ok hF (Nat.le_of_eq hro) hs hl ht htl (fun id h => h) hv hw (by have e1 : IntKind.u16.min = 0 := by decide
                                                                                   have e2 : IntKind.u16.max = 65535 := by decide
                                                                                   simp [Lit.wf, e1, e2] at w2; omega)
end Go.Proofs.Ytfknooeebmdfoaa.Sh

