/-
  IrPrograms: how much there is, as the law counts it.
-/
import Derived.Test.YtfknooeebmdfoaaIrProg0
set_option linter.unusedVariables false
set_option linter.unusedSimpArgs false
set_option linter.unusedSectionVars false
set_option maxRecDepth 100000
namespace Go.Proofs.Ytfknooeebmdfoaa.Sh
open Go Go.AM Go.Proofs

variable {K : Ctx} (hF : Fix pgF K)
include hF
variable {J : JT (Value × St)} (hJ : IsJ K (retK refinerylaw03_IrPrograms_c.results) J) {Q : Value × St → Prop}
include hJ

section
variable {A : Nat → Prop} {st0 : St} {rb lb : Nat} {v1 v6 v7 v8 v11 v12 v26 v27 v96 v97 v98 : Value} (hro : st0.ro ≤ st0.next) (hA : ∀ id, A id → id < st0.next)
include hro hA

theorem Progs_l2 {v13 v18 v113 : Value} {li : List Instr} (hl : RSl A st0 7 RInstr v113 li) (hll : li.length < 500) (hfit : ∀ x ∈ li, ∀ r ∈ x.look, fit r) {l0 : List Instr} {n0 : Int} (hl0 : l0.length + li.length < 900)
    (hk : ∀ st vl ids, WI st0 st rb lb ((li.flatMap Instr.look).foldl mx n0) vl (l0 ++ li) ids → Ok (refinerylaw03_IrPrograms_j10 J v1 v6 v7 v8 v11 v12 v13 (P rb 0) (seeF2 rb) (P lb 0) v18 v26 v27 v96 v97 v98 st) Q)
    (d : Nat) : ∀ (j : Nat) (st : St) (vl : Value) (ids : List Nat), j + d = li.length → WI st0 st rb lb (((li.take j).flatMap Instr.look).foldl mx n0) vl (l0 ++ li.take j) ids →
    Ok (refinerylaw03_IrPrograms_l2 J v1 v6 v7 v8 v11 v12 v13 (P rb 0) (seeF2 rb) (P lb 0) v18 v26 v27 v96 v97 v98 v113 (I li.length) (I j) st) Q := by
  induction d with
  | zero =>
    intro j st vl ids hj h
    refine refinerylaw03_IrPrograms_l2_of hF hJ ?_
    rw [refinerylaw03_IrPrograms_l2_eq]
    have : j = li.length := by omega
    subst this
    rw [List.take_length] at h
    simp
    exact hk st vl ids h
  | succ d ih =>
    intro j st vl ids hj h
    refine refinerylaw03_IrPrograms_l2_of hF hJ ?_
    rw [refinerylaw03_IrPrograms_l2_eq]
    have hlt : j < li.length := by omega
    have hlt' : (j : Int) < li.length := by omega
    obtain ⟨b, o, cs, k1, k2, k3, -⟩ := hl.at (List.getElem?_eq_getElem hlt)
    have k3 : cs = cI li[j] := k3
    subst k3
    have hv : ∀ x, Value.agg (cI x).toArray = vI x := fun x => rfl
    have hb := h.mono (st' := st.bump) (by simp)
    obtain ⟨vl', st1, ids', e1, e2, h1⟩ := hb.push hro li[j] (by rw [List.length_append, List.length_take]; omega)
    rw [next_bump] at e1
    have hld : st.bump.load1 lb 0 = .ok vl := load1_eq hb.gl rfl
    have hlook := hfit _ (List.getElem_mem hlt)
    have htk : li.take (j + 1) = li.take j ++ [li[j]] := by rw [List.take_add_one, List.getElem?_eq_getElem hlt]; rfl
    have hnext := ih (j + 1)
    rw [htk] at hnext
    have hfl : ((li.take j ++ [li[j]]).flatMap Instr.look).foldl mx n0 = li[j].look.foldl mx (((li.take j).flatMap Instr.look).foldl mx n0) := by
      rw [List.flatMap_append, List.foldl_append]; simp
    rw [hfl, ← List.append_assoc] at hnext
    have hlk : li[j].look.foldl mx (((li.take j).flatMap Instr.look).foldl mx n0) = (if li[j].sets.2 = true then [li[j].sets.1] else []).foldl mx (li[j].reads.foldl mx (((li.take j).flatMap Instr.look).foldl mx n0)) := by
      unfold Instr.look; rw [List.foldl_append]
    simp [-storeN_def, hlt', refinerylaw03_IrPrograms_j9_eq hJ, k1, k2 st (h.ext.agree hA), hv, hld, e1, e2]
    refine (Reads_ok hF li[j] _).thn fun ⟨q1, s2⟩ ⟨hq1, hq2⟩ => ?_
    simp only at hq1 hq2 ⊢
    have h2 := h1.mono hq2
    have hk1 := h2.k1; have hk2 := h2.k2; have hk3 := h2.kl
    have hk0 : lb < (st1.put lb (.cells [vl'])).next := h1.kl
    refine (SeeL_ok hF hq1 (fun id hid => ⟨hid.2, by have := hid.1; omega⟩) (by rw [h2.ext.ro]; omega) (fun r hr => hlook r (List.mem_append_left _ hr)) (by
      unfold Instr.reads
      split
      · simp
      · split <;> simp) h2.gr).thn fun ⟨r1, s3⟩ ⟨g1, g2, g3⟩ => ?_
    simp only at g1 g2 g3 ⊢
    subst g1
    have h3 := h2.see g3 g2
    refine (Sets_ok hF li[j] _).call fun s4 hE4 => ?_
    have h4 := h3.mono hE4
    have hstep : ∀ st5 vl5 ids5, WI st0 st5 rb lb (li[j].look.foldl mx (((li.take j).flatMap Instr.look).foldl mx n0)) vl5 (l0 ++ li.take j ++ [li[j]]) ids5 → Ok (refinerylaw03_IrPrograms_j11 J v1 v6 v7 v8 v11 v12 v13 (P rb 0) (seeF2 rb) (P lb 0) v18 v26 v27 v96 v97 v98 v113 (I li.length) (I j) st5) Q := fun st5 vl5 ids5 h5 => by
      rw [refinerylaw03_IrPrograms_j11_eq hJ]
      simp
      rw [wrap_id (n := (j : Int) + 1) (by omega)]
      exact hnext st5 vl5 ids5 (by omega) h5
    by_cases hs : li[j].sets.2 = true
    · have hlk' := hlk
      rw [if_pos hs] at hlk'
      simp [Res.of, hs]
      have h5 := h4.mono (st' := s4.alloc (.cells [I li[j].sets.1])) (by simp)
      have hone : RSl (fun id => id = s4.next) (s4.alloc (.cells [I li[j].sets.1])) 1 RInt (Sl s4.next 0 1 1) [li[j].sets.1] := rsl_ints [li[j].sets.1] [] (by simp) rfl
      have hk4 := h4.kl; have hk5 := h4.k2
      refine (SeeL_ok hF hone (fun id hid => ⟨by rw [hid]; exact Nat.lt_succ_self _, by omega⟩) (by rw [h5.ext.ro]; have := h5.k1; omega) (fun r hr => by
        rw [List.mem_singleton.1 hr]
        exact hlook _ (List.mem_append_right _ (by rw [if_pos hs]; exact List.mem_singleton.2 rfl))) (by simp) h5.gr).thn fun ⟨r1, s6⟩ ⟨g1, g2, g3⟩ => ?_
      simp only at g1 g2 g3 ⊢
      exact hstep s6 _ _ (by rw [hlk']; exact h5.see g3 g2)
    · have hlk' := hlk
      rw [if_neg hs] at hlk'
      have hs' : li[j].sets.2 = false := by simpa using hs
      simp [Res.of, hs']
      exact hstep s4 _ _ (by rw [hlk']; exact h4)

theorem Progs_l1 {p : Prog} {vq : Value} (hp : RProg A st0 vq p) (hpl : p.length < 500) (hc : count p < 400) (hfit : ∀ b ∈ p, ∀ r ∈ b.look, fit r)
    (hk : ∀ st vl ids, WI st0 st rb lb ((p.flatMap Block.look).foldl mx 0) vl (p.flatMap (·.instrs)) ids → Ok (refinerylaw03_IrPrograms_j7 J v1 v6 v7 v8 v11 v12 (I (count p)) (P rb 0) (seeF2 rb) (P lb 0) v26 v27 st) Q)
    (d : Nat) : ∀ (i : Nat) (st : St) (vl : Value) (ids : List Nat), i + d = p.length → WI st0 st rb lb (((p.take i).flatMap Block.look).foldl mx 0) vl ((p.take i).flatMap (·.instrs)) ids →
    Ok (refinerylaw03_IrPrograms_l1 J v1 v6 v7 v8 v11 v12 (I (count (p.take i))) (P rb 0) (seeF2 rb) (P lb 0) v26 v27 vq (I p.length) (I i) st) Q := by
  induction d with
  | zero =>
    intro i st vl ids hi h
    refine refinerylaw03_IrPrograms_l1_of hF hJ ?_
    rw [refinerylaw03_IrPrograms_l1_eq]
    have : i = p.length := by omega
    subst this
    rw [List.take_length] at h ⊢
    simp
    exact hk st vl ids h
  | succ d ih =>
    intro i st vl ids hi h
    refine refinerylaw03_IrPrograms_l1_of hF hJ ?_
    rw [refinerylaw03_IrPrograms_l1_eq]
    have hlt : i < p.length := by omega
    have hlt' : (i : Int) < p.length := by omega
    obtain ⟨b, o, cs, k1, k2, ⟨vp, vi, rfl, p1, p2⟩, -⟩ := RSl.at hp (List.getElem?_eq_getElem hlt)
    have hv : ∀ (b : Block) (vp vi : Value), Value.agg #[I b.label, vp, vi, U b.last.kind, I b.last.a, I b.last.yes, I b.last.no] = vB b.label vp vi b.last := fun b vp vi => rfl
    have hup : ∀ (b : Block) (vp vi : Value) s, cellOk vp = true → cellOk vi = true → sUpd 7 0 (.agg #[I 0, .slice none 0 0, .slice none 0 0, U 0, I 0, I 0, I 0]) (vB b.label vp vi b.last) s = .ok (vB b.label vp vi b.last, s) := fun b vp vi s h1 h2 => by simp [vB, Res.need, h1, h2]
    have htk : p.take (i + 1) = p.take i ++ [p[i]] := by rw [List.take_add_one, List.getElem?_eq_getElem hlt]; rfl
    have hcnt : count (p.take (i + 1)) = count (p.take i) + (p[i].instrs.length + p[i].phis.length + 1 : Int) := by rw [htk, count_append]; simp [count]
    have hcle : count (p.take (i + 1)) ≤ count p := by
      have := count_append (p.take (i + 1)) (p.drop (i + 1))
      rw [List.take_append_drop] at this
      have := count_nonneg (p.drop (i + 1)); omega
    have hc0 := count_nonneg (p.take i)
    have w1 : IntKind.i64.wrap (1 + (p[i].phis.length : Int)) = 1 + (p[i].phis.length : Int) := wrap_id (by omega)
    have w2 : IntKind.i64.wrap (1 + (p[i].phis.length : Int) + p[i].instrs.length) = 1 + (p[i].phis.length : Int) + p[i].instrs.length := wrap_id (by omega)
    have w3 : IntKind.i64.wrap (count (p.take i) + (1 + (p[i].phis.length : Int) + p[i].instrs.length)) = count (p.take (i + 1)) := by rw [wrap_id (by omega)]; omega
    have w3' : IntKind.i64.wrap (count (p.take i) + (1 + ((p[i].phis.length : Int) + p[i].instrs.length))) = count (p.take (i + 1)) := by rw [wrap_id (by omega)]; omega
    have w2' : IntKind.i64.wrap (1 + ((p[i].phis.length : Int) + p[i].instrs.length)) = 1 + ((p[i].phis.length : Int) + p[i].instrs.length) := wrap_id (by omega)
    have hfb := hfit _ (List.getElem_mem hlt)
    have hll : ((p.take i).flatMap (·.instrs)).length + p[i].instrs.length < 900 := by
      have : ∀ q : Prog, ((q.flatMap (·.instrs)).length : Int) ≤ count q := fun q => by
        induction q with
        | nil => simp [count]
        | cons c q ih =>
          rw [List.flatMap_cons, List.length_append]
          have : count (c :: q) = (c.instrs.length + c.phis.length + 1 : Int) + count q := by simp [count]
          omega
      have := this (p.take i)
      omega
    simp [hlt', refinerylaw03_IrPrograms_j6_eq hJ, k1, k2 st (h.ext.agree hA), hv, hup, p1.cell, p2.cell, Res.need, p1.len, p2.len, w1, w2, w3, w2', w3']
    refine Progs_l2 hF hJ hro hA p2 (by omega) (fun x hx r hr => hfb r (List.mem_append_left _ (List.mem_flatMap.2 ⟨x, hx, hr⟩))) hll (fun s2 vl2 ids2 h2 => ?_) p[i].instrs.length 0 st.bump vl ids (by omega) (by
      have := h.mono (st' := st.bump) (by simp)
      simpa using this)
    have hstep : ∀ st5 vl5 ids5, WI st0 st5 rb lb (p[i].last.seen.foldl mx ((p[i].instrs.flatMap Instr.look).foldl mx (((p.take i).flatMap Block.look).foldl mx 0))) vl5 ((p.take i).flatMap (·.instrs) ++ p[i].instrs) ids5 → Ok (refinerylaw03_IrPrograms_j12 J v1 v6 v7 v8 v11 v12 (I (count (p.take (i + 1)))) (P rb 0) (seeF2 rb) (P lb 0) v26 v27 vq (I p.length) (I i) st5) Q := fun st5 vl5 ids5 h5 => by
      rw [refinerylaw03_IrPrograms_j12_eq hJ]
      simp
      rw [wrap_id (n := (i : Int) + 1) (by omega)]
      refine ih (i + 1) st5 vl5 ids5 (by omega) ?_
      have e1 : ((p.take (i + 1)).flatMap Block.look).foldl mx 0 = p[i].last.seen.foldl mx ((p[i].instrs.flatMap Instr.look).foldl mx (((p.take i).flatMap Block.look).foldl mx 0)) := by
        rw [htk, List.flatMap_append, List.foldl_append]
        simp only [List.flatMap_cons, List.flatMap_nil, List.append_nil, Block.look, List.foldl_append]
      have e2 : (p.take (i + 1)).flatMap (·.instrs) = (p.take i).flatMap (·.instrs) ++ p[i].instrs := by
        rw [htk, List.flatMap_append]; simp
      rw [e1, e2]
      exact h5
    rw [refinerylaw03_IrPrograms_j10_eq hJ]
    simp
    refine (LReads_ok hF p[i].last _).call fun s3 hE3 => ?_
    have h3 := h2.mono hE3
    by_cases hs : p[i].last.reads.2 = true
    · have hsn : p[i].last.seen = [p[i].last.reads.1] := by unfold Last.seen; rw [if_pos hs]
      rw [hsn] at hstep
      simp [Res.of, hs]
      have h5 := h3.mono (st' := s3.alloc (.cells [I p[i].last.reads.1])) (by simp)
      have hone : RSl (fun id => id = s3.next) (s3.alloc (.cells [I p[i].last.reads.1])) 1 RInt (Sl s3.next 0 1 1) [p[i].last.reads.1] := rsl_ints [p[i].last.reads.1] [] (by simp) rfl
      have hk4 := h3.kl; have hk5 := h3.k2
      refine (SeeL_ok hF hone (fun id hid => ⟨by rw [hid]; exact Nat.lt_succ_self _, by omega⟩) (by rw [h5.ext.ro]; have := h5.k1; omega) (fun r hr => by
        rw [List.mem_singleton.1 hr]
        exact hfb _ (List.mem_append_right _ (by rw [hsn]; exact List.mem_singleton.2 rfl))) (by simp) h5.gr).thn fun ⟨r1, s6⟩ ⟨g1, g2, g3⟩ => ?_
      simp only at g1 g2 g3 ⊢
      exact hstep s6 _ _ (h5.see g3 g2)
    · have hs' : p[i].last.reads.2 = false := by simpa using hs
      have hsn : p[i].last.seen = [] := by unfold Last.seen; rw [if_neg hs]
      rw [hsn] at hstep
      simp [Res.of, hs']
      exact hstep s3 _ _ h3
end
end Go.Proofs.Ytfknooeebmdfoaa.Sh

