/-
  Contract: Program.Check.
-/
import Derived.Test.YtfknooeebmdfoaaIr4
set_option linter.unusedVariables false
set_option linter.unusedSimpArgs false
namespace Go.Proofs.Ytfknooeebmdfoaa.Sh
open Go Go.AM Go.Proofs

theorem ferr_map_drop {α : Type} {f : α → Int} {l : List α} {i : Nat} (h : i < l.length) : ferr ((l.drop i).map f) = if f l[i] = 0 then ferr ((l.drop (i + 1)).map f) else f l[i] := by
  rw [List.drop_eq_getElem_cons h]; rfl

variable {K : Ctx} (hF : Fix (funs pg) K)
include hF

theorem Check_phis {J} (hJ : IsJ K (retK ir_Program_Check_c.results) J) {A : Nat → Prop} {st0 : St} {v7 v53 v54 v55 vp : Value} {m : Nat} {l : List Phi} {ls : List Int} (hA : ∀ id, A id → id < st0.next) (hp : RSl A st0 3 (RPhi A st0) vp l) (hro : st0.ro ≤ st0.next) (hl : l.length < 2 ^ 62)
    (hb : ∀ f ∈ l, f.frm.length < 2 ^ 62) (hm : m < st0.next) (hg : st0.get m = some (mSet ls)) {Q : Value × St → Prop}
    (hcont : ∀ st, Ext st0 st → ferr (l.map (·.check ls)) = 0 → Ok (ir_Program_Check_j10 J (.map (some m)) v7 v53 v54 v55 st) Q)
    (herr : ∀ st, Ext st0 st → ferr (l.map (·.check ls)) ≠ 0 → Q (I (ferr (l.map (·.check ls))), st)) (d : Nat) :
    ∀ (i : Nat) (st : St), i + d = l.length → Ext st0 st → ferr (l.map (·.check ls)) = ferr ((l.drop i).map (·.check ls)) →
    Ok (ir_Program_Check_l2 J (.map (some m)) v7 v53 v54 v55 vp (I l.length) (I i) st) Q := by
  induction d with
  | zero =>
    intro i st hi hE hd
    refine ir_Program_Check_l2_of hF hJ ?_
    rw [ir_Program_Check_l2_eq]
    have : i = l.length := by omega
    subst this
    simp
    exact hcont st hE (by rw [hd]; simp [ferr])
  | succ d ih =>
    intro i st hi hE hd
    refine ir_Program_Check_l2_of hF hJ ?_
    rw [ir_Program_Check_l2_eq]
    have hlt : i < l.length := by omega
    have hlt' : (i : Int) < l.length := by omega
    obtain ⟨b, o, cs, hix, hld, ⟨vf, va, rfl, hvf, hva⟩, -⟩ := hp.at (List.getElem?_eq_getElem hlt)
    have hr := hE.roOk hro
    rw [ferr_map_drop hlt] at hd
    simp [hlt', ir_Program_Check_j9_eq hJ, hix, hld _ (hE.agree hA), hvf.cell, hva.cell, Res.need, hr]
    simp [loadN_def, Res.need]
    have hE2 : ∀ o o2, Ext st0 ((st.alloc o).put st.next o2) := fun o o2 => (hE.alloc _).put hE.next _
    refine (PCheck_ok hF l[i] ls _ (A := A) (fun id h => Nat.lt_of_lt_of_le (hA id h) (hE2 _ _).next) (hvf.mono (fun _ h => h) ((hE2 _ _).agree hA) (fun _ _ _ h => h)) (hva.mono (fun _ h => h) ((hE2 _ _).agree hA) (fun _ _ _ h => h)) (hb _ (List.getElem_mem hlt)) (Nat.lt_of_lt_of_le hm (hE2 _ _).next) (by rw [(hE2 _ _).get m hm]; exact hg)).bind fun r hr' => ?_
    obtain ⟨hv, hE3⟩ := hr'
    have hE4 : Ext st0 r.2 := (hE2 _ _).trans hE3
    rw [hv]
    by_cases h0 : l[i].check ls = 0
    · rw [if_pos h0] at hd
      simp [h0, ir_Program_Check_j11_eq hJ]
      rw [wrap_id (n := (i : Int) + 1) (by omega)]
      exact ih (i + 1) _ (by omega) hE4 hd
    · rw [if_neg h0] at hd
      simp [h0]
      rw [hd] at herr
      exact herr _ hE4 h0

theorem Check_instrs {J} (hJ : IsJ K (retK ir_Program_Check_c.results) J) {A : Nat → Prop} {st0 : St} {v3 v7 v53 v54 v55 vp : Value} {l : List Instr} (hA : ∀ id, A id → id < st0.next) (hp : RSl A st0 7 RInstr vp l) (hro : st0.ro ≤ st0.next) (hl : l.length < 2 ^ 62)
    {Q : Value × St → Prop}
    (hcont : ∀ st, Ext st0 st → ferr (l.map Instr.check) = 0 → Ok (ir_Program_Check_j13 J v3 v7 v53 v54 v55 st) Q)
    (herr : ∀ st, Ext st0 st → ferr (l.map Instr.check) ≠ 0 → Q (I (ferr (l.map Instr.check)), st)) (d : Nat) :
    ∀ (i : Nat) (st : St), i + d = l.length → Ext st0 st → ferr (l.map Instr.check) = ferr ((l.drop i).map Instr.check) →
    Ok (ir_Program_Check_l3 J v3 v7 v53 v54 v55 vp (I l.length) (I i) st) Q := by
  induction d with
  | zero =>
    intro i st hi hE hd
    refine ir_Program_Check_l3_of hF hJ ?_
    rw [ir_Program_Check_l3_eq]
    have : i = l.length := by omega
    subst this
    simp
    exact hcont st hE (by rw [hd]; simp [ferr])
  | succ d ih =>
    intro i st hi hE hd
    refine ir_Program_Check_l3_of hF hJ ?_
    rw [ir_Program_Check_l3_eq]
    have hlt : i < l.length := by omega
    have hlt' : (i : Int) < l.length := by omega
    obtain ⟨b, o, cs, hix, hld, hcs, -⟩ := hp.at (List.getElem?_eq_getElem hlt)
    have hcs : cs = cI l[i] := hcs
    subst hcs
    have hr := hE.roOk hro
    rw [ferr_map_drop hlt] at hd
    simp [hlt', ir_Program_Check_j12_eq hJ, hix, hld _ (hE.agree hA), Res.need, hr, cI]
    simp [loadN_def, Res.need]
    have hE2 : ∀ o o2, Ext st0 ((st.alloc o).put st.next o2) := fun o o2 => (hE.alloc _).put hE.next _
    refine (ICheck_ok hF l[i] _ ((hE2 _ _).roOk hro)).bind fun r hr' => ?_
    obtain ⟨hv, hE3⟩ := hr'
    have hE4 : Ext st0 r.2 := (hE2 _ _).trans hE3
    rw [hv]
    by_cases h0 : l[i].check = 0
    · rw [if_pos h0] at hd
      simp [h0, ir_Program_Check_j14_eq hJ]
      rw [wrap_id (n := (i : Int) + 1) (by omega)]
      exact ih (i + 1) _ (by omega) hE4 hd
    · rw [if_neg h0] at hd
      simp [h0]
      rw [hd] at herr
      exact herr _ hE4 h0

theorem Check_blocks {J} (hJ : IsJ K (retK ir_Program_Check_c.results) J) {A : Nat → Prop} {st0 : St} {v : Value} {m : Nat} {p : Prog} {ls : List Int} (hA : ∀ id, A id → id < st0.next) (hp : RProg A st0 v p) (hro : st0.ro ≤ st0.next) (hs : count p < 2 ^ 62)
    (hb : ∀ b ∈ p, ∀ f ∈ b.phis, f.frm.length < 2 ^ 62) (hm : m < st0.next) (hg : st0.get m = some (mSet ls)) (d : Nat) :
    ∀ (i : Nat) (st : St), i + d = p.length → Ext st0 st → ferr (p.map (blockErr ls)) = ferr ((p.drop i).map (blockErr ls)) →
    Ok (ir_Program_Check_l1 J (.map (some m)) v (I p.length) (I i) st) fun r => r.1 = I (ferr (p.map (blockErr ls))) ∧ Ext st0 r.2 := by
  generalize hQ : (fun r : Value × St => r.1 = I (ferr (p.map (blockErr ls))) ∧ Ext st0 r.2) = Q
  have hq : ∀ s, Ext st0 s → Q (I (ferr (p.map (blockErr ls))), s) := fun s h => by rw [← hQ]; exact ⟨rfl, h⟩
  clear hQ
  induction d with
  | zero =>
    intro i st hi hE hd
    refine ir_Program_Check_l1_of hF hJ ?_
    rw [ir_Program_Check_l1_eq]
    have : i = p.length := by omega
    subst this
    simp [ir_Program_Check_j7_eq hJ]
    have := hq _ hE
    rw [hd] at this
    simpa [ferr] using this
  | succ d ih =>
    intro i st hi hE hd
    refine ir_Program_Check_l1_of hF hJ ?_
    rw [ir_Program_Check_l1_eq]
    have hlt : i < p.length := by omega
    have hlt' : (i : Int) < p.length := by omega
    have hll := len_le p
    have hcm := count_mem (List.getElem_mem hlt)
    obtain ⟨b, o, cs, hix, hld, ⟨vp, vi, rfl, hvp, hvi⟩, -⟩ := RSl.at hp (List.getElem?_eq_getElem hlt)
    have hr := hE.roOk hro
    rw [ferr_map_drop hlt] at hd
    simp [hlt', ir_Program_Check_j6_eq hJ, hix, hld _ (hE.agree hA), hvp.cell, hvi.cell, Res.need, hr, hvp.len]
    generalize hs1 : (st.alloc _).put st.next _ = s1
    have hE1 : Ext st0 s1 := by rw [← hs1]; exact (hE.alloc _).put hE.next _
    have g1 : s1.get st.next = some (.cells [I p[i].label, vp, vi, U p[i].last.kind, I p[i].last.a, I p[i].last.yes, I p[i].last.no]) := by rw [← hs1]; simp
    have n1 : st.next < s1.next := by rw [← hs1]; simp
    clear hs1
    have hA1 : ∀ id, A id → id < s1.next := fun id h => Nat.lt_of_lt_of_le (hA id h) hE1.next
    have hbe : blockErr ls p[i] = if ferr (p[i].phis.map (·.check ls)) = 0 then (if ferr (p[i].instrs.map Instr.check) = 0 then p[i].last.check ls else ferr (p[i].instrs.map Instr.check)) else ferr (p[i].phis.map (·.check ls)) := by
      unfold blockErr
      rw [ferr_append, ferr_append]
      have : ferr [p[i].last.check ls] = p[i].last.check ls := by simp only [ferr]; split <;> simp_all
      rw [this]
    refine Check_phis hF hJ hA1 (RSl.mono hvp (fun _ h => h) (hE1.agree hA) (fun _ _ _ h => h.mono (hE1.agree hA))) (hE1.roOk hro) (by omega) (hb _ (List.getElem_mem hlt)) (Nat.lt_of_lt_of_le hm hE1.next) (by rw [hE1.get m hm]; exact hg) (ls := ls) (fun s2 hE2 e2 => ?_) (fun s2 hE2 e2 => ?_) p[i].phis.length 0 s1 (by omega) (Ext.refl _) rfl
    · have g2 : s2.get st.next = _ := (hE2.get _ n1).trans g1
      have hE02 := hE1.trans hE2
      rw [ir_Program_Check_j10_eq hJ]
      simp [g2, hvi.len]
      have hA2 : ∀ id, A id → id < s2.next := fun id h => Nat.lt_of_lt_of_le (hA id h) hE02.next
      refine Check_instrs hF hJ hA2 (RSl.mono hvi (fun _ h => h) (hE02.agree hA) (fun _ _ _ h => h)) (hE02.roOk hro) (by omega) (fun s3 hE3 e3 => ?_) (fun s3 hE3 e3 => ?_) p[i].instrs.length 0 s2 (by omega) (Ext.refl _) rfl
      · have hE03 := hE02.trans hE3
        have g3 : s3.get st.next = _ := (hE3.get _ (Nat.lt_of_lt_of_le n1 hE2.next)).trans g2
        rw [ir_Program_Check_j13_eq hJ]
        simp [g3, loadN_def, Res.need]
        refine (LCheck_ok hF p[i].last ls s3 (hE03.roOk hro) (Nat.lt_of_lt_of_le hm hE03.next) (by rw [hE03.get m hm]; exact hg)).bind fun r hr' => ?_
        obtain ⟨hv, hE4⟩ := hr'
        have hE5 := hE03.trans hE4
        rw [hv]
        rw [hbe, if_pos e2, if_pos e3] at hd
        by_cases h0 : p[i].last.check ls = 0
        · rw [if_pos h0] at hd
          simp [h0, ir_Program_Check_j15_eq hJ]
          rw [wrap_id (n := (i : Int) + 1) (by omega)]
          exact ih (i + 1) _ (by omega) hE5 hd
        · rw [if_neg h0] at hd
          simp [h0]
          rw [hd] at hq
          exact hq _ hE5
      · rw [hbe, if_pos e2, if_neg e3, if_neg e3] at hd
        rw [hd] at hq
        exact hq _ (hE02.trans hE3)
    · rw [hbe, if_neg e2, if_neg e2] at hd
      rw [hd] at hq
      exact hq _ (hE1.trans hE2)

theorem Check_ok {A : Nat → Prop} {st : St} {v : Value} {p : Prog} (hA : ∀ id, A id → id < st.next) (hp : RProg A st v p) (hs : count p < 2 ^ 62) (hb : ∀ b ∈ p, ∀ f ∈ b.phis, f.frm.length < 2 ^ 62) (hro : st.ro ≤ st.next) :
    Ok (K.go (.call n_ir_Program_Check [.agg #[v]]) st) fun r => r.1 = I (check p) ∧ Ext st r.2 := by
  generalize hQ : (fun r : Value × St => r.1 = I (check p) ∧ Ext st r.2) = Q
  have hq : ∀ s, Ext st s → Q (I (check p), s) := fun s h => by rw [← hQ]; exact ⟨rfl, h⟩
  clear hQ
  refine ir_Program_Check_of hF fun J hJ => ?_
  rw [ir_Program_Check_eq]
  have hE0 : ∀ o, Ext st (st.alloc o) := fun o => (Ext.refl st).alloc o
  have hll := len_le p
  by_cases h1 : p.length < 1
  · have h1' : (p.length : Int) < 1 := by omega
    unfold check at hq
    rw [if_pos (.inl h1)] at hq
    simp [RSl.len hp, h1']
    exact hq _ (hE0 _)
  have h1' : ¬ (p.length : Int) < 1 := by omega
  by_cases h2 : 400 < p.length
  · have h2' : (400 : Int) < p.length := by omega
    unfold check at hq
    rw [if_pos (.inr h2)] at hq
    simp [RSl.len hp, h1', h2']
    exact hq _ (hE0 _)
  have h2' : ¬ (400 : Int) < p.length := by omega
  have hAp : ∀ o, Agree A st (st.alloc o) := fun o => (hE0 o).agree hA
  simp [RSl.len hp, h1', h2', ir_Program_Check_j0_eq hJ, loadN_def, Res.need]
  refine (Count_ok hF (fun id h => Nat.lt_succ_of_lt (hA id h)) (hp.mono (hAp _)) hs ((hE0 _).roOk hro)).bind fun r hr => ?_
  obtain ⟨hv, hE1⟩ := hr
  have hE := (hE0 _).trans hE1
  have g1 : r.2.get st.next = some (.cells [v]) := by rw [hE1.get _ (by simp)]; simp
  rw [hv]
  by_cases h3 : 4000 < count p
  · unfold check at hq
    rw [if_neg (by omega), if_pos h3] at hq
    simp [h3]
    exact hq _ hE
  have hlt := hE1.next
  simp at hlt
  have hne : st.next ≠ r.2.next := by omega
  simp [h3, ir_Program_Check_j1_eq hJ, sNewMap, g1, hne, RSl.len hp]
  have hcheck : check p = if dupGo [] p = 0 then ferr (p.map (blockErr (p.map (·.label)))) else dupGo [] p := by
    unfold check
    rw [if_neg (by omega), if_neg h3]
  rw [hcheck] at hq
  refine Check_labels hF hJ (fun id h => Nat.lt_of_lt_of_le (hA id h) hE.next) (hp.mono (hE.agree hA)) (hE.roOk hro) (by omega) (Nat.le_refl _) (fun s hEs hm hg he => ?_) (fun s hEs he => ?_) p.length 0 (r.2.alloc (.map [])) (by omega) ((Ext.refl _).alloc _) (by simp) (by simp [mSet]) rfl
  · rw [ir_Program_Check_j3_eq hJ]
    have g2 : s.get st.next = some (.cells [v]) := by rw [hEs.get _ (by omega)]; exact g1
    have hEs' := hE.trans hEs
    simp [g2, RSl.len hp]
    rw [if_pos he] at hq
    refine (Check_blocks hF hJ (fun id h => Nat.lt_of_lt_of_le (hA id h) hEs'.next) (hp.mono (hEs'.agree hA)) (hEs'.roOk hro) hs hb hm hg p.length 0 s (by omega) (Ext.refl _) rfl).mono fun r' hr' => ?_
    have := hq r'.2 (hEs'.trans hr'.2)
    rw [← hr'.1] at this
    exact this
  · rw [if_neg he] at hq
    exact hq _ (hE.trans hEs)
end Go.Proofs.Ytfknooeebmdfoaa.Sh
