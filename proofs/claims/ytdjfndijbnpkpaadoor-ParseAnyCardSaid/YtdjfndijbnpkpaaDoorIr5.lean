/-
  Contract: Program.Check.
-/
import Derived.Test.YtdjfndijbnpkpaaDoorIr4
set_option linter.unusedVariables false
set_option linter.unusedSimpArgs false
set_option linter.unusedSectionVars false
namespace Go.Proofs.YtdjfndijbnpkpaaDoor.Sh
open Go Go.AM Go.Proofs
theorem ferr_map_drop {α : Type} {f : α → Int} {l : List α} {i : Nat} (h : i < l.length) : ferr ((l.drop i).map f) = if f l[i] = 0 then ferr ((l.drop (i + 1)).map f) else f l[i] := by
 rw [List.drop_eq_getElem_cons h]; rfl
variable {K : Ctx} (hF : Fix pgF K)
include hF
theorem Check_phis {J} (hJ : IsJ K (retK ir_Program_Check_c.results) J) {A : Nat → Prop} {st0 : St} {v7 v53 v54 v55 vp : Value} {m : Nat} {l : List Phi} {ls : List Int} (hA : ∀ id, A id → id < st0.next) (hp : RSl A st0 3 (RPhi A st0) vp l) (hl : l.length < 2 ^ 62)
 (hb : ∀ f ∈ l, f.frm.length < 2 ^ 62) (hm : m < st0.next) (hg : st0.get m = some (mSet ls)) {Q : Value × St → Prop}
 (hcont : ∀ st, Ext st0 st → ferr (l.map (·.check ls)) = 0 → Ok (ir_Program_Check_j10 J (.map (some m)) v7 v53 v54 v55 st) Q)
 (herr : ∀ st, Ext st0 st → ferr (l.map (·.check ls)) ≠ 0 → Q (I (ferr (l.map (·.check ls))), st)) (d : Nat) :
 ∀ (i : Nat) (st : St), i + d = l.length → Ext st0 st → ferr (l.map (·.check ls)) = ferr ((l.drop i).map (·.check ls)) →
 Ok (ir_Program_Check_l2 J (.map (some m)) v7 v53 v54 v55 vp (I l.length) (I i) st) Q := by
 induction d with
 | zero =>
   intro i st hi hE hd
   refine ir_Program_Check_l2_of hF hJ ?_
   rw [ir_Program_Check_l2_eq]
   have : i = l.length := by omega
   subst this
   simp
   exact hcont st hE (by rw [hd]; simp [ferr])
 | succ d ih =>
   intro i st hi hE hd
   refine ir_Program_Check_l2_of hF hJ ?_
   rw [ir_Program_Check_l2_eq]
   have hlt : i < l.length := by omega
   have hlt' : (i : Int) < l.length := by omega
   obtain ⟨b, o, cs, hix, hld, ⟨vf, va, rfl, hvf, hva⟩, -⟩ := hp.at (List.getElem?_eq_getElem hlt)
   rw [ferr_map_drop hlt] at hd
   simp [hlt', ir_Program_Check_j9_eq hJ, hix, hld _ (hE.agree hA), hvf.cell, hva.cell, Res.need]
   have hE2 := hE.bump
   refine (PCheck_ok hF l[i] ls _ (A := A) (fun id h => Nat.lt_of_lt_of_le (hA id h) hE2.next) (hvf.mono (fun _ h => h) (hE2.agree hA) (fun _ _ _ h => h)) (hva.mono (fun _ h => h) (hE2.agree hA) (fun _ _ _ h => h)) (hb _ (List.getElem_mem hlt)) (Nat.lt_of_lt_of_le hm hE2.next) (by rw [hE2.get m hm]; exact hg)).call fun s hE3 => ?_
   have hE4 := hE2.trans hE3
   by_cases h0 : l[i].check ls = 0
   ·rw [if_pos h0] at hd
    simp [h0, ir_Program_Check_j11_eq hJ]
    rw [wrap_id (n := (i : Int) + 1) (by omega)]
    exact ih (i + 1) _ (by omega) hE4 hd
   ·rw [if_neg h0] at hd
    simp [h0]
    rw [hd] at herr
    exact herr _ hE4 h0
theorem Check_instrs {J} (hJ : IsJ K (retK ir_Program_Check_c.results) J) {A : Nat → Prop} {st0 : St} {v3 v7 v53 v54 v55 vp : Value} {l : List Instr} (hA : ∀ id, A id → id < st0.next) (hp : RSl A st0 7 RInstr vp l) (hl : l.length < 2 ^ 62)
 {Q : Value × St → Prop}
 (hcont : ∀ st, Ext st0 st → ferr (l.map Instr.check) = 0 → Ok (ir_Program_Check_j13 J v3 v7 v53 v54 v55 st) Q)
 (herr : ∀ st, Ext st0 st → ferr (l.map Instr.check) ≠ 0 → Q (I (ferr (l.map Instr.check)), st)) (d : Nat) :
 ∀ (i : Nat) (st : St), i + d = l.length → Ext st0 st → ferr (l.map Instr.check) = ferr ((l.drop i).map Instr.check) →
 Ok (ir_Program_Check_l3 J v3 v7 v53 v54 v55 vp (I l.length) (I i) st) Q := by
 induction d with
 | zero =>
   intro i st hi hE hd
   refine ir_Program_Check_l3_of hF hJ ?_
   rw [ir_Program_Check_l3_eq]
   have : i = l.length := by omega
   subst this
   simp
   exact hcont st hE (by rw [hd]; simp [ferr])
 | succ d ih =>
   intro i st hi hE hd
   refine ir_Program_Check_l3_of hF hJ ?_
   rw [ir_Program_Check_l3_eq]
   have hlt : i < l.length := by omega
   have hlt' : (i : Int) < l.length := by omega
   obtain ⟨b, o, cs, hix, hld, hcs, -⟩ := hp.at (List.getElem?_eq_getElem hlt)
   have hcs : cs = cI l[i] := hcs
   subst hcs
   rw [ferr_map_drop hlt] at hd
   simp [hlt', ir_Program_Check_j12_eq hJ, hix, hld _ (hE.agree hA), Res.need, cI]
   refine (ICheck_ok hF l[i] _).call fun s hE3 => ?_
   have hE4 := hE.bump.trans hE3
   by_cases h0 : l[i].check = 0
   ·rw [if_pos h0] at hd
    simp [h0, ir_Program_Check_j14_eq hJ]
    rw [wrap_id (n := (i : Int) + 1) (by omega)]
    exact ih (i + 1) _ (by omega) hE4 hd
   ·rw [if_neg h0] at hd
    simp [h0]
    rw [hd] at herr
    exact herr _ hE4 h0
theorem Check_blocks {J} (hJ : IsJ K (retK ir_Program_Check_c.results) J) {A : Nat → Prop} {st0 : St} {v : Value} {m : Nat} {p : Prog} {ls : List Int} (hA : ∀ id, A id → id < st0.next) (hp : RProg A st0 v p) (hs : count p < 2 ^ 62)
 (hb : ∀ b ∈ p, ∀ f ∈ b.phis, f.frm.length < 2 ^ 62) (hm : m < st0.next) (hg : st0.get m = some (mSet ls)) {Q : Value × St → Prop} (hq : ∀ s, Ext st0 s → Q (I (ferr (p.map (blockErr ls))), s)) (d : Nat) :
 ∀ (i : Nat) (st : St), i + d = p.length → Ext st0 st → ferr (p.map (blockErr ls)) = ferr ((p.drop i).map (blockErr ls)) →
 Ok (ir_Program_Check_l1 J (.map (some m)) v (I p.length) (I i) st) Q := by
 induction d with
 | zero =>
   intro i st hi hE hd
   refine ir_Program_Check_l1_of hF hJ ?_
   rw [ir_Program_Check_l1_eq]
   have : i = p.length := by omega
   subst this
   simp [ir_Program_Check_j7_eq hJ]
   have := hq _ hE
   rw [hd] at this
   simpa [ferr] using this
 | succ d ih =>
   intro i st hi hE hd
   refine ir_Program_Check_l1_of hF hJ ?_
   rw [ir_Program_Check_l1_eq]
   have hlt : i < p.length := by omega
   have hlt' : (i : Int) < p.length := by omega
   have hll := len_le p
   have hcm := count_mem (List.getElem_mem hlt)
   obtain ⟨b, o, cs, hix, hld, ⟨vp, vi, rfl, hvp, hvi⟩, -⟩ := RSl.at hp (List.getElem?_eq_getElem hlt)
   rw [ferr_map_drop hlt] at hd
   simp [hlt', ir_Program_Check_j6_eq hJ, hix, hld _ (hE.agree hA), hvp.cell, hvi.cell, Res.need, hvp.len]
   have hE1 := hE.bump
   have hA1 : ∀ id, A id → id < st.bump.next := fun id h => Nat.lt_of_lt_of_le (hA id h) hE1.next
   have hbe : blockErr ls p[i] = if ferr (p[i].phis.map (·.check ls)) = 0 then (if ferr (p[i].instrs.map Instr.check) = 0 then p[i].last.check ls else ferr (p[i].instrs.map Instr.check)) else ferr (p[i].phis.map (·.check ls)) := by
    unfold blockErr
    rw [ferr_append, ferr_append]
    have : ferr [p[i].last.check ls] = p[i].last.check ls := by simp only [ferr]; split <;> simp_all
    rw [this]
   refine Check_phis hF hJ hA1 (RSl.mono hvp (fun _ h => h) (hE1.agree hA) (fun _ _ _ h => h.mono (hE1.agree hA))) (by omega) (hb _ (List.getElem_mem hlt)) (Nat.lt_of_lt_of_le hm hE1.next) (by rw [hE1.get m hm]; exact hg) (ls := ls) (fun s2 hE2 e2 => ?_) (fun s2 hE2 e2 => ?_) p[i].phis.length 0 _ (by omega) (Ext.refl _) rfl
   ·have hE02 := hE1.trans hE2
    rw [ir_Program_Check_j10_eq hJ]
    simp [hvi.len]
    have hA2 : ∀ id, A id → id < s2.next := fun id h => Nat.lt_of_lt_of_le (hA id h) hE02.next
    refine Check_instrs hF hJ hA2 (RSl.mono hvi (fun _ h => h) (hE02.agree hA) (fun _ _ _ h => h)) (by omega) (fun s3 hE3 e3 => ?_) (fun s3 hE3 e3 => ?_) p[i].instrs.length 0 s2 (by omega) (Ext.refl _) rfl
    ·have hE03 := hE02.trans hE3
     rw [ir_Program_Check_j13_eq hJ]
     simp [Res.need]
     refine (LCheck_ok hF p[i].last ls s3 (Nat.lt_of_lt_of_le hm hE03.next) (by rw [hE03.get m hm]; exact hg)).call fun s4 hE4 => ?_
     have hE5 := hE03.trans hE4
     rw [hbe, if_pos e2, if_pos e3] at hd
     by_cases h0 : p[i].last.check ls = 0
     ·rw [if_pos h0] at hd
      simp [h0, ir_Program_Check_j15_eq hJ]
      rw [wrap_id (n := (i : Int) + 1) (by omega)]
      exact ih (i + 1) _ (by omega) hE5 hd
     ·rw [if_neg h0] at hd
      simp [h0]
      rw [hd] at hq
      exact hq _ hE5
    ·rw [hbe, if_pos e2, if_neg e3, if_neg e3] at hd
     rw [hd] at hq
     exact hq _ (hE02.trans hE3)
   ·rw [hbe, if_neg e2, if_neg e2] at hd
    rw [hd] at hq
    exact hq _ (hE1.trans hE2)
theorem Check_ok {A : Nat → Prop} {st : St} {v : Value} {p : Prog} (hA : ∀ id, A id → id < st.next) (hp : RProg A st v p) (hs : count p < 2 ^ 62) (hb : ∀ b ∈ p, ∀ f ∈ b.phis, f.frm.length < 2 ^ 62) (hro : st.ro ≤ st.next) :
 Ok (K.go (.call n_ir_Program_Check [.agg #[v]]) st) fun r => r.1 = I (check p) ∧ Ext st r.2 := by
 generalize hQ : (fun r : Value × St => r.1 = I (check p) ∧ Ext st r.2) = Q
 have hq : ∀ s, Ext st s → Q (I (check p), s) := fun s h => by rw [← hQ]; exact ⟨rfl, h⟩
 clear hQ
 refine ir_Program_Check_of hF fun J hJ => ?_
 rw [ir_Program_Check_eq]
 have hE0 : Ext st st.bump := by simp
 have hll := len_le p
 by_cases h1 : p.length < 1
 ·have h1' : (p.length : Int) < 1 := by omega
  unfold check at hq
  rw [if_pos (.inl h1)] at hq
  simp [RSl.len hp, h1']
  exact hq _ hE0
 have h1' : ¬ (p.length : Int) < 1 := by omega
 by_cases h2 : 400 < p.length
 ·have h2' : (400 : Int) < p.length := by omega
  unfold check at hq
  rw [if_pos (.inr h2)] at hq
  simp [RSl.len hp, h1', h2']
  exact hq _ hE0
 have h2' : ¬ (400 : Int) < p.length := by omega
 simp [RSl.len hp, h1', h2', ir_Program_Check_j0_eq hJ, Res.need]
 refine (Count_ok hF (fun id h => Nat.lt_succ_of_lt (hA id h)) (hp.mono (hE0.agree hA)) hs).call fun s1 hE1 => ?_
 have hE := hE0.trans hE1
 by_cases h3 : 4000 < count p
 ·unfold check at hq
  rw [if_neg (by omega), if_pos h3] at hq
  simp [h3]
  exact hq _ hE
 simp [h3, ir_Program_Check_j1_eq hJ, sNewMap, RSl.len hp]
 have hcheck : check p = if dupGo [] p = 0 then ferr (p.map (blockErr (p.map (·.label)))) else dupGo [] p := by
  unfold check
  rw [if_neg (by omega), if_neg h3]
 rw [hcheck] at hq
 refine Check_labels hF hJ (fun id h => Nat.lt_of_lt_of_le (hA id h) hE.next) (hp.mono (hE.agree hA)) (hE.roOk hro) (by omega) (Nat.le_refl _) (fun s hEs hm hg he => ?_) (fun s hEs he => ?_) p.length 0 (s1.alloc (.map [])) (by omega) (by simp) (by simp) (by simp [mSet]) rfl
 ·rw [ir_Program_Check_j3_eq hJ]
  have hEs' := hE.trans hEs
  simp [RSl.len hp]
  rw [if_pos he] at hq
  exact Check_blocks hF hJ (fun id h => Nat.lt_of_lt_of_le (hA id h) hEs'.next) (hp.mono (hEs'.agree hA)) hs hb hm hg (fun s' h => hq s' (hEs'.trans h)) p.length 0 s (by omega) (Ext.refl _) rfl
 ·rw [if_neg he] at hq
  exact hq _ (hE.trans hEs)
end Go.Proofs.YtdjfndijbnpkpaaDoor.Sh
