/-
  Contracts: Plain, IsSorted.
-/
import Derived.Test.YtdjfndijbnpkpaaDoorIrRep
import Derived.Test.YtdjfndijbnpkpaaDoorShB
set_option linter.unusedVariables false
set_option linter.unusedSimpArgs false
set_option linter.unusedSectionVars false
set_option maxRecDepth 100000
namespace Go.Proofs.YtdjfndijbnpkpaaDoor.Sh
open Go Go.AM Go.Proofs
variable {K : Ctx} (hF : Fix pgF K)
include hF
def plain (p : Prog) : Bool := p.all fun b => decide (b.phis.length = 0)
theorem Plain1_ok (n : Int) (vp vi : Value) (m : Last) (l : Int) (st : St) (hlen : ∀ s, sLen .slice vp s = .ok (I l, s)) : Ok (K.go (.call n_ir_Program_Plain_1 [vB n vp vi m]) st) fun r => r.1 = B (decide (l > 0)) ∧ Ext st r.2 := by
 refine ir_Program_Plain_1_of hF fun J hJ => ?_
 rw [ir_Program_Plain_1_eq]
 have hlb : sLbox (vB n vp vi m) st = .ok (vB n vp vi m, st.bump) := rfl
 simp [hlb, hlen]
theorem Index_loop {J} (hJ : IsJ K (retK slices_IndexFunc_irBlock_c.results) J) {A : Nat → Prop} {st0 : St} {v : Value} {p : Prog} (hA : ∀ id, A id → id < st0.next) (hp : RProg A st0 v p) (hl : p.length < 2 ^ 62) (hpl : ∀ b ∈ p, b.phis.length < 2 ^ 62) (d : Nat) : ∀ (i : Nat) (st : St), i + d = p.length → Ext st0 st →
 Ok (slices_IndexFunc_irBlock_l0 J v (.func (.func n_ir_Program_Plain_1) #[] #[]) (I p.length) (I i) st) fun r => ∃ n, r.1 = I n ∧ (0 ≤ n ↔ plain (p.drop i) = false) ∧ Ext st0 r.2 := by
 induction d with
 | zero =>
   intro i st hi hE
   refine slices_IndexFunc_irBlock_l0_of hF hJ ?_
   rw [slices_IndexFunc_irBlock_l0_eq]
   have : i = p.length := by omega
   subst this
   simp [slices_IndexFunc_irBlock_j1_eq hJ, plain]
   exact hE
 | succ d ih =>
   intro i st hi hE
   generalize hQ : (fun r : Value × St => ∃ n, r.1 = I n ∧ (0 ≤ n ↔ plain (p.drop i) = false) ∧ Ext st0 r.2) = Q
   refine slices_IndexFunc_irBlock_l0_of hF hJ ?_
   rw [slices_IndexFunc_irBlock_l0_eq]
   have hlt : i < p.length := by omega
   have hlt' : (i : Int) < p.length := by omega
   obtain ⟨b, o, cs, hix, hld, ⟨vp, vi, rfl, hvp, hvi⟩, -⟩ := RSl.at hp (List.getElem?_eq_getElem hlt)
   have hv : Value.agg #[I p[i].label, vp, vi, U p[i].last.kind, I p[i].last.a, I p[i].last.yes, I p[i].last.no] = vB p[i].label vp vi p[i].last := rfl
   have hd : plain (p.drop i) = (decide (p[i].phis.length = 0) && plain (p.drop (i + 1))) := by
    rw [List.drop_eq_getElem_cons hlt]; rfl
   simp [hlt', slices_IndexFunc_irBlock_j0_eq hJ, hix, hld _ (hE.agree hA), hv, sCall_func]
   refine (Plain1_ok hF _ vp vi _ p[i].phis.length st hvp.len).call fun s hE2 => ?_
   by_cases h0 : p[i].phis.length = 0
   ·have hg : ¬ ((p[i].phis.length : Int) > 0) := by omega
    rw [decide_eq_false hg]
    simp [slices_IndexFunc_irBlock_j2_eq hJ]
    rw [wrap_id (n := (i : Int) + 1) (by omega)]
    rw [← hQ, hd, decide_eq_true h0, Bool.true_and]
    exact ih (i + 1) s (by omega) (hE.trans hE2)
   ·have hg : (p[i].phis.length : Int) > 0 := by omega
    rw [decide_eq_true hg]
    simp
    rw [← hQ]
    exact ⟨i, rfl, by rw [hd, decide_eq_false h0]; simp, hE.trans hE2⟩
theorem Plain_ok {A : Nat → Prop} {st : St} {v : Value} {p : Prog} (hA : ∀ id, A id → id < st.next) (hp : RProg A st v p) (hl : p.length < 2 ^ 62) (hpl : ∀ b ∈ p, b.phis.length < 2 ^ 62) :
 Ok (K.go (.call n_ir_Program_Plain [.agg #[v]]) st) fun r => r.1 = B (plain p) ∧ Ext st r.2 := by
 generalize hQ : (fun r : Value × St => r.1 = B (plain p) ∧ Ext st r.2) = Q
 refine ir_Program_Plain_of hF fun J hJ => ?_
 rw [ir_Program_Plain_eq]
 simp
 have hE : Ext st st.bump := by simp
 have hc : Ok (K.go (.call n_slices_ContainsFunc_irBlock [v, .func (.func n_ir_Program_Plain_1) #[] #[]]) st.bump) fun r => r.1 = B (!plain p) ∧ Ext st.bump r.2 := by
  generalize hQ : (fun r : Value × St => r.1 = B (!plain p) ∧ Ext st.bump r.2) = Q
  refine slices_ContainsFunc_irBlock_of hF fun J hJ => ?_
  rw [slices_ContainsFunc_irBlock_eq]
  have hp' : RProg A st.bump v p := hp.mono (hE.agree hA)
  have hix : Ok (K.go (.call n_slices_IndexFunc_irBlock [v, .func (.func n_ir_Program_Plain_1) #[] #[]]) st.bump) fun r => ∃ n, r.1 = I n ∧ (0 ≤ n ↔ plain p = false) ∧ Ext st.bump r.2 := by
   generalize hQ : (fun r : Value × St => ∃ n, r.1 = I n ∧ (0 ≤ n ↔ plain p = false) ∧ Ext st.bump r.2) = Q
   refine slices_IndexFunc_irBlock_of hF fun J hJ => ?_
   rw [slices_IndexFunc_irBlock_eq]
   simp [RSl.len hp']
   rw [← hQ]
   exact Index_loop hF hJ (fun id h => Nat.lt_succ_of_lt (hA id h)) hp' hl hpl p.length 0 _ (by omega) (Ext.refl _)
  refine hix.thn fun ⟨r1, s⟩ ⟨n, h1, h2, h3⟩ => ?_
  simp only at h1 h3 ⊢
  subst h1
  simp
  rw [← hQ]
  refine ⟨?_, h3⟩
  show B _ = B _
  congr 1
  cases hb : plain p with
  | false => simp; exact h2.2 hb
  | true =>
    have : ¬ 0 ≤ n := fun h => by have := h2.1 h; rw [hb] at this; cases this
    simp; omega
 refine hc.call fun s hE2 => ?_
 simp
 rw [← hQ]
 exact ⟨rfl, hE.trans hE2⟩
end Go.Proofs.YtdjfndijbnpkpaaDoor.Sh
