/-
  Contract: Same.
-/
import Derived.Test.YtdjfndijbnpkpaaDoorIrRep
set_option linter.unusedVariables false
set_option linter.unusedSimpArgs false
set_option linter.unusedSectionVars false
set_option maxRecDepth 100000
namespace Go.Proofs.YtdjfndijbnpkpaaDoor.Sh
open Go Go.AM Go.Proofs
deriving instance DecidableEq for Phi
deriving instance DecidableEq for Block
variable {K : Ctx} (hF : Fix pgF K)
include hF
theorem EqI_loop {J} (hJ : IsJ K (retK slices_Equal_irInstr_c.results) J) {A A' : Nat → Prop} {s1 s2 st : St} {v w : Value} {l l' : List Instr} (h1 : RSl A s1 7 RInstr v l) (h2 : RSl A' s2 7 RInstr w l') (hl : l.length < 2 ^ 62) (hlen : l.length = l'.length) (a1 : Agree A s1 st) (a2 : Agree A' s2 st) (d : Nat) :
 ∀ i : Nat, i + d = l.length → Ok (slices_Equal_irInstr_l0 J v w (I l.length) (I i) st) fun r => r = (B (decide (l.drop i = l'.drop i)), st) := by
 induction d with
 | zero =>
   intro i hi
   refine slices_Equal_irInstr_l0_of hF hJ ?_
   rw [slices_Equal_irInstr_l0_eq]
   have : i = l.length := by omega
   subst this
   have : l'.drop l.length = [] := by rw [hlen]; simp
   simp [slices_Equal_irInstr_j2_eq hJ, this]
 | succ d ih =>
   intro i hi
   refine slices_Equal_irInstr_l0_of hF hJ ?_
   rw [slices_Equal_irInstr_l0_eq]
   have hlt : i < l.length := by omega
   have hlt2 : i < l'.length := by omega
   have hlt' : (i : Int) < l.length := by omega
   obtain ⟨b, o, cs, k1, k2, k3, -⟩ := h1.at (List.getElem?_eq_getElem hlt)
   obtain ⟨c, p, ds, m1, m2, m3, -⟩ := h2.at (List.getElem?_eq_getElem hlt2)
   have k3 : cs = cI l[i] := k3
   have m3 : ds = cI l'[i] := m3
   subst k3; subst m3
   have k2 := k2 st a1
   have m2 := m2 st a2
   have hv : ∀ x, Value.agg (cI x).toArray = vI x := fun x => rfl
   have step : decide (l.drop i = l'.drop i) = (decide (l[i] = l'[i]) && decide (l.drop (i + 1) = l'.drop (i + 1))) := by
    rw [List.drop_eq_getElem_cons hlt, List.drop_eq_getElem_cons hlt2]
    simp only [List.cons.injEq]
    by_cases e1 : l[i] = l'[i] <;> by_cases e2 : l.drop (i + 1) = l'.drop (i + 1) <;> simp only [e1, e2] <;> rfl
   rw [step]
   by_cases he : l[i] = l'[i]
   ·simp [hlt', slices_Equal_irInstr_j1_eq hJ, slices_Equal_irInstr_j3_eq hJ, k1, m1, k2, m2, hv, he]
    rw [wrap_id (n := (i : Int) + 1) (by omega)]
    exact ih (i + 1) (by omega)
   ·simp [hlt', slices_Equal_irInstr_j1_eq hJ, k1, m1, k2, m2, hv, he]
theorem EqI_eq {A A' : Nat → Prop} {s1 s2 st : St} {v w : Value} {l l' : List Instr} (h1 : RSl A s1 7 RInstr v l) (h2 : RSl A' s2 7 RInstr w l') (hl : l.length < 2 ^ 62) (a1 : Agree A s1 st) (a2 : Agree A' s2 st) :
 K.go (.call n_slices_Equal_irInstr [v, w]) st = .ok (B (decide (l = l')), st) := by
 refine Ok.eq (slices_Equal_irInstr_of hF fun J hJ => ?_)
 rw [slices_Equal_irInstr_eq]
 by_cases h : l.length = l'.length
 ·have h' : (l.length : Int) = l'.length := by omega
  have := EqI_loop hF hJ h1 h2 hl h a1 a2 l.length 0 (by omega)
  simp only [List.drop_zero] at this
  simp [h1.len, h2.len, h', slices_Equal_irInstr_j0_eq hJ]
  rw [← h']
  exact this
 ·have h' : ¬ (l.length : Int) = l'.length := by omega
  have h3 : ¬ l = l' := fun e => h (by rw [e])
  simp [h1.len, h2.len, h', h3]
theorem PhiSame_ok {A A' : Nat → Prop} {st : St} {f g : Phi} {vf va wf wa : Value} (hA : ∀ id, A id → id < st.next) (hA' : ∀ id, A' id → id < st.next) (h1 : RSl A st 1 RInt vf f.frm) (h2 : RSl A st 1 RInt va f.args) (h3 : RSl A' st 1 RInt wf g.frm) (h4 : RSl A' st 1 RInt wa g.args) (hl : f.frm.length < 2 ^ 62) (hl2 : f.args.length < 2 ^ 62) :
 Ok (K.go (.call n_ir_Phi_same [.agg #[I f.dst, vf, va], .agg #[I g.dst, wf, wa]]) st) fun r => r.1 = B (decide (f = g)) ∧ Ext st r.2 := by
 generalize hQ : (fun r : Value × St => r.1 = B (decide (f = g)) ∧ Ext st r.2) = Q
 refine ir_Phi_same_of hF fun J hJ => ?_
 rw [ir_Phi_same_eq]
 have hE : Ext st st.bump.bump := by simp
 have e1 := EqInt_eq hF h1 h3 hl (hE.agree hA) (hE.agree hA')
 have e2 := EqInt_eq hF h2 h4 hl2 (hE.agree hA) (hE.agree hA')
 have hfg : decide (f = g) = (decide (f.dst = g.dst) && (decide (f.frm = g.frm) && decide (f.args = g.args))) := by
  obtain ⟨a, b, c⟩ := f
  obtain ⟨a', b', c'⟩ := g
  simp only [Phi.mk.injEq, Bool.decide_and]
 rw [hfg] at hQ
 by_cases k1 : f.dst = g.dst
 ·by_cases k2 : f.frm = g.frm
  ·simp [Res.of, k1, k2, e1, e2, ← hQ]
  ·simp [Res.of, k1, k2, e1, e2, ← hQ]
 ·simp [Res.of, k1, ← hQ]
theorem EqP_loop {J} (hJ : IsJ K (retK slices_EqualFunc_irPhi_c.results) J) {A A' : Nat → Prop} {st0 : St} {v w : Value} {l l' : List Phi} (hA : ∀ id, A id → id < st0.next) (hA' : ∀ id, A' id → id < st0.next) (h1 : RSl A st0 3 (RPhi A st0) v l) (h2 : RSl A' st0 3 (RPhi A' st0) w l') (hl : l.length < 2 ^ 62) (hlen : l.length = l'.length) (hs : ∀ f ∈ l, f.frm.length < 2 ^ 62 ∧ f.args.length < 2 ^ 62) (d : Nat) :
 ∀ (i : Nat) (st : St), i + d = l.length → Ext st0 st → Ok (slices_EqualFunc_irPhi_l0 J w (.func (.func n_ir_Phi_same) #[] #[]) v (I l.length) (I i) st) fun r => r.1 = B (decide (l.drop i = l'.drop i)) ∧ Ext st0 r.2 := by
 induction d with
 | zero =>
   intro i st hi hE
   refine slices_EqualFunc_irPhi_l0_of hF hJ ?_
   rw [slices_EqualFunc_irPhi_l0_eq]
   have : i = l.length := by omega
   subst this
   have : l'.drop l.length = [] := by rw [hlen]; simp
   simp [slices_EqualFunc_irPhi_j2_eq hJ, this]
   exact hE
 | succ d ih =>
   intro i st hi hE
   have hlt : i < l.length := by omega
   have hlt2 : i < l'.length := by omega
   have hlt' : (i : Int) < l.length := by omega
   have step : decide (l.drop i = l'.drop i) = (decide (l[i] = l'[i]) && decide (l.drop (i + 1) = l'.drop (i + 1))) := by
    rw [List.drop_eq_getElem_cons hlt, List.drop_eq_getElem_cons hlt2]
    simp only [List.cons.injEq]
    by_cases e1 : l[i] = l'[i] <;> by_cases e2 : l.drop (i + 1) = l'.drop (i + 1) <;> simp only [e1, e2] <;> rfl
   rw [step]
   generalize hQ : (fun r : Value × St => r.1 = B (decide (l[i] = l'[i]) && decide (l.drop (i + 1) = l'.drop (i + 1))) ∧ Ext st0 r.2) = Q
   refine slices_EqualFunc_irPhi_l0_of hF hJ ?_
   rw [slices_EqualFunc_irPhi_l0_eq]
   obtain ⟨b, o, cs, k1, k2, ⟨vf, va, rfl, p1, p2⟩, -⟩ := h1.at (List.getElem?_eq_getElem hlt)
   obtain ⟨c, p, ds, m1, m2, ⟨wf, wa, rfl, q1, q2⟩, -⟩ := h2.at (List.getElem?_eq_getElem hlt2)
   have hEb : Ext st0 st.bump.bump := hE.bump.bump
   have hA1 : ∀ id, A id → id < st.bump.bump.next := fun id h => Nat.lt_of_lt_of_le (hA id h) hEb.next
   have hA1' : ∀ id, A' id → id < st.bump.bump.next := fun id h => Nat.lt_of_lt_of_le (hA' id h) hEb.next
   have m2 := m2 st.bump (hE.bump.agree hA')
   have k2 := k2 st (hE.agree hA)
   obtain ⟨z1, z2⟩ := hs _ (List.getElem_mem hlt)
   simp [hlt', slices_EqualFunc_irPhi_j1_eq hJ, k1, m1, k2, m2, Res.need, p1.cell, p2.cell, q1.cell, q2.cell, sCall_func]
   refine (PhiSame_ok hF (f := l[i]) (g := l'[i]) hA1 hA1' (p1.mono (fun _ h => h) (hEb.agree hA) fun _ _ _ h => h) (p2.mono (fun _ h => h) (hEb.agree hA) fun _ _ _ h => h) (q1.mono (fun _ h => h) (hEb.agree hA') fun _ _ _ h => h) (q2.mono (fun _ h => h) (hEb.agree hA') fun _ _ _ h => h) z1 z2).call fun s hs2 => ?_
   have hEs := hEb.trans hs2
   by_cases he : l[i] = l'[i]
   ·simp [he, slices_EqualFunc_irPhi_j3_eq hJ]
    rw [wrap_id (n := (i : Int) + 1) (by omega)]
    have := ih (i + 1) s (by omega) hEs
    rw [← hQ, decide_eq_true he, Bool.true_and]
    exact this
   ·simp [he]
    rw [← hQ, decide_eq_false he, Bool.false_and]
    exact ⟨rfl, hEs⟩
theorem EqP_ok {A A' : Nat → Prop} {st0 : St} {v w : Value} {l l' : List Phi} (hA : ∀ id, A id → id < st0.next) (hA' : ∀ id, A' id → id < st0.next) (h1 : RSl A st0 3 (RPhi A st0) v l) (h2 : RSl A' st0 3 (RPhi A' st0) w l') (hl : l.length < 2 ^ 62) (hs : ∀ f ∈ l, f.frm.length < 2 ^ 62 ∧ f.args.length < 2 ^ 62) :
 Ok (K.go (.call n_slices_EqualFunc_irPhi [v, w, .func (.func n_ir_Phi_same) #[] #[]]) st0) fun r => r.1 = B (decide (l = l')) ∧ Ext st0 r.2 := by
 generalize hQ : (fun r : Value × St => r.1 = B (decide (l = l')) ∧ Ext st0 r.2) = Q
 refine slices_EqualFunc_irPhi_of hF fun J hJ => ?_
 rw [slices_EqualFunc_irPhi_eq]
 by_cases h : l.length = l'.length
 ·have h' : (l.length : Int) = l'.length := by omega
  have := EqP_loop hF hJ hA hA' h1 h2 hl h hs l.length 0 st0 (by omega) (Ext.refl _)
  simp only [List.drop_zero] at this
  simp [h1.len, h2.len, h', slices_EqualFunc_irPhi_j0_eq hJ]
  rw [← h', ← hQ]
  exact this
 ·have h' : ¬ (l.length : Int) = l'.length := by omega
  have h3 : ¬ l = l' := fun e => h (by rw [e])
  simp [h1.len, h2.len, h', h3, ← hQ]
def Block.fits (b : Block) : Prop := b.phis.length < 2 ^ 62 ∧ b.instrs.length < 2 ^ 62 ∧ ∀ f ∈ b.phis, f.frm.length < 2 ^ 62 ∧ f.args.length < 2 ^ 62
theorem Same1_ok {A A' : Nat → Prop} {st : St} {b c : Block} {vp vi wp wi : Value} (hA : ∀ id, A id → id < st.next) (hA' : ∀ id, A' id → id < st.next) (h1 : RSl A st 3 (RPhi A st) vp b.phis) (h2 : RSl A st 7 RInstr vi b.instrs) (h3 : RSl A' st 3 (RPhi A' st) wp c.phis) (h4 : RSl A' st 7 RInstr wi c.instrs) (hf : b.fits) :
 Ok (K.go (.call n_ir_Same_1 [vB b.label vp vi b.last, vB c.label wp wi c.last]) st) fun r => r.1 = B (decide (b = c)) ∧ Ext st r.2 := by
 generalize hQ : (fun r : Value × St => r.1 = B (decide (b = c)) ∧ Ext st r.2) = Q
 refine ir_Same_1_of hF fun J hJ => ?_
 rw [ir_Same_1_eq]
 have hE : Ext st st.bump.bump := by simp
 have hlb : ∀ n vp vi m s, sLbox (vB n vp vi m) s = .ok (vB n vp vi m, s.bump) := fun n vp vi m s => rfl
 have e1 := EqI_eq hF h2 h4 hf.2.1 (hE.agree hA) (hE.agree hA')
 have e2 := EqP_ok hF (st0 := st.bump.bump) (fun id h => Nat.lt_of_lt_of_le (hA id h) hE.next) (fun id h => Nat.lt_of_lt_of_le (hA' id h) hE.next) (h1.mono (fun _ h => h) (hE.agree hA) fun _ _ _ h => h.mono (hE.agree hA)) (h3.mono (fun _ h => h) (hE.agree hA') fun _ _ _ h => h.mono (hE.agree hA')) hf.1 hf.2.2
 have hbc : decide (b = c) = (decide (b.label = c.label) && (decide (b.last = c.last) && (decide (b.instrs = c.instrs) && decide (b.phis = c.phis)))) := by
  obtain ⟨x1, x2, x3, x4⟩ := b
  obtain ⟨y1, y2, y3, y4⟩ := c
  simp only [Block.mk.injEq, Bool.decide_and]
  cases decide (x1 = y1) <;> cases decide (x2 = y2) <;> cases decide (x3 = y3) <;> cases decide (x4 = y4) <;> rfl
 rw [hbc] at hQ
 by_cases k1 : b.label = c.label
 ·by_cases k2 : b.last = c.last
  ·by_cases k3 : b.instrs = c.instrs
   ·rw [k3] at e1
    simp [hlb, k1, k2, k3, e1]
    refine e2.call fun s hs => ?_
    simp
    rw [← hQ]
    exact ⟨by simp [k1, k2, k3], hE.trans hs⟩
   ·simp [hlb, k1, k2, k3, e1, ← hQ]
  ·simp [hlb, k1, k2, ← hQ]
 ·simp [hlb, k1, ← hQ]
theorem EqB_loop {J} (hJ : IsJ K (retK slices_EqualFunc_irBlock_c.results) J) {A A' : Nat → Prop} {st0 : St} {v w : Value} {l l' : Prog} (hA : ∀ id, A id → id < st0.next) (hA' : ∀ id, A' id → id < st0.next) (h1 : RProg A st0 v l) (h2 : RProg A' st0 w l') (hl : l.length < 2 ^ 62) (hlen : l.length = l'.length) (hs : ∀ b ∈ l, b.fits) (d : Nat) :
 ∀ (i : Nat) (st : St), i + d = l.length → Ext st0 st → Ok (slices_EqualFunc_irBlock_l0 J w (.func (.func n_ir_Same_1) #[] #[]) v (I l.length) (I i) st) fun r => r.1 = B (decide (l.drop i = l'.drop i)) ∧ Ext st0 r.2 := by
 induction d with
 | zero =>
   intro i st hi hE
   refine slices_EqualFunc_irBlock_l0_of hF hJ ?_
   rw [slices_EqualFunc_irBlock_l0_eq]
   have : i = l.length := by omega
   subst this
   have : l'.drop l.length = [] := by rw [hlen]; simp
   simp [slices_EqualFunc_irBlock_j2_eq hJ, this]
   exact hE
 | succ d ih =>
   intro i st hi hE
   have hlt : i < l.length := by omega
   have hlt2 : i < l'.length := by omega
   have hlt' : (i : Int) < l.length := by omega
   have step : decide (l.drop i = l'.drop i) = (decide (l[i] = l'[i]) && decide (l.drop (i + 1) = l'.drop (i + 1))) := by
    rw [List.drop_eq_getElem_cons hlt, List.drop_eq_getElem_cons hlt2]
    simp only [List.cons.injEq]
    by_cases e1 : l[i] = l'[i] <;> by_cases e2 : l.drop (i + 1) = l'.drop (i + 1) <;> simp only [e1, e2] <;> rfl
   rw [step]
   generalize hQ : (fun r : Value × St => r.1 = B (decide (l[i] = l'[i]) && decide (l.drop (i + 1) = l'.drop (i + 1))) ∧ Ext st0 r.2) = Q
   refine slices_EqualFunc_irBlock_l0_of hF hJ ?_
   rw [slices_EqualFunc_irBlock_l0_eq]
   obtain ⟨b, o, cs, k1, k2, ⟨vp, vi, rfl, p1, p2⟩, -⟩ := RSl.at h1 (List.getElem?_eq_getElem hlt)
   obtain ⟨c, p, ds, m1, m2, ⟨wp, wi, rfl, q1, q2⟩, -⟩ := RSl.at h2 (List.getElem?_eq_getElem hlt2)
   have hEb : Ext st0 st.bump.bump := hE.bump.bump
   have hA1 : ∀ id, A id → id < st.bump.bump.next := fun id h => Nat.lt_of_lt_of_le (hA id h) hEb.next
   have hA1' : ∀ id, A' id → id < st.bump.bump.next := fun id h => Nat.lt_of_lt_of_le (hA' id h) hEb.next
   have m2 := m2 st.bump (hE.bump.agree hA')
   have k2 := k2 st (hE.agree hA)
   have hv : ∀ (b : Block) (vp vi : Value), Value.agg #[I b.label, vp, vi, U b.last.kind, I b.last.a, I b.last.yes, I b.last.no] = vB b.label vp vi b.last := fun b vp vi => rfl
   have hup : ∀ (b : Block) (vp vi : Value) s, cellOk vp = true → cellOk vi = true → sUpd 7 0 (.agg #[I 0, .slice none 0 0, .slice none 0 0, U 0, I 0, I 0, I 0]) (vB b.label vp vi b.last) s = .ok (vB b.label vp vi b.last, s) := fun b vp vi s h1 h2 => by simp [vB, Res.need, h1, h2]
   simp [hlt', slices_EqualFunc_irBlock_j1_eq hJ, k1, m1, k2, m2, hv, hup, p1.cell, p2.cell, q1.cell, q2.cell, Res.need, sCall_func]
   refine (Same1_ok hF (b := l[i]) (c := l'[i]) hA1 hA1' (p1.mono (fun _ h => h) (hEb.agree hA) fun _ _ _ h => h.mono (hEb.agree hA)) (p2.mono (fun _ h => h) (hEb.agree hA) fun _ _ _ h => h) (q1.mono (fun _ h => h) (hEb.agree hA') fun _ _ _ h => h.mono (hEb.agree hA')) (q2.mono (fun _ h => h) (hEb.agree hA') fun _ _ _ h => h) (hs _ (List.getElem_mem hlt))).call fun s hs2 => ?_
   have hEs := hEb.trans hs2
   by_cases he : l[i] = l'[i]
   ·simp [he, slices_EqualFunc_irBlock_j3_eq hJ]
    rw [wrap_id (n := (i : Int) + 1) (by omega)]
    have := ih (i + 1) s (by omega) hEs
    rw [← hQ, decide_eq_true he, Bool.true_and]
    exact this
   ·simp [he]
    rw [← hQ, decide_eq_false he, Bool.false_and]
    exact ⟨rfl, hEs⟩
theorem Same_ok {A A' : Nat → Prop} {st : St} {v w : Value} {p q : Prog} (hA : ∀ id, A id → id < st.next) (hA' : ∀ id, A' id → id < st.next) (h1 : RProg A st v p) (h2 : RProg A' st w q) (hl : p.length < 2 ^ 62) (hs : ∀ b ∈ p, b.fits) :
 Ok (K.go (.call n_ir_Same [.agg #[v], .agg #[w]]) st) fun r => r.1 = B (decide (p = q)) ∧ Ext st r.2 := by
 generalize hQ : (fun r : Value × St => r.1 = B (decide (p = q)) ∧ Ext st r.2) = Q
 refine ir_Same_of hF fun J hJ => ?_
 rw [ir_Same_eq]
 have hE : Ext st st.bump.bump := by simp
 have hA1 : ∀ id, A id → id < st.bump.bump.next := fun id h => Nat.lt_of_lt_of_le (hA id h) hE.next
 have hA1' : ∀ id, A' id → id < st.bump.bump.next := fun id h => Nat.lt_of_lt_of_le (hA' id h) hE.next
 have h1 := h1.mono (hE.agree hA)
 have h2 := h2.mono (hE.agree hA')
 have hb : Ok (K.go (.call n_slices_EqualFunc_irBlock [v, w, .func (.func n_ir_Same_1) #[] #[]]) st.bump.bump) fun r => r.1 = B (decide (p = q)) ∧ Ext st.bump.bump r.2 := by
  generalize hQ : (fun r : Value × St => r.1 = B (decide (p = q)) ∧ Ext st.bump.bump r.2) = Q
  refine slices_EqualFunc_irBlock_of hF fun J hJ => ?_
  rw [slices_EqualFunc_irBlock_eq]
  by_cases h : p.length = q.length
  ·have h' : (p.length : Int) = q.length := by omega
   have := EqB_loop hF hJ hA1 hA1' h1 h2 hl h hs p.length 0 _ (by omega) (Ext.refl _)
   simp only [List.drop_zero] at this
   simp [RSl.len h1, RSl.len h2, h', slices_EqualFunc_irBlock_j0_eq hJ]
   rw [← h', ← hQ]
   exact this
  ·have h' : ¬ (p.length : Int) = q.length := by omega
   have h3 : ¬ p = q := fun e => h (by rw [e])
   simp [RSl.len h1, RSl.len h2, h', h3, ← hQ]
 simp [Res.of]
 refine hb.call fun s hs => ?_
 simp
 rw [← hQ]
 exact ⟨rfl, hE.trans hs⟩
end Go.Proofs.YtdjfndijbnpkpaaDoor.Sh
