/-
  IrPrograms: one round of the range over the instructions.
-/
import Derived.Test.YtfknooeebmdfoaaIrProg1
set_option linter.unusedVariables false
set_option linter.unusedSimpArgs false
set_option linter.unusedSectionVars false
set_option maxRecDepth 100000
namespace Go.Proofs.Ytfknooeebmdfoaa.Sh
open Go Go.AM Go.Proofs

noncomputable def prA : ACode := posC refinerylaw03_IrPrograms_c.body [1, 1, 1, 1, 1, 1, 1, 1, 1, 1, 1, 1, 1, 1, 1, 1, 1, 1, 1, 1, 1, 1, 1, 0, 1, 0, 1, 0]
noncomputable def prB : ACode := posC refinerylaw03_IrPrograms_c.body [1, 1, 1, 1, 1, 1, 1, 1, 1, 1, 1, 1, 1, 1, 1, 1, 1, 1, 1, 1, 1, 1, 1, 0, 1, 0, 1, 1]
def prE (v1 v6 v7 v11 v12 v13 v14 v16 v25 v26 v27 v160 : Value) : Env := envT [(1, v1), (6, v6), (7, v7), (11, v11), (12, v12), (13, v13), (14, v14), (16, v16), (25, v25), (26, v26), (27, v27), (160, v160)]

theorem prA_eq (K : Ctx) (v1 v6 v7 v11 v12 v13 v14 v16 v25 v26 v27 v160 : Value) (i : Int) (x : Instr) (st : St) : codeC K prA (putL (prE v1 v6 v7 v11 v12 v13 v14 v16 v25 v26 v27 v160) [161, 162] [I i, vI x]) st =
    .ok (.normal, (27, vI x) :: (27, .agg #[U 0, U 0, I 0, I 0, I 0, I 0, I 0]) :: (26, I i) :: (162, vI x) :: (161, I i) :: prE v1 v6 v7 v11 v12 v13 v14 v16 v25 v26 v27 v160, st.bump) := by kernel_rfl
theorem prB_eq (K : Ctx) (J : JT (AExit × St)) (v1 v6 v7 v11 v12 v13 v14 v16 v25 v26 v27 v160 : Value) (i : Int) (x : Instr) (st : St) : atR K J prB ((27, vI x) :: (27, .agg #[U 0, U 0, I 0, I 0, I 0, I 0, I 0]) :: (26, I i) :: (162, vI x) :: (161, I i) :: prE v1 v6 v7 v11 v12 v13 v14 v16 v25 v26 v27 v160) st =
    refinerylaw03_IrPrograms_jr1111111111111111111111101011_0 J v6 v12 v16 v25 (I i) (vI x) st := by kernel_rfl

theorem pairs_snd : ∀ (p : Prog) (i : Nat), (pairs i p).map (·.2) = p.flatMap (·.instrs) := by
  intro p
  induction p with
  | nil => intro i; rfl
  | cons b p ih =>
    intro i
    rw [pairs, List.map_append, ih, List.flatMap_cons, List.map_map]
    congr 1
    exact List.map_id' _
theorem pairs_in : ∀ (p : Prog) (i j : Nat) (x : Instr), (j, x) ∈ pairs i p → i ≤ j ∧ ∃ b, p[j - i]? = some b ∧ x ∈ b.instrs := by
  intro p
  induction p with
  | nil => intro i j x h; cases h
  | cons b p ih =>
    intro i j x h
    rw [pairs, List.mem_append] at h
    rcases h with h | h
    · obtain ⟨y, hy, e⟩ := List.mem_map.1 h
      cases e
      exact ⟨Nat.le_refl _, b, by rw [Nat.sub_self]; rfl, hy⟩
    · obtain ⟨h1, c, h2, h3⟩ := ih (i + 1) j x h
      refine ⟨by omega, c, ?_, h3⟩
      rw [show j - i = (j - (i + 1)) + 1 by omega]
      exact h2

/-- What there is between two rounds. -/
structure RV (s8 st : St) (kb L : Nat) (e : Env) (k : Nat) : Prop where
  ext : Ext s8 st
  k1 : s8.next ≤ kb
  k2 : kb < L
  kl : L < st.next
  gk : st.get kb = some (.cells [I k])
  gL : st.get L = some (.loop e [161, 162] prA prB .ready .normal)
theorem RV.mono {s8 st st' : St} {kb L : Nat} {e : Env} {k : Nat} (h : RV s8 st kb L e k) (hE : Ext st st') : RV s8 st' kb L e k where
  ext := h.ext.trans hE
  k1 := h.k1
  k2 := h.k2
  kl := Nat.lt_of_lt_of_le h.kl hE.next
  gk := by have := h.k2; have := h.kl; rw [hE.get _ (by omega)]; exact h.gk
  gL := by rw [hE.get _ h.kl]; exact h.gL

variable {K : Ctx} (hF : Fix pgF K)
include hF

theorem Progs_round {A : Nat → Prop} {s8 st : St} {kb L qb lb : Nat} {v1 v6 v7 v11 v13 v14 v26 v27 v160 vq vl : Value} {q : Prog} (hro : s8.ro ≤ s8.next) (hA : ∀ id, A id → id < s8.next) (hq : RProg A s8 vq q) (hqb : qb < s8.next) (hgq : s8.get qb = some (.cells [vq])) (hl : RSl A s8 7 RInstr vl (q.flatMap (·.instrs))) (hlb : lb < s8.next) (hgl : s8.get lb = some (.cells [vl]))
    (hs : ∀ b ∈ q, b.instrs.length < 2 ^ 62) {i : Nat} {x : Instr} {l pre : List (Nat × Instr)} (hp : pairs 0 q = pre ++ (i, x) :: l) (hpl : pre.length < 2 ^ 62) (h : RV s8 st kb L (prE v1 v6 v7 v11 (P qb 0) v13 v14 (P lb 0) (P kb 0) v26 v27 v160) pre.length) :
    Ok (sCall K (.func (.yield L) #[] #[]) [I i, vI x] st) fun r => r.1 = B true ∧ RV s8 r.2 kb L (prE v1 v6 v7 v11 (P qb 0) v13 v14 (P lb 0) (P kb 0) v26 v27 v160) (pre.length + 1) := by
  have e : sCall K (.func (.yield L) #[] #[]) [I i, vI x] st = K.go (.round L [I i, vI x]) st := by simp [sCall, taskOf]
  rw [e]
  have k1 := h.k1; have k2 := h.k2; have kl := h.kl; have hn := h.ext.next
  have hgb : st.bump.get L = some (.loop (prE v1 v6 v7 v11 (P qb 0) v13 v14 (P lb 0) (P kb 0) v26 v27 v160) [161, 162] prA prB .ready .normal) := by rw [get_bump, if_neg (by omega)]; exact h.gL
  refine round_of hF h.gL rfl (by rw [h.ext.ro]; omega) (prA_eq K _ _ _ _ _ _ _ _ _ _ _ _ i x st) hgb fun J hJ => ?_
  have body : Ok (atR K J prB ((27, vI x) :: (27, .agg #[U 0, U 0, I 0, I 0, I 0, I 0, I 0]) :: (26, I i) :: (162, vI x) :: (161, I i) :: prE v1 v6 v7 v11 (P qb 0) v13 v14 (P lb 0) (P kb 0) v26 v27 v160) (st.bump.put L (.loop (prE v1 v6 v7 v11 (P qb 0) v13 v14 (P lb 0) (P kb 0) v26 v27 v160) [161, 162] prA prB .busy .normal)))
      fun r => r.1 = .normal ∧ Ext s8 r.2 ∧ L < r.2.next ∧ r.2.get kb = some (.cells [I ((pre.length : Int) + 1)]) ∧ r.2.get L = some (.loop (prE v1 v6 v7 v11 (P qb 0) v13 v14 (P lb 0) (P kb 0) v26 v27 v160) [161, 162] prA prB .busy .normal) := by
    rw [prB_eq, refinerylaw03_IrPrograms_jr1111111111111111111111101011_0_eq hJ]
    generalize hs1 : (st.bump).put L (.loop (prE v1 v6 v7 v11 (P qb 0) v13 v14 (P lb 0) (P kb 0) v26 v27 v160) [161, 162] prA prB .busy .normal) = s1
    have hX : Ext s8 s1 := by rw [← hs1]; exact (h.ext.bump).put (by omega) _
    have n1 : s1.next = st.next + 1 := by rw [← hs1]; rfl
    have gk : s1.get kb = some (.cells [I pre.length]) := by rw [← hs1, get_put, if_neg (by omega), get_bump, if_neg (by omega)]; exact h.gk
    have gL : s1.get L = some (.loop (prE v1 v6 v7 v11 (P qb 0) v13 v14 (P lb 0) (P kb 0) v26 v27 v160) [161, 162] prA prB .busy .normal) := by rw [← hs1, get_put, if_pos rfl]
    clear hs1
    have hat : (q.flatMap (·.instrs))[pre.length]? = some x := by
      rw [← pairs_snd q 0, hp, List.map_append, List.getElem?_append_right (by simp)]
      simp
    obtain ⟨_, b, hb, hxb⟩ := pairs_in q 0 i x (by rw [hp]; simp)
    rw [Nat.sub_zero] at hb
    obtain ⟨cb, co, cs, m1, m2, m3, -⟩ := hl.at hat
    have m3 : cs = cI x := m3
    subst m3
    have m2 := m2 s1 (hX.agree hA)
    have hv : Value.agg (cI x).toArray = vI x := rfl
    obtain ⟨db, dO, ds, d1, d2, ⟨vp, vi, rfl, p1, p2⟩, -, -, d3⟩ := RSl.at hq hb
    have d3 := d3 s1 2 vi (hX.agree hA) rfl
    have hld1 : s1.load1 lb 0 = .ok vl := load1_eq (by rw [hX.get _ hlb]; exact hgl) rfl
    have hld2 : s1.load1 kb 0 = .ok (I pre.length) := load1_eq gk rfl
    have hld3 : s1.load1 qb 0 = .ok vq := load1_eq (by rw [hX.get _ hqb]; exact hgq) rfl
    generalize hQ : (fun r : AExit × St => r.1 = .normal ∧ Ext s8 r.2 ∧ L < r.2.next ∧ r.2.get kb = some (.cells [I ((pre.length : Int) + 1)]) ∧ r.2.get L = some (.loop (prE v1 v6 v7 v11 (P qb 0) v13 v14 (P lb 0) (P kb 0) v26 v27 v160) [161, 162] prA prB .busy .normal)) = Q
    simp [hld1, hld2, m1, m2, hv, hld3, d1, d3]
    have p2' := p2.mono (A' := A) (fun _ h => h) (hX.agree hA) fun _ _ _ h => h
    have hst : ∀ s : St, Ext s1 s → s.storeN kb 0 [I ((pre.length : Int) + 1)] = .ok (s.put kb (.cells [I ((pre.length : Int) + 1)])) := fun s hE => by
      have g : s.get kb = some (.cells [I pre.length]) := by rw [hE.get _ (by omega)]; exact gk
      have : s.ro ≤ kb := by rw [hE.ro, hX.ro]; omega
      simp [g, this, Res.need]
    have hw : IntKind.i64.wrap ((pre.length : Int) + 1) = (pre.length : Int) + 1 := wrap_id (by omega)
    refine (Contains_ok hF x (fun id hid => Nat.lt_of_lt_of_le (hA id hid) hX.next) p2' (hs _ (List.mem_of_getElem? hb))).callB fun s2 hE2 => ?_
    have hld4 : s2.load1 kb 0 = .ok (I pre.length) := load1_eq (by rw [hE2.get _ (by omega)]; exact gk) rfl
    simp [-storeN_def, hxb, refinerylaw03_IrPrograms_jr1111111111111111111111101011_1_eq hJ, hld4, hw, hst s2 hE2, Res.need]
    rw [← hQ]
    refine ⟨rfl, (hX.trans hE2).put k1 _, by show L < s2.next; have := hE2.next; omega, by rw [get_put, if_pos rfl], by rw [get_put, if_neg (by omega), hE2.get _ (by omega)]; exact gL⟩
  refine body.mono fun ⟨r1, r2⟩ ⟨e1, e2, e3, e4, e5⟩ => ?_
  simp only at e1 e2 e3 e4 e5 ⊢
  subst e1
  exact ⟨_, _, _, _, _, _, e5, rfl, e2.put (by omega) _, k1, k2, e3, by rw [get_put, if_neg (by omega)]; exact e4, by rw [get_put, if_pos rfl]⟩
end Go.Proofs.Ytfknooeebmdfoaa.Sh

