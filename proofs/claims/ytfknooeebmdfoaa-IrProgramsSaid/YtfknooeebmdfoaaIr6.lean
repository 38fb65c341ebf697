/-
  Contracts: slices.Equal on numbers; Awake of layer 3.
-/
import Derived.Test.YtfknooeebmdfoaaIr5
set_option linter.unusedVariables false
set_option linter.unusedSimpArgs false
set_option linter.unusedSectionVars false
namespace Go.Proofs.Ytfknooeebmdfoaa.Sh
open Go Go.AM Go.Proofs

variable {K : Ctx} (hF : Fix pgF K)
include hF

theorem EqInt_loop {J} (hJ : IsJ K (retK slices_Equal_int_c.results) J) {A A' : Nat → Prop} {s1 s2 st : St} {v w : Value} {l l' : List Int} (h1 : RSl A s1 1 RInt v l) (h2 : RSl A' s2 1 RInt w l') (hl : l.length < 2 ^ 62) (hlen : l.length = l'.length) (a1 : Agree A s1 st) (a2 : Agree A' s2 st) (d : Nat) :
    ∀ i : Nat, i + d = l.length → Ok (slices_Equal_int_l0 J v w (I l.length) (I i) st) fun r => r = (B (decide (l.drop i = l'.drop i)), st) := by
  induction d with
  | zero =>
    intro i hi
    refine slices_Equal_int_l0_of hF hJ ?_
    rw [slices_Equal_int_l0_eq]
    have : i = l.length := by omega
    subst this
    have : l'.drop l.length = [] := by rw [hlen]; simp
    simp [slices_Equal_int_j2_eq hJ, this]
  | succ d ih =>
    intro i hi
    refine slices_Equal_int_l0_of hF hJ ?_
    rw [slices_Equal_int_l0_eq]
    have hlt : i < l.length := by omega
    have hlt2 : i < l'.length := by omega
    have hlt' : (i : Int) < l.length := by omega
    obtain ⟨b, o, k1, k2, _⟩ := h1.at1 (f := I) (List.getElem?_eq_getElem hlt)
    obtain ⟨c, p, m1, m2, _⟩ := h2.at1 (f := I) (List.getElem?_eq_getElem hlt2)
    have k2 := k2 st a1
    have m2 := m2 st a2
    have step : decide (l.drop i = l'.drop i) = (decide (l[i] = l'[i]) && decide (l.drop (i + 1) = l'.drop (i + 1))) := by
      rw [List.drop_eq_getElem_cons hlt, List.drop_eq_getElem_cons hlt2]
      simp only [List.cons.injEq]
      by_cases e1 : l[i] = l'[i] <;> by_cases e2 : l.drop (i + 1) = l'.drop (i + 1) <;> simp only [e1, e2] <;> rfl
    rw [step]
    by_cases he : l[i] = l'[i]
    · simp [hlt', slices_Equal_int_j1_eq hJ, slices_Equal_int_j3_eq hJ, k1, m1, k2, m2, he]
      rw [wrap_id (n := (i : Int) + 1) (by omega)]
      exact ih (i + 1) (by omega)
    · simp [hlt', slices_Equal_int_j1_eq hJ, k1, m1, k2, m2, he]

theorem EqInt_eq {A A' : Nat → Prop} {s1 s2 st : St} {v w : Value} {l l' : List Int} (h1 : RSl A s1 1 RInt v l) (h2 : RSl A' s2 1 RInt w l') (hl : l.length < 2 ^ 62) (a1 : Agree A s1 st) (a2 : Agree A' s2 st) :
    K.go (.call n_slices_Equal_int [v, w]) st = .ok (B (decide (l = l')), st) := by
  refine Ok.eq (slices_Equal_int_of hF fun J hJ => ?_)
  rw [slices_Equal_int_eq]
  by_cases h : l.length = l'.length
  · have h' : (l.length : Int) = l'.length := by omega
    have := EqInt_loop hF hJ h1 h2 hl h a1 a2 l.length 0 (by omega)
    simp only [List.drop_zero] at this
    simp [h1.len, h2.len, h', slices_Equal_int_j0_eq hJ]
    rw [← h']
    exact this
  · have h' : ¬ (l.length : Int) = l'.length := by omega
    have h3 : ¬ l = l' := fun e => h (by rw [e])
    simp [h1.len, h2.len, h', h3]

theorem Awake3_ok (st : St) (hro : st.ro ≤ st.next) : Ok (K.go (.call n_refinerylaw03_Awake []) st) fun r => r.1 = B true ∧ Ext st r.2 := by
  refine refinerylaw03_Awake_of hF fun J hJ => ?_
  rw [refinerylaw03_Awake_eq]
  simp [sLit, sBuild, fillL, Res.need]
  generalize hs1 : St.bump (St.alloc _ _) = s1
  have hE1 : Ext st s1 := by rw [← hs1]; simp
  have g0 : s1.get st.next = some (.cells [I 0, .slice none 0 0, .slice none 0 0, U 3, I 0, I 0, I 0]) := by rw [← hs1]; simp
  have n1 : s1.next = st.next + 2 := by rw [← hs1]; simp
  clear hs1
  let p : Prog := [⟨0, [], [], ⟨3, 0, 0, 0⟩⟩]
  have hp : RProg (Rng st.next (st.next + 1)) s1 (Sl st.next 0 1 7) p := .inr ⟨st.next, 0, _, rfl, ⟨Nat.le_refl _, Nat.lt_succ_self _⟩, g0, by simp [p], fun i x hx => by
    cases i with
    | zero =>
      simp [p] at hx
      subst hx
      exact ⟨.slice none 0 0, .slice none 0 0, rfl, .nil _ _ _ _ _, .nil _ _ _ _ _⟩
    | succ i => simp [p] at hx⟩
  have hA : ∀ {s : St}, Ext s1 s → ∀ id, Rng st.next (st.next + 1) id → id < s.next := fun hs id h => by have := hs.next; simp [Rng] at h; omega
  refine (Check_ok hF (hA (Ext.refl _)) hp (by decide) (by simp [p]) (hE1.roOk hro)).call fun s2 hE2 => ?_
  have c1 : check p = 0 := rfl
  simp [c1]
  refine (Count_ok hF (hA hE2) (hp.mono (hE2.agree (hA (Ext.refl _)))) (by decide)).call fun s3 hE3 => ?_
  have c2 : count p = 1 := rfl
  simp [c2]
  refine (Check_ok hF (A := fun _ => False) (p := []) (fun id h => h.elim) (.nil _ _ _ _ _) (by decide) (by simp) (((hE1.trans hE2).trans hE3).roOk hro)).call fun s4 hE4 => ?_
  have c3 : check [] = 7 := rfl
  simp [c3]
  exact ((hE1.trans hE2).trans hE3).trans hE4
end Go.Proofs.Ytfknooeebmdfoaa.Sh

