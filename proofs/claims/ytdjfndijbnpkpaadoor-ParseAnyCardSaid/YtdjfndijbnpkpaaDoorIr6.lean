/-
  Contracts: slices.Equal on numbers; Awake of layer 3.
-/
import Derived.Test.YtdjfndijbnpkpaaDoorIr5
set_option linter.unusedVariables false
set_option linter.unusedSimpArgs false
set_option linter.unusedSectionVars false
namespace Go.Proofs.YtdjfndijbnpkpaaDoor.Sh
open Go Go.AM Go.Proofs
variable {K : Ctx} (hF : Fix pgF K)
include hF
theorem EqInt_loop {J} (hJ : IsJ K (retK slices_Equal_int_c.results) J) {A A' : Nat → Prop} {s1 s2 st : St} {v w : Value} {l l' : List Int} (h1 : RSl A s1 1 RInt v l) (h2 : RSl A' s2 1 RInt w l') (hl : l.length < 2 ^ 62) (hlen : l.length = l'.length) (a1 : Agree A s1 st) (a2 : Agree A' s2 st) (d : Nat) :
 ∀ i : Nat, i + d = l.length → Ok (slices_Equal_int_l0 J v w (I l.length) (I i) st) fun r => r = (B (decide (l.drop i = l'.drop i)), st) := by
 induction d with
 | zero =>
   intro i hi
   refine slices_Equal_int_l0_of hF hJ ?_
   rw [slices_Equal_int_l0_eq]
   have : i = l.length := by omega
   subst this
   have : l'.drop l.length = [] := by rw [hlen]; simp
   simp [slices_Equal_int_j2_eq hJ, this]
 | succ d ih =>
   intro i hi
   refine slices_Equal_int_l0_of hF hJ ?_
   rw [slices_Equal_int_l0_eq]
   have hlt : i < l.length := by omega
   have hlt2 : i < l'.length := by omega
   have hlt' : (i : Int) < l.length := by omega
   obtain ⟨b, o, k1, k2, _⟩ := h1.at1 (f := I) (List.getElem?_eq_getElem hlt)
   obtain ⟨c, p, m1, m2, _⟩ := h2.at1 (f := I) (List.getElem?_eq_getElem hlt2)
   have k2 := k2 st a1
   have m2 := m2 st a2
   have step : decide (l.drop i = l'.drop i) = (decide (l[i] = l'[i]) && decide (l.drop (i + 1) = l'.drop (i + 1))) := by
    rw [List.drop_eq_getElem_cons hlt, List.drop_eq_getElem_cons hlt2]
    simp only [List.cons.injEq]
    by_cases e1 : l[i] = l'[i] <;> by_cases e2 : l.drop (i + 1) = l'.drop (i + 1) <;> simp only [e1, e2] <;> rfl
   rw [step]
   by_cases he : l[i] = l'[i]
   ·simp [hlt', slices_Equal_int_j1_eq hJ, slices_Equal_int_j3_eq hJ, k1, m1, k2, m2, he]
    rw [wrap_id (n := (i : Int) + 1) (by omega)]
    exact ih (i + 1) (by omega)
   ·simp [hlt', slices_Equal_int_j1_eq hJ, k1, m1, k2, m2, he]
theorem EqInt_eq {A A' : Nat → Prop} {s1 s2 st : St} {v w : Value} {l l' : List Int} (h1 : RSl A s1 1 RInt v l) (h2 : RSl A' s2 1 RInt w l') (hl : l.length < 2 ^ 62) (a1 : Agree A s1 st) (a2 : Agree A' s2 st) :
 K.go (.call n_slices_Equal_int [v, w]) st = .ok (B (decide (l = l')), st) := by
 refine Ok.eq (slices_Equal_int_of hF fun J hJ => ?_)
 rw [slices_Equal_int_eq]
 by_cases h : l.length = l'.length
 ·have h' : (l.length : Int) = l'.length := by omega
  have := EqInt_loop hF hJ h1 h2 hl h a1 a2 l.length 0 (by omega)
  simp only [List.drop_zero] at this
  simp [h1.len, h2.len, h', slices_Equal_int_j0_eq hJ]
  rw [← h']
  exact this
 ·have h' : ¬ (l.length : Int) = l'.length := by omega
  have h3 : ¬ l = l' := fun e => h (by rw [e])
  simp [h1.len, h2.len, h', h3]
end Go.Proofs.YtdjfndijbnpkpaaDoor.Sh
