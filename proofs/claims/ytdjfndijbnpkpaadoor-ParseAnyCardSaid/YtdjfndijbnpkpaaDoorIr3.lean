/-
  Contracts: Last.check, Phi.check.
-/
import Derived.Test.YtdjfndijbnpkpaaDoorIr2
set_option linter.unusedVariables false
set_option linter.unusedSimpArgs false
set_option linter.unusedSectionVars false
namespace Go.Proofs.YtdjfndijbnpkpaaDoor.Sh
open Go Go.AM Go.Proofs
structure Phi where
 dst : Int
 frm : List Int
 args : List Int
def lchk (ls : List Int) : List Int → Int
 | [] => 0
 | n :: t => if n ∈ ls then lchk ls t else 9
def Last.check (l : Last) (ls : List Int) : Int :=
 if 4 ≤ l.kind then 6 else if l ≠ l.only then 5 else if isReg l.a = false then 2 else lchk ls l.labels
def pchk (ls : List Int) : Option Int → List Int → List Int → Int
 | p, l :: fs, a :: gs => if l ∈ ls then (if (match p with | some q => decide (l ≤ q) | none => false) = true then 8 else if isReg a = false then 2 else pchk ls (some l) fs gs) else 9
 | _, _, _ => 0
def Phi.check (f : Phi) (ls : List Int) : Int :=
 if f.frm.length ≠ f.args.length then 5 else if isReg f.dst = false then 2 else pchk ls none f.frm f.args
variable {K : Ctx} (hF : Fix pgF K)
include hF
theorem LCheck_loop {J} (hJ : IsJ K (retK ir_Last_check_c.results) J) {A : Nat → Prop} {st0 : St} {v : Value} {l ls : List Int} {m : Nat} (hv : RSl A st0 1 RInt v l) (hl : l.length < 2 ^ 62) (d : Nat) : ∀ (i : Nat) (st : St), i + d = l.length → Agree A st0 st → st.get m = some (mSet ls) →
 Ok (ir_Last_check_l0 J (.map (some m)) v (I l.length) (I i) st) fun r => r.1 = I (lchk ls (l.drop i)) ∧ r.2 = st := by
 induction d with
 | zero =>
   intro i st hi hE hm
   refine ir_Last_check_l0_of hF hJ ?_
   rw [ir_Last_check_l0_eq]
   have : i = l.length := by omega
   subst this
   simp [ir_Last_check_j2_eq hJ, lchk]
 | succ d ih =>
   intro i st hi hE hm
   refine ir_Last_check_l0_of hF hJ ?_
   rw [ir_Last_check_l0_eq]
   have hlt : i < l.length := by omega
   have hlt' : (i : Int) < l.length := by omega
   obtain ⟨b, o, h1, h2, _⟩ := hv.at1 (f := I) (List.getElem?_eq_getElem hlt)
   rw [List.drop_eq_getElem_cons hlt]
   by_cases hk : l[i] ∈ ls
   ·simp [hlt', ir_Last_check_j1_eq hJ, ir_Last_check_j3_eq hJ, h1, h2 st hE, sLook_set hm, hk, lchk]
    rw [wrap_id (n := (i : Int) + 1) (by omega)]
    exact ih (i + 1) st (by omega) hE hm
   ·simp [hlt', ir_Last_check_j1_eq hJ, ir_Last_check_j3_eq hJ, h1, h2 st hE, sLook_set hm, hk, lchk]
theorem LCheck_ok (l : Last) (ls : List Int) {m : Nat} (st : St) (hm : m < st.next) (hg : st.get m = some (mSet ls)) :
 Ok (K.go (.call n_ir_Last_check [vL l, .map (some m)]) st) fun r => r.1 = I (l.check ls) ∧ Ext st r.2 := by
 refine ir_Last_check_of hF fun J hJ => ?_
 rw [ir_Last_check_eq]
 by_cases h4 : 4 ≤ l.kind
 ·simp [vL, h4, Last.check]
 have e := fun s => sEq_last true l l.only s
 simp only [vL] at e
 have hc : l.check ls = if l ≠ l.only then 5 else if isReg l.a = false then 2 else lchk ls l.labels := by unfold Last.check; rw [if_neg h4]
 simp [vL, h4, Res.need]
 refine (LOnly_ok hF l _).call fun s hE1 => ?_
 have hE : Ext st s := Ext.trans (by simp) hE1
 simp [sStays, sameVal, sameOne, sameCell, sameCells, Res.need, vL, e, reg_eq hF]
 by_cases hx : l = l.only
 ·rw [if_neg (fun h => h hx)] at hc
  rw [decide_eq_true hx]
  cases ha : isReg l.a with
  | false =>
    rw [if_pos ha] at hc
    simp [reg_eq hF, ha, hE, hc]
  | true =>
    rw [if_neg (by simp [ha])] at hc
    simp [reg_eq hF, ha, ir_Last_check_j0_eq hJ, Res.need]
    refine (Labels_ok hF l _).thn fun q hq => ?_
    obtain ⟨hq1, hq2⟩ := hq
    simp [hq1.len]
    have hll : l.labels.length < 2 ^ 62 := by
     unfold Last.labels
     split
     ·simp
     ·split <;> simp
    refine (LCheck_loop hF hJ hq1 hll l.labels.length 0 q.2 (by omega) (Agree.refl _ _) (ls := ls) (by rw [hq2.get _ (Nat.lt_of_lt_of_le hm hE.next), hE.get _ hm]; exact hg)).mono fun p hp => ?_
    exact ⟨by rw [hp.1, hc]; rfl, by rw [hp.2]; exact hE.trans hq2⟩
 ·rw [if_pos hx] at hc
  rw [decide_eq_false hx]
  simp [hE, hc]
theorem PCheck_loop {J} (hJ : IsJ K (retK ir_Phi_check_c.results) J) {A : Nat → Prop} {st : St} {vf va : Value} {dst : Int} {fs gs ls : List Int} {m : Nat} (hf : RSl A st 1 RInt vf fs) (ha : RSl A st 1 RInt va gs) (hl : fs.length < 2 ^ 62) (hlen : fs.length = gs.length)
 (hm : st.get m = some (mSet ls)) (d : Nat) : ∀ (i : Nat), i + d = fs.length →
 Ok (ir_Phi_check_l0 J (.map (some m)) (.agg #[I dst, vf, va]) vf (I fs.length) (I i) st) fun r => r.1 = I (pchk ls (if i = 0 then none else fs[i - 1]?) (fs.drop i) (gs.drop i)) ∧ r.2 = st := by
 induction d with
 | zero =>
   intro i hi
   refine ir_Phi_check_l0_of hF hJ ?_
   rw [ir_Phi_check_l0_eq]
   have : i = fs.length := by omega
   subst this
   simp [ir_Phi_check_j3_eq hJ, pchk]
 | succ d ih =>
   intro i hi
   refine ir_Phi_check_l0_of hF hJ ?_
   rw [ir_Phi_check_l0_eq]
   have hlt : i < fs.length := by omega
   have hlt' : (i : Int) < fs.length := by omega
   have hla : i < gs.length := by omega
   obtain ⟨b1, o1, h1, h2, _⟩ := hf.at1 (f := I) (List.getElem?_eq_getElem hlt)
   obtain ⟨b2, o2, k1, k2, _⟩ := ha.at1 (f := I) (List.getElem?_eq_getElem hla)
   have h2 := h2 st (Agree.refl _ _)
   have k2 := k2 st (Agree.refl _ _)
   rw [List.drop_eq_getElem_cons hlt, List.drop_eq_getElem_cons hla]
   have nxt := ih (i + 1) (by omega)
   rw [if_neg (Nat.succ_ne_zero i), Nat.add_sub_cancel, List.getElem?_eq_getElem hlt] at nxt
   have wr : IntKind.i64.wrap ((i : Int) + 1) = ((i + 1 : Nat) : Int) := by rw [wrap_id (by omega)]; rfl
   by_cases hk : fs[i] ∈ ls
   ·by_cases h0 : 0 < i
    ·have hi1 : i - 1 < fs.length := by omega
     rw [if_neg (by omega), List.getElem?_eq_getElem hi1]
     obtain ⟨b3, o3, l1, l2, _⟩ := hf.at1 (f := I) (List.getElem?_eq_getElem hi1)
     have l2 := l2 st (Agree.refl _ _)
     have ws : IntKind.i64.wrap ((i : Int) - 1) = ((i - 1 : Nat) : Int) := by rw [wrap_id (by omega)]; omega
     by_cases hle : fs[i] ≤ fs[i - 1]
     ·simp [hlt', ir_Phi_check_j2_eq hJ, h1, h2, sLook_set hm, hk, k1, k2, pchk, reg_eq hF, h0, ws, l1, l2, hle]
     ·cases hr : isReg gs[i] with
      | false => simp [hlt', ir_Phi_check_j2_eq hJ, h1, h2, sLook_set hm, hk, k1, k2, pchk, reg_eq hF, hr, h0, ws, l1, l2, hle]
      | true =>
        simp [hlt', ir_Phi_check_j2_eq hJ, ir_Phi_check_j4_eq hJ, h1, h2, sLook_set hm, hk, k1, k2, pchk, reg_eq hF, hr, h0, wr, ws, l1, l2, hle]
        exact nxt
    ·rw [if_pos (by omega)]
     cases hr : isReg gs[i] with
     | false => simp [hlt', ir_Phi_check_j2_eq hJ, h1, h2, sLook_set hm, hk, k1, k2, pchk, reg_eq hF, hr, h0]
     | true =>
       simp [hlt', ir_Phi_check_j2_eq hJ, ir_Phi_check_j4_eq hJ, h1, h2, sLook_set hm, hk, k1, k2, pchk, reg_eq hF, hr, h0, wr]
       exact nxt
   ·simp [hlt', ir_Phi_check_j2_eq hJ, h1, h2, sLook_set hm, hk, pchk]
theorem PCheck_ok (f : Phi) (ls : List Int) {A : Nat → Prop} {vf va : Value} {m : Nat} (st : St) (hA : ∀ id, A id → id < st.next) (hf : RSl A st 1 RInt vf f.frm) (ha : RSl A st 1 RInt va f.args) (hl : f.frm.length < 2 ^ 62) (hm : m < st.next) (hg : st.get m = some (mSet ls)) :
 Ok (K.go (.call n_ir_Phi_check [.agg #[I f.dst, vf, va], .map (some m)]) st) fun r => r.1 = I (f.check ls) ∧ Ext st r.2 := by
 refine ir_Phi_check_of hF fun J hJ => ?_
 rw [ir_Phi_check_eq]
 by_cases h1 : f.frm.length = f.args.length
 ·cases hr : isReg f.dst with
  | false => simp [hf.len, ha.len, h1, ir_Phi_check_j0_eq hJ, reg_eq hF, hr, Phi.check]
  | true =>
    simp [hf.len, ha.len, h1, ir_Phi_check_j0_eq hJ, ir_Phi_check_j1_eq hJ, reg_eq hF, hr]
    have hE : Ext st st.bump := by simp
    rw [← h1]
    refine (PCheck_loop hF hJ (hf.mono (fun _ h => h) (hE.agree hA) (fun _ _ _ h => h)) (ha.mono (fun _ h => h) (hE.agree hA) (fun _ _ _ h => h)) hl h1 (ls := ls) (m := m) (by rw [hE.get _ hm]; exact hg) (dst := f.dst) f.frm.length 0 (by omega)).mono fun r hr' => ?_
    refine ⟨?_, by rw [hr'.2]; exact hE⟩
    rw [hr'.1, if_pos rfl]
    unfold Phi.check
    rw [if_neg (fun h => h h1), if_neg (by simp [hr])]
    rfl
 ·have h1' : ¬ (f.frm.length : Int) = f.args.length := by omega
  simp [hf.len, ha.len, h1, h1', Phi.check]
end Go.Proofs.YtdjfndijbnpkpaaDoor.Sh
