/-
  Chapter 5's own functions: the tokens of an instruction.
-/
import Derived.Test.YtdjfndijbnpkpaaDoorTk1
set_option linter.unusedVariables false
set_option linter.unusedSimpArgs false
set_option linter.unusedSectionVars false
set_option maxRecDepth 100000
namespace Go.Proofs.YtdjfndijbnpkpaaDoor.Sh
open Go Go.AM Go.Proofs Go.AM.Lx

variable {K : Ctx} (hF : Fix pgF K)
include hF

theorem Instr05_ok {x : Instr} (hx : x.Fit) {st : St} (hro : st.ro ≤ st.next) : Ok (K.go (.call n_refinerylaw05_Instr [vI x]) st) fun r => Own st.next r.2 1 r.1 (txs (rdI x)) ∧ Ext st r.2 := by
  refine refinerylaw05_Instr_of hF fun J hJ => ?_
  rw [refinerylaw05_Instr_eq]
  have E0 : Ext st st.bump := (Ext.refl st).bump
  have r0 := E0.roOk hro
  have hst : ∀ k (v : Int) b, sStays k b nothing (fun s => Res.ok (I v, s)) (I v) = true := fun k v b => sStays_same (sameVal_int _ _)
  have hstU : ∀ k (v : Int) b, sStays k b nothing (fun s => Res.ok (U v, s)) (U v) = true := fun k v b => sStays_same (sameVal_int _ _)
  generalize hP : (fun r : Value × St => Own st.next r.2 1 r.1 (txs (rdI x)) ∧ Ext st r.2) = Post
  have fin : ∀ (xs : List Value) (s : St), Ext st s → xs = txs (rdI x) → Ok (Res.ok (Sl s.next 0 xs.length 1, s.alloc (.cells xs))) Post := fun xs s hE e => by
    rw [← hP]
    exact ⟨_, rfl, by rw [← e]; exact own_lit hE.next, hE.alloc _⟩
  have app : ∀ (s : St) (v : Value) (xs l : List Value), Ext st s → Own st.next s 1 v l → l.length ≤ 10 → xs.length ≤ 10 → xs.all cellOk = true → l ++ xs = txs (rdI x) →
      Ok (Res.thn (s.alloc (.cells xs)) (sAppend 1 16 v (Sl s.next 0 xs.length 1) (s.alloc (.cells xs))) fun p17 => Res.ok (p17.1, p17.2)) Post := fun s v xs l hE ho h1 h2 hc e =>
    app_own (n1 := st.next) hro (hE.alloc _) (ho.mono ((Ext.refl s).alloc _)) (own_lit hE.next) hc (by omega) fun v' s' o' E' _ => by
      rw [← hP]
      exact ⟨_, rfl, by rw [← e]; exact o', E'⟩
  simp only [sLbox_vI, thn_ok, sLref_vI, sField_vI_dst, T_bstr]
  refine (reg05 hF hx.dst r0).call fun s1 E1 => ?_
  have X1 := E0.trans E1
  have o1 : Own st.next (s1.alloc (.cells [T (37 :: Lib.itoa x.dst), T [61]])) 1 (Sl s1.next 0 2 1) [T (37 :: Lib.itoa x.dst), T [61]] := own_lit X1.next
  have X2 : Ext st (s1.alloc (.cells [T (37 :: Lib.itoa x.dst), T [61]])) := X1.alloc _
  generalize hs2 : s1.alloc (.cells [T (37 :: Lib.itoa x.dst), T [61]]) = s2 at *
  simp only [lit2, hs2, thn_ok, sLref_vI, sField_vI_slot]
  refine (num05 hF hx.slot (X2.roOk hro)).call fun s3 E3 => ?_
  have X3 := X2.trans E3
  have o3 := o1.mono E3
  have ls := itoa_len hx.slot
  have a3 := sAdd_T [36] (Lib.itoa x.slot) s3 (by simp; omega)
  have r3 := X3.roOk hro
  simp only [T_bstr, a3, thn_ok, sLref_vI, sField_vI_kind, sField_vI_n, sField_vI_a, sField_vI_b, sField_vI_op, sEql, condX_eq]
  by_cases k0 : x.kind = 0
  · simp only [decide_eq_true k0, cond_true]
    refine (num05 hF hx.n r3).call fun s4 E4 => ?_
    simp only [T_bstr, lit1, thn_ok]
    exact app s4 _ [T (Lib.itoa x.n)] _ (X3.trans E4) (o3.mono E4) (by simp) (by simp) rfl (by unfold rdI; rw [if_pos k0]; rfl)
  simp only [decide_eq_false k0, cond_false, sEql, thn_ok, condX_eq]
  by_cases k1 : x.kind = 1
  · simp only [decide_eq_true k1, cond_true, sLref_vI, sField_vI_a, thn_ok]
    refine (reg05 hF hx.a r3).call fun s4 E4 => ?_
    simp only [T_bstr, lit1, thn_ok]
    exact app s4 _ [T (37 :: Lib.itoa x.a)] _ (X3.trans E4) (o3.mono E4) (by simp) (by simp) rfl (by unfold rdI; rw [if_neg k0, if_pos k1]; rfl)
  simp only [decide_eq_false k1, cond_false, sEql, thn_ok, condX_eq]
  by_cases k2 : x.kind = 2
  · simp only [decide_eq_true k2, cond_true, sLref_vI, sField_vI_a, thn_ok]
    refine (reg05 hF hx.a r3).call fun s4 E4 => ?_
    simp only [sLref_vI, sField_vI_b, thn_ok, hst, Res.need_true, Res.bind_ok]
    refine (reg05 hF hx.b ((X3.trans E4).roOk hro)).call fun s5 E5 => ?_
    obtain ⟨i, hi, hi1⟩ : ∃ m : Nat, x.op.tmod 12 = m ∧ m < 12 := ⟨(x.op % 12).toNat, by rw [Int.tmod_eq_emod_of_nonneg hx.op.1]; omega, by omega⟩
    have hlen : opNames.length = 12 := rfl
    have X5 := (X3.trans E4).trans E5
    have E6 : Ext s5 (s5.alloc (.cells (opNames.map T))) := (Ext.refl s5).alloc _
    have g6 : (s5.alloc (.cells (opNames.map T))).get s5.next = some (.cells (opNames.map T)) := by rw [get_alloc, if_pos rfl]
    generalize hs6 : s5.alloc (.cells (opNames.map T)) = s6 at *
    have hixa : sIxA 1 none (.slice (some ⟨s5.next, 0, none⟩) 12 1) (U (i : Nat)) s6 = .ok (P s5.next i, s6) := by
      have h1 : (0 : Int) ≤ ((i : Nat) : Int) ∧ ((i : Nat) : Int) < (12 : Nat) := by omega
      simp only [sIxA, index, if_pos h1, decide_true, Res.need_true, Res.bind_ok, Res.pure_eq, Int.toNat_natCast]
      simp
    have hw : opWord x.op = opNames[i]'(by omega) := by
      unfold opWord
      have : (x.op % 12).toNat = i := by rw [Int.tmod_eq_emod_of_nonneg hx.op.1] at hi; omega
      rw [this, List.getD, List.getElem?_eq_getElem (by omega)]
      rfl
    have hld : s6.load1 s5.next i = .ok (T (opWord x.op)) := load1_eq g6 (by rw [List.getElem?_map, List.getElem?_eq_getElem (by omega), hw]; rfl)
    have hsn : ∀ (k : List St) (o : Nat) (f : St → Res (Value × St)) (v : Value), sStays k s5.next (P s5.next o) f v = true := fun k o f v => by
      unfold sStays
      simp [idOf]
    simp only [T_bstr, lit12, hs6, thn_ok, sLref_vI, sField_vI_op, hstU, Res.need_true, Res.bind_ok, sRem _ _ _ (show (12 : Int) ≠ 0 by decide), hi, hixa, sLoad1, hld, hsn, lit4]
    exact app s6 _ [T (opWord x.op), T (37 :: Lib.itoa x.a), T [44], T (37 :: Lib.itoa x.b)] _ (X5.trans E6) (((o3.mono E4).mono E5).mono E6) (by simp) (by simp) rfl (by unfold rdI; rw [if_neg k0, if_neg k1, if_pos k2]; rfl)
  simp only [decide_eq_false k2, cond_false, sEql, thn_ok, condX_eq]
  by_cases k3 : x.kind = 3
  · simp only [decide_eq_true k3, cond_true, T_bstr, lit1, thn_ok]
    exact app s3 _ [T wIn] _ X3 o3 (by simp) (by simp) rfl (by unfold rdI; rw [if_neg k0, if_neg k1, if_neg k2, if_pos k3]; rfl)
  simp only [decide_eq_false k3, cond_false, sEql, thn_ok, condX_eq]
  by_cases k5 : x.kind = 5
  · simp only [decide_eq_true k5, cond_true, T_bstr, lit2, thn_ok]
    exact app s3 _ [T wLoad, T (36 :: Lib.itoa x.slot)] _ X3 o3 (by simp) (by simp) rfl (by unfold rdI; rw [if_neg k0, if_neg k1, if_neg k2, if_neg k3, if_pos k5]; rfl)
  simp only [decide_eq_false k5, cond_false, sEql, thn_ok, condX_eq]
  by_cases k7 : x.kind = 7
  · simp only [decide_eq_true k7, cond_true, sLref_vI, sField_vI_a, thn_ok]
    refine (reg05 hF hx.a r3).call fun s4 E4 => ?_
    simp only [T_bstr, lit2, thn_ok]
    exact app s4 _ [T wGet, T (37 :: Lib.itoa x.a)] _ (X3.trans E4) (o3.mono E4) (by simp) (by simp) rfl (by unfold rdI; rw [if_neg k0, if_neg k1, if_neg k2, if_neg k3, if_neg k5, if_pos k7]; rfl)
  simp only [decide_eq_false k7, cond_false, sEql, thn_ok, condX_eq]
  by_cases k4 : x.kind = 4
  · simp only [decide_eq_true k4, cond_true, sLref_vI, sField_vI_a, thn_ok]
    refine (reg05 hF hx.a r3).call fun s4 E4 => ?_
    simp only [T_bstr, lit2, thn_ok]
    exact fin [T wOut, T (37 :: Lib.itoa x.a)] s4 (X3.trans E4) (by unfold rdI; rw [if_neg k0, if_neg k1, if_neg k2, if_neg k3, if_neg k5, if_neg k7, if_pos k4]; rfl)
  simp only [decide_eq_false k4, cond_false, sEql, thn_ok, condX_eq]
  by_cases k6 : x.kind = 6
  · simp only [decide_eq_true k6, cond_true, sLref_vI, sField_vI_a, thn_ok]
    refine (reg05 hF hx.a r3).call fun s4 E4 => ?_
    simp only [T_bstr, lit4, thn_ok]
    exact fin [T wStore, T (36 :: Lib.itoa x.slot), T [44], T (37 :: Lib.itoa x.a)] s4 (X3.trans E4) (by unfold rdI; rw [if_neg k0, if_neg k1, if_neg k2, if_neg k3, if_neg k5, if_neg k7, if_neg k4, if_pos k6]; rfl)
  simp only [decide_eq_false k6, cond_false, refinerylaw05_Instr_j0_eq hJ, sLref_vI, sField_vI_a, thn_ok]
  refine (reg05 hF hx.a r3).call fun s4 E4 => ?_
  simp only [sLref_vI, sField_vI_b, thn_ok, hst, Res.need_true, Res.bind_ok]
  refine (reg05 hF hx.b ((X3.trans E4).roOk hro)).call fun s5 E5 => ?_
  simp only [T_bstr, lit4, thn_ok]
  exact fin [T wPut, T (37 :: Lib.itoa x.a), T [44], T (37 :: Lib.itoa x.b)] s5 ((X3.trans E4).trans E5) (by unfold rdI; rw [if_neg k0, if_neg k1, if_neg k2, if_neg k3, if_neg k5, if_neg k7, if_neg k4, if_neg k6]; rfl)

/-- The tokens of a block, of a program. -/
def rdB (b : Block) : List Rd := [rLab b.label, rSign 58, rLine] ++ (b.instrs.flatMap fun x => rdI x ++ [rLine]) ++ rdL b.last ++ [rLine]
def rdP (p : Prog) : List Rd := p.flatMap rdB
end Go.Proofs.YtdjfndijbnpkpaaDoor.Sh

