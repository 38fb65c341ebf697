/-
  Chapter 5's own functions: Instr, Last: the tokens of an instruction, of an end.
  Chapter 5's own functions: the tokens of an instruction.
  Chapter 5's own functions: Tokens, Text.
-/
import Derived.Test.YtdjfndijbnpkpaaDoorPa7
import Derived.Test.YtdjfndijbnpkpaaDoorShB
set_option linter.unusedVariables false
set_option linter.unusedSimpArgs false
set_option linter.unusedSectionVars false
set_option maxRecDepth 100000
namespace Go.Proofs.YtdjfndijbnpkpaaDoor.Sh
open Go Go.AM Go.Proofs Go.AM.Lx
abbrev Rd := List UInt8 × Tok
def rReg (n : Int) : Rd := (37 :: Lib.itoa n, ⟨2, 0, [], n⟩)
def rLab (n : Int) : Rd := (64 :: Lib.itoa n, ⟨3, 0, [], n⟩)
def rSlot (n : Int) : Rd := (36 :: Lib.itoa n, ⟨4, 0, [], n⟩)
def rNum (n : Int) : Rd := (Lib.itoa n, ⟨5, 0, [], n⟩)
def rSign (c : UInt8) : Rd := ([c], ⟨6, 0, [c], 0⟩)
def rWord (w : List UInt8) : Rd := (w, ⟨1, 0, w, 0⟩)
def rLine : Rd := ([10], ⟨7, 0, [], 0⟩)
def opWord (o : Int) : List UInt8 := opNames.getD (o % 12).toNat []
def rdI (x : Instr) : List Rd :=
 if x.kind = 0 then [rReg x.dst, rSign 61, rNum x.n]
 else if x.kind = 1 then [rReg x.dst, rSign 61, rReg x.a]
 else if x.kind = 2 then [rReg x.dst, rSign 61, rWord (opWord x.op), rReg x.a, rSign 44, rReg x.b]
 else if x.kind = 3 then [rReg x.dst, rSign 61, rWord wIn]
 else if x.kind = 5 then [rReg x.dst, rSign 61, rWord wLoad, rSlot x.slot]
 else if x.kind = 7 then [rReg x.dst, rSign 61, rWord wGet, rReg x.a]
 else if x.kind = 4 then [rWord wOut, rReg x.a]
 else if x.kind = 6 then [rWord wStore, rSlot x.slot, rSign 44, rReg x.a]
 else [rWord wPut, rReg x.a, rSign 44, rReg x.b]
def rdL (l : Last) : List Rd :=
 if l.kind = 0 then [rWord wJump, rLab l.yes]
 else if l.kind = 1 then [rWord wBr, rReg l.a, rSign 44, rLab l.yes, rSign 44, rLab l.no]
 else if l.kind = 2 then [rWord wRet, rReg l.a]
 else [rWord wTrap]
def txs (l : List Rd) : List Value := l.map fun p => T p.1
def fitN (n : Int) : Prop := -9223372036854775808 ≤ n ∧ n ≤ 9223372036854775807
structure Instr.Fit (x : Instr) : Prop where
 dst : fitN x.dst
 a : fitN x.a
 b : fitN x.b
 n : fitN x.n
 slot : fitN x.slot
 op : 0 ≤ x.op ∧ x.op ≤ 255
structure Last.Fit (l : Last) : Prop where
 a : fitN l.a
 yes : fitN l.yes
 no : fitN l.no
theorem own_lit {n0 : Nat} {st : St} {xs : List Value} (hn : n0 ≤ st.next) : Own n0 (st.alloc (.cells xs)) 1 (Sl st.next 0 xs.length 1) xs := .inr ⟨st.next, xs.length, rfl, by simp, by rw [get_alloc, if_pos rfl], hn, Nat.lt_succ_self _⟩
theorem own_first {n0 : Nat} {st : St} {v : Value} {cs : List Value} (h : Own n0 st 1 v cs) : lenL v = .ok cs.length ∧ firstL st 1 cs.length v = .ok cs := by
 rcases h with ⟨rfl, c, rfl⟩ | ⟨b, n, rfl, h2, h3, h4, h5⟩
 ·exact ⟨rfl, rfl⟩
 ·have : n = cs.length := by omega
  subst this
  refine ⟨rfl, ?_⟩
  simp only [firstL, decide_true, Res.need_true, Res.bind_ok, loadN_def, h3]
  rw [need_dec (by simp)]
  simp
theorem lit1 (a : List UInt8) (s : St) : sLit 1 1 [T []] [(0, 1, T a)] s = .ok (Sl s.next 0 1 1, s.alloc (.cells [T a])) := rfl
theorem lit2 (a b : List UInt8) (s : St) : sLit 1 2 [T [], T []] [(0, 1, T a), (1, 1, T b)] s = .ok (Sl s.next 0 2 1, s.alloc (.cells [T a, T b])) := rfl
theorem lit3 (a b c : List UInt8) (s : St) : sLit 1 3 [T [], T [], T []] [(0, 1, T a), (1, 1, T b), (2, 1, T c)] s = .ok (Sl s.next 0 3 1, s.alloc (.cells [T a, T b, T c])) := rfl
theorem lit4 (a b c d : List UInt8) (s : St) : sLit 1 4 [T [], T [], T [], T []] [(0, 1, T a), (1, 1, T b), (2, 1, T c), (3, 1, T d)] s = .ok (Sl s.next 0 4 1, s.alloc (.cells [T a, T b, T c, T d])) := rfl
theorem lit12 (s : St) : sLit 1 12 [T [], T [], T [], T [], T [], T [], T [], T [], T [], T [], T [], T []] [(0, 1, T [97, 100, 100]), (1, 1, T [115, 117, 98]), (2, 1, T [109, 117, 108]), (3, 1, T [100, 105, 118]), (4, 1, T [114, 101, 109]), (5, 1, T [97, 110, 100]), (6, 1, T [111, 114]), (7, 1, T [120, 111, 114]), (8, 1, T [115, 104, 108]), (9, 1, T [115, 104, 114]), (10, 1, T [101, 113]), (11, 1, T [108, 116])] s = .ok (Sl s.next 0 12 1, s.alloc (.cells (opNames.map T))) := rfl
theorem lit6 (a b c d e f : List UInt8) (s : St) : sLit 1 6 [T [], T [], T [], T [], T [], T []] [(0, 1, T a), (1, 1, T b), (2, 1, T c), (3, 1, T d), (4, 1, T e), (5, 1, T f)] s = .ok (Sl s.next 0 6 1, s.alloc (.cells [T a, T b, T c, T d, T e, T f])) := rfl
variable {K : Ctx} (hF : Fix pgF K)
include hF
omit hF in
theorem app_own {st0 st : St} {v y : Value} {l m : List Value} {n1 : Nat} (hro : st0.ro ≤ st0.next) (hE : Ext st0 st) (h : Own st0.next st 1 v l) (hy : Own n1 st 1 y m) (hc : m.all cellOk = true) (hl : l.length + m.length ≤ 1000000) {R : Type} {Q : R → Prop} {f : Value × St → Res R}
 (k : ∀ v' s', Own st0.next s' 1 v' (l ++ m) → Ext st0 s' → st.next ≤ s'.next → Ok (f (v', s')) Q) : Ok (Res.thn st (sAppend 1 16 v y st) f) Q := by
 obtain ⟨h1, h2⟩ := own_first hy
 obtain ⟨v', s', e, o, E, _, nx⟩ := Own.app (bytes := 16) (m := m.length) hE hro h (by decide) h1 h2 (by simp) hc (by omega)
 rw [e, thn_ok]
 exact k v' s' o E nx
omit hF in
theorem txs_ok (l : List Rd) : (txs l).all cellOk = true := by
 unfold txs
 rw [List.all_eq_true]
 intro v hv
 obtain ⟨p, _, rfl⟩ := List.mem_map.1 hv
 rfl
omit hF in
theorem txs_append (a b : List Rd) : txs (a ++ b) = txs a ++ txs b := List.map_append ..
theorem lab05 {n : Int} (h : fitN n) {st : St} (hro : st.ro ≤ st.next) : Ok (sCall K (.func (.func n_refinerylaw05_Last_1) #[] #[]) [I n] st) fun r => r.1 = T (64 :: Lib.itoa n) ∧ Ext st r.2 := by
 rw [sCall_func]
 refine refinerylaw05_Last_1_of hF fun J hJ => ?_
 rw [refinerylaw05_Last_1_eq]
 refine (num05 hF h hro).call fun s1 E1 => ?_
 have hl := itoa_len h
 have ha := sAdd_T [64] (Lib.itoa n) s1 (by simp; omega)
 simp only [T_bstr, ha, thn_ok]
 exact ⟨_, rfl, rfl, E1⟩
theorem Last05_ok {l : Last} (hl : l.Fit) {st : St} (hro : st.ro ≤ st.next) : Ok (K.go (.call n_refinerylaw05_Last [vL l]) st) fun r => Own st.next r.2 1 r.1 (txs (rdL l)) ∧ Ext st r.2 := by
 refine refinerylaw05_Last_of hF fun J hJ => ?_
 rw [refinerylaw05_Last_eq]
 have E0 : Ext st st.bump := (Ext.refl st).bump
 have r0 := E0.roOk hro
 have fin : ∀ (xs : List Value) (s : St), Ext st s → xs = txs (rdL l) → Ok (Res.ok (Sl s.next 0 xs.length 1, s.alloc (.cells xs))) fun r : Value × St => Own st.next r.2 1 r.1 (txs (rdL l)) ∧ Ext st r.2 := fun xs s hE e => ⟨_, rfl, by rw [← e]; exact own_lit hE.next, hE.alloc _⟩
 have hst : ∀ k (v : Int) b, sStays k b nothing (fun s => Res.ok (I v, s)) (I v) = true := fun k v b => sStays_same (sameVal_int _ _)
 simp only [sLbox_vL, thn_ok, sLref_vL, sField_vL_kind, sField_vL_a, sField_vL_yes, sField_vL_no, sEql, condX_eq]
 by_cases k0 : l.kind = 0
 ·simp only [decide_eq_true k0, cond_true]
  refine (lab05 hF hl.yes r0).call fun s1 E1 => ?_
  simp only [T_bstr, lit2, thn_ok]
  have := fin [T wJump, T (64 :: Lib.itoa l.yes)] s1 (E0.trans E1) (by unfold rdL; rw [if_pos k0]; rfl)
  exact this
 simp only [decide_eq_false k0, cond_false, sEql, thn_ok, condX_eq]
 by_cases k1 : l.kind = 1
 ·simp only [decide_eq_true k1, cond_true, sLref_vL, sField_vL_a, sField_vL_yes, sField_vL_no, thn_ok]
  refine (reg05 hF hl.a r0).call fun s1 E1 => ?_
  have X1 := E0.trans E1
  simp only [hst, Res.need_true, Res.bind_ok, sLref_vL, sField_vL_a, sField_vL_yes, sField_vL_no, thn_ok]
  refine (lab05 hF hl.yes (X1.roOk hro)).call fun s2 E2 => ?_
  have X2 := X1.trans E2
  simp only [hst, Res.need_true, Res.bind_ok, sLref_vL, sField_vL_a, sField_vL_yes, sField_vL_no, thn_ok]
  refine (lab05 hF hl.no (X2.roOk hro)).call fun s3 E3 => ?_
  simp only [T_bstr, lit6, thn_ok]
  have := fin [T wBr, T (37 :: Lib.itoa l.a), T [44], T (64 :: Lib.itoa l.yes), T [44], T (64 :: Lib.itoa l.no)] s3 (X2.trans E3) (by unfold rdL; rw [if_neg k0, if_pos k1]; rfl)
  exact this
 simp only [decide_eq_false k1, cond_false, sEql, thn_ok, condX_eq]
 by_cases k2 : l.kind = 2
 ·simp only [decide_eq_true k2, cond_true, sLref_vL, sField_vL_a, sField_vL_yes, sField_vL_no, thn_ok]
  refine (reg05 hF hl.a r0).call fun s1 E1 => ?_
  simp only [T_bstr, lit2, thn_ok]
  have := fin [T wRet, T (37 :: Lib.itoa l.a)] s1 (E0.trans E1) (by unfold rdL; rw [if_neg k0, if_neg k1, if_pos k2]; rfl)
  exact this
 simp only [decide_eq_false k2, cond_false, refinerylaw05_Last_j0_eq hJ]
 simp only [T_bstr, lit1, thn_ok]
 have := fin [T wTrap] st.bump E0 (by unfold rdL; rw [if_neg k0, if_neg k1, if_neg k2]; rfl)
 exact this
end Go.Proofs.YtdjfndijbnpkpaaDoor.Sh
namespace Go.Proofs.YtdjfndijbnpkpaaDoor.Sh
open Go Go.AM Go.Proofs Go.AM.Lx
variable {K : Ctx} (hF : Fix pgF K)
include hF
theorem Instr05_ok {x : Instr} (hx : x.Fit) {st : St} (hro : st.ro ≤ st.next) : Ok (K.go (.call n_refinerylaw05_Instr [vI x]) st) fun r => Own st.next r.2 1 r.1 (txs (rdI x)) ∧ Ext st r.2 := by
 refine refinerylaw05_Instr_of hF fun J hJ => ?_
 rw [refinerylaw05_Instr_eq]
 have E0 : Ext st st.bump := (Ext.refl st).bump
 have r0 := E0.roOk hro
 have hst : ∀ k (v : Int) b, sStays k b nothing (fun s => Res.ok (I v, s)) (I v) = true := fun k v b => sStays_same (sameVal_int _ _)
 have hstU : ∀ k (v : Int) b, sStays k b nothing (fun s => Res.ok (U v, s)) (U v) = true := fun k v b => sStays_same (sameVal_int _ _)
 generalize hP : (fun r : Value × St => Own st.next r.2 1 r.1 (txs (rdI x)) ∧ Ext st r.2) = Post
 have fin : ∀ (xs : List Value) (s : St), Ext st s → xs = txs (rdI x) → Ok (Res.ok (Sl s.next 0 xs.length 1, s.alloc (.cells xs))) Post := fun xs s hE e => by
  rw [← hP]
  exact ⟨_, rfl, by rw [← e]; exact own_lit hE.next, hE.alloc _⟩
 have app : ∀ (s : St) (v : Value) (xs l : List Value), Ext st s → Own st.next s 1 v l → l.length ≤ 10 → xs.length ≤ 10 → xs.all cellOk = true → l ++ xs = txs (rdI x) →
  Ok (Res.thn (s.alloc (.cells xs)) (sAppend 1 16 v (Sl s.next 0 xs.length 1) (s.alloc (.cells xs))) fun p17 => Res.ok (p17.1, p17.2)) Post := fun s v xs l hE ho h1 h2 hc e =>
  app_own (n1 := st.next) hro (hE.alloc _) (ho.mono ((Ext.refl s).alloc _)) (own_lit hE.next) hc (by omega) fun v' s' o' E' _ => by
   rw [← hP]
   exact ⟨_, rfl, by rw [← e]; exact o', E'⟩
 simp only [sLbox_vI, thn_ok, sLref_vI, sField_vI_dst, T_bstr]
 refine (reg05 hF hx.dst r0).call fun s1 E1 => ?_
 have X1 := E0.trans E1
 have o1 : Own st.next (s1.alloc (.cells [T (37 :: Lib.itoa x.dst), T [61]])) 1 (Sl s1.next 0 2 1) [T (37 :: Lib.itoa x.dst), T [61]] := own_lit X1.next
 have X2 : Ext st (s1.alloc (.cells [T (37 :: Lib.itoa x.dst), T [61]])) := X1.alloc _
 generalize hs2 : s1.alloc (.cells [T (37 :: Lib.itoa x.dst), T [61]]) = s2 at *
 simp only [lit2, hs2, thn_ok, sLref_vI, sField_vI_slot]
 refine (num05 hF hx.slot (X2.roOk hro)).call fun s3 E3 => ?_
 have X3 := X2.trans E3
 have o3 := o1.mono E3
 have ls := itoa_len hx.slot
 have a3 := sAdd_T [36] (Lib.itoa x.slot) s3 (by simp; omega)
 have r3 := X3.roOk hro
 simp only [T_bstr, a3, thn_ok, sLref_vI, sField_vI_kind, sField_vI_n, sField_vI_a, sField_vI_b, sField_vI_op, sEql, condX_eq]
 by_cases k0 : x.kind = 0
 ·simp only [decide_eq_true k0, cond_true]
  refine (num05 hF hx.n r3).call fun s4 E4 => ?_
  simp only [T_bstr, lit1, thn_ok]
  exact app s4 _ [T (Lib.itoa x.n)] _ (X3.trans E4) (o3.mono E4) (by simp) (by simp) rfl (by unfold rdI; rw [if_pos k0]; rfl)
 simp only [decide_eq_false k0, cond_false, sEql, thn_ok, condX_eq]
 by_cases k1 : x.kind = 1
 ·simp only [decide_eq_true k1, cond_true, sLref_vI, sField_vI_a, thn_ok]
  refine (reg05 hF hx.a r3).call fun s4 E4 => ?_
  simp only [T_bstr, lit1, thn_ok]
  exact app s4 _ [T (37 :: Lib.itoa x.a)] _ (X3.trans E4) (o3.mono E4) (by simp) (by simp) rfl (by unfold rdI; rw [if_neg k0, if_pos k1]; rfl)
 simp only [decide_eq_false k1, cond_false, sEql, thn_ok, condX_eq]
 by_cases k2 : x.kind = 2
 ·simp only [decide_eq_true k2, cond_true, sLref_vI, sField_vI_a, thn_ok]
  refine (reg05 hF hx.a r3).call fun s4 E4 => ?_
  simp only [sLref_vI, sField_vI_b, thn_ok, hst, Res.need_true, Res.bind_ok]
  refine (reg05 hF hx.b ((X3.trans E4).roOk hro)).call fun s5 E5 => ?_
  obtain ⟨i, hi, hi1⟩ : ∃ m : Nat, x.op.tmod 12 = m ∧ m < 12 := ⟨(x.op % 12).toNat, by rw [Int.tmod_eq_emod_of_nonneg hx.op.1]; omega, by omega⟩
  have hlen : opNames.length = 12 := rfl
  have X5 := (X3.trans E4).trans E5
  have E6 : Ext s5 (s5.alloc (.cells (opNames.map T))) := (Ext.refl s5).alloc _
  have g6 : (s5.alloc (.cells (opNames.map T))).get s5.next = some (.cells (opNames.map T)) := by rw [get_alloc, if_pos rfl]
  generalize hs6 : s5.alloc (.cells (opNames.map T)) = s6 at *
  have hixa : sIxA 1 none (.slice (some ⟨s5.next, 0, none⟩) 12 1) (U (i : Nat)) s6 = .ok (P s5.next i, s6) := by
   have h1 : (0 : Int) ≤ ((i : Nat) : Int) ∧ ((i : Nat) : Int) < (12 : Nat) := by omega
   simp only [sIxA, index, if_pos h1, decide_true, Res.need_true, Res.bind_ok, Res.pure_eq, Int.toNat_natCast]
   simp
  have hw : opWord x.op = opNames[i]'(by omega) := by
   unfold opWord
   have : (x.op % 12).toNat = i := by rw [Int.tmod_eq_emod_of_nonneg hx.op.1] at hi; omega
   rw [this, List.getD, List.getElem?_eq_getElem (by omega)]
   rfl
  have hld : s6.load1 s5.next i = .ok (T (opWord x.op)) := load1_eq g6 (by rw [List.getElem?_map, List.getElem?_eq_getElem (by omega), hw]; rfl)
  have hsn : ∀ (k : List St) (o : Nat) (f : St → Res (Value × St)) (v : Value), sStays k s5.next (P s5.next o) f v = true := fun k o f v => by
   unfold sStays
   simp [idOf]
  simp only [T_bstr, lit12, hs6, thn_ok, sLref_vI, sField_vI_op, hstU, Res.need_true, Res.bind_ok, sRem _ _ _ (show (12 : Int) ≠ 0 by decide), hi, hixa, sLoad1, hld, hsn, lit4]
  exact app s6 _ [T (opWord x.op), T (37 :: Lib.itoa x.a), T [44], T (37 :: Lib.itoa x.b)] _ (X5.trans E6) (((o3.mono E4).mono E5).mono E6) (by simp) (by simp) rfl (by unfold rdI; rw [if_neg k0, if_neg k1, if_pos k2]; rfl)
 simp only [decide_eq_false k2, cond_false, sEql, thn_ok, condX_eq]
 by_cases k3 : x.kind = 3
 ·simp only [decide_eq_true k3, cond_true, T_bstr, lit1, thn_ok]
  exact app s3 _ [T wIn] _ X3 o3 (by simp) (by simp) rfl (by unfold rdI; rw [if_neg k0, if_neg k1, if_neg k2, if_pos k3]; rfl)
 simp only [decide_eq_false k3, cond_false, sEql, thn_ok, condX_eq]
 by_cases k5 : x.kind = 5
 ·simp only [decide_eq_true k5, cond_true, T_bstr, lit2, thn_ok]
  exact app s3 _ [T wLoad, T (36 :: Lib.itoa x.slot)] _ X3 o3 (by simp) (by simp) rfl (by unfold rdI; rw [if_neg k0, if_neg k1, if_neg k2, if_neg k3, if_pos k5]; rfl)
 simp only [decide_eq_false k5, cond_false, sEql, thn_ok, condX_eq]
 by_cases k7 : x.kind = 7
 ·simp only [decide_eq_true k7, cond_true, sLref_vI, sField_vI_a, thn_ok]
  refine (reg05 hF hx.a r3).call fun s4 E4 => ?_
  simp only [T_bstr, lit2, thn_ok]
  exact app s4 _ [T wGet, T (37 :: Lib.itoa x.a)] _ (X3.trans E4) (o3.mono E4) (by simp) (by simp) rfl (by unfold rdI; rw [if_neg k0, if_neg k1, if_neg k2, if_neg k3, if_neg k5, if_pos k7]; rfl)
 simp only [decide_eq_false k7, cond_false, sEql, thn_ok, condX_eq]
 by_cases k4 : x.kind = 4
 ·simp only [decide_eq_true k4, cond_true, sLref_vI, sField_vI_a, thn_ok]
  refine (reg05 hF hx.a r3).call fun s4 E4 => ?_
  simp only [T_bstr, lit2, thn_ok]
  exact fin [T wOut, T (37 :: Lib.itoa x.a)] s4 (X3.trans E4) (by unfold rdI; rw [if_neg k0, if_neg k1, if_neg k2, if_neg k3, if_neg k5, if_neg k7, if_pos k4]; rfl)
 simp only [decide_eq_false k4, cond_false, sEql, thn_ok, condX_eq]
 by_cases k6 : x.kind = 6
 ·simp only [decide_eq_true k6, cond_true, sLref_vI, sField_vI_a, thn_ok]
  refine (reg05 hF hx.a r3).call fun s4 E4 => ?_
  simp only [T_bstr, lit4, thn_ok]
  exact fin [T wStore, T (36 :: Lib.itoa x.slot), T [44], T (37 :: Lib.itoa x.a)] s4 (X3.trans E4) (by unfold rdI; rw [if_neg k0, if_neg k1, if_neg k2, if_neg k3, if_neg k5, if_neg k7, if_neg k4, if_pos k6]; rfl)
 simp only [decide_eq_false k6, cond_false, refinerylaw05_Instr_j0_eq hJ, sLref_vI, sField_vI_a, thn_ok]
 refine (reg05 hF hx.a r3).call fun s4 E4 => ?_
 simp only [sLref_vI, sField_vI_b, thn_ok, hst, Res.need_true, Res.bind_ok]
 refine (reg05 hF hx.b ((X3.trans E4).roOk hro)).call fun s5 E5 => ?_
 simp only [T_bstr, lit4, thn_ok]
 exact fin [T wPut, T (37 :: Lib.itoa x.a), T [44], T (37 :: Lib.itoa x.b)] s5 ((X3.trans E4).trans E5) (by unfold rdI; rw [if_neg k0, if_neg k1, if_neg k2, if_neg k3, if_neg k5, if_neg k7, if_neg k4, if_neg k6]; rfl)
def rdB (b : Block) : List Rd := [rLab b.label, rSign 58, rLine] ++ (b.instrs.flatMap fun x => rdI x ++ [rLine]) ++ rdL b.last ++ [rLine]
def rdP (p : Prog) : List Rd := p.flatMap rdB
end Go.Proofs.YtdjfndijbnpkpaaDoor.Sh
namespace Go.Proofs.YtdjfndijbnpkpaaDoor.Sh
open Go Go.AM Go.Proofs Go.AM.Lx
def gapW (k : Int) : List UInt8 := if k % 3 = 1 then [32, 32] else [32]
def preW (k : Int) (x : List UInt8) : List UInt8 := if x = [10] ∧ k % 5 = 1 then [32, 35, 32, 116, 114, 97, 112, 32, 64] else if x = [10] ∧ k % 5 = 2 then [10, 32, 32] else []
def gapAt (gs : List Int) (i : Nat) : Int := if gs.length = 0 then 0 else gs.getD (i % gs.length) 0
def textG (gs : List Int) : List Rd → Nat → List UInt8
 | [], _ => []
 | p :: l, i => preW (gapAt gs i) p.1 ++ (p.1 ++ gapW (gapAt gs i)) ++ textG gs l (i + 1)
theorem preW_len (k : Int) (x : List UInt8) : (preW k x).length ≤ 9 := by
 unfold preW
 (repeat' split) <;> simp
theorem gapW_len (k : Int) : (gapW k).length ≤ 2 := by unfold gapW; split <;> simp
theorem textG_snoc (gs : List Int) : ∀ (l : List Rd) (i : Nat) (p : Rd), textG gs (l ++ [p]) i = textG gs l i ++ (preW (gapAt gs (i + l.length)) p.1 ++ (p.1 ++ gapW (gapAt gs (i + l.length)))) := by
 intro l
 induction l with
 | nil => intro i p; simp [textG]
 | cons q l ih =>
   intro i p
   rw [List.cons_append]
   simp only [textG, ih, List.length_cons]
   rw [show i + 1 + l.length = i + (l.length + 1) by omega]
   simp only [List.append_assoc]
theorem textG_len {gs : List Int} : ∀ {l : List Rd} {i : Nat}, (∀ p ∈ l, p.1.length ≤ 21) → (textG gs l i).length ≤ 32 * l.length := by
 intro l
 induction l with
 | nil => intro i _; simp [textG]
 | cons p l ih =>
   intro i h
   have h1 := h p (List.mem_cons_self ..)
   have h2 := ih (i := i + 1) fun q hq => h q (List.mem_cons_of_mem _ hq)
   have h3 := preW_len (gapAt gs i) p.1
   have h4 := gapW_len (gapAt gs i)
   simp only [textG, List.length_append, List.length_cons]
   omega
variable {K : Ctx} (hF : Fix pgF K)
include hF
section
variable {J : JT (Value × St)}
theorem Tokens_l1 (hJ : IsJ K (retK refinerylaw05_Tokens_c.results) J) {A : Nat → Prop} {st0 : St} {v5 v9 v10 v11 vi : Value} {li : List Instr} (hA : ∀ id, A id → id < st0.next) (hi : RSl A st0 7 RInstr vi li) (hfit : ∀ x ∈ li, x.Fit) (hro : st0.ro ≤ st0.next) (hlen : li.length ≤ 100000) {Q : Value × St → Prop} {tot : Nat} (htot : tot ≤ 500000) :
 ∀ (d j : Nat) (v3 : Value) (acc : List Rd) (st : St), j + d = li.length → acc.length + ((li.drop j).flatMap fun x => rdI x ++ [rLine]).length ≤ tot → Own st0.next st 1 v3 (txs acc) → Ext st0 st →
 (∀ v3' st', Own st0.next st' 1 v3' (txs (acc ++ (li.drop j).flatMap fun x => rdI x ++ [rLine])) → Ext st0 st' → Ok (refinerylaw05_Tokens_j3 J v3' v5 v9 v10 v11 st') Q) →
 Ok (refinerylaw05_Tokens_l1 J v3 v5 v9 v10 v11 vi (I li.length) (I j) st) Q := by
 intro d
 induction d with
 | zero =>
   intro j v3 acc st hj ht ho hE hq
   refine refinerylaw05_Tokens_l1_of hF hJ ?_
   rw [refinerylaw05_Tokens_l1_eq]
   have h1 : ¬ (j : Int) < (li.length : Nat) := by omega
   simp only [sLss, decide_eq_false h1, thn_ok, condX_eq, cond_false]
   refine hq v3 st ?_ hE
   rw [List.drop_eq_nil_of_le (by omega)]
   simpa using ho
 | succ d ih =>
   intro j v3 acc st hj ht ho hE hq
   refine refinerylaw05_Tokens_l1_of hF hJ ?_
   rw [refinerylaw05_Tokens_l1_eq]
   have hlt : j < li.length := by omega
   have h1 : (j : Int) < (li.length : Nat) := by omega
   obtain ⟨b, o, cs, k1, k2, hx, -⟩ := hi.at (List.getElem?_eq_getElem hlt)
   have hfx := hfit _ (List.getElem_mem hlt)
   rw [List.drop_eq_getElem_cons hlt, List.flatMap_cons] at ht hq
   generalize li[j] = x at *
   have hx : cs = cI x := hx
   subst hx
   have k2 := k2 st (hE.agree hA)
   have hv : Value.agg (cI x).toArray = vI x := rfl
   have E1 : Ext st st.bump := (Ext.refl st).bump
   have X1 := hE.trans E1
   have hz : ∀ s', sUpd 7 0 (.agg #[U 0, U 0, I 0, I 0, I 0, I 0, I 0]) (vI x) s' = .ok (vI x, s') := fun s' => zI_upd s' x
   simp only [sLss, decide_eq_true h1, thn_ok, condX_eq, cond_true, refinerylaw05_Tokens_j2_eq hJ, k1, sLoadN, k2, Res.bind_ok, hv, sLnew_eq, hz, sField_vI]
   refine (Instr05_ok hF hfx (X1.roOk hro)).thn fun ⟨r1, s2⟩ ⟨e1, e2⟩ => ?_
   simp only at e1 e2 ⊢
   have X2 := X1.trans e2
   simp only [List.length_append, List.length_cons, List.length_nil] at ht
   refine app_own hro X2 ((ho.mono E1).mono e2) e1 (txs_ok _) (by unfold txs; simp; omega) fun v4 s3 o4 E3 n3 => ?_
   have o5 : Own st0.next (s3.alloc (.cells [T [10]])) 1 (Sl s3.next 0 1 1) [T [10]] := own_lit E3.next
   simp only [T_bstr, lit1, thn_ok]
   refine app_own hro (E3.alloc _) (o4.mono ((Ext.refl s3).alloc _)) o5 rfl (by unfold txs; simp; omega) fun v5' s4 o6 E4 n4 => ?_
   have hw : IntKind.i64.wrap ((j : Int) + 1) = ((j + 1 : Nat) : Int) := by rw [wrap_id (by omega)]; omega
   have hacc : txs acc ++ txs (rdI x) ++ [T [10]] = txs (acc ++ (rdI x ++ [rLine])) := by rw [txs_append, txs_append, List.append_assoc]; rfl
   rw [hacc] at o6
   simp only [refinerylaw05_Tokens_j4_eq hJ, sAdd, hw, thn_ok]
   refine ih (j + 1) v5' (acc ++ (rdI x ++ [rLine])) s4 (by omega) (by simp only [List.length_append, List.length_cons, List.length_nil]; omega) o6 E4 fun v6 s5 o7 E5 => hq v6 s5 ?_ E5
   rw [List.append_assoc] at o7
   exact o7
theorem Tokens_l0 (hJ : IsJ K (retK refinerylaw05_Tokens_c.results) J) {A : Nat → Prop} {st0 : St} {vp : Value} {p : Prog} (hA : ∀ id, A id → id < st0.next) (hp : RProg A st0 vp p) (hfit : ∀ b ∈ p, (∀ x ∈ b.instrs, x.Fit) ∧ b.last.Fit ∧ fitN b.label ∧ b.instrs.length ≤ 100000) (hro : st0.ro ≤ st0.next) (hlen : p.length ≤ 100000) {tot : Nat} (htot : tot ≤ 500000) :
 ∀ (d j : Nat) (v3 : Value) (acc : List Rd) (st : St), j + d = p.length → acc.length + (rdP (p.drop j)).length ≤ tot → Own st0.next st 1 v3 (txs acc) → Ext st0 st →
 Ok (refinerylaw05_Tokens_l0 J v3 vp (I p.length) (I j) st) fun r => Own st0.next r.2 1 r.1 (txs (acc ++ rdP (p.drop j))) ∧ Ext st0 r.2 := by
 intro d
 induction d with
 | zero =>
   intro j v3 acc st hj ht ho hE
   refine refinerylaw05_Tokens_l0_of hF hJ ?_
   rw [refinerylaw05_Tokens_l0_eq]
   have h1 : ¬ (j : Int) < (p.length : Nat) := by omega
   simp only [sLss, decide_eq_false h1, thn_ok, condX_eq, cond_false, refinerylaw05_Tokens_j1_eq hJ]
   rw [List.drop_eq_nil_of_le (by omega)]
   exact ⟨_, rfl, by simpa [rdP] using ho, hE⟩
 | succ d ih =>
   intro j v3 acc st hj ht ho hE
   refine refinerylaw05_Tokens_l0_of hF hJ ?_
   rw [refinerylaw05_Tokens_l0_eq]
   have hlt : j < p.length := by omega
   have h1 : (j : Int) < (p.length : Nat) := by omega
   obtain ⟨b, o, cs, k1, k2, ⟨vph, vi, rfl, q1, q2⟩, -⟩ := RSl.at hp (List.getElem?_eq_getElem hlt)
   obtain ⟨f1, f2, f3, f4⟩ := hfit _ (List.getElem_mem hlt)
   have hrd : rdP (p.drop j) = rdB p[j] ++ rdP (p.drop (j + 1)) := by unfold rdP; rw [List.drop_eq_getElem_cons hlt, List.flatMap_cons]
   rw [hrd] at ht ⊢
   generalize p[j] = blk at *
   have k2 := k2 st (hE.agree hA)
   have hv : Value.agg [I blk.label, vph, vi, U blk.last.kind, I blk.last.a, I blk.last.yes, I blk.last.no].toArray = vB blk.label vph vi blk.last := rfl
   have E1 : Ext st st.bump := (Ext.refl st).bump
   have X1 := hE.trans E1
   have hz : ∀ s', sUpd 7 0 (.agg #[I 0, .slice none 0 0, .slice none 0 0, U 0, I 0, I 0, I 0]) (vB blk.label vph vi blk.last) s' = .ok (vB blk.label vph vi blk.last, s') := fun s' => by simp [vB, Res.need, q1.cell, q2.cell]
   simp only [sLss, decide_eq_true h1, thn_ok, condX_eq, cond_true, refinerylaw05_Tokens_j0_eq hJ, k1, sLoadN, k2, Res.bind_ok, hv, sLnew_eq, hz, sLref_vB, sField_vB0]
   refine (num05 hF f3 (X1.roOk hro)).call fun s2 E2 => ?_
   have X2 := X1.trans E2
   have ll := itoa_len f3
   have a2 := sAdd_T [64] (Lib.itoa blk.label) s2 (by simp; omega)
   have hlb : (rdB blk).length = 3 + (blk.instrs.flatMap fun x => rdI x ++ [rLine]).length + (rdL blk.last).length + 1 := by simp [rdB]; omega
   rw [List.length_append, hlb] at ht
   have o3 : Own st0.next (s2.alloc (.cells [T (64 :: Lib.itoa blk.label), T [58], T [10]])) 1 (Sl s2.next 0 3 1) [T (64 :: Lib.itoa blk.label), T [58], T [10]] := own_lit X2.next
   simp only [T_bstr, a2, thn_ok, lit3]
   refine app_own hro (X2.alloc _) (((ho.mono E1).mono E2).mono ((Ext.refl s2).alloc _)) o3 rfl (by unfold txs; simp; omega) fun v4 s3 o4 E3 n3 => ?_
   have hacc : txs acc ++ [T (64 :: Lib.itoa blk.label), T [58], T [10]] = txs (acc ++ [rLab blk.label, rSign 58, rLine]) := by rw [txs_append]; rfl
   rw [hacc] at o4
   have hl2 : ∀ s', sLen .slice vi s' = .ok (I blk.instrs.length, s') := q2.len
   simp only [sLref_vB, thn_ok, sField_vB2, hl2]
   refine Tokens_l1 hF hJ hA q2 f1 hro f4 htot blk.instrs.length 0 v4 (acc ++ [rLab blk.label, rSign 58, rLine]) s3 (by omega) (by simp only [List.drop_zero, List.length_append, List.length_cons, List.length_nil]; omega) o4 E3 fun v5 s4 o5 E4 => ?_
   simp only [List.drop_zero] at o5
   simp only [refinerylaw05_Tokens_j3_eq hJ, sLref_vB, thn_ok, sField_vB3]
   refine (Last05_ok hF f2 (E4.roOk hro)).thn fun ⟨r1, s5⟩ ⟨e1, e2⟩ => ?_
   simp only at e1 e2 ⊢
   have X5 := E4.trans e2
   refine app_own hro X5 (o5.mono e2) e1 (txs_ok _) (by unfold txs; simp only [List.length_map, List.length_append, List.length_cons, List.length_nil]; omega) fun v6 s6 o6 E6 n6 => ?_
   have o7 : Own st0.next (s6.alloc (.cells [T [10]])) 1 (Sl s6.next 0 1 1) [T [10]] := own_lit E6.next
   simp only [T_bstr, lit1, thn_ok]
   refine app_own hro (E6.alloc _) (o6.mono ((Ext.refl s6).alloc _)) o7 rfl (by unfold txs; simp only [List.length_map, List.length_append, List.length_cons, List.length_nil]; omega) fun v8 s8 o8 E8 n8 => ?_
   have hw : IntKind.i64.wrap ((j : Int) + 1) = ((j + 1 : Nat) : Int) := by rw [wrap_id (by omega)]; omega
   have hacc2 : txs (acc ++ [rLab blk.label, rSign 58, rLine] ++ (blk.instrs.flatMap fun x => rdI x ++ [rLine])) ++ txs (rdL blk.last) ++ [T [10]] = txs (acc ++ rdB blk) := by
    unfold rdB
    simp only [txs_append, List.append_assoc]
    rfl
   rw [hacc2] at o8
   simp only [refinerylaw05_Tokens_j5_eq hJ, sAdd, hw, thn_ok]
   have := ih (j + 1) v8 (acc ++ rdB blk) s8 (by omega) (by rw [List.length_append, hlb]; omega) o8 E8
   rw [List.append_assoc] at this
   exact this
theorem Tokens_ok {A : Nat → Prop} {st : St} {vp : Value} {p : Prog} (hA : ∀ id, A id → id < st.next) (hp : RProg A st vp p) (hfit : ∀ b ∈ p, (∀ x ∈ b.instrs, x.Fit) ∧ b.last.Fit ∧ fitN b.label ∧ b.instrs.length ≤ 100000) (hro : st.ro ≤ st.next) (hlen : p.length ≤ 100000) (htot : (rdP p).length ≤ 500000) :
 Ok (K.go (.call n_refinerylaw05_Tokens [.agg #[vp]]) st) fun r => ∃ n0, st.next ≤ n0 ∧ Own n0 r.2 1 r.1 (txs (rdP p)) ∧ Ext st r.2 := by
 refine refinerylaw05_Tokens_of hF fun J hJ => ?_
 rw [refinerylaw05_Tokens_eq]
 have E1 : Ext st st.bump := (Ext.refl st).bump
 have hb : sLbox (.agg #[vp]) st = .ok (.agg #[vp], st.bump) := rfl
 have h0 : ∀ s', sLref (.agg #[vp]) s' = .ok (nothing, s') := fun s' => rfl
 have h1 : ∀ s', sField none 0 (.agg #[vp]) s' = .ok (vp, s') := fun s' => rfl
 have hA' : ∀ id, A id → id < st.bump.next := fun id h => Nat.lt_of_lt_of_le (hA id h) E1.next
 simp only [hb, thn_ok, h0, h1, RSl.len hp]
 have := Tokens_l0 hF hJ hA' (hp.mono (E1.agree hA)) hfit (E1.roOk hro) hlen htot p.length 0 (.slice none 0 0) [] st.bump (by omega) (by simp) (Own.nil _ _ _ _) (.refl _)
 refine this.mono fun r ⟨e1, e2⟩ => ⟨st.bump.next, E1.next, by simpa using e1, E1.trans e2⟩
end
end Go.Proofs.YtdjfndijbnpkpaaDoor.Sh
namespace Go.Proofs.YtdjfndijbnpkpaaDoor.Sh
open Go Go.AM Go.Proofs Go.AM.Lx
variable {K : Ctx} (hF : Fix pgF K)
include hF
theorem Text_loop {J : JT (Value × St)} (hJ : IsJ K (retK refinerylaw05_Text_c.results) J) {A A' : Nat → Prop} {st0 : St} {v1 v9 : Value} {l : List Rd} {gs : List Int} (hA : ∀ id, A id → id < st0.next) (hA' : ∀ id, A' id → id < st0.next) (hl : RSl A st0 1 (fun cs p => cs = [T p.1]) v9 l) (hg : RSl A' st0 1 (fun cs n => cs = [U n]) v1 gs) (hgb : ∀ n ∈ gs, 0 ≤ n ∧ n ≤ 255) (hro : st0.ro ≤ st0.next) (hx : ∀ p ∈ l, p.1.length ≤ 21) (hlen : l.length ≤ 500000) (hgl : gs.length ≤ 500000) :
 ∀ (d j : Nat) (st : St), j + d = l.length → Ext st0 st → Ok (refinerylaw05_Text_l0 J v1 (T (textG gs (l.take j) 0)) v9 (I l.length) (I j) st) fun r => r.1 = T (textG gs l 0) ∧ Ext st0 r.2 := by
 intro d
 induction d with
 | zero =>
   intro j st hj hE
   refine refinerylaw05_Text_l0_of hF hJ ?_
   rw [refinerylaw05_Text_l0_eq]
   have h1 : ¬ (j : Int) < (l.length : Nat) := by omega
   simp only [sLss, decide_eq_false h1, thn_ok, condX_eq, cond_false, refinerylaw05_Text_j1_eq hJ]
   rw [List.take_of_length_le (by omega)]
   exact ⟨_, rfl, rfl, hE⟩
 | succ d ih =>
   intro j st hj hE
   refine refinerylaw05_Text_l0_of hF hJ ?_
   rw [refinerylaw05_Text_l0_eq]
   have hlt : j < l.length := by omega
   have h1 : (j : Int) < (l.length : Nat) := by omega
   obtain ⟨b, o, k1, k2, _⟩ := RSl.at1 (f := fun p : Rd => T p.1) hl (List.getElem?_eq_getElem hlt)
   have htake : l.take (j + 1) = l.take j ++ [l[j]] := List.take_succ_eq_append_getElem hlt
   have hxl := hx _ (List.getElem_mem hlt)
   have hjl : (l.take j).length = j := by rw [List.length_take]; omega
   have hs : (textG gs (l.take j) 0).length ≤ 32 * j := by
    have := textG_len (gs := gs) (l := l.take j) (i := 0) fun p hp => hx p (List.mem_of_mem_take hp)
    rw [hjl] at this
    exact this
   generalize l[j] = p at *
   have k2 := k2 st (hE.agree hA)
   have hnext : textG gs (l.take (j + 1)) 0 = textG gs (l.take j) 0 ++ preW (gapAt gs j) p.1 ++ (p.1 ++ gapW (gapAt gs j)) := by
    rw [htake, textG_snoc, hjl, Nat.zero_add]
    simp only [List.append_assoc]
   have hkb : 0 ≤ gapAt gs j ∧ gapAt gs j ≤ 255 := by
    unfold gapAt
    split
    ·omega
    ·rename_i h
     have hm : j % gs.length < gs.length := Nat.mod_lt _ (by omega)
     rw [List.getD, List.getElem?_eq_getElem hm]
     exact hgb _ (List.getElem_mem hm)
   have key : Ok (refinerylaw05_Text_j2 J v1 (T (textG gs (l.take j) 0)) (T p.1) (U (gapAt gs j)) v9 (I l.length) (I j) st) fun r => r.1 = T (textG gs l 0) ∧ Ext st0 r.2 := by
    generalize hk : gapAt gs j = k at *
    have m5 : k.tmod 5 = k % 5 := Int.tmod_eq_emod_of_nonneg hkb.1
    have hpw := preW_len k p.1
    have hgw := gapW_len k
    have rest : Ok (refinerylaw05_Text_j3 J v1 (T (textG gs (l.take j) 0 ++ preW k p.1)) (T p.1) (U k) v9 (I l.length) (I j) st) fun r => r.1 = T (textG gs l 0) ∧ Ext st0 r.2 := by
     rw [refinerylaw05_Text_j3_eq hJ]
     obtain ⟨i, hi, hi1⟩ : ∃ m : Nat, k.tmod 3 = m ∧ m < 3 := ⟨(k % 3).toNat, by rw [Int.tmod_eq_emod_of_nonneg hkb.1]; omega, by omega⟩
     have E2 : Ext st (st.alloc (.cells [T [32], T [32, 32], T [32]])) := (Ext.refl st).alloc _
     have g2 : (st.alloc (.cells [T [32], T [32, 32], T [32]])).get st.next = some (.cells [T [32], T [32, 32], T [32]]) := by rw [get_alloc, if_pos rfl]
     generalize hs2 : st.alloc (.cells [T [32], T [32, 32], T [32]]) = s2 at *
     have hixa : sIxA 1 none (.slice (some ⟨st.next, 0, none⟩) 3 1) (U (i : Nat)) s2 = .ok (P st.next i, s2) := by
      have h1 : (0 : Int) ≤ ((i : Nat) : Int) ∧ ((i : Nat) : Int) < (3 : Nat) := by omega
      simp only [sIxA, index, if_pos h1, decide_true, Res.need_true, Res.bind_ok, Res.pure_eq, Int.toNat_natCast]
      simp
     have hgap : [T [32], T [32, 32], T [32]][i]? = some (T (gapW k)) := by
      rw [Int.tmod_eq_emod_of_nonneg hkb.1] at hi
      unfold gapW
      rcases (show i = 0 ∨ i = 1 ∨ i = 2 by omega) with rfl | rfl | rfl
      ·rw [if_neg (by omega)]; rfl
      ·rw [if_pos (by omega)]; rfl
      ·rw [if_neg (by omega)]; rfl
     have hld : s2.load1 st.next i = .ok (T (gapW k)) := load1_eq g2 hgap
     have a1 := sAdd_T p.1 (gapW k) s2 (by omega)
     have a2 := sAdd_T (textG gs (l.take j) 0 ++ preW k p.1) (p.1 ++ gapW k) s2 (by simp only [List.length_append]; omega)
     have hw : IntKind.i64.wrap ((j : Int) + 1) = ((j + 1 : Nat) : Int) := by rw [wrap_id (by omega)]; omega
     simp only [T_bstr, lit3, hs2, thn_ok, sRem _ _ _ (show (3 : Int) ≠ 0 by decide), hi, hixa, sLoad1, hld, Res.bind_ok, a1, a2, refinerylaw05_Text_j4_eq hJ, sAdd, hw]
     rw [← hnext]
     exact ih (j + 1) s2 (by omega) (hE.trans E2)
    rw [refinerylaw05_Text_j2_eq hJ]
    by_cases c1 : p.1 = [10]
    ·by_cases c2 : k % 5 = 1
     ·have e : preW k p.1 = [32, 35, 32, 116, 114, 97, 112, 32, 64] := by unfold preW; rw [if_pos ⟨c1, c2⟩]
      have a1 := sAdd_T (textG gs (l.take j) 0) [32, 35, 32, 116, 114, 97, 112, 32, 64] st (by simp; omega)
      rw [e] at rest
      simp only [T_bstr, sEql_T, decide_eq_true c1, sG_eq, beq_self_eq_true, cond_true, thn_ok, sRem _ _ _ (show (5 : Int) ≠ 0 by decide), m5, sEql, decide_eq_true c2, sPick_eq, if_true, condX_eq, a1]
      exact rest
     ·by_cases c3 : k % 5 = 2
      ·have e : preW k p.1 = [10, 32, 32] := by unfold preW; rw [if_neg (fun h => c2 h.2), if_pos ⟨c1, c3⟩]
       have a1 := sAdd_T (textG gs (l.take j) 0) [10, 32, 32] st (by simp; omega)
       rw [e] at rest
       simp only [T_bstr, sEql_T, decide_eq_true c1, sG_eq, beq_self_eq_true, cond_true, cond_false, thn_ok, sRem _ _ _ (show (5 : Int) ≠ 0 by decide), m5, sEql, decide_eq_false c2, decide_eq_true c3, sPick_eq, if_true, condX_eq, a1]
       exact rest
      ·have e : preW k p.1 = [] := by unfold preW; rw [if_neg (fun h => c2 h.2), if_neg (fun h => c3 h.2)]
       rw [e, List.append_nil] at rest
       simp only [T_bstr, sEql_T, decide_eq_true c1, sG_eq, beq_self_eq_true, cond_true, cond_false, thn_ok, sRem _ _ _ (show (5 : Int) ≠ 0 by decide), m5, sEql, decide_eq_false c2, decide_eq_false c3, sPick_eq, if_true, condX_eq]
       exact rest
    ·have e : preW k p.1 = [] := by unfold preW; rw [if_neg (fun h => c1 h.1), if_neg (fun h => c1 h.1)]
     rw [e, List.append_nil] at rest
     simp only [T_bstr, sEql_T, decide_eq_false c1, sG_eq, show (false == true) = false from rfl, cond_false, thn_ok, sG_skip, sPick_eq, Bool.false_eq_true, if_false, condX_eq]
     exact rest
   have hgl2 : ∀ s', sLen .slice v1 s' = .ok (I gs.length, s') := RSl.len hg
   simp only [sLss, decide_eq_true h1, thn_ok, condX_eq, cond_true, refinerylaw05_Text_j0_eq hJ, k1, sLoad1, k2, Res.bind_ok, hgl2, sGtr]
   by_cases c : gs.length = 0
   ·have c' : ¬ (0 : Int) < (gs.length : Nat) := by omega
    have e : gapAt gs j = 0 := by unfold gapAt; rw [if_pos c]
    rw [e] at key
    simp only [decide_eq_false c', cond_false]
    exact key
   ·have c' : (0 : Int) < (gs.length : Nat) := by omega
    have hne : ((gs.length : Nat) : Int) ≠ 0 := by omega
    have hm : j % gs.length < gs.length := Nat.mod_lt _ (by omega)
    have hmod : (j : Int).tmod (gs.length : Nat) = ((j % gs.length : Nat) : Int) := by rw [Int.tmod_eq_emod_of_nonneg (by omega)]; omega
    obtain ⟨b2, o2, g1, g2, _⟩ := RSl.at1 (f := fun n : Int => U n) hg (List.getElem?_eq_getElem hm)
    have e : gapAt gs j = gs[j % gs.length] := by unfold gapAt; rw [if_neg c, List.getD, List.getElem?_eq_getElem hm]; rfl
    have g2 := g2 st (hE.agree hA')
    rw [← e] at g2
    simp only [decide_eq_true c', cond_true, sRem _ _ _ hne, hmod, g1, g2, thn_ok, sLoad1, Res.bind_ok]
    exact key
theorem Text_ok {A A' : Nat → Prop} {st : St} {v1 v9 : Value} {l : List Rd} {gs : List Int} (hA : ∀ id, A id → id < st.next) (hA' : ∀ id, A' id → id < st.next) (hl : RSl A st 1 (fun cs p => cs = [T p.1]) v9 l) (hg : RSl A' st 1 (fun cs n => cs = [U n]) v1 gs) (hgb : ∀ n ∈ gs, 0 ≤ n ∧ n ≤ 255) (hro : st.ro ≤ st.next) (hx : ∀ p ∈ l, p.1.length ≤ 21) (hlen : l.length ≤ 500000) (hgl : gs.length ≤ 500000) :
 Ok (K.go (.call n_refinerylaw05_Text [v9, v1]) st) fun r => r.1 = T (textG gs l 0) ∧ Ext st r.2 := by
 refine refinerylaw05_Text_of hF fun J hJ => ?_
 rw [refinerylaw05_Text_eq]
 simp only [RSl.len hl, thn_ok, T_bstr]
 exact Text_loop hF hJ hA hA' hl hg hgb hro hx hlen hgl l.length 0 st (by omega) (.refl _)
end Go.Proofs.YtdjfndijbnpkpaaDoor.Sh
