/-
  Chapter 5's own functions: Instr, Last: the tokens of an instruction, of an end.
-/
import Derived.Test.YtdjfndijbnpkpaaDoorPa7
import Derived.Test.YtdjfndijbnpkpaaDoorShB
set_option linter.unusedVariables false
set_option linter.unusedSimpArgs false
set_option linter.unusedSectionVars false
set_option maxRecDepth 100000
namespace Go.Proofs.YtdjfndijbnpkpaaDoor.Sh
open Go Go.AM Go.Proofs Go.AM.Lx

/-! tokens: their texts, and what is read of them -/
abbrev Rd := List UInt8 × Tok
def rReg (n : Int) : Rd := (37 :: Lib.itoa n, ⟨2, 0, [], n⟩)
def rLab (n : Int) : Rd := (64 :: Lib.itoa n, ⟨3, 0, [], n⟩)
def rSlot (n : Int) : Rd := (36 :: Lib.itoa n, ⟨4, 0, [], n⟩)
def rNum (n : Int) : Rd := (Lib.itoa n, ⟨5, 0, [], n⟩)
def rSign (c : UInt8) : Rd := ([c], ⟨6, 0, [c], 0⟩)
def rWord (w : List UInt8) : Rd := (w, ⟨1, 0, w, 0⟩)
def rLine : Rd := ([10], ⟨7, 0, [], 0⟩)
def opWord (o : Int) : List UInt8 := opNames.getD (o % 12).toNat []
def rdI (x : Instr) : List Rd :=
  if x.kind = 0 then [rReg x.dst, rSign 61, rNum x.n]
  else if x.kind = 1 then [rReg x.dst, rSign 61, rReg x.a]
  else if x.kind = 2 then [rReg x.dst, rSign 61, rWord (opWord x.op), rReg x.a, rSign 44, rReg x.b]
  else if x.kind = 3 then [rReg x.dst, rSign 61, rWord wIn]
  else if x.kind = 5 then [rReg x.dst, rSign 61, rWord wLoad, rSlot x.slot]
  else if x.kind = 7 then [rReg x.dst, rSign 61, rWord wGet, rReg x.a]
  else if x.kind = 4 then [rWord wOut, rReg x.a]
  else if x.kind = 6 then [rWord wStore, rSlot x.slot, rSign 44, rReg x.a]
  else [rWord wPut, rReg x.a, rSign 44, rReg x.b]
def rdL (l : Last) : List Rd :=
  if l.kind = 0 then [rWord wJump, rLab l.yes]
  else if l.kind = 1 then [rWord wBr, rReg l.a, rSign 44, rLab l.yes, rSign 44, rLab l.no]
  else if l.kind = 2 then [rWord wRet, rReg l.a]
  else [rWord wTrap]
def txs (l : List Rd) : List Value := l.map fun p => T p.1

/-- Numbers that may be printed. -/
def fitN (n : Int) : Prop := -9223372036854775808 ≤ n ∧ n ≤ 9223372036854775807
structure Instr.Fit (x : Instr) : Prop where
  dst : fitN x.dst
  a : fitN x.a
  b : fitN x.b
  n : fitN x.n
  slot : fitN x.slot
  op : 0 ≤ x.op ∧ x.op ≤ 255
structure Last.Fit (l : Last) : Prop where
  a : fitN l.a
  yes : fitN l.yes
  no : fitN l.no

/-- A literal of texts. -/
theorem own_lit {n0 : Nat} {st : St} {xs : List Value} (hn : n0 ≤ st.next) : Own n0 (st.alloc (.cells xs)) 1 (Sl st.next 0 xs.length 1) xs := .inr ⟨st.next, xs.length, rfl, by simp, by rw [get_alloc, if_pos rfl], hn, Nat.lt_succ_self _⟩
theorem own_first {n0 : Nat} {st : St} {v : Value} {cs : List Value} (h : Own n0 st 1 v cs) : lenL v = .ok cs.length ∧ firstL st 1 cs.length v = .ok cs := by
  rcases h with ⟨rfl, c, rfl⟩ | ⟨b, n, rfl, h2, h3, h4, h5⟩
  · exact ⟨rfl, rfl⟩
  · have : n = cs.length := by omega
    subst this
    refine ⟨rfl, ?_⟩
    simp only [firstL, decide_true, Res.need_true, Res.bind_ok, loadN_def, h3]
    rw [need_dec (by simp)]
    simp

theorem lit1 (a : List UInt8) (s : St) : sLit 1 1 [T []] [(0, 1, T a)] s = .ok (Sl s.next 0 1 1, s.alloc (.cells [T a])) := rfl
theorem lit2 (a b : List UInt8) (s : St) : sLit 1 2 [T [], T []] [(0, 1, T a), (1, 1, T b)] s = .ok (Sl s.next 0 2 1, s.alloc (.cells [T a, T b])) := rfl
theorem lit3 (a b c : List UInt8) (s : St) : sLit 1 3 [T [], T [], T []] [(0, 1, T a), (1, 1, T b), (2, 1, T c)] s = .ok (Sl s.next 0 3 1, s.alloc (.cells [T a, T b, T c])) := rfl
theorem lit4 (a b c d : List UInt8) (s : St) : sLit 1 4 [T [], T [], T [], T []] [(0, 1, T a), (1, 1, T b), (2, 1, T c), (3, 1, T d)] s = .ok (Sl s.next 0 4 1, s.alloc (.cells [T a, T b, T c, T d])) := rfl
theorem lit12 (s : St) : sLit 1 12 [T [], T [], T [], T [], T [], T [], T [], T [], T [], T [], T [], T []] [(0, 1, T [97, 100, 100]), (1, 1, T [115, 117, 98]), (2, 1, T [109, 117, 108]), (3, 1, T [100, 105, 118]), (4, 1, T [114, 101, 109]), (5, 1, T [97, 110, 100]), (6, 1, T [111, 114]), (7, 1, T [120, 111, 114]), (8, 1, T [115, 104, 108]), (9, 1, T [115, 104, 114]), (10, 1, T [101, 113]), (11, 1, T [108, 116])] s = .ok (Sl s.next 0 12 1, s.alloc (.cells (opNames.map T))) := rfl

theorem lit6 (a b c d e f : List UInt8) (s : St) : sLit 1 6 [T [], T [], T [], T [], T [], T []] [(0, 1, T a), (1, 1, T b), (2, 1, T c), (3, 1, T d), (4, 1, T e), (5, 1, T f)] s = .ok (Sl s.next 0 6 1, s.alloc (.cells [T a, T b, T c, T d, T e, T f])) := rfl

variable {K : Ctx} (hF : Fix pgF K)
include hF

omit hF in
/-- More texts behind others. -/
theorem app_own {st0 st : St} {v y : Value} {l m : List Value} {n1 : Nat} (hro : st0.ro ≤ st0.next) (hE : Ext st0 st) (h : Own st0.next st 1 v l) (hy : Own n1 st 1 y m) (hc : m.all cellOk = true) (hl : l.length + m.length ≤ 1000000) {R : Type} {Q : R → Prop} {f : Value × St → Res R}
    (k : ∀ v' s', Own st0.next s' 1 v' (l ++ m) → Ext st0 s' → st.next ≤ s'.next → Ok (f (v', s')) Q) : Ok (Res.thn st (sAppend 1 16 v y st) f) Q := by
  obtain ⟨h1, h2⟩ := own_first hy
  obtain ⟨v', s', e, o, E, _, nx⟩ := Own.app (bytes := 16) (m := m.length) hE hro h (by decide) h1 h2 (by simp) hc (by omega)
  rw [e, thn_ok]
  exact k v' s' o E nx
omit hF in
theorem txs_ok (l : List Rd) : (txs l).all cellOk = true := by
  unfold txs
  rw [List.all_eq_true]
  intro v hv
  obtain ⟨p, _, rfl⟩ := List.mem_map.1 hv
  rfl
omit hF in
theorem txs_append (a b : List Rd) : txs (a ++ b) = txs a ++ txs b := List.map_append ..

theorem lab05 {n : Int} (h : fitN n) {st : St} (hro : st.ro ≤ st.next) : Ok (sCall K (.func (.func n_refinerylaw05_Last_1) #[] #[]) [I n] st) fun r => r.1 = T (64 :: Lib.itoa n) ∧ Ext st r.2 := by
  rw [sCall_func]
  refine refinerylaw05_Last_1_of hF fun J hJ => ?_
  rw [refinerylaw05_Last_1_eq]
  refine (num05 hF h hro).call fun s1 E1 => ?_
  have hl := itoa_len h
  have ha := sAdd_T [64] (Lib.itoa n) s1 (by simp; omega)
  simp only [T_bstr, ha, thn_ok]
  exact ⟨_, rfl, rfl, E1⟩

theorem Last05_ok {l : Last} (hl : l.Fit) {st : St} (hro : st.ro ≤ st.next) : Ok (K.go (.call n_refinerylaw05_Last [vL l]) st) fun r => Own st.next r.2 1 r.1 (txs (rdL l)) ∧ Ext st r.2 := by
  refine refinerylaw05_Last_of hF fun J hJ => ?_
  rw [refinerylaw05_Last_eq]
  have E0 : Ext st st.bump := (Ext.refl st).bump
  have r0 := E0.roOk hro
  have fin : ∀ (xs : List Value) (s : St), Ext st s → xs = txs (rdL l) → Ok (Res.ok (Sl s.next 0 xs.length 1, s.alloc (.cells xs))) fun r : Value × St => Own st.next r.2 1 r.1 (txs (rdL l)) ∧ Ext st r.2 := fun xs s hE e => ⟨_, rfl, by rw [← e]; exact own_lit hE.next, hE.alloc _⟩
  have hst : ∀ k (v : Int) b, sStays k b nothing (fun s => Res.ok (I v, s)) (I v) = true := fun k v b => sStays_same (sameVal_int _ _)
  simp only [sLbox_vL, thn_ok, sLref_vL, sField_vL_kind, sField_vL_a, sField_vL_yes, sField_vL_no, sEql, condX_eq]
  by_cases k0 : l.kind = 0
  · simp only [decide_eq_true k0, cond_true]
    refine (lab05 hF hl.yes r0).call fun s1 E1 => ?_
    simp only [T_bstr, lit2, thn_ok]
    have := fin [T wJump, T (64 :: Lib.itoa l.yes)] s1 (E0.trans E1) (by unfold rdL; rw [if_pos k0]; rfl)
    exact this
  simp only [decide_eq_false k0, cond_false, sEql, thn_ok, condX_eq]
  by_cases k1 : l.kind = 1
  · simp only [decide_eq_true k1, cond_true, sLref_vL, sField_vL_a, sField_vL_yes, sField_vL_no, thn_ok]
    refine (reg05 hF hl.a r0).call fun s1 E1 => ?_
    have X1 := E0.trans E1
    simp only [hst, Res.need_true, Res.bind_ok, sLref_vL, sField_vL_a, sField_vL_yes, sField_vL_no, thn_ok]
    refine (lab05 hF hl.yes (X1.roOk hro)).call fun s2 E2 => ?_
    have X2 := X1.trans E2
    simp only [hst, Res.need_true, Res.bind_ok, sLref_vL, sField_vL_a, sField_vL_yes, sField_vL_no, thn_ok]
    refine (lab05 hF hl.no (X2.roOk hro)).call fun s3 E3 => ?_
    simp only [T_bstr, lit6, thn_ok]
    have := fin [T wBr, T (37 :: Lib.itoa l.a), T [44], T (64 :: Lib.itoa l.yes), T [44], T (64 :: Lib.itoa l.no)] s3 (X2.trans E3) (by unfold rdL; rw [if_neg k0, if_pos k1]; rfl)
    exact this
  simp only [decide_eq_false k1, cond_false, sEql, thn_ok, condX_eq]
  by_cases k2 : l.kind = 2
  · simp only [decide_eq_true k2, cond_true, sLref_vL, sField_vL_a, sField_vL_yes, sField_vL_no, thn_ok]
    refine (reg05 hF hl.a r0).call fun s1 E1 => ?_
    simp only [T_bstr, lit2, thn_ok]
    have := fin [T wRet, T (37 :: Lib.itoa l.a)] s1 (E0.trans E1) (by unfold rdL; rw [if_neg k0, if_neg k1, if_pos k2]; rfl)
    exact this
  simp only [decide_eq_false k2, cond_false, refinerylaw05_Last_j0_eq hJ]
  simp only [T_bstr, lit1, thn_ok]
  have := fin [T wTrap] st.bump E0 (by unfold rdL; rw [if_neg k0, if_neg k1, if_neg k2]; rfl)
  exact this
end Go.Proofs.YtdjfndijbnpkpaaDoor.Sh

