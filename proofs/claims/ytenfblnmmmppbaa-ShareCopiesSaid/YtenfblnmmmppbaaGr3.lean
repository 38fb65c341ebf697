/-
  The tree of a graph of one place: Of.
-/
import Derived.Test.YtenfblnmmmppbaaGr2
set_option linter.unusedVariables false
set_option linter.unusedSimpArgs false
set_option linter.unusedSectionVars false
set_option maxRecDepth 100000
namespace Go.Proofs.Ytenfblnmmmppbaa.Sh
open Go Go.AM Go.Proofs

variable {K : Ctx} (hF : Fix pgF K)
include hF

theorem Tree_ok {ub vb : Nat} {st : St} (hu : st.get ub = some (.cells [I (-1)])) (hv : st.get vb = some (.cells [I 0])) (hul : ub < st.next) (hvl : vb < st.next) (hro : st.ro ≤ st.next) :
    Ok (K.go (.call n_dom_tree [Sl ub 0 1 1, Sl vb 0 1 1]) st) fun r => ∃ lb db, r.1 = .agg #[Sl ub 0 1 1, Sl lb 0 1 1, Sl db 0 1 1] ∧ r.2.get lb = some (.cells [.slice none 0 0]) ∧ lb < r.2.next ∧ Ext st r.2 := by
  generalize hQ : (fun r : Value × St => ∃ lb db, r.1 = .agg #[Sl ub 0 1 1, Sl lb 0 1 1, Sl db 0 1 1] ∧ r.2.get lb = some (.cells [.slice none 0 0]) ∧ lb < r.2.next ∧ Ext st r.2) = Q
  refine dom_tree_of hF fun J hJ => ?_
  rw [dom_tree_eq]
  generalize hs1 : st.bump.alloc (.cells [I (-1)]) = s1
  have hli : sLit 1 1 [I 0] [(0, 1, I (-1))] st.bump = .ok (Sl (st.next + 1) 0 1 1, s1) := by rw [← hs1]; rfl
  have n1 : s1.next = st.next + 2 := by rw [← hs1]; rfl
  have g1 : s1.get (st.next + 1) = some (.cells [I (-1)]) := by rw [← hs1, get_alloc, if_pos (by rfl)]
  have E1 : Ext st s1 := by rw [← hs1]; simp
  clear hs1
  have hro1 := E1.roOk hro
  simp [-sLen_slice, -sLit1, hli, len1]
  refine (Repeat1_ok hF (x := -1) g1 (by omega) hro1).thn fun ⟨r1, s2⟩ ⟨db, e1, e2, e3, e4, hE2⟩ => ?_
  simp only at e1 e2 e3 e4 hE2 ⊢
  subst e1
  have E2 := E1.trans hE2
  have hbu : ∀ a b c s, sBuild [.slice none 0 0, .slice none 0 0, .slice none 0 0] [(0, 1, Sl a 0 1 1), (1, 1, Sl b 0 1 1), (2, 1, Sl c 0 1 1)] s = .ok (.agg #[Sl a 0 1 1, Sl b 0 1 1, Sl c 0 1 1], s) := fun a b c s => rfl
  have hmk := mk1 s2
  generalize hs3 : (s2.alloc (.cells [.slice none 0 0])) = s3 at hmk
  have n3 : s3.next = s2.next + 1 := by rw [← hs3]; rfl
  have g3 : s3.get s2.next = some (.cells [.slice none 0 0]) := by rw [← hs3, get_alloc, if_pos rfl]
  have E3 : Ext s2 s3 := by rw [← hs3]; simp
  clear hs3
  simp [-sLen_slice, len1, hmk, hbu, Res.need]
  refine dom_tree_l0_of hF hJ ?_
  rw [dom_tree_l0_eq]
  have E3' := E2.trans E3
  have lv : s3.bump.load1 vb 0 = .ok (I 0) := load1_eq (by rw [get_bump, if_neg (by have := E3'.next; omega), E3'.get _ hvl]; exact hv) rfl
  have gd : s3.bump.get db = some (.cells [I (-1)]) := by rw [get_bump, if_neg (by omega), E3.get _ e4]; exact e2
  have hn2 := hE2.next
  have t1 : s3.bump.storeN db 0 [I 0] = .ok (s3.bump.put db (.cells [I 0])) := by
    have : s3.ro ≤ db := by rw [E3'.ro]; omega
    rw [storeN_def, gd]; simp [this, Res.need]
  simp [-storeN_def, dom_tree_j0_eq hJ, ix1, lv, Res.of, t1, dom_tree_j2_eq hJ, Res.need]
  rw [wrap_id (n := 1) (by omega)]
  refine dom_tree_l0_of hF hJ ?_
  rw [dom_tree_l0_eq]
  generalize hs4 : s3.bump.put db (.cells [I 0]) = s4
  have n4 : s4.next = s3.next + 1 := by rw [← hs4]; rfl
  have E4 : Ext s1 s4 := by rw [← hs4]; exact ((hE2.trans E3).bump).put e3 _
  have k4 : ∀ id, id ≠ db → id < s3.next → s4.get id = s3.get id := fun id h h' => by rw [← hs4, get_put, if_neg h, get_bump, if_neg (by omega)]
  clear hs4
  have E4' := E1.trans E4
  have lu : s4.load1 ub 0 = .ok (I (-1)) := load1_eq (by rw [E4'.get _ hul]; exact hu) rfl
  simp [-sLen_slice, dom_tree_j1_eq hJ, len1]
  refine dom_tree_l1_of hF hJ ?_
  rw [dom_tree_l1_eq]
  simp [dom_tree_j4_eq hJ, ix1, lu, dom_tree_j6_eq hJ]
  rw [wrap_id (n := 1) (by omega)]
  refine dom_tree_l1_of hF hJ ?_
  rw [dom_tree_l1_eq]
  simp [dom_tree_j5_eq hJ, Res.need, oneOf]
  rw [← hQ]
  exact ⟨s2.next, db, rfl, by rw [k4 _ (by omega) (by omega)]; exact g3, by show s2.next < s4.next; omega, E4'⟩

theorem DomOf_ok {bh ah : Nat} {st : St} (hg : G1 st bh ah) (hro : st.ro ≤ st.next) :
    Ok (K.go (.call n_dom_Of [vG bh ah]) st) fun r => ∃ ub lb db, r.1 = .agg #[Sl ub 0 1 1, Sl lb 0 1 1, Sl db 0 1 1] ∧ r.2.get lb = some (.cells [.slice none 0 0]) ∧ lb < r.2.next ∧ Ext st r.2 := by
  generalize hQ : (fun r : Value × St => ∃ ub lb db, r.1 = .agg #[Sl ub 0 1 1, Sl lb 0 1 1, Sl db 0 1 1] ∧ r.2.get lb = some (.cells [.slice none 0 0]) ∧ lb < r.2.next ∧ Ext st r.2) = Q
  refine dom_Of_of hF fun J hJ => ?_
  rw [dom_Of_eq]
  simp
  refine (GLen_ok hF bh ah _).call fun s1 hE1 => ?_
  have E1 : Ext st s1 := Ext.trans (by simp) hE1
  have hro1 := E1.roOk hro
  -- the box of n
  have q1 : (s1.alloc (.cells [I 0])).storeN s1.next 0 [I 1] = .ok ((s1.alloc (.cells [I 0])).put s1.next (.cells [I 1])) := by simp [hro1, Res.need]
  generalize hs2 : (s1.alloc (.cells [I 0])).put s1.next (.cells [I 1]) = s2 at q1
  have n2 : s2.next = s1.next + 1 := by rw [← hs2]; rfl
  have g2 : s2.get s1.next = some (.cells [I 1]) := by rw [← hs2, get_put, if_pos rfl]
  have E2 : Ext s1 s2 := by rw [← hs2]; exact (Ext.alloc (Ext.refl _) _).put (Nat.le_refl _) _
  clear hs2
  have hro2 := E2.roOk hro1
  have hnw : sNew [I 0] s1 = .ok (P s1.next 0, s1.alloc (.cells [I 0])) := rfl
  have hst : sStore 1 (P s1.next 0) (I 1) (s1.alloc (.cells [I 0])) = .ok (nothing, s2) := by simp [-storeN_def, q1, Res.need]
  simp [-sNew_eq, -sStore_int, -storeN_def, hnw, hst]
  have hnb : ∀ s, Ext s2 s → s.get s1.next = some (.cells [I 1]) ∧ s1.next < s.next ∧ s.ro ≤ s.next := fun s hE => ⟨by rw [hE.get _ (by omega)]; exact g2, by have := hE.next; omega, hE.roOk hro2⟩
  obtain ⟨a1, a2, a3⟩ := hnb s2 (Ext.refl _)
  refine (Fill_ok hF a1 a2 a3).thn fun ⟨r1, s3⟩ ⟨c1, e1, x1, y1, z1, E3⟩ => ?_
  simp only at e1 x1 y1 z1 E3 ⊢
  subst e1
  obtain ⟨a1, a2, a3⟩ := hnb s3 E3
  refine (Fill_ok hF a1 a2 a3).thn fun ⟨r1, s4⟩ ⟨c2, e1, x2, y2, z2, E4⟩ => ?_
  simp only at e1 x2 y2 z2 E4 ⊢
  subst e1
  obtain ⟨a1, a2, a3⟩ := hnb s4 (E3.trans E4)
  refine (Fill_ok hF a1 a2 a3).thn fun ⟨r1, s5⟩ ⟨c3, e1, x3, y3, z3, E5⟩ => ?_
  simp only at e1 x3 y3 z3 E5 ⊢
  subst e1
  obtain ⟨a1, a2, a3⟩ := hnb s5 ((E3.trans E4).trans E5)
  refine (Fill_ok hF a1 a2 a3).thn fun ⟨r1, s6⟩ ⟨c4, e1, x4, y4, z4, E6⟩ => ?_
  simp only at e1 x4 y4 z4 E6 ⊢
  subst e1
  have hbu : ∀ a b c d s, sBuild [.slice none 0 0, .slice none 0 0, .slice none 0 0, .slice none 0 0, .slice none 0 0] [(1, 1, Sl a 0 1 1), (2, 1, Sl b 0 1 1), (3, 1, Sl c 0 1 1), (4, 1, Sl d 0 1 1)] s = .ok (.agg #[.slice none 0 0, Sl a 0 1 1, Sl b 0 1 1, Sl c 0 1 1, Sl d 0 1 1], s) := fun a b c d s => rfl
  have hbx : sBox (.agg #[.slice none 0 0, Sl c1 0 1 1, Sl c2 0 1 1, Sl c3 0 1 1, Sl c4 0 1 1]) s6 = .ok (P s6.next 0, s6.alloc (.cells [.slice none 0 0, Sl c1 0 1 1, Sl c2 0 1 1, Sl c3 0 1 1, Sl c4 0 1 1])) := rfl
  generalize hs7 : s6.alloc (.cells [.slice none 0 0, Sl c1 0 1 1, Sl c2 0 1 1, Sl c3 0 1 1, Sl c4 0 1 1]) = s7 at hbx
  have n7 : s7.next = s6.next + 1 := by rw [← hs7]; rfl
  have g7 : s7.get s6.next = some (.cells [.slice none 0 0, Sl c1 0 1 1, Sl c2 0 1 1, Sl c3 0 1 1, Sl c4 0 1 1]) := by rw [← hs7, get_alloc, if_pos rfl]
  have E7 : Ext s6 s7 := by rw [← hs7]; simp
  clear hs7
  have E26 := ((E3.trans E4).trans E5).trans E6
  obtain ⟨a1, a2, a3⟩ := hnb s7 (E26.trans E7)
  simp [-sBox_agg, hbu, hbx]
  refine (Fill_ok hF a1 a2 a3).thn fun ⟨r1, s8⟩ ⟨ub, e1, x5, y5, z5, E8⟩ => ?_
  simp only at e1 x5 y5 z5 E8 ⊢
  subst e1
  obtain ⟨a1, a2, a3⟩ := hnb s8 ((E26.trans E7).trans E8)
  have ln : ∀ s : St, s.get s1.next = some (.cells [I 1]) → s.load1 s1.next 0 = .ok (I 1) := fun s h => load1_eq h rfl
  have hmk := mk1 s8
  generalize hs9 : (s8.alloc (.cells [.slice none 0 0])) = s9 at hmk
  have n9 : s9.next = s8.next + 1 := by rw [← hs9]; rfl
  have E9 : Ext s8 s9 := by rw [← hs9]; simp
  clear hs9
  obtain ⟨b1, b2, b3⟩ := hnb s9 (((E26.trans E7).trans E8).trans E9)
  simp [ln _ a1, hmk, ln _ b1]
  -- the one place is visited
  have E79 := E8.trans E9
  have gf : s9.get s6.next = some (.cells [.slice none 0 0, Sl c1 0 1 1, Sl c2 0 1 1, Sl c3 0 1 1, Sl c4 0 1 1]) := by rw [E79.get _ (by omega)]; exact g7
  have E49 : Ext s4 s9 := (((E5.trans E6).trans E7).trans E8).trans E9
  have gs : s9.get c2 = some (.cells [I (-1)]) := by rw [E49.get _ z2]; exact x2
  have m3 := E3.next; have m4 := E4.next; have m5 := E5.next; have m6 := E6.next; have m8 := E8.next; have m2 := E2.next; have m1 := E1.next
  have Est2 := E1.trans E2
  have E29 : Ext st s9 := (((Est2.trans E26).trans E7).trans E8).trans E9
  have hGb := hg.lb; have hGa := hg.la
  refine (Visit_ok hF (fb := s6.next) (sb := c2) (hg.mono E29) gf gs (by omega) (by omega) (by omega) (by rw [E29.ro]; omega) (by rw [E29.ro]; omega) ⟨by omega, by omega, by omega, by omega⟩).thn fun ⟨r1, s10⟩ ⟨vb, v1, v2, v3, v4, v5, v6, v7⟩ => ?_
  simp only at v1 v2 v3 v4 v5 v6 v7 ⊢
  have hnc : ∀ (b o : Nat) s, sNilc (P b o) s = .ok (P b o, s) := fun b o s => rfl
  have l1 : s10.load1 s1.next 0 = .ok (I 1) := load1_eq (by rw [v7 _ (by omega) (by omega) (by omega)]; exact b1) rfl
  simp [dom_Of_j0_eq hJ, l1]
  refine dom_Of_l0_of hF hJ ?_
  rw [dom_Of_l0_eq]
  have l4 : s10.load1 s6.next 4 = .ok (Sl c4 0 1 1) := load1_eq v1 rfl
  have gc4 : s10.get c4 = some (.cells [I (-1)]) := by
    have E69 : Ext s6 s9 := (E7.trans E8).trans E9
    rw [v7 _ (by omega) (by omega) (by omega), E69.get _ z4]; exact x4
  have t1 : s10.storeN c4 0 [I 0] = .ok (s10.put c4 (.cells [I 0])) := by
    have : s10.ro ≤ c4 := by rw [v6, E29.ro]; omega
    rw [storeN_def, gc4]; simp [this, Res.need]
  simp [-storeN_def, dom_Of_j1_eq hJ, hnc, l4, ix1, t1, dom_Of_j3_eq hJ, Res.need]
  rw [wrap_id (n := 1) (by omega)]
  refine dom_Of_l0_of hF hJ ?_
  rw [dom_Of_l0_eq]
  generalize hs11 : s10.put c4 (.cells [I 0]) = s11
  have n11 : s11.next = s10.next := by rw [← hs11]; rfl
  have r11 : s11.ro = s10.ro := by rw [← hs11]; rfl
  have k11 : ∀ id, id ≠ c4 → s11.get id = s10.get id := fun id h => by rw [← hs11, get_put, if_neg h]
  clear hs11
  have l0 : s11.load1 s6.next 0 = .ok (Sl vb 0 1 1) := load1_eq (by rw [k11 _ (by omega)]; exact v1) rfl
  simp [-sLen_slice, dom_Of_j2_eq hJ, hnc, l0, len1]
  refine dom_Of_l1_of hF hJ ?_
  rw [dom_Of_l1_eq]
  have w0 : IntKind.i64.wrap 0 = 0 := by decide
  simp [w0, dom_Of_j5_eq hJ]
  refine dom_Of_l3_of hF hJ ?_
  rw [dom_Of_l3_eq]
  simp [-sLen_slice, hnc, l0, len1, dom_Of_j9_eq hJ]
  have gu : s11.get ub = some (.cells [I (-1)]) := by rw [k11 _ (by omega), v7 _ (by omega) (by omega) (by omega), E9.get _ z5]; exact x5
  have E211 : Ext st s11 := ⟨by have := E29.next; omega, by rw [r11, v6, E29.ro], fun id hi => by rw [k11 _ (by omega), v7 _ (by have := E29.next; omega) (by omega) (by omega), E29.get _ hi]⟩
  refine (Tree_ok hF gu (by rw [k11 _ (by omega)]; exact v2) (by omega) (by omega) (E211.roOk hro)).thn fun ⟨r1, s12⟩ ⟨lb, db, e1, e2, e3, E12⟩ => ?_
  simp only at e1 e2 e3 E12 ⊢
  subst e1
  simp [Res.need, oneOf]
  rw [← hQ]
  exact ⟨ub, lb, db, rfl, e2, e3, E211.trans E12⟩
end Go.Proofs.Ytenfblnmmmppbaa.Sh

