/-
  The tree of a graph of one place.
-/
import Derived.Test.YtenfblnmmmppbaaGr1
set_option linter.unusedVariables false
set_option linter.unusedSimpArgs false
set_option linter.unusedSectionVars false
set_option maxRecDepth 100000
namespace Go.Proofs.Ytenfblnmmmppbaa.Sh
open Go Go.AM Go.Proofs

variable {K : Ctx} (hF : Fix pgF K)
include hF

theorem CloneNil_eq (st : St) : K.go (.call n_slices_Clone_int [.slice none 0 0]) st = .ok (.slice none 0 0, st) := by
  refine Ok.eq (slices_Clone_int_of hF fun J hJ => ?_)
  rw [slices_Clone_int_eq]
  have : sEq false (.nilOf .slice) (.slice none 0 0) (.slice none 0 0) st = .ok (.bool true, st) := rfl
  simp [this]

theorem Behind_ok {bh ah : Nat} {st : St} (h : G1 st bh ah) : Ok (K.go (.call n_graph_Graph_Behind [vG bh ah, I 0]) st) fun r => r.1 = .slice none 0 0 ∧ Ext st r.2 := by
  generalize hQ : (fun r : Value × St => r.1 = .slice none 0 0 ∧ Ext st r.2) = Q
  refine graph_Graph_Behind_of hF fun J hJ => ?_
  rw [graph_Graph_Behind_eq]
  simp
  refine (GLen_ok hF bh ah _).call fun s hE => ?_
  have hE' : Ext st s := Ext.trans (by simp) hE
  have hl : s.load1 bh 0 = .ok (.slice none 0 0) := load1_eq (h.mono hE').gb rfl
  simp [graph_Graph_Behind_j0_eq hJ, ix1, hl, CloneNil_eq hF]
  rw [← hQ]
  exact ⟨rfl, hE'⟩

theorem Mul1_eq (st : St) : K.go (.call n_math_bits_Mul [.int .u64 1, .int .u64 1]) st = .ok (.tuple #[.int .u64 0, .int .u64 1], st) := by
  refine Ok.eq (math_bits_Mul_of hF fun J hJ => ?_)
  rw [math_bits_Mul_eq]
  have h64 : K.go (.call n_math_bits_Mul64 [.int .u64 1, .int .u64 1]) st = .ok (.tuple #[.int .u64 0, .int .u64 1], st) := by
    refine Ok.eq (math_bits_Mul64_of hF fun J hJ => ?_)
    rw [math_bits_Mul64_eq]
    have a1 : ∀ s, sBin .and (.int .u64 1) (.int .u64 4294967295) s = .ok (.int .u64 1, s) := fun s => rfl
    have a2 : ∀ s, sBin .shr (.int .u64 1) (.int .u64 32) s = .ok (.int .u64 0, s) := fun s => rfl
    have a3 : ∀ s, sBin .mul (.int .u64 1) (.int .u64 1) s = .ok (.int .u64 1, s) := fun s => rfl
    have a4 : ∀ s, sBin .mul (.int .u64 0) (.int .u64 1) s = .ok (.int .u64 0, s) := fun s => rfl
    have a5 : ∀ s, sBin .mul (.int .u64 1) (.int .u64 0) s = .ok (.int .u64 0, s) := fun s => rfl
    have a6 : ∀ s, sBin .mul (.int .u64 0) (.int .u64 0) s = .ok (.int .u64 0, s) := fun s => rfl
    have a7 : ∀ s, sBin .add (.int .u64 0) (.int .u64 0) s = .ok (.int .u64 0, s) := fun s => rfl
    have a8 : ∀ s, sBin .and (.int .u64 0) (.int .u64 4294967295) s = .ok (.int .u64 0, s) := fun s => rfl
    have a9 : ∀ s, sBin .shr (.int .u64 0) (.int .u64 32) s = .ok (.int .u64 0, s) := fun s => rfl
    simp [-sMul, -sAdd, a1, a2, a3, a4, a5, a6, a7, a8, a9]
  simp [math_bits_Mul_j0_eq hJ, h64, Res.of]

theorem Repeat1_ok {c : Nat} {x : Int} {st : St} (hg : st.get c = some (.cells [I x])) (hc : c < st.next) (hro : st.ro ≤ st.next) : Ok (K.go (.call n_slices_Repeat_int [Sl c 0 1 1, I 1]) st) fun r => ∃ d, r.1 = Sl d 0 1 1 ∧ r.2.get d = some (.cells [I x]) ∧ st.next ≤ d ∧ d < r.2.next ∧ Ext st r.2 := by
  generalize hQ : (fun r : Value × St => ∃ d, r.1 = Sl d 0 1 1 ∧ r.2.get d = some (.cells [I x]) ∧ st.next ≤ d ∧ d < r.2.next ∧ Ext st r.2) = Q
  refine slices_Repeat_int_of hF fun J hJ => ?_
  rw [slices_Repeat_int_eq]
  have w1 : IntKind.u64.wrap 1 = 1 := by decide
  have w2 : IntKind.i64.wrap 1 = 1 := by decide
  have mk : sMkSlice 1 8 [I 0] (I 1) (I 1) st = .ok (Sl st.next 0 1 1, st.alloc (.cells [I 0])) := rfl
  have cp : sCopy 1 (Sl st.next 0 1 1) (Sl c 0 1 1) (st.alloc (.cells [I 0])) = .ok (I 1, (st.alloc (.cells [I 0])).put st.next (.cells [I x])) := by
    have hgc : (st.alloc (.cells [I 0])).get c = some (.cells [I x]) := by rw [get_alloc, if_neg (by omega)]; exact hg
    have hf : firstL (st.alloc (.cells [I 0])) 1 1 (Sl c 0 1 1) = .ok [I x] := by
      simp [firstL, St.loadN, cells_eq hgc, Res.need]
    have hst : (st.alloc (.cells [I 0])).storeN st.next 0 [I x] = .ok ((st.alloc (.cells [I 0])).put st.next (.cells [I x])) := by simp [hro, Res.need]
    simp [-storeN_def, sCopy, acopy, lenL, hf, hst, Res.need]
    rfl
  simp [-sLen_slice, slices_Repeat_int_j0_eq hJ, len1, w1, Mul1_eq hF, Res.of, slices_Repeat_int_j1_eq hJ, w2, mk, cp]
  refine slices_Repeat_int_l0_of hF hJ ?_
  rw [slices_Repeat_int_l0_eq]
  simp [-sLen_slice, len1, slices_Repeat_int_j3_eq hJ]
  rw [← hQ]
  exact ⟨st.next, rfl, by rw [get_put, if_pos rfl], Nat.le_refl _, Nat.lt_succ_self _, (Ext.alloc (Ext.refl _) _).put (Nat.le_refl _) _⟩

theorem Fill_ok {nb : Nat} {st : St} (hg : st.get nb = some (.cells [I 1])) (hn : nb < st.next) (hro : st.ro ≤ st.next) : Ok (sCall K (.func (.func n_dom_Of_1) #[] #[P nb 0]) [] st) fun r => ∃ d, r.1 = Sl d 0 1 1 ∧ r.2.get d = some (.cells [I (-1)]) ∧ st.next ≤ d ∧ d < r.2.next ∧ Ext st r.2 := by
  have e : sCall K (.func (.func n_dom_Of_1) #[] #[P nb 0]) [] st = K.go (.call n_dom_Of_1 [P nb 0]) st := by simp [sCall, taskOf]
  rw [e]
  generalize hQ : (fun r : Value × St => ∃ d, r.1 = Sl d 0 1 1 ∧ r.2.get d = some (.cells [I (-1)]) ∧ st.next ≤ d ∧ d < r.2.next ∧ Ext st r.2) = Q
  refine dom_Of_1_of hF fun J hJ => ?_
  rw [dom_Of_1_eq]
  have hl : (st.alloc (.cells [I (-1)])).load1 nb 0 = .ok (I 1) := load1_eq (by rw [get_alloc, if_neg (by omega)]; exact hg) rfl
  simp [hl]
  refine (Repeat1_ok hF (c := st.next) (x := -1) (st := st.alloc (.cells [I (-1)])) (by rw [get_alloc, if_pos rfl]) (Nat.lt_succ_self _) (Nat.le_succ_of_le hro)).thn fun ⟨r1, s⟩ ⟨d, e1, e2, e3, e4, e5⟩ => ?_
  simp only at e1 e2 e3 e4 e5 ⊢
  subst e1
  simp
  rw [← hQ]
  exact ⟨d, rfl, e2, Nat.le_of_succ_le e3, e4, Ext.trans (by simp) e5⟩

omit hF in
theorem append1 (x : Int) (s : St) : sAppend 1 8 (.slice none 0 0) (Sl s.next 0 1 1) (s.alloc (.cells [I x])) = .ok (Sl (s.next + 1) 0 1 1, (s.alloc (.cells [I x])).alloc (.cells [I x])) := by
  have hneed : ∀ {b : Bool} {s : String}, b = true → Res.need b s = .ok () := fun h => by subst h; rfl
  have hg : (s.alloc (.cells [I x])).get s.next = some (.cells [I x]) := by rw [get_alloc, if_pos rfl]
  have hf : firstL (s.alloc (.cells [I x])) 1 1 (Sl s.next 0 1 1) = .ok [I x] := by
    simp [firstL, St.loadN, cells_eq hg, Res.need]
  simp only [sAppend, aappend, lenL, hf, Res.bind_ok, hneed (decide_eq_true (show [I x].length = 1 * 1 from rfl)), if_neg (show ¬ 1 = 0 by decide), hneed (decide_eq_true (show (0 + 1) * 8 ≤ mostBytes by decide)), hneed (show [I x].all cellOk = true from rfl), hneed (decide_eq_true (rfl : 0 = 0))]
  rfl

/-- The finder, once it has visited the one place. -/
theorem Visit_ok {fb sb bh ah : Nat} {pa ro la : Value} {x : Int} {st : St} (hg : G1 st bh ah) (hf : st.get fb = some (.cells [.slice none 0 0, pa, Sl sb 0 1 1, ro, la])) (hs : st.get sb = some (.cells [I x])) (hfs : fb ≠ sb) (hfl : fb < st.next) (hsl : sb < st.next) (hro1 : st.ro ≤ fb) (hro2 : st.ro ≤ sb) (hne : bh ≠ fb ∧ bh ≠ sb ∧ ah ≠ fb ∧ ah ≠ sb) :
    Ok (K.go (.call n_dom_finder_visit [P fb 0, vG bh ah, I 0]) st) fun r => ∃ vb, r.2.get fb = some (.cells [Sl vb 0 1 1, pa, Sl sb 0 1 1, ro, la]) ∧ r.2.get vb = some (.cells [I 0]) ∧ st.next ≤ vb ∧ vb < r.2.next ∧ st.next ≤ r.2.next ∧ r.2.ro = st.ro ∧ ∀ id, id < st.next → id ≠ fb → id ≠ sb → r.2.get id = st.get id := by
  generalize hQ : (fun r : Value × St => ∃ vb, r.2.get fb = some (.cells [Sl vb 0 1 1, pa, Sl sb 0 1 1, ro, la]) ∧ r.2.get vb = some (.cells [I 0]) ∧ st.next ≤ vb ∧ vb < r.2.next ∧ st.next ≤ r.2.next ∧ r.2.ro = st.ro ∧ ∀ id, id < st.next → id ≠ fb → id ≠ sb → r.2.get id = st.get id) = Q
  refine dom_finder_visit_of hF fun J hJ => ?_
  rw [dom_finder_visit_eq]
  have hnc : ∀ (b o : Nat) s, sNilc (P b o) s = .ok (P b o, s) := fun b o s => rfl
  have hl0 : ∀ s, sLen .slice (.slice none 0 0) s = .ok (I 0, s) := fun s => rfl
  have hfb : st.bump.get fb = some (.cells [.slice none 0 0, pa, Sl sb 0 1 1, ro, la]) := by rw [get_bump, if_neg (by omega)]; exact hf
  have hsb : st.bump.get sb = some (.cells [I x]) := by rw [get_bump, if_neg (by omega)]; exact hs
  have l2 : st.bump.load1 fb 2 = .ok (Sl sb 0 1 1) := load1_eq hfb rfl
  have l0 : st.bump.load1 fb 0 = .ok (.slice none 0 0) := load1_eq hfb rfl
  have t1 : st.bump.storeN sb 0 [I 0] = .ok (st.bump.put sb (.cells [I 0])) := by
    have : st.bump.ro ≤ sb := hro2
    rw [storeN_def, hsb]; simp [hro2, Res.need]
  generalize hs1 : st.bump.put sb (.cells [I 0]) = s1 at t1
  have n1 : s1.next = st.next + 1 := by rw [← hs1]; rfl
  have r1 : s1.ro = st.ro := by rw [← hs1]; rfl
  have k1 : ∀ id, id ≠ sb → id < st.next → s1.get id = st.get id := fun id h1 h2 => by rw [← hs1, get_put, if_neg h1, get_bump, if_neg (by omega)]
  clear hs1
  have l0' : s1.load1 fb 0 = .ok (.slice none 0 0) := load1_eq (by rw [k1 fb hfs hfl]; exact hf) rfl
  have ap := append1 0 s1
  generalize hs2 : (s1.alloc (.cells [I 0])).alloc (.cells [I 0]) = s2 at ap
  have n2 : s2.next = s1.next + 2 := by rw [← hs2]; rfl
  have r2 : s2.ro = s1.ro := by rw [← hs2]; rfl
  have k2 : ∀ id, id < s1.next → s2.get id = s1.get id := fun id h => by rw [← hs2, get_alloc, if_neg (by show id ≠ s1.next + 1; omega), get_alloc, if_neg (by omega)]
  have g2 : s2.get (s1.next + 1) = some (.cells [I 0]) := by rw [← hs2, get_alloc, if_pos (by rfl)]
  clear hs2
  have hfb2 : s2.get fb = some (.cells [.slice none 0 0, pa, Sl sb 0 1 1, ro, la]) := by rw [k2 fb (by omega), k1 fb hfs hfl]; exact hf
  have t2 : s2.storeN fb 0 [Sl (s1.next + 1) 0 1 1] = .ok (s2.put fb (.cells [Sl (s1.next + 1) 0 1 1, pa, Sl sb 0 1 1, ro, la])) := by
    have : s2.ro ≤ fb := by omega
    rw [storeN_def, hfb2]; simp [this, Res.need]
  generalize hs3 : s2.put fb (.cells [Sl (s1.next + 1) 0 1 1, pa, Sl sb 0 1 1, ro, la]) = s3 at t2
  have n3 : s3.next = s2.next := by rw [← hs3]; rfl
  have r3 : s3.ro = s2.ro := by rw [← hs3]; rfl
  have k3 : ∀ id, id ≠ fb → s3.get id = s2.get id := fun id h => by rw [← hs3, get_put, if_neg h]
  have g3 : s3.get fb = some (.cells [Sl (s1.next + 1) 0 1 1, pa, Sl sb 0 1 1, ro, la]) := by rw [← hs3, get_put, if_pos rfl]
  clear hs3
  simp [-storeN_def, -sLen_slice, hnc, l2, l0, hl0, ix1, t1, l0', ap, t2, Res.need]
  obtain ⟨z1, z2, z3, z4⟩ := hne
  have hG : G1 s3 bh ah := ⟨by rw [k3 _ z1, k2 _ (by have := hg.lb; omega), k1 _ z2 hg.lb]; exact hg.gb, by rw [k3 _ z3, k2 _ (by have := hg.la; omega), k1 _ z4 hg.la]; exact hg.ga, by have := hg.lb; omega, by have := hg.la; omega⟩
  refine (Behind_ok hF hG).call fun s4 hE4 => ?_
  simp [-sLen_slice, hl0]
  refine dom_finder_visit_l0_of hF hJ ?_
  rw [dom_finder_visit_l0_eq]
  simp
  rw [← hQ]
  have hn4 := hE4.next
  exact ⟨s1.next + 1, by rw [hE4.get _ (by omega)]; exact g3, by rw [hE4.get _ (by omega), k3 _ (by omega)]; exact g2, by omega, by show s1.next + 1 < s4.next; omega, by show st.next ≤ s4.next; omega, by rw [hE4.ro]; omega, fun id h1 h2 h3 => by rw [hE4.get _ (by omega), k3 _ h2, k2 _ (by omega), k1 _ h3 h1]⟩
end Go.Proofs.Ytenfblnmmmppbaa.Sh

