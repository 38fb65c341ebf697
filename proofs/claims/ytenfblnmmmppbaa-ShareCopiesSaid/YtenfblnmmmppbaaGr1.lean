/-
  Graph, tree of a program of one block that goes on nowhere.
-/
import Derived.Test.YtenfblnmmmppbaaIrClone
import Derived.Test.YtenfblnmmmppbaaShG
set_option linter.unusedVariables false
set_option linter.unusedSimpArgs false
set_option linter.unusedSectionVars false
set_option maxRecDepth 100000
namespace Go.Proofs.Ytenfblnmmmppbaa.Sh
open Go Go.AM Go.Proofs

/-- A graph of one place. -/
structure G1 (st : St) (bh ah : Nat) : Prop where
  gb : st.get bh = some (.cells [.slice none 0 0])
  ga : st.get ah = some (.cells [.slice none 0 0])
  lb : bh < st.next
  la : ah < st.next
theorem G1.mono {st st' : St} {bh ah : Nat} (h : G1 st bh ah) (hE : Ext st st') : G1 st' bh ah :=
  ⟨by rw [hE.get _ h.lb]; exact h.gb, by rw [hE.get _ h.la]; exact h.ga, Nat.lt_of_lt_of_le h.lb hE.next, Nat.lt_of_lt_of_le h.la hE.next⟩
def vG (bh ah : Nat) : Value := .agg #[Sl bh 0 1 1, Sl ah 0 1 1]
@[simp] theorem sField_vG (bh ah : Nat) (st : St) : sField (some 2) 0 (vG bh ah) st = .ok (vG bh ah, st) := rfl
@[simp] theorem sField_vG0 (bh ah : Nat) (st : St) : sField none 0 (vG bh ah) st = .ok (Sl bh 0 1 1, st) := rfl
@[simp] theorem sField_vG1 (bh ah : Nat) (st : St) : sField none 1 (vG bh ah) st = .ok (Sl ah 0 1 1, st) := rfl
@[simp] theorem sLref_vG (bh ah : Nat) (st : St) : sLref (vG bh ah) st = .ok (nothing, st) := rfl
@[simp] theorem sLbox_vG (bh ah : Nat) (st : St) : sLbox (vG bh ah) st = .ok (vG bh ah, st.bump) := rfl
@[simp] theorem sUpd_vG (bh ah : Nat) (st : St) : sUpd 2 0 (.agg #[.slice none 0 0, .slice none 0 0]) (vG bh ah) st = .ok (vG bh ah, st) := by simp [vG, Res.need]
theorem ix1 (c : Nat) (s : St) : sIxA 1 none (Sl c 0 1 1) (I 0) s = .ok (P c 0, s) := by simp [sIxA, index, Res.need]
theorem len1 (c m : Nat) (s : St) : sLen .slice (Sl c 0 1 m) s = .ok (I 1, s) := rfl
theorem mk1 (s : St) : sMkSlice 1 24 [.slice none 0 0] (I 1) (I 1) s = .ok (Sl s.next 0 1 1, s.alloc (.cells [.slice none 0 0])) := rfl

variable {K : Ctx} (hF : Fix pgF K)
include hF

theorem GLen_ok (bh ah : Nat) (st : St) : Ok (K.go (.call n_graph_Graph_Len [vG bh ah]) st) fun r => r.1 = I 1 ∧ Ext st r.2 := by
  refine graph_Graph_Len_of hF fun J hJ => ?_
  rw [graph_Graph_Len_eq]
  simp [-sLen_slice, len1]

theorem GNew_ok (st : St) : Ok (K.go (.call n_graph_New [I 1]) st) fun r => ∃ bh ah, r.1 = vG bh ah ∧ G1 r.2 bh ah ∧ Ext st r.2 := by
  generalize hQ : (fun r : Value × St => ∃ bh ah, r.1 = vG bh ah ∧ G1 r.2 bh ah ∧ Ext st r.2) = Q
  refine graph_New_of hF fun J hJ => ?_
  rw [graph_New_eq]
  have hm : ∀ s, sMinmax true (I 1) [I 0] s = .ok (I 1, s) := fun s => rfl
  have hb : ∀ a b s, sBuild [.slice none 0 0, .slice none 0 0] [(0, 1, Sl a 0 1 1), (1, 1, Sl b 0 1 1)] s = .ok (vG a b, s) := fun a b s => rfl
  simp [hm, mk1, hb, oneOf]
  rw [← hQ]
  exact ⟨st.next + 1, st.next + 2, rfl, ⟨by simp, by simp, by simp, by simp⟩, by simp⟩

theorem GOf_ok {A : Nat → Prop} {st : St} {v : Value} {b : Block} (hA : ∀ id, A id → id < st.next) (hro : st.ro ≤ st.next) (hp : RProg A st v [b]) (hl : b.last.labels = []) : Ok (K.go (.call n_graph_Of [.agg #[v]]) st) fun r => ∃ bh ah, r.1 = vG bh ah ∧ G1 r.2 bh ah ∧ Ext st r.2 := by
  generalize hQ : (fun r : Value × St => ∃ bh ah, r.1 = vG bh ah ∧ G1 r.2 bh ah ∧ Ext st r.2) = Q
  refine graph_Of_of hF fun J hJ => ?_
  rw [graph_Of_eq]
  have hlen : ∀ s, sLen .slice v s = .ok (I 1, s) := RSl.len hp
  have hnm : sNewMap st.bump.bump = .ok (.map (some st.bump.bump.next), st.bump.bump.alloc (.map [])) := rfl
  generalize hs1 : st.bump.bump.alloc (.map []) = s1 at hnm
  have n1 : s1.next = st.next + 3 := by rw [← hs1]; rfl
  have g1 : s1.get (st.next + 2) = some (.map []) := by rw [← hs1, get_alloc, if_pos (by rfl)]
  have hE1 : Ext st s1 := by rw [← hs1]; simp
  have hmn : st.bump.bump.next = st.next + 2 := rfl
  rw [hmn] at hnm
  clear hs1
  simp [-sLen_slice, hnm, hlen, Res.of]
  obtain ⟨bb, o, cs, k1, k2, ⟨vp, vi, rfl, p1, p2⟩, -⟩ := RSl.at hp (i := 0) (x := b) rfl
  have k1 : ∀ s, sIxA 7 none v (I 0) s = .ok (P bb o, s) := k1
  have hv : ∀ (b : Block) (vp vi : Value), Value.agg #[I b.label, vp, vi, U b.last.kind, I b.last.a, I b.last.yes, I b.last.no] = vB b.label vp vi b.last := fun b vp vi => rfl
  have hup : ∀ (b : Block) s, sUpd 7 0 (.agg #[I 0, .slice none 0 0, .slice none 0 0, U 0, I 0, I 0, I 0]) (vB b.label vp vi b.last) s = .ok (vB b.label vp vi b.last, s) := fun b s => by simp [vB, Res.need, p1.cell, p2.cell]
  have hms : sMapSet (.cell .int) (.map (some (st.next + 2))) (I b.label) (I 0) s1.bump = .ok (nothing, s1.bump.put (st.next + 2) (.map [(I b.label, I 0)])) := by
    have hr : s1.ro ≤ st.next + 2 := by rw [hE1.ro]; omega
    have hg : s1.bump.get (st.next + 2) = some (.map []) := by rw [get_bump, if_neg (by omega)]; exact g1
    simp [sMapSet, amapSet, St.map, g1, n1, keyOk, cellIs, Res.need, hr, findK]
  refine graph_Of_l0_of hF hJ ?_
  rw [graph_Of_l0_eq]
  simp [graph_Of_j0_eq hJ, k1, k2 s1 (hE1.agree hA), hv, hup, hms, graph_Of_j2_eq hJ]
  rw [wrap_id (n := 1) (by omega)]
  refine graph_Of_l0_of hF hJ ?_
  rw [graph_Of_l0_eq]
  have hE2 : Ext st (s1.bump.put (st.next + 2) (.map [(I b.label, I 0)])) := hE1.bump.put (by omega) _
  generalize hs2 : s1.bump.put (st.next + 2) (.map [(I b.label, I 0)]) = s2 at *
  simp [-sLen_slice, graph_Of_j1_eq hJ, hlen, Res.of]
  refine (GNew_ok hF s2).thn fun ⟨r1, s3⟩ ⟨bh, ah, e1, e2, hE3⟩ => ?_
  simp only at e1 e2 hE3 ⊢
  subst e1
  have hE3' := hE2.trans hE3
  simp [-sLen_slice, hlen, Res.of]
  refine graph_Of_l1_of hF hJ ?_
  rw [graph_Of_l1_eq]
  have hE4 : Ext st s3.bump := hE3'.bump
  simp [graph_Of_j3_eq hJ, k1, k2 s3.bump (hE4.agree hA), hv, hup]
  refine (Labels_ok hF b.last _).thn fun ⟨r1, s5⟩ ⟨l1, hE5⟩ => ?_
  simp only at l1 hE5 ⊢
  rw [hl] at l1
  have hll : ∀ s, sLen .slice r1 s = .ok (I 0, s) := l1.len
  simp [-sLen_slice, hll]
  refine graph_Of_l2_of hF hJ ?_
  rw [graph_Of_l2_eq]
  simp [graph_Of_j6_eq hJ]
  rw [wrap_id (n := 1) (by omega)]
  refine graph_Of_l1_of hF hJ ?_
  rw [graph_Of_l1_eq]
  simp [graph_Of_j4_eq hJ, oneOf]
  rw [← hQ]
  have hE35 : Ext s3 s5 := Ext.trans (by simp) hE5
  exact ⟨bh, ah, rfl, e2.mono hE35, hE3'.trans hE35⟩
end Go.Proofs.Ytenfblnmmmppbaa.Sh

