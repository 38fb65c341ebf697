/-
  Strict programs of one block: what is reached; sorting nothing; where registers are set.
-/
import Derived.Test.YtenfblnmmmppbaaGr3
import Derived.Test.YtenfblnmmmppbaaMaps
import Derived.Test.YtenfblnmmmppbaaShT
set_option linter.unusedVariables false
set_option linter.unusedSimpArgs false
set_option linter.unusedSectionVars false
set_option maxRecDepth 100000
namespace Go.Proofs.Ytenfblnmmmppbaa.Sh
open Go Go.AM Go.Proofs

variable {K : Ctx} (hF : Fix pgF K)
include hF

theorem Ahead_ok {bh ah : Nat} {st : St} (h : G1 st bh ah) : Ok (K.go (.call n_graph_Graph_Ahead [vG bh ah, I 0]) st) fun r => r.1 = .slice none 0 0 ∧ Ext st r.2 := by
  generalize hQ : (fun r : Value × St => r.1 = .slice none 0 0 ∧ Ext st r.2) = Q
  refine graph_Graph_Ahead_of hF fun J hJ => ?_
  rw [graph_Graph_Ahead_eq]
  simp
  refine (GLen_ok hF bh ah _).call fun s hE => ?_
  have hE' : Ext st s := Ext.trans (by simp) hE
  have hl : s.load1 ah 0 = .ok (.slice none 0 0) := load1_eq (h.mono hE').ga rfl
  simp [graph_Graph_Ahead_j0_eq hJ, ix1, hl, CloneNil_eq hF]
  rw [← hQ]
  exact ⟨rfl, hE'⟩

theorem Walk_ok {bh ah c : Nat} {x : Value} {st : St} (h : G1 st bh ah) (hc : st.get c = some (.cells [x])) (hro : st.ro ≤ c) (hcl : c < st.next) (hne : bh ≠ c) :
    Ok (K.go (.call n_graph_Graph_walk [vG bh ah, I 0, Sl c 0 1 1, .func (.func n_graph_Graph_Reached_1) #[] #[], .func (.func n_graph_Graph_Reached_2) #[] #[]]) st) fun r => r.1 = .tuple #[] ∧ r.2.get c = some (.cells [B true]) ∧ st.next ≤ r.2.next ∧ r.2.ro = st.ro ∧ ∀ id, id < st.next → id ≠ c → r.2.get id = st.get id := by
  generalize hQ : (fun r : Value × St => r.1 = .tuple #[] ∧ r.2.get c = some (.cells [B true]) ∧ st.next ≤ r.2.next ∧ r.2.ro = st.ro ∧ ∀ id, id < st.next → id ≠ c → r.2.get id = st.get id) = Q
  refine graph_Graph_walk_of hF fun J hJ => ?_
  rw [graph_Graph_walk_eq]
  have t1 : st.bump.storeN c 0 [.bool true] = .ok (st.bump.put c (.cells [.bool true])) := by
    have hg : st.bump.get c = some (.cells [x]) := by rw [get_bump, if_neg (by omega)]; exact hc
    rw [storeN_def, hg]; simp [hro, Res.need]
  generalize hs1 : st.bump.put c (.cells [.bool true]) = s1 at t1
  have n1 : s1.next = st.next + 1 := by rw [← hs1]; rfl
  have r1 : s1.ro = st.ro := by rw [← hs1]; rfl
  have g1 : s1.get c = some (.cells [.bool true]) := by rw [← hs1, get_put, if_pos rfl]
  have k1 : ∀ id, id ≠ c → id < st.next → s1.get id = st.get id := fun id h1 h2 => by rw [← hs1, get_put, if_neg h1, get_bump, if_neg (by omega)]
  clear hs1
  have c1 : ∀ s, sCall K (.func (.func n_graph_Graph_Reached_1) #[] #[]) [I 0] s = .ok (.tuple #[], s) := fun s => by
    rw [sCall_func]
    exact Ok.eq (graph_Graph_Reached_1_of hF fun J hJ => by rw [graph_Graph_Reached_1_eq]; simp)
  have c2 : ∀ s, sCall K (.func (.func n_graph_Graph_Reached_2) #[] #[]) [I 0] s = .ok (.tuple #[], s) := fun s => by
    rw [sCall_func]
    exact Ok.eq (graph_Graph_Reached_2_of hF fun J hJ => by rw [graph_Graph_Reached_2_eq]; simp)
  have lb : s1.load1 bh 0 = .ok (.slice none 0 0) := load1_eq (by rw [k1 _ hne h.lb]; exact h.gb) rfl
  have hl0 : ∀ s, sLen .slice (.slice none 0 0) s = .ok (I 0, s) := fun s => rfl
  simp [-storeN_def, -sLen_slice, ix1, t1, c1, lb, hl0, Res.need]
  refine graph_Graph_walk_l0_of hF hJ ?_
  rw [graph_Graph_walk_l0_eq]
  simp [graph_Graph_walk_j1_eq hJ, c2]
  rw [← hQ]
  exact ⟨rfl, g1, by show st.next ≤ s1.next; omega, r1, fun id h1 h2 => k1 id h2 h1⟩

theorem Reached_ok {bh ah : Nat} {st : St} (h : G1 st bh ah) (hro : st.ro ≤ st.next) : Ok (K.go (.call n_graph_Graph_Reached [vG bh ah]) st) fun r => ∃ c, r.1 = Sl c 0 1 1 ∧ r.2.get c = some (.cells [B true]) ∧ Ext st r.2 := by
  generalize hQ : (fun r : Value × St => ∃ c, r.1 = Sl c 0 1 1 ∧ r.2.get c = some (.cells [B true]) ∧ Ext st r.2) = Q
  refine graph_Graph_Reached_of hF fun J hJ => ?_
  rw [graph_Graph_Reached_eq]
  simp
  refine (GLen_ok hF bh ah _).call fun s1 hE1 => ?_
  have E1 : Ext st s1 := Ext.trans (by simp) hE1
  have mk : sMkSlice 1 1 [.bool false] (I 1) (I 1) s1 = .ok (Sl s1.next 0 1 1, s1.alloc (.cells [.bool false])) := rfl
  simp [mk]
  refine (GLen_ok hF bh ah _).call fun s2 hE2 => ?_
  have E2 : Ext st s2 := E1.trans (Ext.trans (by simp) hE2)
  have hn : s1.next < s2.next := by have := hE2.next; simp at this; omega
  have gc : s2.get s1.next = some (.cells [.bool false]) := by rw [hE2.get _ (Nat.lt_succ_self _), get_alloc, if_pos rfl]
  have hlb := h.lb
  have hn1 := E1.next
  simp
  refine (Walk_ok hF (h.mono E2) gc (by rw [E2.ro]; omega) hn (by omega)).thn fun ⟨r1, s3⟩ ⟨e1, e2, e3, e4, e5⟩ => ?_
  simp only at e1 e2 e3 e4 e5 ⊢
  simp [graph_Graph_Reached_j0_eq hJ]
  rw [← hQ]
  exact ⟨s1.next, rfl, e2, by show st.next ≤ s3.next; have := E2.next; omega, e4.trans E2.ro, fun id hi => by rw [e5 id (by have := E2.next; omega) (by omega), E2.get _ hi]⟩

theorem ContainsB_ok {c : Nat} {st : St} (hc : st.get c = some (.cells [B true])) : K.go (.call n_slices_Contains_bool [Sl c 0 1 1, .bool false]) st = .ok (.bool false, st) := by
  refine Ok.eq (slices_Contains_bool_of hF fun J hJ => ?_)
  rw [slices_Contains_bool_eq]
  have hi : K.go (.call n_slices_Index_bool [Sl c 0 1 1, .bool false]) st = .ok (I (-1), st) := by
    refine Ok.eq (slices_Index_bool_of hF fun J hJ => ?_)
    rw [slices_Index_bool_eq]
    have hl : st.load1 c 0 = .ok (B true) := load1_eq hc rfl
    simp [-sLen_slice, len1]
    refine slices_Index_bool_l0_of hF hJ ?_
    rw [slices_Index_bool_l0_eq]
    simp [slices_Index_bool_j0_eq hJ, ix1, hl, slices_Index_bool_j2_eq hJ]
    rw [wrap_id (n := 1) (by omega)]
    refine slices_Index_bool_l0_of hF hJ ?_
    rw [slices_Index_bool_l0_eq]
    simp [slices_Index_bool_j1_eq hJ]
  simp [hi]

theorem SortNil_eq (st : St) : K.go (.call n_slices_Sort_int [.slice none 0 0]) st = .ok (.tuple #[], st) := by
  refine Ok.eq (slices_Sort_int_of hF fun J hJ => ?_)
  rw [slices_Sort_int_eq]
  have hl0 : ∀ s, sLen .slice (.slice none 0 0) s = .ok (I 0, s) := fun s => rfl
  have w0 : IntKind.u64.wrap 0 = 0 := by decide
  have hL : K.go (.call n_math_bits_Len [.int .u64 0]) st = .ok (I 0, st) := by
    refine Ok.eq (math_bits_Len_of hF fun J hJ => ?_)
    rw [math_bits_Len_eq]
    have h64 : K.go (.call n_math_bits_Len64 [.int .u64 0]) st = .ok (I 0, st) := by
      refine Ok.eq (math_bits_Len64_of hF fun J hJ => ?_)
      rw [math_bits_Len64_eq]
      simp [math_bits_Len64_j0_eq hJ, math_bits_Len64_j1_eq hJ, math_bits_Len64_j2_eq hJ]
      have w8 : IntKind.u8.wrap 0 = 0 := by decide
      have wi : IntKind.i64.wrap 0 = 0 := by decide
      generalize hb : Value.string _ = t
      have hix : ∀ s, sIxS t (.int .u8 0) s = .ok (.int .u8 0, s) := fun s => by subst hb; rfl
      simp [w8, hix, wi]
    simp [math_bits_Len_j0_eq hJ, h64]
  have hP : K.go (.call n_slices_pdqsortOrdered_int [.slice none 0 0, I 0, I 0, I 0]) st = .ok (.tuple #[], st) := by
    refine Ok.eq (slices_pdqsortOrdered_int_of hF fun J hJ => ?_)
    rw [slices_pdqsortOrdered_int_eq]
    refine slices_pdqsortOrdered_int_l0_of hF hJ ?_
    rw [slices_pdqsortOrdered_int_l0_eq]
    have wi : IntKind.i64.wrap 0 = 0 := by decide
    have hI : K.go (.call n_slices_insertionSortOrdered_int [.slice none 0 0, I 0, I 0]) st = .ok (.tuple #[], st) := by
      refine Ok.eq (slices_insertionSortOrdered_int_of hF fun J hJ => ?_)
      rw [slices_insertionSortOrdered_int_eq]
      simp
      rw [wrap_id (n := 1) (by omega)]
      refine slices_insertionSortOrdered_int_l0_of hF hJ ?_
      rw [slices_insertionSortOrdered_int_l0_eq]
      simp
    simp [wi, hI]
  simp [-sLen_slice, hl0, w0, hL, hP]
end Go.Proofs.Ytenfblnmmmppbaa.Sh

