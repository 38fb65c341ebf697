/-
  Sweep of a fixed program: Needed; Sweep; Awake; SweepDoes.
-/
import Derived.Test.YtenfblnmmmppbaaSw2
import Derived.Test.YtenfblnmmmppbaaIrArgs
import Derived.Test.YtenfblnmmmppbaaShL3
set_option linter.unusedVariables false
set_option linter.unusedSimpArgs false
set_option linter.unusedSectionVars false
set_option maxRecDepth 100000
namespace Go.Proofs.Ytenfblnmmmppbaa.Sh
open Go Go.AM Go.Proofs

variable {K : Ctx} (hF : Fix pgF K)
include hF

theorem Needed_tail {J} (hJ : IsJ K (retK sweep_Needed_c.results) J) {st0 st : St} {ob qb mb fb nb : Nat} {es : List (Value × Value)} {v17 : Value} (hro : st0.ro ≤ st0.next) (h : NI st0 st ob qb mb fb nb es) :
    Ok (sweep_Needed_j1 J (.agg #[.slice none 0 0]) (P ob 0) (P qb 0) (P fb 0) (P nb 0) v17 st) fun r => r.1 = .agg #[.slice none 0 0] ∧ Ext st0 r.2 := by
  generalize hQ : (fun r : Value × St => r.1 = .agg #[.slice none 0 0] ∧ Ext st0 r.2) = Q
  rw [sweep_Needed_j1_eq hJ]
  have f4 : Ok (K.go (.call n_bag_Queue_int_Drain [P qb 0]) st) fun r => r = (.func (.func n_bag_Queue_int_Drain_1) #[] #[P st.next 0], st.alloc (.cells [P qb 0])) := by
    refine bag_Queue_int_Drain_of hF fun J hJ => ?_
    rw [bag_Queue_int_Drain_eq]
    simp
  refine f4.thn fun r hr => ?_
  subst hr
  simp only
  rw [sweep_Needed_j2_eq hJ]
  have h5 := h.mono (s' := st.alloc (.cells [P qb 0])) (by simp)
  have g5 : (st.alloc (.cells [P qb 0])).get st.next = some (.cells [P qb 0]) := by rw [get_alloc, if_pos rfl]
  have n5 : (st.alloc (.cells [P qb 0])).next = st.next + 1 := rfl
  generalize (st.alloc (.cells [P qb 0])) = s5 at *
  have hcall : taskOf (.func (.func n_bag_Queue_int_Drain_1) #[] #[P st.next 0]) [.func (.yield s5.next) #[] #[]] = .ok (.call n_bag_Queue_int_Drain_1 [.func (.yield s5.next) #[] #[], P st.next 0]) := by simp [taskOf]
  refine sRange_of hcall rfl ?_
  generalize ho : AObj.loop _ _ _ _ _ _ = o
  have h6 := h5.mono (s' := s5.alloc o) (by simp)
  have g6 : (s5.alloc o).load1 st.next 0 = .ok (P qb 0) := load1_eq (by rw [get_alloc, if_neg (by omega)]; exact g5) rfl
  have gL : (s5.alloc o).get s5.next = some o := by rw [get_alloc, if_pos rfl]
  have hD : Ok (K.go (.call n_bag_Queue_int_Drain_1 [.func (.yield s5.next) #[] #[], P st.next 0]) (s5.alloc o)) fun r => r = (.tuple #[], s5.alloc o) := by
    refine bag_Queue_int_Drain_1_of hF fun J hJ => ?_
    rw [bag_Queue_int_Drain_1_eq]
    have ht := Take0_eq hF h6.g2
    simp [g6, ht, Res.of]
    refine bag_Queue_int_Drain_1_l0_of hF hJ ?_
    rw [bag_Queue_int_Drain_1_l0_eq]
    simp
  refine hD.mono fun r hr => ?_
  subst hr
  subst ho
  refine ⟨_, _, _, _, _, gL, ?_⟩
  rw [sweep_Needed_x0_n, sweep_Needed_j6_eq hJ]
  have hk := h5.k6
  have hkk := h.k6; have e1 := h.k5; have e2 := h.k4; have e3 := h.k3; have e4 := h.k2; have e5 := h.k1
  have hld : ∀ s : St, s.get ob = some (.cells [.slice none 0 0]) → s.loadN ob 0 1 = .ok [.slice none 0 0] := fun s hs => by rw [loadN_def, hs]; simp [Res.need]
  have hob : ∀ (o : AObj), ((s5.alloc o).put s5.next .dead).get ob = some (.cells [.slice none 0 0]) := fun o => by rw [get_put, if_neg (by omega), get_alloc, if_neg (by omega)]; exact h5.g1
  simp [hld _ (hob _), Res.need, oneOf]
  rw [← hQ]
  exact ⟨rfl, (h5.ext.alloc _).put (by have := h5.ext.next; omega) _⟩

theorem Needed0_ok {A : Nat → Prop} {st : St} {v : Value} (hA : ∀ id, A id → id < st.next) (hro : st.ro ≤ st.next) (hp : RProg A st v awP) : Ok (K.go (.call n_sweep_Needed [.agg #[v]]) st) fun r => r.1 = .agg #[.slice none 0 0] ∧ Ext st r.2 := by
  generalize hQ : (fun r : Value × St => r.1 = .agg #[.slice none 0 0] ∧ Ext st r.2) = Q
  refine sweep_Needed_of hF fun J hJ => ?_
  rw [sweep_Needed_eq]
  generalize ha0 : st.bump.bump = a0
  have n0 : a0.next = st.next + 2 := by rw [← ha0]; rfl
  have E0 : Ext st a0 := by rw [← ha0]; simp
  have hb : st.bump.bump = a0 := ha0
  have q1 : sNew [.slice none 0 0] a0 = .ok (P a0.next 0, a0.alloc (.cells [.slice none 0 0])) := rfl
  generalize ha1 : a0.alloc (.cells [.slice none 0 0]) = a1 at q1
  have n1 : a1.next = a0.next + 1 := by rw [← ha1]; rfl
  have E1 : Ext a0 a1 := by rw [← ha1]; simp
  have g1 : a1.get a0.next = some (.cells [.slice none 0 0]) := by rw [← ha1, get_alloc, if_pos rfl]
  have q2 : sNew [.slice none 0 0, .map none] a1 = .ok (P a1.next 0, a1.alloc (.cells [.slice none 0 0, .map none])) := rfl
  generalize ha2 : a1.alloc (.cells [.slice none 0 0, .map none]) = a2 at q2
  have n2 : a2.next = a1.next + 1 := by rw [← ha2]; rfl
  have E2 : Ext a1 a2 := by rw [← ha2]; simp
  have g2 : a2.get a1.next = some (.cells [.slice none 0 0, .map none]) := by rw [← ha2, get_alloc, if_pos rfl]
  have q3 : sNewMap a2 = .ok (.map (some a2.next), a2.alloc (.map [])) := rfl
  generalize ha3 : a2.alloc (.map []) = a3 at q3
  have n3 : a3.next = a2.next + 1 := by rw [← ha3]; rfl
  have E3 : Ext a2 a3 := by rw [← ha3]; simp
  have g3 : a3.get a2.next = some (.map []) := by rw [← ha3, get_alloc, if_pos rfl]
  have hr3 : a3.ro ≤ a3.next := (((E0.trans E1).trans E2).trans E3).roOk hro
  have q4 : sNew [.map none] a3 = .ok (P a3.next 0, a3.alloc (.cells [.map none])) := rfl
  have q5 : (a3.alloc (.cells [.map none])).storeN a3.next 0 [.map (some a2.next)] = .ok ((a3.alloc (.cells [.map none])).put a3.next (.cells [.map (some a2.next)])) := by simp [hr3, Res.need]
  generalize ha5 : (a3.alloc (.cells [.map none])).put a3.next (.cells [.map (some a2.next)]) = a5 at q5
  have n5 : a5.next = a3.next + 1 := by rw [← ha5]; rfl
  have E5 : Ext a3 a5 := by rw [← ha5]; exact (Ext.alloc (Ext.refl _) _).put (Nat.le_refl _) _
  have g5 : a5.get a3.next = some (.cells [.map (some a2.next)]) := by rw [← ha5, get_put, if_pos rfl]
  have hr5 : a5.ro ≤ a5.next := E5.roOk hr3
  have q6 : sNew [.nilFunc] a5 = .ok (P a5.next 0, a5.alloc (.cells [.nilFunc])) := rfl
  have q7 : (a5.alloc (.cells [.nilFunc])).storeN a5.next 0 [needF a0.next a1.next] = .ok ((a5.alloc (.cells [.nilFunc])).put a5.next (.cells [needF a0.next a1.next])) := by
    have : cellOk (needF a0.next a1.next) = true := rfl
    simp [hr5, Res.need, this]
  generalize ha7 : (a5.alloc (.cells [.nilFunc])).put a5.next (.cells [needF a0.next a1.next]) = a7 at q7
  have n7 : a7.next = a5.next + 1 := by rw [← ha7]; rfl
  have E7 : Ext a5 a7 := by rw [← ha7]; exact (Ext.alloc (Ext.refl _) _).put (Nat.le_refl _) _
  have g7 : a7.get a5.next = some (.cells [needF a0.next a1.next]) := by rw [← ha7, get_put, if_pos rfl]
  have hX := ((((E0.trans E1).trans E2).trans E3).trans E5).trans E7
  have hni : NI st a7 a0.next a1.next a2.next a3.next a5.next [] :=
    ⟨hX, by omega, by omega, by omega, by omega, by omega, by omega, by rw [E7.get _ (by omega), E5.get _ (by omega), E3.get _ (by omega), E2.get _ (by omega)]; exact g1, by rw [E7.get _ (by omega), E5.get _ (by omega), E3.get _ (by omega)]; exact g2, by rw [E7.get _ (by omega), E5.get _ (by omega)]; exact g3, by rw [E7.get _ (by omega)]; exact g5, g7⟩
  have hnf : Value.func (.func n_sweep_Needed_1) #[] #[P a0.next 0, P a1.next 0] = needF a0.next a1.next := rfl
  have hst7 : sStore 1 (P a5.next 0) (needF a0.next a1.next) (a5.alloc (.cells [.nilFunc])) = .ok (nothing, a7) := by
    have e1 : isTuple (needF a0.next a1.next) = false := rfl
    have e2 : (needF a0.next a1.next).cells.toList = [needF a0.next a1.next] := rfl
    have e3 : (needF a0.next a1.next).cells.size = 1 := rfl
    simp only [sStore, asPtr, Res.bind_ok, e1, e2, e3, q7]
    rfl
  clear ha0 ha1 ha2 ha3 ha5 ha7
  have hlen := RSl.len hp
  have hlen : ∀ s, sLen .slice v s = .ok (I 1, s) := hlen
  simp [-sNew_eq, -storeN_def, -sLen_slice, hb, q1, q2, q3, q4, q5, q6, hnf, hst7, Res.of, hlen, Res.need]
  -- the one block
  refine sweep_Needed_l0_of hF hJ ?_
  rw [sweep_Needed_l0_eq]
  obtain ⟨b, o, cs, k1, k2, ⟨vp, vi, rfl, p1, p2⟩, -⟩ := RSl.at hp (i := 0) (x := ⟨0, [], [⟨0, 0, 0, 0, 0, 5, 0⟩, ⟨3, 0, 1, 0, 0, 0, 0⟩], ⟨3, 0, 0, 0⟩⟩) rfl
  have k1 : ∀ s, sIxA 7 none v (I 0) s = .ok (P b o, s) := k1
  have hv : Value.agg #[I 0, vp, vi, U 3, I 0, I 0, I 0] = vB 0 vp vi ⟨3, 0, 0, 0⟩ := rfl
  have hup : ∀ s, sUpd 7 0 (.agg #[I 0, .slice none 0 0, .slice none 0 0, U 0, I 0, I 0, I 0]) (vB 0 vp vi ⟨3, 0, 0, 0⟩) s = .ok (vB 0 vp vi ⟨3, 0, 0, 0⟩, s) := fun s => by simp [vB, Res.need, p1.cell, p2.cell]
  have l1 : ∀ s, sLen .slice vp s = .ok (I 0, s) := p1.len
  have l2 : ∀ s, sLen .slice vi s = .ok (I 2, s) := p2.len
  simp [-sLen_slice, sweep_Needed_j0_eq hJ, k1, k2 a7 (hX.agree hA), hv, hup, l1]
  refine sweep_Needed_l1_of hF hJ ?_
  rw [sweep_Needed_l1_eq]
  simp [-sLen_slice, sweep_Needed_j4_eq hJ, l2]
  have h8 := hni.mono (s' := a7.bump) (by simp)
  have hfin : ∀ s es, NI st s a0.next a1.next a2.next a3.next a5.next es → Ok (sweep_Needed_l2 J (.agg #[.slice none 0 0]) (P a0.next 0) (P a1.next 0) (P a3.next 0) (P a5.next 0) (vB 0 vp vi ⟨3, 0, 0, 0⟩) nothing v (I 1) (I 0) vi (I 2) (I 2) s) Q := fun s es hs => by
    refine sweep_Needed_l2_of hF hJ ?_
    rw [sweep_Needed_l2_eq]
    simp [sweep_Needed_j8_eq hJ]
    refine (LReads_ok hF ⟨3, 0, 0, 0⟩ _).call fun s2 hE2 => ?_
    have h2 := hs.mono hE2
    simp [Res.of, Last.reads, sweep_Needed_j10_eq hJ]
    rw [wrap_id (n := 1) (by omega)]
    refine sweep_Needed_l0_of hF hJ ?_
    rw [sweep_Needed_l0_eq]
    simp
    rw [← hQ]
    exact Needed_tail hF hJ hro h2
  refine Needed_step hF hJ (J := J) (Q := Q) (j := 0) hro hA p2 (by decide) (by decide) (by decide) (by decide) h8 rfl fun s9 h9 => ?_
  refine Needed_step hF hJ (J := J) (Q := Q) (j := 1) hro hA p2 (by decide) (by decide) (by decide) (by decide) h9 rfl fun s10 h10 => ?_
  exact hfin s10 _ h10
end Go.Proofs.Ytenfblnmmmppbaa.Sh

