/-
  Copies, one behind the other: plain law. The law's Awake.
-/
import Derived.Test.YtenfblnmmmppbaaSr3
import Derived.Test.YtenfblnmmmppbaaIrSame
import Derived.Test.YtenfblnmmmppbaaIrLine
set_option linter.unusedVariables false
set_option linter.unusedSimpArgs false
set_option linter.unusedSectionVars false
set_option maxRecDepth 100000
namespace Go.Proofs.Ytenfblnmmmppbaa.Sh
open Go Go.AM Go.Proofs

theorem pget_mem {l : List (Int × Int)} {r q : Int} (h : pget l r = some q) : (r, q) ∈ l := by
  induction l with
  | nil => cases h
  | cons p l ih =>
    unfold pget at h
    split at h
    · rename_i e
      cases h
      subst e
      exact List.mem_cons_self ..
    · exact List.mem_cons_of_mem _ (ih h)
theorem flat_of {l : List (Int × Int)} (h : ∀ p ∈ l, pget l p.2 = none) : Flat l := fun r q e => h _ (pget_mem e)
theorem shTo_end {l : List Instr} {k : Nat} (h : l.length ≤ k) : shTo l k = shTo l l.length := by
  induction k with
  | zero => have : l.length = 0 := by omega
            rw [this]
  | succ k ih =>
    by_cases e : l.length = k + 1
    · rw [e]
    · have e1 : shTo l (k + 1) = (match l[k]? with | some x => shStep (shTo l k) x | none => shTo l k) := rfl
      rw [e1, List.getElem?_eq_none (by omega)]
      exact ih (by omega)

/-! the law's program -/
def cpI (i : Nat) : Instr := ⟨1, 0, i + 1, i, 0, 0, 0⟩
def cpL (m : Nat) (o : Int) : List Instr := ⟨3, 0, 0, 0, 0, 0, 0⟩ :: (List.range m).map cpI ++ [⟨4, 0, 0, o, 0, 0, 0⟩]
theorem cpL_len (m : Nat) (o : Int) : (cpL m o).length = m + 2 := by simp [cpL]
structure Cp (f : Sha) (j : Nat) : Prop where
  same : ∀ r, pget f.same r = if 1 ≤ r ∧ r ≤ j then some 0 else none
  keys : f.keys = []
  out : f.out = [⟨3, 0, 0, 0, 0, 0, 0⟩]
theorem Cp.ofm {f : Sha} {j : Nat} (h : Cp f j) {r : Int} (hr : 0 ≤ r ∧ r ≤ j) : ofm f.same r = 0 := by
  unfold Sh.ofm
  rw [h.same]
  split
  · rfl
  · show r = 0; omega
theorem cp_to {m : Nat} {o : Int} : ∀ {j : Nat}, j ≤ m → Cp (shTo (cpL m o) (j + 1)) j := by
  intro j
  induction j with
  | zero =>
    intro _
    have e : shTo (cpL m o) 1 = shStep ⟨[], [], []⟩ ⟨3, 0, 0, 0, 0, 0, 0⟩ := rfl
    rw [e]
    exact ⟨fun r => by rw [if_neg (by omega)]; rfl, rfl, rfl⟩
  | succ j ih =>
    intro hj
    have h := ih (by omega)
    have hlt : j + 1 < (cpL m o).length := by rw [cpL_len]; omega
    have hg : (cpL m o)[j + 1] = cpI j := by
      have : (cpL m o)[j + 1]? = some (cpI j) := by
        unfold cpL
        rw [List.cons_append, List.getElem?_cons_succ, List.getElem?_append_left (by simp; omega)]
        simp [List.getElem?_range (show j < m by omega)]
      exact (List.getElem?_eq_some_iff.1 this).2
    rw [shTo_succ hlt, hg]
    have ht : (cpI j).turned (Sh.ofm (shTo (cpL m o) (j + 1)).same) = ⟨1, 0, j + 1, 0, 0, 0, 0⟩ := by
      have := h.ofm (r := j) (by omega)
      simp [cpI, Instr.turned, this]
    unfold shStep
    rw [ht, if_pos rfl]
    refine ⟨fun r => ?_, h.keys, h.out⟩
    show pget (pput _ (j + 1) 0) r = _
    rw [pget_put, h.same]
    by_cases e : r = (j : Int) + 1
    · rw [if_pos e, if_pos (by omega)]
    · rw [if_neg e]
      by_cases e2 : 1 ≤ r ∧ r ≤ (j : Int)
      · rw [if_pos e2, if_pos (by omega)]
      · rw [if_neg e2, if_neg (by omega)]
theorem Cp.flat {f : Sha} {j : Nat} (h : Cp f j) : Flat f.same := fun r q e => by
  rw [h.same] at e
  split at e
  · cases e; rw [h.same, if_neg (by omega)]
  · cases e
theorem cp_last {m : Nat} {o : Int} (ho : 0 ≤ o ∧ o ≤ m) : (shTo (cpL m o) (m + 2)).same = (shTo (cpL m o) (m + 1)).same ∧ (shTo (cpL m o) (m + 2)).out = [⟨3, 0, 0, 0, 0, 0, 0⟩, ⟨4, 0, 0, 0, 0, 0, 0⟩] := by
  have h := cp_to (m := m) (o := o) (Nat.le_refl m)
  have hlt : m + 1 < (cpL m o).length := by rw [cpL_len]; omega
  have hg : (cpL m o)[m + 1] = ⟨4, 0, 0, o, 0, 0, 0⟩ := by
    have : (cpL m o)[m + 1]? = some ⟨4, 0, 0, o, 0, 0, 0⟩ := by
      unfold cpL
      rw [List.cons_append, List.getElem?_cons_succ, List.getElem?_append_right (by simp)]
      simp
    exact (List.getElem?_eq_some_iff.1 this).2
  rw [shTo_succ hlt, hg]
  have ht : (⟨4, 0, 0, o, 0, 0, 0⟩ : Instr).turned (Sh.ofm (shTo (cpL m o) (m + 1)).same) = ⟨4, 0, 0, 0, 0, 0, 0⟩ := by
    simp [Instr.turned, h.ofm ho]
  unfold shStep
  rw [ht, if_neg (show ¬ (4 : Int) = 1 by decide), if_neg (show ¬ reck ⟨4, 0, 0, 0, 0, 0, 0⟩ = true by decide)]
  exact ⟨rfl, by simp [h.out]⟩
theorem cp_flat {m : Nat} {o : Int} (ho : 0 ≤ o ∧ o ≤ m) (k : Nat) : Flat (shTo (cpL m o) k).same := by
  have h2 : Flat (shTo (cpL m o) (m + 2)).same := by rw [(cp_last ho).1]; exact (cp_to (Nat.le_refl m)).flat
  by_cases h : m + 2 ≤ k
  · rw [shTo_end (by rw [cpL_len]; exact h), cpL_len]; exact h2
  · cases k with
    | zero => exact flat_of (by simp [shTo])
    | succ k => exact (cp_to (by omega)).flat
theorem cp_out {m : Nat} {o : Int} (ho : 0 ≤ o ∧ o ≤ m) : shOut ⟨0, [], cpL m o, ⟨2, m, 0, 0⟩⟩ = ⟨0, [], [⟨3, 0, 0, 0, 0, 0, 0⟩, ⟨4, 0, 0, 0, 0, 0, 0⟩], ⟨2, 0, 0, 0⟩⟩ := by
  have h := cp_to (m := m) (o := o) (Nat.le_refl m)
  have h0 := h.ofm (r := 0) (by omega)
  have hm := h.ofm (r := m) (by omega)
  obtain ⟨e1, e2⟩ := cp_last ho
  unfold shOut
  simp only [cpL_len, e1, e2]
  simp [Last.reads, Instr.turned, h0, hm]
theorem cp_check {m : Nat} {o : Int} (hm : m ≤ 20) (ho : 0 ≤ o ∧ o ≤ m) : check [⟨0, [], cpL m o, ⟨2, m, 0, 0⟩⟩] = 0 := by
  have hc : count [⟨0, [], cpL m o, ⟨2, m, 0, 0⟩⟩] = m + 3 := by simp [count, cpL_len]; omega
  unfold check
  rw [if_neg (by simp), if_neg (by rw [hc]; omega), if_pos (by simp [dupGo])]
  refine ferr_zero fun e he => ?_
  rw [List.map_singleton, List.mem_singleton] at he
  rw [he]
  refine ferr_zero fun e he => ?_
  simp only [List.map_nil, List.nil_append, List.mem_append, List.mem_map, List.mem_singleton] at he
  rcases he with ⟨y, hy', rfl⟩ | rfl
  · have r0 : isReg 0 = true := rfl
    unfold cpL at hy'
    simp only [List.cons_append, List.mem_cons, List.mem_append, List.mem_map, List.mem_range, List.not_mem_nil, or_false] at hy'
    rcases hy' with rfl | ⟨i, hi, rfl⟩ | rfl
    · decide
    · have r1 : isReg ((i : Int) + 1) = true := reg_small3 (by omega)
      have r2 : isReg (i : Int) = true := reg_small3 (by omega)
      simp [Instr.check, cpI, Instr.only, Instr.sets, Instr.reads, r0, r1, r2]
    · have r1 : isReg o = true := reg_small3 (by omega)
      simp [Instr.check, Instr.only, Instr.sets, Instr.reads, r0, r1]
  · have hr : isReg (m : Int) = true := reg_small3 (by omega)
    simp [Last.check, Last.only, hr, Last.labels, lchk]

/-- A program of one block, just laid down. -/
theorem laid_prog {st : St} {c d : Nat} {li : List Instr} {m : Last} {A : Nat → Prop} (hc : st.get c = some (.cells (li.map cI).flatten)) (hd : st.get d = some (.cells (cB 0 (.slice none 0 0) (Sl c 0 li.length 7) m))) (hAc : A c) (hAd : A d) : RProg A st (Sl d 0 1 7) [⟨0, [], li, m⟩] :=
  .inr ⟨d, 0, _, rfl, hAd, hd, by simp [cB], fun i x hx => by
    cases i with
    | zero =>
      simp at hx
      subst hx
      exact ⟨.slice none 0 0, Sl c 0 li.length 7, rfl, .nil _ _ _ _ _, rsl_instrs li hc hAc⟩
    | succ i => simp at hx⟩

def a19 : List Instr := [⟨3, 0, 0, 0, 0, 0, 0⟩, ⟨3, 0, 1, 0, 0, 0, 0⟩, ⟨2, 0, 2, 0, 1, 0, 0⟩, ⟨2, 0, 3, 1, 0, 0, 0⟩]
theorem a19_flat (k : Nat) : Flat (shTo a19 k).same := by
  by_cases h : 4 ≤ k
  · rw [shTo_end h]; exact flat_of (by decide)
  · have : k = 0 ∨ k = 1 ∨ k = 2 ∨ k = 3 := by omega
    rcases this with rfl | rfl | rfl | rfl <;> exact flat_of (by decide)

variable {K : Ctx} (hF : Fix pgF K)
include hF

theorem Awake19_ok (st : St) (hro : st.ro ≤ st.next) : Ok (K.go (.call n_refinerylaw19_Awake []) st) fun r => r.1 = B true ∧ Ext st r.2 := by
  generalize hQ : (fun r : Value × St => r.1 = B true ∧ Ext st r.2) = Q
  refine refinerylaw19_Awake_of hF fun J hJ => ?_
  rw [refinerylaw19_Awake_eq]
  have b1 : ∀ s, sBuild [U 0, U 0, I 0, I 0, I 0, I 0, I 0] [(0, 1, U 3)] s = .ok (vI ⟨3, 0, 0, 0, 0, 0, 0⟩, s) := fun s => rfl
  have b2 : ∀ s, sBuild [U 0, U 0, I 0, I 0, I 0, I 0, I 0] [(0, 1, U 3), (2, 1, I 1)] s = .ok (vI ⟨3, 0, 1, 0, 0, 0, 0⟩, s) := fun s => rfl
  have b3 : ∀ s, sBuild [U 0, U 0, I 0, I 0, I 0, I 0, I 0] [(0, 1, U 2), (2, 1, I 2), (4, 1, I 1)] s = .ok (vI ⟨2, 0, 2, 0, 1, 0, 0⟩, s) := fun s => rfl
  have b4 : ∀ s, sBuild [U 0, U 0, I 0, I 0, I 0, I 0, I 0] [(0, 1, U 2), (2, 1, I 3), (3, 1, I 1)] s = .ok (vI ⟨2, 0, 3, 1, 0, 0, 0⟩, s) := fun s => rfl
  have b5 : sLit 7 4 [U 0, U 0, I 0, I 0, I 0, I 0, I 0, U 0, U 0, I 0, I 0, I 0, I 0, I 0, U 0, U 0, I 0, I 0, I 0, I 0, I 0, U 0, U 0, I 0, I 0, I 0, I 0, I 0] [(0, 7, vI ⟨3, 0, 0, 0, 0, 0, 0⟩), (7, 7, vI ⟨3, 0, 1, 0, 0, 0, 0⟩), (14, 7, vI ⟨2, 0, 2, 0, 1, 0, 0⟩), (21, 7, vI ⟨2, 0, 3, 1, 0, 0, 0⟩)] st = .ok (Sl st.next 0 4 7, st.alloc (.cells (a19.map cI).flatten)) := rfl
  have b6 : ∀ s, sBuild [U 0, I 0, I 0, I 0] [(0, 1, U 2), (1, 1, I 3)] s = .ok (vL ⟨2, 3, 0, 0⟩, s) := fun s => rfl
  have b7 : ∀ s, sBuild [I 0, .slice none 0 0, .slice none 0 0, U 0, I 0, I 0, I 0] [(2, 1, Sl st.next 0 4 7), (3, 4, vL ⟨2, 3, 0, 0⟩)] s = .ok (vB 0 (.slice none 0 0) (Sl st.next 0 4 7) ⟨2, 3, 0, 0⟩, s) := fun s => rfl
  generalize hs1 : st.alloc (.cells (a19.map cI).flatten) = s1 at b5
  have n1 : s1.next = st.next + 1 := by rw [← hs1]; rfl
  have E1 : Ext st s1 := by rw [← hs1]; simp
  have g1 : s1.get st.next = some (.cells (a19.map cI).flatten) := by rw [← hs1, get_alloc, if_pos rfl]
  clear hs1
  have b8 : ∀ v s, sBuild [.slice none 0 0] [(0, 1, .slice v 1 7)] s = .ok (.agg #[.slice v 1 7], s) := fun v s => rfl
  have hfc : ∀ v s, sField (some 1) 0 (.agg #[v]) s = .ok (.agg #[v], s) := fun v s => rfl
  have hE2 : Ext s1 ((s1.alloc (.cells (cB 0 (.slice none 0 0) (Sl st.next 0 4 7) ⟨2, 3, 0, 0⟩))).bump) := by simp
  have g2 : ((s1.alloc (.cells (cB 0 (.slice none 0 0) (Sl st.next 0 4 7) ⟨2, 3, 0, 0⟩))).bump).get s1.next = some (.cells (cB 0 (.slice none 0 0) (Sl st.next 0 4 7) ⟨2, 3, 0, 0⟩)) := by
    rw [get_bump, if_neg (by simp), get_alloc, if_pos rfl]
  have hu0 : ∀ s, sUpd 1 0 (.agg #[.slice none 0 0]) (.agg #[Sl s1.next 0 1 7]) s = .ok (.agg #[Sl s1.next 0 1 7], s) := fun s => by simp [Res.need]
  simp [b1, b2, b3, b4, b5, b6, b7, b8, hu0, hfc]
  generalize hs3 : (s1.alloc (.cells (cB 0 (.slice none 0 0) (Sl st.next 0 4 7) ⟨2, 3, 0, 0⟩))).bump = s3 at *
  have n3 : s3.next = st.next + 3 := by rw [← hs3]; simp [n1]
  have hX := E1.trans hE2
  have hp : RProg (Bel s3.next) s3 (Sl s1.next 0 1 7) [⟨0, [], a19, ⟨2, 3, 0, 0⟩⟩] := laid_prog (c := st.next) (by rw [hE2.get _ (by omega)]; exact g1) g2 (by show st.next < s3.next; omega) (by show s1.next < s3.next; omega)
  have hck : check [⟨0, [], a19, ⟨2, 3, 0, 0⟩⟩] = 0 := by decide
  refine (Share_ok hF (fun id h => h) (hX.roOk hro) hp hck rfl rfl (by decide) a19_flat).thn fun ⟨r1, s4⟩ ⟨vq, h1, h2, hE4⟩ => ?_
  simp only at h1 h2 hE4 ⊢
  subst h1
  have ho : shOut ⟨0, [], a19, ⟨2, 3, 0, 0⟩⟩ = ⟨0, [], [⟨3, 0, 0, 0, 0, 0, 0⟩, ⟨3, 0, 1, 0, 0, 0, 0⟩, ⟨2, 0, 2, 0, 1, 0, 0⟩], ⟨2, 2, 0, 0⟩⟩ := by decide
  rw [ho] at h2
  have hlen : ∀ s, sLen .slice vq s = .ok (I 1, s) := RSl.len h2
  obtain ⟨bb, o, cs, k1, k2, ⟨vp, vi, rfl, p1, p2⟩, -, -, hl⟩ := RSl.at h2 (i := 0) rfl
  have hu1 : ∀ s, sUpd 1 0 (.agg #[.slice none 0 0]) (.agg #[vq]) s = .ok (.agg #[vq], s) := fun s => by
    rcases h2 with ⟨h, _⟩ | ⟨b, o, xs, rfl, _⟩
    · cases h
    · simp [Res.need]
  have k1 : ∀ s, sIxA 7 none vq (I 0) s = .ok (P bb o, s) := k1
  have hag : Agree (Bel s4.next) s4 s4.bump := fun id hid => by rw [get_bump, if_neg (Nat.ne_of_lt hid)]
  have l2 : s4.bump.load1 bb (o + 2) = .ok vi := hl s4.bump 2 vi hag rfl
  have l4 : s4.bump.load1 bb (o + 3 + 1) = .ok (I 2) := hl s4.bump 4 (I 2) hag rfl
  have hl3 : ∀ s, sLen .slice vi s = .ok (I 3, s) := p2.len
  simp [-sLen_slice, hu1, hlen, k1, l2, hl3, l4]
  rw [← hQ]
  exact ⟨rfl, (hX.trans hE4).bump⟩
end Go.Proofs.Ytenfblnmmmppbaa.Sh

