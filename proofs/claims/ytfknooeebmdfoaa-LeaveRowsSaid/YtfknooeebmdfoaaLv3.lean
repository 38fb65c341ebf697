/-
  Moves in memory: DeleteFunc, Delete.
-/
import Derived.Test.YtfknooeebmdfoaaLv2
set_option linter.unusedVariables false
set_option linter.unusedSimpArgs false
set_option linter.unusedSectionVars false
set_option maxRecDepth 100000
namespace Go.Proofs.Ytfknooeebmdfoaa.Sh
open Go Go.AM Go.Proofs

def keep (m : Mv) : Bool := !decide (m.to = m.src)

theorem filter_first {l : List Mv} {i : Nat} (h : l.findIdx? (fun m => decide (m.to = m.src)) = some i) : i < l.length ∧ (l.take (i + 1)).filter keep = l.take i := by
  obtain ⟨hi, h1, h2⟩ := List.findIdx?_eq_some_iff_getElem.1 h
  refine ⟨hi, ?_⟩
  rw [List.take_add_one, List.filter_append, List.getElem?_eq_getElem hi]
  have hk : keep l[i] = false := by simpa [keep] using h1
  have : (l.take i).filter keep = l.take i := by
    refine List.filter_eq_self.2 fun m hm => ?_
    obtain ⟨k, hk, rfl⟩ := List.mem_take_iff_getElem.1 hm
    have := h2 k (by omega)
    simpa [keep] using this
  simp [this, hk]

section
variable {K : Ctx} (hF : Fix pgF K)
include hF

theorem MDelete_loop {J} (hJ : IsJ K (retK slices_DeleteFunc_leaveMove_c.results) J) {st0 : St} {c : Nat} {l : List Mv} (hc : c < st0.next) (hro : st0.ro ≤ c) (hl : l.length < 2 ^ 40) (d : Nat) : ∀ (i j : Nat) (st : St) (ms : List Mv), j + d = l.length → i < j → MB st c ms → ms.length = l.length → ms.take i = (l.take j).filter keep → ms.drop j = l.drop j → But c st0 st →
    Ok (slices_DeleteFunc_leaveMove_l0 J (Sl c 0 l.length 2) row1F (I i) (I j) st) fun r => ML r.2 c r.1 (l.filter keep) ∧ But c st0 r.2 := by
  induction d with
  | zero =>
    intro i j st ms hj hij hm hml ht hd hB
    generalize hQ : (fun r : Value × St => ML r.2 c r.1 (l.filter keep) ∧ But c st0 r.2) = Q
    have hlen : ∀ s, sLen .slice (Sl c 0 l.length 2) s = .ok (I l.length, s) := fun s => rfl
    refine slices_DeleteFunc_leaveMove_l0_of hF hJ ?_
    rw [slices_DeleteFunc_leaveMove_l0_eq]
    have : j = l.length := by omega
    subst this
    rw [List.take_length] at ht
    have hi : (l.filter keep).length = i := by rw [← ht, List.length_take]; omega
    have hB' := hB.ro
    obtain ⟨st', e1, e2, e3⟩ := mb_clear (k := i) (n := l.length - i) hm (by omega) (by omega)
    rw [ht] at e2
    have e4 := mb_slice_to (n := l.length) (hi := i) e2 (by simp; omega) (by simp; omega)
    simp [-sLen_slice, hlen, slices_DeleteFunc_leaveMove_j2_eq hJ, mb_slice_from hm (Nat.le_of_eq hml.symm) (show i ≤ l.length by omega), e1, e4]
    rw [← hQ]
    exact ⟨.inr ⟨by rw [hi], _, by rw [List.append_assoc] at e2; exact e2⟩, hB.trans e3⟩
  | succ d ih =>
    intro i j st ms hj hij hm hml ht hd hB
    generalize hQ : (fun r : Value × St => ML r.2 c r.1 (l.filter keep) ∧ But c st0 r.2) = Q
    refine slices_DeleteFunc_leaveMove_l0_of hF hJ ?_
    rw [slices_DeleteFunc_leaveMove_l0_eq]
    have hlen : ∀ s, sLen .slice (Sl c 0 l.length 2) s = .ok (I l.length, s) := fun s => rfl
    have hlt : j < l.length := by omega
    have hlt' : (j : Int) < l.length := by omega
    have hmj : ms[j]? = some l[j] := by
      have := congrArg (fun l => l[0]?) hd
      simpa [List.getElem?_drop, hlt] using this
    have hv : Value.agg (cM l[j]).toArray = vM l[j] := rfl
    have hup : ∀ s, sUpd 2 0 (.agg #[I 0, I 0]) (vM l[j]) s = .ok (vM l[j], s) := fun s => by simp [vM, Res.need]
    have hfi : ∀ s, sField (some 2) 0 (vM l[j]) s = .ok (vM l[j], s) := fun s => rfl
    have hd' : ms.drop (j + 1) = l.drop (j + 1) := by
      rw [← List.drop_drop, hd, List.drop_drop]
    simp [-sLen_slice, hlen, hlt', slices_DeleteFunc_leaveMove_j1_eq hJ, mb_ix hlt, mb_load hm hmj, hv, hup, hfi]
    refine (Row1_ok hF l[j] st.bump).call fun s hE2 => ?_
    have hEs : Ext st s := Ext.trans (by simp) hE2
    have hBs : But c st0 s := hB.trans (.of hEs)
    have hms : MB s c ms := (hEs.get c (Nat.lt_of_lt_of_le hc hB.next)).trans hm
    have htk : l.take (j + 1) = l.take j ++ [l[j]] := by rw [List.take_add_one, List.getElem?_eq_getElem hlt]; rfl
    by_cases hp : l[j].to = l[j].src
    · have hk : keep l[j] = false := by simp [keep, hp]
      simp [hp, slices_DeleteFunc_leaveMove_j3_eq hJ]
      rw [wrap_id (n := (j : Int) + 1) (by omega)]
      rw [← hQ]
      exact ih i (j + 1) s ms (by omega) (by omega) hms hml (by rw [htk, List.filter_append, ht]; simp [hk]) hd' hBs
    · have hk : keep l[j] = true := by simp [keep, hp]
      have hs := mb_set hms (by rw [hBs.ro]; exact hro) (i := i) (by omega) l[j]
      have hst : ∀ t : St, sStore 2 (P c (i * 2)) (vM l[j]) t = (t.storeN c (i * 2) (cM l[j]) >>= fun s => .ok (nothing, s)) := fun t => by
        simp [-storeN_def, vM, Res.need, cM]
      simp [-storeN_def, hp, hfi, mb_ix (show i < l.length by omega), hst, hs, slices_DeleteFunc_leaveMove_j3_eq hJ]
      rw [wrap_id (n := (j : Int) + 1) (by omega), wrap_id (n := (i : Int) + 1) (by omega)]
      rw [← hQ]
      refine ih (i + 1) (j + 1) _ (ms.set i l[j]) (by omega) (by omega) (by simp [MB]) (by simpa using hml) ?_ ?_ (hBs.put _)
      · rw [htk, List.filter_append, ← ht, List.take_add_one, List.getElem?_set_self (by omega), List.take_set_of_le (Nat.le_refl i)]
        simp [hk]
      · rw [List.drop_set_of_lt (by omega)]
        exact hd'

theorem MDeleteFunc_ok {st0 : St} {c : Nat} {v : Value} {l : List Mv} (hc : c ≤ st0.next) (hro : st0.ro ≤ c) (h : (l = [] ∧ ∃ k, v = .slice none 0 k) ∨ (c < st0.next ∧ v = Sl c 0 l.length 2 ∧ MB st0 c l)) (hl : l.length < 2 ^ 40) :
    Ok (K.go (.call n_slices_DeleteFunc_leaveMove [v, row1F]) st0) fun r => ML r.2 c r.1 (l.filter keep) ∧ But c st0 r.2 := by
  generalize hQ : (fun r : Value × St => ML r.2 c r.1 (l.filter keep) ∧ But c st0 r.2) = Q
  refine slices_DeleteFunc_leaveMove_of hF fun J hJ => ?_
  rw [slices_DeleteFunc_leaveMove_eq]
  have hr : RSl (fun id => id = c ∧ c < st0.next) st0 2 RMove v l := by
    rcases h with ⟨rfl, k, rfl⟩ | ⟨h0, rfl, hm⟩
    · exact .nil _ _ _ _ _
    · have := mb_rsl (A := fun id => id = c ∧ c < st0.next) (k := 0) (n := l.length) hm ⟨rfl, h0⟩ (by simp)
      simpa using this
  refine (MIndex_ok hF (p := fun m => decide (m.to = m.src)) (fun id h => by rw [h.1]; exact h.2) hr (by omega) fun m _ st _ => Row1_ok hF m st).call fun s hE => ?_
  have hro' : st0.ro ≤ c := hro
  cases hi : l.findIdx? (fun m => decide (m.to = m.src)) with
  | none =>
    have hx : idx (fun m => decide (m.to = m.src)) l = -1 := by unfold idx; rw [hi]
    have hf : l.filter keep = l := by
      refine List.filter_eq_self.2 fun m hm => ?_
      have := List.findIdx?_eq_none_iff.1 hi m hm
      simpa [keep] using this
    rw [hx]
    simp
    rw [← hQ, hf]
    refine ⟨?_, .of hE⟩
    rcases h with h | ⟨h0, rfl, hm⟩
    · exact .inl h
    · exact .inr ⟨rfl, [], by rw [List.append_nil]; exact (hE.get c h0).trans hm⟩
  | some i =>
    have hx : idx (fun m => decide (m.to = m.src)) l = i := by unfold idx; rw [hi]
    obtain ⟨h1, h2⟩ := filter_first hi
    rcases h with ⟨rfl, _⟩ | ⟨h0, rfl, hm⟩
    · simp at h1
    have hne : ¬ (i : Int) = -1 := by omega
    rw [hx]
    simp [hne, slices_DeleteFunc_leaveMove_j0_eq hJ]
    rw [wrap_id (n := (i : Int) + 1) (by omega)]
    rw [← hQ]
    exact MDelete_loop hF hJ h0 hro' hl (l.length - (i + 1)) i (i + 1) s l (by omega) (Nat.lt_succ_self _) ((hE.get c h0).trans hm) rfl h2.symm rfl (.of hE)

theorem MDelete_ok {st0 : St} {c i : Nat} {l z : List Mv} (hro : st0.ro ≤ c) (hm : MB st0 c (l ++ z)) (hi : i < l.length) (hl : l.length < 2 ^ 40) :
    Ok (K.go (.call n_slices_Delete_leaveMove [Sl c 0 l.length 2, I i, I ((i + 1 : Nat) : Int)]) st0) fun r => ML r.2 c r.1 (l.eraseIdx i) ∧ But c st0 r.2 := by
  generalize hQ : (fun r : Value × St => ML r.2 c r.1 (l.eraseIdx i) ∧ But c st0 r.2) = Q
  refine slices_Delete_leaveMove_of hF fun J hJ => ?_
  rw [slices_Delete_leaveMove_eq]
  have hle : l.length ≤ (l ++ z).length := by simp
  have e1 := mb_slice_max hm hle (show i ≤ i + 1 by omega) (show i + 1 ≤ l.length by omega)
  have hne : ¬ (i : Int) = (i : Int) + 1 := by omega
  have e2 := mb_slice_to hm hle (show i ≤ (l ++ z).length by omega)
  have e3 := mb_slice_from hm hle (show i + 1 ≤ l.length by omega)
  have hneed : ∀ {b : Bool} {s : String}, b = true → Res.need b s = .ok () := fun h => by subst h; rfl
  -- the rest moves up by one
  obtain ⟨st1, a1, a2, a3⟩ : ∃ st1, sAppend 2 16 (Sl c 0 i 2) (Sl c ((i + 1) * 2) (l.length - (i + 1)) 2) st0 = .ok (Sl c 0 (l.length - 1) 2, st1) ∧ MB st1 c (l.take i ++ l.drop (i + 1) ++ (l ++ z).drop (l.length - 1)) ∧ But c st0 st1 := by
    have hfirst : firstL st0 2 (l.length - (i + 1)) (Sl c ((i + 1) * 2) (l.length - (i + 1)) 2) = .ok (cMs (l.drop (i + 1))) := by
      have h' : st0.get c = some (.cells (cMs (l ++ z))) := hm
      have hx : ((cMs (l ++ z)).drop ((i + 1) * 2)).take ((l.length - (i + 1)) * 2) = cMs (l.drop (i + 1)) := by
        rw [cMs_drop, cMs_take, List.drop_append_of_le_length (by omega), List.take_append_of_le_length (by simp), List.take_of_length_le (by simp)]
      simp only [firstL, hneed (decide_eq_true (rfl : 2 = 2)), Res.bind_ok, St.loadN, cells_eq h', hneed (decide_eq_true (show (i + 1) * 2 + (l.length - (i + 1)) * 2 ≤ (cMs (l ++ z)).length by rw [cMs_len, List.length_append]; omega)), hx]
      rfl
    have hlen : (cMs (l.drop (i + 1))).length = (l.length - (i + 1)) * 2 := by rw [cMs_len, List.length_drop]
    by_cases h0 : l.length - (i + 1) = 0
    · refine ⟨st0, ?_, ?_, .refl _ _⟩
      · simp only [sAppend, aappend, lenL, hfirst, Res.bind_ok, hneed (decide_eq_true hlen), if_pos h0]
        rw [show l.length - 1 = i by omega]; rfl
      · have : l.take i ++ l.drop (i + 1) ++ (l ++ z).drop (l.length - 1) = l ++ z := by
          rw [List.drop_eq_nil_of_le (by omega), List.append_nil, show l.length - 1 = i by omega, ← List.take_append_of_le_length (l₂ := z) (show i ≤ l.length by omega), List.take_append_drop]
        rw [this]; exact hm
    · have hput := mb_put (i := i) (l := l.drop (i + 1)) hm hro (by simp; omega)
      have hbb : (i + (l.length - (i + 1))) * 16 ≤ mostBytes := by unfold mostBytes; omega
      refine ⟨st0.put c (.cells (cMs ((l ++ z).take i ++ l.drop (i + 1) ++ (l ++ z).drop (i + (l.drop (i + 1)).length)))), ?_, ?_, (But.refl _ _).put _⟩
      · have h' : st0.get c = some (.cells (cMs (l ++ z))) := hm
        have hin : 0 + (i + (l.length - (i + 1))) * 2 ≤ (cMs (l ++ z)).length := by rw [cMs_len, List.length_append]; omega
        have h00 : 0 + i * 2 = i * 2 := by omega
        simp only [sAppend, aappend, lenL, hfirst, Res.bind_ok, hneed (decide_eq_true hlen), if_neg h0, hneed (decide_eq_true hbb), hneed (cMs_ok _), hneed (decide_eq_true (rfl : 2 = 2)), cells_eq h', hneed (decide_eq_true hro), if_pos hin, h00, hput]
        rw [show i + (l.length - (i + 1)) = l.length - 1 by omega]; rfl
      · simp only [MB, get_put, if_true]
        rw [List.length_drop, show i + (l.length - (i + 1)) = l.length - 1 by omega, List.take_append_of_le_length (by omega)]
  obtain ⟨st2, b1, b2, b3⟩ := mb_clear (k := l.length - 1) (n := 1) a2 (by rw [a3.ro]; exact hro) (by simp; omega)
  have e4 := mb_slice (n := l.length - 1) (lo := l.length - 1) (hi := l.length) a2 (by simp; omega) (by omega) (by simp; omega)
  have w1 : l.length - (l.length - 1) = 1 := by omega
  rw [w1] at e4
  push_cast at e1 e3
  have hlen : ∀ s, sLen .slice (Sl c 0 l.length 2) s = .ok (I l.length, s) := fun s => rfl
  have hlen' : ∀ s, sLen .slice (Sl c 0 (l.length - 1) 2) s = .ok (I ((l.length - 1 : Nat) : Int), s) := fun s => rfl
  simp [-sLen_slice, hlen, hlen', hne, e1, slices_Delete_leaveMove_j0_eq hJ, e2, e3, a1, e4, b1]
  rw [← hQ]
  refine ⟨.inr ⟨?_, ?_⟩, a3.trans b3⟩
  · rw [List.length_eraseIdx, if_pos hi]
  · rw [List.eraseIdx_eq_take_drop_succ]
    have hl1 : (l.take i ++ l.drop (i + 1)).length = l.length - 1 := by simp; omega
    rw [← hl1, List.take_append_of_le_length (Nat.le_refl _), List.take_length] at b2
    rw [List.append_assoc] at b2
    exact ⟨_, b2⟩
end
end Go.Proofs.Ytfknooeebmdfoaa.Sh

