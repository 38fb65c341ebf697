/-
  Moves in memory: their closures; IndexFunc, ContainsFunc of them.
-/
import Derived.Test.YtfknooeebmdfoaaIrSmall
set_option linter.unusedVariables false
set_option linter.unusedSimpArgs false
set_option linter.unusedSectionVars false
set_option maxRecDepth 100000
namespace Go.Proofs.Ytfknooeebmdfoaa.Sh
open Go Go.AM Go.Proofs

structure Mv where
  to : Int
  src : Int
deriving DecidableEq

def cM (m : Mv) : List Value := [I m.to, I m.src]
def vM (m : Mv) : Value := .agg #[I m.to, I m.src]
def cMs (l : List Mv) : List Value := (l.map cM).flatten
def RMove (cs : List Value) (m : Mv) : Prop := cs = cM m

theorem cM_len (l : List Mv) : ∀ cs ∈ l.map cM, cs.length = 2 := fun cs h => by
  obtain ⟨m, _, rfl⟩ := List.mem_map.1 h
  rfl
theorem cMs_len (l : List Mv) : (cMs l).length = l.length * 2 := by
  unfold cMs
  rw [flat_len (cM_len l), List.length_map]
theorem cMs_append (a b : List Mv) : cMs (a ++ b) = cMs a ++ cMs b := by simp [cMs]
theorem cMs_cons (m : Mv) (l : List Mv) : cMs (m :: l) = cM m ++ cMs l := by simp [cMs]
theorem cMs_at {l : List Mv} {i : Nat} {m : Mv} (h : l[i]? = some m) : ((cMs l).drop (i * 2)).take 2 = cM m := flat_at (cM_len l) (by simp [h])
theorem cMs_drop (l : List Mv) (i : Nat) : (cMs l).drop (i * 2) = cMs (l.drop i) := by
  induction l generalizing i with
  | nil => simp [cMs]
  | cons m l ih =>
    cases i with
    | zero => simp
    | succ i =>
      rw [cMs_cons, show (i + 1) * 2 = (cM m).length + i * 2 by simp [cM]; omega, ← List.drop_drop, List.drop_left' rfl]
      exact ih i
theorem cMs_take (l : List Mv) (i : Nat) : (cMs l).take (i * 2) = cMs (l.take i) := by
  induction l generalizing i with
  | nil => simp [cMs]
  | cons m l ih =>
    cases i with
    | zero => simp [cMs]
    | succ i =>
      rw [cMs_cons, show (i + 1) * 2 = (cM m).length + i * 2 by simp [cM]; omega, List.take_length_add_append, List.take_succ_cons, cMs_cons, ih i]
theorem cMs_ok (l : List Mv) : (cMs l).all cellOk = true := by
  induction l with
  | nil => rfl
  | cons m l ih => rw [cMs_cons, List.all_append, ih]; rfl

/-- A block of moves. -/
def MB (st : St) (c : Nat) (ms : List Mv) : Prop := st.get c = some (.cells (cMs ms))

theorem mb_rsl {A : Nat → Prop} {st : St} {c : Nat} {ms : List Mv} (h : MB st c ms) (hA : A c) {k n : Nat} (hk : k + n ≤ ms.length) : RSl A st 2 RMove (Sl c (k * 2) n 2) ((ms.drop k).take n) := by
  have hn : ((ms.drop k).take n).length = n := by rw [List.length_take, List.length_drop]; omega
  refine .inr ⟨c, k * 2, _, by rw [hn], hA, h, by rw [hn, cMs_len]; omega, fun i m hm => ?_⟩
  rw [show k * 2 + i * 2 = (k + i) * 2 by omega]
  refine cMs_at ?_
  have hi : i < n := by have := (List.getElem?_eq_some_iff.1 hm).1; omega
  rw [List.getElem?_take, if_pos hi, List.getElem?_drop] at hm
  exact hm

def row1F : Value := .func (.func n_leave_Row_1) #[] #[]
def row3F (b : Nat) : Value := .func (.func n_leave_Row_3) #[] #[P b 0]
def row31F (b : Nat) : Value := .func (.func n_leave_Row_3_1) #[] #[P b 0]

/-- Where the first one is. -/
def idx (p : Mv → Bool) (l : List Mv) : Int := match l.findIdx? p with | some i => i | none => -1

section
variable {K : Ctx} (hF : Fix pgF K)
include hF

theorem Row1_ok (m : Mv) (st : St) : Ok (sCall K row1F [vM m] st) fun r => r.1 = B (decide (m.to = m.src)) ∧ Ext st r.2 := by
  have e : sCall K row1F [vM m] st = K.go (.call n_leave_Row_1 [vM m]) st := by simp [sCall, row1F, taskOf]
  rw [e]
  refine leave_Row_1_of hF fun J hJ => ?_
  rw [leave_Row_1_eq]
  simp [vM, Res.of]

theorem Row31_ok {b : Nat} {m : Mv} {st : St} (hb : b < st.next) (h : st.get b = some (.cells (cM m))) (o : Mv) : Ok (sCall K (row31F b) [vM o] st) fun r => r.1 = B (decide (o.src = m.to)) ∧ Ext st r.2 := by
  have e : sCall K (row31F b) [vM o] st = K.go (.call n_leave_Row_3_1 [vM o, P b 0]) st := by simp [sCall, row31F, taskOf]
  rw [e]
  refine leave_Row_3_1_of hF fun J hJ => ?_
  rw [leave_Row_3_1_eq]
  have hld : st.bump.load1 b 0 = .ok (I m.to) := load1_eq (by rw [get_bump, if_neg (by omega)]; exact h) rfl
  simp [vM, Res.of, hld]

theorem idx_drop {p : Mv → Bool} {l : List Mv} {i : Nat} (hi : i < l.length) (h : p l[i] = false) : (match (l.drop i).findIdx? p with | some k => ((i + k : Nat) : Int) | none => -1) = match (l.drop (i + 1)).findIdx? p with | some k => ((i + 1 + k : Nat) : Int) | none => -1 := by
  rw [List.drop_eq_getElem_cons hi, List.findIdx?_cons, h]
  cases (l.drop (i + 1)).findIdx? p with
  | none => rfl
  | some k => simp; omega

theorem MIndex_loop {J} (hJ : IsJ K (retK slices_IndexFunc_leaveMove_c.results) J) {A : Nat → Prop} {st0 : St} {v f : Value} {l : List Mv} {p : Mv → Bool} (hA : ∀ id, A id → id < st0.next) (hl : RSl A st0 2 RMove v l) (hlen : l.length < 2 ^ 62)
    (hf : ∀ m ∈ l, ∀ st, Ext st0 st → Ok (sCall K f [vM m] st) fun r => r.1 = B (p m) ∧ Ext st r.2) (d : Nat) : ∀ (i : Nat) (st : St), i + d = l.length → Ext st0 st →
    Ok (slices_IndexFunc_leaveMove_l0 J v f (I l.length) (I i) st) fun r => r.1 = I (match (l.drop i).findIdx? p with | some k => ((i + k : Nat) : Int) | none => -1) ∧ Ext st0 r.2 := by
  induction d with
  | zero =>
    intro i st hi hE
    refine slices_IndexFunc_leaveMove_l0_of hF hJ ?_
    rw [slices_IndexFunc_leaveMove_l0_eq]
    have : i = l.length := by omega
    subst this
    simp [slices_IndexFunc_leaveMove_j1_eq hJ]
    exact hE
  | succ d ih =>
    intro i st hi hE
    generalize hn : (match (l.drop i).findIdx? p with | some k => ((i + k : Nat) : Int) | none => -1) = n
    generalize hQ : (fun r : Value × St => r.1 = I n ∧ Ext st0 r.2) = Q
    refine slices_IndexFunc_leaveMove_l0_of hF hJ ?_
    rw [slices_IndexFunc_leaveMove_l0_eq]
    have hlt : i < l.length := by omega
    have hlt' : (i : Int) < l.length := by omega
    obtain ⟨b, o, cs, hix, hld, hcs, -⟩ := hl.at (List.getElem?_eq_getElem hlt)
    have hcs : cs = cM l[i] := hcs
    subst hcs
    have hv : Value.agg (cM l[i]).toArray = vM l[i] := rfl
    simp [hlt', slices_IndexFunc_leaveMove_j0_eq hJ, hix, hld _ (hE.agree hA), hv]
    refine (hf _ (List.getElem_mem hlt) st hE).call fun s hE2 => ?_
    cases hp : p l[i] with
    | true =>
      simp
      rw [← hQ, ← hn]
      refine ⟨?_, hE.trans hE2⟩
      rw [List.drop_eq_getElem_cons hlt, List.findIdx?_cons, hp]
      rfl
    | false =>
      simp [slices_IndexFunc_leaveMove_j2_eq hJ]
      rw [wrap_id (n := (i : Int) + 1) (by omega)]
      rw [← hQ, ← hn, idx_drop hF hlt hp]
      exact ih (i + 1) s (by omega) (hE.trans hE2)

theorem MIndex_ok {A : Nat → Prop} {st0 : St} {v f : Value} {l : List Mv} {p : Mv → Bool} (hA : ∀ id, A id → id < st0.next) (hl : RSl A st0 2 RMove v l) (hlen : l.length < 2 ^ 62)
    (hf : ∀ m ∈ l, ∀ st, Ext st0 st → Ok (sCall K f [vM m] st) fun r => r.1 = B (p m) ∧ Ext st r.2) : Ok (K.go (.call n_slices_IndexFunc_leaveMove [v, f]) st0) fun r => r.1 = I (idx p l) ∧ Ext st0 r.2 := by
  generalize hQ : (fun r : Value × St => r.1 = I (idx p l) ∧ Ext st0 r.2) = Q
  refine slices_IndexFunc_leaveMove_of hF fun J hJ => ?_
  rw [slices_IndexFunc_leaveMove_eq]
  simp [hl.len]
  have := MIndex_loop hF hJ hA hl hlen hf l.length 0 st0 (by omega) (Ext.refl _)
  rw [← hQ]
  simpa [idx] using this

theorem idx_any (p : Mv → Bool) (l : List Mv) : decide (0 ≤ idx p l) = l.any p := by
  unfold idx
  cases h : l.findIdx? p with
  | none =>
    have := List.findIdx?_eq_none_iff.1 h
    symm
    simpa using this
  | some i =>
    obtain ⟨hi, h1, _⟩ := List.findIdx?_eq_some_iff_getElem.1 h
    rw [decide_eq_true (Int.natCast_nonneg i)]
    symm
    exact List.any_eq_true.2 ⟨_, List.getElem_mem hi, h1⟩

theorem MContains_ok {A : Nat → Prop} {st0 : St} {v f : Value} {l : List Mv} {p : Mv → Bool} (hA : ∀ id, A id → id < st0.next) (hl : RSl A st0 2 RMove v l) (hlen : l.length < 2 ^ 62)
    (hf : ∀ m ∈ l, ∀ st, Ext st0 st → Ok (sCall K f [vM m] st) fun r => r.1 = B (p m) ∧ Ext st r.2) : Ok (K.go (.call n_slices_ContainsFunc_leaveMove [v, f]) st0) fun r => r.1 = B (l.any p) ∧ Ext st0 r.2 := by
  generalize hQ : (fun r : Value × St => r.1 = B (l.any p) ∧ Ext st0 r.2) = Q
  refine slices_ContainsFunc_leaveMove_of hF fun J hJ => ?_
  rw [slices_ContainsFunc_leaveMove_eq]
  refine (MIndex_ok hF hA hl hlen hf).call fun s hE => ?_
  simp [idx_any hF]
  rw [← hQ]
  exact ⟨rfl, hE⟩

/-- Does no move read what this one sets? -/
def free (l : List Mv) (m : Mv) : Bool := !l.any fun o => decide (o.src = m.to)

theorem Row3_ok {A : Nat → Prop} {st : St} {b : Nat} {v : Value} {l : List Mv} (hA : ∀ id, A id → id < st.next) (hb : b < st.next) (hg : st.get b = some (.cells [v])) (hl : RSl A st 2 RMove v l) (hlen : l.length < 2 ^ 62) (m : Mv) : Ok (sCall K (row3F b) [vM m] st) fun r => r.1 = B (free l m) ∧ Ext st r.2 := by
  have e : sCall K (row3F b) [vM m] st = K.go (.call n_leave_Row_3 [vM m, P b 0]) st := by simp [sCall, row3F, taskOf]
  rw [e]
  generalize hQ : (fun r : Value × St => r.1 = B (free l m) ∧ Ext st r.2) = Q
  refine leave_Row_3_of hF fun J hJ => ?_
  rw [leave_Row_3_eq]
  have hbx : sBox (vM m) st = .ok (P st.next 0, st.alloc (.cells (cM m))) := rfl
  have hE : Ext st (st.alloc (.cells (cM m))) := by simp
  have hld : (st.alloc (.cells (cM m))).load1 b 0 = .ok v := load1_eq (by rw [hE.get _ hb]; exact hg) rfl
  simp [hbx, hld]
  have hA' : ∀ id, A id → id < (st.alloc (.cells (cM m))).next := fun id h => Nat.lt_succ_of_lt (hA id h)
  refine (MContains_ok hF (p := fun o => decide (o.src = m.to)) hA' (hl.mono (fun _ h => h) (hE.agree hA) fun _ _ _ h => h) hlen (f := row31F st.next) fun o _ s hs => ?_).call fun s hE2 => ?_
  · exact Row31_ok hF (b := st.next) (m := m) (by have := hs.next; rw [next_alloc] at this; omega) (by rw [hs.get _ (Nat.lt_succ_self _), get_alloc, if_pos rfl]) o
  · simp
    rw [← hQ]
    exact ⟨rfl, hE.trans hE2⟩
end
end Go.Proofs.Ytfknooeebmdfoaa.Sh

