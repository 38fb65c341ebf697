/-
  Contracts of what looks whether instructions, ends, programs may be.
-/
import Derived.Test.YtfknooeebmdfoaaIr1
set_option linter.unusedVariables false
set_option linter.unusedSimpArgs false
namespace Go.Proofs.Ytfknooeebmdfoaa.Sh
open Go Go.AM Go.Proofs

theorem sEq_instr (neg : Bool) (x y : Instr) (st : St) : sEq neg (.fields [(0, .int), (1, .int), (2, .int), (3, .int), (4, .int), (5, .int), (6, .int)]) (vI x) (vI y) st = .ok (.bool (if neg then !decide (x = y) else decide (x = y)), st) := by
  obtain ⟨a0, a1, a2, a3, a4, a5, a6⟩ := x
  obtain ⟨b0, b1, b2, b3, b4, b5, b6⟩ := y
  cases neg <;>
  (
  by_cases h0 : a0 = b0
  · subst h0
    by_cases h1 : a1 = b1
    · subst h1
      by_cases h2 : a2 = b2
      · subst h2
        by_cases h3 : a3 = b3
        · subst h3
          by_cases h4 : a4 = b4
          · subst h4
            by_cases h5 : a5 = b5
            · subst h5
              by_cases h6 : a6 = b6 <;> simp [sEq, aeq, vI, fieldsEq, cellEq, h6]
            · simp [sEq, aeq, vI, fieldsEq, cellEq, h5]
          · simp [sEq, aeq, vI, fieldsEq, cellEq, h4]
        · simp [sEq, aeq, vI, fieldsEq, cellEq, h3]
      · simp [sEq, aeq, vI, fieldsEq, cellEq, h2]
    · simp [sEq, aeq, vI, fieldsEq, cellEq, h1]
  · simp [sEq, aeq, vI, fieldsEq, cellEq, h0])

theorem sEq_last (neg : Bool) (x y : Last) (st : St) : sEq neg (.fields [(0, .int), (1, .int), (2, .int), (3, .int)]) (vL x) (vL y) st = .ok (.bool (if neg then !decide (x = y) else decide (x = y)), st) := by
  obtain ⟨a0, a1, a2, a3⟩ := x
  obtain ⟨b0, b1, b2, b3⟩ := y
  cases neg <;>
  (
  by_cases h0 : a0 = b0
  · subst h0
    by_cases h1 : a1 = b1
    · subst h1
      by_cases h2 : a2 = b2
      · subst h2
        by_cases h3 : a3 = b3 <;> simp [sEq, aeq, vL, fieldsEq, cellEq, h3]
      · simp [sEq, aeq, vL, fieldsEq, cellEq, h2]
    · simp [sEq, aeq, vL, fieldsEq, cellEq, h1]
  · simp [sEq, aeq, vL, fieldsEq, cellEq, h0])

/-- A set of numbers, as a map to bools. -/
def mSet (ls : List Int) : AObj := .map (ls.map fun l => (I l, B true))

theorem findK_set (k : Int) : ∀ (ls : List Int) (i : Nat), findK (.cell .int) (I k) (ls.map fun l => (I l, B true)) i = .ok (if k ∈ ls then some (i + ls.idxOf k, B true) else none) := by
  intro ls
  induction ls with
  | nil => intro i; rfl
  | cons l ls ih =>
    intro i
    by_cases h : k = l
    · subst h; simp [findK, keyEq, cellEq]
    · have h' : ¬ l = k := fun e => h e.symm
      have hb : (l == k) = false := by simp [h']
      simp only [List.map_cons, findK, keyEq, cellEq, if_true, ih, List.mem_cons, h, false_or, List.idxOf_cons, hb, cond_false]
      have : (k == l) = false := by simp [h]
      simp only [this]
      split <;> simp <;> omega

theorem sLook_set {r : Nat} {ls : List Int} {st : St} (h : st.get r = some (mSet ls)) (k : Int) : sLook (.cell .int) (.bool false) false (.map (some r)) (I k) st = .ok (B (decide (k ∈ ls)), st) := by
  unfold mSet at h
  simp [sLook, alook, keyOk, cellIs, Res.need, mapOf, St.map, h, findK_set]
  by_cases hk : k ∈ ls <;> simp [hk]

variable {K : Ctx} (hF : Fix (funs pg) K)
include hF

theorem ICheck_ok (x : Instr) (st : St) (hro : st.ro ≤ st.next) : Ok (K.go (.call n_ir_Instr_check [vI x]) st) fun r => r.1 = I x.check ∧ Ext st r.2 := by
  refine ir_Instr_check_of hF fun J hJ => ?_
  rw [ir_Instr_check_eq]
  by_cases h9 : 9 ≤ x.kind
  · simp [vI, h9, Instr.check]; exact (Ext.refl st).alloc _
  by_cases h2 : x.kind = 2 ∧ 12 ≤ x.op
  · simp [vI, h2, Instr.check]; exact (Ext.refl st).alloc _
  have hc : ¬ (9 ≤ x.kind ∨ x.kind = 2 ∧ 12 ≤ x.op) := by simp [h9]; simpa using h2
  have e1 : (9 ≤ x.kind) = False := by simp [h9]
  have key : (x.kind = 2 ∧ 12 ≤ x.op) = False := by simp only [h2]
  have hc : Instr.check x = if x ≠ x.only then 5 else if !isReg x.dst ∨ !isReg x.a ∨ !isReg x.b ∨ x.slot < 0 ∨ 16 ≤ x.slot then 2 else 0 := by
    unfold Instr.check
    rw [if_neg (by rw [e1, key]; simp)]
  rw [hc]
  obtain ⟨Q, hQ⟩ : ∃ Q : Value × St → Prop, Q = fun r => r.1 = I (if x ≠ x.only then 5 else if !isReg x.dst ∨ !isReg x.a ∨ !isReg x.b ∨ x.slot < 0 ∨ 16 ≤ x.slot then 2 else 0) ∧ Ext st r.2 := ⟨_, rfl⟩
  rw [← hQ]
  have hd : (x.kind = 2) = True ∨ (x.kind = 2) = False := by by_cases h : x.kind = 2 <;> simp [h]
  have ho : x.kind = 2 → (12 ≤ x.op) = False := fun h => by simp only [eq_iff_iff, iff_false]; exact fun h' => h2 ⟨h, h'⟩
  have e9 : (9 ≤ x.kind) = False := e1
  have pre : ∀ {R : Type} (A B : Res R), (bif (if decide (9 ≤ x.kind) = true then (B.bind fun _ => .ok true) else .ok false : Res Bool) matches .ok true then A else B) = B := by
    intro R A B; simp [e9]
  clear pre
  have step : ∀ r : Value × St, r.1 = vI x.only → Ext (st.alloc (.cells (cI x))) r.2 → ∃ s : St, Ext st s ∧ s.get st.next = some (.cells (cI x)) ∧ s = r.2 := by
    intro r _ hE
    exact ⟨r.2, ((Ext.refl st).alloc _).trans hE, by rw [hE.get _ (by simp)]; simp, rfl⟩
  have e := fun s => sEq_instr true x x.only s
  simp only [vI] at e
  have tail : ∀ s : St, Ext st s → s.get st.next = some (.cells (cI x)) → ∀ X : Res (Value × St), (x = x.only → isReg x.dst = true → isReg x.a = true → isReg x.b = true → ¬ x.slot < 0 → ¬ 16 ≤ x.slot → X = .ok (I 0, s)) →
      (x = x.only → (isReg x.dst = false ∨ isReg x.a = false ∨ isReg x.b = false ∨ x.slot < 0 ∨ 16 ≤ x.slot) → X = .ok (I 2, s)) → (x ≠ x.only → X = .ok (I 5, s)) →
      Ok X Q := by
    intro s hE _ X h0 h2 h5
    rw [hQ]
    by_cases hx : x = x.only
    · by_cases hb : isReg x.dst = false ∨ isReg x.a = false ∨ isReg x.b = false ∨ x.slot < 0 ∨ 16 ≤ x.slot
      · rw [h2 hx hb, ok_ok]
        refine ⟨?_, hE⟩
        rw [if_neg (fun h => h hx), if_pos (by simpa using hb)]
      · have hb' := hb
        simp only [not_or] at hb'
        rw [h0 hx (by simpa using hb'.1) (by simpa using hb'.2.1) (by simpa using hb'.2.2.1) hb'.2.2.2.1 hb'.2.2.2.2, ok_ok]
        refine ⟨?_, hE⟩
        rw [if_neg (fun h => h hx), if_neg (by simpa using hb)]
    · rw [h5 hx, ok_ok, if_pos hx]
      exact ⟨rfl, hE⟩
  rcases hd with hk | hk
  · have hk2 : (12 ≤ x.op) = False := ho (by rw [hk]; trivial)
    simp [vI, e9, hk, hk2, loadN_def, Res.need]
    refine (Only_ok hF x _ (by simp; omega)).bind fun r hr => ?_
    obtain ⟨s, hE, g1, hs⟩ := step r hr.1 hr.2
    rw [hr.1, ← hs]
    simp [g1, cI, sStays, sameVal, sameOne, sameCell, sameCells, idOf, Res.need, loadN_def, vI, e, reg_eq hF]
    refine tail s hE g1 _ (fun h1 h2 h3 h4 h5 h6 => ?_) (fun h1 h2 => ?_) (fun h1 => ?_)
    · simp only [decide_eq_true h1, h2, h3, h4, h5, h6]
      simp [g1, cI, h3, h4, h5, h6, reg_eq hF, ir_Instr_check_j0_eq hJ]
    · simp only [decide_eq_true h1, cond_true]
      cases hd : isReg x.dst with
      | false => simp [ir_Instr_check_j0_eq hJ]
      | true =>
        cases ha : isReg x.a with
        | false => simp [g1, cI, reg_eq hF, ha]
        | true =>
          cases hb : isReg x.b with
          | false => simp [g1, cI, reg_eq hF, ha, hb]
          | true =>
            by_cases hs : x.slot < 0
            · simp [g1, cI, reg_eq hF, ha, hb, hs]
            · have h16 : 16 ≤ x.slot := by simp [hd, ha, hb, hs] at h2; exact h2
              simp [g1, cI, reg_eq hF, ha, hb, hs, h16]
    · simp [decide_eq_false h1]
  · simp [vI, e9, hk, loadN_def, Res.need]
    refine (Only_ok hF x _ (by simp; omega)).bind fun r hr => ?_
    obtain ⟨s, hE, g1, hs⟩ := step r hr.1 hr.2
    rw [hr.1, ← hs]
    simp [g1, cI, sStays, sameVal, sameOne, sameCell, sameCells, idOf, Res.need, loadN_def, vI, e, reg_eq hF]
    refine tail s hE g1 _ (fun h1 h2 h3 h4 h5 h6 => ?_) (fun h1 h2 => ?_) (fun h1 => ?_)
    · simp only [decide_eq_true h1, h2, h3, h4, h5, h6]
      simp [g1, cI, h3, h4, h5, h6, reg_eq hF, ir_Instr_check_j0_eq hJ]
    · simp only [decide_eq_true h1, cond_true]
      cases hd : isReg x.dst with
      | false => simp [ir_Instr_check_j0_eq hJ]
      | true =>
        cases ha : isReg x.a with
        | false => simp [g1, cI, reg_eq hF, ha]
        | true =>
          cases hb : isReg x.b with
          | false => simp [g1, cI, reg_eq hF, ha, hb]
          | true =>
            by_cases hs : x.slot < 0
            · simp [g1, cI, reg_eq hF, ha, hb, hs]
            · have h16 : 16 ≤ x.slot := by simp [hd, ha, hb, hs] at h2; exact h2
              simp [g1, cI, reg_eq hF, ha, hb, hs, h16]
    · simp [decide_eq_false h1]
end Go.Proofs.Ytfknooeebmdfoaa.Sh
