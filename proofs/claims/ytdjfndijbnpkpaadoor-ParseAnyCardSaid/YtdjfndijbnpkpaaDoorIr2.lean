/-
  Structs compared; sets of numbers; Instr.check.
-/
import Derived.Test.YtdjfndijbnpkpaaDoorIr1
set_option linter.unusedVariables false
set_option linter.unusedSimpArgs false
set_option linter.unusedSectionVars false
namespace Go.Proofs.YtdjfndijbnpkpaaDoor.Sh
open Go Go.AM Go.Proofs
@[simp] theorem sEq_instr (neg : Bool) (x y : Instr) (st : St) : sEq neg (.fields [(0, .int), (1, .int), (2, .int), (3, .int), (4, .int), (5, .int), (6, .int)]) (vI x) (vI y) st = .ok (.bool (if neg then !decide (x = y) else decide (x = y)), st) := by
  obtain ⟨a0, a1, a2, a3, a4, a5, a6⟩ := x
  obtain ⟨b0, b1, b2, b3, b4, b5, b6⟩ := y
  cases neg <;>
  (
  by_cases h0 : a0 = b0
  ·subst h0
   by_cases h1 : a1 = b1
   ·subst h1
    by_cases h2 : a2 = b2
    ·subst h2
     by_cases h3 : a3 = b3
     ·subst h3
      by_cases h4 : a4 = b4
      ·subst h4
       by_cases h5 : a5 = b5
       ·subst h5
        by_cases h6 : a6 = b6 <;> simp [sEq, aeq, vI, fieldsEq, cellEq, h6]
       ·simp [sEq, aeq, vI, fieldsEq, cellEq, h5]
      ·simp [sEq, aeq, vI, fieldsEq, cellEq, h4]
     ·simp [sEq, aeq, vI, fieldsEq, cellEq, h3]
    ·simp [sEq, aeq, vI, fieldsEq, cellEq, h2]
   ·simp [sEq, aeq, vI, fieldsEq, cellEq, h1]
  ·simp [sEq, aeq, vI, fieldsEq, cellEq, h0])
@[simp] theorem sEq_last (neg : Bool) (x y : Last) (st : St) : sEq neg (.fields [(0, .int), (1, .int), (2, .int), (3, .int)]) (vL x) (vL y) st = .ok (.bool (if neg then !decide (x = y) else decide (x = y)), st) := by
  obtain ⟨a0, a1, a2, a3⟩ := x
  obtain ⟨b0, b1, b2, b3⟩ := y
  cases neg <;>
  (
  by_cases h0 : a0 = b0
  ·subst h0
   by_cases h1 : a1 = b1
   ·subst h1
    by_cases h2 : a2 = b2
    ·subst h2
     by_cases h3 : a3 = b3 <;> simp [sEq, aeq, vL, fieldsEq, cellEq, h3]
    ·simp [sEq, aeq, vL, fieldsEq, cellEq, h2]
   ·simp [sEq, aeq, vL, fieldsEq, cellEq, h1]
  ·simp [sEq, aeq, vL, fieldsEq, cellEq, h0])
def mSet (ls : List Int) : AObj := .map (ls.map fun l => (I l, B true))
theorem findK_set (k : Int) : ∀ (ls : List Int) (i : Nat), findK (.cell .int) (I k) (ls.map fun l => (I l, B true)) i = .ok (if k ∈ ls then some (i + ls.idxOf k, B true) else none) := by
 intro ls
 induction ls with
 | nil => intro i; rfl
 | cons l ls ih =>
   intro i
   by_cases h : k = l
   ·subst h; simp [findK, keyEq, cellEq]
   ·have h' : ¬ l = k := fun e => h e.symm
    have hb : (l == k) = false := by simp [h']
    simp only [List.map_cons, findK, keyEq, cellEq, if_true, ih, List.mem_cons, h, false_or, List.idxOf_cons, hb, cond_false]
    have : (k == l) = false := by simp [h]
    simp only [this]
    split <;> simp <;> omega
theorem sLook_set {r : Nat} {ls : List Int} {st : St} (h : st.get r = some (mSet ls)) (k : Int) : sLook (.cell .int) (.bool false) false (.map (some r)) (I k) st = .ok (B (decide (k ∈ ls)), st) := by
 unfold mSet at h
 simp [sLook, alook, keyOk, cellIs, Res.need, mapOf, St.map, h, findK_set]
 by_cases hk : k ∈ ls <;> simp [hk]
variable {K : Ctx} (hF : Fix pgF K)
include hF
theorem ICheck_ok (x : Instr) (st : St) : Ok (K.go (.call n_ir_Instr_check [vI x]) st) fun r => r.1 = I x.check ∧ Ext st r.2 := by
 refine ir_Instr_check_of hF fun J hJ => ?_
 rw [ir_Instr_check_eq]
 have e := fun s => sEq_instr true x x.only s
 simp only [vI] at e
 by_cases h9 : 9 ≤ x.kind
 ·simp [vI, h9, Instr.check]
 by_cases h2 : x.kind = 2 ∧ 12 ≤ x.op
 ·simp [vI, h2, Instr.check]
 have hc : Instr.check x = if x ≠ x.only then 5 else if !isReg x.dst ∨ !isReg x.a ∨ !isReg x.b ∨ x.slot < 0 ∨ 16 ≤ x.slot then 2 else 0 := by
  unfold Instr.check
  rw [if_neg (by rintro (h | h); exact h9 h; exact h2 h)]
 have e9 : (9 ≤ x.kind) = False := by simp [h9]
 have hd : (x.kind = 2) = True ∨ (x.kind = 2) = False := by by_cases h : x.kind = 2 <;> simp [h]
 have ho : x.kind = 2 → (12 ≤ x.op) = False := fun h => by simp only [eq_iff_iff, iff_false]; exact fun h' => h2 ⟨h, h'⟩
 rcases hd with hk | hk
 all_goals
  first
  | have hk2 : (12 ≤ x.op) = False := ho (by rw [hk]; trivial)
    simp [vI, e9, hk, hk2, Res.need]
  | simp [vI, e9, hk, Res.need]
  refine (Only_ok hF x _).call fun s hE1 => ?_
  have hE : Ext st s := Ext.trans (by simp) hE1
  by_cases hx : x = x.only
  ·rw [if_neg (fun h => h hx)] at hc
   by_cases hb : isReg x.dst = false ∨ isReg x.a = false ∨ isReg x.b = false ∨ x.slot < 0 ∨ 16 ≤ x.slot
   ·rw [if_pos (by simpa using hb)] at hc
    rw [hc]
    simp [vI, sStays, sameVal, sameOne, sameCell, sameCells, Res.need, e, decide_eq_true hx, reg_eq hF]
    cases hd : isReg x.dst with
    | false => simp [hE]
    | true =>
      cases ha : isReg x.a with
      | false => simp [reg_eq hF, hd, ha, hE]
      | true =>
        cases hb' : isReg x.b with
        | false => simp [reg_eq hF, hd, ha, hb', hE]
        | true =>
          by_cases hs : x.slot < 0
          ·simp [reg_eq hF, hd, ha, hb', hs, hE]
          ·have h16 : 16 ≤ x.slot := by simp [hd, ha, hb', hs] at hb; exact hb
           simp [reg_eq hF, hd, ha, hb', hs, h16, hE]
   ·rw [if_neg (by simpa using hb)] at hc
    rw [hc]
    simp only [not_or, Bool.not_eq_false] at hb
    simp [vI, sStays, sameVal, sameOne, sameCell, sameCells, Res.need, e, decide_eq_true hx, reg_eq hF, hb, ir_Instr_check_j0_eq hJ, hE]
  ·rw [if_pos hx] at hc
   rw [hc]
   simp [vI, sStays, sameVal, sameOne, sameCell, sameCells, Res.need, e, decide_eq_false hx, hE]
end Go.Proofs.YtdjfndijbnpkpaaDoor.Sh
