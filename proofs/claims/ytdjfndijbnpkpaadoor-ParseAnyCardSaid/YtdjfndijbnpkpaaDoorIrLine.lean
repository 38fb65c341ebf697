/-
  What is made of a line may be.
-/
import Derived.Test.YtdjfndijbnpkpaaDoorIrArgs
set_option linter.unusedVariables false
set_option linter.unusedSimpArgs false
set_option linter.unusedSectionVars false
set_option maxRecDepth 100000
namespace Go.Proofs.YtdjfndijbnpkpaaDoor.Sh
open Go Go.AM Go.Proofs
theorem reg_small3 {n : Int} (h : 0 ≤ n ∧ n ≤ 255) : isReg n = true := by simp [isReg]; omega
theorem check_only3 (x : Instr) (hk : 0 ≤ x.kind ∧ x.kind < 9) (ho : 0 ≤ x.op ∧ x.op < 12) (hd : 0 ≤ x.dst ∧ x.dst ≤ 255) (ha : 0 ≤ x.a ∧ x.a ≤ 255) (hb : 0 ≤ x.b ∧ x.b ≤ 255) (hs : 0 ≤ x.slot ∧ x.slot < 16) :
 x.only.check = 0 ∧ x.check = if x = x.only then 0 else 5 := by
 have h1 : x.check = if x ≠ x.only then 5 else 0 := by
  unfold Instr.check
  rw [if_neg (by omega)]
  congr 1
  rw [if_neg]
  simp [reg_small3 hd, reg_small3 ha, reg_small3 hb]
  omega
 refine ⟨?_, by
  rw [h1]
  by_cases h : x = x.only
  ·rw [if_neg (fun h' => h' h), if_pos h]
  ·rw [if_pos h, if_neg h]⟩
 have hk' : x.only.kind = x.kind := rfl
 have ho' : x.only.op = 0 ∨ x.only.op = x.op := by unfold Instr.only; simp only; split <;> simp
 have hd' : x.only.dst = 0 ∨ x.only.dst = x.dst := by unfold Instr.only Instr.sets; simp only; split <;> simp
 have ha' : x.only.a = 0 ∨ x.only.a = x.a := by
  unfold Instr.only Instr.reads; simp only
  split
  ·simp
  ·split <;> simp
 have hb' : x.only.b = 0 ∨ x.only.b = x.b := by
  unfold Instr.only Instr.reads; simp only
  split
  ·simp
  ·split <;> simp
 have hs' : x.only.slot = 0 ∨ x.only.slot = x.slot := by unfold Instr.only; simp only; split <;> simp
 unfold Instr.check
 rw [if_neg (by omega), if_neg (by rw [only_only]; simp), if_neg]
 have r1 : isReg x.only.dst = true := reg_small3 (by omega)
 have r2 : isReg x.only.a = true := reg_small3 (by omega)
 have r3 : isReg x.only.b = true := reg_small3 (by omega)
 simp [r1, r2, r3]
 omega
theorem ferr_zero {l : List Int} (h : ∀ e ∈ l, e = 0) : ferr l = 0 := by
 induction l with
 | nil => rfl
 | cons e l ih => rw [ferr, if_pos (h e (List.mem_cons_self ..)), ih fun e he => h e (List.mem_cons_of_mem _ he)]
theorem line_instr {x : Line} (hx : x.Ok) {r : Int} (hr : 1 ≤ r ∧ r ≤ 6) : (x.instr r).check = 0 := by
 refine (check_only3 ⟨x.kind % 9, x.op % 12, x.dst % r, x.a % r, x.b % r, x.n, x.slot % 3⟩ ?_ ?_ ?_ ?_ ?_ ?_).1
 ·simp only; omega
 ·simp only; omega
 ·have := Int.emod_nonneg x.dst (show r ≠ 0 by omega); have := Int.emod_lt_of_pos x.dst (show 0 < r by omega); simp only; omega
 ·have := Int.emod_nonneg x.a (show r ≠ 0 by omega); have := Int.emod_lt_of_pos x.a (show 0 < r by omega); simp only; omega
 ·have := Int.emod_nonneg x.b (show r ≠ 0 by omega); have := Int.emod_lt_of_pos x.b (show 0 < r by omega); simp only; omega
 ·simp only; omega
end Go.Proofs.YtdjfndijbnpkpaaDoor.Sh
