/-
  Contracts: Line.Instr, Turned.
-/
import Derived.Test.YtdjfndijbnpkpaaDoorIrArgs
import Derived.Test.YtdjfndijbnpkpaaDoorShB
set_option linter.unusedVariables false
set_option linter.unusedSimpArgs false
set_option linter.unusedSectionVars false
set_option maxRecDepth 100000
namespace Go.Proofs.YtdjfndijbnpkpaaDoor.Sh
open Go Go.AM Go.Proofs
@[simp] theorem sEq_nilFunc (f : Fn) (p c : Array Value) (st : St) : sEq false (.nilOf .func) (.func f p c) .nilFunc st = .ok (B false, st) := rfl
variable {K : Ctx} (hF : Fix pgF K)
include hF
theorem LineInstr_ok (x : Line) (hx : x.Ok) (regs : Int) (hr : 1 ≤ regs ∧ regs < 2 ^ 62) (st : St) : Ok (K.go (.call n_refinerylaw03_Line_Instr [.agg (cLine x).toArray, I regs]) st) fun r => r.1 = vI (x.instr regs) ∧ Ext st r.2 := by
 refine refinerylaw03_Line_Instr_of hF fun J hJ => ?_
 rw [refinerylaw03_Line_Instr_eq]
 obtain ⟨h1, h2, h3, h4, h5, h6, h7⟩ := hx
 have hr0 : regs ≠ 0 := by omega
 have b3 := Int.emod_nonneg x.slot (show (3 : Int) ≠ 0 by decide)
 have b4 := Int.emod_lt_of_pos x.slot (show (0 : Int) < 3 by decide)
 simp [cLine, sBuild, fillL, Res.need, hr0, Int.tmod_eq_emod_of_nonneg h1.1, Int.tmod_eq_emod_of_nonneg h2.1, Int.tmod_eq_emod_of_nonneg h6.1, wrap_id (n := x.dst) (by omega), wrap_id (n := x.a) (by omega), wrap_id (n := x.b) (by omega), wrap_id (n := x.n) (by omega), wrap_id (n := x.slot % 3) (by omega),
  Int.tmod_eq_emod_of_nonneg h3.1, Int.tmod_eq_emod_of_nonneg h4.1, Int.tmod_eq_emod_of_nonneg h5.1]
 refine (Only_ok hF ⟨x.kind % 9, x.op % 12, x.dst % regs, x.a % regs, x.b % regs, x.n, x.slot % 3⟩ _).call fun s hE => ?_
 simp [vI, Res.need, oneOf, Line.instr]
 exact Ext.trans (by simp) hE
end Go.Proofs.YtdjfndijbnpkpaaDoor.Sh
