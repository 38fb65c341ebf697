/-
  What the rows of chapter 4 say of the variables.
-/
import Derived.Test.YtefdkodjpcabmaaDoorRows
import Derived.Test.YtefdkodjpcabmaaDoorLxX
import Derived.MakeChecks
set_option linter.unusedVariables false
set_option linter.unusedSimpArgs false
set_option linter.unusedSectionVars false
set_option maxRecDepth 100000
namespace Go.Proofs.YtefdkodjpcabmaaDoor.Sh
open Go Go.AM Go.Proofs Go.RowKit Go.ChangeShapes
theorem vars_of {W : World} (h : laidMetH Tryd.prog Rows.lexNumbersRow.laid W) : ∀ p ∈ pvars, p.1 < pg.globals.size ∧ VarIs W p := by
 rw [MakeChecks.laidMetH_plain _ _ _ (by kernel_rfl)] at h
 have h2 : laidMet Tryd.prog [("internal/strconv.uint64pow10", Rows.laid_internal_strconv_uint64pow10), ("strconv.ErrRange", Rows.laid_strconv_ErrRange), ("strconv.ErrSyntax", Rows.laid_strconv_ErrSyntax)] W := laid_tail (laid_tail h)
 have h3 : laidMet Tryd.prog [("strconv.ErrRange", Rows.laid_strconv_ErrRange), ("strconv.ErrSyntax", Rows.laid_strconv_ErrSyntax)] W := laid_tail h2
 have h4 : laidMet Tryd.prog [("strconv.ErrSyntax", Rows.laid_strconv_ErrSyntax)] W := laid_tail h3
 have g1 : Tryd.prog.globalNamed "internal/strconv.uint64pow10" = some 1 := by kernel_rfl
 have g2 : Tryd.prog.globalNamed "strconv.ErrSyntax" = some 2 := by kernel_rfl
 have g3 : Tryd.prog.globalNamed "strconv.ErrRange" = some 3 := by kernel_rfl
 have t1 : Lib.TabIs Tryd.prog W "internal/strconv.uint64pow10" .u64 Lib.pow10Tab := by
  have hd : (Rows.laid_internal_strconv_uint64pow10 : DataW Unit) = Lib.tabData .u64 Lib.pow10Tab := by kernel_rfl
  rw [hd] at h2
  exact Lib.tabIs_of_head g1 (t := 122) (e := 63) (n := 20) (by kernel_rfl) (by kernel_rfl) (by kernel_rfl) (by kernel_rfl) (by kernel_rfl) h2
 intro p hp
 refine ⟨pvars_lt p hp, ?_⟩
 simp only [pvars, List.mem_cons, List.not_mem_nil, or_false] at hp
 rcases hp with rfl | rfl | rfl
 ·exact var_table g1 t1
 ·exact var_err g2 (t := 100) (by kernel_rfl) ⟨_, Tryd.underlying100⟩ h4
 ·exact var_err g3 (t := 100) (by kernel_rfl) ⟨_, Tryd.underlying100⟩ h3
theorem pvars_nd : (pvars.map (·.1)).Nodup := by decide
theorem vok_of {st : St} (h1 : st.ro = st.next) (h2 : pg.globals.size ≤ st.next) (h3 : ∀ p ∈ pvars, st.get p.1 = some p.2) : VOk st := ⟨h2, Nat.le_of_eq h1, h3⟩
theorem blk_of {W : World} (h : ∀ p ∈ pvars, p.1 < pg.globals.size ∧ VarIs W p) : ∃ (b : Nat) (arr : Array Value) (T : TypeId) (fz : Nat × Nat), W.heap[b]? = some (.cells arr T fz) := by
 obtain ⟨_, T, fz, h1⟩ := h (1, .table Lib.pow10Tab) (by simp [pvars])
 exact ⟨_, _, T, fz, h1⟩
end Go.Proofs.YtefdkodjpcabmaaDoor.Sh
