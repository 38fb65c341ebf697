/-
  What the row of ShowLines says of the variables.
-/
import Derived.Test.YtlpdlohikfkjnaaDoorSrX
import Derived.Test.YtlpdlohikfkjnaaDoorRows
import Derived.MakeChecks
set_option linter.unusedVariables false
set_option linter.unusedSimpArgs false
set_option linter.unusedSectionVars false
set_option maxRecDepth 100000
namespace Go.Proofs.YtlpdlohikfkjnaaDoor.Sh
open Go Go.AM Go.Proofs Go.RowKit Go.ChangeShapes
theorem vars_of {W : World} (h : laidMetH Tryd.prog Rows.showLinesRow.laid W) : ∀ p ∈ svars, p.1 < pg.globals.size ∧ VarIs W p := by
 rw [MakeChecks.laidMetH_plain _ _ _ (by kernel_rfl)] at h
 have h2 : laidMet Tryd.prog [("internal/strconv.uint64pow10", Rows.laid_internal_strconv_uint64pow10), ("refinery/word.names", Rows.laid_refinery_word_names)] W := laid_tail (laid_tail h)
 have hN : laidMet Tryd.prog [("refinery/word.names", Rows.laid_refinery_word_names)] W := laid_tail h2
 have g0 : Tryd.prog.globalNamed "refinery/word.names" = some 0 := by kernel_rfl
 have g1 : Tryd.prog.globalNamed "internal/strconv.uint64pow10" = some 1 := by kernel_rfl
 have t1 : Lib.TabIs Tryd.prog W "internal/strconv.uint64pow10" .u64 Lib.pow10Tab := by
  have hd : (Rows.laid_internal_strconv_uint64pow10 : DataW Unit) = Lib.tabData .u64 Lib.pow10Tab := by kernel_rfl
  rw [hd] at h2
  exact Lib.tabIs_of_head g1 (t := 142) (e := 131) (n := 20) (by kernel_rfl) (by kernel_rfl) (by kernel_rfl) (by kernel_rfl) (by kernel_rfl) h2
 have t0 : VarIs W (0, .cells (namesL.map T)) := by
  have hd : (Rows.laid_refinery_word_names : DataW Unit) = strData namesL := by kernel_rfl
  rw [hd] at hN
  exact var_strs g0 (t := 106) (e := 9) (n := 12) (by kernel_rfl) (by kernel_rfl) (by kernel_rfl) (by kernel_rfl) (by kernel_rfl) hN
 intro p hp
 refine ⟨svars_lt p hp, ?_⟩
 simp only [svars, List.mem_cons, List.not_mem_nil, or_false] at hp
 rcases hp with rfl | rfl
 ·exact var_table g1 t1
 ·exact t0
theorem pvars_nd : (svars.map (·.1)).Nodup := by decide
theorem vok_of {st : St} (h1 : st.ro = st.next) (h2 : pg.globals.size ≤ st.next) (h3 : ∀ p ∈ svars, st.get p.1 = some p.2) : VSh st := ⟨h2, Nat.le_of_eq h1, h3⟩
theorem blk_of {W : World} (h : ∀ p ∈ svars, p.1 < pg.globals.size ∧ VarIs W p) : ∃ (b : Nat) (arr : Array Value) (T : TypeId) (fz : Nat × Nat), W.heap[b]? = some (.cells arr T fz) := by
 obtain ⟨_, T, fz, h1⟩ := h (1, .table Lib.pow10Tab) (by simp [svars])
 exact ⟨_, _, T, fz, h1⟩
end Go.Proofs.YtlpdlohikfkjnaaDoor.Sh
