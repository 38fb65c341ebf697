/- FoldMeets: whatever the input, the law's function returns true and leaves its arguments as they were; conditions: none. -/
import Derived.Test.YtenfblnmmmppbaaRows
import Derived.Test.YtenfblnmmmppbaaFoldMeets
import Derived.Test.YtenfblnmmmppbaaAmC
import Derived.WalkKit
import Derived.ProofKit
import Derived.OpenShut
namespace Go.Proofs.Ytenfblnmmmppbaa.foldMeets
open Go.ChangeShapes Go.WideShapes Go.ChangeAt Go.RowKit Go.AM Go.Proofs.Ytenfblnmmmppbaa.Sh
set_option linter.unusedVariables false

theorem own : ownKnob Try.prog.godebug = none := by kernel_rfl

set_option maxRecDepth 100000 in
theorem lifted (os : Os) (started : os.Started) (H : Type) (enc : TypeId × Value → H) :
    ReturnsInHanded {} Try.checked os 6 .any (Rows.foldMeetsSpec.pre6 enc Try.prog Try.f6 Rows.foldMeetsRow.domain false) (Rows.foldMeetsSpec.post enc Try.prog Try.f6 false true false false) := by
  refine returnsInHanded_of_change_shaped (C := Try.checked) own started (by kernel_rfl) Try.func6
    (ChangeSpec.witness6 (enc := enc) (C := Try.checked) false ⟨#[], #[.agg #[.int .u8 0, .int .i64 0], .agg #[.int .u8 0, .int .i64 0], .agg #[.int .u8 0, .int .i64 0], .bool false], []⟩ 8 (by kernel_rfl) (by kernel_rfl) (by kernel_rfl) (by kernel_rfl)) ?_
  intro W base args ds gs before hval hW _ hwt hsh _
  exact law_whole (P := Try.prog) (Checked.mixed Try.checked) hints 8 rfl (by kernel_rfl) (by kernel_rfl) (by kernel_rfl) rfl Try.underlying4
    (fun ds h => by
      obtain ⟨d1, d2, d3, d4, rfl⟩ : ∃ d1 d2 d3 d4, ds = [d1, d2, d3, d4] := match ds, h with | [d1, d2, d3, d4], _ => ⟨d1, d2, d3, d4, rfl⟩
      exact ⟨rfl, rfl, rfl⟩)
    (fun K hF st args hro _ hA => FoldMeets_args hF st args hro hA) hval hW hwt hsh

theorem over : Rows.foldMeetsRow.holds Try.pinned (OpenSpec.ofChange Rows.foldMeetsSpec) :=
  OpenClaim.holds_of_wide 6 Try.f6 rfl rfl rfl rfl rfl rfl rfl ⟨rfl, rfl, rfl, rfl, rfl⟩ rfl rfl rfl rfl rfl (by kernel_rfl) Try.func6 (by kernel_rfl)
    (of_decide_eq_true (by kernel_rfl)) (by unfold Func.isWrapper; first | (rw [if_pos (by decide +kernel)]; kernel_rfl) | (rw [if_neg (by decide +kernel)]; exact ⟨rfl, rfl⟩))
    (fun os started H enc _ => lifted os started H enc)

theorem proved : Rows.FoldMeetsSaid :=
  over
#print axioms proved
end Go.Proofs.Ytenfblnmmmppbaa.foldMeets

