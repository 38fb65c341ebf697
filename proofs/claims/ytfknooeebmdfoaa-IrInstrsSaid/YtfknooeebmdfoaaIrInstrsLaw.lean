/- IrInstrs: whatever the input, the law's function returns true and leaves its arguments as they were; conditions: none. -/
import Derived.Test.YtfknooeebmdfoaaRows
import Derived.Test.YtfknooeebmdfoaaIrInstrs
import Derived.Test.YtfknooeebmdfoaaAmC
import Derived.WalkKit
import Derived.ProofKit
import Derived.OpenShut
namespace Go.Proofs.Ytfknooeebmdfoaa.irInstrs
open Go.ChangeShapes Go.WideShapes Go.ChangeAt Go.RowKit Go.AM Go.Proofs.Ytfknooeebmdfoaa.Sh
set_option linter.unusedVariables false

theorem own : ownKnob Try.prog.godebug = none := by kernel_rfl

set_option maxRecDepth 100000 in
theorem lifted (os : Os) (started : os.Started) (H : Type) (enc : TypeId × Value → H) :
    ReturnsInHanded {} Try.checked os 8 .any (Rows.irInstrsSpec.pre6 enc Try.prog Try.f8 Rows.irInstrsRow.domain false) (Rows.irInstrsSpec.post enc Try.prog Try.f8 false true false false) := by
  refine returnsInHanded_of_change_shaped (C := Try.checked) own started (by kernel_rfl) Try.func8
    (ChangeSpec.witness6 (enc := enc) (C := Try.checked) false ⟨#[], #[.agg #[.int .u8 0, .int .u8 0, .int .i64 0, .int .i64 0, .int .i64 0, .int .i64 0, .int .i64 0], .int .u8 0, .int .i64 0, .agg #[.int .u8 0, .int .u8 0, .int .u8 0, .int .u8 0, .int .u8 0, .int .u8 0, .int .i16 0]], []⟩ 8 (by kernel_rfl) (by kernel_rfl) (by kernel_rfl) (by kernel_rfl)) ?_
  intro W base args ds gs before hval hW _ hwt hsh _
  exact law_whole (P := Try.prog) (Checked.mixed Try.checked) hints 4 rfl (by kernel_rfl) (by kernel_rfl) (by kernel_rfl) rfl Try.underlying4
    (fun ds h => by
      obtain ⟨d1, d2, d3, d4, rfl⟩ : ∃ d1 d2 d3 d4, ds = [d1, d2, d3, d4] := match ds, h with | [d1, d2, d3, d4], _ => ⟨d1, d2, d3, d4, rfl⟩
      exact ⟨rfl, rfl, rfl⟩)
    (fun K hF st args hro _ hA => IrInstrs_args hF st args hro hA) hval hW hwt hsh

theorem over : Rows.irInstrsRow.holds Try.pinned (OpenSpec.ofChange Rows.irInstrsSpec) :=
  OpenClaim.holds_of_wide 8 Try.f8 rfl rfl rfl rfl rfl rfl rfl ⟨rfl, rfl, rfl, rfl, rfl⟩ rfl rfl rfl rfl rfl (by kernel_rfl) Try.func8 (by kernel_rfl)
    (of_decide_eq_true (by kernel_rfl)) (by unfold Func.isWrapper; first | (rw [if_pos (by decide +kernel)]; kernel_rfl) | (rw [if_neg (by decide +kernel)]; exact ⟨rfl, rfl⟩))
    (fun os started H enc _ => lifted os started H enc)

theorem proved : Rows.IrInstrsSaid :=
  over
#print axioms proved
end Go.Proofs.Ytfknooeebmdfoaa.irInstrs

