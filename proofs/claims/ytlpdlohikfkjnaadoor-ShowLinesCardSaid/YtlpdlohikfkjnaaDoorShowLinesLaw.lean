/- ShowLines: whatever the input, where the variables hold what the program lays, the law's function returns true and leaves its arguments as they were; conditions: those of the row (what is laid). -/
import Derived.Test.YtlpdlohikfkjnaaDoorTie
import Derived.Test.YtlpdlohikfkjnaaDoorCards
import Derived.Test.YtlpdlohikfkjnaaDoorShLaid
import Derived.Test.YtlpdlohikfkjnaaDoorShowLines
import Derived.Test.YtlpdlohikfkjnaaDoorExt
import Derived.WalkKit
import Derived.ProofKit
import Derived.Handy
import Derived.Lay
import Derived.SevenTiedAt
namespace Go.Proofs.YtlpdlohikfkjnaaDoor.showLines
open Go.ChangeShapes Go.WideShapes Go.ChangeAt Go.RowKit Go.AM Go.Proofs.YtlpdlohikfkjnaaDoor.Sh
set_option linter.unusedVariables false
theorem own : ownKnob Tryd.prog.godebug = none := by kernel_rfl
set_option maxRecDepth 100000 in
theorem lifted (os : Os) (started : os.Started) (H : Type) (enc : TypeId × Value → H) :
 ReturnsInHanded {} Tryd.checked os 3 .any (fun w args => (Rows.showLinesSpec.pre enc Tryd.prog Tryd.f3 [] false w args ∧ laidMetH Tryd.prog Rows.showLinesRow.laid w) ∧ sizedMet enc Tryd.prog Tryd.f3 (OpenSpec.ofChange Rows.showLinesSpec) false w args)
  (Rows.showLinesSpec.post enc Tryd.prog Tryd.f3 false true false false) := by
 refine returnsInHanded_of_change_and (C := Tryd.checked) (X := fun w _ => laidMetH Tryd.prog Rows.showLinesRow.laid w) (fun _ _ _ hh h => h.of_heap hh) own started (by kernel_rfl) Tryd.func3
  (ChangeSpec.witness_shaped (enc := enc) (C := Tryd.checked) (os := os) (X := fun w _ => laidMetH Tryd.prog Rows.showLinesRow.laid w) false (World.laidAll Tryd.prog os Rows.showLinesRow.laid) #[.agg #[.int .u8 0, .int .u8 0, .int .u8 0, .int .u8 0, .int .u8 0, .int .u8 0, .int .i16 0], .agg #[.int .u8 0, .int .u8 0, .int .u8 0, .int .u8 0, .int .u8 0, .int .u8 0, .int .i16 0], .agg #[.slice none 0 0, .int .u8 0, .int .u8 0, .int .u8 0, .int .u8 0], .agg #[.slice none 0 0, .int .u8 0, .int .u8 0, .int .u8 0, .int .u8 0], .bool false] 8 (World.laidAll_os _ _ _)
    (World.shaped_of_ZipB (by kernel_rfl) (by kernel_rfl)) (by kernel_rfl) (by kernel_rfl) (by kernel_rfl)
    (by rw [MakeChecks.laidMetH_plain _ _ _ (by kernel_rfl)]; exact laidMet_laidAll _ (by kernel_rfl) (by kernel_rfl))) ?_
 intro W base args ds gs before hval hW _ hwt hL _
 have hV := vars_of hL
 exact law_wholeX (P := Tryd.prog) (Checked.mixed Tryd.checked) told hints 8 rfl (by kernel_rfl) (by kernel_rfl) (by kernel_rfl) rfl Tryd.underlying4
  (fun ds h => by
    obtain ⟨d1, d2, d3, d4, d5, rfl⟩ : ∃ d1 d2 d3 d4 d5, ds = [d1, d2, d3, d4, d5] := match ds, h with | [d1, d2, d3, d4, d5], _ => ⟨d1, d2, d3, d4, d5, rfl⟩
    exact ⟨rfl, rfl, rfl⟩) hV pvars_nd
  (fun K hF st args hro hnx hvs hA => ShowLines_args hF (vok_of hro hnx hvs) args hA) hval hW hwt (blk_of hV)
theorem over : Rows.ShowLinesSaid :=
 OpenClaim.holds_of_wide 3 Tryd.f3 rfl rfl rfl rfl rfl rfl rfl ⟨rfl, rfl, rfl, rfl, rfl⟩ rfl rfl rfl rfl rfl (by kernel_rfl) Tryd.func3 (by kernel_rfl)
  (of_decide_eq_true (by kernel_rfl)) (by unfold Func.isWrapper; first | (rw [if_pos (by decide +kernel)]; kernel_rfl) | (rw [if_neg (by decide +kernel)]; exact ⟨rfl, rfl⟩))
  (fun os started H enc _ => lifted os started H enc)
theorem proved : Rows.ShowLinesCardSaid :=
 Claim7.holds_tied_plain_at .later [] [.data, .data, .data, .data] true Rows.showLinesCard.stood.harness true over (fun _ h => by cases h) (by kernel_rfl) (fun _ h => by cases h) showLines_row_tie rfl ⟨rfl, rfl⟩ (by kernel_rfl) rfl
  (fun f fn hf hfn => by
    obtain rfl : f = 3 := Option.some.inj ((show Tryd.prog.funcNamed "refinery/refinerylaw06.ShowLines" = some 3 by kernel_rfl).symm.trans hf) |>.symm
    obtain rfl : fn = Tryd.f3 := (Option.some.inj (Tryd.func3.symm.trans hfn)).symm
    exact ⟨by kernel_rfl, fun j t ht => by
     have hp : Tryd.f3.params = #[24, 24, 27, 27, 4] := by kernel_rfl
     rw [hp] at ht
     have hm : t ∈ [24, 24, 27, 27, 4] := by simpa using Array.mem_of_getElem? ht
     have hall : ([24, 24, 27, 27, 4].all fun u => !Tryd.prog.wantsStandIn u) = true := by kernel_rfl
     exact (show Tryd.prog.wantsStandIn t = false by simpa using List.all_eq_true.1 hall t hm)⟩)
  (by kernel_rfl)
#print axioms proved
end Go.Proofs.YtlpdlohikfkjnaaDoor.showLines
