/- LexAny: whatever the input, where the variables hold what the program lays, the law's function returns true and leaves its arguments as they were; conditions: those of the row (what is laid). -/
import Derived.Test.YtefdkodjpcabmaaDoorTie
import Derived.Test.YtefdkodjpcabmaaDoorCards
import Derived.Test.YtefdkodjpcabmaaDoorLexLaid
import Derived.Test.YtefdkodjpcabmaaDoorLexAny
import Derived.Test.YtefdkodjpcabmaaDoorExt
import Derived.WalkKit
import Derived.ProofKit
import Derived.Handy
import Derived.Lay
import Derived.SevenTiedAt
namespace Go.Proofs.YtefdkodjpcabmaaDoor.lexAny
open Go.ChangeShapes Go.WideShapes Go.ChangeAt Go.RowKit Go.AM Go.Proofs.YtefdkodjpcabmaaDoor.Sh
set_option linter.unusedVariables false
theorem own : ownKnob Tryd.prog.godebug = none := by kernel_rfl
set_option maxRecDepth 100000 in
theorem lifted (os : Os) (started : os.Started) (H : Type) (enc : TypeId × Value → H) :
 ReturnsInHanded {} Tryd.checked os 5 .any (fun w args => (Rows.lexAnySpec.pre enc Tryd.prog Tryd.f5 [] false w args ∧ laidMetH Tryd.prog Rows.lexAnyRow.laid w) ∧ sizedMet enc Tryd.prog Tryd.f5 (OpenSpec.ofChange Rows.lexAnySpec) false w args)
  (Rows.lexAnySpec.post enc Tryd.prog Tryd.f5 false true false false) := by
 refine returnsInHanded_of_change_and (C := Tryd.checked) (X := fun w _ => laidMetH Tryd.prog Rows.lexAnyRow.laid w) (fun _ _ _ hh h => h.of_heap hh) own started (by kernel_rfl) Tryd.func5
  (ChangeSpec.witness_shaped (enc := enc) (C := Tryd.checked) (os := os) (X := fun w _ => laidMetH Tryd.prog Rows.lexAnyRow.laid w) false (World.laidAll Tryd.prog os Rows.lexAnyRow.laid) #[.string ⟨#[]⟩, .slice none 0 0] 8 (World.laidAll_os _ _ _)
    (World.shaped_of_ZipB (by kernel_rfl) (by kernel_rfl)) (by kernel_rfl) (by kernel_rfl) (by kernel_rfl)
    (by rw [MakeChecks.laidMetH_plain _ _ _ (by kernel_rfl)]; exact laidMet_laidAll _ (by kernel_rfl) (by kernel_rfl))) ?_
 intro W base args ds gs before hval hW _ hwt hL _
 have hV := vars_of hL
 exact law_wholeX (P := Tryd.prog) (Checked.mixed Tryd.checked) told hints 8 rfl (by kernel_rfl) (by kernel_rfl) (by kernel_rfl) rfl Tryd.underlying4
  (fun ds h => by
    obtain ⟨d1, d2, rfl⟩ : ∃ d1 d2, ds = [d1, d2] := match ds, h with | [d1, d2], _ => ⟨d1, d2, rfl⟩
    exact ⟨rfl, rfl, rfl⟩) hV pvars_nd
  (fun K hF st args hro hnx hvs hA => LexAny_args hF (vok_of hro hnx hvs) args hA) hval hW hwt (blk_of hV)
theorem over : Rows.LexAnySaid :=
 OpenClaim.holds_of_wide 5 Tryd.f5 rfl rfl rfl rfl rfl rfl rfl ⟨rfl, rfl, rfl, rfl, rfl⟩ rfl rfl rfl rfl rfl (by kernel_rfl) Tryd.func5 (by kernel_rfl)
  (of_decide_eq_true (by kernel_rfl)) (by unfold Func.isWrapper; first | (rw [if_pos (by decide +kernel)]; kernel_rfl) | (rw [if_neg (by decide +kernel)]; exact ⟨rfl, rfl⟩))
  (fun os started H enc _ => lifted os started H enc)
theorem proved : Rows.LexAnyCardSaid :=
 Claim7.holds_tied_plain_at .later [] [.data, .data, .data, .sentinel, .sentinel] true Rows.lexAnyCard.stood.harness true over (fun _ h => by cases h) (by kernel_rfl) (fun _ h => by cases h) lexAny_row_tie rfl ⟨rfl, rfl⟩ (by kernel_rfl) rfl
  (fun f fn hf hfn => by
    obtain rfl : f = 5 := Option.some.inj ((show Tryd.prog.funcNamed "refinery/refinerylaw04.LexAny" = some 5 by kernel_rfl).symm.trans hf) |>.symm
    obtain rfl : fn = Tryd.f5 := (Option.some.inj (Tryd.func5.symm.trans hfn)).symm
    exact ⟨by kernel_rfl, fun j t ht => by
     have hp : Tryd.f5.params = #[9, 55] := by kernel_rfl
     rw [hp] at ht
     have hm : t ∈ [9, 55] := by simpa using Array.mem_of_getElem? ht
     have hall : ([9, 55].all fun u => !Tryd.prog.wantsStandIn u) = true := by kernel_rfl
     exact (show Tryd.prog.wantsStandIn t = false by simpa using List.all_eq_true.1 hall t hm)⟩)
  (by kernel_rfl)
#print axioms proved
end Go.Proofs.YtefdkodjpcabmaaDoor.lexAny
