/-
 The functions of the program, operation by operation, as the abstract machine has them.
-/
import Derived.Test.YtdjfndijbnpkpaaDoorProg
import Derived.Test.YtdjfndijbnpkpaaDoorShN
set_option linter.unusedVariables false
set_option maxRecDepth 100000
namespace Go.Proofs.YtdjfndijbnpkpaaDoor.Sh
open Go Go.AM Go.Proofs
noncomputable section
variable {K : Ctx} {J : JT (Value × St)} {st : St} {Q : Value × St → Prop}
open C in
def refinerylaw05_ParseGaps_c : AFun := ⟨4, [.tmp 8],
 (s (.ops [o 4 (.lbox (t 0)), o 8 (.mv (c (.bool false)))])
 (s (s (.ops [o 17 (.call (f 10) []), o 18 (.un .not (t 17))])
 (.cond (t 18) (s (.ops [o 8 (.mv (c (.bool false)))])
 .ret) .skip))
 (s (.keep [1, 2, 3, 4])
 (s (s (.ops [o 19 (.field (some 3) 0 (t 4)), o 20 (.call (f 11) [(t 19)]), o 21 (.un .not (t 20)), o 22 (.mv (t 21)), g 23 false 22 (.mv (t 1)), g 24 false 22 (.len .slice (t 23)), g 25 false 22 (.bin .gtr (t 24) (c (i 40))), o 26 (.pick (t 22) (c (.bool true)) (t 25)), o 27 (.mv (t 26)), g 28 false 27 (.mv (t 2)), g 29 false 27 (.len .slice (t 28)), g 30 false 27 (.bin .gtr (t 29) (c (i 40))), o 31 (.pick (t 27) (c (.bool true)) (t 30))])
 (.cond (t 31) (s (.ops [o 8 (.mv (c (.bool true)))])
 .ret) .skip))
 (s (.keep [1, 2, 3, 4])
 (s (.ops [o 32 (.field (some 3) 0 (t 4)), o 33 (.call (f 13) [(t 32)]), o 34 (.call (f 12) [(t 33)]), o 9 (.mv (t 34))])
 (s (.ops [o 35 (.mv (t 3)), o 36 (.conv (.int .i64) (t 35)), o 37 (.mv (t 9)), o 38 (.len .slice (t 37)), o 39 (.bin .add (t 38) (c (i 1))), o 40 (.bin .rem (t 36) (t 39)), o 10 (.mv (t 40))])
 (s (.ops [o 42 (.mv (t 9)), o 43 (.mv (t 10)), o 44 (.slice (.slice 1) (t 42) none (some (t 43)) none), o 45 (.mv (t 1)), o 46 (.call (f 14) [(t 44), (t 45)]), o 47 (.call (f 15) [(t 46)]), o 41 (.mv (t 47)), o 48 (.extract (t 41) 0), o 49 (.extract (t 41) 1), o 50 (.extract (t 41) 2), o 11 (.lnew [(.slice none 0 0)]), o 11 (.upd 1 0 (t 11) (t 48)), o 12 (.mv (t 49)), o 13 (.mv (t 50))])
 (s (.ops [o 52 (.mv (t 9)), o 53 (.mv (t 10)), o 54 (.slice (.slice 1) (t 52) none (some (t 53)) none), o 55 (.mv (t 2)), o 56 (.call (f 14) [(t 54), (t 55)]), o 57 (.call (f 15) [(t 56)]), o 51 (.mv (t 57)), o 58 (.extract (t 51) 0), o 59 (.extract (t 51) 1), o 60 (.extract (t 51) 2), o 14 (.lnew [(.slice none 0 0)]), o 14 (.upd 1 0 (t 14) (t 58)), o 15 (.mv (t 59)), o 16 (.mv (t 60))])
 (s (.ops [o 61 (.mv (t 13)), o 62 (.mv (t 16)), o 63 (.bin .eql (t 61) (t 62)), o 64 (.mv (t 63)), g 65 true 64 (.field (some 1) 0 (t 11)), g 66 true 64 (.field (some 1) 0 (t 14)), g 67 true 64 (.call (f 16) [(t 65), (t 66)]), o 68 (.pick (t 64) (t 67) (c (.bool false))), o 8 (.mv (t 68))])
 .ret))))))))))⟩
theorem refinerylaw05_ParseGaps_is : pgF n_refinerylaw05_ParseGaps = some refinerylaw05_ParseGaps_c := by kernel_rfl
def refinerylaw05_ParseGaps_j0 (J : JT (Value × St)) (v1 v2 v3 v4 : Value) (st : St) := goX J refinerylaw05_ParseGaps_c.body [1, 1, 1] (envT [(1, v1), (2, v2), (3, v3), (4, v4)]) st
def refinerylaw05_ParseGaps_j1 (J : JT (Value × St)) (v1 v2 v3 v4 : Value) (st : St) := goX J refinerylaw05_ParseGaps_c.body [1, 1, 1, 1, 1] (envT [(1, v1), (2, v2), (3, v3), (4, v4)]) st
theorem refinerylaw05_ParseGaps_eq (K : Ctx) (J : JT (Value × St)) (a0 a1 a2 a3 : Value) (st : St) : atX K J refinerylaw05_ParseGaps_c (AM.start [a0, a1, a2, a3]) st =
 (.thn st (sLbox a0 st) fun p1 =>
 .thn p1.2 (K.go (.call n_refinerylaw05_Awake []) p1.2) fun p2 =>
 .thn p2.2 (sUn .not p2.1 p2.2) fun p3 =>
 condX p3.1
 (.ok ((.bool false), p3.2))
 (refinerylaw05_ParseGaps_j0 J a1 a2 a3 p1.1 p3.2)) := by kernel_rfl
theorem refinerylaw05_ParseGaps_of : Of4 n_refinerylaw05_ParseGaps refinerylaw05_ParseGaps_c := fun hF => call_of hF refinerylaw05_ParseGaps_is rfl
theorem refinerylaw05_ParseGaps_j0_eq (hJ : IsJ K (retK refinerylaw05_ParseGaps_c.results) J) (v1 v2 v3 v4 : Value) (st : St) : refinerylaw05_ParseGaps_j0 J v1 v2 v3 v4 st =
 (.thn st (sField (some 3) 0 v4 st) fun p1 =>
 .thn p1.2 (K.go (.call n_refinerylaw03_Small_Light [p1.1]) p1.2) fun p2 =>
 .thn p2.2 (sUn .not p2.1 p2.2) fun p3 =>
 .thn p3.2 (sG p3.1 false (.ok (v1, p3.2)) p3.2) fun p4 =>
 .thn p4.2 (sG p3.1 false (sLen .slice p4.1 p4.2) p4.2) fun p5 =>
 .thn p5.2 (sG p3.1 false (sBin .gtr p5.1 (.int .i64 40) p5.2) p5.2) fun p6 =>
 .thn p6.2 (sPick p3.1 (.bool true) p6.1 p6.2) fun p7 =>
 .thn p7.2 (sG p7.1 false (.ok (v2, p7.2)) p7.2) fun p8 =>
 .thn p8.2 (sG p7.1 false (sLen .slice p8.1 p8.2) p8.2) fun p9 =>
 .thn p9.2 (sG p7.1 false (sBin .gtr p9.1 (.int .i64 40) p9.2) p9.2) fun p10 =>
 .thn p10.2 (sPick p7.1 (.bool true) p10.1 p10.2) fun p11 =>
 condX p11.1
 (.ok ((.bool true), p11.2))
 (refinerylaw05_ParseGaps_j1 J v1 v2 v3 v4 p11.2)) := gq hJ (by kernel_rfl)
theorem refinerylaw05_ParseGaps_j1_eq (hJ : IsJ K (retK refinerylaw05_ParseGaps_c.results) J) (v1 v2 v3 v4 : Value) (st : St) : refinerylaw05_ParseGaps_j1 J v1 v2 v3 v4 st =
 (.thn st (sField (some 3) 0 v4 st) fun p1 =>
 .thn p1.2 (K.go (.call n_refinerylaw03_Small_Program [p1.1]) p1.2) fun p2 =>
 .thn p2.2 (K.go (.call n_refinerylaw05_Tokens [p2.1]) p2.2) fun p3 =>
 .thn p3.2 (sConv (.int .i64) v3 p3.2) fun p4 =>
 .thn p4.2 (sLen .slice p3.1 p4.2) fun p5 =>
 .thn p5.2 (sBin .add p5.1 (.int .i64 1) p5.2) fun p6 =>
 .thn p6.2 (sBin .rem p4.1 p6.1 p6.2) fun p7 =>
 .thn p7.2 (sSlice (.slice 1) p3.1 none (some p7.1) none p7.2) fun p8 =>
 .thn p8.2 (K.go (.call n_refinerylaw05_Text [p8.1, v1]) p8.2) fun p9 =>
 .thn p9.2 (K.go (.call n_parse_Parse [p9.1]) p9.2) fun p10 =>
 .thn p10.2 (sExtract p10.1 0 p10.2) fun p11 =>
 .thn p11.2 (sExtract p10.1 1 p11.2) fun p12 =>
 .thn p12.2 (sExtract p10.1 2 p12.2) fun p13 =>
 .thn p13.2 (sLnew [(.slice none 0 0)] p13.2) fun p14 =>
 .thn p14.2 (sUpd 1 0 p14.1 p11.1 p14.2) fun p15 =>
 .thn p15.2 (sSlice (.slice 1) p3.1 none (some p7.1) none p15.2) fun p16 =>
 .thn p16.2 (K.go (.call n_refinerylaw05_Text [p16.1, v2]) p16.2) fun p17 =>
 .thn p17.2 (K.go (.call n_parse_Parse [p17.1]) p17.2) fun p18 =>
 .thn p18.2 (sExtract p18.1 0 p18.2) fun p19 =>
 .thn p19.2 (sExtract p18.1 1 p19.2) fun p20 =>
 .thn p20.2 (sExtract p18.1 2 p20.2) fun p21 =>
 .thn p21.2 (sLnew [(.slice none 0 0)] p21.2) fun p22 =>
 .thn p22.2 (sUpd 1 0 p22.1 p19.1 p22.2) fun p23 =>
 .thn p23.2 (sBin .eql p13.1 p21.1 p23.2) fun p24 =>
 .thn p24.2 (sG p24.1 true (sField (some 1) 0 p15.1 p24.2) p24.2) fun p25 =>
 .thn p25.2 (sG p24.1 true (sField (some 1) 0 p23.1 p25.2) p25.2) fun p26 =>
 .thn p26.2 (sG p24.1 true (K.go (.call n_ir_Same [p25.1, p26.1]) p26.2) p26.2) fun p27 =>
 .thn p27.2 (sPick p24.1 p27.1 (.bool false) p27.2) fun p28 =>
 .ok (p28.1, p28.2)) := gq hJ (by kernel_rfl)
end
end Go.Proofs.YtdjfndijbnpkpaaDoor.Sh
