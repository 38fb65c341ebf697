/-
 The functions of the program, operation by operation, as the abstract machine has them.
-/
import Derived.Test.YtdjfndijbnpkpaaDoorProg
import Derived.Test.YtdjfndijbnpkpaaDoorShN
set_option linter.unusedVariables false
set_option maxRecDepth 100000
namespace Go.Proofs.YtdjfndijbnpkpaaDoor.Sh
open Go Go.AM Go.Proofs
noncomputable section
variable {K : Ctx} {J : JT (Value × St)} {st : St} {Q : Value × St → Prop}
open C in
def refinerylaw05_ParseReads_c : AFun := ⟨3, [.tmp 6],
 (s (.ops [o 3 (.lbox (t 0)), o 6 (.mv (c (.bool false)))])
 (s (s (.ops [o 12 (.call (f 10) []), o 13 (.un .not (t 12))])
 (.cond (t 13) (s (.ops [o 6 (.mv (c (.bool false)))])
 .ret) .skip))
 (s (.keep [1, 2, 3])
 (s (s (.ops [o 14 (.field (some 3) 0 (t 3)), o 15 (.call (f 11) [(t 14)]), o 16 (.un .not (t 15)), o 17 (.mv (t 16)), g 18 false 17 (.mv (t 1)), g 19 false 17 (.len .slice (t 18)), g 20 false 17 (.bin .gtr (t 19) (c (i 40))), o 21 (.pick (t 17) (c (.bool true)) (t 20))])
 (.cond (t 21) (s (.ops [o 6 (.mv (c (.bool true)))])
 .ret) .skip))
 (s (.keep [1, 2, 3])
 (s (.ops [o 22 (.field (some 3) 0 (t 3)), o 23 (.call (f 13) [(t 22)]), o 7 (.lnew [(.slice none 0 0)]), o 7 (.upd 1 0 (t 7) (t 23))])
 (s (.ops [o 24 (.field (some 1) 0 (t 7)), o 25 (.call (f 12) [(t 24)]), o 8 (.mv (t 25))])
 (s (s (.ops [o 26 (.mv (t 2))])
 (.cond (t 26) (.ops [o 27 (.mv (t 8)), o 28 (.mv (t 8)), o 29 (.len .slice (t 28)), o 30 (.bin .sub (t 29) (c (i 1))), o 31 (.slice (.slice 1) (t 27) none (some (t 30)) none), o 8 (.mv (t 31))]) .skip))
 (s (.keep [1, 7, 8])
 (s (.ops [o 33 (.mv (t 8)), o 34 (.mv (t 1)), o 35 (.call (f 14) [(t 33), (t 34)]), o 36 (.call (f 15) [(t 35)]), o 32 (.mv (t 36)), o 37 (.extract (t 32) 0), o 38 (.extract (t 32) 1), o 39 (.extract (t 32) 2), o 9 (.lnew [(.slice none 0 0)]), o 9 (.upd 1 0 (t 9) (t 37)), o 10 (.mv (t 38)), o 11 (.mv (t 39))])
 (s (.ops [o 40 (.mv (t 11)), o 41 (.bin .eql (t 40) (c (i 0))), o 42 (.mv (t 41)), g 43 true 42 (.mv (t 10)), g 44 true 42 (.bin .eql (t 43) (c (i 0))), o 45 (.pick (t 42) (t 44) (c (.bool false))), o 46 (.mv (t 45)), g 47 true 46 (.field (some 1) 0 (t 7)), g 48 true 46 (.field (some 1) 0 (t 9)), g 49 true 46 (.call (f 16) [(t 47), (t 48)]), o 50 (.pick (t 46) (t 49) (c (.bool false))), o 6 (.mv (t 50))])
 .ret)))))))))))⟩
theorem refinerylaw05_ParseReads_is : pgF n_refinerylaw05_ParseReads = some refinerylaw05_ParseReads_c := by kernel_rfl
def refinerylaw05_ParseReads_j0 (J : JT (Value × St)) (v1 v2 v3 : Value) (st : St) := goX J refinerylaw05_ParseReads_c.body [1, 1, 1] (envT [(1, v1), (2, v2), (3, v3)]) st
def refinerylaw05_ParseReads_j1 (J : JT (Value × St)) (v1 v2 v3 : Value) (st : St) := goX J refinerylaw05_ParseReads_c.body [1, 1, 1, 1, 1] (envT [(1, v1), (2, v2), (3, v3)]) st
def refinerylaw05_ParseReads_j2 (J : JT (Value × St)) (v1 v7 v8 : Value) (st : St) := goX J refinerylaw05_ParseReads_c.body [1, 1, 1, 1, 1, 1, 1, 1, 1] (envT [(1, v1), (7, v7), (8, v8)]) st
theorem refinerylaw05_ParseReads_eq (K : Ctx) (J : JT (Value × St)) (a0 a1 a2 : Value) (st : St) : atX K J refinerylaw05_ParseReads_c (AM.start [a0, a1, a2]) st =
 (.thn st (sLbox a0 st) fun p1 =>
 .thn p1.2 (K.go (.call n_refinerylaw05_Awake []) p1.2) fun p2 =>
 .thn p2.2 (sUn .not p2.1 p2.2) fun p3 =>
 condX p3.1
 (.ok ((.bool false), p3.2))
 (refinerylaw05_ParseReads_j0 J a1 a2 p1.1 p3.2)) := by kernel_rfl
theorem refinerylaw05_ParseReads_of : Of3 n_refinerylaw05_ParseReads refinerylaw05_ParseReads_c := fun hF => call_of hF refinerylaw05_ParseReads_is rfl
theorem refinerylaw05_ParseReads_j0_eq (hJ : IsJ K (retK refinerylaw05_ParseReads_c.results) J) (v1 v2 v3 : Value) (st : St) : refinerylaw05_ParseReads_j0 J v1 v2 v3 st =
 (.thn st (sField (some 3) 0 v3 st) fun p1 =>
 .thn p1.2 (K.go (.call n_refinerylaw03_Small_Light [p1.1]) p1.2) fun p2 =>
 .thn p2.2 (sUn .not p2.1 p2.2) fun p3 =>
 .thn p3.2 (sG p3.1 false (.ok (v1, p3.2)) p3.2) fun p4 =>
 .thn p4.2 (sG p3.1 false (sLen .slice p4.1 p4.2) p4.2) fun p5 =>
 .thn p5.2 (sG p3.1 false (sBin .gtr p5.1 (.int .i64 40) p5.2) p5.2) fun p6 =>
 .thn p6.2 (sPick p3.1 (.bool true) p6.1 p6.2) fun p7 =>
 condX p7.1
 (.ok ((.bool true), p7.2))
 (refinerylaw05_ParseReads_j1 J v1 v2 v3 p7.2)) := gq hJ (by kernel_rfl)
theorem refinerylaw05_ParseReads_j1_eq (hJ : IsJ K (retK refinerylaw05_ParseReads_c.results) J) (v1 v2 v3 : Value) (st : St) : refinerylaw05_ParseReads_j1 J v1 v2 v3 st =
 (.thn st (sField (some 3) 0 v3 st) fun p1 =>
 .thn p1.2 (K.go (.call n_refinerylaw03_Small_Program [p1.1]) p1.2) fun p2 =>
 .thn p2.2 (sLnew [(.slice none 0 0)] p2.2) fun p3 =>
 .thn p3.2 (sUpd 1 0 p3.1 p2.1 p3.2) fun p4 =>
 .thn p4.2 (sField (some 1) 0 p4.1 p4.2) fun p5 =>
 .thn p5.2 (K.go (.call n_refinerylaw05_Tokens [p5.1]) p5.2) fun p6 =>
 condX v2
 (.thn p6.2 (sLen .slice p6.1 p6.2) fun p7 =>
 .thn p7.2 (sBin .sub p7.1 (.int .i64 1) p7.2) fun p8 =>
 .thn p8.2 (sSlice (.slice 1) p6.1 none (some p8.1) none p8.2) fun p9 =>
 refinerylaw05_ParseReads_j2 J v1 p4.1 p9.1 p9.2)
 (refinerylaw05_ParseReads_j2 J v1 p4.1 p6.1 p6.2)) := gq hJ (by kernel_rfl)
theorem refinerylaw05_ParseReads_j2_eq (hJ : IsJ K (retK refinerylaw05_ParseReads_c.results) J) (v1 v7 v8 : Value) (st : St) : refinerylaw05_ParseReads_j2 J v1 v7 v8 st =
 (.thn st (K.go (.call n_refinerylaw05_Text [v8, v1]) st) fun p1 =>
 .thn p1.2 (K.go (.call n_parse_Parse [p1.1]) p1.2) fun p2 =>
 .thn p2.2 (sExtract p2.1 0 p2.2) fun p3 =>
 .thn p3.2 (sExtract p2.1 1 p3.2) fun p4 =>
 .thn p4.2 (sExtract p2.1 2 p4.2) fun p5 =>
 .thn p5.2 (sLnew [(.slice none 0 0)] p5.2) fun p6 =>
 .thn p6.2 (sUpd 1 0 p6.1 p3.1 p6.2) fun p7 =>
 .thn p7.2 (sBin .eql p5.1 (.int .i64 0) p7.2) fun p8 =>
 .thn p8.2 (sG p8.1 true (.ok (p4.1, p8.2)) p8.2) fun p9 =>
 .thn p9.2 (sG p8.1 true (sBin .eql p9.1 (.int .i64 0) p9.2) p9.2) fun p10 =>
 .thn p10.2 (sPick p8.1 p10.1 (.bool false) p10.2) fun p11 =>
 .thn p11.2 (sG p11.1 true (sField (some 1) 0 v7 p11.2) p11.2) fun p12 =>
 .thn p12.2 (sG p11.1 true (sField (some 1) 0 p7.1 p12.2) p12.2) fun p13 =>
 .thn p13.2 (sG p11.1 true (K.go (.call n_ir_Same [p12.1, p13.1]) p13.2) p13.2) fun p14 =>
 .thn p14.2 (sPick p11.1 p14.1 (.bool false) p14.2) fun p15 =>
 .ok (p15.1, p15.2)) := gq hJ (by kernel_rfl)
end
end Go.Proofs.YtdjfndijbnpkpaaDoor.Sh
