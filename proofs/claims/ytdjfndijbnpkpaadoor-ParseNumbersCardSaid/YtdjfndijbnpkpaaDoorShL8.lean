/-
 The functions of the program, operation by operation, as the abstract machine has them.
-/
import Derived.Test.YtdjfndijbnpkpaaDoorProg
import Derived.Test.YtdjfndijbnpkpaaDoorShN
set_option linter.unusedVariables false
set_option maxRecDepth 100000
namespace Go.Proofs.YtdjfndijbnpkpaaDoor.Sh
open Go Go.AM Go.Proofs
noncomputable section
variable {K : Ctx} {J : JT (Value × St)} {st : St} {Q : Value × St → Prop}
open C in
def refinerylaw05_ParseNumbers_c : AFun := ⟨1, [.tmp 2],
 (s (.ops [o 2 (.mv (c (.bool false)))])
 (s (s (.ops [o 10 (.call (f 10) []), o 11 (.un .not (t 10))])
 (.cond (t 11) (s (.ops [o 2 (.mv (c (.bool false)))])
 .ret) .skip))
 (s (.keep [0])
 (s (s (.ops [o 12 (.mv (t 0)), o 13 (.len .slice (t 12)), o 14 (.bin .gtr (t 13) (c (i 40)))])
 (.cond (t 14) (s (.ops [o 2 (.mv (c (.bool true)))])
 .ret) .skip))
 (s (.keep [0])
 (s (.ops [o 3 (.mv (c (.string (bstr [64, 55, 58, 10]))))])
 (s (.ops [o 15 (.build [(u 0), (i 0), (i 0), (i 0)] [(0, 1, (c (u 3)))]), o 16 (.build [(i 0), (.slice none 0 0), (.slice none 0 0), (u 0), (i 0), (i 0), (i 0)] [(0, 1, (c (i 7))), (3, 4, (t 15))]), o 4 (.lnew [(i 0), (.slice none 0 0), (.slice none 0 0), (u 0), (i 0), (i 0), (i 0)]), o 4 (.upd 7 0 (t 4) (t 16))])
 (s (s (.ops [o 17 (.mv (t 0)), o 18 (.len .slice (t 17)), o 19 (.mv (c (i 0)))])
 (.block 0 (s (.keep [3, 4, 17, 18, 19])
 (.loop (s (s (.ops [o 20 (.bin .lss (t 19) (t 18))])
 (s (.cond (t 20) .skip (.exit 0))
 (s (.keep [3, 4, 17, 18, 19])
 (s (.block 1 (s (.ops [o 21 (.mv (t 19)), o 22 (.ixA 1 none (t 17) (t 19)), o 23 (.load none (t 22)), o 5 (.mv (t 21)), o 6 (.mv (t 23))])
 (s (.ops [o 24 (.mv (t 3)), o 25 (.mv (t 5)), o 26 (.call (f 19) [(t 25)]), o 27 (.bin .add (t 26) (c (.string (bstr [32, 61, 32])))), o 28 (.mv (t 6)), o 29 (.call (f 20) [(t 28)]), o 30 (.bin .add (t 27) (t 29)), o 31 (.bin .add (t 30) (c (.string (bstr [10])))), o 32 (.bin .add (t 24) (t 31)), o 3 (.mv (t 32))])
 (.ops [o 33 (.lref (t 4)), o 34 (.field none 2 (t 4)), o 35 (.mv (t 5)), o 36 (.mv (t 6)), o 37 (.build [(u 0), (u 0), (i 0), (i 0), (i 0), (i 0), (i 0)] [(2, 1, (t 35)), (5, 1, (t 36))]), o 38 (.lit 7 1 [(u 0), (u 0), (i 0), (i 0), (i 0), (i 0), (i 0)] [(0, 7, (t 37))]), o 39 (.append 7 48 (t 34) (t 38)), o 40 (.lref (t 4)), o 4 (.upd 1 2 (t 4) (t 39))]))))
 (s (.keep [3, 4, 17, 18, 19])
 (.ops [o 41 (.bin .add (t 19) (c (i 1))), o 19 (.mv (t 41))]))))))
 (.keep [3, 4, 17, 18, 19]))))))
 (s (.keep [3, 4])
 (s (.ops [o 43 (.mv (t 3)), o 44 (.bin .add (t 43) (c (.string (bstr [116, 114, 97, 112])))), o 45 (.call (f 15) [(t 44)]), o 42 (.mv (t 45)), o 46 (.extract (t 42) 0), o 47 (.extract (t 42) 1), o 48 (.extract (t 42) 2), o 7 (.lnew [(.slice none 0 0)]), o 7 (.upd 1 0 (t 7) (t 46)), o 8 (.mv (t 47)), o 9 (.mv (t 48))])
 (s (.ops [o 49 (.mv (t 9)), o 50 (.bin .eql (t 49) (c (i 0))), o 51 (.mv (t 50)), g 52 true 51 (.mv (t 8)), g 53 true 51 (.bin .eql (t 52) (c (i 0))), o 54 (.pick (t 51) (t 53) (c (.bool false))), o 55 (.mv (t 54)), g 56 true 55 (.field (some 1) 0 (t 7)), g 57 true 55 (.field (some 7) 0 (t 4)), g 58 true 55 (.lit 7 1 [(i 0), (.slice none 0 0), (.slice none 0 0), (u 0), (i 0), (i 0), (i 0)] [(0, 7, (t 57))]), g 59 true 55 (.build [(.slice none 0 0)] [(0, 1, (t 58))]), g 60 true 55 (.call (f 16) [(t 56), (t 59)]), o 61 (.pick (t 55) (t 60) (c (.bool false))), o 2 (.mv (t 61))])
 .ret)))))))))))⟩
theorem refinerylaw05_ParseNumbers_is : pgF n_refinerylaw05_ParseNumbers = some refinerylaw05_ParseNumbers_c := by kernel_rfl
def refinerylaw05_ParseNumbers_j0 (J : JT (Value × St)) (v0 : Value) (st : St) := goX J refinerylaw05_ParseNumbers_c.body [1, 1, 1] (envT [(0, v0)]) st
def refinerylaw05_ParseNumbers_j1 (J : JT (Value × St)) (v0 : Value) (st : St) := goX J refinerylaw05_ParseNumbers_c.body [1, 1, 1, 1, 1] (envT [(0, v0)]) st
def refinerylaw05_ParseNumbers_l0 (J : JT (Value × St)) (v3 v4 v17 v18 v19 : Value) (st : St) := lpX J refinerylaw05_ParseNumbers_c.body [1, 1, 1, 1, 1, 1, 1, 0, 1, 0, 1] (envT [(3, v3), (4, v4), (17, v17), (18, v18), (19, v19)]) st
def refinerylaw05_ParseNumbers_j2 (J : JT (Value × St)) (v3 v4 v17 v18 v19 : Value) (st : St) := goX J refinerylaw05_ParseNumbers_c.body [1, 1, 1, 1, 1, 1, 1, 0, 1, 0, 1, 0, 0, 1, 1, 1] (envT [(3, v3), (4, v4), (17, v17), (18, v18), (19, v19)]) st
def refinerylaw05_ParseNumbers_j3 (J : JT (Value × St)) (v3 v4 : Value) (st : St) := goX J refinerylaw05_ParseNumbers_c.body [1, 1, 1, 1, 1, 1, 1, 1, 1] (envT [(3, v3), (4, v4)]) st
def refinerylaw05_ParseNumbers_j4 (J : JT (Value × St)) (v3 v4 v17 v18 v19 : Value) (st : St) := goX J refinerylaw05_ParseNumbers_c.body [1, 1, 1, 1, 1, 1, 1, 0, 1, 0, 1, 0, 0, 1, 1, 1, 1, 1] (envT [(3, v3), (4, v4), (17, v17), (18, v18), (19, v19)]) st
theorem refinerylaw05_ParseNumbers_eq (K : Ctx) (J : JT (Value × St)) (a0 : Value) (st : St) : atX K J refinerylaw05_ParseNumbers_c (AM.start [a0]) st =
 (.thn st (K.go (.call n_refinerylaw05_Awake []) st) fun p1 =>
 .thn p1.2 (sUn .not p1.1 p1.2) fun p2 =>
 condX p2.1
 (.ok ((.bool false), p2.2))
 (refinerylaw05_ParseNumbers_j0 J a0 p2.2)) := by kernel_rfl
theorem refinerylaw05_ParseNumbers_of : Of1 n_refinerylaw05_ParseNumbers refinerylaw05_ParseNumbers_c := fun hF => call_of hF refinerylaw05_ParseNumbers_is rfl
theorem refinerylaw05_ParseNumbers_j0_eq (hJ : IsJ K (retK refinerylaw05_ParseNumbers_c.results) J) (v0 : Value) (st : St) : refinerylaw05_ParseNumbers_j0 J v0 st =
 (.thn st (sLen .slice v0 st) fun p1 =>
 .thn p1.2 (sBin .gtr p1.1 (.int .i64 40) p1.2) fun p2 =>
 condX p2.1
 (.ok ((.bool true), p2.2))
 (refinerylaw05_ParseNumbers_j1 J v0 p2.2)) := gq hJ (by kernel_rfl)
theorem refinerylaw05_ParseNumbers_j1_eq (hJ : IsJ K (retK refinerylaw05_ParseNumbers_c.results) J) (v0 : Value) (st : St) : refinerylaw05_ParseNumbers_j1 J v0 st =
 (.thn st (sBuild [(.int .u8 0), (.int .i64 0), (.int .i64 0), (.int .i64 0)] [(0, 1, (.int .u8 3))] st) fun p1 =>
 .thn p1.2 (sBuild [(.int .i64 0), (.slice none 0 0), (.slice none 0 0), (.int .u8 0), (.int .i64 0), (.int .i64 0), (.int .i64 0)] [(0, 1, (.int .i64 7)), (3, 4, p1.1)] p1.2) fun p2 =>
 .thn p2.2 (sLnew [(.int .i64 0), (.slice none 0 0), (.slice none 0 0), (.int .u8 0), (.int .i64 0), (.int .i64 0), (.int .i64 0)] p2.2) fun p3 =>
 .thn p3.2 (sUpd 7 0 p3.1 p2.1 p3.2) fun p4 =>
 .thn p4.2 (sLen .slice v0 p4.2) fun p5 =>
 refinerylaw05_ParseNumbers_l0 J (.string (bstr [64, 55, 58, 10])) p4.1 v0 p5.1 (.int .i64 0) p5.2) := gq hJ (by kernel_rfl)
theorem refinerylaw05_ParseNumbers_l0_eq (K : Ctx) (J : JT (Value × St)) (v3 v4 v17 v18 v19 : Value) (st : St) : inX K J (retK refinerylaw05_ParseNumbers_c.results) refinerylaw05_ParseNumbers_c.body [1, 1, 1, 1, 1, 1, 1, 0, 1, 0, 1] (envT [(3, v3), (4, v4), (17, v17), (18, v18), (19, v19)]) st =
 (.thn st (sBin .lss v19 v18 st) fun p1 =>
 condX p1.1
 (refinerylaw05_ParseNumbers_j2 J v3 v4 v17 v18 v19 p1.2)
 (refinerylaw05_ParseNumbers_j3 J v3 v4 p1.2)) := by kernel_rfl
theorem refinerylaw05_ParseNumbers_l0_of (hF : Fix pgF K) (hJ : IsJ K (retK refinerylaw05_ParseNumbers_c.results) J) {v3 v4 v17 v18 v19 : Value} (h : Ok (inX K J (retK refinerylaw05_ParseNumbers_c.results) refinerylaw05_ParseNumbers_c.body [1, 1, 1, 1, 1, 1, 1, 0, 1, 0, 1] (envT [(3, v3), (4, v4), (17, v17), (18, v18), (19, v19)]) st) Q) : Ok (refinerylaw05_ParseNumbers_l0 J v3 v4 v17 v18 v19 st) Q := loop_of hF hJ h
theorem refinerylaw05_ParseNumbers_j2_eq (hJ : IsJ K (retK refinerylaw05_ParseNumbers_c.results) J) (v3 v4 v17 v18 v19 : Value) (st : St) : refinerylaw05_ParseNumbers_j2 J v3 v4 v17 v18 v19 st =
 (.thn st (sIxA 1 none v17 v19 st) fun p1 =>
 .thn p1.2 (sLoad none p1.1 p1.2) fun p2 =>
 .thn p2.2 (K.go (.call n_refinerylaw05_reg [v19]) p2.2) fun p3 =>
 .thn p3.2 (sBin .add p3.1 (.string (bstr [32, 61, 32])) p3.2) fun p4 =>
 .thn p4.2 (K.go (.call n_refinerylaw05_number [p2.1]) p4.2) fun p5 =>
 .thn p5.2 (sBin .add p4.1 p5.1 p5.2) fun p6 =>
 .thn p6.2 (sBin .add p6.1 (.string (bstr [10])) p6.2) fun p7 =>
 .thn p7.2 (sBin .add v3 p7.1 p7.2) fun p8 =>
 .thn p8.2 (sLref v4 p8.2) fun p9 =>
 .thn p9.2 (sField none 2 v4 p9.2) fun p10 =>
 .thn p10.2 (sBuild [(.int .u8 0), (.int .u8 0), (.int .i64 0), (.int .i64 0), (.int .i64 0), (.int .i64 0), (.int .i64 0)] [(2, 1, v19), (5, 1, p2.1)] p10.2) fun p11 =>
 .thn p11.2 (sLit 7 1 [(.int .u8 0), (.int .u8 0), (.int .i64 0), (.int .i64 0), (.int .i64 0), (.int .i64 0), (.int .i64 0)] [(0, 7, p11.1)] p11.2) fun p12 =>
 .thn p12.2 (sAppend 7 48 p10.1 p12.1 p12.2) fun p13 =>
 .thn p13.2 (sLref v4 p13.2) fun p14 =>
 .thn p14.2 (sUpd 1 2 v4 p13.1 p14.2) fun p15 =>
 refinerylaw05_ParseNumbers_j4 J p8.1 p15.1 v17 v18 v19 p15.2) := gq hJ (by kernel_rfl)
theorem refinerylaw05_ParseNumbers_j3_eq (hJ : IsJ K (retK refinerylaw05_ParseNumbers_c.results) J) (v3 v4 : Value) (st : St) : refinerylaw05_ParseNumbers_j3 J v3 v4 st =
 (.thn st (sBin .add v3 (.string (bstr [116, 114, 97, 112])) st) fun p1 =>
 .thn p1.2 (K.go (.call n_parse_Parse [p1.1]) p1.2) fun p2 =>
 .thn p2.2 (sExtract p2.1 0 p2.2) fun p3 =>
 .thn p3.2 (sExtract p2.1 1 p3.2) fun p4 =>
 .thn p4.2 (sExtract p2.1 2 p4.2) fun p5 =>
 .thn p5.2 (sLnew [(.slice none 0 0)] p5.2) fun p6 =>
 .thn p6.2 (sUpd 1 0 p6.1 p3.1 p6.2) fun p7 =>
 .thn p7.2 (sBin .eql p5.1 (.int .i64 0) p7.2) fun p8 =>
 .thn p8.2 (sG p8.1 true (.ok (p4.1, p8.2)) p8.2) fun p9 =>
 .thn p9.2 (sG p8.1 true (sBin .eql p9.1 (.int .i64 0) p9.2) p9.2) fun p10 =>
 .thn p10.2 (sPick p8.1 p10.1 (.bool false) p10.2) fun p11 =>
 .thn p11.2 (sG p11.1 true (sField (some 1) 0 p7.1 p11.2) p11.2) fun p12 =>
 .thn p12.2 (sG p11.1 true (sField (some 7) 0 v4 p12.2) p12.2) fun p13 =>
 .thn p13.2 (sG p11.1 true (sLit 7 1 [(.int .i64 0), (.slice none 0 0), (.slice none 0 0), (.int .u8 0), (.int .i64 0), (.int .i64 0), (.int .i64 0)] [(0, 7, p13.1)] p13.2) p13.2) fun p14 =>
 .thn p14.2 (sG p11.1 true (sBuild [(.slice none 0 0)] [(0, 1, p14.1)] p14.2) p14.2) fun p15 =>
 .thn p15.2 (sG p11.1 true (K.go (.call n_ir_Same [p12.1, p15.1]) p15.2) p15.2) fun p16 =>
 .thn p16.2 (sPick p11.1 p16.1 (.bool false) p16.2) fun p17 =>
 .ok (p17.1, p17.2)) := gq hJ (by kernel_rfl)
theorem refinerylaw05_ParseNumbers_j4_eq (hJ : IsJ K (retK refinerylaw05_ParseNumbers_c.results) J) (v3 v4 v17 v18 v19 : Value) (st : St) : refinerylaw05_ParseNumbers_j4 J v3 v4 v17 v18 v19 st =
 (.thn st (sBin .add v19 (.int .i64 1) st) fun p1 =>
 refinerylaw05_ParseNumbers_l0 J v3 v4 v17 v18 p1.1 p1.2) := gq hJ (by kernel_rfl)
end
end Go.Proofs.YtdjfndijbnpkpaaDoor.Sh
