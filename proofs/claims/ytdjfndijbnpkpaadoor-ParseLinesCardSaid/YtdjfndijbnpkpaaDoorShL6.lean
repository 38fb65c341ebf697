/-
 The functions of the program, operation by operation, as the abstract machine has them.
-/
import Derived.Test.YtdjfndijbnpkpaaDoorProg
import Derived.Test.YtdjfndijbnpkpaaDoorShN
set_option linter.unusedVariables false
set_option maxRecDepth 100000
namespace Go.Proofs.YtdjfndijbnpkpaaDoor.Sh
open Go Go.AM Go.Proofs
noncomputable section
variable {K : Ctx} {J : JT (Value × St)} {st : St} {Q : Value × St → Prop}
open C in
def refinerylaw05_ParseLines_c : AFun := ⟨5, [.tmp 10],
 (s (.ops [o 5 (.lbox (t 0)), o 10 (.mv (c (.bool false)))])
 (s (s (.ops [o 17 (.call (f 10) []), o 18 (.un .not (t 17))])
 (.cond (t 18) (s (.ops [o 10 (.mv (c (.bool false)))])
 .ret) .skip))
 (s (.keep [1, 2, 3, 4, 5])
 (s (.ops [o 19 (.field (some 7) 0 (t 5)), o 20 (.call (f 17) [(t 19), (c (i 6))]), o 11 (.lnew [(u 0), (u 0), (i 0), (i 0), (i 0), (i 0), (i 0)]), o 11 (.upd 7 0 (t 11) (t 20))])
 (s (s (.ops [o 21 (.lref (t 11)), o 22 (.field none 0 (t 11)), o 23 (.bin .eql (t 22) (c (u 0)))])
 (.cond (t 23) (.ops [o 24 (.mv (t 1)), o 25 (.lref (t 11)), o 11 (.upd 1 5 (t 11) (t 24))]) .skip))
 (s (.keep [2, 3, 4, 11])
 (s (.ops [o 26 (.mv (t 2)), o 27 (.bin .rem (t 26) (c (u 4))), o 28 (.mv (t 3)), o 29 (.conv (.int .i64) (t 28)), o 30 (.mv (t 4)), o 31 (.conv (.int .i64) (t 30)), o 32 (.mv (t 4)), o 33 (.conv (.int .i64) (t 32)), o 34 (.build [(u 0), (i 0), (i 0), (i 0)] [(0, 1, (t 27)), (1, 1, (t 29)), (2, 1, (t 31)), (3, 1, (t 33))]), o 35 (.call (f 18) [(t 34)]), o 12 (.lnew [(u 0), (i 0), (i 0), (i 0)]), o 12 (.upd 4 0 (t 12) (t 35))])
 (s (.ops [o 36 (.mv (t 4)), o 37 (.conv (.int .i64) (t 36)), o 38 (.field (some 7) 0 (t 11)), o 39 (.lit 7 1 [(u 0), (u 0), (i 0), (i 0), (i 0), (i 0), (i 0)] [(0, 7, (t 38))]), o 40 (.field (some 4) 0 (t 12)), o 41 (.build [(i 0), (.slice none 0 0), (.slice none 0 0), (u 0), (i 0), (i 0), (i 0)] [(0, 1, (t 37)), (2, 1, (t 39)), (3, 4, (t 40))]), o 42 (.lit 7 1 [(i 0), (.slice none 0 0), (.slice none 0 0), (u 0), (i 0), (i 0), (i 0)] [(0, 7, (t 41))]), o 43 (.build [(.slice none 0 0)] [(0, 1, (t 42))]), o 13 (.lnew [(.slice none 0 0)]), o 13 (.upd 1 0 (t 13) (t 43))])
 (s (.ops [o 45 (.field (some 1) 0 (t 13)), o 46 (.call (f 12) [(t 45)]), o 47 (.call (f 14) [(t 46), (c (.slice none 0 0))]), o 48 (.call (f 15) [(t 47)]), o 44 (.mv (t 48)), o 49 (.extract (t 44) 0), o 50 (.extract (t 44) 1), o 51 (.extract (t 44) 2), o 14 (.lnew [(.slice none 0 0)]), o 14 (.upd 1 0 (t 14) (t 49)), o 15 (.mv (t 50)), o 16 (.mv (t 51))])
 (s (.ops [o 52 (.mv (t 16)), o 53 (.bin .eql (t 52) (c (i 0))), o 54 (.mv (t 53)), g 55 true 54 (.mv (t 15)), g 56 true 54 (.bin .eql (t 55) (c (i 0))), o 57 (.pick (t 54) (t 56) (c (.bool false))), o 58 (.mv (t 57)), g 59 true 58 (.field (some 1) 0 (t 14)), g 60 true 58 (.field (some 1) 0 (t 13)), g 61 true 58 (.call (f 16) [(t 59), (t 60)]), o 62 (.pick (t 58) (t 61) (c (.bool false))), o 10 (.mv (t 62))])
 .ret))))))))))⟩
theorem refinerylaw05_ParseLines_is : pgF n_refinerylaw05_ParseLines = some refinerylaw05_ParseLines_c := by kernel_rfl
def refinerylaw05_ParseLines_j0 (J : JT (Value × St)) (v1 v2 v3 v4 v5 : Value) (st : St) := goX J refinerylaw05_ParseLines_c.body [1, 1, 1] (envT [(1, v1), (2, v2), (3, v3), (4, v4), (5, v5)]) st
def refinerylaw05_ParseLines_j1 (J : JT (Value × St)) (v2 v3 v4 v11 : Value) (st : St) := goX J refinerylaw05_ParseLines_c.body [1, 1, 1, 1, 1, 1] (envT [(2, v2), (3, v3), (4, v4), (11, v11)]) st
theorem refinerylaw05_ParseLines_eq (K : Ctx) (J : JT (Value × St)) (a0 a1 a2 a3 a4 : Value) (st : St) : atX K J refinerylaw05_ParseLines_c (AM.start [a0, a1, a2, a3, a4]) st =
 (.thn st (sLbox a0 st) fun p1 =>
 .thn p1.2 (K.go (.call n_refinerylaw05_Awake []) p1.2) fun p2 =>
 .thn p2.2 (sUn .not p2.1 p2.2) fun p3 =>
 condX p3.1
 (.ok ((.bool false), p3.2))
 (refinerylaw05_ParseLines_j0 J a1 a2 a3 a4 p1.1 p3.2)) := by kernel_rfl
theorem refinerylaw05_ParseLines_of : Of5 n_refinerylaw05_ParseLines refinerylaw05_ParseLines_c := fun hF => call_of hF refinerylaw05_ParseLines_is rfl
theorem refinerylaw05_ParseLines_j0_eq (hJ : IsJ K (retK refinerylaw05_ParseLines_c.results) J) (v1 v2 v3 v4 v5 : Value) (st : St) : refinerylaw05_ParseLines_j0 J v1 v2 v3 v4 v5 st =
 (.thn st (sField (some 7) 0 v5 st) fun p1 =>
 .thn p1.2 (K.go (.call n_refinerylaw03_Line_Instr [p1.1, (.int .i64 6)]) p1.2) fun p2 =>
 .thn p2.2 (sLnew [(.int .u8 0), (.int .u8 0), (.int .i64 0), (.int .i64 0), (.int .i64 0), (.int .i64 0), (.int .i64 0)] p2.2) fun p3 =>
 .thn p3.2 (sUpd 7 0 p3.1 p2.1 p3.2) fun p4 =>
 .thn p4.2 (sLref p4.1 p4.2) fun p5 =>
 .thn p5.2 (sField none 0 p4.1 p5.2) fun p6 =>
 .thn p6.2 (sBin .eql p6.1 (.int .u8 0) p6.2) fun p7 =>
 condX p7.1
 (.thn p7.2 (sLref p4.1 p7.2) fun p8 =>
 .thn p8.2 (sUpd 1 5 p4.1 v1 p8.2) fun p9 =>
 refinerylaw05_ParseLines_j1 J v2 v3 v4 p9.1 p9.2)
 (refinerylaw05_ParseLines_j1 J v2 v3 v4 p4.1 p7.2)) := gq hJ (by kernel_rfl)
theorem refinerylaw05_ParseLines_j1_eq (hJ : IsJ K (retK refinerylaw05_ParseLines_c.results) J) (v2 v3 v4 v11 : Value) (st : St) : refinerylaw05_ParseLines_j1 J v2 v3 v4 v11 st =
 (.thn st (sBin .rem v2 (.int .u8 4) st) fun p1 =>
 .thn p1.2 (sConv (.int .i64) v3 p1.2) fun p2 =>
 .thn p2.2 (sConv (.int .i64) v4 p2.2) fun p3 =>
 .thn p3.2 (sConv (.int .i64) v4 p3.2) fun p4 =>
 .thn p4.2 (sBuild [(.int .u8 0), (.int .i64 0), (.int .i64 0), (.int .i64 0)] [(0, 1, p1.1), (1, 1, p2.1), (2, 1, p3.1), (3, 1, p4.1)] p4.2) fun p5 =>
 .thn p5.2 (K.go (.call n_ir_Last_Only [p5.1]) p5.2) fun p6 =>
 .thn p6.2 (sLnew [(.int .u8 0), (.int .i64 0), (.int .i64 0), (.int .i64 0)] p6.2) fun p7 =>
 .thn p7.2 (sUpd 4 0 p7.1 p6.1 p7.2) fun p8 =>
 .thn p8.2 (sConv (.int .i64) v4 p8.2) fun p9 =>
 .thn p9.2 (sField (some 7) 0 v11 p9.2) fun p10 =>
 .thn p10.2 (sLit 7 1 [(.int .u8 0), (.int .u8 0), (.int .i64 0), (.int .i64 0), (.int .i64 0), (.int .i64 0), (.int .i64 0)] [(0, 7, p10.1)] p10.2) fun p11 =>
 .thn p11.2 (sField (some 4) 0 p8.1 p11.2) fun p12 =>
 .thn p12.2 (sBuild [(.int .i64 0), (.slice none 0 0), (.slice none 0 0), (.int .u8 0), (.int .i64 0), (.int .i64 0), (.int .i64 0)] [(0, 1, p9.1), (2, 1, p11.1), (3, 4, p12.1)] p12.2) fun p13 =>
 .thn p13.2 (sLit 7 1 [(.int .i64 0), (.slice none 0 0), (.slice none 0 0), (.int .u8 0), (.int .i64 0), (.int .i64 0), (.int .i64 0)] [(0, 7, p13.1)] p13.2) fun p14 =>
 .thn p14.2 (sBuild [(.slice none 0 0)] [(0, 1, p14.1)] p14.2) fun p15 =>
 .thn p15.2 (sLnew [(.slice none 0 0)] p15.2) fun p16 =>
 .thn p16.2 (sUpd 1 0 p16.1 p15.1 p16.2) fun p17 =>
 .thn p17.2 (sField (some 1) 0 p17.1 p17.2) fun p18 =>
 .thn p18.2 (K.go (.call n_refinerylaw05_Tokens [p18.1]) p18.2) fun p19 =>
 .thn p19.2 (K.go (.call n_refinerylaw05_Text [p19.1, (.slice none 0 0)]) p19.2) fun p20 =>
 .thn p20.2 (K.go (.call n_parse_Parse [p20.1]) p20.2) fun p21 =>
 .thn p21.2 (sExtract p21.1 0 p21.2) fun p22 =>
 .thn p22.2 (sExtract p21.1 1 p22.2) fun p23 =>
 .thn p23.2 (sExtract p21.1 2 p23.2) fun p24 =>
 .thn p24.2 (sLnew [(.slice none 0 0)] p24.2) fun p25 =>
 .thn p25.2 (sUpd 1 0 p25.1 p22.1 p25.2) fun p26 =>
 .thn p26.2 (sBin .eql p24.1 (.int .i64 0) p26.2) fun p27 =>
 .thn p27.2 (sG p27.1 true (.ok (p23.1, p27.2)) p27.2) fun p28 =>
 .thn p28.2 (sG p27.1 true (sBin .eql p28.1 (.int .i64 0) p28.2) p28.2) fun p29 =>
 .thn p29.2 (sPick p27.1 p29.1 (.bool false) p29.2) fun p30 =>
 .thn p30.2 (sG p30.1 true (sField (some 1) 0 p26.1 p30.2) p30.2) fun p31 =>
 .thn p31.2 (sG p30.1 true (sField (some 1) 0 p17.1 p31.2) p31.2) fun p32 =>
 .thn p32.2 (sG p30.1 true (K.go (.call n_ir_Same [p31.1, p32.1]) p32.2) p32.2) fun p33 =>
 .thn p33.2 (sPick p30.1 p33.1 (.bool false) p33.2) fun p34 =>
 .ok (p34.1, p34.2)) := gq hJ (by kernel_rfl)
end
end Go.Proofs.YtdjfndijbnpkpaaDoor.Sh
