/-
 The functions of the program, operation by operation, as the abstract machine has them.
-/
import Derived.Test.YtefdkodjpcabmaaDoorProg
import Derived.Test.YtefdkodjpcabmaaDoorShN
set_option linter.unusedVariables false
set_option maxRecDepth 100000
namespace Go.Proofs.YtefdkodjpcabmaaDoor.Sh
open Go Go.AM Go.Proofs
noncomputable section
variable {K : Ctx} {J : JT (Value × St)} {st : St} {Q : Value × St → Prop}
open C in
def refinerylaw04_LexJoins_c : AFun := ⟨2, [.tmp 4],
 (s (.ops [o 4 (.mv (c (.bool false)))])
 (s (s (.ops [o 20 (.call (f 14) []), o 21 (.un .not (t 20))])
 (.cond (t 21) (s (.ops [o 4 (.mv (c (.bool false)))])
 .ret) .skip))
 (s (.keep [0, 1])
 (s (s (.ops [o 22 (.mv (t 0)), o 23 (.len .slice (t 22)), o 24 (.bin .gtr (t 23) (c (i 30))), o 25 (.mv (t 24)), g 26 false 25 (.mv (t 1)), g 27 false 25 (.len .slice (t 26)), g 28 false 25 (.bin .gtr (t 27) (c (i 30))), o 29 (.pick (t 25) (c (.bool true)) (t 28))])
 (.cond (t 29) (s (.ops [o 4 (.mv (c (.bool true)))])
 .ret) .skip))
 (s (.keep [0, 1])
 (s (.ops [o 5 (.mv (f 19))])
 (s (.ops [o 30 (.mv (t 5)), o 31 (.mv (t 0)), o 32 (.call (t 30) [(t 31)]), o 33 (.mv (t 5)), o 34 (.mv (t 1)), o 35 (.call (t 33) [(t 34)]), o 6 (.mv (t 32)), o 7 (.mv (t 35))])
 (s (.ops [o 37 (.mv (t 6)), o 38 (.call (f 16) [(t 37)]), o 36 (.mv (t 38)), o 39 (.extract (t 36) 0), o 40 (.extract (t 36) 1), o 41 (.extract (t 36) 2), o 8 (.mv (t 39)), o 9 (.mv (t 40)), o 10 (.mv (t 41))])
 (s (.ops [o 43 (.mv (t 7)), o 44 (.call (f 16) [(t 43)]), o 42 (.mv (t 44)), o 45 (.extract (t 42) 0), o 46 (.extract (t 42) 1), o 47 (.extract (t 42) 2), o 11 (.mv (t 45)), o 12 (.mv (t 46)), o 13 (.mv (t 47))])
 (s (.ops [o 49 (.mv (t 6)), o 50 (.bin .add (t 49) (c (.string (bstr [10])))), o 51 (.mv (t 7)), o 52 (.bin .add (t 50) (t 51)), o 53 (.call (f 16) [(t 52)]), o 48 (.mv (t 53)), o 54 (.extract (t 48) 0), o 55 (.extract (t 48) 1), o 56 (.extract (t 48) 2), o 14 (.mv (t 54)), o 15 (.mv (t 55)), o 16 (.mv (t 56))])
 (s (s (.ops [o 57 (.mv (t 10)), o 58 (.bin .neq (t 57) (c (i 0))), o 59 (.mv (t 58)), g 60 false 59 (.mv (t 13)), g 61 false 59 (.bin .neq (t 60) (c (i 0))), o 62 (.pick (t 59) (c (.bool true)) (t 61)), o 63 (.mv (t 62)), g 64 false 63 (.mv (t 16)), g 65 false 63 (.bin .neq (t 64) (c (i 0))), o 66 (.pick (t 63) (c (.bool true)) (t 65)), o 67 (.mv (t 66)), g 68 false 67 (.mv (t 14)), g 69 false 67 (.len .slice (t 68)), g 70 false 67 (.mv (t 8)), g 71 false 67 (.len .slice (t 70)), g 72 false 67 (.mv (t 11)), g 73 false 67 (.len .slice (t 72)), g 74 false 67 (.bin .add (t 71) (t 73)), g 75 false 67 (.bin .neq (t 69) (t 74)), o 76 (.pick (t 67) (c (.bool true)) (t 75))])
 (.cond (t 76) (s (.ops [o 4 (.mv (c (.bool false)))])
 .ret) .skip))
 (s (.keep [6, 8, 11, 14])
 (s (s (.ops [o 77 (.mv (t 14)), o 78 (.len .slice (t 77)), o 79 (.mv (c (i 0)))])
 (.block 0 (s (.keep [6, 8, 11, 77, 78, 79])
 (.loop (s (s (.ops [o 80 (.bin .lss (t 79) (t 78))])
 (s (.cond (t 80) .skip (.exit 0))
 (s (.keep [6, 8, 11, 77, 78, 79])
 (s (.block 1 (s (.ops [o 81 (.mv (t 79)), o 82 (.ixA 4 none (t 77) (t 79)), o 83 (.load (some 4) (t 82)), o 18 (.lnew [(u 0), (i 0), (.string (bstr [])), (i 0)]), o 17 (.mv (t 81)), o 18 (.upd 4 0 (t 18) (t 83))])
 (s (.ops [o 84 (.mv (t 6)), o 85 (.len .str (t 84)), o 86 (.build [(u 0), (i 0), (.string (bstr [])), (i 0)] [(0, 1, (c (u 7))), (1, 1, (t 85))]), o 19 (.lnew [(u 0), (i 0), (.string (bstr [])), (i 0)]), o 19 (.upd 4 0 (t 19) (t 86))])
 (s (.block 2 (s (.ops [o 88 (.mv (t 17)), o 89 (.mv (t 8)), o 90 (.len .slice (t 89)), o 91 (.bin .sub (t 90) (c (i 1))), o 92 (.bin .lss (t 88) (t 91)), o 87 (.mv (t 92))])
 (.cond (t 87) (.ops [o 93 (.mv (t 8)), o 94 (.mv (t 17)), o 95 (.ixA 4 none (t 93) (t 94)), o 96 (.load (some 4) (t 95)), o 19 (.upd 4 0 (t 19) (t 96))]) (s (.ops [o 98 (.mv (t 17)), o 99 (.mv (t 8)), o 100 (.len .slice (t 99)), o 101 (.bin .geq (t 98) (t 100)), o 97 (.mv (t 101))])
 (.cond (t 97) (s (.ops [o 102 (.mv (t 11)), o 103 (.mv (t 17)), o 104 (.mv (t 8)), o 105 (.len .slice (t 104)), o 106 (.bin .sub (t 103) (t 105)), o 107 (.ixA 4 none (t 102) (t 106)), o 108 (.load (some 4) (t 107)), o 19 (.upd 4 0 (t 19) (t 108))])
 (.ops [o 109 (.lref (t 19)), o 110 (.field none 1 (t 19)), o 111 (.mv (t 6)), o 112 (.len .str (t 111)), o 113 (.bin .add (t 112) (c (i 1))), o 114 (.bin .add (t 110) (t 113)), o 115 (.lref (t 19)), o 19 (.upd 1 1 (t 19) (t 114))])) .skip)))))
 (s (.keep [6, 8, 11, 18, 19, 77, 78, 79])
 (s (.ops [o 116 (.field (some 4) 0 (t 18)), o 117 (.field (some 4) 0 (t 19)), o 118 (.eq true (.fields [(0, .int), (1, .int), (2, .str), (3, .int)]) (t 116) (t 117))])
 (.cond (t 118) (s (.ops [o 4 (.mv (c (.bool false)))])
 .ret) .skip)))))))
 (s (.keep [6, 8, 11, 77, 78, 79])
 (.ops [o 119 (.bin .add (t 79) (c (i 1))), o 79 (.mv (t 119))]))))))
 (.keep [6, 8, 11, 77, 78, 79]))))))
 (s (.keep [])
 (s (.ops [o 4 (.mv (c (.bool true)))])
 .ret)))))))))))))))⟩
theorem refinerylaw04_LexJoins_is : pgF n_refinerylaw04_LexJoins = some refinerylaw04_LexJoins_c := by kernel_rfl
def refinerylaw04_LexJoins_j0 (J : JT (Value × St)) (v0 v1 : Value) (st : St) := goX J refinerylaw04_LexJoins_c.body [1, 1, 1] (envT [(0, v0), (1, v1)]) st
def refinerylaw04_LexJoins_j1 (J : JT (Value × St)) (v0 v1 : Value) (st : St) := goX J refinerylaw04_LexJoins_c.body [1, 1, 1, 1, 1] (envT [(0, v0), (1, v1)]) st
def refinerylaw04_LexJoins_j2 (J : JT (Value × St)) (v6 v8 v11 v14 : Value) (st : St) := goX J refinerylaw04_LexJoins_c.body [1, 1, 1, 1, 1, 1, 1, 1, 1, 1, 1, 1] (envT [(6, v6), (8, v8), (11, v11), (14, v14)]) st
def refinerylaw04_LexJoins_l0 (J : JT (Value × St)) (v6 v8 v11 v77 v78 v79 : Value) (st : St) := lpX J refinerylaw04_LexJoins_c.body [1, 1, 1, 1, 1, 1, 1, 1, 1, 1, 1, 1, 0, 1, 0, 1] (envT [(6, v6), (8, v8), (11, v11), (77, v77), (78, v78), (79, v79)]) st
def refinerylaw04_LexJoins_j3 (J : JT (Value × St)) (v6 v8 v11 v77 v78 v79 : Value) (st : St) := goX J refinerylaw04_LexJoins_c.body [1, 1, 1, 1, 1, 1, 1, 1, 1, 1, 1, 1, 0, 1, 0, 1, 0, 0, 1, 1, 1] (envT [(6, v6), (8, v8), (11, v11), (77, v77), (78, v78), (79, v79)]) st
def refinerylaw04_LexJoins_j4 (J : JT (Value × St)) (st : St) := goX J refinerylaw04_LexJoins_c.body [1, 1, 1, 1, 1, 1, 1, 1, 1, 1, 1, 1, 1, 1] (envT []) st
def refinerylaw04_LexJoins_j5 (J : JT (Value × St)) (v6 v8 v11 v18 v19 v77 v78 v79 : Value) (st : St) := goX J refinerylaw04_LexJoins_c.body [1, 1, 1, 1, 1, 1, 1, 1, 1, 1, 1, 1, 0, 1, 0, 1, 0, 0, 1, 1, 1, 0, 0, 1, 1, 1, 1] (envT [(6, v6), (8, v8), (11, v11), (18, v18), (19, v19), (77, v77), (78, v78), (79, v79)]) st
def refinerylaw04_LexJoins_j6 (J : JT (Value × St)) (v6 v8 v11 v77 v78 v79 : Value) (st : St) := goX J refinerylaw04_LexJoins_c.body [1, 1, 1, 1, 1, 1, 1, 1, 1, 1, 1, 1, 0, 1, 0, 1, 0, 0, 1, 1, 1, 1, 1] (envT [(6, v6), (8, v8), (11, v11), (77, v77), (78, v78), (79, v79)]) st
theorem refinerylaw04_LexJoins_eq (K : Ctx) (J : JT (Value × St)) (a0 a1 : Value) (st : St) : atX K J refinerylaw04_LexJoins_c (AM.start [a0, a1]) st =
 (.thn st (K.go (.call n_refinerylaw04_Awake []) st) fun p1 =>
 .thn p1.2 (sUn .not p1.1 p1.2) fun p2 =>
 condX p2.1
 (.ok ((.bool false), p2.2))
 (refinerylaw04_LexJoins_j0 J a0 a1 p2.2)) := by kernel_rfl
theorem refinerylaw04_LexJoins_of : Of2 n_refinerylaw04_LexJoins refinerylaw04_LexJoins_c := fun hF => call_of hF refinerylaw04_LexJoins_is rfl
theorem refinerylaw04_LexJoins_j0_eq (hJ : IsJ K (retK refinerylaw04_LexJoins_c.results) J) (v0 v1 : Value) (st : St) : refinerylaw04_LexJoins_j0 J v0 v1 st =
 (.thn st (sLen .slice v0 st) fun p1 =>
 .thn p1.2 (sBin .gtr p1.1 (.int .i64 30) p1.2) fun p2 =>
 .thn p2.2 (sG p2.1 false (.ok (v1, p2.2)) p2.2) fun p3 =>
 .thn p3.2 (sG p2.1 false (sLen .slice p3.1 p3.2) p3.2) fun p4 =>
 .thn p4.2 (sG p2.1 false (sBin .gtr p4.1 (.int .i64 30) p4.2) p4.2) fun p5 =>
 .thn p5.2 (sPick p2.1 (.bool true) p5.1 p5.2) fun p6 =>
 condX p6.1
 (.ok ((.bool true), p6.2))
 (refinerylaw04_LexJoins_j1 J v0 v1 p6.2)) := gq hJ (by kernel_rfl)
theorem refinerylaw04_LexJoins_j1_eq (hJ : IsJ K (retK refinerylaw04_LexJoins_c.results) J) (v0 v1 : Value) (st : St) : refinerylaw04_LexJoins_j1 J v0 v1 st =
 (.thn st (sCall K (.func (.func n_refinerylaw04_LexJoins_1) #[] #[]) [v0] st) fun p1 =>
 .thn p1.2 (sCall K (.func (.func n_refinerylaw04_LexJoins_1) #[] #[]) [v1] p1.2) fun p2 =>
 .thn p2.2 (K.go (.call n_lex_Split [p1.1]) p2.2) fun p3 =>
 .thn p3.2 (sExtract p3.1 0 p3.2) fun p4 =>
 .thn p4.2 (sExtract p3.1 1 p4.2) fun p5 =>
 .thn p5.2 (sExtract p3.1 2 p5.2) fun p6 =>
 .thn p6.2 (K.go (.call n_lex_Split [p2.1]) p6.2) fun p7 =>
 .thn p7.2 (sExtract p7.1 0 p7.2) fun p8 =>
 .thn p8.2 (sExtract p7.1 1 p8.2) fun p9 =>
 .thn p9.2 (sExtract p7.1 2 p9.2) fun p10 =>
 .thn p10.2 (sBin .add p1.1 (.string (bstr [10])) p10.2) fun p11 =>
 .thn p11.2 (sBin .add p11.1 p2.1 p11.2) fun p12 =>
 .thn p12.2 (K.go (.call n_lex_Split [p12.1]) p12.2) fun p13 =>
 .thn p13.2 (sExtract p13.1 0 p13.2) fun p14 =>
 .thn p14.2 (sExtract p13.1 1 p14.2) fun p15 =>
 .thn p15.2 (sExtract p13.1 2 p15.2) fun p16 =>
 .thn p16.2 (sBin .neq p6.1 (.int .i64 0) p16.2) fun p17 =>
 .thn p17.2 (sG p17.1 false (.ok (p10.1, p17.2)) p17.2) fun p18 =>
 .thn p18.2 (sG p17.1 false (sBin .neq p18.1 (.int .i64 0) p18.2) p18.2) fun p19 =>
 .thn p19.2 (sPick p17.1 (.bool true) p19.1 p19.2) fun p20 =>
 .thn p20.2 (sG p20.1 false (.ok (p16.1, p20.2)) p20.2) fun p21 =>
 .thn p21.2 (sG p20.1 false (sBin .neq p21.1 (.int .i64 0) p21.2) p21.2) fun p22 =>
 .thn p22.2 (sPick p20.1 (.bool true) p22.1 p22.2) fun p23 =>
 .thn p23.2 (sG p23.1 false (.ok (p14.1, p23.2)) p23.2) fun p24 =>
 .thn p24.2 (sG p23.1 false (sLen .slice p24.1 p24.2) p24.2) fun p25 =>
 .thn p25.2 (sG p23.1 false (.ok (p4.1, p25.2)) p25.2) fun p26 =>
 .thn p26.2 (sG p23.1 false (sLen .slice p26.1 p26.2) p26.2) fun p27 =>
 .thn p27.2 (sG p23.1 false (.ok (p8.1, p27.2)) p27.2) fun p28 =>
 .thn p28.2 (sG p23.1 false (sLen .slice p28.1 p28.2) p28.2) fun p29 =>
 .thn p29.2 (sG p23.1 false (sBin .add p27.1 p29.1 p29.2) p29.2) fun p30 =>
 .thn p30.2 (sG p23.1 false (sBin .neq p25.1 p30.1 p30.2) p30.2) fun p31 =>
 .thn p31.2 (sPick p23.1 (.bool true) p31.1 p31.2) fun p32 =>
 condX p32.1
 (.ok ((.bool false), p32.2))
 (refinerylaw04_LexJoins_j2 J p1.1 p4.1 p8.1 p14.1 p32.2)) := gq hJ (by kernel_rfl)
theorem refinerylaw04_LexJoins_j2_eq (hJ : IsJ K (retK refinerylaw04_LexJoins_c.results) J) (v6 v8 v11 v14 : Value) (st : St) : refinerylaw04_LexJoins_j2 J v6 v8 v11 v14 st =
 (.thn st (sLen .slice v14 st) fun p1 =>
 refinerylaw04_LexJoins_l0 J v6 v8 v11 v14 p1.1 (.int .i64 0) p1.2) := gq hJ (by kernel_rfl)
theorem refinerylaw04_LexJoins_l0_eq (K : Ctx) (J : JT (Value × St)) (v6 v8 v11 v77 v78 v79 : Value) (st : St) : inX K J (retK refinerylaw04_LexJoins_c.results) refinerylaw04_LexJoins_c.body [1, 1, 1, 1, 1, 1, 1, 1, 1, 1, 1, 1, 0, 1, 0, 1] (envT [(6, v6), (8, v8), (11, v11), (77, v77), (78, v78), (79, v79)]) st =
 (.thn st (sBin .lss v79 v78 st) fun p1 =>
 condX p1.1
 (refinerylaw04_LexJoins_j3 J v6 v8 v11 v77 v78 v79 p1.2)
 (refinerylaw04_LexJoins_j4 J p1.2)) := by kernel_rfl
theorem refinerylaw04_LexJoins_l0_of (hF : Fix pgF K) (hJ : IsJ K (retK refinerylaw04_LexJoins_c.results) J) {v6 v8 v11 v77 v78 v79 : Value} (h : Ok (inX K J (retK refinerylaw04_LexJoins_c.results) refinerylaw04_LexJoins_c.body [1, 1, 1, 1, 1, 1, 1, 1, 1, 1, 1, 1, 0, 1, 0, 1] (envT [(6, v6), (8, v8), (11, v11), (77, v77), (78, v78), (79, v79)]) st) Q) : Ok (refinerylaw04_LexJoins_l0 J v6 v8 v11 v77 v78 v79 st) Q := loop_of hF hJ h
theorem refinerylaw04_LexJoins_j3_eq (hJ : IsJ K (retK refinerylaw04_LexJoins_c.results) J) (v6 v8 v11 v77 v78 v79 : Value) (st : St) : refinerylaw04_LexJoins_j3 J v6 v8 v11 v77 v78 v79 st =
 (.thn st (sIxA 4 none v77 v79 st) fun p1 =>
 .thn p1.2 (sLoad (some 4) p1.1 p1.2) fun p2 =>
 .thn p2.2 (sLnew [(.int .u8 0), (.int .i64 0), (.string (bstr [])), (.int .i64 0)] p2.2) fun p3 =>
 .thn p3.2 (sUpd 4 0 p3.1 p2.1 p3.2) fun p4 =>
 .thn p4.2 (sLen .str v6 p4.2) fun p5 =>
 .thn p5.2 (sBuild [(.int .u8 0), (.int .i64 0), (.string (bstr [])), (.int .i64 0)] [(0, 1, (.int .u8 7)), (1, 1, p5.1)] p5.2) fun p6 =>
 .thn p6.2 (sLnew [(.int .u8 0), (.int .i64 0), (.string (bstr [])), (.int .i64 0)] p6.2) fun p7 =>
 .thn p7.2 (sUpd 4 0 p7.1 p6.1 p7.2) fun p8 =>
 .thn p8.2 (sLen .slice v8 p8.2) fun p9 =>
 .thn p9.2 (sBin .sub p9.1 (.int .i64 1) p9.2) fun p10 =>
 .thn p10.2 (sBin .lss v79 p10.1 p10.2) fun p11 =>
 condX p11.1
 (.thn p11.2 (sIxA 4 none v8 v79 p11.2) fun p12 =>
 .thn p12.2 (sLoad (some 4) p12.1 p12.2) fun p13 =>
 .thn p13.2 (sUpd 4 0 p8.1 p13.1 p13.2) fun p14 =>
 refinerylaw04_LexJoins_j5 J v6 v8 v11 p4.1 p14.1 v77 v78 v79 p14.2)
 (.thn p11.2 (sLen .slice v8 p11.2) fun p15 =>
 .thn p15.2 (sBin .geq v79 p15.1 p15.2) fun p16 =>
 condX p16.1
 (.thn p16.2 (sLen .slice v8 p16.2) fun p17 =>
 .thn p17.2 (sBin .sub v79 p17.1 p17.2) fun p18 =>
 .thn p18.2 (sIxA 4 none v11 p18.1 p18.2) fun p19 =>
 .thn p19.2 (sLoad (some 4) p19.1 p19.2) fun p20 =>
 .thn p20.2 (sUpd 4 0 p8.1 p20.1 p20.2) fun p21 =>
 .thn p21.2 (sLref p21.1 p21.2) fun p22 =>
 .thn p22.2 (sField none 1 p21.1 p22.2) fun p23 =>
 .thn p23.2 (sLen .str v6 p23.2) fun p24 =>
 .thn p24.2 (sBin .add p24.1 (.int .i64 1) p24.2) fun p25 =>
 .thn p25.2 (sBin .add p23.1 p25.1 p25.2) fun p26 =>
 .thn p26.2 (sLref p21.1 p26.2) fun p27 =>
 .thn p27.2 (sUpd 1 1 p21.1 p26.1 p27.2) fun p28 =>
 refinerylaw04_LexJoins_j5 J v6 v8 v11 p4.1 p28.1 v77 v78 v79 p28.2)
 (refinerylaw04_LexJoins_j5 J v6 v8 v11 p4.1 p8.1 v77 v78 v79 p16.2))) := gq hJ (by kernel_rfl)
theorem refinerylaw04_LexJoins_j4_eq (hJ : IsJ K (retK refinerylaw04_LexJoins_c.results) J) (st : St) : refinerylaw04_LexJoins_j4 J st =
 (.ok ((.bool true), st)) := gq hJ (by kernel_rfl)
theorem refinerylaw04_LexJoins_j5_eq (hJ : IsJ K (retK refinerylaw04_LexJoins_c.results) J) (v6 v8 v11 v18 v19 v77 v78 v79 : Value) (st : St) : refinerylaw04_LexJoins_j5 J v6 v8 v11 v18 v19 v77 v78 v79 st =
 (.thn st (sField (some 4) 0 v18 st) fun p1 =>
 .thn p1.2 (sField (some 4) 0 v19 p1.2) fun p2 =>
 .thn p2.2 (sEq true (.fields [(0, .int), (1, .int), (2, .str), (3, .int)]) p1.1 p2.1 p2.2) fun p3 =>
 condX p3.1
 (.ok ((.bool false), p3.2))
 (refinerylaw04_LexJoins_j6 J v6 v8 v11 v77 v78 v79 p3.2)) := gq hJ (by kernel_rfl)
theorem refinerylaw04_LexJoins_j6_eq (hJ : IsJ K (retK refinerylaw04_LexJoins_c.results) J) (v6 v8 v11 v77 v78 v79 : Value) (st : St) : refinerylaw04_LexJoins_j6 J v6 v8 v11 v77 v78 v79 st =
 (.thn st (sBin .add v79 (.int .i64 1) st) fun p1 =>
 refinerylaw04_LexJoins_l0 J v6 v8 v11 v77 v78 p1.1 p1.2) := gq hJ (by kernel_rfl)
end
end Go.Proofs.YtefdkodjpcabmaaDoor.Sh
