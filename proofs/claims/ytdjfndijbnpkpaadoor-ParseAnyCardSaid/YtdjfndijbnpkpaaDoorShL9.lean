/-
 The functions of the program, operation by operation, as the abstract machine has them.
-/
import Derived.Test.YtdjfndijbnpkpaaDoorProg
import Derived.Test.YtdjfndijbnpkpaaDoorShN
set_option linter.unusedVariables false
set_option maxRecDepth 100000
namespace Go.Proofs.YtdjfndijbnpkpaaDoor.Sh
open Go Go.AM Go.Proofs
noncomputable section
variable {K : Ctx} {J : JT (Value × St)} {st : St} {Q : Value × St → Prop}
open C in
def refinerylaw05_ParseAny_c : AFun := ⟨5, [.tmp 10],
 (s (.ops [o 6 (.lbox (t 1)), o 10 (.mv (c (.bool false)))])
 (s (s (.ops [o 25 (.call (f 10) []), o 26 (.un .not (t 25))])
 (.cond (t 26) (s (.ops [o 10 (.mv (c (.bool false)))])
 .ret) .skip))
 (s (.keep [0, 2, 3, 4, 6])
 (s (s (.ops [o 27 (.field (some 3) 0 (t 6)), o 28 (.call (f 11) [(t 27)]), o 29 (.un .not (t 28)), o 30 (.mv (t 29)), g 31 false 30 (.mv (t 0)), g 32 false 30 (.len .str (t 31)), g 33 false 30 (.bin .gtr (t 32) (c (i 200))), o 34 (.pick (t 30) (c (.bool true)) (t 33))])
 (.cond (t 34) (s (.ops [o 10 (.mv (c (.bool true)))])
 .ret) .skip))
 (s (.keep [0, 2, 3, 4, 6])
 (s (.ops [o 35 (.field (some 3) 0 (t 6)), o 36 (.call (f 13) [(t 35)]), o 37 (.call (f 12) [(t 36)]), o 11 (.mv (t 37))])
 (s (.ops [o 38 (.mv (t 2)), o 39 (.conv (.int .i64) (t 38)), o 40 (.mv (t 11)), o 41 (.len .slice (t 40)), o 42 (.bin .rem (t 39) (t 41)), o 12 (.mv (t 42))])
 (s (.ops [o 43 (.lit 1 17 [(.string (bstr [])), (.string (bstr [])), (.string (bstr [])), (.string (bstr [])), (.string (bstr [])), (.string (bstr [])), (.string (bstr [])), (.string (bstr [])), (.string (bstr [])), (.string (bstr [])), (.string (bstr [])), (.string (bstr [])), (.string (bstr [])), (.string (bstr [])), (.string (bstr [])), (.string (bstr [])), (.string (bstr []))] [(0, 1, (c (.string (bstr [64, 51])))), (1, 1, (c (.string (bstr [58])))), (2, 1, (c (.string (bstr [10])))), (3, 1, (c (.string (bstr [37, 50])))), (4, 1, (c (.string (bstr [61])))), (5, 1, (c (.string (bstr [55])))), (6, 1, (c (.string (bstr [97, 100, 100])))), (7, 1, (c (.string (bstr [44])))), (8, 1, (c (.string (bstr [106, 117, 109, 112])))), (9, 1, (c (.string (bstr [98, 114])))), (10, 1, (c (.string (bstr [36, 49])))), (11, 1, (c (.string (bstr [105, 110])))), (12, 1, (c (.string (bstr [111, 117, 116])))), (13, 1, (c (.string (bstr [114, 101, 116])))), (14, 1, (c (.string (bstr [37, 49, 48, 48, 48, 48, 48])))), (15, 1, (c (.string (bstr [64, 49, 48, 48, 48, 48, 48])))), (16, 1, (c (.string (bstr [36, 49, 54]))))]), o 44 (.mv (t 3)), o 45 (.bin .rem (t 44) (c (u 17))), o 46 (.ixA 1 none (t 43) (t 45)), o 47 (.load none (t 46)), o 13 (.mv (t 47))])
 (s (s (.ops [o 48 (.mv (t 4)), o 49 (.bin .rem (t 48) (c (u 3)))])
 (.block 0 (s (.ops [o 58 (.bin .eql (t 49) (c (u 0))), o 57 (.mv (t 58))])
 (.cond (t 57) (.draw [d 0 0 false (o 59 (.lit 1 0 [] [])), d 1 0 false (o 60 (.mv (t 11))), d 2 0 false (o 61 (.mv (t 12))), d 3 0 false (o 62 (.slice (.slice 1) (t 60) none (some (t 61)) none)), d 4 0 true (o 63 (.append 1 16 (t 59) (t 62))), d 5 0 false (o 64 (.mv (t 11))), d 6 0 false (o 65 (.mv (t 12))), d 7 0 false (o 66 (.bin .add (t 65) (c (i 1)))), d 8 1 false (o 67 (.slice (.slice 1) (t 64) (some (t 66)) none none)), d 9 0 true (o 68 (.append 1 16 (t 63) (t 67))), d 10 0 false (o 11 (.mv (t 68)))]) (s (.ops [o 70 (.bin .eql (t 49) (c (u 1))), o 69 (.mv (t 70))])
 (.cond (t 69) (.draw [d 0 0 false (o 71 (.lit 1 0 [] [])), d 1 0 false (o 72 (.mv (t 11))), d 2 0 false (o 73 (.mv (t 12))), d 3 0 false (o 74 (.slice (.slice 1) (t 72) none (some (t 73)) none)), d 4 0 true (o 75 (.append 1 16 (t 71) (t 74))), d 5 0 false (o 76 (.mv (t 13))), d 6 0 false (o 77 (.lit 1 1 [(.string (bstr []))] [(0, 1, (t 76))])), d 7 0 true (o 78 (.append 1 16 (t 75) (t 77))), d 8 0 false (o 79 (.mv (t 11))), d 9 0 false (o 80 (.mv (t 12))), d 10 2 false (o 81 (.slice (.slice 1) (t 79) (some (t 80)) none none)), d 11 0 true (o 82 (.append 1 16 (t 78) (t 81))), d 12 0 false (o 11 (.mv (t 82)))]) (s (.ops [o 50 (.lit 1 0 [] []), o 51 (.mv (t 11)), o 52 (.append 1 16 (t 50) (t 51)), o 11 (.mv (t 52))])
 (.ops [o 53 (.mv (t 11)), o 54 (.mv (t 12)), o 55 (.mv (t 13)), o 56 (.ixA 1 none (t 53) (t 54)), n (.store 1 (t 56) (t 55))]))))))))
 (s (.keep [0, 11])
 (s (s (.ops [o 83 (.mv (t 0)), o 84 (.mv (t 11)), o 85 (.call (f 14) [(t 84), (c (.slice none 0 0))]), o 86 (.mv (t 0)), o 87 (.bin .add (c (.string (bstr [64, 48, 58, 10]))) (t 86)), o 88 (.bin .add (t 87) (c (.string (bstr [10, 116, 114, 97, 112])))), o 89 (.lit 1 3 [(.string (bstr [])), (.string (bstr [])), (.string (bstr []))] [(0, 1, (t 83)), (1, 1, (t 85)), (2, 1, (t 88))]), o 90 (.len .slice (t 89)), o 91 (.mv (c (i 0)))])
 (.block 1 (s (.keep [89, 90, 91])
 (.loop (s (s (.ops [o 92 (.bin .lss (t 91) (t 90))])
 (s (.cond (t 92) .skip (.exit 1))
 (s (.keep [89, 90, 91])
 (s (.block 2 (s (.ops [o 93 (.ixA 1 none (t 89) (t 91)), o 94 (.load none (t 93)), o 15 (.mv (t 94))])
 (s (.ops [o 96 (.mv (t 15)), o 97 (.call (f 15) [(t 96)]), o 95 (.mv (t 97)), o 98 (.extract (t 95) 0), o 99 (.extract (t 95) 1), o 100 (.extract (t 95) 2), o 16 (.lnew [(.slice none 0 0)]), o 16 (.upd 1 0 (t 16) (t 98)), o 17 (.mv (t 99)), o 18 (.mv (t 100))])
 (s (s (.ops [o 101 (.mv (t 18)), o 102 (.bin .eql (t 101) (c (i 0)))])
 (.cond (t 102) (s (.ops [o 104 (.field (some 1) 0 (t 16)), o 105 (.call (f 12) [(t 104)]), o 106 (.call (f 14) [(t 105), (c (.slice none 0 0))]), o 107 (.call (f 15) [(t 106)]), o 103 (.mv (t 107)), o 108 (.extract (t 103) 0), o 109 (.extract (t 103) 1), o 110 (.extract (t 103) 2), o 19 (.lnew [(.slice none 0 0)]), o 19 (.upd 1 0 (t 19) (t 108)), o 20 (.mv (t 109)), o 21 (.mv (t 110))])
 (s (s (.ops [o 111 (.field (some 1) 0 (t 16)), o 112 (.call (f 21) [(t 111)]), o 113 (.bin .neq (t 112) (c (i 0))), o 114 (.mv (t 113)), g 115 false 114 (.field (some 1) 0 (t 16)), g 116 false 114 (.call (f 22) [(t 115)]), g 117 false 114 (.un .not (t 116)), o 118 (.pick (t 114) (c (.bool true)) (t 117)), o 119 (.mv (t 118)), g 120 false 119 (.mv (t 17)), g 121 false 119 (.bin .neq (t 120) (c (i 0))), o 122 (.pick (t 119) (c (.bool true)) (t 121)), o 123 (.mv (t 122)), g 124 false 123 (.mv (t 21)), g 125 false 123 (.bin .neq (t 124) (c (i 0))), o 126 (.pick (t 123) (c (.bool true)) (t 125)), o 127 (.mv (t 126)), g 128 false 127 (.field (some 1) 0 (t 16)), g 129 false 127 (.field (some 1) 0 (t 19)), g 130 false 127 (.call (f 16) [(t 128), (t 129)]), g 131 false 127 (.un .not (t 130)), o 132 (.pick (t 127) (c (.bool true)) (t 131))])
 (.cond (t 132) (s (.ops [o 10 (.mv (c (.bool false)))])
 .ret) .skip))
 (s (.keep [89, 90, 91])
 (.exit 2)))) .skip))
 (s (.keep [15, 16, 17, 18, 89, 90, 91])
 (s (s (.ops [o 133 (.lref (t 16)), o 134 (.field none 0 (t 16)), o 135 (.len .slice (t 134)), o 136 (.bin .gtr (t 135) (c (i 0))), o 137 (.mv (t 136)), g 138 false 137 (.mv (t 17)), g 139 false 137 (.bin .lss (t 138) (c (i 0))), o 140 (.pick (t 137) (c (.bool true)) (t 139)), o 141 (.mv (t 140)), g 142 false 141 (.mv (t 17)), g 143 false 141 (.mv (t 15)), g 144 false 141 (.len .str (t 143)), g 145 false 141 (.bin .gtr (t 142) (t 144)), o 146 (.pick (t 141) (c (.bool true)) (t 145))])
 (.cond (t 146) (s (.ops [o 10 (.mv (c (.bool false)))])
 .ret) .skip))
 (s (.keep [15, 17, 18, 89, 90, 91])
 (s (.ops [o 148 (.mv (t 15)), o 149 (.call (f 23) [(t 148)]), o 147 (.mv (t 149)), o 150 (.extract (t 147) 0), o 151 (.extract (t 147) 1), o 152 (.extract (t 147) 2), o 22 (.mv (t 150)), o 23 (.mv (t 151)), o 24 (.mv (t 152))])
 (s (.ops [o 153 (.mv (t 24)), o 154 (.bin .neq (t 153) (c (i 0))), o 155 (.mv (t 154)), g 156 true 155 (.mv (t 18)), g 157 true 155 (.mv (t 24)), g 158 true 155 (.bin .neq (t 156) (t 157)), g 159 true 155 (.mv (t 158)), g 160 false 159 (.mv (t 17)), g 161 false 159 (.mv (t 23)), g 162 false 159 (.bin .neq (t 160) (t 161)), g 163 true 155 (.pick (t 159) (c (.bool true)) (t 162)), o 164 (.pick (t 155) (t 163) (c (.bool false)))])
 (.cond (t 164) (s (.ops [o 10 (.mv (c (.bool false)))])
 .ret) .skip))))))))))
 (s (.keep [89, 90, 91])
 (.ops [o 165 (.bin .add (t 91) (c (i 1))), o 91 (.mv (t 165))]))))))
 (.keep [89, 90, 91]))))))
 (s (.keep [])
 (s (.ops [o 10 (.mv (c (.bool true)))])
 .ret)))))))))))))⟩
theorem refinerylaw05_ParseAny_is : pgF n_refinerylaw05_ParseAny = some refinerylaw05_ParseAny_c := by kernel_rfl
def refinerylaw05_ParseAny_j0 (J : JT (Value × St)) (v0 v2 v3 v4 v6 : Value) (st : St) := goX J refinerylaw05_ParseAny_c.body [1, 1, 1] (envT [(0, v0), (2, v2), (3, v3), (4, v4), (6, v6)]) st
def refinerylaw05_ParseAny_j1 (J : JT (Value × St)) (v0 v2 v3 v4 v6 : Value) (st : St) := goX J refinerylaw05_ParseAny_c.body [1, 1, 1, 1, 1] (envT [(0, v0), (2, v2), (3, v3), (4, v4), (6, v6)]) st
def refinerylaw05_ParseAny_j2 (J : JT (Value × St)) (v0 v11 : Value) (st : St) := goX J refinerylaw05_ParseAny_c.body [1, 1, 1, 1, 1, 1, 1, 1, 1, 1] (envT [(0, v0), (11, v11)]) st
def refinerylaw05_ParseAny_l0 (J : JT (Value × St)) (v89 v90 v91 : Value) (st : St) := lpX J refinerylaw05_ParseAny_c.body [1, 1, 1, 1, 1, 1, 1, 1, 1, 1, 0, 1, 0, 1] (envT [(89, v89), (90, v90), (91, v91)]) st
def refinerylaw05_ParseAny_j3 (J : JT (Value × St)) (v89 v90 v91 : Value) (st : St) := goX J refinerylaw05_ParseAny_c.body [1, 1, 1, 1, 1, 1, 1, 1, 1, 1, 0, 1, 0, 1, 0, 0, 1, 1, 1] (envT [(89, v89), (90, v90), (91, v91)]) st
def refinerylaw05_ParseAny_j4 (J : JT (Value × St)) (st : St) := goX J refinerylaw05_ParseAny_c.body [1, 1, 1, 1, 1, 1, 1, 1, 1, 1, 1, 1] (envT []) st
def refinerylaw05_ParseAny_j5 (J : JT (Value × St)) (v89 v90 v91 : Value) (st : St) := goX J refinerylaw05_ParseAny_c.body [1, 1, 1, 1, 1, 1, 1, 1, 1, 1, 0, 1, 0, 1, 0, 0, 1, 1, 1, 0, 0, 1, 1, 0, 1, 0, 1, 1, 1] (envT [(89, v89), (90, v90), (91, v91)]) st
def refinerylaw05_ParseAny_j6 (J : JT (Value × St)) (v15 v16 v17 v18 v89 v90 v91 : Value) (st : St) := goX J refinerylaw05_ParseAny_c.body [1, 1, 1, 1, 1, 1, 1, 1, 1, 1, 0, 1, 0, 1, 0, 0, 1, 1, 1, 0, 0, 1, 1, 1, 1] (envT [(15, v15), (16, v16), (17, v17), (18, v18), (89, v89), (90, v90), (91, v91)]) st
def refinerylaw05_ParseAny_j7 (J : JT (Value × St)) (v89 v90 v91 : Value) (st : St) := goX J refinerylaw05_ParseAny_c.body [1, 1, 1, 1, 1, 1, 1, 1, 1, 1, 0, 1, 0, 1, 0, 0, 1, 1, 1, 1, 1] (envT [(89, v89), (90, v90), (91, v91)]) st
def refinerylaw05_ParseAny_j8 (J : JT (Value × St)) (v15 v17 v18 v89 v90 v91 : Value) (st : St) := goX J refinerylaw05_ParseAny_c.body [1, 1, 1, 1, 1, 1, 1, 1, 1, 1, 0, 1, 0, 1, 0, 0, 1, 1, 1, 0, 0, 1, 1, 1, 1, 1, 1] (envT [(15, v15), (17, v17), (18, v18), (89, v89), (90, v90), (91, v91)]) st
theorem refinerylaw05_ParseAny_eq (K : Ctx) (J : JT (Value × St)) (a0 a1 a2 a3 a4 : Value) (st : St) : atX K J refinerylaw05_ParseAny_c (AM.start [a0, a1, a2, a3, a4]) st =
 (.thn st (sLbox a1 st) fun p1 =>
 .thn p1.2 (K.go (.call n_refinerylaw05_Awake []) p1.2) fun p2 =>
 .thn p2.2 (sUn .not p2.1 p2.2) fun p3 =>
 condX p3.1
 (.ok ((.bool false), p3.2))
 (refinerylaw05_ParseAny_j0 J a0 a2 a3 a4 p1.1 p3.2)) := by kernel_rfl
theorem refinerylaw05_ParseAny_of : Of5 n_refinerylaw05_ParseAny refinerylaw05_ParseAny_c := fun hF => call_of hF refinerylaw05_ParseAny_is rfl
theorem refinerylaw05_ParseAny_j0_eq (hJ : IsJ K (retK refinerylaw05_ParseAny_c.results) J) (v0 v2 v3 v4 v6 : Value) (st : St) : refinerylaw05_ParseAny_j0 J v0 v2 v3 v4 v6 st =
 (.thn st (sField (some 3) 0 v6 st) fun p1 =>
 .thn p1.2 (K.go (.call n_refinerylaw03_Small_Light [p1.1]) p1.2) fun p2 =>
 .thn p2.2 (sUn .not p2.1 p2.2) fun p3 =>
 .thn p3.2 (sG p3.1 false (.ok (v0, p3.2)) p3.2) fun p4 =>
 .thn p4.2 (sG p3.1 false (sLen .str p4.1 p4.2) p4.2) fun p5 =>
 .thn p5.2 (sG p3.1 false (sBin .gtr p5.1 (.int .i64 200) p5.2) p5.2) fun p6 =>
 .thn p6.2 (sPick p3.1 (.bool true) p6.1 p6.2) fun p7 =>
 condX p7.1
 (.ok ((.bool true), p7.2))
 (refinerylaw05_ParseAny_j1 J v0 v2 v3 v4 v6 p7.2)) := gq hJ (by kernel_rfl)
theorem refinerylaw05_ParseAny_j1_eq (hJ : IsJ K (retK refinerylaw05_ParseAny_c.results) J) (v0 v2 v3 v4 v6 : Value) (st : St) : refinerylaw05_ParseAny_j1 J v0 v2 v3 v4 v6 st =
 (.thn st (sField (some 3) 0 v6 st) fun p1 =>
 .thn p1.2 (K.go (.call n_refinerylaw03_Small_Program [p1.1]) p1.2) fun p2 =>
 .thn p2.2 (K.go (.call n_refinerylaw05_Tokens [p2.1]) p2.2) fun p3 =>
 .thn p3.2 (sConv (.int .i64) v2 p3.2) fun p4 =>
 .thn p4.2 (sLen .slice p3.1 p4.2) fun p5 =>
 .thn p5.2 (sBin .rem p4.1 p5.1 p5.2) fun p6 =>
 .thn p6.2 (sLit 1 17 [(.string (bstr [])), (.string (bstr [])), (.string (bstr [])), (.string (bstr [])), (.string (bstr [])), (.string (bstr [])), (.string (bstr [])), (.string (bstr [])), (.string (bstr [])), (.string (bstr [])), (.string (bstr [])), (.string (bstr [])), (.string (bstr [])), (.string (bstr [])), (.string (bstr [])), (.string (bstr [])), (.string (bstr []))] [(0, 1, (.string (bstr [64, 51]))), (1, 1, (.string (bstr [58]))), (2, 1, (.string (bstr [10]))), (3, 1, (.string (bstr [37, 50]))), (4, 1, (.string (bstr [61]))), (5, 1, (.string (bstr [55]))), (6, 1, (.string (bstr [97, 100, 100]))), (7, 1, (.string (bstr [44]))), (8, 1, (.string (bstr [106, 117, 109, 112]))), (9, 1, (.string (bstr [98, 114]))), (10, 1, (.string (bstr [36, 49]))), (11, 1, (.string (bstr [105, 110]))), (12, 1, (.string (bstr [111, 117, 116]))), (13, 1, (.string (bstr [114, 101, 116]))), (14, 1, (.string (bstr [37, 49, 48, 48, 48, 48, 48]))), (15, 1, (.string (bstr [64, 49, 48, 48, 48, 48, 48]))), (16, 1, (.string (bstr [36, 49, 54])))] p6.2) fun p7 =>
 .thn p7.2 (sBin .rem v3 (.int .u8 17) p7.2) fun p8 =>
 .thn p8.2 (sIxA 1 none p7.1 p8.1 p8.2) fun p9 =>
 .thn p9.2 (sLoad none p9.1 p9.2) fun p10 =>
 .thn p10.2 (sBin .rem v4 (.int .u8 3) p10.2) fun p11 =>
 .thn p11.2 (sBin .eql p11.1 (.int .u8 0) p11.2) fun p12 =>
 condX p12.1
 (.thn p12.2 (sLit 1 0 [] [] p12.2) fun p13 =>
 .thn p13.2 (sSlice (.slice 1) p3.1 none (some p6.1) none p13.2) fun p14 =>
 .thn p14.2 (sAppend 1 16 p13.1 p14.1 p14.2) fun p15 =>
 .thn p15.2 (sBin .add p6.1 (.int .i64 1) p15.2) fun p16 =>
 .thn p16.2 (sSlice (.slice 1) p3.1 (some p16.1) none none p16.2) fun p17 =>
 Res.need (sStays (List.take 1 (p14.2 :: [])) p15.2.next p3.1 (fun s => sSlice (.slice 1) p3.1 (some p16.1) none none s) p17.1) "order" >>= fun _ =>
 .thn p17.2 (sAppend 1 16 p15.1 p17.1 p17.2) fun p18 =>
 refinerylaw05_ParseAny_j2 J v0 p18.1 p18.2)
 (.thn p12.2 (sBin .eql p11.1 (.int .u8 1) p12.2) fun p19 =>
 condX p19.1
 (.thn p19.2 (sLit 1 0 [] [] p19.2) fun p20 =>
 .thn p20.2 (sSlice (.slice 1) p3.1 none (some p6.1) none p20.2) fun p21 =>
 .thn p21.2 (sAppend 1 16 p20.1 p21.1 p21.2) fun p22 =>
 .thn p22.2 (sLit 1 1 [(.string (bstr []))] [(0, 1, p10.1)] p22.2) fun p23 =>
 .thn p23.2 (sAppend 1 16 p22.1 p23.1 p23.2) fun p24 =>
 .thn p24.2 (sSlice (.slice 1) p3.1 (some p6.1) none none p24.2) fun p25 =>
 Res.need (sStays (List.take 2 (p23.2 :: (p21.2 :: []))) p24.2.next p3.1 (fun s => sSlice (.slice 1) p3.1 (some p6.1) none none s) p25.1) "order" >>= fun _ =>
 .thn p25.2 (sAppend 1 16 p24.1 p25.1 p25.2) fun p26 =>
 refinerylaw05_ParseAny_j2 J v0 p26.1 p26.2)
 (.thn p19.2 (sLit 1 0 [] [] p19.2) fun p27 =>
 .thn p27.2 (sAppend 1 16 p27.1 p3.1 p27.2) fun p28 =>
 .thn p28.2 (sIxA 1 none p28.1 p6.1 p28.2) fun p29 =>
 .thn p29.2 (sStore 1 p29.1 p10.1 p29.2) fun p30 =>
 refinerylaw05_ParseAny_j2 J v0 p28.1 p30.2))) := gq hJ (by kernel_rfl)
theorem refinerylaw05_ParseAny_j2_eq (hJ : IsJ K (retK refinerylaw05_ParseAny_c.results) J) (v0 v11 : Value) (st : St) : refinerylaw05_ParseAny_j2 J v0 v11 st =
 (.thn st (K.go (.call n_refinerylaw05_Text [v11, (.slice none 0 0)]) st) fun p1 =>
 .thn p1.2 (sBin .add (.string (bstr [64, 48, 58, 10])) v0 p1.2) fun p2 =>
 .thn p2.2 (sBin .add p2.1 (.string (bstr [10, 116, 114, 97, 112])) p2.2) fun p3 =>
 .thn p3.2 (sLit 1 3 [(.string (bstr [])), (.string (bstr [])), (.string (bstr []))] [(0, 1, v0), (1, 1, p1.1), (2, 1, p3.1)] p3.2) fun p4 =>
 .thn p4.2 (sLen .slice p4.1 p4.2) fun p5 =>
 refinerylaw05_ParseAny_l0 J p4.1 p5.1 (.int .i64 0) p5.2) := gq hJ (by kernel_rfl)
theorem refinerylaw05_ParseAny_l0_eq (K : Ctx) (J : JT (Value × St)) (v89 v90 v91 : Value) (st : St) : inX K J (retK refinerylaw05_ParseAny_c.results) refinerylaw05_ParseAny_c.body [1, 1, 1, 1, 1, 1, 1, 1, 1, 1, 0, 1, 0, 1] (envT [(89, v89), (90, v90), (91, v91)]) st =
 (.thn st (sBin .lss v91 v90 st) fun p1 =>
 condX p1.1
 (refinerylaw05_ParseAny_j3 J v89 v90 v91 p1.2)
 (refinerylaw05_ParseAny_j4 J p1.2)) := by kernel_rfl
theorem refinerylaw05_ParseAny_l0_of (hF : Fix pgF K) (hJ : IsJ K (retK refinerylaw05_ParseAny_c.results) J) {v89 v90 v91 : Value} (h : Ok (inX K J (retK refinerylaw05_ParseAny_c.results) refinerylaw05_ParseAny_c.body [1, 1, 1, 1, 1, 1, 1, 1, 1, 1, 0, 1, 0, 1] (envT [(89, v89), (90, v90), (91, v91)]) st) Q) : Ok (refinerylaw05_ParseAny_l0 J v89 v90 v91 st) Q := loop_of hF hJ h
theorem refinerylaw05_ParseAny_j3_eq (hJ : IsJ K (retK refinerylaw05_ParseAny_c.results) J) (v89 v90 v91 : Value) (st : St) : refinerylaw05_ParseAny_j3 J v89 v90 v91 st =
 (.thn st (sIxA 1 none v89 v91 st) fun p1 =>
 .thn p1.2 (sLoad none p1.1 p1.2) fun p2 =>
 .thn p2.2 (K.go (.call n_parse_Parse [p2.1]) p2.2) fun p3 =>
 .thn p3.2 (sExtract p3.1 0 p3.2) fun p4 =>
 .thn p4.2 (sExtract p3.1 1 p4.2) fun p5 =>
 .thn p5.2 (sExtract p3.1 2 p5.2) fun p6 =>
 .thn p6.2 (sLnew [(.slice none 0 0)] p6.2) fun p7 =>
 .thn p7.2 (sUpd 1 0 p7.1 p4.1 p7.2) fun p8 =>
 .thn p8.2 (sBin .eql p6.1 (.int .i64 0) p8.2) fun p9 =>
 condX p9.1
 (.thn p9.2 (sField (some 1) 0 p8.1 p9.2) fun p10 =>
 .thn p10.2 (K.go (.call n_refinerylaw05_Tokens [p10.1]) p10.2) fun p11 =>
 .thn p11.2 (K.go (.call n_refinerylaw05_Text [p11.1, (.slice none 0 0)]) p11.2) fun p12 =>
 .thn p12.2 (K.go (.call n_parse_Parse [p12.1]) p12.2) fun p13 =>
 .thn p13.2 (sExtract p13.1 0 p13.2) fun p14 =>
 .thn p14.2 (sExtract p13.1 1 p14.2) fun p15 =>
 .thn p15.2 (sExtract p13.1 2 p15.2) fun p16 =>
 .thn p16.2 (sLnew [(.slice none 0 0)] p16.2) fun p17 =>
 .thn p17.2 (sUpd 1 0 p17.1 p14.1 p17.2) fun p18 =>
 .thn p18.2 (sField (some 1) 0 p8.1 p18.2) fun p19 =>
 .thn p19.2 (K.go (.call n_ir_Program_Check [p19.1]) p19.2) fun p20 =>
 .thn p20.2 (sBin .neq p20.1 (.int .i64 0) p20.2) fun p21 =>
 .thn p21.2 (sG p21.1 false (sField (some 1) 0 p8.1 p21.2) p21.2) fun p22 =>
 .thn p22.2 (sG p21.1 false (K.go (.call n_ir_Program_Plain [p22.1]) p22.2) p22.2) fun p23 =>
 .thn p23.2 (sG p21.1 false (sUn .not p23.1 p23.2) p23.2) fun p24 =>
 .thn p24.2 (sPick p21.1 (.bool true) p24.1 p24.2) fun p25 =>
 .thn p25.2 (sG p25.1 false (.ok (p5.1, p25.2)) p25.2) fun p26 =>
 .thn p26.2 (sG p25.1 false (sBin .neq p26.1 (.int .i64 0) p26.2) p26.2) fun p27 =>
 .thn p27.2 (sPick p25.1 (.bool true) p27.1 p27.2) fun p28 =>
 .thn p28.2 (sG p28.1 false (.ok (p16.1, p28.2)) p28.2) fun p29 =>
 .thn p29.2 (sG p28.1 false (sBin .neq p29.1 (.int .i64 0) p29.2) p29.2) fun p30 =>
 .thn p30.2 (sPick p28.1 (.bool true) p30.1 p30.2) fun p31 =>
 .thn p31.2 (sG p31.1 false (sField (some 1) 0 p8.1 p31.2) p31.2) fun p32 =>
 .thn p32.2 (sG p31.1 false (sField (some 1) 0 p18.1 p32.2) p32.2) fun p33 =>
 .thn p33.2 (sG p31.1 false (K.go (.call n_ir_Same [p32.1, p33.1]) p33.2) p33.2) fun p34 =>
 .thn p34.2 (sG p31.1 false (sUn .not p34.1 p34.2) p34.2) fun p35 =>
 .thn p35.2 (sPick p31.1 (.bool true) p35.1 p35.2) fun p36 =>
 condX p36.1
 (.ok ((.bool false), p36.2))
 (refinerylaw05_ParseAny_j5 J v89 v90 v91 p36.2))
 (refinerylaw05_ParseAny_j6 J p2.1 p8.1 p5.1 p6.1 v89 v90 v91 p9.2)) := gq hJ (by kernel_rfl)
theorem refinerylaw05_ParseAny_j4_eq (hJ : IsJ K (retK refinerylaw05_ParseAny_c.results) J) (st : St) : refinerylaw05_ParseAny_j4 J st =
 (.ok ((.bool true), st)) := gq hJ (by kernel_rfl)
theorem refinerylaw05_ParseAny_j5_eq (hJ : IsJ K (retK refinerylaw05_ParseAny_c.results) J) (v89 v90 v91 : Value) (st : St) : refinerylaw05_ParseAny_j5 J v89 v90 v91 st =
 (refinerylaw05_ParseAny_j7 J v89 v90 v91 st) := gq hJ (by kernel_rfl)
theorem refinerylaw05_ParseAny_j6_eq (hJ : IsJ K (retK refinerylaw05_ParseAny_c.results) J) (v15 v16 v17 v18 v89 v90 v91 : Value) (st : St) : refinerylaw05_ParseAny_j6 J v15 v16 v17 v18 v89 v90 v91 st =
 (.thn st (sLref v16 st) fun p1 =>
 .thn p1.2 (sField none 0 v16 p1.2) fun p2 =>
 .thn p2.2 (sLen .slice p2.1 p2.2) fun p3 =>
 .thn p3.2 (sBin .gtr p3.1 (.int .i64 0) p3.2) fun p4 =>
 .thn p4.2 (sG p4.1 false (.ok (v17, p4.2)) p4.2) fun p5 =>
 .thn p5.2 (sG p4.1 false (sBin .lss p5.1 (.int .i64 0) p5.2) p5.2) fun p6 =>
 .thn p6.2 (sPick p4.1 (.bool true) p6.1 p6.2) fun p7 =>
 .thn p7.2 (sG p7.1 false (.ok (v17, p7.2)) p7.2) fun p8 =>
 .thn p8.2 (sG p7.1 false (.ok (v15, p8.2)) p8.2) fun p9 =>
 .thn p9.2 (sG p7.1 false (sLen .str p9.1 p9.2) p9.2) fun p10 =>
 .thn p10.2 (sG p7.1 false (sBin .gtr p8.1 p10.1 p10.2) p10.2) fun p11 =>
 .thn p11.2 (sPick p7.1 (.bool true) p11.1 p11.2) fun p12 =>
 condX p12.1
 (.ok ((.bool false), p12.2))
 (refinerylaw05_ParseAny_j8 J v15 v17 v18 v89 v90 v91 p12.2)) := gq hJ (by kernel_rfl)
theorem refinerylaw05_ParseAny_j7_eq (hJ : IsJ K (retK refinerylaw05_ParseAny_c.results) J) (v89 v90 v91 : Value) (st : St) : refinerylaw05_ParseAny_j7 J v89 v90 v91 st =
 (.thn st (sBin .add v91 (.int .i64 1) st) fun p1 =>
 refinerylaw05_ParseAny_l0 J v89 v90 p1.1 p1.2) := gq hJ (by kernel_rfl)
theorem refinerylaw05_ParseAny_j8_eq (hJ : IsJ K (retK refinerylaw05_ParseAny_c.results) J) (v15 v17 v18 v89 v90 v91 : Value) (st : St) : refinerylaw05_ParseAny_j8 J v15 v17 v18 v89 v90 v91 st =
 (.thn st (K.go (.call n_lex_Split [v15]) st) fun p1 =>
 .thn p1.2 (sExtract p1.1 0 p1.2) fun p2 =>
 .thn p2.2 (sExtract p1.1 1 p2.2) fun p3 =>
 .thn p3.2 (sExtract p1.1 2 p3.2) fun p4 =>
 .thn p4.2 (sBin .neq p4.1 (.int .i64 0) p4.2) fun p5 =>
 .thn p5.2 (sG p5.1 true (.ok (v18, p5.2)) p5.2) fun p6 =>
 .thn p6.2 (sG p5.1 true (.ok (p4.1, p6.2)) p6.2) fun p7 =>
 .thn p7.2 (sG p5.1 true (sBin .neq p6.1 p7.1 p7.2) p7.2) fun p8 =>
 .thn p8.2 (sG p5.1 true (.ok (p8.1, p8.2)) p8.2) fun p9 =>
 .thn p9.2 (sG p9.1 false (.ok (v17, p9.2)) p9.2) fun p10 =>
 .thn p10.2 (sG p9.1 false (.ok (p3.1, p10.2)) p10.2) fun p11 =>
 .thn p11.2 (sG p9.1 false (sBin .neq p10.1 p11.1 p11.2) p11.2) fun p12 =>
 .thn p12.2 (sG p5.1 true (sPick p9.1 (.bool true) p12.1 p12.2) p12.2) fun p13 =>
 .thn p13.2 (sPick p5.1 p13.1 (.bool false) p13.2) fun p14 =>
 condX p14.1
 (.ok ((.bool false), p14.2))
 (refinerylaw05_ParseAny_j7 J v89 v90 v91 p14.2)) := gq hJ (by kernel_rfl)
end
end Go.Proofs.YtdjfndijbnpkpaaDoor.Sh
