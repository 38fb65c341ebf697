/-
 The functions of the program, operation by operation, as the abstract machine has them.
-/
import Derived.Test.YtdjfndijbnpkpaaDoorProg
import Derived.Test.YtdjfndijbnpkpaaDoorShN
set_option linter.unusedVariables false
set_option maxRecDepth 100000
namespace Go.Proofs.YtdjfndijbnpkpaaDoor.Sh
open Go Go.AM Go.Proofs
noncomputable section
variable {K : Ctx} {J : JT (Value × St)} {st : St} {Q : Value × St → Prop}
open C in
def refinerylaw05_ParseJoins_c : AFun := ⟨2, [.tmp 4],
 (s (.ops [o 2 (.lbox (t 0)), o 3 (.lbox (t 1)), o 4 (.mv (c (.bool false)))])
 (s (s (.ops [o 17 (.call (f 10) []), o 18 (.un .not (t 17))])
 (.cond (t 18) (s (.ops [o 4 (.mv (c (.bool false)))])
 .ret) .skip))
 (s (.keep [2, 3])
 (s (s (.ops [o 19 (.field (some 3) 0 (t 2)), o 20 (.call (f 11) [(t 19)]), o 21 (.un .not (t 20)), o 22 (.mv (t 21)), g 23 false 22 (.field (some 3) 0 (t 3)), g 24 false 22 (.call (f 11) [(t 23)]), g 25 false 22 (.un .not (t 24)), o 26 (.pick (t 22) (c (.bool true)) (t 25))])
 (.cond (t 26) (s (.ops [o 4 (.mv (c (.bool true)))])
 .ret) .skip))
 (s (.keep [2, 3])
 (s (.draw [d 0 0 false (o 27 (.field (some 3) 0 (t 2))), d 1 0 true (o 28 (.call (f 13) [(t 27)])), d 2 1 false (o 29 (.field (some 3) 0 (t 3))), d 3 0 true (o 30 (.call (f 13) [(t 29)])), d 4 0 false (o 5 (.lnew [(.slice none 0 0)])), d 5 0 false (o 6 (.lnew [(.slice none 0 0)])), d 6 0 true (o 5 (.upd 1 0 (t 5) (t 28))), d 7 0 true (o 6 (.upd 1 0 (t 6) (t 30)))])
 (s (.draw [d 0 0 false (o 31 (.field (some 1) 0 (t 5))), d 1 0 true (o 32 (.call (f 12) [(t 31)])), d 2 0 true (o 33 (.call (f 14) [(t 32), (c (.slice none 0 0))])), d 3 2 false (o 34 (.field (some 1) 0 (t 6))), d 4 0 true (o 35 (.call (f 12) [(t 34)])), d 5 0 true (o 36 (.call (f 14) [(t 35), (c (.slice none 0 0))])), d 6 0 false (o 7 (.mv (t 33))), d 7 0 false (o 8 (.mv (t 36)))])
 (s (.ops [o 38 (.mv (t 7)), o 39 (.mv (t 8)), o 40 (.bin .add (t 38) (t 39)), o 41 (.call (f 15) [(t 40)]), o 37 (.mv (t 41)), o 42 (.extract (t 37) 0), o 43 (.extract (t 37) 1), o 44 (.extract (t 37) 2), o 9 (.lnew [(.slice none 0 0)]), o 9 (.upd 1 0 (t 9) (t 42)), o 10 (.mv (t 43)), o 11 (.mv (t 44))])
 (s (s (.ops [o 45 (.lref (t 6)), o 46 (.field none 0 (t 6)), o 47 (.len .slice (t 46)), o 48 (.mv (c (i 0)))])
 (.block 0 (s (.keep [5, 6, 7, 8, 10, 11, 47, 48])
 (.loop (s (s (.ops [o 49 (.bin .lss (t 48) (t 47))])
 (s (.cond (t 49) .skip (.exit 0))
 (s (.keep [5, 6, 7, 8, 10, 11, 47, 48])
 (s (.block 1 (s (.ops [o 50 (.mv (t 48)), o 12 (.mv (t 50))])
 (s (.ops [o 51 (.lref (t 6)), o 52 (.field none 0 (t 6)), o 53 (.mv (t 12)), o 54 (.ixA 7 none (t 52) (t 53)), o 55 (.off 0 (t 54)), o 56 (.load none (t 55)), o 57 (.bin .add (t 56) (c (i 1000))), o 58 (.ixA 7 none (t 52) (t 53)), o 59 (.off 0 (t 58)), n (.store 1 (t 59) (t 57))])
 (s (.ops [o 60 (.lref (t 6)), o 61 (.field none 0 (t 6)), o 62 (.mv (t 12)), o 63 (.ixA 7 none (t 61) (t 62)), o 64 (.off 3 (t 63)), o 13 (.mv (t 64))])
 (s (.ops [o 65 (.mv (t 13)), o 66 (.nilc (t 65)), o 67 (.off 0 (t 66)), o 68 (.load none (t 67)), o 69 (.bin .eql (t 68) (c (u 0))), o 70 (.mv (t 69)), g 71 false 70 (.mv (t 13)), g 72 false 70 (.nilc (t 71)), g 73 false 70 (.off 0 (t 72)), g 74 false 70 (.load none (t 73)), g 75 false 70 (.bin .eql (t 74) (c (u 1))), o 76 (.pick (t 70) (c (.bool true)) (t 75))])
 (.cond (t 76) (s (.ops [o 77 (.mv (t 13)), o 78 (.nilc (t 77)), o 79 (.off 2 (t 78)), o 80 (.load none (t 79)), o 81 (.bin .add (t 80) (c (i 1000))), o 82 (.nilc (t 77)), o 83 (.off 2 (t 82)), n (.store 1 (t 83) (t 81))])
 (s (.ops [o 84 (.mv (t 13)), o 85 (.nilc (t 84)), o 86 (.off 0 (t 85)), o 87 (.load none (t 86)), o 88 (.bin .eql (t 87) (c (u 1)))])
 (.cond (t 88) (.ops [o 89 (.mv (t 13)), o 90 (.nilc (t 89)), o 91 (.off 3 (t 90)), o 92 (.load none (t 91)), o 93 (.bin .add (t 92) (c (i 1000))), o 94 (.nilc (t 89)), o 95 (.off 3 (t 94)), n (.store 1 (t 95) (t 93))]) .skip))) .skip))))))
 (s (.keep [5, 6, 7, 8, 10, 11, 47, 48])
 (.ops [o 96 (.bin .add (t 48) (c (i 1))), o 48 (.mv (t 96))]))))))
 (.keep [5, 6, 7, 8, 10, 11, 47, 48]))))))
 (s (.keep [5, 6, 7, 8, 10, 11])
 (s (.ops [o 98 (.mv (t 7)), o 99 (.field (some 1) 0 (t 6)), o 100 (.call (f 12) [(t 99)]), o 101 (.call (f 14) [(t 100), (c (.slice none 0 0))]), o 102 (.bin .add (t 98) (t 101)), o 103 (.call (f 15) [(t 102)]), o 97 (.mv (t 103)), o 104 (.extract (t 97) 0), o 105 (.extract (t 97) 1), o 106 (.extract (t 97) 2), o 14 (.lnew [(.slice none 0 0)]), o 14 (.upd 1 0 (t 14) (t 104)), o 15 (.mv (t 105)), o 16 (.mv (t 106))])
 (s (.draw [d 0 0 false (o 107 (.mv (t 11))), d 1 0 false (o 108 (.bin .eql (t 107) (c (i 8)))), d 2 0 false (o 109 (.mv (t 108))), d 3 0 false (g 110 true 109 (.mv (t 10))), d 4 0 false (g 111 true 109 (.mv (t 7))), d 5 0 false (g 112 true 109 (.len .str (t 111))), d 6 0 false (g 113 true 109 (.mv (t 8))), d 7 0 false (g 114 true 109 (.len .str (t 113))), d 8 0 false (g 115 true 109 (.bin .add (t 112) (t 114))), d 9 0 false (g 116 true 109 (.bin .eql (t 110) (t 115))), d 10 0 false (o 117 (.pick (t 109) (t 116) (c (.bool false)))), d 11 0 false (o 118 (.mv (t 117))), d 12 0 false (g 119 true 118 (.mv (t 16))), d 13 0 false (g 120 true 118 (.bin .eql (t 119) (c (i 0)))), d 14 0 false (o 121 (.pick (t 118) (t 120) (c (.bool false)))), d 15 0 false (o 122 (.mv (t 121))), d 17 0 false (g 124 true 122 (.lref (t 5))), d 18 0 false (g 125 true 122 (.field none 0 (t 5))), d 19 0 false (g 126 true 122 (.lref (t 6))), d 20 0 false (g 127 true 122 (.field none 0 (t 6))), d 21 0 true (g 128 true 122 (.append 7 88 (t 125) (t 127))), d 16 1 false (g 123 true 122 (.field (some 1) 0 (t 14))), d 22 0 false (g 129 true 122 (.build [(.slice none 0 0)] [(0, 1, (t 128))])), d 23 0 true (g 130 true 122 (.call (f 16) [(t 123), (t 129)])), d 24 0 false (o 131 (.pick (t 122) (t 130) (c (.bool false)))), d 25 0 false (o 4 (.mv (t 131)))])
 .ret))))))))))))⟩
theorem refinerylaw05_ParseJoins_is : pgF n_refinerylaw05_ParseJoins = some refinerylaw05_ParseJoins_c := by kernel_rfl
def refinerylaw05_ParseJoins_j0 (J : JT (Value × St)) (v2 v3 : Value) (st : St) := goX J refinerylaw05_ParseJoins_c.body [1, 1, 1] (envT [(2, v2), (3, v3)]) st
def refinerylaw05_ParseJoins_j1 (J : JT (Value × St)) (v2 v3 : Value) (st : St) := goX J refinerylaw05_ParseJoins_c.body [1, 1, 1, 1, 1] (envT [(2, v2), (3, v3)]) st
def refinerylaw05_ParseJoins_l0 (J : JT (Value × St)) (v5 v6 v7 v8 v10 v11 v47 v48 : Value) (st : St) := lpX J refinerylaw05_ParseJoins_c.body [1, 1, 1, 1, 1, 1, 1, 1, 0, 1, 0, 1] (envT [(5, v5), (6, v6), (7, v7), (8, v8), (10, v10), (11, v11), (47, v47), (48, v48)]) st
def refinerylaw05_ParseJoins_j2 (J : JT (Value × St)) (v5 v6 v7 v8 v10 v11 v47 v48 : Value) (st : St) := goX J refinerylaw05_ParseJoins_c.body [1, 1, 1, 1, 1, 1, 1, 1, 0, 1, 0, 1, 0, 0, 1, 1, 1] (envT [(5, v5), (6, v6), (7, v7), (8, v8), (10, v10), (11, v11), (47, v47), (48, v48)]) st
def refinerylaw05_ParseJoins_j3 (J : JT (Value × St)) (v5 v6 v7 v8 v10 v11 : Value) (st : St) := goX J refinerylaw05_ParseJoins_c.body [1, 1, 1, 1, 1, 1, 1, 1, 1, 1] (envT [(5, v5), (6, v6), (7, v7), (8, v8), (10, v10), (11, v11)]) st
def refinerylaw05_ParseJoins_j4 (J : JT (Value × St)) (v5 v6 v7 v8 v10 v11 v47 v48 : Value) (st : St) := goX J refinerylaw05_ParseJoins_c.body [1, 1, 1, 1, 1, 1, 1, 1, 0, 1, 0, 1, 0, 0, 1, 1, 1, 1, 1] (envT [(5, v5), (6, v6), (7, v7), (8, v8), (10, v10), (11, v11), (47, v47), (48, v48)]) st
theorem refinerylaw05_ParseJoins_eq (K : Ctx) (J : JT (Value × St)) (a0 a1 : Value) (st : St) : atX K J refinerylaw05_ParseJoins_c (AM.start [a0, a1]) st =
 (.thn st (sLbox a0 st) fun p1 =>
 .thn p1.2 (sLbox a1 p1.2) fun p2 =>
 .thn p2.2 (K.go (.call n_refinerylaw05_Awake []) p2.2) fun p3 =>
 .thn p3.2 (sUn .not p3.1 p3.2) fun p4 =>
 condX p4.1
 (.ok ((.bool false), p4.2))
 (refinerylaw05_ParseJoins_j0 J p1.1 p2.1 p4.2)) := by kernel_rfl
theorem refinerylaw05_ParseJoins_of : Of2 n_refinerylaw05_ParseJoins refinerylaw05_ParseJoins_c := fun hF => call_of hF refinerylaw05_ParseJoins_is rfl
theorem refinerylaw05_ParseJoins_j0_eq (hJ : IsJ K (retK refinerylaw05_ParseJoins_c.results) J) (v2 v3 : Value) (st : St) : refinerylaw05_ParseJoins_j0 J v2 v3 st =
 (.thn st (sField (some 3) 0 v2 st) fun p1 =>
 .thn p1.2 (K.go (.call n_refinerylaw03_Small_Light [p1.1]) p1.2) fun p2 =>
 .thn p2.2 (sUn .not p2.1 p2.2) fun p3 =>
 .thn p3.2 (sG p3.1 false (sField (some 3) 0 v3 p3.2) p3.2) fun p4 =>
 .thn p4.2 (sG p3.1 false (K.go (.call n_refinerylaw03_Small_Light [p4.1]) p4.2) p4.2) fun p5 =>
 .thn p5.2 (sG p3.1 false (sUn .not p5.1 p5.2) p5.2) fun p6 =>
 .thn p6.2 (sPick p3.1 (.bool true) p6.1 p6.2) fun p7 =>
 condX p7.1
 (.ok ((.bool true), p7.2))
 (refinerylaw05_ParseJoins_j1 J v2 v3 p7.2)) := gq hJ (by kernel_rfl)
theorem refinerylaw05_ParseJoins_j1_eq (hJ : IsJ K (retK refinerylaw05_ParseJoins_c.results) J) (v2 v3 : Value) (st : St) : refinerylaw05_ParseJoins_j1 J v2 v3 st =
 (.thn st (sField (some 3) 0 v2 st) fun p1 =>
 .thn p1.2 (K.go (.call n_refinerylaw03_Small_Program [p1.1]) p1.2) fun p2 =>
 .thn p2.2 (sField (some 3) 0 v3 p2.2) fun p3 =>
 Res.need (sStays (List.take 1 (p1.2 :: [])) p2.2.next nothing (fun s => sField (some 3) 0 v3 s) p3.1) "order" >>= fun _ =>
 .thn p3.2 (K.go (.call n_refinerylaw03_Small_Program [p3.1]) p3.2) fun p4 =>
 .thn p4.2 (sLnew [(.slice none 0 0)] p4.2) fun p5 =>
 .thn p5.2 (sLnew [(.slice none 0 0)] p5.2) fun p6 =>
 .thn p6.2 (sUpd 1 0 p5.1 p2.1 p6.2) fun p7 =>
 .thn p7.2 (sUpd 1 0 p6.1 p4.1 p7.2) fun p8 =>
 .thn p8.2 (sField (some 1) 0 p7.1 p8.2) fun p9 =>
 .thn p9.2 (K.go (.call n_refinerylaw05_Tokens [p9.1]) p9.2) fun p10 =>
 .thn p10.2 (K.go (.call n_refinerylaw05_Text [p10.1, (.slice none 0 0)]) p10.2) fun p11 =>
 .thn p11.2 (sField (some 1) 0 p8.1 p11.2) fun p12 =>
 Res.need (sStays (List.take 2 (p10.2 :: (p9.2 :: []))) p11.2.next nothing (fun s => sField (some 1) 0 p8.1 s) p12.1) "order" >>= fun _ =>
 .thn p12.2 (K.go (.call n_refinerylaw05_Tokens [p12.1]) p12.2) fun p13 =>
 .thn p13.2 (K.go (.call n_refinerylaw05_Text [p13.1, (.slice none 0 0)]) p13.2) fun p14 =>
 .thn p14.2 (sBin .add p11.1 p14.1 p14.2) fun p15 =>
 .thn p15.2 (K.go (.call n_parse_Parse [p15.1]) p15.2) fun p16 =>
 .thn p16.2 (sExtract p16.1 0 p16.2) fun p17 =>
 .thn p17.2 (sExtract p16.1 1 p17.2) fun p18 =>
 .thn p18.2 (sExtract p16.1 2 p18.2) fun p19 =>
 .thn p19.2 (sLnew [(.slice none 0 0)] p19.2) fun p20 =>
 .thn p20.2 (sUpd 1 0 p20.1 p17.1 p20.2) fun p21 =>
 .thn p21.2 (sLref p8.1 p21.2) fun p22 =>
 .thn p22.2 (sField none 0 p8.1 p22.2) fun p23 =>
 .thn p23.2 (sLen .slice p23.1 p23.2) fun p24 =>
 refinerylaw05_ParseJoins_l0 J p7.1 p8.1 p11.1 p14.1 p18.1 p19.1 p24.1 (.int .i64 0) p24.2) := gq hJ (by kernel_rfl)
theorem refinerylaw05_ParseJoins_l0_eq (K : Ctx) (J : JT (Value × St)) (v5 v6 v7 v8 v10 v11 v47 v48 : Value) (st : St) : inX K J (retK refinerylaw05_ParseJoins_c.results) refinerylaw05_ParseJoins_c.body [1, 1, 1, 1, 1, 1, 1, 1, 0, 1, 0, 1] (envT [(5, v5), (6, v6), (7, v7), (8, v8), (10, v10), (11, v11), (47, v47), (48, v48)]) st =
 (.thn st (sBin .lss v48 v47 st) fun p1 =>
 condX p1.1
 (refinerylaw05_ParseJoins_j2 J v5 v6 v7 v8 v10 v11 v47 v48 p1.2)
 (refinerylaw05_ParseJoins_j3 J v5 v6 v7 v8 v10 v11 p1.2)) := by kernel_rfl
theorem refinerylaw05_ParseJoins_l0_of (hF : Fix pgF K) (hJ : IsJ K (retK refinerylaw05_ParseJoins_c.results) J) {v5 v6 v7 v8 v10 v11 v47 v48 : Value} (h : Ok (inX K J (retK refinerylaw05_ParseJoins_c.results) refinerylaw05_ParseJoins_c.body [1, 1, 1, 1, 1, 1, 1, 1, 0, 1, 0, 1] (envT [(5, v5), (6, v6), (7, v7), (8, v8), (10, v10), (11, v11), (47, v47), (48, v48)]) st) Q) : Ok (refinerylaw05_ParseJoins_l0 J v5 v6 v7 v8 v10 v11 v47 v48 st) Q := loop_of hF hJ h
theorem refinerylaw05_ParseJoins_j2_eq (hJ : IsJ K (retK refinerylaw05_ParseJoins_c.results) J) (v5 v6 v7 v8 v10 v11 v47 v48 : Value) (st : St) : refinerylaw05_ParseJoins_j2 J v5 v6 v7 v8 v10 v11 v47 v48 st =
 (.thn st (sLref v6 st) fun p1 =>
 .thn p1.2 (sField none 0 v6 p1.2) fun p2 =>
 .thn p2.2 (sIxA 7 none p2.1 v48 p2.2) fun p3 =>
 .thn p3.2 (sOff 0 p3.1 p3.2) fun p4 =>
 .thn p4.2 (sLoad none p4.1 p4.2) fun p5 =>
 .thn p5.2 (sBin .add p5.1 (.int .i64 1000) p5.2) fun p6 =>
 .thn p6.2 (sIxA 7 none p2.1 v48 p6.2) fun p7 =>
 .thn p7.2 (sOff 0 p7.1 p7.2) fun p8 =>
 .thn p8.2 (sStore 1 p8.1 p6.1 p8.2) fun p9 =>
 .thn p9.2 (sLref v6 p9.2) fun p10 =>
 .thn p10.2 (sField none 0 v6 p10.2) fun p11 =>
 .thn p11.2 (sIxA 7 none p11.1 v48 p11.2) fun p12 =>
 .thn p12.2 (sOff 3 p12.1 p12.2) fun p13 =>
 .thn p13.2 (sNilc p13.1 p13.2) fun p14 =>
 .thn p14.2 (sOff 0 p14.1 p14.2) fun p15 =>
 .thn p15.2 (sLoad none p15.1 p15.2) fun p16 =>
 .thn p16.2 (sBin .eql p16.1 (.int .u8 0) p16.2) fun p17 =>
 .thn p17.2 (sG p17.1 false (.ok (p13.1, p17.2)) p17.2) fun p18 =>
 .thn p18.2 (sG p17.1 false (sNilc p18.1 p18.2) p18.2) fun p19 =>
 .thn p19.2 (sG p17.1 false (sOff 0 p19.1 p19.2) p19.2) fun p20 =>
 .thn p20.2 (sG p17.1 false (sLoad none p20.1 p20.2) p20.2) fun p21 =>
 .thn p21.2 (sG p17.1 false (sBin .eql p21.1 (.int .u8 1) p21.2) p21.2) fun p22 =>
 .thn p22.2 (sPick p17.1 (.bool true) p22.1 p22.2) fun p23 =>
 condX p23.1
 (.thn p23.2 (sNilc p13.1 p23.2) fun p24 =>
 .thn p24.2 (sOff 2 p24.1 p24.2) fun p25 =>
 .thn p25.2 (sLoad none p25.1 p25.2) fun p26 =>
 .thn p26.2 (sBin .add p26.1 (.int .i64 1000) p26.2) fun p27 =>
 .thn p27.2 (sNilc p13.1 p27.2) fun p28 =>
 .thn p28.2 (sOff 2 p28.1 p28.2) fun p29 =>
 .thn p29.2 (sStore 1 p29.1 p27.1 p29.2) fun p30 =>
 .thn p30.2 (sNilc p13.1 p30.2) fun p31 =>
 .thn p31.2 (sOff 0 p31.1 p31.2) fun p32 =>
 .thn p32.2 (sLoad none p32.1 p32.2) fun p33 =>
 .thn p33.2 (sBin .eql p33.1 (.int .u8 1) p33.2) fun p34 =>
 condX p34.1
 (.thn p34.2 (sNilc p13.1 p34.2) fun p35 =>
 .thn p35.2 (sOff 3 p35.1 p35.2) fun p36 =>
 .thn p36.2 (sLoad none p36.1 p36.2) fun p37 =>
 .thn p37.2 (sBin .add p37.1 (.int .i64 1000) p37.2) fun p38 =>
 .thn p38.2 (sNilc p13.1 p38.2) fun p39 =>
 .thn p39.2 (sOff 3 p39.1 p39.2) fun p40 =>
 .thn p40.2 (sStore 1 p40.1 p38.1 p40.2) fun p41 =>
 refinerylaw05_ParseJoins_j4 J v5 v6 v7 v8 v10 v11 v47 v48 p41.2)
 (refinerylaw05_ParseJoins_j4 J v5 v6 v7 v8 v10 v11 v47 v48 p34.2))
 (refinerylaw05_ParseJoins_j4 J v5 v6 v7 v8 v10 v11 v47 v48 p23.2)) := gq hJ (by kernel_rfl)
theorem refinerylaw05_ParseJoins_j3_eq (hJ : IsJ K (retK refinerylaw05_ParseJoins_c.results) J) (v5 v6 v7 v8 v10 v11 : Value) (st : St) : refinerylaw05_ParseJoins_j3 J v5 v6 v7 v8 v10 v11 st =
 (.thn st (sField (some 1) 0 v6 st) fun p1 =>
 .thn p1.2 (K.go (.call n_refinerylaw05_Tokens [p1.1]) p1.2) fun p2 =>
 .thn p2.2 (K.go (.call n_refinerylaw05_Text [p2.1, (.slice none 0 0)]) p2.2) fun p3 =>
 .thn p3.2 (sBin .add v7 p3.1 p3.2) fun p4 =>
 .thn p4.2 (K.go (.call n_parse_Parse [p4.1]) p4.2) fun p5 =>
 .thn p5.2 (sExtract p5.1 0 p5.2) fun p6 =>
 .thn p6.2 (sExtract p5.1 1 p6.2) fun p7 =>
 .thn p7.2 (sExtract p5.1 2 p7.2) fun p8 =>
 .thn p8.2 (sLnew [(.slice none 0 0)] p8.2) fun p9 =>
 .thn p9.2 (sUpd 1 0 p9.1 p6.1 p9.2) fun p10 =>
 .thn p10.2 (sBin .eql v11 (.int .i64 8) p10.2) fun p11 =>
 .thn p11.2 (sGo p11.1 true (Res.ok (v10, p11.2)) p11.2) fun p12 =>
 .thn p12.2 (sGo p11.1 true (Res.ok (v7, p12.2)) p12.2) fun p14 =>
 .thn p14.2 (sGo p11.1 true (sLen .str p14.1 p14.2) p14.2) fun p16 =>
 .thn p16.2 (sGo p11.1 true (Res.ok (v8, p16.2)) p16.2) fun p18 =>
 .thn p18.2 (sGo p11.1 true (sLen .str p18.1 p18.2) p18.2) fun p20 =>
 .thn p20.2 (sGo p11.1 true (sBin .add p16.1 p20.1 p20.2) p20.2) fun p22 =>
 .thn p22.2 (sGo p11.1 true (sBin .eql p12.1 p22.1 p22.2) p22.2) fun p24 =>
 .thn p24.2 (sPick p11.1 p24.1 (.bool false) p24.2) fun p26 =>
 .thn p26.2 (sGo p26.1 true (Res.ok (p8.1, p26.2)) p26.2) fun p27 =>
 .thn p27.2 (sGo p26.1 true (sBin .eql p27.1 (.int .i64 0) p27.2) p27.2) fun p29 =>
 .thn p29.2 (sPick p26.1 p29.1 (.bool false) p29.2) fun p31 =>
 .thn p31.2 (sGo p31.1 true (sLref v5 p31.2) p31.2) fun p32 =>
 .thn p32.2 (sGo p31.1 true (sField none 0 v5 p32.2) p32.2) fun p34 =>
 .thn p34.2 (sGo p31.1 true (sLref v6 p34.2) p34.2) fun p36 =>
 .thn p36.2 (sGo p31.1 true (sField none 0 v6 p36.2) p36.2) fun p38 =>
 .thn p38.2 (gd p31.1 true >>= fun b => bif b then (sAppend 7 88 p34.1 p38.1 p38.2 >>= fun p40 => Res.ok (p40.1, p40.2, p38.2 :: [], p40.2.next)) else Res.ok (skipped, p38.2, [], p10.2.next)) fun p41 =>
 .thn p41.2.1 (gd p31.1 true >>= fun b => bif b then (sField (some 1) 0 p10.1 p41.2.1 >>= fun p43 => Res.need (sStays (List.take 1 p41.2.2.1) p41.2.2.2 nothing (fun s => sField (some 1) 0 p10.1 s) p43.1) "order" >>= fun _ => .ok p43) else .ok (skipped, p41.2.1)) fun p42 =>
 .thn p42.2 (sGo p31.1 true (sBuild [(.slice none 0 0)] [(0, 1, p41.1)] p42.2) p42.2) fun p44 =>
 .thn p44.2 (gd p31.1 true >>= fun b => bif b then (K.go (.call n_ir_Same [p42.1, p44.1]) p44.2 >>= fun p46 => Res.ok (p46.1, p46.2, p44.2 :: p41.2.2.1, p46.2.next)) else Res.ok (skipped, p44.2, p41.2.2.1, p41.2.2.2)) fun p47 =>
 .thn p47.2.1 (sPick p31.1 p47.1 (.bool false) p47.2.1) fun p48 =>
 .ok (p48.1, p48.2)) := gq hJ (by kernel_rfl)
theorem refinerylaw05_ParseJoins_j4_eq (hJ : IsJ K (retK refinerylaw05_ParseJoins_c.results) J) (v5 v6 v7 v8 v10 v11 v47 v48 : Value) (st : St) : refinerylaw05_ParseJoins_j4 J v5 v6 v7 v8 v10 v11 v47 v48 st =
 (.thn st (sBin .add v48 (.int .i64 1) st) fun p1 =>
 refinerylaw05_ParseJoins_l0 J v5 v6 v7 v8 v10 v11 v47 p1.1 p1.2) := gq hJ (by kernel_rfl)
end
end Go.Proofs.YtdjfndijbnpkpaaDoor.Sh
