/-
 The functions of the program, operation by operation, as the abstract machine has them.
-/
import Derived.Test.YtdjfndijbnpkpaaDoorProg
import Derived.Test.YtdjfndijbnpkpaaDoorShN
set_option linter.unusedVariables false
set_option maxRecDepth 100000
namespace Go.Proofs.YtdjfndijbnpkpaaDoor.Sh
open Go Go.AM Go.Proofs
noncomputable section
variable {K : Ctx} {J : JT (Value × St)} {st : St} {Q : Value × St → Prop}
open C in
def refinerylaw05_ParsePlaces_c : AFun := ⟨3, [.tmp 6],
 (s (.ops [o 3 (.lbox (t 0)), o 6 (.mv (c (.bool false)))])
 (s (s (.ops [o 22 (.call (f 10) []), o 23 (.un .not (t 22))])
 (.cond (t 23) (s (.ops [o 6 (.mv (c (.bool false)))])
 .ret) .skip))
 (s (.keep [1, 2, 3])
 (s (s (.ops [o 24 (.field (some 3) 0 (t 3)), o 25 (.call (f 11) [(t 24)]), o 26 (.un .not (t 25)), o 27 (.mv (t 26)), g 28 false 27 (.mv (t 1)), g 29 false 27 (.len .slice (t 28)), g 30 false 27 (.bin .gtr (t 29) (c (i 40))), o 31 (.pick (t 27) (c (.bool true)) (t 30))])
 (.cond (t 31) (s (.ops [o 6 (.mv (c (.bool true)))])
 .ret) .skip))
 (s (.keep [1, 2, 3])
 (s (.ops [o 32 (.field (some 3) 0 (t 3)), o 33 (.call (f 13) [(t 32)]), o 34 (.call (f 12) [(t 33)]), o 7 (.mv (t 34))])
 (s (.ops [o 35 (.mv (t 2)), o 36 (.conv (.int .i64) (t 35)), o 37 (.mv (t 7)), o 38 (.len .slice (t 37)), o 39 (.bin .rem (t 36) (t 38)), o 8 (.mv (t 39))])
 (s (.ops [o 40 (.mv (t 7)), o 41 (.mv (t 8)), o 42 (.slice (.slice 1) (t 40) none (some (t 41)) none), o 43 (.mv (t 1)), o 44 (.call (f 14) [(t 42), (t 43)]), o 9 (.mv (t 44))])
 (s (.ops [o 46 (.mv (t 9)), o 47 (.bin .add (t 46) (c (.string (bstr [122, 122, 32])))), o 48 (.mv (t 7)), o 49 (.mv (t 8)), o 50 (.slice (.slice 1) (t 48) (some (t 49)) none none), o 51 (.mv (t 1)), o 52 (.call (f 14) [(t 50), (t 51)]), o 53 (.bin .add (t 47) (t 52)), o 54 (.call (f 15) [(t 53)]), o 45 (.mv (t 54)), o 55 (.extract (t 45) 0), o 56 (.extract (t 45) 1), o 57 (.extract (t 45) 2), o 10 (.lnew [(.slice none 0 0)]), o 10 (.upd 1 0 (t 10) (t 55)), o 11 (.mv (t 56)), o 12 (.mv (t 57))])
 (s (.ops [o 59 (.call (f 15) [(c (.string (bstr [64, 48, 58, 10, 37, 49, 32, 61, 32, 53, 10, 111, 117, 116, 32, 37, 49, 48, 48, 48, 48, 48, 10, 116, 114, 97, 112, 10])))]), o 58 (.mv (t 59)), o 60 (.extract (t 58) 0), o 61 (.extract (t 58) 1), o 62 (.extract (t 58) 2), o 13 (.lnew [(.slice none 0 0)]), o 13 (.upd 1 0 (t 13) (t 60)), o 14 (.mv (t 61)), o 15 (.mv (t 62))])
 (s (.ops [o 64 (.call (f 15) [(c (.string (bstr [64, 48, 58, 10, 115, 116, 111, 114, 101, 32, 36, 49, 54, 44, 32, 37, 49, 10, 116, 114, 97, 112])))]), o 63 (.mv (t 64)), o 65 (.extract (t 63) 0), o 66 (.extract (t 63) 1), o 67 (.extract (t 63) 2), o 16 (.lnew [(.slice none 0 0)]), o 16 (.upd 1 0 (t 16) (t 65)), o 17 (.mv (t 66)), o 18 (.mv (t 67))])
 (s (.ops [o 69 (.call (f 15) [(c (.string (bstr [64, 48, 58, 10, 106, 117, 109, 112, 32, 64, 49])))]), o 68 (.mv (t 69)), o 70 (.extract (t 68) 0), o 71 (.extract (t 68) 1), o 72 (.extract (t 68) 2), o 19 (.lnew [(.slice none 0 0)]), o 19 (.upd 1 0 (t 19) (t 70)), o 20 (.mv (t 71)), o 21 (.mv (t 72))])
 (s (.ops [o 73 (.mv (t 11)), o 74 (.mv (t 9)), o 75 (.len .str (t 74)), o 76 (.bin .eql (t 73) (t 75)), o 77 (.mv (t 76)), g 78 true 77 (.mv (t 12)), g 79 true 77 (.bin .eql (t 78) (c (i 5))), o 80 (.pick (t 77) (t 79) (c (.bool false))), o 81 (.mv (t 80)), g 82 true 81 (.lref (t 13)), g 83 true 81 (.field none 0 (t 13)), g 84 true 81 (.len .slice (t 83)), g 85 true 81 (.bin .eql (t 84) (c (i 0))), o 86 (.pick (t 81) (t 85) (c (.bool false))), o 87 (.mv (t 86)), g 88 true 87 (.mv (t 14)), g 89 true 87 (.bin .eql (t 88) (c (i 15))), o 90 (.pick (t 87) (t 89) (c (.bool false))), o 91 (.mv (t 90)), g 92 true 91 (.mv (t 15)), g 93 true 91 (.bin .eql (t 92) (c (i 2))), o 94 (.pick (t 91) (t 93) (c (.bool false))), o 95 (.mv (t 94)), g 96 true 95 (.mv (t 17)), g 97 true 95 (.bin .eql (t 96) (c (i 10))), o 98 (.pick (t 95) (t 97) (c (.bool false))), o 99 (.mv (t 98)), g 100 true 99 (.mv (t 18)), g 101 true 99 (.bin .eql (t 100) (c (i 2))), o 102 (.pick (t 99) (t 101) (c (.bool false))), o 103 (.mv (t 102)), g 104 true 103 (.mv (t 20)), g 105 true 103 (.bin .eql (t 104) (c (i 11))), o 106 (.pick (t 103) (t 105) (c (.bool false))), o 107 (.mv (t 106)), g 108 true 107 (.mv (t 21)), g 109 true 107 (.bin .eql (t 108) (c (i 9))), o 110 (.pick (t 107) (t 109) (c (.bool false))), o 6 (.mv (t 110))])
 .ret)))))))))))))⟩
theorem refinerylaw05_ParsePlaces_is : pgF n_refinerylaw05_ParsePlaces = some refinerylaw05_ParsePlaces_c := by kernel_rfl
def refinerylaw05_ParsePlaces_j0 (J : JT (Value × St)) (v1 v2 v3 : Value) (st : St) := goX J refinerylaw05_ParsePlaces_c.body [1, 1, 1] (envT [(1, v1), (2, v2), (3, v3)]) st
def refinerylaw05_ParsePlaces_j1 (J : JT (Value × St)) (v1 v2 v3 : Value) (st : St) := goX J refinerylaw05_ParsePlaces_c.body [1, 1, 1, 1, 1] (envT [(1, v1), (2, v2), (3, v3)]) st
theorem refinerylaw05_ParsePlaces_eq (K : Ctx) (J : JT (Value × St)) (a0 a1 a2 : Value) (st : St) : atX K J refinerylaw05_ParsePlaces_c (AM.start [a0, a1, a2]) st =
 (.thn st (sLbox a0 st) fun p1 =>
 .thn p1.2 (K.go (.call n_refinerylaw05_Awake []) p1.2) fun p2 =>
 .thn p2.2 (sUn .not p2.1 p2.2) fun p3 =>
 condX p3.1
 (.ok ((.bool false), p3.2))
 (refinerylaw05_ParsePlaces_j0 J a1 a2 p1.1 p3.2)) := by kernel_rfl
theorem refinerylaw05_ParsePlaces_of : Of3 n_refinerylaw05_ParsePlaces refinerylaw05_ParsePlaces_c := fun hF => call_of hF refinerylaw05_ParsePlaces_is rfl
theorem refinerylaw05_ParsePlaces_j0_eq (hJ : IsJ K (retK refinerylaw05_ParsePlaces_c.results) J) (v1 v2 v3 : Value) (st : St) : refinerylaw05_ParsePlaces_j0 J v1 v2 v3 st =
 (.thn st (sField (some 3) 0 v3 st) fun p1 =>
 .thn p1.2 (K.go (.call n_refinerylaw03_Small_Light [p1.1]) p1.2) fun p2 =>
 .thn p2.2 (sUn .not p2.1 p2.2) fun p3 =>
 .thn p3.2 (sG p3.1 false (.ok (v1, p3.2)) p3.2) fun p4 =>
 .thn p4.2 (sG p3.1 false (sLen .slice p4.1 p4.2) p4.2) fun p5 =>
 .thn p5.2 (sG p3.1 false (sBin .gtr p5.1 (.int .i64 40) p5.2) p5.2) fun p6 =>
 .thn p6.2 (sPick p3.1 (.bool true) p6.1 p6.2) fun p7 =>
 condX p7.1
 (.ok ((.bool true), p7.2))
 (refinerylaw05_ParsePlaces_j1 J v1 v2 v3 p7.2)) := gq hJ (by kernel_rfl)
theorem refinerylaw05_ParsePlaces_j1_eq (hJ : IsJ K (retK refinerylaw05_ParsePlaces_c.results) J) (v1 v2 v3 : Value) (st : St) : refinerylaw05_ParsePlaces_j1 J v1 v2 v3 st =
 (.thn st (sField (some 3) 0 v3 st) fun p1 =>
 .thn p1.2 (K.go (.call n_refinerylaw03_Small_Program [p1.1]) p1.2) fun p2 =>
 .thn p2.2 (K.go (.call n_refinerylaw05_Tokens [p2.1]) p2.2) fun p3 =>
 .thn p3.2 (sConv (.int .i64) v2 p3.2) fun p4 =>
 .thn p4.2 (sLen .slice p3.1 p4.2) fun p5 =>
 .thn p5.2 (sBin .rem p4.1 p5.1 p5.2) fun p6 =>
 .thn p6.2 (sSlice (.slice 1) p3.1 none (some p6.1) none p6.2) fun p7 =>
 .thn p7.2 (K.go (.call n_refinerylaw05_Text [p7.1, v1]) p7.2) fun p8 =>
 .thn p8.2 (sBin .add p8.1 (.string (bstr [122, 122, 32])) p8.2) fun p9 =>
 .thn p9.2 (sSlice (.slice 1) p3.1 (some p6.1) none none p9.2) fun p10 =>
 .thn p10.2 (K.go (.call n_refinerylaw05_Text [p10.1, v1]) p10.2) fun p11 =>
 .thn p11.2 (sBin .add p9.1 p11.1 p11.2) fun p12 =>
 .thn p12.2 (K.go (.call n_parse_Parse [p12.1]) p12.2) fun p13 =>
 .thn p13.2 (sExtract p13.1 0 p13.2) fun p14 =>
 .thn p14.2 (sExtract p13.1 1 p14.2) fun p15 =>
 .thn p15.2 (sExtract p13.1 2 p15.2) fun p16 =>
 .thn p16.2 (sLnew [(.slice none 0 0)] p16.2) fun p17 =>
 .thn p17.2 (sUpd 1 0 p17.1 p14.1 p17.2) fun p18 =>
 .thn p18.2 (K.go (.call n_parse_Parse [(.string (bstr [64, 48, 58, 10, 37, 49, 32, 61, 32, 53, 10, 111, 117, 116, 32, 37, 49, 48, 48, 48, 48, 48, 10, 116, 114, 97, 112, 10]))]) p18.2) fun p19 =>
 .thn p19.2 (sExtract p19.1 0 p19.2) fun p20 =>
 .thn p20.2 (sExtract p19.1 1 p20.2) fun p21 =>
 .thn p21.2 (sExtract p19.1 2 p21.2) fun p22 =>
 .thn p22.2 (sLnew [(.slice none 0 0)] p22.2) fun p23 =>
 .thn p23.2 (sUpd 1 0 p23.1 p20.1 p23.2) fun p24 =>
 .thn p24.2 (K.go (.call n_parse_Parse [(.string (bstr [64, 48, 58, 10, 115, 116, 111, 114, 101, 32, 36, 49, 54, 44, 32, 37, 49, 10, 116, 114, 97, 112]))]) p24.2) fun p25 =>
 .thn p25.2 (sExtract p25.1 0 p25.2) fun p26 =>
 .thn p26.2 (sExtract p25.1 1 p26.2) fun p27 =>
 .thn p27.2 (sExtract p25.1 2 p27.2) fun p28 =>
 .thn p28.2 (sLnew [(.slice none 0 0)] p28.2) fun p29 =>
 .thn p29.2 (sUpd 1 0 p29.1 p26.1 p29.2) fun p30 =>
 .thn p30.2 (K.go (.call n_parse_Parse [(.string (bstr [64, 48, 58, 10, 106, 117, 109, 112, 32, 64, 49]))]) p30.2) fun p31 =>
 .thn p31.2 (sExtract p31.1 0 p31.2) fun p32 =>
 .thn p32.2 (sExtract p31.1 1 p32.2) fun p33 =>
 .thn p33.2 (sExtract p31.1 2 p33.2) fun p34 =>
 .thn p34.2 (sLnew [(.slice none 0 0)] p34.2) fun p35 =>
 .thn p35.2 (sUpd 1 0 p35.1 p32.1 p35.2) fun p36 =>
 .thn p36.2 (sLen .str p8.1 p36.2) fun p37 =>
 .thn p37.2 (sBin .eql p15.1 p37.1 p37.2) fun p38 =>
 .thn p38.2 (sG p38.1 true (.ok (p16.1, p38.2)) p38.2) fun p39 =>
 .thn p39.2 (sG p38.1 true (sBin .eql p39.1 (.int .i64 5) p39.2) p39.2) fun p40 =>
 .thn p40.2 (sPick p38.1 p40.1 (.bool false) p40.2) fun p41 =>
 .thn p41.2 (sG p41.1 true (sLref p24.1 p41.2) p41.2) fun p42 =>
 .thn p42.2 (sG p41.1 true (sField none 0 p24.1 p42.2) p42.2) fun p43 =>
 .thn p43.2 (sG p41.1 true (sLen .slice p43.1 p43.2) p43.2) fun p44 =>
 .thn p44.2 (sG p41.1 true (sBin .eql p44.1 (.int .i64 0) p44.2) p44.2) fun p45 =>
 .thn p45.2 (sPick p41.1 p45.1 (.bool false) p45.2) fun p46 =>
 .thn p46.2 (sG p46.1 true (.ok (p21.1, p46.2)) p46.2) fun p47 =>
 .thn p47.2 (sG p46.1 true (sBin .eql p47.1 (.int .i64 15) p47.2) p47.2) fun p48 =>
 .thn p48.2 (sPick p46.1 p48.1 (.bool false) p48.2) fun p49 =>
 .thn p49.2 (sG p49.1 true (.ok (p22.1, p49.2)) p49.2) fun p50 =>
 .thn p50.2 (sG p49.1 true (sBin .eql p50.1 (.int .i64 2) p50.2) p50.2) fun p51 =>
 .thn p51.2 (sPick p49.1 p51.1 (.bool false) p51.2) fun p52 =>
 .thn p52.2 (sG p52.1 true (.ok (p27.1, p52.2)) p52.2) fun p53 =>
 .thn p53.2 (sG p52.1 true (sBin .eql p53.1 (.int .i64 10) p53.2) p53.2) fun p54 =>
 .thn p54.2 (sPick p52.1 p54.1 (.bool false) p54.2) fun p55 =>
 .thn p55.2 (sG p55.1 true (.ok (p28.1, p55.2)) p55.2) fun p56 =>
 .thn p56.2 (sG p55.1 true (sBin .eql p56.1 (.int .i64 2) p56.2) p56.2) fun p57 =>
 .thn p57.2 (sPick p55.1 p57.1 (.bool false) p57.2) fun p58 =>
 .thn p58.2 (sG p58.1 true (.ok (p33.1, p58.2)) p58.2) fun p59 =>
 .thn p59.2 (sG p58.1 true (sBin .eql p59.1 (.int .i64 11) p59.2) p59.2) fun p60 =>
 .thn p60.2 (sPick p58.1 p60.1 (.bool false) p60.2) fun p61 =>
 .thn p61.2 (sG p61.1 true (.ok (p34.1, p61.2)) p61.2) fun p62 =>
 .thn p62.2 (sG p61.1 true (sBin .eql p62.1 (.int .i64 9) p62.2) p62.2) fun p63 =>
 .thn p63.2 (sPick p61.1 p63.1 (.bool false) p63.2) fun p64 =>
 .ok (p64.1, p64.2)) := gq hJ (by kernel_rfl)
end
end Go.Proofs.YtdjfndijbnpkpaaDoor.Sh
