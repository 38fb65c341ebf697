/-
 The functions of the program, operation by operation, as the abstract machine has them.
-/
import Derived.Test.YtefdkodjpcabmaaDoorProg
import Derived.Test.YtefdkodjpcabmaaDoorShN
set_option linter.unusedVariables false
set_option maxRecDepth 100000
namespace Go.Proofs.YtefdkodjpcabmaaDoor.Sh
open Go Go.AM Go.Proofs
noncomputable section
variable {K : Ctx} {J : JT (Value × St)} {st : St} {Q : Value × St → Prop}
open C in
def refinerylaw04_LexNumbers_c : AFun := ⟨110, [.tmp 6],
 (s (.ops [o 6 (.mv (c (.bool false)))])
 (s (s (.ops [o 23 (.call (f 14) []), o 24 (.un .not (t 23))])
 (.cond (t 24) (s (.ops [o 6 (.mv (c (.bool false)))])
 .ret) .skip))
 (s (.keep [0, 1, 2])
 (s (.ops [o 25 (.lit 1 5 [(.string (bstr [])), (.string (bstr [])), (.string (bstr [])), (.string (bstr [])), (.string (bstr []))] [(0, 1, (c (.string (bstr [37])))), (1, 1, (c (.string (bstr [64])))), (2, 1, (c (.string (bstr [36])))), (3, 1, (c (.string (bstr [])))), (4, 1, (c (.string (bstr [45]))))]), o 26 (.mv (t 2)), o 27 (.bin .rem (t 26) (c (u 5))), o 28 (.ixA 1 none (t 25) (t 27)), o 29 (.load none (t 28)), o 7 (.mv (t 29))])
 (s (.ops [o 30 (.mv (t 1)), o 31 (.bin .rem (t 30) (c (u 6))), o 32 (.slice .str (c (.string (bstr [48, 48, 48, 48, 48]))) none (some (t 31)) none), o 8 (.mv (t 32))])
 (s (.ops [o 33 (.mv (t 7)), o 34 (.mv (t 8)), o 35 (.bin .add (t 33) (t 34)), o 36 (.mv (t 0)), o 37 (.conv (.int .u64) (t 36)), o 38 (.call (f 18) [(t 37)]), o 39 (.bin .add (t 35) (t 38)), o 9 (.mv (t 39))])
 (s (.ops [o 41 (.mv (t 9)), o 42 (.call (f 16) [(t 41)]), o 40 (.mv (t 42)), o 43 (.extract (t 40) 0), o 44 (.extract (t 40) 1), o 45 (.extract (t 40) 2), o 10 (.mv (t 43)), o 11 (.mv (t 44)), o 12 (.mv (t 45))])
 (s (.ops [o 46 (.mv (t 1)), o 47 (.bin .rem (t 46) (c (u 6))), o 48 (.bin .eql (t 47) (c (u 0))), o 49 (.mv (t 48)), g 50 true 49 (.mv (t 7)), g 51 true 49 (.bin .neq (t 50) (c (.string (bstr [45])))), g 52 true 49 (.mv (t 51)), g 53 false 52 (.mv (t 0)), g 54 false 52 (.bin .gtr (t 53) (c (.int .u32 0))), g 55 true 49 (.pick (t 52) (c (.bool true)) (t 54)), o 56 (.pick (t 49) (t 55) (c (.bool false))), o 13 (.mv (t 56))])
 (s (.ops [o 58 (.mv (t 7)), o 59 (.bin .add (t 58) (c (.string (bstr [57, 57, 57, 57, 57, 57, 57, 57, 57, 57, 57, 57, 57, 57, 57, 57, 57, 57, 57, 57])))), o 60 (.call (f 16) [(t 59)]), o 57 (.mv (t 60)), o 61 (.extract (t 57) 0), o 62 (.extract (t 57) 1), o 63 (.extract (t 57) 2), o 14 (.mv (t 61)), o 15 (.mv (t 62)), o 16 (.mv (t 63))])
 (s (.ops [o 65 (.call (f 16) [(c (.string (bstr [37])))]), o 64 (.mv (t 65)), o 66 (.extract (t 64) 0), o 67 (.extract (t 64) 1), o 68 (.extract (t 64) 2), o 17 (.mv (t 66)), o 18 (.mv (t 67)), o 19 (.mv (t 68))])
 (s (.ops [o 70 (.call (f 16) [(c (.string (bstr [45])))]), o 69 (.mv (t 70)), o 71 (.extract (t 69) 0), o 72 (.extract (t 69) 1), o 73 (.extract (t 69) 2), o 20 (.mv (t 71)), o 21 (.mv (t 72)), o 22 (.mv (t 73))])
 (s (.ops [o 74 (.mv (t 12)), o 75 (.bin .eql (t 74) (c (i 0))), o 76 (.mv (t 13)), o 77 (.eq false .bools (t 75) (t 76)), o 78 (.mv (t 77)), g 79 true 78 (.mv (t 13)), g 80 true 78 (.mv (t 79)), g 81 true 80 (.mv (t 10)), g 82 true 80 (.len .slice (t 81)), g 83 true 80 (.bin .eql (t 82) (c (i 2))), g 84 true 78 (.pick (t 80) (t 83) (c (.bool false))), g 85 true 78 (.mv (t 84)), g 86 false 85 (.mv (t 13)), g 87 false 85 (.un .not (t 86)), g 88 false 85 (.mv (t 87)), g 89 true 88 (.mv (t 12)), g 90 true 88 (.bin .eql (t 89) (c (i 4))), g 91 false 85 (.pick (t 88) (t 90) (c (.bool false))), g 92 false 85 (.mv (t 91)), g 93 true 92 (.mv (t 11)), g 94 true 92 (.bin .eql (t 93) (c (i 0))), g 95 false 85 (.pick (t 92) (t 94) (c (.bool false))), g 96 true 78 (.pick (t 85) (c (.bool true)) (t 95)), o 97 (.pick (t 78) (t 96) (c (.bool false))), o 98 (.mv (t 97)), g 99 true 98 (.mv (t 16)), g 100 true 98 (.bin .eql (t 99) (c (i 4))), o 101 (.pick (t 98) (t 100) (c (.bool false))), o 102 (.mv (t 101)), g 103 true 102 (.mv (t 19)), g 104 true 102 (.bin .eql (t 103) (c (i 4))), o 105 (.pick (t 102) (t 104) (c (.bool false))), o 106 (.mv (t 105)), g 107 true 106 (.mv (t 22)), g 108 true 106 (.bin .eql (t 107) (c (i 4))), o 109 (.pick (t 106) (t 108) (c (.bool false))), o 6 (.mv (t 109))])
 .ret))))))))))))⟩
theorem refinerylaw04_LexNumbers_is : pgF n_refinerylaw04_LexNumbers = some refinerylaw04_LexNumbers_c := by kernel_rfl
def refinerylaw04_LexNumbers_j0 (J : JT (Value × St)) (v0 v1 v2 : Value) (st : St) := goX J refinerylaw04_LexNumbers_c.body [1, 1, 1] (envT [(0, v0), (1, v1), (2, v2)]) st
theorem refinerylaw04_LexNumbers_eq (K : Ctx) (J : JT (Value × St)) (a0 a1 a2 : Value) (st : St) : atX K J refinerylaw04_LexNumbers_c (AM.start [a0, a1, a2]) st =
 (.thn st (K.go (.call n_refinerylaw04_Awake []) st) fun p1 =>
 .thn p1.2 (sUn .not p1.1 p1.2) fun p2 =>
 condX p2.1
 (.ok ((.bool false), p2.2))
 (refinerylaw04_LexNumbers_j0 J a0 a1 a2 p2.2)) := by kernel_rfl
theorem refinerylaw04_LexNumbers_of : Of3 n_refinerylaw04_LexNumbers refinerylaw04_LexNumbers_c := fun hF => call_of hF refinerylaw04_LexNumbers_is rfl
theorem refinerylaw04_LexNumbers_j0_eq (hJ : IsJ K (retK refinerylaw04_LexNumbers_c.results) J) (v0 v1 v2 : Value) (st : St) : refinerylaw04_LexNumbers_j0 J v0 v1 v2 st =
 (.thn st (sLit 1 5 [(.string (bstr [])), (.string (bstr [])), (.string (bstr [])), (.string (bstr [])), (.string (bstr []))] [(0, 1, (.string (bstr [37]))), (1, 1, (.string (bstr [64]))), (2, 1, (.string (bstr [36]))), (3, 1, (.string (bstr []))), (4, 1, (.string (bstr [45])))] st) fun p1 =>
 .thn p1.2 (sBin .rem v2 (.int .u8 5) p1.2) fun p2 =>
 .thn p2.2 (sIxA 1 none p1.1 p2.1 p2.2) fun p3 =>
 .thn p3.2 (sLoad none p3.1 p3.2) fun p4 =>
 .thn p4.2 (sBin .rem v1 (.int .u8 6) p4.2) fun p5 =>
 .thn p5.2 (sSlice .str (.string (bstr [48, 48, 48, 48, 48])) none (some p5.1) none p5.2) fun p6 =>
 .thn p6.2 (sBin .add p4.1 p6.1 p6.2) fun p7 =>
 .thn p7.2 (sConv (.int .u64) v0 p7.2) fun p8 =>
 .thn p8.2 (K.go (.call n_refinerylaw04_number [p8.1]) p8.2) fun p9 =>
 .thn p9.2 (sBin .add p7.1 p9.1 p9.2) fun p10 =>
 .thn p10.2 (K.go (.call n_lex_Split [p10.1]) p10.2) fun p11 =>
 .thn p11.2 (sExtract p11.1 0 p11.2) fun p12 =>
 .thn p12.2 (sExtract p11.1 1 p12.2) fun p13 =>
 .thn p13.2 (sExtract p11.1 2 p13.2) fun p14 =>
 .thn p14.2 (sBin .rem v1 (.int .u8 6) p14.2) fun p15 =>
 .thn p15.2 (sBin .eql p15.1 (.int .u8 0) p15.2) fun p16 =>
 .thn p16.2 (sG p16.1 true (.ok (p4.1, p16.2)) p16.2) fun p17 =>
 .thn p17.2 (sG p16.1 true (sBin .neq p17.1 (.string (bstr [45])) p17.2) p17.2) fun p18 =>
 .thn p18.2 (sG p16.1 true (.ok (p18.1, p18.2)) p18.2) fun p19 =>
 .thn p19.2 (sG p19.1 false (.ok (v0, p19.2)) p19.2) fun p20 =>
 .thn p20.2 (sG p19.1 false (sBin .gtr p20.1 (.int .u32 0) p20.2) p20.2) fun p21 =>
 .thn p21.2 (sG p16.1 true (sPick p19.1 (.bool true) p21.1 p21.2) p21.2) fun p22 =>
 .thn p22.2 (sPick p16.1 p22.1 (.bool false) p22.2) fun p23 =>
 .thn p23.2 (sBin .add p4.1 (.string (bstr [57, 57, 57, 57, 57, 57, 57, 57, 57, 57, 57, 57, 57, 57, 57, 57, 57, 57, 57, 57])) p23.2) fun p24 =>
 .thn p24.2 (K.go (.call n_lex_Split [p24.1]) p24.2) fun p25 =>
 .thn p25.2 (sExtract p25.1 0 p25.2) fun p26 =>
 .thn p26.2 (sExtract p25.1 1 p26.2) fun p27 =>
 .thn p27.2 (sExtract p25.1 2 p27.2) fun p28 =>
 .thn p28.2 (K.go (.call n_lex_Split [(.string (bstr [37]))]) p28.2) fun p29 =>
 .thn p29.2 (sExtract p29.1 0 p29.2) fun p30 =>
 .thn p30.2 (sExtract p29.1 1 p30.2) fun p31 =>
 .thn p31.2 (sExtract p29.1 2 p31.2) fun p32 =>
 .thn p32.2 (K.go (.call n_lex_Split [(.string (bstr [45]))]) p32.2) fun p33 =>
 .thn p33.2 (sExtract p33.1 0 p33.2) fun p34 =>
 .thn p34.2 (sExtract p33.1 1 p34.2) fun p35 =>
 .thn p35.2 (sExtract p33.1 2 p35.2) fun p36 =>
 .thn p36.2 (sBin .eql p14.1 (.int .i64 0) p36.2) fun p37 =>
 .thn p37.2 (sEq false .bools p37.1 p23.1 p37.2) fun p38 =>
 .thn p38.2 (sG p38.1 true (.ok (p23.1, p38.2)) p38.2) fun p39 =>
 .thn p39.2 (sG p38.1 true (.ok (p39.1, p39.2)) p39.2) fun p40 =>
 .thn p40.2 (sG p40.1 true (.ok (p12.1, p40.2)) p40.2) fun p41 =>
 .thn p41.2 (sG p40.1 true (sLen .slice p41.1 p41.2) p41.2) fun p42 =>
 .thn p42.2 (sG p40.1 true (sBin .eql p42.1 (.int .i64 2) p42.2) p42.2) fun p43 =>
 .thn p43.2 (sG p38.1 true (sPick p40.1 p43.1 (.bool false) p43.2) p43.2) fun p44 =>
 .thn p44.2 (sG p38.1 true (.ok (p44.1, p44.2)) p44.2) fun p45 =>
 .thn p45.2 (sG p45.1 false (.ok (p23.1, p45.2)) p45.2) fun p46 =>
 .thn p46.2 (sG p45.1 false (sUn .not p46.1 p46.2) p46.2) fun p47 =>
 .thn p47.2 (sG p45.1 false (.ok (p47.1, p47.2)) p47.2) fun p48 =>
 .thn p48.2 (sG p48.1 true (.ok (p14.1, p48.2)) p48.2) fun p49 =>
 .thn p49.2 (sG p48.1 true (sBin .eql p49.1 (.int .i64 4) p49.2) p49.2) fun p50 =>
 .thn p50.2 (sG p45.1 false (sPick p48.1 p50.1 (.bool false) p50.2) p50.2) fun p51 =>
 .thn p51.2 (sG p45.1 false (.ok (p51.1, p51.2)) p51.2) fun p52 =>
 .thn p52.2 (sG p52.1 true (.ok (p13.1, p52.2)) p52.2) fun p53 =>
 .thn p53.2 (sG p52.1 true (sBin .eql p53.1 (.int .i64 0) p53.2) p53.2) fun p54 =>
 .thn p54.2 (sG p45.1 false (sPick p52.1 p54.1 (.bool false) p54.2) p54.2) fun p55 =>
 .thn p55.2 (sG p38.1 true (sPick p45.1 (.bool true) p55.1 p55.2) p55.2) fun p56 =>
 .thn p56.2 (sPick p38.1 p56.1 (.bool false) p56.2) fun p57 =>
 .thn p57.2 (sG p57.1 true (.ok (p28.1, p57.2)) p57.2) fun p58 =>
 .thn p58.2 (sG p57.1 true (sBin .eql p58.1 (.int .i64 4) p58.2) p58.2) fun p59 =>
 .thn p59.2 (sPick p57.1 p59.1 (.bool false) p59.2) fun p60 =>
 .thn p60.2 (sG p60.1 true (.ok (p32.1, p60.2)) p60.2) fun p61 =>
 .thn p61.2 (sG p60.1 true (sBin .eql p61.1 (.int .i64 4) p61.2) p61.2) fun p62 =>
 .thn p62.2 (sPick p60.1 p62.1 (.bool false) p62.2) fun p63 =>
 .thn p63.2 (sG p63.1 true (.ok (p36.1, p63.2)) p63.2) fun p64 =>
 .thn p64.2 (sG p63.1 true (sBin .eql p64.1 (.int .i64 4) p64.2) p64.2) fun p65 =>
 .thn p65.2 (sPick p63.1 p65.1 (.bool false) p65.2) fun p66 =>
 .ok (p66.1, p66.2)) := gq hJ (by kernel_rfl)
end
end Go.Proofs.YtefdkodjpcabmaaDoor.Sh
