/-
 The functions of the program, operation by operation, as the abstract machine has them.
-/
import Derived.Test.YtefdkodjpcabmaaDoorProg
import Derived.Test.YtefdkodjpcabmaaDoorShN
set_option linter.unusedVariables false
set_option maxRecDepth 100000
namespace Go.Proofs.YtefdkodjpcabmaaDoor.Sh
open Go Go.AM Go.Proofs
noncomputable section
variable {K : Ctx} {J : JT (Value × St)} {st : St} {Q : Value × St → Prop}
open C in
def refinerylaw04_LexReads_c : AFun := ⟨1, [.tmp 2],
 (s (.ops [o 2 (.mv (c (.bool false)))])
 (s (s (.ops [o 14 (.call (f 14) []), o 15 (.un .not (t 14))])
 (.cond (t 15) (s (.ops [o 2 (.mv (c (.bool false)))])
 .ret) .skip))
 (s (.keep [0])
 (s (s (.ops [o 16 (.mv (t 0)), o 17 (.len .slice (t 16)), o 18 (.bin .gtr (t 17) (c (i 60)))])
 (.cond (t 18) (s (.ops [o 2 (.mv (c (.bool true)))])
 .ret) .skip))
 (s (.keep [0])
 (s (.ops [o 3 (.mv (c (.string (bstr []))))])
 (s (.ops [o 4 (.mv (c (.slice none 0 0)))])
 (s (s (.ops [o 19 (.mv (t 0)), o 20 (.len .slice (t 19)), o 21 (.mv (c (i 0)))])
 (.block 0 (s (.keep [3, 4, 19, 20, 21])
 (.loop (s (s (.ops [o 22 (.bin .lss (t 21) (t 20))])
 (s (.cond (t 22) .skip (.exit 0))
 (s (.keep [3, 4, 19, 20, 21])
 (s (.block 1 (s (.ops [o 23 (.ixA 3 none (t 19) (t 21)), o 24 (.load (some 3) (t 23)), o 6 (.lnew [(u 0), (u 0), (i 0)]), o 6 (.upd 3 0 (t 6) (t 24))])
 (s (.ops [o 26 (.field (some 3) 0 (t 6)), o 27 (.call (f 15) [(t 26)]), o 25 (.mv (t 27)), o 28 (.extract (t 25) 0), o 29 (.extract (t 25) 1), o 8 (.lnew [(u 0), (i 0), (.string (bstr [])), (i 0)]), o 7 (.mv (t 28)), o 8 (.upd 4 0 (t 8) (t 29))])
 (s (.ops [o 30 (.mv (t 3)), o 31 (.len .str (t 30)), o 32 (.lref (t 8)), o 8 (.upd 1 1 (t 8) (t 31))])
 (s (.ops [o 33 (.mv (t 4)), o 34 (.field (some 4) 0 (t 8)), o 35 (.lit 4 1 [(u 0), (i 0), (.string (bstr [])), (i 0)] [(0, 4, (t 34))]), o 36 (.append 4 40 (t 33) (t 35)), o 4 (.mv (t 36))])
 (s (.ops [o 37 (.mv (t 3)), o 38 (.mv (t 7)), o 39 (.lit 1 3 [(.string (bstr [])), (.string (bstr [])), (.string (bstr []))] [(0, 1, (c (.string (bstr [32])))), (1, 1, (c (.string (bstr [32, 32])))), (2, 1, (c (.string (bstr [32]))))]), o 40 (.lref (t 6)), o 41 (.field none 1 (t 6)), o 42 (.bin .rem (t 41) (c (u 3))), o 43 (.ixA 1 none (t 39) (t 42)), o 44 (.load none (t 43)), o 45 (.bin .add (t 38) (t 44)), o 46 (.bin .add (t 37) (t 45)), o 3 (.mv (t 46))])
 (s (.ops [o 47 (.lref (t 6)), o 48 (.field none 1 (t 6)), o 49 (.bin .rem (t 48) (c (u 7))), o 50 (.bin .eql (t 49) (c (u 6)))])
 (.cond (t 50) (s (.ops [o 51 (.mv (t 4)), o 52 (.mv (t 3)), o 53 (.len .str (t 52)), o 54 (.bin .add (t 53) (c (i 3))), o 55 (.build [(u 0), (i 0), (.string (bstr [])), (i 0)] [(0, 1, (c (u 7))), (1, 1, (t 54))]), o 56 (.lit 4 1 [(u 0), (i 0), (.string (bstr [])), (i 0)] [(0, 4, (t 55))]), o 57 (.append 4 40 (t 51) (t 56)), o 4 (.mv (t 57))])
 (.ops [o 58 (.mv (t 3)), o 59 (.bin .add (t 58) (c (.string (bstr [35, 32, 64, 10])))), o 3 (.mv (t 59))])) .skip))))))))
 (s (.keep [3, 4, 19, 20, 21])
 (.ops [o 60 (.bin .add (t 21) (c (i 1))), o 21 (.mv (t 60))]))))))
 (.keep [3, 4, 19, 20, 21]))))))
 (s (.keep [3, 4])
 (s (.ops [o 62 (.mv (t 3)), o 63 (.call (f 16) [(t 62)]), o 61 (.mv (t 63)), o 64 (.extract (t 61) 0), o 65 (.extract (t 61) 1), o 66 (.extract (t 61) 2), o 9 (.mv (t 64)), o 10 (.mv (t 65)), o 11 (.mv (t 66))])
 (s (s (.ops [o 67 (.mv (t 11)), o 68 (.bin .neq (t 67) (c (i 0))), o 69 (.mv (t 68)), g 70 false 69 (.mv (t 10)), g 71 false 69 (.bin .neq (t 70) (c (i 0))), o 72 (.pick (t 69) (c (.bool true)) (t 71)), o 73 (.mv (t 72)), g 74 false 73 (.mv (t 9)), g 75 false 73 (.len .slice (t 74)), g 76 false 73 (.mv (t 4)), g 77 false 73 (.len .slice (t 76)), g 78 false 73 (.bin .add (t 77) (c (i 1))), g 79 false 73 (.bin .neq (t 75) (t 78)), o 80 (.pick (t 73) (c (.bool true)) (t 79)), o 81 (.mv (t 80)), g 82 false 81 (.mv (t 9)), g 83 false 81 (.mv (t 4)), g 84 false 81 (.len .slice (t 83)), g 85 false 81 (.ixA 4 none (t 82) (t 84)), g 86 false 81 (.load (some 4) (t 85)), g 87 false 81 (.mv (t 3)), g 88 false 81 (.len .str (t 87)), g 89 false 81 (.build [(u 0), (i 0), (.string (bstr [])), (i 0)] [(1, 1, (t 88))]), g 90 false 81 (.eq true (.fields [(0, .int), (1, .int), (2, .str), (3, .int)]) (t 86) (t 89)), o 91 (.pick (t 81) (c (.bool true)) (t 90))])
 (.cond (t 91) (s (.ops [o 2 (.mv (c (.bool false)))])
 .ret) .skip))
 (s (.keep [4, 9])
 (s (s (.ops [o 92 (.mv (t 4)), o 93 (.len .slice (t 92)), o 94 (.mv (c (i 0)))])
 (.block 2 (s (.keep [9, 92, 93, 94])
 (.loop (s (s (.ops [o 95 (.bin .lss (t 94) (t 93))])
 (s (.cond (t 95) .skip (.exit 2))
 (s (.keep [9, 92, 93, 94])
 (s (.block 3 (s (.ops [o 96 (.mv (t 94)), o 97 (.ixA 4 none (t 92) (t 94)), o 98 (.load (some 4) (t 97)), o 13 (.lnew [(u 0), (i 0), (.string (bstr [])), (i 0)]), o 12 (.mv (t 96)), o 13 (.upd 4 0 (t 13) (t 98))])
 (s (.draw [d 0 0 false (o 99 (.mv (t 9))), d 1 0 false (o 100 (.mv (t 12))), d 2 0 false (o 101 (.ixA 4 none (t 99) (t 100))), d 3 0 false (o 102 (.load (some 4) (t 101))), d 4 0 false (o 103 (.field (some 4) 0 (t 13))), d 5 0 false (o 104 (.eq true (.fields [(0, .int), (1, .int), (2, .str), (3, .int)]) (t 102) (t 103)))])
 (.cond (t 104) (s (.ops [o 2 (.mv (c (.bool false)))])
 .ret) .skip))))
 (s (.keep [9, 92, 93, 94])
 (.ops [o 105 (.bin .add (t 94) (c (i 1))), o 94 (.mv (t 105))]))))))
 (.keep [9, 92, 93, 94]))))))
 (s (.keep [])
 (s (.ops [o 2 (.mv (c (.bool true)))])
 .ret)))))))))))))))⟩
theorem refinerylaw04_LexReads_is : pgF n_refinerylaw04_LexReads = some refinerylaw04_LexReads_c := by kernel_rfl
def refinerylaw04_LexReads_j0 (J : JT (Value × St)) (v0 : Value) (st : St) := goX J refinerylaw04_LexReads_c.body [1, 1, 1] (envT [(0, v0)]) st
def refinerylaw04_LexReads_j1 (J : JT (Value × St)) (v0 : Value) (st : St) := goX J refinerylaw04_LexReads_c.body [1, 1, 1, 1, 1] (envT [(0, v0)]) st
def refinerylaw04_LexReads_l0 (J : JT (Value × St)) (v3 v4 v19 v20 v21 : Value) (st : St) := lpX J refinerylaw04_LexReads_c.body [1, 1, 1, 1, 1, 1, 1, 0, 1, 0, 1] (envT [(3, v3), (4, v4), (19, v19), (20, v20), (21, v21)]) st
def refinerylaw04_LexReads_j2 (J : JT (Value × St)) (v3 v4 v19 v20 v21 : Value) (st : St) := goX J refinerylaw04_LexReads_c.body [1, 1, 1, 1, 1, 1, 1, 0, 1, 0, 1, 0, 0, 1, 1, 1] (envT [(3, v3), (4, v4), (19, v19), (20, v20), (21, v21)]) st
def refinerylaw04_LexReads_j3 (J : JT (Value × St)) (v3 v4 : Value) (st : St) := goX J refinerylaw04_LexReads_c.body [1, 1, 1, 1, 1, 1, 1, 1, 1] (envT [(3, v3), (4, v4)]) st
def refinerylaw04_LexReads_j4 (J : JT (Value × St)) (v3 v4 v19 v20 v21 : Value) (st : St) := goX J refinerylaw04_LexReads_c.body [1, 1, 1, 1, 1, 1, 1, 0, 1, 0, 1, 0, 0, 1, 1, 1, 1, 1] (envT [(3, v3), (4, v4), (19, v19), (20, v20), (21, v21)]) st
def refinerylaw04_LexReads_j5 (J : JT (Value × St)) (v4 v9 : Value) (st : St) := goX J refinerylaw04_LexReads_c.body [1, 1, 1, 1, 1, 1, 1, 1, 1, 1, 1, 1] (envT [(4, v4), (9, v9)]) st
def refinerylaw04_LexReads_l1 (J : JT (Value × St)) (v9 v92 v93 v94 : Value) (st : St) := lpX J refinerylaw04_LexReads_c.body [1, 1, 1, 1, 1, 1, 1, 1, 1, 1, 1, 1, 0, 1, 0, 1] (envT [(9, v9), (92, v92), (93, v93), (94, v94)]) st
def refinerylaw04_LexReads_j6 (J : JT (Value × St)) (v9 v92 v93 v94 : Value) (st : St) := goX J refinerylaw04_LexReads_c.body [1, 1, 1, 1, 1, 1, 1, 1, 1, 1, 1, 1, 0, 1, 0, 1, 0, 0, 1, 1, 1] (envT [(9, v9), (92, v92), (93, v93), (94, v94)]) st
def refinerylaw04_LexReads_j7 (J : JT (Value × St)) (st : St) := goX J refinerylaw04_LexReads_c.body [1, 1, 1, 1, 1, 1, 1, 1, 1, 1, 1, 1, 1, 1] (envT []) st
def refinerylaw04_LexReads_j8 (J : JT (Value × St)) (v9 v92 v93 v94 : Value) (st : St) := goX J refinerylaw04_LexReads_c.body [1, 1, 1, 1, 1, 1, 1, 1, 1, 1, 1, 1, 0, 1, 0, 1, 0, 0, 1, 1, 1, 1, 1] (envT [(9, v9), (92, v92), (93, v93), (94, v94)]) st
theorem refinerylaw04_LexReads_eq (K : Ctx) (J : JT (Value × St)) (a0 : Value) (st : St) : atX K J refinerylaw04_LexReads_c (AM.start [a0]) st =
 (.thn st (K.go (.call n_refinerylaw04_Awake []) st) fun p1 =>
 .thn p1.2 (sUn .not p1.1 p1.2) fun p2 =>
 condX p2.1
 (.ok ((.bool false), p2.2))
 (refinerylaw04_LexReads_j0 J a0 p2.2)) := by kernel_rfl
theorem refinerylaw04_LexReads_of : Of1 n_refinerylaw04_LexReads refinerylaw04_LexReads_c := fun hF => call_of hF refinerylaw04_LexReads_is rfl
theorem refinerylaw04_LexReads_j0_eq (hJ : IsJ K (retK refinerylaw04_LexReads_c.results) J) (v0 : Value) (st : St) : refinerylaw04_LexReads_j0 J v0 st =
 (.thn st (sLen .slice v0 st) fun p1 =>
 .thn p1.2 (sBin .gtr p1.1 (.int .i64 60) p1.2) fun p2 =>
 condX p2.1
 (.ok ((.bool true), p2.2))
 (refinerylaw04_LexReads_j1 J v0 p2.2)) := gq hJ (by kernel_rfl)
theorem refinerylaw04_LexReads_j1_eq (hJ : IsJ K (retK refinerylaw04_LexReads_c.results) J) (v0 : Value) (st : St) : refinerylaw04_LexReads_j1 J v0 st =
 (.thn st (sLen .slice v0 st) fun p1 =>
 refinerylaw04_LexReads_l0 J (.string (bstr [])) (.slice none 0 0) v0 p1.1 (.int .i64 0) p1.2) := gq hJ (by kernel_rfl)
theorem refinerylaw04_LexReads_l0_eq (K : Ctx) (J : JT (Value × St)) (v3 v4 v19 v20 v21 : Value) (st : St) : inX K J (retK refinerylaw04_LexReads_c.results) refinerylaw04_LexReads_c.body [1, 1, 1, 1, 1, 1, 1, 0, 1, 0, 1] (envT [(3, v3), (4, v4), (19, v19), (20, v20), (21, v21)]) st =
 (.thn st (sBin .lss v21 v20 st) fun p1 =>
 condX p1.1
 (refinerylaw04_LexReads_j2 J v3 v4 v19 v20 v21 p1.2)
 (refinerylaw04_LexReads_j3 J v3 v4 p1.2)) := by kernel_rfl
theorem refinerylaw04_LexReads_l0_of (hF : Fix pgF K) (hJ : IsJ K (retK refinerylaw04_LexReads_c.results) J) {v3 v4 v19 v20 v21 : Value} (h : Ok (inX K J (retK refinerylaw04_LexReads_c.results) refinerylaw04_LexReads_c.body [1, 1, 1, 1, 1, 1, 1, 0, 1, 0, 1] (envT [(3, v3), (4, v4), (19, v19), (20, v20), (21, v21)]) st) Q) : Ok (refinerylaw04_LexReads_l0 J v3 v4 v19 v20 v21 st) Q := loop_of hF hJ h
theorem refinerylaw04_LexReads_j2_eq (hJ : IsJ K (retK refinerylaw04_LexReads_c.results) J) (v3 v4 v19 v20 v21 : Value) (st : St) : refinerylaw04_LexReads_j2 J v3 v4 v19 v20 v21 st =
 (.thn st (sIxA 3 none v19 v21 st) fun p1 =>
 .thn p1.2 (sLoad (some 3) p1.1 p1.2) fun p2 =>
 .thn p2.2 (sLnew [(.int .u8 0), (.int .u8 0), (.int .i64 0)] p2.2) fun p3 =>
 .thn p3.2 (sUpd 3 0 p3.1 p2.1 p3.2) fun p4 =>
 .thn p4.2 (sField (some 3) 0 p4.1 p4.2) fun p5 =>
 .thn p5.2 (K.go (.call n_refinerylaw04_Piece_Token [p5.1]) p5.2) fun p6 =>
 .thn p6.2 (sExtract p6.1 0 p6.2) fun p7 =>
 .thn p7.2 (sExtract p6.1 1 p7.2) fun p8 =>
 .thn p8.2 (sLnew [(.int .u8 0), (.int .i64 0), (.string (bstr [])), (.int .i64 0)] p8.2) fun p9 =>
 .thn p9.2 (sUpd 4 0 p9.1 p8.1 p9.2) fun p10 =>
 .thn p10.2 (sLen .str v3 p10.2) fun p11 =>
 .thn p11.2 (sLref p10.1 p11.2) fun p12 =>
 .thn p12.2 (sUpd 1 1 p10.1 p11.1 p12.2) fun p13 =>
 .thn p13.2 (sField (some 4) 0 p13.1 p13.2) fun p14 =>
 .thn p14.2 (sLit 4 1 [(.int .u8 0), (.int .i64 0), (.string (bstr [])), (.int .i64 0)] [(0, 4, p14.1)] p14.2) fun p15 =>
 .thn p15.2 (sAppend 4 40 v4 p15.1 p15.2) fun p16 =>
 .thn p16.2 (sLit 1 3 [(.string (bstr [])), (.string (bstr [])), (.string (bstr []))] [(0, 1, (.string (bstr [32]))), (1, 1, (.string (bstr [32, 32]))), (2, 1, (.string (bstr [32])))] p16.2) fun p17 =>
 .thn p17.2 (sLref p4.1 p17.2) fun p18 =>
 .thn p18.2 (sField none 1 p4.1 p18.2) fun p19 =>
 .thn p19.2 (sBin .rem p19.1 (.int .u8 3) p19.2) fun p20 =>
 .thn p20.2 (sIxA 1 none p17.1 p20.1 p20.2) fun p21 =>
 .thn p21.2 (sLoad none p21.1 p21.2) fun p22 =>
 .thn p22.2 (sBin .add p7.1 p22.1 p22.2) fun p23 =>
 .thn p23.2 (sBin .add v3 p23.1 p23.2) fun p24 =>
 .thn p24.2 (sLref p4.1 p24.2) fun p25 =>
 .thn p25.2 (sField none 1 p4.1 p25.2) fun p26 =>
 .thn p26.2 (sBin .rem p26.1 (.int .u8 7) p26.2) fun p27 =>
 .thn p27.2 (sBin .eql p27.1 (.int .u8 6) p27.2) fun p28 =>
 condX p28.1
 (.thn p28.2 (sLen .str p24.1 p28.2) fun p29 =>
 .thn p29.2 (sBin .add p29.1 (.int .i64 3) p29.2) fun p30 =>
 .thn p30.2 (sBuild [(.int .u8 0), (.int .i64 0), (.string (bstr [])), (.int .i64 0)] [(0, 1, (.int .u8 7)), (1, 1, p30.1)] p30.2) fun p31 =>
 .thn p31.2 (sLit 4 1 [(.int .u8 0), (.int .i64 0), (.string (bstr [])), (.int .i64 0)] [(0, 4, p31.1)] p31.2) fun p32 =>
 .thn p32.2 (sAppend 4 40 p16.1 p32.1 p32.2) fun p33 =>
 .thn p33.2 (sBin .add p24.1 (.string (bstr [35, 32, 64, 10])) p33.2) fun p34 =>
 refinerylaw04_LexReads_j4 J p34.1 p33.1 v19 v20 v21 p34.2)
 (refinerylaw04_LexReads_j4 J p24.1 p16.1 v19 v20 v21 p28.2)) := gq hJ (by kernel_rfl)
theorem refinerylaw04_LexReads_j3_eq (hJ : IsJ K (retK refinerylaw04_LexReads_c.results) J) (v3 v4 : Value) (st : St) : refinerylaw04_LexReads_j3 J v3 v4 st =
 (.thn st (K.go (.call n_lex_Split [v3]) st) fun p1 =>
 .thn p1.2 (sExtract p1.1 0 p1.2) fun p2 =>
 .thn p2.2 (sExtract p1.1 1 p2.2) fun p3 =>
 .thn p3.2 (sExtract p1.1 2 p3.2) fun p4 =>
 .thn p4.2 (sBin .neq p4.1 (.int .i64 0) p4.2) fun p5 =>
 .thn p5.2 (sG p5.1 false (.ok (p3.1, p5.2)) p5.2) fun p6 =>
 .thn p6.2 (sG p5.1 false (sBin .neq p6.1 (.int .i64 0) p6.2) p6.2) fun p7 =>
 .thn p7.2 (sPick p5.1 (.bool true) p7.1 p7.2) fun p8 =>
 .thn p8.2 (sG p8.1 false (.ok (p2.1, p8.2)) p8.2) fun p9 =>
 .thn p9.2 (sG p8.1 false (sLen .slice p9.1 p9.2) p9.2) fun p10 =>
 .thn p10.2 (sG p8.1 false (.ok (v4, p10.2)) p10.2) fun p11 =>
 .thn p11.2 (sG p8.1 false (sLen .slice p11.1 p11.2) p11.2) fun p12 =>
 .thn p12.2 (sG p8.1 false (sBin .add p12.1 (.int .i64 1) p12.2) p12.2) fun p13 =>
 .thn p13.2 (sG p8.1 false (sBin .neq p10.1 p13.1 p13.2) p13.2) fun p14 =>
 .thn p14.2 (sPick p8.1 (.bool true) p14.1 p14.2) fun p15 =>
 .thn p15.2 (sG p15.1 false (.ok (p2.1, p15.2)) p15.2) fun p16 =>
 .thn p16.2 (sG p15.1 false (.ok (v4, p16.2)) p16.2) fun p17 =>
 .thn p17.2 (sG p15.1 false (sLen .slice p17.1 p17.2) p17.2) fun p18 =>
 .thn p18.2 (sG p15.1 false (sIxA 4 none p16.1 p18.1 p18.2) p18.2) fun p19 =>
 .thn p19.2 (sG p15.1 false (sLoad (some 4) p19.1 p19.2) p19.2) fun p20 =>
 .thn p20.2 (sG p15.1 false (.ok (v3, p20.2)) p20.2) fun p21 =>
 .thn p21.2 (sG p15.1 false (sLen .str p21.1 p21.2) p21.2) fun p22 =>
 .thn p22.2 (sG p15.1 false (sBuild [(.int .u8 0), (.int .i64 0), (.string (bstr [])), (.int .i64 0)] [(1, 1, p22.1)] p22.2) p22.2) fun p23 =>
 .thn p23.2 (sG p15.1 false (sEq true (.fields [(0, .int), (1, .int), (2, .str), (3, .int)]) p20.1 p23.1 p23.2) p23.2) fun p24 =>
 .thn p24.2 (sPick p15.1 (.bool true) p24.1 p24.2) fun p25 =>
 condX p25.1
 (.ok ((.bool false), p25.2))
 (refinerylaw04_LexReads_j5 J v4 p2.1 p25.2)) := gq hJ (by kernel_rfl)
theorem refinerylaw04_LexReads_j4_eq (hJ : IsJ K (retK refinerylaw04_LexReads_c.results) J) (v3 v4 v19 v20 v21 : Value) (st : St) : refinerylaw04_LexReads_j4 J v3 v4 v19 v20 v21 st =
 (.thn st (sBin .add v21 (.int .i64 1) st) fun p1 =>
 refinerylaw04_LexReads_l0 J v3 v4 v19 v20 p1.1 p1.2) := gq hJ (by kernel_rfl)
theorem refinerylaw04_LexReads_j5_eq (hJ : IsJ K (retK refinerylaw04_LexReads_c.results) J) (v4 v9 : Value) (st : St) : refinerylaw04_LexReads_j5 J v4 v9 st =
 (.thn st (sLen .slice v4 st) fun p1 =>
 refinerylaw04_LexReads_l1 J v9 v4 p1.1 (.int .i64 0) p1.2) := gq hJ (by kernel_rfl)
theorem refinerylaw04_LexReads_l1_eq (K : Ctx) (J : JT (Value × St)) (v9 v92 v93 v94 : Value) (st : St) : inX K J (retK refinerylaw04_LexReads_c.results) refinerylaw04_LexReads_c.body [1, 1, 1, 1, 1, 1, 1, 1, 1, 1, 1, 1, 0, 1, 0, 1] (envT [(9, v9), (92, v92), (93, v93), (94, v94)]) st =
 (.thn st (sBin .lss v94 v93 st) fun p1 =>
 condX p1.1
 (refinerylaw04_LexReads_j6 J v9 v92 v93 v94 p1.2)
 (refinerylaw04_LexReads_j7 J p1.2)) := by kernel_rfl
theorem refinerylaw04_LexReads_l1_of (hF : Fix pgF K) (hJ : IsJ K (retK refinerylaw04_LexReads_c.results) J) {v9 v92 v93 v94 : Value} (h : Ok (inX K J (retK refinerylaw04_LexReads_c.results) refinerylaw04_LexReads_c.body [1, 1, 1, 1, 1, 1, 1, 1, 1, 1, 1, 1, 0, 1, 0, 1] (envT [(9, v9), (92, v92), (93, v93), (94, v94)]) st) Q) : Ok (refinerylaw04_LexReads_l1 J v9 v92 v93 v94 st) Q := loop_of hF hJ h
theorem refinerylaw04_LexReads_j6_eq (hJ : IsJ K (retK refinerylaw04_LexReads_c.results) J) (v9 v92 v93 v94 : Value) (st : St) : refinerylaw04_LexReads_j6 J v9 v92 v93 v94 st =
 (.thn st (sIxA 4 none v92 v94 st) fun p1 =>
 .thn p1.2 (sLoad (some 4) p1.1 p1.2) fun p2 =>
 .thn p2.2 (sLnew [(.int .u8 0), (.int .i64 0), (.string (bstr [])), (.int .i64 0)] p2.2) fun p3 =>
 .thn p3.2 (sUpd 4 0 p3.1 p2.1 p3.2) fun p4 =>
 .thn p4.2 (sIxA 4 none v9 v94 p4.2) fun p5 =>
 .thn p5.2 (sLoad (some 4) p5.1 p5.2) fun p6 =>
 .thn p6.2 (sField (some 4) 0 p4.1 p6.2) fun p7 =>
 .thn p7.2 (sEq true (.fields [(0, .int), (1, .int), (2, .str), (3, .int)]) p6.1 p7.1 p7.2) fun p8 =>
 condX p8.1
 (.ok ((.bool false), p8.2))
 (refinerylaw04_LexReads_j8 J v9 v92 v93 v94 p8.2)) := gq hJ (by kernel_rfl)
theorem refinerylaw04_LexReads_j7_eq (hJ : IsJ K (retK refinerylaw04_LexReads_c.results) J) (st : St) : refinerylaw04_LexReads_j7 J st =
 (.ok ((.bool true), st)) := gq hJ (by kernel_rfl)
theorem refinerylaw04_LexReads_j8_eq (hJ : IsJ K (retK refinerylaw04_LexReads_c.results) J) (v9 v92 v93 v94 : Value) (st : St) : refinerylaw04_LexReads_j8 J v9 v92 v93 v94 st =
 (.thn st (sBin .add v94 (.int .i64 1) st) fun p1 =>
 refinerylaw04_LexReads_l1 J v9 v92 v93 p1.1 p1.2) := gq hJ (by kernel_rfl)
end
end Go.Proofs.YtefdkodjpcabmaaDoor.Sh
