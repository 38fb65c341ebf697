/-
 The functions of the program, operation by operation, as the abstract machine has them.
-/
import Derived.Test.YtefdkodjpcabmaaDoorProg
import Derived.Test.YtefdkodjpcabmaaDoorShN
set_option linter.unusedVariables false
set_option maxRecDepth 100000
namespace Go.Proofs.YtefdkodjpcabmaaDoor.Sh
open Go Go.AM Go.Proofs
noncomputable section
variable {K : Ctx} {J : JT (Value × St)} {st : St} {Q : Value × St → Prop}
open C in
def refinerylaw04_LexStops_c : AFun := ⟨2, [.cell 4 none],
 (s (.ops [o 3 (.box (t 1)), o 4 (.new [(.bool false)])])
 (s (s (.ops [o 19 (.call (f 14) []), o 20 (.un .not (t 19))])
 (.cond (t 20) (s (.ops [n (.store 1 (t 4) (c (.bool false)))])
 .ret) .skip))
 (s (.keep [0, 3, 4, 14, 15])
 (s (s (.ops [o 21 (.mv (t 0)), o 22 (.len .slice (t 21)), o 23 (.bin .gtr (t 22) (c (i 40)))])
 (.cond (t 23) (s (.ops [n (.store 1 (t 4) (c (.bool true)))])
 .ret) .skip))
 (s (.keep [0, 3, 4, 14, 15])
 (s (.ops [o 5 (.mv (c (.string (bstr []))))])
 (s (s (.ops [o 24 (.mv (t 0)), o 25 (.len .slice (t 24)), o 26 (.mv (c (i 0)))])
 (.block 0 (s (.keep [3, 4, 5, 14, 15, 24, 25, 26])
 (.loop (s (s (.ops [o 27 (.bin .lss (t 26) (t 25))])
 (s (.cond (t 27) .skip (.exit 0))
 (s (.keep [3, 4, 5, 14, 15, 24, 25, 26])
 (s (.block 1 (s (.ops [o 28 (.ixA 3 none (t 24) (t 26)), o 29 (.load (some 3) (t 28)), o 7 (.lnew [(u 0), (u 0), (i 0)]), o 7 (.upd 3 0 (t 7) (t 29))])
 (s (.ops [o 31 (.field (some 3) 0 (t 7)), o 32 (.call (f 15) [(t 31)]), o 30 (.mv (t 32)), o 33 (.extract (t 30) 0), o 34 (.extract (t 30) 1), o 9 (.lnew [(u 0), (i 0), (.string (bstr [])), (i 0)]), o 8 (.mv (t 33)), o 9 (.upd 4 0 (t 9) (t 34))])
 (.ops [o 35 (.mv (t 5)), o 36 (.mv (t 8)), o 37 (.bin .add (t 36) (c (.string (bstr [32])))), o 38 (.bin .add (t 35) (t 37)), o 5 (.mv (t 38))]))))
 (s (.keep [3, 4, 5, 14, 15, 24, 25, 26])
 (.ops [o 39 (.bin .add (t 26) (c (i 1))), o 26 (.mv (t 39))]))))))
 (.keep [3, 4, 5, 14, 15, 24, 25, 26]))))))
 (s (.keep [3, 4, 5, 14, 15])
 (s (.ops [o 41 (.mv (t 5)), o 42 (.call (f 16) [(t 41)]), o 40 (.mv (t 42)), o 43 (.extract (t 40) 0), o 44 (.extract (t 40) 1), o 45 (.extract (t 40) 2), o 10 (.new [(.slice none 0 0)]), n (.store 1 (t 10) (t 43)), o 11 (.mv (t 44)), o 12 (.mv (t 45))])
 (s (.ops [o 13 (.new [(i 0)]), n (.store 1 (t 13) (c (i 0)))])
 (s (s (.ops [o 46 (.mv (t 5)), o 47 (.call (f 17) [(t 46)])])
 (.block 2 (s (.keep [3, 4, 10, 12, 13, 14, 15, 47])
 (.range (t 47) [48, 49] (s (.ops [o 14 (.lnew [(u 0), (i 0), (.string (bstr [])), (i 0)]), o 14 (.upd 4 0 (t 14) (t 48))])
 (.ops [o 15 (.mv (t 49))])) (s (.keep [3, 4, 10, 12, 13, 14, 15])
 (.block 3 (s (s (.draw [d 0 0 false (o 50 (.mv (t 15))), d 1 0 false (o 51 (.bin .neq (t 50) (c (i 0)))), d 2 0 false (o 52 (.mv (t 51))), d 3 0 false (g 53 false 52 (.field (some 4) 0 (t 14))), d 4 0 false (g 54 false 52 (.load none (t 10))), d 5 0 false (g 55 false 52 (.load none (t 13))), d 6 0 false (g 56 false 52 (.ixA 4 none (t 54) (t 55))), d 7 0 false (g 57 false 52 (.load (some 4) (t 56))), d 8 0 false (g 58 false 52 (.eq true (.fields [(0, .int), (1, .int), (2, .str), (3, .int)]) (t 53) (t 57))), d 9 0 false (o 59 (.pick (t 52) (c (.bool true)) (t 58)))])
 (.cond (t 59) (s (.ops [n (.store 1 (t 4) (c (.bool false)))])
 .ret) .skip))
 (s (.keep [3, 4, 10, 12, 13])
 (s (.ops [o 60 (.load none (t 13)), o 61 (.bin .add (t 60) (c (i 1))), n (.store 1 (t 13) (t 61))])
 (s (.ops [o 62 (.load none (t 13)), o 63 (.load none (t 3)), o 64 (.bin .rem (t 63) (c (u 20))), o 65 (.conv (.int .i64) (t 64)), o 66 (.bin .gtr (t 62) (t 65))])
 (.cond (t 66) (.exit 2) .skip)))))))))))
 (s (.keep [3, 4, 10, 12, 13])
 (s (.ops [o 68 (.mkSlice 1 1 [(u 0)] (c (i 100001)) (c (i 100001))), o 69 (.conv .strOfBytes (t 68)), o 70 (.call (f 16) [(t 69)]), o 67 (.mv (t 70)), o 71 (.extract (t 67) 0), o 72 (.extract (t 67) 1), o 73 (.extract (t 67) 2), o 16 (.mv (t 71)), o 17 (.mv (t 72)), o 18 (.mv (t 73))])
 (s (.ops [o 74 (.mv (t 12)), o 75 (.bin .eql (t 74) (c (i 0))), o 76 (.mv (t 75)), g 77 true 76 (.load none (t 13)), g 78 true 76 (.load none (t 10)), g 79 true 76 (.len .slice (t 78)), g 80 true 76 (.load none (t 3)), g 81 true 76 (.bin .rem (t 80) (c (u 20))), g 82 true 76 (.conv (.int .i64) (t 81)), g 83 true 76 (.bin .add (c (i 1)) (t 82)), g 84 true 76 (.minmax false (t 79) [(t 83)]), g 85 true 76 (.bin .eql (t 77) (t 84)), o 86 (.pick (t 76) (t 85) (c (.bool false))), o 87 (.mv (t 86)), g 88 true 87 (.mv (t 18)), g 89 true 87 (.bin .eql (t 88) (c (i 3))), o 90 (.pick (t 87) (t 89) (c (.bool false))), o 91 (.mv (t 90)), g 92 true 91 (.mv (t 17)), g 93 true 91 (.bin .eql (t 92) (c (i 100000))), o 94 (.pick (t 91) (t 93) (c (.bool false))), n (.store 1 (t 4) (t 94))])
 .ret))))))))))))))⟩
theorem refinerylaw04_LexStops_is : pgF n_refinerylaw04_LexStops = some refinerylaw04_LexStops_c := by kernel_rfl
def refinerylaw04_LexStops_j0 (J : JT (Value × St)) (v0 v3 v4 v14 v15 : Value) (st : St) := goX J refinerylaw04_LexStops_c.body [1, 1, 1] (envT [(0, v0), (3, v3), (4, v4), (14, v14), (15, v15)]) st
def refinerylaw04_LexStops_j1 (J : JT (Value × St)) (v0 v3 v4 v14 v15 : Value) (st : St) := goX J refinerylaw04_LexStops_c.body [1, 1, 1, 1, 1] (envT [(0, v0), (3, v3), (4, v4), (14, v14), (15, v15)]) st
def refinerylaw04_LexStops_l0 (J : JT (Value × St)) (v3 v4 v5 v14 v15 v24 v25 v26 : Value) (st : St) := lpX J refinerylaw04_LexStops_c.body [1, 1, 1, 1, 1, 1, 0, 1, 0, 1] (envT [(3, v3), (4, v4), (5, v5), (14, v14), (15, v15), (24, v24), (25, v25), (26, v26)]) st
def refinerylaw04_LexStops_j2 (J : JT (Value × St)) (v3 v4 v5 v14 v15 v24 v25 v26 : Value) (st : St) := goX J refinerylaw04_LexStops_c.body [1, 1, 1, 1, 1, 1, 0, 1, 0, 1, 0, 0, 1, 1, 1] (envT [(3, v3), (4, v4), (5, v5), (14, v14), (15, v15), (24, v24), (25, v25), (26, v26)]) st
def refinerylaw04_LexStops_j3 (J : JT (Value × St)) (v3 v4 v5 v14 v15 : Value) (st : St) := goX J refinerylaw04_LexStops_c.body [1, 1, 1, 1, 1, 1, 1, 1] (envT [(3, v3), (4, v4), (5, v5), (14, v14), (15, v15)]) st
def refinerylaw04_LexStops_j4 (J : JT (Value × St)) (v3 v4 v5 v14 v15 v24 v25 v26 : Value) (st : St) := goX J refinerylaw04_LexStops_c.body [1, 1, 1, 1, 1, 1, 0, 1, 0, 1, 0, 0, 1, 1, 1, 1, 1] (envT [(3, v3), (4, v4), (5, v5), (14, v14), (15, v15), (24, v24), (25, v25), (26, v26)]) st
def refinerylaw04_LexStops_j5 (J : JT (Value × St)) (v3 v4 v10 v12 v13 v14 v15 v47 : Value) (st : St) := goX J refinerylaw04_LexStops_c.body [1, 1, 1, 1, 1, 1, 1, 1, 1, 1, 0, 1, 0, 1] (envT [(3, v3), (4, v4), (10, v10), (12, v12), (13, v13), (14, v14), (15, v15), (47, v47)]) st
def refinerylaw04_LexStops_x0 (K : Ctx) (J : JT (Value × St)) (x : AExit) (v3 v4 v10 v12 v13 v14 v15 v47 : Value) (st : St) : Res (Value × St) := kJ K J (retK refinerylaw04_LexStops_c.results) (posK refinerylaw04_LexStops_c.body [1, 1, 1, 1, 1, 1, 1, 1, 1, 1, 0, 1, 0, 1] []) x (envT [(3, v3), (4, v4), (10, v10), (12, v12), (13, v13), (14, v14), (15, v15), (47, v47)]) st
def refinerylaw04_LexStops_j6 (J : JT (Value × St)) (v3 v4 v10 v12 v13 : Value) (st : St) := goX J refinerylaw04_LexStops_c.body [1, 1, 1, 1, 1, 1, 1, 1, 1, 1, 1, 1] (envT [(3, v3), (4, v4), (10, v10), (12, v12), (13, v13)]) st
def refinerylaw04_LexStops_jr111111111101011_0 (J : JT (AExit × St)) (v3 v4 v10 v12 v13 v14 v15 : Value) (st : St) : Res (AExit × St) := goX J (posC refinerylaw04_LexStops_c.body [1, 1, 1, 1, 1, 1, 1, 1, 1, 1, 0, 1, 0, 1, 1]) [1] (envT [(3, v3), (4, v4), (10, v10), (12, v12), (13, v13), (14, v14), (15, v15)]) st
def refinerylaw04_LexStops_jr111111111101011_1 (J : JT (AExit × St)) (v3 v4 v10 v12 v13 : Value) (st : St) : Res (AExit × St) := goX J (posC refinerylaw04_LexStops_c.body [1, 1, 1, 1, 1, 1, 1, 1, 1, 1, 0, 1, 0, 1, 1]) [1, 0, 1, 1] (envT [(3, v3), (4, v4), (10, v10), (12, v12), (13, v13)]) st
theorem refinerylaw04_LexStops_eq (K : Ctx) (J : JT (Value × St)) (a0 a1 : Value) (st : St) : atX K J refinerylaw04_LexStops_c (AM.start [a0, a1]) st =
 (.thn st (sBox a1 st) fun p1 =>
 .thn p1.2 (sNew [(.bool false)] p1.2) fun p2 =>
 .thn p2.2 (K.go (.call n_refinerylaw04_Awake []) p2.2) fun p3 =>
 .thn p3.2 (sUn .not p3.1 p3.2) fun p4 =>
 condX p4.1
 (.thn p4.2 (sStore 1 p2.1 (.bool false) p4.2) fun p5 =>
 (sLoad none p2.1 p5.2 >>= fun p6 => .ok [p6.1]) >>= fun vs => .ok (oneOf vs, p5.2))
 (refinerylaw04_LexStops_j0 J a0 p1.1 p2.1 nothing nothing p4.2)) := by kernel_rfl
theorem refinerylaw04_LexStops_of : Of2 n_refinerylaw04_LexStops refinerylaw04_LexStops_c := fun hF => call_of hF refinerylaw04_LexStops_is rfl
theorem refinerylaw04_LexStops_j0_eq (hJ : IsJ K (retK refinerylaw04_LexStops_c.results) J) (v0 v3 v4 v14 v15 : Value) (st : St) : refinerylaw04_LexStops_j0 J v0 v3 v4 v14 v15 st =
 (.thn st (sLen .slice v0 st) fun p1 =>
 .thn p1.2 (sBin .gtr p1.1 (.int .i64 40) p1.2) fun p2 =>
 condX p2.1
 (.thn p2.2 (sStore 1 v4 (.bool true) p2.2) fun p3 =>
 (sLoad none v4 p3.2 >>= fun p4 => .ok [p4.1]) >>= fun vs => .ok (oneOf vs, p3.2))
 (refinerylaw04_LexStops_j1 J v0 v3 v4 v14 v15 p2.2)) := gq hJ (by kernel_rfl)
theorem refinerylaw04_LexStops_j1_eq (hJ : IsJ K (retK refinerylaw04_LexStops_c.results) J) (v0 v3 v4 v14 v15 : Value) (st : St) : refinerylaw04_LexStops_j1 J v0 v3 v4 v14 v15 st =
 (.thn st (sLen .slice v0 st) fun p1 =>
 refinerylaw04_LexStops_l0 J v3 v4 (.string (bstr [])) v14 v15 v0 p1.1 (.int .i64 0) p1.2) := gq hJ (by kernel_rfl)
theorem refinerylaw04_LexStops_l0_eq (K : Ctx) (J : JT (Value × St)) (v3 v4 v5 v14 v15 v24 v25 v26 : Value) (st : St) : inX K J (retK refinerylaw04_LexStops_c.results) refinerylaw04_LexStops_c.body [1, 1, 1, 1, 1, 1, 0, 1, 0, 1] (envT [(3, v3), (4, v4), (5, v5), (14, v14), (15, v15), (24, v24), (25, v25), (26, v26)]) st =
 (.thn st (sBin .lss v26 v25 st) fun p1 =>
 condX p1.1
 (refinerylaw04_LexStops_j2 J v3 v4 v5 v14 v15 v24 v25 v26 p1.2)
 (refinerylaw04_LexStops_j3 J v3 v4 v5 v14 v15 p1.2)) := by kernel_rfl
theorem refinerylaw04_LexStops_l0_of (hF : Fix pgF K) (hJ : IsJ K (retK refinerylaw04_LexStops_c.results) J) {v3 v4 v5 v14 v15 v24 v25 v26 : Value} (h : Ok (inX K J (retK refinerylaw04_LexStops_c.results) refinerylaw04_LexStops_c.body [1, 1, 1, 1, 1, 1, 0, 1, 0, 1] (envT [(3, v3), (4, v4), (5, v5), (14, v14), (15, v15), (24, v24), (25, v25), (26, v26)]) st) Q) : Ok (refinerylaw04_LexStops_l0 J v3 v4 v5 v14 v15 v24 v25 v26 st) Q := loop_of hF hJ h
theorem refinerylaw04_LexStops_j2_eq (hJ : IsJ K (retK refinerylaw04_LexStops_c.results) J) (v3 v4 v5 v14 v15 v24 v25 v26 : Value) (st : St) : refinerylaw04_LexStops_j2 J v3 v4 v5 v14 v15 v24 v25 v26 st =
 (.thn st (sIxA 3 none v24 v26 st) fun p1 =>
 .thn p1.2 (sLoad (some 3) p1.1 p1.2) fun p2 =>
 .thn p2.2 (sLnew [(.int .u8 0), (.int .u8 0), (.int .i64 0)] p2.2) fun p3 =>
 .thn p3.2 (sUpd 3 0 p3.1 p2.1 p3.2) fun p4 =>
 .thn p4.2 (sField (some 3) 0 p4.1 p4.2) fun p5 =>
 .thn p5.2 (K.go (.call n_refinerylaw04_Piece_Token [p5.1]) p5.2) fun p6 =>
 .thn p6.2 (sExtract p6.1 0 p6.2) fun p7 =>
 .thn p7.2 (sExtract p6.1 1 p7.2) fun p8 =>
 .thn p8.2 (sLnew [(.int .u8 0), (.int .i64 0), (.string (bstr [])), (.int .i64 0)] p8.2) fun p9 =>
 .thn p9.2 (sUpd 4 0 p9.1 p8.1 p9.2) fun p10 =>
 .thn p10.2 (sBin .add p7.1 (.string (bstr [32])) p10.2) fun p11 =>
 .thn p11.2 (sBin .add v5 p11.1 p11.2) fun p12 =>
 refinerylaw04_LexStops_j4 J v3 v4 p12.1 v14 v15 v24 v25 v26 p12.2) := gq hJ (by kernel_rfl)
theorem refinerylaw04_LexStops_j3_eq (hJ : IsJ K (retK refinerylaw04_LexStops_c.results) J) (v3 v4 v5 v14 v15 : Value) (st : St) : refinerylaw04_LexStops_j3 J v3 v4 v5 v14 v15 st =
 (.thn st (K.go (.call n_lex_Split [v5]) st) fun p1 =>
 .thn p1.2 (sExtract p1.1 0 p1.2) fun p2 =>
 .thn p2.2 (sExtract p1.1 1 p2.2) fun p3 =>
 .thn p3.2 (sExtract p1.1 2 p3.2) fun p4 =>
 .thn p4.2 (sNew [(.slice none 0 0)] p4.2) fun p5 =>
 .thn p5.2 (sStore 1 p5.1 p2.1 p5.2) fun p6 =>
 .thn p6.2 (sNew [(.int .i64 0)] p6.2) fun p7 =>
 .thn p7.2 (sStore 1 p7.1 (.int .i64 0) p7.2) fun p8 =>
 .thn p8.2 (K.go (.call n_lex_Tokens [v5]) p8.2) fun p9 =>
 refinerylaw04_LexStops_j5 J v3 v4 p5.1 p4.1 p7.1 v14 v15 p9.1 p9.2) := gq hJ (by kernel_rfl)
theorem refinerylaw04_LexStops_j4_eq (hJ : IsJ K (retK refinerylaw04_LexStops_c.results) J) (v3 v4 v5 v14 v15 v24 v25 v26 : Value) (st : St) : refinerylaw04_LexStops_j4 J v3 v4 v5 v14 v15 v24 v25 v26 st =
 (.thn st (sBin .add v26 (.int .i64 1) st) fun p1 =>
 refinerylaw04_LexStops_l0 J v3 v4 v5 v14 v15 v24 v25 p1.1 p1.2) := gq hJ (by kernel_rfl)
theorem refinerylaw04_LexStops_j5_eq (hJ : IsJ K (retK refinerylaw04_LexStops_c.results) J) (v3 v4 v10 v12 v13 v14 v15 v47 : Value) (st : St) : refinerylaw04_LexStops_j5 J v3 v4 v10 v12 v13 v14 v15 v47 st =
 (sRange K v47 st (.loop (envT [(3, v3), (4, v4), (10, v10), (12, v12), (13, v13), (14, v14), (15, v15), (47, v47)]) [48, 49] (posC refinerylaw04_LexStops_c.body [1, 1, 1, 1, 1, 1, 1, 1, 1, 1, 0, 1, 0, 1, 0]) (posC refinerylaw04_LexStops_c.body [1, 1, 1, 1, 1, 1, 1, 1, 1, 1, 0, 1, 0, 1, 1]) .ready .normal) (fun x s => refinerylaw04_LexStops_x0 K J x v3 v4 v10 v12 v13 v14 v15 v47 s)) := gq hJ (by kernel_rfl)
theorem refinerylaw04_LexStops_x0_n (K : Ctx) (J : JT (Value × St)) (v3 v4 v10 v12 v13 v14 v15 v47 : Value) (st : St) : refinerylaw04_LexStops_x0 K J .normal v3 v4 v10 v12 v13 v14 v15 v47 st =
 (refinerylaw04_LexStops_j6 J v3 v4 v10 v12 v13 st) := by kernel_rfl
theorem refinerylaw04_LexStops_x0_e2 (K : Ctx) (J : JT (Value × St)) (v3 v4 v10 v12 v13 v14 v15 v47 : Value) (st : St) : refinerylaw04_LexStops_x0 K J (.exit 2) v3 v4 v10 v12 v13 v14 v15 v47 st =
 (refinerylaw04_LexStops_j6 J v3 v4 v10 v12 v13 st) := by kernel_rfl
theorem refinerylaw04_LexStops_j6_eq (hJ : IsJ K (retK refinerylaw04_LexStops_c.results) J) (v3 v4 v10 v12 v13 : Value) (st : St) : refinerylaw04_LexStops_j6 J v3 v4 v10 v12 v13 st =
 (.thn st (sMkSlice 1 1 [(.int .u8 0)] (.int .i64 100001) (.int .i64 100001) st) fun p1 =>
 .thn p1.2 (sConv .strOfBytes p1.1 p1.2) fun p2 =>
 .thn p2.2 (K.go (.call n_lex_Split [p2.1]) p2.2) fun p3 =>
 .thn p3.2 (sExtract p3.1 0 p3.2) fun p4 =>
 .thn p4.2 (sExtract p3.1 1 p4.2) fun p5 =>
 .thn p5.2 (sExtract p3.1 2 p5.2) fun p6 =>
 .thn p6.2 (sBin .eql v12 (.int .i64 0) p6.2) fun p7 =>
 .thn p7.2 (sG p7.1 true (sLoad none v13 p7.2) p7.2) fun p8 =>
 .thn p8.2 (sG p7.1 true (sLoad none v10 p8.2) p8.2) fun p9 =>
 .thn p9.2 (sG p7.1 true (sLen .slice p9.1 p9.2) p9.2) fun p10 =>
 .thn p10.2 (sG p7.1 true (sLoad none v3 p10.2) p10.2) fun p11 =>
 .thn p11.2 (sG p7.1 true (sBin .rem p11.1 (.int .u8 20) p11.2) p11.2) fun p12 =>
 .thn p12.2 (sG p7.1 true (sConv (.int .i64) p12.1 p12.2) p12.2) fun p13 =>
 .thn p13.2 (sG p7.1 true (sBin .add (.int .i64 1) p13.1 p13.2) p13.2) fun p14 =>
 .thn p14.2 (sG p7.1 true (sMinmax false p10.1 [p14.1] p14.2) p14.2) fun p15 =>
 .thn p15.2 (sG p7.1 true (sBin .eql p8.1 p15.1 p15.2) p15.2) fun p16 =>
 .thn p16.2 (sPick p7.1 p16.1 (.bool false) p16.2) fun p17 =>
 .thn p17.2 (sG p17.1 true (.ok (p6.1, p17.2)) p17.2) fun p18 =>
 .thn p18.2 (sG p17.1 true (sBin .eql p18.1 (.int .i64 3) p18.2) p18.2) fun p19 =>
 .thn p19.2 (sPick p17.1 p19.1 (.bool false) p19.2) fun p20 =>
 .thn p20.2 (sG p20.1 true (.ok (p5.1, p20.2)) p20.2) fun p21 =>
 .thn p21.2 (sG p20.1 true (sBin .eql p21.1 (.int .i64 100000) p21.2) p21.2) fun p22 =>
 .thn p22.2 (sPick p20.1 p22.1 (.bool false) p22.2) fun p23 =>
 .thn p23.2 (sStore 1 v4 p23.1 p23.2) fun p24 =>
 (sLoad none v4 p24.2 >>= fun p25 => .ok [p25.1]) >>= fun vs => .ok (oneOf vs, p24.2)) := gq hJ (by kernel_rfl)
theorem refinerylaw04_LexStops_jr111111111101011_0_eq {K : Ctx} {J : JT (AExit × St)} (hJ : IsJ K rawK J) (v3 v4 v10 v12 v13 v14 v15 : Value) (st : St) : refinerylaw04_LexStops_jr111111111101011_0 J v3 v4 v10 v12 v13 v14 v15 st =
 (.thn st (sBin .neq v15 (.int .i64 0) st) fun p1 =>
 .thn p1.2 (sGo p1.1 false (sField (some 4) 0 v14 p1.2) p1.2) fun p2 =>
 .thn p2.2 (sGo p1.1 false (sLoad none v10 p2.2) p2.2) fun p4 =>
 .thn p4.2 (sGo p1.1 false (sLoad none v13 p4.2) p4.2) fun p6 =>
 .thn p6.2 (sGo p1.1 false (sIxA 4 none p4.1 p6.1 p6.2) p6.2) fun p8 =>
 .thn p8.2 (sGo p1.1 false (sLoad (some 4) p8.1 p8.2) p8.2) fun p10 =>
 .thn p10.2 (sGo p1.1 false (sEq true (.fields [(0, .int), (1, .int), (2, .str), (3, .int)]) p2.1 p10.1 p10.2) p10.2) fun p12 =>
 .thn p12.2 (sPick p1.1 (.bool true) p12.1 p12.2) fun p14 =>
 condX p14.1
 (.thn p14.2 (sStore 1 v4 (.bool false) p14.2) fun p15 =>
 .ok (.ret, p15.2))
 (refinerylaw04_LexStops_jr111111111101011_1 J v3 v4 v10 v12 v13 p14.2)) := gq hJ (by kernel_rfl)
theorem refinerylaw04_LexStops_jr111111111101011_1_eq {K : Ctx} {J : JT (AExit × St)} (hJ : IsJ K rawK J) (v3 v4 v10 v12 v13 : Value) (st : St) : refinerylaw04_LexStops_jr111111111101011_1 J v3 v4 v10 v12 v13 st =
 (.thn st (sLoad none v13 st) fun p1 =>
 .thn p1.2 (sBin .add p1.1 (.int .i64 1) p1.2) fun p2 =>
 .thn p2.2 (sStore 1 v13 p2.1 p2.2) fun p3 =>
 .thn p3.2 (sLoad none v13 p3.2) fun p4 =>
 .thn p4.2 (sLoad none v3 p4.2) fun p5 =>
 .thn p5.2 (sBin .rem p5.1 (.int .u8 20) p5.2) fun p6 =>
 .thn p6.2 (sConv (.int .i64) p6.1 p6.2) fun p7 =>
 .thn p7.2 (sBin .gtr p4.1 p7.1 p7.2) fun p8 =>
 condX p8.1
 (.ok ((.exit 2), p8.2))
 (.ok (.normal, p8.2))) := gq hJ (by kernel_rfl)
end
end Go.Proofs.YtefdkodjpcabmaaDoor.Sh
