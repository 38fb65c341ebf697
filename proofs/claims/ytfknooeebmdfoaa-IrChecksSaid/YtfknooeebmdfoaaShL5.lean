/-
  The functions of the program, operation by operation, as the abstract machine has them.
-/
import Derived.Test.YtfknooeebmdfoaaProg
import Derived.Test.YtfknooeebmdfoaaShN
set_option linter.unusedVariables false
set_option maxRecDepth 100000
namespace Go.Proofs.Ytfknooeebmdfoaa.Sh
open Go Go.AM Go.Proofs

/-! ### refinery/refinerylaw03.IrChecks -/
open C in
noncomputable def refinerylaw03_IrChecks_c : AFun := ⟨3, [.tmp 6],
 (s (.ops [o 3 (.lbox (t 0)), o 5 (.box (t 2)), o 6 (.mv (c (.bool false)))])
 (s (s (.ops [o 12 (.call (f 13) []), o 13 (.un .not (t 12))])
 (.cond (t 13) (s (.ops [o 6 (.mv (c (.bool false)))])
 .ret) .skip))
 (s (.keep [1, 3, 5])
 (s (s (.ops [o 14 (.field (some 3) 0 (t 3)), o 15 (.call (f 14) [(t 14)]), o 16 (.un .not (t 15))])
 (.cond (t 16) (s (.ops [o 6 (.mv (c (.bool true)))])
 .ret) .skip))
 (s (.keep [1, 3, 5])
 (s (.ops [o 17 (.field (some 3) 0 (t 3)), o 18 (.call (f 15) [(t 17)]), o 7 (.lnew [(.slice none 0 0)]), o 7 (.upd 1 0 (t 7) (t 18))])
 (s (.ops [o 19 (.lref (t 7)), o 20 (.field none 0 (t 7)), o 21 (.lref (t 7)), o 22 (.field none 0 (t 7)), o 23 (.len .slice (t 22)), o 24 (.bin .sub (t 23) (c (i 1))), o 25 (.ixA 7 none (t 20) (t 24)), o 8 (.new [(.pointer none)]), n (.store 1 (t 8) (t 25))])
 (s (.ops [o 26 (.fn 16 [] [(t 5)]), o 9 (.mv (t 26))])
 (s (.ops [o 10 (.mv (c (i 0)))])
 (s (.ops [o 27 (.fn 17 [] [(t 8)]), o 11 (.mv (t 27))])
 (s (s (.ops [o 28 (.mv (t 1)), o 29 (.bin .rem (t 28) (c (u 14)))])
 (.block 0 (s (.ops [o 46 (.bin .eql (t 29) (c (u 0))), o 45 (.mv (t 46))])
 (.cond (t 45) (.ops [o 47 (.mkSlice 7 88 [(i 0), (.slice none 0 0), (.slice none 0 0), (u 0), (i 0), (i 0), (i 0)] (c (i 401)) (c (i 401))), o 48 (.lref (t 7)), o 7 (.upd 1 0 (t 7) (t 47)), o 10 (.mv (c (i 7)))]) (s (.ops [o 50 (.bin .eql (t 29) (c (u 1))), o 49 (.mv (t 50))])
 (.cond (t 49) (.draw [d 0 0 false (o 51 (.load none (t 8))), d 1 0 false (o 52 (.mkSlice 7 48 [(u 0), (u 0), (i 0), (i 0), (i 0), (i 0), (i 0)] (c (i 4000)) (c (i 4000)))), d 2 0 false (o 53 (.nilc (t 51))), d 3 0 false (o 54 (.off 2 (t 53))), d 4 0 true (n (.store 1 (t 54) (t 52))), d 5 0 false (o 10 (.mv (c (i 3))))]) (s (.ops [o 56 (.bin .eql (t 29) (c (u 2))), o 55 (.mv (t 56))])
 (.cond (t 55) (s (s (.ops [o 57 (.mv (t 9)), o 58 (.call (t 57) [(c (i 0)), (c (i 99999))]), o 10 (.mv (t 58))])
 (s (.ops [o 59 (.mv (t 10)), o 60 (.bin .eql (t 59) (c (i 0)))])
 (.cond (t 60) (s (.ops [o 6 (.mv (c (.bool true)))])
 .ret) .skip)))
 (s (.keep [5, 7, 8, 10])
 (.ops [o 61 (.load none (t 8)), o 62 (.load none (t 5)), o 63 (.nilc (t 61)), o 64 (.off 0 (t 63)), n (.store 1 (t 64) (t 62))]))) (s (.ops [o 66 (.bin .eql (t 29) (c (u 3))), o 65 (.mv (t 66))])
 (.cond (t 65) (.draw [d 0 0 false (o 67 (.lref (t 7))), d 1 0 false (o 68 (.field none 0 (t 7))), d 2 0 false (o 69 (.load none (t 8))), d 3 0 false (o 70 (.nilc (t 69))), d 4 0 false (o 71 (.load (some 7) (t 70))), d 5 0 false (o 72 (.lit 7 1 [(i 0), (.slice none 0 0), (.slice none 0 0), (u 0), (i 0), (i 0), (i 0)] [(0, 7, (t 71))])), d 6 0 true (o 73 (.append 7 88 (t 68) (t 72))), d 7 0 false (o 74 (.lref (t 7))), d 8 0 true (o 7 (.upd 1 0 (t 7) (t 73))), d 9 0 false (o 10 (.mv (c (i 8))))]) (s (.ops [o 76 (.bin .eql (t 29) (c (u 4))), o 75 (.mv (t 76))])
 (.cond (t 75) (s (.ops [o 77 (.mv (t 11)), o 78 (.load none (t 5)), o 79 (.build [(u 0), (u 0), (i 0), (i 0), (i 0), (i 0), (i 0)] [(2, 1, (t 78))]), o 80 (.call (t 77) [(t 79)])])
 (.ops [o 81 (.mv (t 9)), o 82 (.call (t 81) [(c (i 0)), (c (i 99999))]), o 10 (.mv (t 82))])) (s (.ops [o 84 (.bin .eql (t 29) (c (u 5))), o 83 (.mv (t 84))])
 (.cond (t 83) (s (.ops [o 85 (.mv (t 11)), o 86 (.load none (t 5)), o 87 (.build [(u 0), (u 0), (i 0), (i 0), (i 0), (i 0), (i 0)] [(0, 1, (c (u 4))), (3, 1, (t 86))]), o 88 (.call (t 85) [(t 87)])])
 (.ops [o 89 (.mv (t 9)), o 90 (.call (t 89) [(c (i 0)), (c (i 99999))]), o 10 (.mv (t 90))])) (s (.ops [o 92 (.bin .eql (t 29) (c (u 6))), o 91 (.mv (t 92))])
 (.cond (t 91) (s (.ops [o 93 (.mv (t 11)), o 94 (.load none (t 5)), o 95 (.build [(u 0), (u 0), (i 0), (i 0), (i 0), (i 0), (i 0)] [(0, 1, (c (u 6))), (6, 1, (t 94))]), o 96 (.call (t 93) [(t 95)])])
 (.ops [o 97 (.mv (t 9)), o 98 (.call (t 97) [(c (i 0)), (c (i 15))]), o 10 (.mv (t 98))])) (s (.ops [o 100 (.bin .eql (t 29) (c (u 7))), o 99 (.mv (t 100))])
 (.cond (t 99) (s (.ops [o 101 (.mv (t 11)), o 102 (.build [(u 0), (u 0), (i 0), (i 0), (i 0), (i 0), (i 0)] [(0, 1, (c (u 9)))]), o 103 (.call (t 101) [(t 102)])])
 (.ops [o 10 (.mv (c (i 6)))])) (s (.ops [o 105 (.bin .eql (t 29) (c (u 8))), o 104 (.mv (t 105))])
 (.cond (t 104) (s (.ops [o 106 (.mv (t 11)), o 107 (.build [(u 0), (u 0), (i 0), (i 0), (i 0), (i 0), (i 0)] [(0, 1, (c (u 2))), (1, 1, (c (u 12)))]), o 108 (.call (t 106) [(t 107)])])
 (.ops [o 10 (.mv (c (i 6)))])) (s (.ops [o 110 (.bin .eql (t 29) (c (u 9))), o 109 (.mv (t 110))])
 (.cond (t 109) (s (.ops [o 111 (.mv (t 11)), o 112 (.build [(u 0), (u 0), (i 0), (i 0), (i 0), (i 0), (i 0)] [(0, 1, (c (u 3))), (3, 1, (c (i 1)))]), o 113 (.call (t 111) [(t 112)])])
 (.ops [o 10 (.mv (c (i 5)))])) (s (.ops [o 115 (.bin .eql (t 29) (c (u 10))), o 114 (.mv (t 115))])
 (.cond (t 114) (.ops [o 116 (.load none (t 8)), o 117 (.build [(u 0), (i 0), (i 0), (i 0)] [(0, 1, (c (u 4)))]), o 118 (.nilc (t 116)), o 119 (.off 3 (t 118)), n (.store 4 (t 119) (t 117)), o 10 (.mv (c (i 6)))]) (s (.ops [o 121 (.bin .eql (t 29) (c (u 11))), o 120 (.mv (t 121))])
 (.cond (t 120) (.ops [o 122 (.load none (t 8)), o 123 (.build [(u 0), (i 0), (i 0), (i 0)] [(2, 1, (c (i 77777)))]), o 124 (.nilc (t 122)), o 125 (.off 3 (t 124)), n (.store 4 (t 125) (t 123)), o 10 (.mv (c (i 9)))]) (s (.ops [o 127 (.bin .eql (t 29) (c (u 12))), o 126 (.mv (t 127))])
 (.cond (t 126) (.draw [d 0 0 false (o 128 (.load none (t 8))), d 1 0 false (o 129 (.load none (t 8))), d 2 0 false (o 130 (.nilc (t 129))), d 3 0 false (o 131 (.off 0 (t 130))), d 4 0 false (o 132 (.load none (t 131))), d 5 0 false (o 133 (.lit 1 1 [(i 0)] [(0, 1, (t 132))])), d 6 0 false (o 134 (.build [(i 0), (.slice none 0 0), (.slice none 0 0)] [(1, 1, (t 133))])), d 7 0 false (o 135 (.lit 3 1 [(i 0), (.slice none 0 0), (.slice none 0 0)] [(0, 3, (t 134))])), d 8 0 false (o 136 (.nilc (t 128))), d 9 0 false (o 137 (.off 1 (t 136))), d 10 0 true (n (.store 1 (t 137) (t 135))), d 11 0 false (o 10 (.mv (c (i 5))))]) (.draw [d 0 0 false (o 30 (.load none (t 8))), d 1 0 false (o 31 (.load none (t 8))), d 2 0 false (o 32 (.nilc (t 31))), d 3 0 false (o 33 (.off 0 (t 32))), d 4 0 false (o 34 (.load none (t 33))), d 5 0 false (o 35 (.load none (t 8))), d 6 0 false (o 36 (.nilc (t 35))), d 7 0 false (o 37 (.off 0 (t 36))), d 8 0 false (o 38 (.load none (t 37))), d 9 0 false (o 39 (.lit 1 2 [(i 0), (i 0)] [(0, 1, (t 34)), (1, 1, (t 38))])), d 10 0 false (o 40 (.lit 1 2 [(i 0), (i 0)] [(0, 1, (c (i 0))), (1, 1, (c (i 0)))])), d 11 0 false (o 41 (.build [(i 0), (.slice none 0 0), (.slice none 0 0)] [(1, 1, (t 39)), (2, 1, (t 40))])), d 12 0 false (o 42 (.lit 3 1 [(i 0), (.slice none 0 0), (.slice none 0 0)] [(0, 3, (t 41))])), d 13 0 false (o 43 (.nilc (t 30))), d 14 0 false (o 44 (.off 1 (t 43))), d 15 0 true (n (.store 1 (t 44) (t 42))), d 16 0 false (o 10 (.mv (c (i 8))))])))))))))))))))))))))))))))))
 (s (.keep [7, 10])
 (s (.ops [o 138 (.field (some 1) 0 (t 7)), o 139 (.call (f 18) [(t 138)]), o 140 (.mv (t 10)), o 141 (.bin .eql (t 139) (t 140)), o 6 (.mv (t 141))])
 .ret)))))))))))))⟩
theorem refinerylaw03_IrChecks_is : pgF n_refinerylaw03_IrChecks = some refinerylaw03_IrChecks_c := by kernel_rfl
noncomputable def refinerylaw03_IrChecks_j0 (J : JT (Value × St)) (v1 : Value) (v3 : Value) (v5 : Value) (st : St) : Res (Value × St) := goX J refinerylaw03_IrChecks_c.body [1, 1, 1] (envT [(1, v1), (3, v3), (5, v5)]) st
noncomputable def refinerylaw03_IrChecks_j1 (J : JT (Value × St)) (v1 : Value) (v3 : Value) (v5 : Value) (st : St) : Res (Value × St) := goX J refinerylaw03_IrChecks_c.body [1, 1, 1, 1, 1] (envT [(1, v1), (3, v3), (5, v5)]) st
noncomputable def refinerylaw03_IrChecks_j2 (J : JT (Value × St)) (v7 : Value) (v10 : Value) (st : St) : Res (Value × St) := goX J refinerylaw03_IrChecks_c.body [1, 1, 1, 1, 1, 1, 1, 1, 1, 1, 1, 1] (envT [(7, v7), (10, v10)]) st
noncomputable def refinerylaw03_IrChecks_j3 (J : JT (Value × St)) (v5 : Value) (v7 : Value) (v8 : Value) (v10 : Value) (st : St) : Res (Value × St) := goX J refinerylaw03_IrChecks_c.body [1, 1, 1, 1, 1, 1, 1, 1, 1, 1, 0, 1, 0, 1, 1, 1, 1, 1, 0, 1, 1] (envT [(5, v5), (7, v7), (8, v8), (10, v10)]) st
theorem refinerylaw03_IrChecks_eq (K : Ctx) (J : JT (Value × St)) (a0 a1 a2 : Value) (st : St) : atX K J refinerylaw03_IrChecks_c (AM.start [a0, a1, a2]) st =
  (.thn st (sLbox a0 st) fun p1 =>
  .thn p1.2 (sBox a2 p1.2) fun p2 =>
  .thn p2.2 (K.go (.call n_refinerylaw03_Awake []) p2.2) fun p3 =>
  .thn p3.2 (sUn .not p3.1 p3.2) fun p4 =>
  condX p4.1
  (.ok ((.bool false), p4.2))
  (refinerylaw03_IrChecks_j0 J a1 p1.1 p2.1 p4.2)) := by kernel_rfl
theorem refinerylaw03_IrChecks_of {K : Ctx} (hF : Fix pgF K) {a0 a1 a2 : Value} {st : St} {Q : Value × St → Prop} (h : ∀ J, IsJ K (retK refinerylaw03_IrChecks_c.results) J → Ok (atX K J refinerylaw03_IrChecks_c (AM.start [a0, a1, a2]) st) Q) : Ok (K.go (.call n_refinerylaw03_IrChecks [a0, a1, a2]) st) Q := call_of hF refinerylaw03_IrChecks_is rfl h
theorem refinerylaw03_IrChecks_j0_eq {K : Ctx} {J : JT (Value × St)} (hJ : IsJ K (retK refinerylaw03_IrChecks_c.results) J) (v1 : Value) (v3 : Value) (v5 : Value) (st : St) : refinerylaw03_IrChecks_j0 J v1 v3 v5 st =
  (.thn st (sField (some 3) 0 v3 st) fun p1 =>
  .thn p1.2 (K.go (.call n_refinerylaw03_Small_Light [p1.1]) p1.2) fun p2 =>
  .thn p2.2 (sUn .not p2.1 p2.2) fun p3 =>
  condX p3.1
  (.ok ((.bool true), p3.2))
  (refinerylaw03_IrChecks_j1 J v1 v3 v5 p3.2)) := (go_eq hJ _ _ _ _).trans (by kernel_rfl)
theorem refinerylaw03_IrChecks_j1_eq {K : Ctx} {J : JT (Value × St)} (hJ : IsJ K (retK refinerylaw03_IrChecks_c.results) J) (v1 : Value) (v3 : Value) (v5 : Value) (st : St) : refinerylaw03_IrChecks_j1 J v1 v3 v5 st =
  (.thn st (sField (some 3) 0 v3 st) fun p1 =>
  .thn p1.2 (K.go (.call n_refinerylaw03_Small_Program [p1.1]) p1.2) fun p2 =>
  .thn p2.2 (sLnew [(.slice none 0 0)] p2.2) fun p3 =>
  .thn p3.2 (sUpd 1 0 p3.1 p2.1 p3.2) fun p4 =>
  .thn p4.2 (sLref p4.1 p4.2) fun p5 =>
  .thn p5.2 (sField none 0 p4.1 p5.2) fun p6 =>
  .thn p6.2 (sLref p4.1 p6.2) fun p7 =>
  .thn p7.2 (sField none 0 p4.1 p7.2) fun p8 =>
  .thn p8.2 (sLen .slice p8.1 p8.2) fun p9 =>
  .thn p9.2 (sBin .sub p9.1 (.int .i64 1) p9.2) fun p10 =>
  .thn p10.2 (sIxA 7 none p6.1 p10.1 p10.2) fun p11 =>
  .thn p11.2 (sNew [(.pointer none)] p11.2) fun p12 =>
  .thn p12.2 (sStore 1 p12.1 p11.1 p12.2) fun p13 =>
  .thn p13.2 (sBin .rem v1 (.int .u8 14) p13.2) fun p14 =>
  .thn p14.2 (sBin .eql p14.1 (.int .u8 0) p14.2) fun p15 =>
  condX p15.1
  (.thn p15.2 (sMkSlice 7 88 [(.int .i64 0), (.slice none 0 0), (.slice none 0 0), (.int .u8 0), (.int .i64 0), (.int .i64 0), (.int .i64 0)] (.int .i64 401) (.int .i64 401) p15.2) fun p16 =>
  .thn p16.2 (sLref p4.1 p16.2) fun p17 =>
  .thn p17.2 (sUpd 1 0 p4.1 p16.1 p17.2) fun p18 =>
  refinerylaw03_IrChecks_j2 J p18.1 (.int .i64 7) p18.2)
  (.thn p15.2 (sBin .eql p14.1 (.int .u8 1) p15.2) fun p19 =>
  condX p19.1
  (.thn p19.2 (sLoad none p12.1 p19.2) fun p20 =>
  .thn p20.2 (sMkSlice 7 48 [(.int .u8 0), (.int .u8 0), (.int .i64 0), (.int .i64 0), (.int .i64 0), (.int .i64 0), (.int .i64 0)] (.int .i64 4000) (.int .i64 4000) p20.2) fun p21 =>
  .thn p21.2 (sNilc p20.1 p21.2) fun p22 =>
  .thn p22.2 (sOff 2 p22.1 p22.2) fun p23 =>
  .thn p23.2 (sStore 1 p23.1 p21.1 p23.2) fun p24 =>
  refinerylaw03_IrChecks_j2 J p4.1 (.int .i64 3) p24.2)
  (.thn p19.2 (sBin .eql p14.1 (.int .u8 2) p19.2) fun p25 =>
  condX p25.1
  (.thn p25.2 (sCall K (.func (.func n_refinerylaw03_IrChecks_1) #[] #[v5]) [(.int .i64 0), (.int .i64 99999)] p25.2) fun p26 =>
  .thn p26.2 (sBin .eql p26.1 (.int .i64 0) p26.2) fun p27 =>
  condX p27.1
  (.ok ((.bool true), p27.2))
  (refinerylaw03_IrChecks_j3 J v5 p4.1 p12.1 p26.1 p27.2))
  (.thn p25.2 (sBin .eql p14.1 (.int .u8 3) p25.2) fun p28 =>
  condX p28.1
  (.thn p28.2 (sLref p4.1 p28.2) fun p29 =>
  .thn p29.2 (sField none 0 p4.1 p29.2) fun p30 =>
  .thn p30.2 (sLoad none p12.1 p30.2) fun p31 =>
  .thn p31.2 (sNilc p31.1 p31.2) fun p32 =>
  .thn p32.2 (sLoad (some 7) p32.1 p32.2) fun p33 =>
  .thn p33.2 (sLit 7 1 [(.int .i64 0), (.slice none 0 0), (.slice none 0 0), (.int .u8 0), (.int .i64 0), (.int .i64 0), (.int .i64 0)] [(0, 7, p33.1)] p33.2) fun p34 =>
  .thn p34.2 (sAppend 7 88 p30.1 p34.1 p34.2) fun p35 =>
  .thn p35.2 (sLref p4.1 p35.2) fun p36 =>
  .thn p36.2 (sUpd 1 0 p4.1 p35.1 p36.2) fun p37 =>
  refinerylaw03_IrChecks_j2 J p37.1 (.int .i64 8) p37.2)
  (.thn p28.2 (sBin .eql p14.1 (.int .u8 4) p28.2) fun p38 =>
  condX p38.1
  (.thn p38.2 (sLoad none v5 p38.2) fun p39 =>
  .thn p39.2 (sBuild [(.int .u8 0), (.int .u8 0), (.int .i64 0), (.int .i64 0), (.int .i64 0), (.int .i64 0), (.int .i64 0)] [(2, 1, p39.1)] p39.2) fun p40 =>
  .thn p40.2 (sCall K (.func (.func n_refinerylaw03_IrChecks_2) #[] #[p12.1]) [p40.1] p40.2) fun p41 =>
  .thn p41.2 (sCall K (.func (.func n_refinerylaw03_IrChecks_1) #[] #[v5]) [(.int .i64 0), (.int .i64 99999)] p41.2) fun p42 =>
  refinerylaw03_IrChecks_j2 J p4.1 p42.1 p42.2)
  (.thn p38.2 (sBin .eql p14.1 (.int .u8 5) p38.2) fun p43 =>
  condX p43.1
  (.thn p43.2 (sLoad none v5 p43.2) fun p44 =>
  .thn p44.2 (sBuild [(.int .u8 0), (.int .u8 0), (.int .i64 0), (.int .i64 0), (.int .i64 0), (.int .i64 0), (.int .i64 0)] [(0, 1, (.int .u8 4)), (3, 1, p44.1)] p44.2) fun p45 =>
  .thn p45.2 (sCall K (.func (.func n_refinerylaw03_IrChecks_2) #[] #[p12.1]) [p45.1] p45.2) fun p46 =>
  .thn p46.2 (sCall K (.func (.func n_refinerylaw03_IrChecks_1) #[] #[v5]) [(.int .i64 0), (.int .i64 99999)] p46.2) fun p47 =>
  refinerylaw03_IrChecks_j2 J p4.1 p47.1 p47.2)
  (.thn p43.2 (sBin .eql p14.1 (.int .u8 6) p43.2) fun p48 =>
  condX p48.1
  (.thn p48.2 (sLoad none v5 p48.2) fun p49 =>
  .thn p49.2 (sBuild [(.int .u8 0), (.int .u8 0), (.int .i64 0), (.int .i64 0), (.int .i64 0), (.int .i64 0), (.int .i64 0)] [(0, 1, (.int .u8 6)), (6, 1, p49.1)] p49.2) fun p50 =>
  .thn p50.2 (sCall K (.func (.func n_refinerylaw03_IrChecks_2) #[] #[p12.1]) [p50.1] p50.2) fun p51 =>
  .thn p51.2 (sCall K (.func (.func n_refinerylaw03_IrChecks_1) #[] #[v5]) [(.int .i64 0), (.int .i64 15)] p51.2) fun p52 =>
  refinerylaw03_IrChecks_j2 J p4.1 p52.1 p52.2)
  (.thn p48.2 (sBin .eql p14.1 (.int .u8 7) p48.2) fun p53 =>
  condX p53.1
  (.thn p53.2 (sBuild [(.int .u8 0), (.int .u8 0), (.int .i64 0), (.int .i64 0), (.int .i64 0), (.int .i64 0), (.int .i64 0)] [(0, 1, (.int .u8 9))] p53.2) fun p54 =>
  .thn p54.2 (sCall K (.func (.func n_refinerylaw03_IrChecks_2) #[] #[p12.1]) [p54.1] p54.2) fun p55 =>
  refinerylaw03_IrChecks_j2 J p4.1 (.int .i64 6) p55.2)
  (.thn p53.2 (sBin .eql p14.1 (.int .u8 8) p53.2) fun p56 =>
  condX p56.1
  (.thn p56.2 (sBuild [(.int .u8 0), (.int .u8 0), (.int .i64 0), (.int .i64 0), (.int .i64 0), (.int .i64 0), (.int .i64 0)] [(0, 1, (.int .u8 2)), (1, 1, (.int .u8 12))] p56.2) fun p57 =>
  .thn p57.2 (sCall K (.func (.func n_refinerylaw03_IrChecks_2) #[] #[p12.1]) [p57.1] p57.2) fun p58 =>
  refinerylaw03_IrChecks_j2 J p4.1 (.int .i64 6) p58.2)
  (.thn p56.2 (sBin .eql p14.1 (.int .u8 9) p56.2) fun p59 =>
  condX p59.1
  (.thn p59.2 (sBuild [(.int .u8 0), (.int .u8 0), (.int .i64 0), (.int .i64 0), (.int .i64 0), (.int .i64 0), (.int .i64 0)] [(0, 1, (.int .u8 3)), (3, 1, (.int .i64 1))] p59.2) fun p60 =>
  .thn p60.2 (sCall K (.func (.func n_refinerylaw03_IrChecks_2) #[] #[p12.1]) [p60.1] p60.2) fun p61 =>
  refinerylaw03_IrChecks_j2 J p4.1 (.int .i64 5) p61.2)
  (.thn p59.2 (sBin .eql p14.1 (.int .u8 10) p59.2) fun p62 =>
  condX p62.1
  (.thn p62.2 (sLoad none p12.1 p62.2) fun p63 =>
  .thn p63.2 (sBuild [(.int .u8 0), (.int .i64 0), (.int .i64 0), (.int .i64 0)] [(0, 1, (.int .u8 4))] p63.2) fun p64 =>
  .thn p64.2 (sNilc p63.1 p64.2) fun p65 =>
  .thn p65.2 (sOff 3 p65.1 p65.2) fun p66 =>
  .thn p66.2 (sStore 4 p66.1 p64.1 p66.2) fun p67 =>
  refinerylaw03_IrChecks_j2 J p4.1 (.int .i64 6) p67.2)
  (.thn p62.2 (sBin .eql p14.1 (.int .u8 11) p62.2) fun p68 =>
  condX p68.1
  (.thn p68.2 (sLoad none p12.1 p68.2) fun p69 =>
  .thn p69.2 (sBuild [(.int .u8 0), (.int .i64 0), (.int .i64 0), (.int .i64 0)] [(2, 1, (.int .i64 77777))] p69.2) fun p70 =>
  .thn p70.2 (sNilc p69.1 p70.2) fun p71 =>
  .thn p71.2 (sOff 3 p71.1 p71.2) fun p72 =>
  .thn p72.2 (sStore 4 p72.1 p70.1 p72.2) fun p73 =>
  refinerylaw03_IrChecks_j2 J p4.1 (.int .i64 9) p73.2)
  (.thn p68.2 (sBin .eql p14.1 (.int .u8 12) p68.2) fun p74 =>
  condX p74.1
  (.thn p74.2 (sLoad none p12.1 p74.2) fun p75 =>
  .thn p75.2 (sLoad none p12.1 p75.2) fun p76 =>
  .thn p76.2 (sNilc p76.1 p76.2) fun p77 =>
  .thn p77.2 (sOff 0 p77.1 p77.2) fun p78 =>
  .thn p78.2 (sLoad none p78.1 p78.2) fun p79 =>
  .thn p79.2 (sLit 1 1 [(.int .i64 0)] [(0, 1, p79.1)] p79.2) fun p80 =>
  .thn p80.2 (sBuild [(.int .i64 0), (.slice none 0 0), (.slice none 0 0)] [(1, 1, p80.1)] p80.2) fun p81 =>
  .thn p81.2 (sLit 3 1 [(.int .i64 0), (.slice none 0 0), (.slice none 0 0)] [(0, 3, p81.1)] p81.2) fun p82 =>
  .thn p82.2 (sNilc p75.1 p82.2) fun p83 =>
  .thn p83.2 (sOff 1 p83.1 p83.2) fun p84 =>
  .thn p84.2 (sStore 1 p84.1 p82.1 p84.2) fun p85 =>
  refinerylaw03_IrChecks_j2 J p4.1 (.int .i64 5) p85.2)
  (.thn p74.2 (sLoad none p12.1 p74.2) fun p86 =>
  .thn p86.2 (sLoad none p12.1 p86.2) fun p87 =>
  .thn p87.2 (sNilc p87.1 p87.2) fun p88 =>
  .thn p88.2 (sOff 0 p88.1 p88.2) fun p89 =>
  .thn p89.2 (sLoad none p89.1 p89.2) fun p90 =>
  .thn p90.2 (sLoad none p12.1 p90.2) fun p91 =>
  .thn p91.2 (sNilc p91.1 p91.2) fun p92 =>
  .thn p92.2 (sOff 0 p92.1 p92.2) fun p93 =>
  .thn p93.2 (sLoad none p93.1 p93.2) fun p94 =>
  .thn p94.2 (sLit 1 2 [(.int .i64 0), (.int .i64 0)] [(0, 1, p90.1), (1, 1, p94.1)] p94.2) fun p95 =>
  .thn p95.2 (sLit 1 2 [(.int .i64 0), (.int .i64 0)] [(0, 1, (.int .i64 0)), (1, 1, (.int .i64 0))] p95.2) fun p96 =>
  .thn p96.2 (sBuild [(.int .i64 0), (.slice none 0 0), (.slice none 0 0)] [(1, 1, p95.1), (2, 1, p96.1)] p96.2) fun p97 =>
  .thn p97.2 (sLit 3 1 [(.int .i64 0), (.slice none 0 0), (.slice none 0 0)] [(0, 3, p97.1)] p97.2) fun p98 =>
  .thn p98.2 (sNilc p86.1 p98.2) fun p99 =>
  .thn p99.2 (sOff 1 p99.1 p99.2) fun p100 =>
  .thn p100.2 (sStore 1 p100.1 p98.1 p100.2) fun p101 =>
  refinerylaw03_IrChecks_j2 J p4.1 (.int .i64 8) p101.2)))))))))))))) := (go_eq hJ _ _ _ _).trans (by kernel_rfl)
theorem refinerylaw03_IrChecks_j2_eq {K : Ctx} {J : JT (Value × St)} (hJ : IsJ K (retK refinerylaw03_IrChecks_c.results) J) (v7 : Value) (v10 : Value) (st : St) : refinerylaw03_IrChecks_j2 J v7 v10 st =
  (.thn st (sField (some 1) 0 v7 st) fun p1 =>
  .thn p1.2 (K.go (.call n_ir_Program_Check [p1.1]) p1.2) fun p2 =>
  .thn p2.2 (sBin .eql p2.1 v10 p2.2) fun p3 =>
  .ok (p3.1, p3.2)) := (go_eq hJ _ _ _ _).trans (by kernel_rfl)
theorem refinerylaw03_IrChecks_j3_eq {K : Ctx} {J : JT (Value × St)} (hJ : IsJ K (retK refinerylaw03_IrChecks_c.results) J) (v5 : Value) (v7 : Value) (v8 : Value) (v10 : Value) (st : St) : refinerylaw03_IrChecks_j3 J v5 v7 v8 v10 st =
  (.thn st (sLoad none v8 st) fun p1 =>
  .thn p1.2 (sLoad none v5 p1.2) fun p2 =>
  .thn p2.2 (sNilc p1.1 p2.2) fun p3 =>
  .thn p3.2 (sOff 0 p3.1 p3.2) fun p4 =>
  .thn p4.2 (sStore 1 p4.1 p2.1 p4.2) fun p5 =>
  refinerylaw03_IrChecks_j2 J v7 v10 p5.2) := (go_eq hJ _ _ _ _).trans (by kernel_rfl)
end Go.Proofs.Ytfknooeebmdfoaa.Sh
