/-
  The functions of the program, operation by operation, as the abstract machine has them.
-/
import Derived.Test.YtfknooeebmdfoaaProg
import Derived.Test.YtfknooeebmdfoaaShN
set_option linter.unusedVariables false
set_option maxRecDepth 100000
namespace Go.Proofs.Ytfknooeebmdfoaa.Sh
open Go Go.AM Go.Proofs

/-! ### refinery/refinerylaw03.IrCounts -/
open C in
noncomputable def refinerylaw03_IrCounts_c : AFun := ⟨3, [.tmp 6],
 (s (.ops [o 3 (.lbox (t 0)), o 4 (.lbox (t 1)), o 6 (.mv (c (.bool false)))])
 (s (s (.ops [o 11 (.call (f 13) []), o 12 (.un .not (t 11))])
 (.cond (t 12) (s (.ops [o 6 (.mv (c (.bool false)))])
 .ret) .skip))
 (s (.keep [2, 3, 4])
 (s (s (.ops [o 13 (.field (some 3) 0 (t 3)), o 14 (.call (f 14) [(t 13)]), o 15 (.un .not (t 14)), o 16 (.mv (t 15)), g 17 false 16 (.field (some 3) 0 (t 4)), g 18 false 16 (.call (f 14) [(t 17)]), g 19 false 16 (.un .not (t 18)), o 20 (.pick (t 16) (c (.bool true)) (t 19))])
 (.cond (t 20) (s (.ops [o 6 (.mv (c (.bool true)))])
 .ret) .skip))
 (s (.keep [2, 3, 4])
 (s (.draw [d 0 0 false (o 21 (.field (some 3) 0 (t 3))), d 1 0 true (o 22 (.call (f 15) [(t 21)])), d 2 1 false (o 23 (.field (some 3) 0 (t 4))), d 3 0 true (o 24 (.call (f 15) [(t 23)])), d 4 0 false (o 7 (.lnew [(.slice none 0 0)])), d 5 0 false (o 8 (.lnew [(.slice none 0 0)])), d 6 0 true (o 7 (.upd 1 0 (t 7) (t 22))), d 7 0 true (o 8 (.upd 1 0 (t 8) (t 24)))])
 (s (.draw [d 0 0 false (o 25 (.field (some 1) 0 (t 7))), d 1 0 true (o 26 (.call (f 31) [(t 25)])), d 2 0 false (o 27 (.field none 0 (t 26))), d 3 0 false (o 28 (.lref (t 8))), d 4 1 false (o 29 (.field none 0 (t 8))), d 5 0 true (o 30 (.append 7 88 (t 27) (t 29))), d 6 0 false (o 31 (.build [(.slice none 0 0)] [(0, 1, (t 30))])), d 7 0 false (o 9 (.lnew [(.slice none 0 0)])), d 8 0 true (o 9 (.upd 1 0 (t 9) (t 31)))])
 (s (.ops [o 32 (.field (some 1) 0 (t 7)), o 33 (.call (f 31) [(t 32)]), o 10 (.lnew [(.slice none 0 0)]), o 10 (.upd 1 0 (t 10) (t 33))])
 (s (.draw [d 2 0 false (o 36 (.lref (t 10))), d 3 0 false (o 37 (.field none 0 (t 10))), d 4 0 false (o 38 (.ixA 7 none (t 37) (c (i 0)))), d 5 0 false (o 39 (.off 2 (t 38))), d 6 0 false (o 40 (.load none (t 39))), d 7 0 false (o 41 (.mv (t 2))), d 8 0 false (o 42 (.conv (.int .i64) (t 41))), d 9 0 false (o 43 (.build [(u 0), (u 0), (i 0), (i 0), (i 0), (i 0), (i 0)] [(2, 1, (t 42))])), d 10 0 false (o 44 (.lit 7 1 [(u 0), (u 0), (i 0), (i 0), (i 0), (i 0), (i 0)] [(0, 7, (t 43))])), d 11 0 true (o 45 (.append 7 48 (t 40) (t 44))), d 0 0 false (o 34 (.lref (t 10))), d 1 1 false (o 35 (.field none 0 (t 10))), d 12 0 false (o 46 (.ixA 7 none (t 35) (c (i 0)))), d 13 0 false (o 47 (.off 2 (t 46))), d 14 0 true (n (.store 1 (t 47) (t 45)))])
 (s (.draw [d 0 0 false (o 48 (.field (some 1) 0 (t 9))), d 1 0 true (o 49 (.call (f 32) [(t 48)])), d 2 1 false (o 50 (.field (some 1) 0 (t 7))), d 3 0 true (o 51 (.call (f 32) [(t 50)])), d 4 2 false (o 52 (.field (some 1) 0 (t 8))), d 5 0 true (o 53 (.call (f 32) [(t 52)])), d 6 0 false (o 54 (.bin .add (t 51) (t 53))), d 7 0 false (o 55 (.bin .eql (t 49) (t 54))), d 8 0 false (o 56 (.mv (t 55))), d 9 0 false (g 57 true 56 (.field (some 1) 0 (t 9))), d 10 0 true (g 58 true 56 (.call (f 33) [(t 57)])), d 11 1 false (g 59 true 56 (.field (some 1) 0 (t 7))), d 12 0 true (g 60 true 56 (.call (f 33) [(t 59)])), d 13 2 false (g 61 true 56 (.field (some 1) 0 (t 8))), d 14 0 true (g 62 true 56 (.call (f 33) [(t 61)])), d 15 0 false (g 63 true 56 (.minmax true (t 60) [(t 62)])), d 16 0 false (g 64 true 56 (.bin .eql (t 58) (t 63))), d 17 0 false (o 65 (.pick (t 56) (t 64) (c (.bool false)))), d 18 0 false (o 66 (.mv (t 65))), d 19 0 false (g 67 true 66 (.field (some 1) 0 (t 9))), d 20 0 true (g 68 true 66 (.call (f 18) [(t 67)])), d 21 0 false (g 69 true 66 (.bin .eql (t 68) (c (i 8)))), d 22 0 false (o 70 (.pick (t 66) (t 69) (c (.bool false)))), d 23 0 false (o 71 (.mv (t 70))), d 24 0 false (g 72 true 71 (.field (some 1) 0 (t 10))), d 25 0 true (g 73 true 71 (.call (f 32) [(t 72)])), d 26 1 false (g 74 true 71 (.field (some 1) 0 (t 7))), d 27 0 true (g 75 true 71 (.call (f 32) [(t 74)])), d 28 0 false (g 76 true 71 (.bin .add (t 75) (c (i 1)))), d 29 0 false (g 77 true 71 (.bin .eql (t 73) (t 76))), d 30 0 false (o 78 (.pick (t 71) (t 77) (c (.bool false)))), d 31 0 false (o 79 (.mv (t 78))), d 32 0 false (g 80 true 79 (.field (some 1) 0 (t 10))), d 33 0 true (g 81 true 79 (.call (f 33) [(t 80)])), d 34 1 false (g 82 true 79 (.field (some 1) 0 (t 7))), d 35 0 true (g 83 true 79 (.call (f 33) [(t 82)])), d 36 0 false (g 84 true 79 (.mv (t 2))), d 37 0 false (g 85 true 79 (.conv (.int .i64) (t 84))), d 38 0 false (g 86 true 79 (.bin .add (t 85) (c (i 1)))), d 39 0 false (g 87 true 79 (.minmax true (t 83) [(t 86)])), d 40 0 false (g 88 true 79 (.bin .eql (t 81) (t 87))), d 41 0 false (o 89 (.pick (t 79) (t 88) (c (.bool false)))), d 42 0 false (o 6 (.mv (t 89)))])
 .ret))))))))))⟩
theorem refinerylaw03_IrCounts_is : pgF n_refinerylaw03_IrCounts = some refinerylaw03_IrCounts_c := by kernel_rfl
noncomputable def refinerylaw03_IrCounts_j0 (J : JT (Value × St)) (v2 : Value) (v3 : Value) (v4 : Value) (st : St) : Res (Value × St) := goX J refinerylaw03_IrCounts_c.body [1, 1, 1] (envT [(2, v2), (3, v3), (4, v4)]) st
noncomputable def refinerylaw03_IrCounts_j1 (J : JT (Value × St)) (v2 : Value) (v3 : Value) (v4 : Value) (st : St) : Res (Value × St) := goX J refinerylaw03_IrCounts_c.body [1, 1, 1, 1, 1] (envT [(2, v2), (3, v3), (4, v4)]) st
theorem refinerylaw03_IrCounts_eq (K : Ctx) (J : JT (Value × St)) (a0 a1 a2 : Value) (st : St) : atX K J refinerylaw03_IrCounts_c (AM.start [a0, a1, a2]) st =
  (.thn st (sLbox a0 st) fun p1 =>
  .thn p1.2 (sLbox a1 p1.2) fun p2 =>
  .thn p2.2 (K.go (.call n_refinerylaw03_Awake []) p2.2) fun p3 =>
  .thn p3.2 (sUn .not p3.1 p3.2) fun p4 =>
  condX p4.1
  (.ok ((.bool false), p4.2))
  (refinerylaw03_IrCounts_j0 J a2 p1.1 p2.1 p4.2)) := by kernel_rfl
theorem refinerylaw03_IrCounts_of {K : Ctx} (hF : Fix pgF K) {a0 a1 a2 : Value} {st : St} {Q : Value × St → Prop} (h : ∀ J, IsJ K (retK refinerylaw03_IrCounts_c.results) J → Ok (atX K J refinerylaw03_IrCounts_c (AM.start [a0, a1, a2]) st) Q) : Ok (K.go (.call n_refinerylaw03_IrCounts [a0, a1, a2]) st) Q := call_of hF refinerylaw03_IrCounts_is rfl h
theorem refinerylaw03_IrCounts_j0_eq {K : Ctx} {J : JT (Value × St)} (hJ : IsJ K (retK refinerylaw03_IrCounts_c.results) J) (v2 : Value) (v3 : Value) (v4 : Value) (st : St) : refinerylaw03_IrCounts_j0 J v2 v3 v4 st =
  (.thn st (sField (some 3) 0 v3 st) fun p1 =>
  .thn p1.2 (K.go (.call n_refinerylaw03_Small_Light [p1.1]) p1.2) fun p2 =>
  .thn p2.2 (sUn .not p2.1 p2.2) fun p3 =>
  .thn p3.2 (sG p3.1 false (sField (some 3) 0 v4 p3.2) p3.2) fun p4 =>
  .thn p4.2 (sG p3.1 false (K.go (.call n_refinerylaw03_Small_Light [p4.1]) p4.2) p4.2) fun p5 =>
  .thn p5.2 (sG p3.1 false (sUn .not p5.1 p5.2) p5.2) fun p6 =>
  .thn p6.2 (sPick p3.1 (.bool true) p6.1 p6.2) fun p7 =>
  condX p7.1
  (.ok ((.bool true), p7.2))
  (refinerylaw03_IrCounts_j1 J v2 v3 v4 p7.2)) := (go_eq hJ _ _ _ _).trans (by kernel_rfl)
theorem refinerylaw03_IrCounts_j1_eq {K : Ctx} {J : JT (Value × St)} (hJ : IsJ K (retK refinerylaw03_IrCounts_c.results) J) (v2 : Value) (v3 : Value) (v4 : Value) (st : St) : refinerylaw03_IrCounts_j1 J v2 v3 v4 st =
  (.thn st (sField (some 3) 0 v3 st) fun p1 =>
  .thn p1.2 (K.go (.call n_refinerylaw03_Small_Program [p1.1]) p1.2) fun p2 =>
  .thn p2.2 (sField (some 3) 0 v4 p2.2) fun p3 =>
  Res.need (sStays (List.take 1 (p1.2 :: [])) p2.2.next nothing (fun s => sField (some 3) 0 v4 s) p3.1) "order" >>= fun _ =>
  .thn p3.2 (K.go (.call n_refinerylaw03_Small_Program [p3.1]) p3.2) fun p4 =>
  .thn p4.2 (sLnew [(.slice none 0 0)] p4.2) fun p5 =>
  .thn p5.2 (sLnew [(.slice none 0 0)] p5.2) fun p6 =>
  .thn p6.2 (sUpd 1 0 p5.1 p2.1 p6.2) fun p7 =>
  .thn p7.2 (sUpd 1 0 p6.1 p4.1 p7.2) fun p8 =>
  .thn p8.2 (sField (some 1) 0 p7.1 p8.2) fun p9 =>
  .thn p9.2 (K.go (.call n_ir_Program_Clone [p9.1]) p9.2) fun p10 =>
  .thn p10.2 (sField none 0 p10.1 p10.2) fun p11 =>
  .thn p11.2 (sLref p8.1 p11.2) fun p12 =>
  .thn p12.2 (sField none 0 p8.1 p12.2) fun p13 =>
  Res.need (sStays (List.take 1 (p9.2 :: [])) p10.2.next nothing (fun s => sField none 0 p8.1 s) p13.1) "order" >>= fun _ =>
  .thn p13.2 (sAppend 7 88 p11.1 p13.1 p13.2) fun p14 =>
  .thn p14.2 (sBuild [(.slice none 0 0)] [(0, 1, p14.1)] p14.2) fun p15 =>
  .thn p15.2 (sLnew [(.slice none 0 0)] p15.2) fun p16 =>
  .thn p16.2 (sUpd 1 0 p16.1 p15.1 p16.2) fun p17 =>
  .thn p17.2 (sField (some 1) 0 p7.1 p17.2) fun p18 =>
  .thn p18.2 (K.go (.call n_ir_Program_Clone [p18.1]) p18.2) fun p19 =>
  .thn p19.2 (sLnew [(.slice none 0 0)] p19.2) fun p20 =>
  .thn p20.2 (sUpd 1 0 p20.1 p19.1 p20.2) fun p21 =>
  .thn p21.2 (sLref p21.1 p21.2) fun p22 =>
  .thn p22.2 (sField none 0 p21.1 p22.2) fun p23 =>
  .thn p23.2 (sIxA 7 none p23.1 (.int .i64 0) p23.2) fun p24 =>
  .thn p24.2 (sOff 2 p24.1 p24.2) fun p25 =>
  .thn p25.2 (sLoad none p25.1 p25.2) fun p26 =>
  .thn p26.2 (sConv (.int .i64) v2 p26.2) fun p27 =>
  .thn p27.2 (sBuild [(.int .u8 0), (.int .u8 0), (.int .i64 0), (.int .i64 0), (.int .i64 0), (.int .i64 0), (.int .i64 0)] [(2, 1, p27.1)] p27.2) fun p28 =>
  .thn p28.2 (sLit 7 1 [(.int .u8 0), (.int .u8 0), (.int .i64 0), (.int .i64 0), (.int .i64 0), (.int .i64 0), (.int .i64 0)] [(0, 7, p28.1)] p28.2) fun p29 =>
  .thn p29.2 (sAppend 7 48 p26.1 p29.1 p29.2) fun p30 =>
  .thn p30.2 (sLref p21.1 p30.2) fun p31 =>
  .thn p31.2 (sField none 0 p21.1 p31.2) fun p32 =>
  Res.need (sStays (List.take 1 (p29.2 :: [])) p30.2.next nothing (fun s => sField none 0 p21.1 s) p32.1) "order" >>= fun _ =>
  .thn p32.2 (sIxA 7 none p32.1 (.int .i64 0) p32.2) fun p33 =>
  .thn p33.2 (sOff 2 p33.1 p33.2) fun p34 =>
  .thn p34.2 (sStore 1 p34.1 p30.1 p34.2) fun p35 =>
  .thn p35.2 (sField (some 1) 0 p17.1 p35.2) fun p36 =>
  .thn p36.2 (K.go (.call n_ir_Program_Count [p36.1]) p36.2) fun p37 =>
  .thn p37.2 (sField (some 1) 0 p7.1 p37.2) fun p38 =>
  Res.need (sStays (List.take 1 (p36.2 :: [])) p37.2.next nothing (fun s => sField (some 1) 0 p7.1 s) p38.1) "order" >>= fun _ =>
  .thn p38.2 (K.go (.call n_ir_Program_Count [p38.1]) p38.2) fun p39 =>
  .thn p39.2 (sField (some 1) 0 p8.1 p39.2) fun p40 =>
  Res.need (sStays (List.take 2 (p38.2 :: (p36.2 :: []))) p39.2.next nothing (fun s => sField (some 1) 0 p8.1 s) p40.1) "order" >>= fun _ =>
  .thn p40.2 (K.go (.call n_ir_Program_Count [p40.1]) p40.2) fun p41 =>
  .thn p41.2 (sBin .add p39.1 p41.1 p41.2) fun p42 =>
  .thn p42.2 (sBin .eql p37.1 p42.1 p42.2) fun p43 =>
  .thn p43.2 (sGo p43.1 true (sField (some 1) 0 p17.1 p43.2) p43.2) fun p44 =>
  .thn p44.2 (gd p43.1 true >>= fun b => bif b then (K.go (.call n_ir_Program_Regs [p44.1]) p44.2 >>= fun p46 => Res.ok (p46.1, p46.2, p44.2 :: (p40.2 :: (p38.2 :: (p36.2 :: []))), p46.2.next)) else Res.ok (skipped, p44.2, (p40.2 :: (p38.2 :: (p36.2 :: []))), p41.2.next)) fun p47 =>
  .thn p47.2.1 (gd p43.1 true >>= fun b => bif b then (sField (some 1) 0 p7.1 p47.2.1 >>= fun p49 => Res.need (sStays (List.take 1 p47.2.2.1) p47.2.2.2 nothing (fun s => sField (some 1) 0 p7.1 s) p49.1) "order" >>= fun _ => .ok p49) else .ok (skipped, p47.2.1)) fun p48 =>
  .thn p48.2 (gd p43.1 true >>= fun b => bif b then (K.go (.call n_ir_Program_Regs [p48.1]) p48.2 >>= fun p50 => Res.ok (p50.1, p50.2, p48.2 :: p47.2.2.1, p50.2.next)) else Res.ok (skipped, p48.2, p47.2.2.1, p47.2.2.2)) fun p51 =>
  .thn p51.2.1 (gd p43.1 true >>= fun b => bif b then (sField (some 1) 0 p8.1 p51.2.1 >>= fun p53 => Res.need (sStays (List.take 2 p51.2.2.1) p51.2.2.2 nothing (fun s => sField (some 1) 0 p8.1 s) p53.1) "order" >>= fun _ => .ok p53) else .ok (skipped, p51.2.1)) fun p52 =>
  .thn p52.2 (gd p43.1 true >>= fun b => bif b then (K.go (.call n_ir_Program_Regs [p52.1]) p52.2 >>= fun p54 => Res.ok (p54.1, p54.2, p52.2 :: p51.2.2.1, p54.2.next)) else Res.ok (skipped, p52.2, p51.2.2.1, p51.2.2.2)) fun p55 =>
  .thn p55.2.1 (sGo p43.1 true (sMinmax true p51.1 [p55.1] p55.2.1) p55.2.1) fun p56 =>
  .thn p56.2 (sGo p43.1 true (sBin .eql p47.1 p56.1 p56.2) p56.2) fun p58 =>
  .thn p58.2 (sPick p43.1 p58.1 (.bool false) p58.2) fun p60 =>
  .thn p60.2 (sGo p60.1 true (sField (some 1) 0 p17.1 p60.2) p60.2) fun p61 =>
  .thn p61.2 (gd p60.1 true >>= fun b => bif b then (K.go (.call n_ir_Program_Check [p61.1]) p61.2 >>= fun p63 => Res.ok (p63.1, p63.2, p61.2 :: p55.2.2.1, p63.2.next)) else Res.ok (skipped, p61.2, p55.2.2.1, p55.2.2.2)) fun p64 =>
  .thn p64.2.1 (sGo p60.1 true (sBin .eql p64.1 (.int .i64 8) p64.2.1) p64.2.1) fun p65 =>
  .thn p65.2 (sPick p60.1 p65.1 (.bool false) p65.2) fun p67 =>
  .thn p67.2 (sGo p67.1 true (sField (some 1) 0 p21.1 p67.2) p67.2) fun p68 =>
  .thn p68.2 (gd p67.1 true >>= fun b => bif b then (K.go (.call n_ir_Program_Count [p68.1]) p68.2 >>= fun p70 => Res.ok (p70.1, p70.2, p68.2 :: p64.2.2.1, p70.2.next)) else Res.ok (skipped, p68.2, p64.2.2.1, p64.2.2.2)) fun p71 =>
  .thn p71.2.1 (gd p67.1 true >>= fun b => bif b then (sField (some 1) 0 p7.1 p71.2.1 >>= fun p73 => Res.need (sStays (List.take 1 p71.2.2.1) p71.2.2.2 nothing (fun s => sField (some 1) 0 p7.1 s) p73.1) "order" >>= fun _ => .ok p73) else .ok (skipped, p71.2.1)) fun p72 =>
  .thn p72.2 (gd p67.1 true >>= fun b => bif b then (K.go (.call n_ir_Program_Count [p72.1]) p72.2 >>= fun p74 => Res.ok (p74.1, p74.2, p72.2 :: p71.2.2.1, p74.2.next)) else Res.ok (skipped, p72.2, p71.2.2.1, p71.2.2.2)) fun p75 =>
  .thn p75.2.1 (sGo p67.1 true (sBin .add p75.1 (.int .i64 1) p75.2.1) p75.2.1) fun p76 =>
  .thn p76.2 (sGo p67.1 true (sBin .eql p71.1 p76.1 p76.2) p76.2) fun p78 =>
  .thn p78.2 (sPick p67.1 p78.1 (.bool false) p78.2) fun p80 =>
  .thn p80.2 (sGo p80.1 true (sField (some 1) 0 p21.1 p80.2) p80.2) fun p81 =>
  .thn p81.2 (gd p80.1 true >>= fun b => bif b then (K.go (.call n_ir_Program_Regs [p81.1]) p81.2 >>= fun p83 => Res.ok (p83.1, p83.2, p81.2 :: p75.2.2.1, p83.2.next)) else Res.ok (skipped, p81.2, p75.2.2.1, p75.2.2.2)) fun p84 =>
  .thn p84.2.1 (gd p80.1 true >>= fun b => bif b then (sField (some 1) 0 p7.1 p84.2.1 >>= fun p86 => Res.need (sStays (List.take 1 p84.2.2.1) p84.2.2.2 nothing (fun s => sField (some 1) 0 p7.1 s) p86.1) "order" >>= fun _ => .ok p86) else .ok (skipped, p84.2.1)) fun p85 =>
  .thn p85.2 (gd p80.1 true >>= fun b => bif b then (K.go (.call n_ir_Program_Regs [p85.1]) p85.2 >>= fun p87 => Res.ok (p87.1, p87.2, p85.2 :: p84.2.2.1, p87.2.next)) else Res.ok (skipped, p85.2, p84.2.2.1, p84.2.2.2)) fun p88 =>
  .thn p88.2.1 (sGo p80.1 true (Res.ok (v2, p88.2.1)) p88.2.1) fun p89 =>
  .thn p89.2 (sGo p80.1 true (sConv (.int .i64) p89.1 p89.2) p89.2) fun p91 =>
  .thn p91.2 (sGo p80.1 true (sBin .add p91.1 (.int .i64 1) p91.2) p91.2) fun p93 =>
  .thn p93.2 (sGo p80.1 true (sMinmax true p88.1 [p93.1] p93.2) p93.2) fun p95 =>
  .thn p95.2 (sGo p80.1 true (sBin .eql p84.1 p95.1 p95.2) p95.2) fun p97 =>
  .thn p97.2 (sPick p80.1 p97.1 (.bool false) p97.2) fun p99 =>
  .ok (p99.1, p99.2)) := (go_eq hJ _ _ _ _).trans (by kernel_rfl)
end Go.Proofs.Ytfknooeebmdfoaa.Sh
