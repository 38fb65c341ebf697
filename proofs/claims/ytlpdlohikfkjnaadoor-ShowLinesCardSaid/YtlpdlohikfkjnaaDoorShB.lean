/-
 The functions of the program, operation by operation, as the abstract machine has them.
-/
import Derived.Test.YtlpdlohikfkjnaaDoorProg
import Derived.Test.YtlpdlohikfkjnaaDoorShN
set_option linter.unusedVariables false
set_option maxRecDepth 100000
namespace Go.Proofs.YtlpdlohikfkjnaaDoor.Sh
open Go Go.AM Go.Proofs
noncomputable section
variable {K : Ctx} {J : JT (Value × St)} {st : St} {Q : Value × St → Prop}
open C in
def refinerylaw03_Line_Instr_c : AFun := ⟨2, [.part 4 (some 7)],
 (s (.ops [o 2 (.lbox (t 0)), o 4 (.lnew [(u 0), (u 0), (i 0), (i 0), (i 0), (i 0), (i 0)])])
 (s (.draw [d 0 0 false (o 5 (.lref (t 2))), d 1 0 false (o 6 (.field none 0 (t 2))), d 2 0 false (o 7 (.bin .rem (t 6) (c (u 9)))), d 3 0 false (o 8 (.lref (t 2))), d 4 0 false (o 9 (.field none 1 (t 2))), d 5 0 false (o 10 (.bin .rem (t 9) (c (u 12)))), d 6 0 false (o 11 (.lref (t 2))), d 7 0 false (o 12 (.field none 2 (t 2))), d 8 0 false (o 13 (.conv (.int .i64) (t 12))), d 9 0 false (o 14 (.mv (t 1))), d 10 0 false (o 15 (.bin .rem (t 13) (t 14))), d 11 0 false (o 16 (.lref (t 2))), d 12 0 false (o 17 (.field none 3 (t 2))), d 13 0 false (o 18 (.conv (.int .i64) (t 17))), d 14 0 false (o 19 (.mv (t 1))), d 15 0 false (o 20 (.bin .rem (t 18) (t 19))), d 16 0 false (o 21 (.lref (t 2))), d 17 0 false (o 22 (.field none 4 (t 2))), d 18 0 false (o 23 (.conv (.int .i64) (t 22))), d 19 0 false (o 24 (.mv (t 1))), d 20 0 false (o 25 (.bin .rem (t 23) (t 24))), d 21 0 false (o 26 (.lref (t 2))), d 22 0 false (o 27 (.field none 6 (t 2))), d 23 0 false (o 28 (.conv (.int .i64) (t 27))), d 24 0 false (o 29 (.lref (t 2))), d 25 0 false (o 30 (.field none 5 (t 2))), d 26 0 false (o 31 (.bin .rem (t 30) (c (u 3)))), d 27 0 false (o 32 (.conv (.int .i64) (t 31))), d 28 0 false (o 33 (.build [(u 0), (u 0), (i 0), (i 0), (i 0), (i 0), (i 0)] [(0, 1, (t 7)), (1, 1, (t 10)), (2, 1, (t 15)), (3, 1, (t 20)), (4, 1, (t 25)), (5, 1, (t 28)), (6, 1, (t 32))])), d 29 0 true (o 34 (.call (f 18) [(t 33)])), d 30 0 true (o 4 (.upd 7 0 (t 4) (t 34)))])
 .ret))⟩
theorem refinerylaw03_Line_Instr_is : pgF n_refinerylaw03_Line_Instr = some refinerylaw03_Line_Instr_c := by kernel_rfl
theorem refinerylaw03_Line_Instr_eq (K : Ctx) (J : JT (Value × St)) (a0 a1 : Value) (st : St) : atX K J refinerylaw03_Line_Instr_c (AM.start [a0, a1]) st =
 (.thn st (sLbox a0 st) fun p1 =>
 .thn p1.2 (sLnew [(.int .u8 0), (.int .u8 0), (.int .i64 0), (.int .i64 0), (.int .i64 0), (.int .i64 0), (.int .i64 0)] p1.2) fun p2 =>
 .thn p2.2 (sLref p1.1 p2.2) fun p3 =>
 .thn p3.2 (sField none 0 p1.1 p3.2) fun p4 =>
 .thn p4.2 (sBin .rem p4.1 (.int .u8 9) p4.2) fun p5 =>
 .thn p5.2 (sLref p1.1 p5.2) fun p6 =>
 .thn p6.2 (sField none 1 p1.1 p6.2) fun p7 =>
 .thn p7.2 (sBin .rem p7.1 (.int .u8 12) p7.2) fun p8 =>
 .thn p8.2 (sLref p1.1 p8.2) fun p9 =>
 .thn p9.2 (sField none 2 p1.1 p9.2) fun p10 =>
 .thn p10.2 (sConv (.int .i64) p10.1 p10.2) fun p11 =>
 .thn p11.2 (sBin .rem p11.1 a1 p11.2) fun p12 =>
 .thn p12.2 (sLref p1.1 p12.2) fun p13 =>
 .thn p13.2 (sField none 3 p1.1 p13.2) fun p14 =>
 .thn p14.2 (sConv (.int .i64) p14.1 p14.2) fun p15 =>
 .thn p15.2 (sBin .rem p15.1 a1 p15.2) fun p16 =>
 .thn p16.2 (sLref p1.1 p16.2) fun p17 =>
 .thn p17.2 (sField none 4 p1.1 p17.2) fun p18 =>
 .thn p18.2 (sConv (.int .i64) p18.1 p18.2) fun p19 =>
 .thn p19.2 (sBin .rem p19.1 a1 p19.2) fun p20 =>
 .thn p20.2 (sLref p1.1 p20.2) fun p21 =>
 .thn p21.2 (sField none 6 p1.1 p21.2) fun p22 =>
 .thn p22.2 (sConv (.int .i64) p22.1 p22.2) fun p23 =>
 .thn p23.2 (sLref p1.1 p23.2) fun p24 =>
 .thn p24.2 (sField none 5 p1.1 p24.2) fun p25 =>
 .thn p25.2 (sBin .rem p25.1 (.int .u8 3) p25.2) fun p26 =>
 .thn p26.2 (sConv (.int .i64) p26.1 p26.2) fun p27 =>
 .thn p27.2 (sBuild [(.int .u8 0), (.int .u8 0), (.int .i64 0), (.int .i64 0), (.int .i64 0), (.int .i64 0), (.int .i64 0)] [(0, 1, p5.1), (1, 1, p8.1), (2, 1, p12.1), (3, 1, p16.1), (4, 1, p20.1), (5, 1, p23.1), (6, 1, p27.1)] p27.2) fun p28 =>
 .thn p28.2 (K.go (.call n_ir_Instr_Only [p28.1]) p28.2) fun p29 =>
 .thn p29.2 (sUpd 7 0 p2.1 p29.1 p29.2) fun p30 =>
 (sField (some 7) 0 p30.1 p30.2 >>= fun p31 => .ok [p31.1]) >>= fun vs => .ok (oneOf vs, p30.2)) := by kernel_rfl
theorem refinerylaw03_Line_Instr_of : Of2 n_refinerylaw03_Line_Instr refinerylaw03_Line_Instr_c := fun hF => call_of hF refinerylaw03_Line_Instr_is rfl
open C in
def refinerylaw03_Block_Last_c : AFun := ⟨3, [.part 6 (some 4)],
 (s (.ops [o 3 (.lbox (t 0)), o 6 (.lnew [(u 0), (i 0), (i 0), (i 0)])])
 (s (.draw [d 11 0 false (o 18 (.lref (t 3))), d 12 0 false (o 19 (.field none 3 (t 3))), d 13 0 false (o 20 (.conv (.int .i64) (t 19))), d 14 0 false (o 21 (.mv (t 2))), d 15 0 false (o 22 (.bin .rem (t 20) (t 21))), d 16 0 true (o 23 (.call (f 19) [(t 22)])), d 17 0 false (o 24 (.lref (t 3))), d 18 1 false (o 25 (.field none 4 (t 3))), d 19 0 false (o 26 (.conv (.int .i64) (t 25))), d 20 0 false (o 27 (.mv (t 2))), d 21 0 false (o 28 (.bin .rem (t 26) (t 27))), d 22 0 true (o 29 (.call (f 19) [(t 28)])), d 0 0 false (o 7 (.lit 1 8 [(u 0), (u 0), (u 0), (u 0), (u 0), (u 0), (u 0), (u 0)] [(0, 1, (c (u 0))), (1, 1, (c (u 1))), (2, 1, (c (u 1))), (3, 1, (c (u 0))), (4, 1, (c (u 1))), (5, 1, (c (u 2))), (6, 1, (c (u 1))), (7, 1, (c (u 3)))])), d 1 0 false (o 8 (.lref (t 3))), d 2 2 false (o 9 (.field none 1 (t 3))), d 3 0 false (o 10 (.bin .rem (t 9) (c (u 8)))), d 4 0 false (o 11 (.ixA 1 none (t 7) (t 10))), d 5 2 false (o 12 (.load none (t 11))), d 6 0 false (o 13 (.lref (t 3))), d 7 2 false (o 14 (.field none 2 (t 3))), d 8 0 false (o 15 (.conv (.int .i64) (t 14))), d 9 0 false (o 16 (.mv (t 1))), d 10 0 false (o 17 (.bin .rem (t 15) (t 16))), d 23 0 false (o 30 (.build [(u 0), (i 0), (i 0), (i 0)] [(0, 1, (t 12)), (1, 1, (t 17)), (2, 1, (t 23)), (3, 1, (t 29))])), d 24 0 true (o 31 (.call (f 20) [(t 30)])), d 25 0 true (o 6 (.upd 4 0 (t 6) (t 31)))])
 .ret))⟩
theorem refinerylaw03_Block_Last_is : pgF n_refinerylaw03_Block_Last = some refinerylaw03_Block_Last_c := by kernel_rfl
theorem refinerylaw03_Block_Last_eq (K : Ctx) (J : JT (Value × St)) (a0 a1 a2 : Value) (st : St) : atX K J refinerylaw03_Block_Last_c (AM.start [a0, a1, a2]) st =
 (.thn st (sLbox a0 st) fun p1 =>
 .thn p1.2 (sLnew [(.int .u8 0), (.int .i64 0), (.int .i64 0), (.int .i64 0)] p1.2) fun p2 =>
 .thn p2.2 (sLref p1.1 p2.2) fun p3 =>
 .thn p3.2 (sField none 3 p1.1 p3.2) fun p4 =>
 .thn p4.2 (sConv (.int .i64) p4.1 p4.2) fun p5 =>
 .thn p5.2 (sBin .rem p5.1 a2 p5.2) fun p6 =>
 .thn p6.2 (K.go (.call n_refinerylaw03_Label [p6.1]) p6.2) fun p7 =>
 .thn p7.2 (sLref p1.1 p7.2) fun p8 =>
 .thn p8.2 (sField none 4 p1.1 p8.2) fun p9 =>
 Res.need (sStays (List.take 1 (p6.2 :: [])) p7.2.next nothing (fun s => sField none 4 p1.1 s) p9.1) "order" >>= fun _ =>
 .thn p9.2 (sConv (.int .i64) p9.1 p9.2) fun p10 =>
 .thn p10.2 (sBin .rem p10.1 a2 p10.2) fun p11 =>
 .thn p11.2 (K.go (.call n_refinerylaw03_Label [p11.1]) p11.2) fun p12 =>
 .thn p12.2 (sLit 1 8 [(.int .u8 0), (.int .u8 0), (.int .u8 0), (.int .u8 0), (.int .u8 0), (.int .u8 0), (.int .u8 0), (.int .u8 0)] [(0, 1, (.int .u8 0)), (1, 1, (.int .u8 1)), (2, 1, (.int .u8 1)), (3, 1, (.int .u8 0)), (4, 1, (.int .u8 1)), (5, 1, (.int .u8 2)), (6, 1, (.int .u8 1)), (7, 1, (.int .u8 3))] p12.2) fun p13 =>
 .thn p13.2 (sLref p1.1 p13.2) fun p14 =>
 .thn p14.2 (sField none 1 p1.1 p14.2) fun p15 =>
 Res.need (sStays (List.take 2 (p11.2 :: (p6.2 :: []))) p12.2.next nothing (fun s => sField none 1 p1.1 s) p15.1) "order" >>= fun _ =>
 .thn p15.2 (sBin .rem p15.1 (.int .u8 8) p15.2) fun p16 =>
 .thn p16.2 (sIxA 1 none p13.1 p16.1 p16.2) fun p17 =>
 .thn p17.2 (sLoad none p17.1 p17.2) fun p18 =>
 Res.need (sStays (List.take 2 (p11.2 :: (p6.2 :: []))) p12.2.next p17.1 (fun s => sLoad none p17.1 s) p18.1) "order" >>= fun _ =>
 .thn p18.2 (sLref p1.1 p18.2) fun p19 =>
 .thn p19.2 (sField none 2 p1.1 p19.2) fun p20 =>
 Res.need (sStays (List.take 2 (p11.2 :: (p6.2 :: []))) p12.2.next nothing (fun s => sField none 2 p1.1 s) p20.1) "order" >>= fun _ =>
 .thn p20.2 (sConv (.int .i64) p20.1 p20.2) fun p21 =>
 .thn p21.2 (sBin .rem p21.1 a1 p21.2) fun p22 =>
 .thn p22.2 (sBuild [(.int .u8 0), (.int .i64 0), (.int .i64 0), (.int .i64 0)] [(0, 1, p18.1), (1, 1, p22.1), (2, 1, p7.1), (3, 1, p12.1)] p22.2) fun p23 =>
 .thn p23.2 (K.go (.call n_ir_Last_Only [p23.1]) p23.2) fun p24 =>
 .thn p24.2 (sUpd 4 0 p2.1 p24.1 p24.2) fun p25 =>
 (sField (some 4) 0 p25.1 p25.2 >>= fun p26 => .ok [p26.1]) >>= fun vs => .ok (oneOf vs, p25.2)) := by kernel_rfl
theorem refinerylaw03_Block_Last_of : Of3 n_refinerylaw03_Block_Last refinerylaw03_Block_Last_c := fun hF => call_of hF refinerylaw03_Block_Last_is rfl
open C in
def refinerylaw03_Small_Program_c : AFun := ⟨1, [.part 2 (some 1)],
 (s (.ops [o 1 (.lbox (t 0)), o 2 (.lnew [(.slice none 0 0)])])
 (s (.draw [d 0 0 false (o 11 (.lref (t 1))), d 1 0 false (o 12 (.field none 0 (t 1))), d 2 0 false (o 13 (.bin .rem (t 12) (c (u 6)))), d 3 0 false (o 14 (.conv (.int .i64) (t 13))), d 4 0 false (o 15 (.bin .add (c (i 1)) (t 14))), d 5 0 false (o 16 (.lref (t 1))), d 6 0 false (o 17 (.field none 2 (t 1))), d 7 0 false (o 18 (.len .slice (t 17))), d 8 0 false (o 19 (.minmax true (t 18) [(c (i 1))])), d 9 0 false (o 3 (.mv (t 15))), d 10 0 false (o 4 (.mv (t 19)))])
 (s (.ops [o 5 (.lnew [(.slice none 0 0)])])
 (s (s (.ops [o 20 (.mv (t 4)), o 21 (.mv (c (i 0)))])
 (.block 0 (s (.keep [1, 2, 3, 4, 5, 20, 21])
 (.loop (s (s (.ops [o 22 (.bin .lss (t 21) (t 20))])
 (s (.cond (t 22) .skip (.exit 0))
 (s (.keep [1, 2, 3, 4, 5, 20, 21])
 (s (.block 1 (s (.ops [o 23 (.mv (t 21)), o 6 (.mv (t 23))])
 (s (.ops [o 24 (.mv (t 6)), o 25 (.call (f 19) [(t 24)]), o 26 (.build [(u 0), (i 0), (i 0), (i 0)] [(0, 1, (c (u 2)))]), o 27 (.build [(i 0), (.slice none 0 0), (.slice none 0 0), (u 0), (i 0), (i 0), (i 0)] [(0, 1, (t 25)), (3, 4, (t 26))]), o 7 (.lnew [(i 0), (.slice none 0 0), (.slice none 0 0), (u 0), (i 0), (i 0), (i 0)]), o 7 (.upd 7 0 (t 7) (t 27))])
 (s (s (.ops [o 28 (.mv (t 6)), o 29 (.bin .eql (t 28) (c (i 0))), o 30 (.mv (t 29)), g 31 true 30 (.lref (t 1)), g 32 true 30 (.field none 1 (t 1)), g 33 true 30 (.un .not (t 32)), o 34 (.pick (t 30) (t 33) (c (.bool false)))])
 (.cond (t 34) (s (.ops [o 35 (.mv (t 3)), o 36 (.mv (c (i 0)))])
 (.block 2 (s (.keep [1, 2, 3, 4, 5, 6, 7, 20, 21, 35, 36])
 (.loop (s (s (.ops [o 37 (.bin .lss (t 36) (t 35))])
 (s (.cond (t 37) .skip (.exit 2))
 (s (.keep [1, 2, 3, 4, 5, 6, 7, 20, 21, 35, 36])
 (s (.block 3 (s (.ops [o 38 (.mv (t 36)), o 8 (.mv (t 38))])
 (.ops [o 39 (.lref (t 7)), o 40 (.field none 2 (t 7)), o 41 (.mv (t 8)), o 42 (.mv (t 8)), o 43 (.mv (t 8)), o 44 (.bin .mul (t 42) (t 43)), o 45 (.build [(u 0), (u 0), (i 0), (i 0), (i 0), (i 0), (i 0)] [(2, 1, (t 41)), (5, 1, (t 44))]), o 46 (.lit 7 1 [(u 0), (u 0), (i 0), (i 0), (i 0), (i 0), (i 0)] [(0, 7, (t 45))]), o 47 (.append 7 48 (t 40) (t 46)), o 48 (.lref (t 7)), o 7 (.upd 1 2 (t 7) (t 47))])))
 (s (.keep [1, 2, 3, 4, 5, 6, 7, 20, 21, 35, 36])
 (.ops [o 49 (.bin .add (t 36) (c (i 1))), o 36 (.mv (t 49))]))))))
 (.keep [1, 2, 3, 4, 5, 6, 7, 20, 21, 35, 36])))))) .skip))
 (s (.keep [1, 2, 3, 4, 5, 6, 7, 20, 21])
 (s (s (.ops [o 50 (.mv (t 6)), o 51 (.lref (t 1)), o 52 (.field none 2 (t 1)), o 53 (.len .slice (t 52)), o 54 (.bin .lss (t 50) (t 53))])
 (.cond (t 54) (s (s (.ops [o 55 (.lref (t 1)), o 56 (.field none 2 (t 1)), o 57 (.mv (t 6)), o 58 (.ixA 5 none (t 56) (t 57)), o 59 (.off 0 (t 58)), o 60 (.load none (t 59)), o 61 (.len .slice (t 60)), o 62 (.mv (c (i 0)))])
 (.block 4 (s (.keep [1, 2, 3, 4, 5, 6, 7, 20, 21, 60, 61, 62])
 (.loop (s (s (.ops [o 63 (.bin .lss (t 62) (t 61))])
 (s (.cond (t 63) .skip (.exit 4))
 (s (.keep [1, 2, 3, 4, 5, 6, 7, 20, 21, 60, 61, 62])
 (s (.block 5 (s (.ops [o 64 (.ixA 7 none (t 60) (t 62)), o 65 (.load (some 7) (t 64)), o 10 (.lnew [(u 0), (u 0), (u 0), (u 0), (u 0), (u 0), (.int .i16 0)]), o 10 (.upd 7 0 (t 10) (t 65))])
 (.draw [d 2 0 false (o 68 (.field (some 7) 0 (t 10))), d 3 0 false (o 69 (.mv (t 3))), d 4 0 true (o 70 (.call (f 7) [(t 68), (t 69)])), d 0 0 false (o 66 (.lref (t 7))), d 1 1 false (o 67 (.field none 2 (t 7))), d 5 0 false (o 71 (.lit 7 1 [(u 0), (u 0), (i 0), (i 0), (i 0), (i 0), (i 0)] [(0, 7, (t 70))])), d 6 0 true (o 72 (.append 7 48 (t 67) (t 71))), d 7 0 false (o 73 (.lref (t 7))), d 8 0 true (o 7 (.upd 1 2 (t 7) (t 72)))])))
 (s (.keep [1, 2, 3, 4, 5, 6, 7, 20, 21, 60, 61, 62])
 (.ops [o 74 (.bin .add (t 62) (c (i 1))), o 62 (.mv (t 74))]))))))
 (.keep [1, 2, 3, 4, 5, 6, 7, 20, 21, 60, 61, 62]))))))
 (s (.keep [1, 2, 3, 4, 5, 6, 7, 20, 21])
 (.ops [o 75 (.lref (t 1)), o 76 (.field none 2 (t 1)), o 77 (.mv (t 6)), o 78 (.ixA 5 none (t 76) (t 77)), o 79 (.load (some 5) (t 78)), o 80 (.mv (t 3)), o 81 (.mv (t 4)), o 82 (.call (f 8) [(t 79), (t 80), (t 81)]), o 83 (.lref (t 7)), o 7 (.upd 4 3 (t 7) (t 82))]))) (s (.ops [o 84 (.lref (t 1)), o 85 (.field none 1 (t 1))])
 (.cond (t 85) (.ops [o 86 (.build [(u 0), (i 0), (i 0), (i 0)] [(0, 1, (c (u 3)))]), o 87 (.lref (t 7)), o 7 (.upd 4 3 (t 7) (t 86))]) .skip))))
 (s (.keep [1, 2, 3, 4, 5, 7, 20, 21])
 (.ops [o 88 (.lref (t 5)), o 89 (.field none 0 (t 5)), o 90 (.field (some 7) 0 (t 7)), o 91 (.lit 7 1 [(i 0), (.slice none 0 0), (.slice none 0 0), (u 0), (i 0), (i 0), (i 0)] [(0, 7, (t 90))]), o 92 (.append 7 88 (t 89) (t 91)), o 93 (.lref (t 5)), o 5 (.upd 1 0 (t 5) (t 92))]))))))))
 (s (.keep [1, 2, 3, 4, 5, 20, 21])
 (.ops [o 94 (.bin .add (t 21) (c (i 1))), o 21 (.mv (t 94))]))))))
 (.keep [1, 2, 3, 4, 5, 20, 21]))))))
 (s (.keep [2, 5])
 (s (.ops [o 95 (.field (some 1) 0 (t 5)), o 2 (.upd 1 0 (t 2) (t 95))])
 .ret))))))⟩
open C in
def refinerylaw03_Label_c : AFun := ⟨9, [.tmp 2],
 (s (.ops [o 2 (.mv (c (i 0)))])
 (s (.ops [o 3 (.mv (t 0)), o 4 (.bin .mul (c (i 3)) (t 3)), o 5 (.mv (t 0)), o 6 (.bin .rem (t 5) (c (i 2))), o 7 (.bin .mul (c (i 7)) (t 6)), o 8 (.bin .add (t 4) (t 7)), o 2 (.mv (t 8))])
 .ret))⟩
theorem refinerylaw03_Label_is : pgF n_refinerylaw03_Label = some refinerylaw03_Label_c := by kernel_rfl
theorem refinerylaw03_Label_eq (K : Ctx) (J : JT (Value × St)) (a0 : Value) (st : St) : atX K J refinerylaw03_Label_c (AM.start [a0]) st =
 (.thn st (sBin .mul (.int .i64 3) a0 st) fun p1 =>
 .thn p1.2 (sBin .rem a0 (.int .i64 2) p1.2) fun p2 =>
 .thn p2.2 (sBin .mul (.int .i64 7) p2.1 p2.2) fun p3 =>
 .thn p3.2 (sBin .add p1.1 p3.1 p3.2) fun p4 =>
 .ok (p4.1, p4.2)) := by kernel_rfl
theorem refinerylaw03_Label_of : Of1 n_refinerylaw03_Label refinerylaw03_Label_c := fun hF => call_of hF refinerylaw03_Label_is rfl
end
end Go.Proofs.YtlpdlohikfkjnaaDoor.Sh
