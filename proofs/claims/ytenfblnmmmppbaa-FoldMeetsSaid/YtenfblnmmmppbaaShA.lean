/-
  The functions of the program, operation by operation, as the abstract machine has them.
-/
import Derived.Test.YtenfblnmmmppbaaProg
import Derived.Test.YtenfblnmmmppbaaShN
set_option linter.unusedVariables false
set_option maxRecDepth 100000
namespace Go.Proofs.Ytenfblnmmmppbaa.Sh
open Go Go.AM Go.Proofs

/-! ### (refinery/refinerylaw03.Line).Instr -/
open C in
noncomputable def refinerylaw03_Line_Instr_c : AFun := ⟨2, [.part 4 (some 7)],
 (s (.ops [o 2 (.lbox (t 0)), o 4 (.lnew [(u 0), (u 0), (i 0), (i 0), (i 0), (i 0), (i 0)])])
 (s (.draw [d 0 0 false (o 5 (.lref (t 2))), d 1 0 false (o 6 (.field none 0 (t 2))), d 2 0 false (o 7 (.bin .rem (t 6) (c (u 9)))), d 3 0 false (o 8 (.lref (t 2))), d 4 0 false (o 9 (.field none 1 (t 2))), d 5 0 false (o 10 (.bin .rem (t 9) (c (u 12)))), d 6 0 false (o 11 (.lref (t 2))), d 7 0 false (o 12 (.field none 2 (t 2))), d 8 0 false (o 13 (.conv (.int .i64) (t 12))), d 9 0 false (o 14 (.mv (t 1))), d 10 0 false (o 15 (.bin .rem (t 13) (t 14))), d 11 0 false (o 16 (.lref (t 2))), d 12 0 false (o 17 (.field none 3 (t 2))), d 13 0 false (o 18 (.conv (.int .i64) (t 17))), d 14 0 false (o 19 (.mv (t 1))), d 15 0 false (o 20 (.bin .rem (t 18) (t 19))), d 16 0 false (o 21 (.lref (t 2))), d 17 0 false (o 22 (.field none 4 (t 2))), d 18 0 false (o 23 (.conv (.int .i64) (t 22))), d 19 0 false (o 24 (.mv (t 1))), d 20 0 false (o 25 (.bin .rem (t 23) (t 24))), d 21 0 false (o 26 (.lref (t 2))), d 22 0 false (o 27 (.field none 6 (t 2))), d 23 0 false (o 28 (.conv (.int .i64) (t 27))), d 24 0 false (o 29 (.lref (t 2))), d 25 0 false (o 30 (.field none 5 (t 2))), d 26 0 false (o 31 (.bin .rem (t 30) (c (u 3)))), d 27 0 false (o 32 (.conv (.int .i64) (t 31))), d 28 0 false (o 33 (.build [(u 0), (u 0), (i 0), (i 0), (i 0), (i 0), (i 0)] [(0, 1, (t 7)), (1, 1, (t 10)), (2, 1, (t 15)), (3, 1, (t 20)), (4, 1, (t 25)), (5, 1, (t 28)), (6, 1, (t 32))])), d 29 0 true (o 34 (.call (f 22) [(t 33)])), d 30 0 true (o 4 (.upd 7 0 (t 4) (t 34)))])
 .ret))⟩
theorem refinerylaw03_Line_Instr_is : pgF n_refinerylaw03_Line_Instr = some refinerylaw03_Line_Instr_c := by kernel_rfl
theorem refinerylaw03_Line_Instr_eq (K : Ctx) (J : JT (Value × St)) (a0 a1 : Value) (st : St) : atX K J refinerylaw03_Line_Instr_c (AM.start [a0, a1]) st =
  (.thn st (sLbox a0 st) fun p1 =>
  .thn p1.2 (sLnew [(.int .u8 0), (.int .u8 0), (.int .i64 0), (.int .i64 0), (.int .i64 0), (.int .i64 0), (.int .i64 0)] p1.2) fun p2 =>
  .thn p2.2 (sLref p1.1 p2.2) fun p3 =>
  .thn p3.2 (sField none 0 p1.1 p3.2) fun p4 =>
  .thn p4.2 (sBin .rem p4.1 (.int .u8 9) p4.2) fun p5 =>
  .thn p5.2 (sLref p1.1 p5.2) fun p6 =>
  .thn p6.2 (sField none 1 p1.1 p6.2) fun p7 =>
  .thn p7.2 (sBin .rem p7.1 (.int .u8 12) p7.2) fun p8 =>
  .thn p8.2 (sLref p1.1 p8.2) fun p9 =>
  .thn p9.2 (sField none 2 p1.1 p9.2) fun p10 =>
  .thn p10.2 (sConv (.int .i64) p10.1 p10.2) fun p11 =>
  .thn p11.2 (sBin .rem p11.1 a1 p11.2) fun p12 =>
  .thn p12.2 (sLref p1.1 p12.2) fun p13 =>
  .thn p13.2 (sField none 3 p1.1 p13.2) fun p14 =>
  .thn p14.2 (sConv (.int .i64) p14.1 p14.2) fun p15 =>
  .thn p15.2 (sBin .rem p15.1 a1 p15.2) fun p16 =>
  .thn p16.2 (sLref p1.1 p16.2) fun p17 =>
  .thn p17.2 (sField none 4 p1.1 p17.2) fun p18 =>
  .thn p18.2 (sConv (.int .i64) p18.1 p18.2) fun p19 =>
  .thn p19.2 (sBin .rem p19.1 a1 p19.2) fun p20 =>
  .thn p20.2 (sLref p1.1 p20.2) fun p21 =>
  .thn p21.2 (sField none 6 p1.1 p21.2) fun p22 =>
  .thn p22.2 (sConv (.int .i64) p22.1 p22.2) fun p23 =>
  .thn p23.2 (sLref p1.1 p23.2) fun p24 =>
  .thn p24.2 (sField none 5 p1.1 p24.2) fun p25 =>
  .thn p25.2 (sBin .rem p25.1 (.int .u8 3) p25.2) fun p26 =>
  .thn p26.2 (sConv (.int .i64) p26.1 p26.2) fun p27 =>
  .thn p27.2 (sBuild [(.int .u8 0), (.int .u8 0), (.int .i64 0), (.int .i64 0), (.int .i64 0), (.int .i64 0), (.int .i64 0)] [(0, 1, p5.1), (1, 1, p8.1), (2, 1, p12.1), (3, 1, p16.1), (4, 1, p20.1), (5, 1, p23.1), (6, 1, p27.1)] p27.2) fun p28 =>
  .thn p28.2 (K.go (.call n_ir_Instr_Only [p28.1]) p28.2) fun p29 =>
  .thn p29.2 (sUpd 7 0 p2.1 p29.1 p29.2) fun p30 =>
  (sField (some 7) 0 p30.1 p30.2 >>= fun p31 => .ok [p31.1]) >>= fun vs => .ok (oneOf vs, p30.2)) := by kernel_rfl
theorem refinerylaw03_Line_Instr_of {K : Ctx} (hF : Fix pgF K) {a0 a1 : Value} {st : St} {Q : Value × St → Prop} (h : ∀ J, IsJ K (retK refinerylaw03_Line_Instr_c.results) J → Ok (atX K J refinerylaw03_Line_Instr_c (AM.start [a0, a1]) st) Q) : Ok (K.go (.call n_refinerylaw03_Line_Instr [a0, a1]) st) Q := call_of hF refinerylaw03_Line_Instr_is rfl h

/-! ### (refinery/ir.Instr).Reads -/
open C in
noncomputable def ir_Instr_Reads_c : AFun := ⟨1, [.tmp 2],
 (s (.ops [o 1 (.lbox (t 0)), o 2 (.mv (c (.slice none 0 0)))])
 (s (s (.ops [o 3 (.lref (t 1)), o 4 (.field none 0 (t 1))])
 (.block 0 (s (s (.ops [o 6 (.bin .eql (t 4) (c (u 1))), o 5 (.mv (t 6))])
 (.cond (t 5) .skip (s (.ops [o 7 (.bin .eql (t 4) (c (u 4))), o 5 (.mv (t 7))])
 (.cond (t 5) .skip (s (.ops [o 8 (.bin .eql (t 4) (c (u 6))), o 5 (.mv (t 8))])
 (.cond (t 5) .skip (.ops [o 9 (.bin .eql (t 4) (c (u 7))), o 5 (.mv (t 9))])))))))
 (s (.keep [1, 4, 5])
 (.cond (t 5) (s (.ops [o 10 (.lref (t 1)), o 11 (.field none 3 (t 1)), o 12 (.lit 1 1 [(i 0)] [(0, 1, (t 11))]), o 2 (.mv (t 12))])
 .ret) (s (s (.ops [o 14 (.bin .eql (t 4) (c (u 2))), o 13 (.mv (t 14))])
 (.cond (t 13) .skip (.ops [o 15 (.bin .eql (t 4) (c (u 8))), o 13 (.mv (t 15))])))
 (s (.keep [1, 13])
 (.cond (t 13) (s (.ops [o 16 (.lref (t 1)), o 17 (.field none 3 (t 1)), o 18 (.lref (t 1)), o 19 (.field none 4 (t 1)), o 20 (.lit 1 2 [(i 0), (i 0)] [(0, 1, (t 17)), (1, 1, (t 19))]), o 2 (.mv (t 20))])
 .ret) .skip))))))))
 (s (.keep [])
 (s (.ops [o 2 (.mv (c (.slice none 0 0)))])
 .ret))))⟩
theorem ir_Instr_Reads_is : pgF n_ir_Instr_Reads = some ir_Instr_Reads_c := by kernel_rfl
noncomputable def ir_Instr_Reads_j0 (J : JT (Value × St)) (v1 : Value) (v4 : Value) (v5 : Value) (st : St) : Res (Value × St) := goX J ir_Instr_Reads_c.body [1, 0, 1, 0, 1, 1] (envT [(1, v1), (4, v4), (5, v5)]) st
noncomputable def ir_Instr_Reads_j1 (J : JT (Value × St)) (v1 : Value) (v13 : Value) (st : St) : Res (Value × St) := goX J ir_Instr_Reads_c.body [1, 0, 1, 0, 1, 1, 1, 1, 1] (envT [(1, v1), (13, v13)]) st
noncomputable def ir_Instr_Reads_j2 (J : JT (Value × St)) (st : St) : Res (Value × St) := goX J ir_Instr_Reads_c.body [1, 1, 1] (envT []) st
theorem ir_Instr_Reads_eq (K : Ctx) (J : JT (Value × St)) (a0 : Value) (st : St) : atX K J ir_Instr_Reads_c (AM.start [a0]) st =
  (.thn st (sLbox a0 st) fun p1 =>
  .thn p1.2 (sLref p1.1 p1.2) fun p2 =>
  .thn p2.2 (sField none 0 p1.1 p2.2) fun p3 =>
  .thn p3.2 (sBin .eql p3.1 (.int .u8 1) p3.2) fun p4 =>
  condX p4.1
  (ir_Instr_Reads_j0 J p1.1 p3.1 p4.1 p4.2)
  (.thn p4.2 (sBin .eql p3.1 (.int .u8 4) p4.2) fun p5 =>
  condX p5.1
  (ir_Instr_Reads_j0 J p1.1 p3.1 p5.1 p5.2)
  (.thn p5.2 (sBin .eql p3.1 (.int .u8 6) p5.2) fun p6 =>
  condX p6.1
  (ir_Instr_Reads_j0 J p1.1 p3.1 p6.1 p6.2)
  (.thn p6.2 (sBin .eql p3.1 (.int .u8 7) p6.2) fun p7 =>
  ir_Instr_Reads_j0 J p1.1 p3.1 p7.1 p7.2)))) := by kernel_rfl
theorem ir_Instr_Reads_of {K : Ctx} (hF : Fix pgF K) {a0 : Value} {st : St} {Q : Value × St → Prop} (h : ∀ J, IsJ K (retK ir_Instr_Reads_c.results) J → Ok (atX K J ir_Instr_Reads_c (AM.start [a0]) st) Q) : Ok (K.go (.call n_ir_Instr_Reads [a0]) st) Q := call_of hF ir_Instr_Reads_is rfl h
theorem ir_Instr_Reads_j0_eq {K : Ctx} {J : JT (Value × St)} (hJ : IsJ K (retK ir_Instr_Reads_c.results) J) (v1 : Value) (v4 : Value) (v5 : Value) (st : St) : ir_Instr_Reads_j0 J v1 v4 v5 st =
  (condX v5
  (.thn st (sLref v1 st) fun p1 =>
  .thn p1.2 (sField none 3 v1 p1.2) fun p2 =>
  .thn p2.2 (sLit 1 1 [(.int .i64 0)] [(0, 1, p2.1)] p2.2) fun p3 =>
  .ok (p3.1, p3.2))
  (.thn st (sBin .eql v4 (.int .u8 2) st) fun p4 =>
  condX p4.1
  (ir_Instr_Reads_j1 J v1 p4.1 p4.2)
  (.thn p4.2 (sBin .eql v4 (.int .u8 8) p4.2) fun p5 =>
  ir_Instr_Reads_j1 J v1 p5.1 p5.2))) := (go_eq hJ _ _ _ _).trans (by kernel_rfl)
theorem ir_Instr_Reads_j1_eq {K : Ctx} {J : JT (Value × St)} (hJ : IsJ K (retK ir_Instr_Reads_c.results) J) (v1 : Value) (v13 : Value) (st : St) : ir_Instr_Reads_j1 J v1 v13 st =
  (condX v13
  (.thn st (sLref v1 st) fun p1 =>
  .thn p1.2 (sField none 3 v1 p1.2) fun p2 =>
  .thn p2.2 (sLref v1 p2.2) fun p3 =>
  .thn p3.2 (sField none 4 v1 p3.2) fun p4 =>
  .thn p4.2 (sLit 1 2 [(.int .i64 0), (.int .i64 0)] [(0, 1, p2.1), (1, 1, p4.1)] p4.2) fun p5 =>
  .ok (p5.1, p5.2))
  (ir_Instr_Reads_j2 J st)) := (go_eq hJ _ _ _ _).trans (by kernel_rfl)
theorem ir_Instr_Reads_j2_eq {K : Ctx} {J : JT (Value × St)} (hJ : IsJ K (retK ir_Instr_Reads_c.results) J) (st : St) : ir_Instr_Reads_j2 J st =
  (.ok ((.slice none 0 0), st)) := (go_eq hJ _ _ _ _).trans (by kernel_rfl)

/-! ### (refinery/ir.Instr).Sets -/
open C in
noncomputable def ir_Instr_Sets_c : AFun := ⟨1, [.tmp 2, .tmp 3],
 (s (.ops [o 1 (.lbox (t 0)), o 2 (.mv (c (i 0))), o 3 (.mv (c (.bool false)))])
 (s (s (.ops [o 4 (.lref (t 1)), o 5 (.field none 0 (t 1))])
 (.block 0 (s (s (.ops [o 7 (.bin .eql (t 5) (c (u 0))), o 6 (.mv (t 7))])
 (.cond (t 6) .skip (s (.ops [o 8 (.bin .eql (t 5) (c (u 1))), o 6 (.mv (t 8))])
 (.cond (t 6) .skip (s (.ops [o 9 (.bin .eql (t 5) (c (u 2))), o 6 (.mv (t 9))])
 (.cond (t 6) .skip (s (.ops [o 10 (.bin .eql (t 5) (c (u 3))), o 6 (.mv (t 10))])
 (.cond (t 6) .skip (s (.ops [o 11 (.bin .eql (t 5) (c (u 5))), o 6 (.mv (t 11))])
 (.cond (t 6) .skip (.ops [o 12 (.bin .eql (t 5) (c (u 7))), o 6 (.mv (t 12))])))))))))))
 (s (.keep [1, 6])
 (.cond (t 6) (s (.ops [o 13 (.lref (t 1)), o 14 (.field none 2 (t 1)), o 2 (.mv (t 14)), o 3 (.mv (c (.bool true)))])
 .ret) .skip)))))
 (s (.keep [])
 (s (.ops [o 2 (.mv (c (i 0))), o 3 (.mv (c (.bool false)))])
 .ret))))⟩
theorem ir_Instr_Sets_is : pgF n_ir_Instr_Sets = some ir_Instr_Sets_c := by kernel_rfl
noncomputable def ir_Instr_Sets_j0 (J : JT (Value × St)) (v1 : Value) (v6 : Value) (st : St) : Res (Value × St) := goX J ir_Instr_Sets_c.body [1, 0, 1, 0, 1, 1] (envT [(1, v1), (6, v6)]) st
noncomputable def ir_Instr_Sets_j1 (J : JT (Value × St)) (st : St) : Res (Value × St) := goX J ir_Instr_Sets_c.body [1, 1, 1] (envT []) st
theorem ir_Instr_Sets_eq (K : Ctx) (J : JT (Value × St)) (a0 : Value) (st : St) : atX K J ir_Instr_Sets_c (AM.start [a0]) st =
  (.thn st (sLbox a0 st) fun p1 =>
  .thn p1.2 (sLref p1.1 p1.2) fun p2 =>
  .thn p2.2 (sField none 0 p1.1 p2.2) fun p3 =>
  .thn p3.2 (sBin .eql p3.1 (.int .u8 0) p3.2) fun p4 =>
  condX p4.1
  (ir_Instr_Sets_j0 J p1.1 p4.1 p4.2)
  (.thn p4.2 (sBin .eql p3.1 (.int .u8 1) p4.2) fun p5 =>
  condX p5.1
  (ir_Instr_Sets_j0 J p1.1 p5.1 p5.2)
  (.thn p5.2 (sBin .eql p3.1 (.int .u8 2) p5.2) fun p6 =>
  condX p6.1
  (ir_Instr_Sets_j0 J p1.1 p6.1 p6.2)
  (.thn p6.2 (sBin .eql p3.1 (.int .u8 3) p6.2) fun p7 =>
  condX p7.1
  (ir_Instr_Sets_j0 J p1.1 p7.1 p7.2)
  (.thn p7.2 (sBin .eql p3.1 (.int .u8 5) p7.2) fun p8 =>
  condX p8.1
  (ir_Instr_Sets_j0 J p1.1 p8.1 p8.2)
  (.thn p8.2 (sBin .eql p3.1 (.int .u8 7) p8.2) fun p9 =>
  ir_Instr_Sets_j0 J p1.1 p9.1 p9.2)))))) := by kernel_rfl
theorem ir_Instr_Sets_of {K : Ctx} (hF : Fix pgF K) {a0 : Value} {st : St} {Q : Value × St → Prop} (h : ∀ J, IsJ K (retK ir_Instr_Sets_c.results) J → Ok (atX K J ir_Instr_Sets_c (AM.start [a0]) st) Q) : Ok (K.go (.call n_ir_Instr_Sets [a0]) st) Q := call_of hF ir_Instr_Sets_is rfl h
theorem ir_Instr_Sets_j0_eq {K : Ctx} {J : JT (Value × St)} (hJ : IsJ K (retK ir_Instr_Sets_c.results) J) (v1 : Value) (v6 : Value) (st : St) : ir_Instr_Sets_j0 J v1 v6 st =
  (condX v6
  (.thn st (sLref v1 st) fun p1 =>
  .thn p1.2 (sField none 2 v1 p1.2) fun p2 =>
  .ok (.tuple #[p2.1, (.bool true)], p2.2))
  (ir_Instr_Sets_j1 J st)) := (go_eq hJ _ _ _ _).trans (by kernel_rfl)
theorem ir_Instr_Sets_j1_eq {K : Ctx} {J : JT (Value × St)} (hJ : IsJ K (retK ir_Instr_Sets_c.results) J) (st : St) : ir_Instr_Sets_j1 J st =
  (.ok (.tuple #[(.int .i64 0), (.bool false)], st)) := (go_eq hJ _ _ _ _).trans (by kernel_rfl)

/-! ### (refinery/ir.Instr).Pure -/
open C in
noncomputable def ir_Instr_Pure_c : AFun := ⟨1, [.tmp 2],
 (s (.ops [o 1 (.lbox (t 0)), o 2 (.mv (c (.bool false)))])
 (s (.ops [o 3 (.lref (t 1)), o 4 (.field none 0 (t 1)), o 5 (.bin .eql (t 4) (c (u 0))), o 6 (.mv (t 5)), g 7 false 6 (.lref (t 1)), g 8 false 6 (.field none 0 (t 1)), g 9 false 6 (.bin .eql (t 8) (c (u 1))), o 10 (.pick (t 6) (c (.bool true)) (t 9)), o 11 (.mv (t 10)), g 12 false 11 (.lref (t 1)), g 13 false 11 (.field none 0 (t 1)), g 14 false 11 (.bin .eql (t 13) (c (u 2))), g 15 false 11 (.mv (t 14)), g 16 true 15 (.lref (t 1)), g 17 true 15 (.field none 1 (t 1)), g 18 true 15 (.call (f 46) [(t 17)]), g 19 true 15 (.un .not (t 18)), g 20 false 11 (.pick (t 15) (t 19) (c (.bool false))), o 21 (.pick (t 11) (c (.bool true)) (t 20)), o 2 (.mv (t 21))])
 .ret))⟩
theorem ir_Instr_Pure_is : pgF n_ir_Instr_Pure = some ir_Instr_Pure_c := by kernel_rfl
theorem ir_Instr_Pure_eq (K : Ctx) (J : JT (Value × St)) (a0 : Value) (st : St) : atX K J ir_Instr_Pure_c (AM.start [a0]) st =
  (.thn st (sLbox a0 st) fun p1 =>
  .thn p1.2 (sLref p1.1 p1.2) fun p2 =>
  .thn p2.2 (sField none 0 p1.1 p2.2) fun p3 =>
  .thn p3.2 (sBin .eql p3.1 (.int .u8 0) p3.2) fun p4 =>
  .thn p4.2 (sG p4.1 false (sLref p1.1 p4.2) p4.2) fun p5 =>
  .thn p5.2 (sG p4.1 false (sField none 0 p1.1 p5.2) p5.2) fun p6 =>
  .thn p6.2 (sG p4.1 false (sBin .eql p6.1 (.int .u8 1) p6.2) p6.2) fun p7 =>
  .thn p7.2 (sPick p4.1 (.bool true) p7.1 p7.2) fun p8 =>
  .thn p8.2 (sG p8.1 false (sLref p1.1 p8.2) p8.2) fun p9 =>
  .thn p9.2 (sG p8.1 false (sField none 0 p1.1 p9.2) p9.2) fun p10 =>
  .thn p10.2 (sG p8.1 false (sBin .eql p10.1 (.int .u8 2) p10.2) p10.2) fun p11 =>
  .thn p11.2 (sG p8.1 false (.ok (p11.1, p11.2)) p11.2) fun p12 =>
  .thn p12.2 (sG p12.1 true (sLref p1.1 p12.2) p12.2) fun p13 =>
  .thn p13.2 (sG p12.1 true (sField none 1 p1.1 p13.2) p13.2) fun p14 =>
  .thn p14.2 (sG p12.1 true (K.go (.call n_word_Op_Traps [p14.1]) p14.2) p14.2) fun p15 =>
  .thn p15.2 (sG p12.1 true (sUn .not p15.1 p15.2) p15.2) fun p16 =>
  .thn p16.2 (sG p8.1 false (sPick p12.1 p16.1 (.bool false) p16.2) p16.2) fun p17 =>
  .thn p17.2 (sPick p8.1 (.bool true) p17.1 p17.2) fun p18 =>
  .ok (p18.1, p18.2)) := by kernel_rfl
theorem ir_Instr_Pure_of {K : Ctx} (hF : Fix pgF K) {a0 : Value} {st : St} {Q : Value × St → Prop} (h : ∀ J, IsJ K (retK ir_Instr_Pure_c.results) J → Ok (atX K J ir_Instr_Pure_c (AM.start [a0]) st) Q) : Ok (K.go (.call n_ir_Instr_Pure [a0]) st) Q := call_of hF ir_Instr_Pure_is rfl h

/-! ### (refinery/ir.Instr).Only -/
open C in
noncomputable def ir_Instr_Only_c : AFun := ⟨1, [.part 2 (some 7)],
 (s (.ops [o 1 (.lbox (t 0)), o 2 (.lnew [(u 0), (u 0), (i 0), (i 0), (i 0), (i 0), (i 0)])])
 (s (.ops [o 5 (.lref (t 1)), o 6 (.field none 0 (t 1)), o 7 (.build [(u 0), (u 0), (i 0), (i 0), (i 0), (i 0), (i 0)] [(0, 1, (t 6))]), o 3 (.lnew [(u 0), (u 0), (i 0), (i 0), (i 0), (i 0), (i 0)]), o 3 (.upd 7 0 (t 3) (t 7))])
 (s (.ops [o 9 (.field (some 7) 0 (t 1)), o 10 (.call (f 12) [(t 9)]), o 8 (.mv (t 10)), o 11 (.extract (t 8) 0), o 12 (.extract (t 8) 1), o 13 (.lref (t 3)), o 3 (.upd 1 2 (t 3) (t 11))])
 (s (s (.ops [o 14 (.field (some 7) 0 (t 1)), o 15 (.call (f 11) [(t 14)]), o 4 (.mv (t 15))])
 (s (.ops [o 16 (.mv (t 4)), o 17 (.len .slice (t 16))])
 (.block 0 (s (.ops [o 19 (.bin .eql (t 17) (c (i 1))), o 18 (.mv (t 19))])
 (.cond (t 18) (.ops [o 20 (.mv (t 4)), o 21 (.ixA 1 none (t 20) (c (i 0))), o 22 (.load none (t 21)), o 23 (.lref (t 3)), o 3 (.upd 1 3 (t 3) (t 22))]) (s (.ops [o 25 (.bin .eql (t 17) (c (i 2))), o 24 (.mv (t 25))])
 (.cond (t 24) (.draw [d 0 0 false (o 26 (.mv (t 4))), d 1 0 false (o 27 (.ixA 1 none (t 26) (c (i 0)))), d 2 0 false (o 28 (.load none (t 27))), d 6 0 false (o 32 (.lref (t 3))), d 7 0 true (o 3 (.upd 1 3 (t 3) (t 28))), d 3 0 false (o 29 (.mv (t 4))), d 4 0 false (o 30 (.ixA 1 none (t 29) (c (i 1)))), d 5 1 false (o 31 (.load none (t 30))), d 8 0 false (o 33 (.lref (t 3))), d 9 0 true (o 3 (.upd 1 4 (t 3) (t 31)))]) .skip)))))))
 (s (.keep [1, 2, 3])
 (s (s (.ops [o 34 (.lref (t 1)), o 35 (.field none 0 (t 1))])
 (.block 1 (s (.ops [o 37 (.bin .eql (t 35) (c (u 0))), o 36 (.mv (t 37))])
 (.cond (t 36) (.ops [o 38 (.lref (t 1)), o 39 (.field none 5 (t 1)), o 40 (.lref (t 3)), o 3 (.upd 1 5 (t 3) (t 39))]) (s (.ops [o 42 (.bin .eql (t 35) (c (u 2))), o 41 (.mv (t 42))])
 (.cond (t 41) (.ops [o 43 (.lref (t 1)), o 44 (.field none 1 (t 1)), o 45 (.lref (t 3)), o 3 (.upd 1 1 (t 3) (t 44))]) (s (s (.ops [o 47 (.bin .eql (t 35) (c (u 5))), o 46 (.mv (t 47))])
 (.cond (t 46) .skip (.ops [o 48 (.bin .eql (t 35) (c (u 6))), o 46 (.mv (t 48))])))
 (s (.keep [1, 2, 3, 46])
 (.cond (t 46) (.ops [o 49 (.lref (t 1)), o 50 (.field none 6 (t 1)), o 51 (.lref (t 3)), o 3 (.upd 1 6 (t 3) (t 50))]) .skip)))))))))
 (s (.keep [2, 3])
 (s (.ops [o 52 (.field (some 7) 0 (t 3)), o 2 (.upd 7 0 (t 2) (t 52))])
 .ret))))))))⟩
theorem ir_Instr_Only_is : pgF n_ir_Instr_Only = some ir_Instr_Only_c := by kernel_rfl
noncomputable def ir_Instr_Only_j0 (J : JT (Value × St)) (v1 : Value) (v2 : Value) (v3 : Value) (st : St) : Res (Value × St) := goX J ir_Instr_Only_c.body [1, 1, 1, 1, 1] (envT [(1, v1), (2, v2), (3, v3)]) st
noncomputable def ir_Instr_Only_j1 (J : JT (Value × St)) (v2 : Value) (v3 : Value) (st : St) : Res (Value × St) := goX J ir_Instr_Only_c.body [1, 1, 1, 1, 1, 1, 1] (envT [(2, v2), (3, v3)]) st
noncomputable def ir_Instr_Only_j2 (J : JT (Value × St)) (v1 : Value) (v2 : Value) (v3 : Value) (v46 : Value) (st : St) : Res (Value × St) := goX J ir_Instr_Only_c.body [1, 1, 1, 1, 1, 0, 1, 0, 1, 1, 1, 1, 1, 1] (envT [(1, v1), (2, v2), (3, v3), (46, v46)]) st
theorem ir_Instr_Only_eq (K : Ctx) (J : JT (Value × St)) (a0 : Value) (st : St) : atX K J ir_Instr_Only_c (AM.start [a0]) st =
  (.thn st (sLbox a0 st) fun p1 =>
  .thn p1.2 (sLnew [(.int .u8 0), (.int .u8 0), (.int .i64 0), (.int .i64 0), (.int .i64 0), (.int .i64 0), (.int .i64 0)] p1.2) fun p2 =>
  .thn p2.2 (sLref p1.1 p2.2) fun p3 =>
  .thn p3.2 (sField none 0 p1.1 p3.2) fun p4 =>
  .thn p4.2 (sBuild [(.int .u8 0), (.int .u8 0), (.int .i64 0), (.int .i64 0), (.int .i64 0), (.int .i64 0), (.int .i64 0)] [(0, 1, p4.1)] p4.2) fun p5 =>
  .thn p5.2 (sLnew [(.int .u8 0), (.int .u8 0), (.int .i64 0), (.int .i64 0), (.int .i64 0), (.int .i64 0), (.int .i64 0)] p5.2) fun p6 =>
  .thn p6.2 (sUpd 7 0 p6.1 p5.1 p6.2) fun p7 =>
  .thn p7.2 (sField (some 7) 0 p1.1 p7.2) fun p8 =>
  .thn p8.2 (K.go (.call n_ir_Instr_Sets [p8.1]) p8.2) fun p9 =>
  .thn p9.2 (sExtract p9.1 0 p9.2) fun p10 =>
  .thn p10.2 (sExtract p9.1 1 p10.2) fun p11 =>
  .thn p11.2 (sLref p7.1 p11.2) fun p12 =>
  .thn p12.2 (sUpd 1 2 p7.1 p10.1 p12.2) fun p13 =>
  .thn p13.2 (sField (some 7) 0 p1.1 p13.2) fun p14 =>
  .thn p14.2 (K.go (.call n_ir_Instr_Reads [p14.1]) p14.2) fun p15 =>
  .thn p15.2 (sLen .slice p15.1 p15.2) fun p16 =>
  .thn p16.2 (sBin .eql p16.1 (.int .i64 1) p16.2) fun p17 =>
  condX p17.1
  (.thn p17.2 (sIxA 1 none p15.1 (.int .i64 0) p17.2) fun p18 =>
  .thn p18.2 (sLoad none p18.1 p18.2) fun p19 =>
  .thn p19.2 (sLref p13.1 p19.2) fun p20 =>
  .thn p20.2 (sUpd 1 3 p13.1 p19.1 p20.2) fun p21 =>
  ir_Instr_Only_j0 J p1.1 p2.1 p21.1 p21.2)
  (.thn p17.2 (sBin .eql p16.1 (.int .i64 2) p17.2) fun p22 =>
  condX p22.1
  (.thn p22.2 (sIxA 1 none p15.1 (.int .i64 0) p22.2) fun p23 =>
  .thn p23.2 (sLoad none p23.1 p23.2) fun p24 =>
  .thn p24.2 (sLref p13.1 p24.2) fun p25 =>
  .thn p25.2 (sUpd 1 3 p13.1 p24.1 p25.2) fun p26 =>
  .thn p26.2 (sIxA 1 none p15.1 (.int .i64 1) p26.2) fun p27 =>
  .thn p27.2 (sLoad none p27.1 p27.2) fun p28 =>
  Res.need (sStays (List.take 1 (p25.2 :: [])) p26.2.next p27.1 (fun s => sLoad none p27.1 s) p28.1) "order" >>= fun _ =>
  .thn p28.2 (sLref p26.1 p28.2) fun p29 =>
  .thn p29.2 (sUpd 1 4 p26.1 p28.1 p29.2) fun p30 =>
  ir_Instr_Only_j0 J p1.1 p2.1 p30.1 p30.2)
  (ir_Instr_Only_j0 J p1.1 p2.1 p13.1 p22.2))) := by kernel_rfl
theorem ir_Instr_Only_of {K : Ctx} (hF : Fix pgF K) {a0 : Value} {st : St} {Q : Value × St → Prop} (h : ∀ J, IsJ K (retK ir_Instr_Only_c.results) J → Ok (atX K J ir_Instr_Only_c (AM.start [a0]) st) Q) : Ok (K.go (.call n_ir_Instr_Only [a0]) st) Q := call_of hF ir_Instr_Only_is rfl h
theorem ir_Instr_Only_j0_eq {K : Ctx} {J : JT (Value × St)} (hJ : IsJ K (retK ir_Instr_Only_c.results) J) (v1 : Value) (v2 : Value) (v3 : Value) (st : St) : ir_Instr_Only_j0 J v1 v2 v3 st =
  (.thn st (sLref v1 st) fun p1 =>
  .thn p1.2 (sField none 0 v1 p1.2) fun p2 =>
  .thn p2.2 (sBin .eql p2.1 (.int .u8 0) p2.2) fun p3 =>
  condX p3.1
  (.thn p3.2 (sLref v1 p3.2) fun p4 =>
  .thn p4.2 (sField none 5 v1 p4.2) fun p5 =>
  .thn p5.2 (sLref v3 p5.2) fun p6 =>
  .thn p6.2 (sUpd 1 5 v3 p5.1 p6.2) fun p7 =>
  ir_Instr_Only_j1 J v2 p7.1 p7.2)
  (.thn p3.2 (sBin .eql p2.1 (.int .u8 2) p3.2) fun p8 =>
  condX p8.1
  (.thn p8.2 (sLref v1 p8.2) fun p9 =>
  .thn p9.2 (sField none 1 v1 p9.2) fun p10 =>
  .thn p10.2 (sLref v3 p10.2) fun p11 =>
  .thn p11.2 (sUpd 1 1 v3 p10.1 p11.2) fun p12 =>
  ir_Instr_Only_j1 J v2 p12.1 p12.2)
  (.thn p8.2 (sBin .eql p2.1 (.int .u8 5) p8.2) fun p13 =>
  condX p13.1
  (ir_Instr_Only_j2 J v1 v2 v3 p13.1 p13.2)
  (.thn p13.2 (sBin .eql p2.1 (.int .u8 6) p13.2) fun p14 =>
  ir_Instr_Only_j2 J v1 v2 v3 p14.1 p14.2)))) := (go_eq hJ _ _ _ _).trans (by kernel_rfl)
theorem ir_Instr_Only_j1_eq {K : Ctx} {J : JT (Value × St)} (hJ : IsJ K (retK ir_Instr_Only_c.results) J) (v2 : Value) (v3 : Value) (st : St) : ir_Instr_Only_j1 J v2 v3 st =
  (.thn st (sField (some 7) 0 v3 st) fun p1 =>
  .thn p1.2 (sUpd 7 0 v2 p1.1 p1.2) fun p2 =>
  (sField (some 7) 0 p2.1 p2.2 >>= fun p3 => .ok [p3.1]) >>= fun vs => .ok (oneOf vs, p2.2)) := (go_eq hJ _ _ _ _).trans (by kernel_rfl)
theorem ir_Instr_Only_j2_eq {K : Ctx} {J : JT (Value × St)} (hJ : IsJ K (retK ir_Instr_Only_c.results) J) (v1 : Value) (v2 : Value) (v3 : Value) (v46 : Value) (st : St) : ir_Instr_Only_j2 J v1 v2 v3 v46 st =
  (condX v46
  (.thn st (sLref v1 st) fun p1 =>
  .thn p1.2 (sField none 6 v1 p1.2) fun p2 =>
  .thn p2.2 (sLref v3 p2.2) fun p3 =>
  .thn p3.2 (sUpd 1 6 v3 p2.1 p3.2) fun p4 =>
  ir_Instr_Only_j1 J v2 p4.1 p4.2)
  (ir_Instr_Only_j1 J v2 v3 st)) := (go_eq hJ _ _ _ _).trans (by kernel_rfl)

/-! ### (refinery/ir.Program).Check -/
open C in
noncomputable def ir_Program_Check_c : AFun := ⟨1, [.tmp 2],
 (s (.ops [o 1 (.lbox (t 0)), o 2 (.mv (c (i 0)))])
 (s (s (.ops [o 15 (.lref (t 1)), o 16 (.field none 0 (t 1)), o 17 (.len .slice (t 16)), o 18 (.bin .lss (t 17) (c (i 1))), o 19 (.mv (t 18)), g 20 false 19 (.lref (t 1)), g 21 false 19 (.field none 0 (t 1)), g 22 false 19 (.len .slice (t 21)), g 23 false 19 (.bin .gtr (t 22) (c (i 400))), o 24 (.pick (t 19) (c (.bool true)) (t 23))])
 (.cond (t 24) (s (.ops [o 2 (.mv (c (i 7)))])
 .ret) .skip))
 (s (.keep [1])
 (s (s (.ops [o 25 (.field (some 1) 0 (t 1)), o 26 (.call (f 47) [(t 25)]), o 27 (.bin .gtr (t 26) (c (i 4000)))])
 (.cond (t 27) (s (.ops [o 2 (.mv (c (i 3)))])
 .ret) .skip))
 (s (.keep [1])
 (s (.ops [o 28 .newMap, o 3 (.mv (t 28))])
 (s (s (.ops [o 29 (.lref (t 1)), o 30 (.field none 0 (t 1)), o 31 (.len .slice (t 30)), o 32 (.mv (c (i 0)))])
 (.block 0 (s (.keep [1, 3, 30, 31, 32])
 (.loop (s (s (.ops [o 33 (.bin .lss (t 32) (t 31))])
 (s (.cond (t 33) .skip (.exit 0))
 (s (.keep [1, 3, 30, 31, 32])
 (s (.block 1 (s (.ops [o 34 (.ixA 7 none (t 30) (t 32)), o 35 (.load (some 7) (t 34)), o 5 (.lnew [(i 0), (.slice none 0 0), (.slice none 0 0), (u 0), (i 0), (i 0), (i 0)]), o 5 (.upd 7 0 (t 5) (t 35))])
 (s (s (.ops [o 36 (.lref (t 5)), o 37 (.field none 0 (t 5)), o 38 (.bin .lss (t 37) (c (i 0))), o 39 (.mv (t 38)), g 40 false 39 (.lref (t 5)), g 41 false 39 (.field none 0 (t 5)), g 42 false 39 (.bin .geq (t 41) (c (i 100000))), o 43 (.pick (t 39) (c (.bool true)) (t 42))])
 (.cond (t 43) (s (.ops [o 2 (.mv (c (i 2)))])
 .ret) .skip))
 (s (.keep [1, 3, 5, 30, 31, 32])
 (s (s (.ops [o 44 (.mv (t 3)), o 45 (.lref (t 5)), o 46 (.field none 0 (t 5)), o 47 (.look (.cell .int) (.bool false) false (t 44) (t 46))])
 (.cond (t 47) (s (.ops [o 2 (.mv (c (i 8)))])
 .ret) .skip))
 (s (.keep [1, 3, 5, 30, 31, 32])
 (.ops [o 48 (.mv (t 3)), o 49 (.lref (t 5)), o 50 (.field none 0 (t 5)), n (.mapSet (.cell .int) (t 48) (t 50) (c (.bool true)))])))))))
 (s (.keep [1, 3, 30, 31, 32])
 (.ops [o 51 (.bin .add (t 32) (c (i 1))), o 32 (.mv (t 51))]))))))
 (.keep [1, 3, 30, 31, 32]))))))
 (s (.keep [1, 3])
 (s (s (.ops [o 52 (.lref (t 1)), o 53 (.field none 0 (t 1)), o 54 (.len .slice (t 53)), o 55 (.mv (c (i 0)))])
 (.block 2 (s (.keep [3, 53, 54, 55])
 (.loop (s (s (.ops [o 56 (.bin .lss (t 55) (t 54))])
 (s (.cond (t 56) .skip (.exit 2))
 (s (.keep [3, 53, 54, 55])
 (s (.block 3 (s (.ops [o 57 (.ixA 7 none (t 53) (t 55)), o 58 (.load (some 7) (t 57)), o 7 (.lnew [(i 0), (.slice none 0 0), (.slice none 0 0), (u 0), (i 0), (i 0), (i 0)]), o 7 (.upd 7 0 (t 7) (t 58))])
 (s (s (.ops [o 59 (.lref (t 7)), o 60 (.field none 1 (t 7)), o 61 (.len .slice (t 60)), o 62 (.mv (c (i 0)))])
 (.block 4 (s (.keep [3, 7, 53, 54, 55, 60, 61, 62])
 (.loop (s (s (.ops [o 63 (.bin .lss (t 62) (t 61))])
 (s (.cond (t 63) .skip (.exit 4))
 (s (.keep [3, 7, 53, 54, 55, 60, 61, 62])
 (s (.block 5 (s (.ops [o 64 (.ixA 3 none (t 60) (t 62)), o 65 (.load (some 3) (t 64)), o 9 (.lnew [(i 0), (.slice none 0 0), (.slice none 0 0)]), o 9 (.upd 3 0 (t 9) (t 65))])
 (s (.ops [o 66 (.field (some 3) 0 (t 9)), o 67 (.mv (t 3)), o 68 (.call (f 48) [(t 66), (t 67)]), o 10 (.mv (t 68))])
 (s (.ops [o 69 (.mv (t 10)), o 70 (.bin .neq (t 69) (c (i 0)))])
 (.cond (t 70) (s (.ops [o 71 (.mv (t 10)), o 2 (.mv (t 71))])
 .ret) .skip)))))
 (s (.keep [3, 7, 53, 54, 55, 60, 61, 62])
 (.ops [o 72 (.bin .add (t 62) (c (i 1))), o 62 (.mv (t 72))]))))))
 (.keep [3, 7, 53, 54, 55, 60, 61, 62]))))))
 (s (.keep [3, 7, 53, 54, 55])
 (s (s (.ops [o 73 (.lref (t 7)), o 74 (.field none 2 (t 7)), o 75 (.len .slice (t 74)), o 76 (.mv (c (i 0)))])
 (.block 6 (s (.keep [3, 7, 53, 54, 55, 74, 75, 76])
 (.loop (s (s (.ops [o 77 (.bin .lss (t 76) (t 75))])
 (s (.cond (t 77) .skip (.exit 6))
 (s (.keep [3, 7, 53, 54, 55, 74, 75, 76])
 (s (.block 7 (s (.ops [o 78 (.ixA 7 none (t 74) (t 76)), o 79 (.load (some 7) (t 78)), o 12 (.lnew [(u 0), (u 0), (i 0), (i 0), (i 0), (i 0), (i 0)]), o 12 (.upd 7 0 (t 12) (t 79))])
 (s (.ops [o 80 (.field (some 7) 0 (t 12)), o 81 (.call (f 49) [(t 80)]), o 13 (.mv (t 81))])
 (s (.ops [o 82 (.mv (t 13)), o 83 (.bin .neq (t 82) (c (i 0)))])
 (.cond (t 83) (s (.ops [o 84 (.mv (t 13)), o 2 (.mv (t 84))])
 .ret) .skip)))))
 (s (.keep [3, 7, 53, 54, 55, 74, 75, 76])
 (.ops [o 85 (.bin .add (t 76) (c (i 1))), o 76 (.mv (t 85))]))))))
 (.keep [3, 7, 53, 54, 55, 74, 75, 76]))))))
 (s (.keep [3, 7, 53, 54, 55])
 (s (.ops [o 86 (.lref (t 7)), o 87 (.field (some 4) 3 (t 7)), o 88 (.mv (t 3)), o 89 (.call (f 50) [(t 87), (t 88)]), o 14 (.mv (t 89))])
 (s (.ops [o 90 (.mv (t 14)), o 91 (.bin .neq (t 90) (c (i 0)))])
 (.cond (t 91) (s (.ops [o 92 (.mv (t 14)), o 2 (.mv (t 92))])
 .ret) .skip)))))))))
 (s (.keep [3, 53, 54, 55])
 (.ops [o 93 (.bin .add (t 55) (c (i 1))), o 55 (.mv (t 93))]))))))
 (.keep [3, 53, 54, 55]))))))
 (s (.keep [])
 (s (.ops [o 2 (.mv (c (i 0)))])
 .ret)))))))))))⟩
theorem ir_Program_Check_is : pgF n_ir_Program_Check = some ir_Program_Check_c := by kernel_rfl
noncomputable def ir_Program_Check_j0 (J : JT (Value × St)) (v1 : Value) (st : St) : Res (Value × St) := goX J ir_Program_Check_c.body [1, 1, 1] (envT [(1, v1)]) st
noncomputable def ir_Program_Check_j1 (J : JT (Value × St)) (v1 : Value) (st : St) : Res (Value × St) := goX J ir_Program_Check_c.body [1, 1, 1, 1, 1] (envT [(1, v1)]) st
noncomputable def ir_Program_Check_l0 (J : JT (Value × St)) (v1 : Value) (v3 : Value) (v30 : Value) (v31 : Value) (v32 : Value) (st : St) : Res (Value × St) := lpX J ir_Program_Check_c.body [1, 1, 1, 1, 1, 1, 0, 1, 0, 1] (envT [(1, v1), (3, v3), (30, v30), (31, v31), (32, v32)]) st
noncomputable def ir_Program_Check_j2 (J : JT (Value × St)) (v1 : Value) (v3 : Value) (v30 : Value) (v31 : Value) (v32 : Value) (st : St) : Res (Value × St) := goX J ir_Program_Check_c.body [1, 1, 1, 1, 1, 1, 0, 1, 0, 1, 0, 0, 1, 1, 1] (envT [(1, v1), (3, v3), (30, v30), (31, v31), (32, v32)]) st
noncomputable def ir_Program_Check_j3 (J : JT (Value × St)) (v1 : Value) (v3 : Value) (st : St) : Res (Value × St) := goX J ir_Program_Check_c.body [1, 1, 1, 1, 1, 1, 1, 1] (envT [(1, v1), (3, v3)]) st
noncomputable def ir_Program_Check_j4 (J : JT (Value × St)) (v1 : Value) (v3 : Value) (v5 : Value) (v30 : Value) (v31 : Value) (v32 : Value) (st : St) : Res (Value × St) := goX J ir_Program_Check_c.body [1, 1, 1, 1, 1, 1, 0, 1, 0, 1, 0, 0, 1, 1, 1, 0, 0, 1, 1, 1] (envT [(1, v1), (3, v3), (5, v5), (30, v30), (31, v31), (32, v32)]) st
noncomputable def ir_Program_Check_l1 (J : JT (Value × St)) (v3 : Value) (v53 : Value) (v54 : Value) (v55 : Value) (st : St) : Res (Value × St) := lpX J ir_Program_Check_c.body [1, 1, 1, 1, 1, 1, 1, 1, 0, 1, 0, 1] (envT [(3, v3), (53, v53), (54, v54), (55, v55)]) st
noncomputable def ir_Program_Check_j5 (J : JT (Value × St)) (v1 : Value) (v3 : Value) (v5 : Value) (v30 : Value) (v31 : Value) (v32 : Value) (st : St) : Res (Value × St) := goX J ir_Program_Check_c.body [1, 1, 1, 1, 1, 1, 0, 1, 0, 1, 0, 0, 1, 1, 1, 0, 0, 1, 1, 1, 1, 1] (envT [(1, v1), (3, v3), (5, v5), (30, v30), (31, v31), (32, v32)]) st
noncomputable def ir_Program_Check_j6 (J : JT (Value × St)) (v3 : Value) (v53 : Value) (v54 : Value) (v55 : Value) (st : St) : Res (Value × St) := goX J ir_Program_Check_c.body [1, 1, 1, 1, 1, 1, 1, 1, 0, 1, 0, 1, 0, 0, 1, 1, 1] (envT [(3, v3), (53, v53), (54, v54), (55, v55)]) st
noncomputable def ir_Program_Check_j7 (J : JT (Value × St)) (st : St) : Res (Value × St) := goX J ir_Program_Check_c.body [1, 1, 1, 1, 1, 1, 1, 1, 1, 1] (envT []) st
noncomputable def ir_Program_Check_j8 (J : JT (Value × St)) (v1 : Value) (v3 : Value) (v30 : Value) (v31 : Value) (v32 : Value) (st : St) : Res (Value × St) := goX J ir_Program_Check_c.body [1, 1, 1, 1, 1, 1, 0, 1, 0, 1, 0, 0, 1, 1, 1, 1, 1] (envT [(1, v1), (3, v3), (30, v30), (31, v31), (32, v32)]) st
noncomputable def ir_Program_Check_l2 (J : JT (Value × St)) (v3 : Value) (v7 : Value) (v53 : Value) (v54 : Value) (v55 : Value) (v60 : Value) (v61 : Value) (v62 : Value) (st : St) : Res (Value × St) := lpX J ir_Program_Check_c.body [1, 1, 1, 1, 1, 1, 1, 1, 0, 1, 0, 1, 0, 0, 1, 1, 1, 0, 0, 1, 0, 1, 0, 1] (envT [(3, v3), (7, v7), (53, v53), (54, v54), (55, v55), (60, v60), (61, v61), (62, v62)]) st
noncomputable def ir_Program_Check_j9 (J : JT (Value × St)) (v3 : Value) (v7 : Value) (v53 : Value) (v54 : Value) (v55 : Value) (v60 : Value) (v61 : Value) (v62 : Value) (st : St) : Res (Value × St) := goX J ir_Program_Check_c.body [1, 1, 1, 1, 1, 1, 1, 1, 0, 1, 0, 1, 0, 0, 1, 1, 1, 0, 0, 1, 0, 1, 0, 1, 0, 0, 1, 1, 1] (envT [(3, v3), (7, v7), (53, v53), (54, v54), (55, v55), (60, v60), (61, v61), (62, v62)]) st
noncomputable def ir_Program_Check_j10 (J : JT (Value × St)) (v3 : Value) (v7 : Value) (v53 : Value) (v54 : Value) (v55 : Value) (st : St) : Res (Value × St) := goX J ir_Program_Check_c.body [1, 1, 1, 1, 1, 1, 1, 1, 0, 1, 0, 1, 0, 0, 1, 1, 1, 0, 0, 1, 1, 1] (envT [(3, v3), (7, v7), (53, v53), (54, v54), (55, v55)]) st
noncomputable def ir_Program_Check_j11 (J : JT (Value × St)) (v3 : Value) (v7 : Value) (v53 : Value) (v54 : Value) (v55 : Value) (v60 : Value) (v61 : Value) (v62 : Value) (st : St) : Res (Value × St) := goX J ir_Program_Check_c.body [1, 1, 1, 1, 1, 1, 1, 1, 0, 1, 0, 1, 0, 0, 1, 1, 1, 0, 0, 1, 0, 1, 0, 1, 0, 0, 1, 1, 1, 1, 1] (envT [(3, v3), (7, v7), (53, v53), (54, v54), (55, v55), (60, v60), (61, v61), (62, v62)]) st
noncomputable def ir_Program_Check_l3 (J : JT (Value × St)) (v3 : Value) (v7 : Value) (v53 : Value) (v54 : Value) (v55 : Value) (v74 : Value) (v75 : Value) (v76 : Value) (st : St) : Res (Value × St) := lpX J ir_Program_Check_c.body [1, 1, 1, 1, 1, 1, 1, 1, 0, 1, 0, 1, 0, 0, 1, 1, 1, 0, 0, 1, 1, 1, 0, 1, 0, 1] (envT [(3, v3), (7, v7), (53, v53), (54, v54), (55, v55), (74, v74), (75, v75), (76, v76)]) st
noncomputable def ir_Program_Check_j12 (J : JT (Value × St)) (v3 : Value) (v7 : Value) (v53 : Value) (v54 : Value) (v55 : Value) (v74 : Value) (v75 : Value) (v76 : Value) (st : St) : Res (Value × St) := goX J ir_Program_Check_c.body [1, 1, 1, 1, 1, 1, 1, 1, 0, 1, 0, 1, 0, 0, 1, 1, 1, 0, 0, 1, 1, 1, 0, 1, 0, 1, 0, 0, 1, 1, 1] (envT [(3, v3), (7, v7), (53, v53), (54, v54), (55, v55), (74, v74), (75, v75), (76, v76)]) st
noncomputable def ir_Program_Check_j13 (J : JT (Value × St)) (v3 : Value) (v7 : Value) (v53 : Value) (v54 : Value) (v55 : Value) (st : St) : Res (Value × St) := goX J ir_Program_Check_c.body [1, 1, 1, 1, 1, 1, 1, 1, 0, 1, 0, 1, 0, 0, 1, 1, 1, 0, 0, 1, 1, 1, 1, 1] (envT [(3, v3), (7, v7), (53, v53), (54, v54), (55, v55)]) st
noncomputable def ir_Program_Check_j14 (J : JT (Value × St)) (v3 : Value) (v7 : Value) (v53 : Value) (v54 : Value) (v55 : Value) (v74 : Value) (v75 : Value) (v76 : Value) (st : St) : Res (Value × St) := goX J ir_Program_Check_c.body [1, 1, 1, 1, 1, 1, 1, 1, 0, 1, 0, 1, 0, 0, 1, 1, 1, 0, 0, 1, 1, 1, 0, 1, 0, 1, 0, 0, 1, 1, 1, 1, 1] (envT [(3, v3), (7, v7), (53, v53), (54, v54), (55, v55), (74, v74), (75, v75), (76, v76)]) st
noncomputable def ir_Program_Check_j15 (J : JT (Value × St)) (v3 : Value) (v53 : Value) (v54 : Value) (v55 : Value) (st : St) : Res (Value × St) := goX J ir_Program_Check_c.body [1, 1, 1, 1, 1, 1, 1, 1, 0, 1, 0, 1, 0, 0, 1, 1, 1, 1, 1] (envT [(3, v3), (53, v53), (54, v54), (55, v55)]) st
theorem ir_Program_Check_eq (K : Ctx) (J : JT (Value × St)) (a0 : Value) (st : St) : atX K J ir_Program_Check_c (AM.start [a0]) st =
  (.thn st (sLbox a0 st) fun p1 =>
  .thn p1.2 (sLref p1.1 p1.2) fun p2 =>
  .thn p2.2 (sField none 0 p1.1 p2.2) fun p3 =>
  .thn p3.2 (sLen .slice p3.1 p3.2) fun p4 =>
  .thn p4.2 (sBin .lss p4.1 (.int .i64 1) p4.2) fun p5 =>
  .thn p5.2 (sG p5.1 false (sLref p1.1 p5.2) p5.2) fun p6 =>
  .thn p6.2 (sG p5.1 false (sField none 0 p1.1 p6.2) p6.2) fun p7 =>
  .thn p7.2 (sG p5.1 false (sLen .slice p7.1 p7.2) p7.2) fun p8 =>
  .thn p8.2 (sG p5.1 false (sBin .gtr p8.1 (.int .i64 400) p8.2) p8.2) fun p9 =>
  .thn p9.2 (sPick p5.1 (.bool true) p9.1 p9.2) fun p10 =>
  condX p10.1
  (.ok ((.int .i64 7), p10.2))
  (ir_Program_Check_j0 J p1.1 p10.2)) := by kernel_rfl
theorem ir_Program_Check_of {K : Ctx} (hF : Fix pgF K) {a0 : Value} {st : St} {Q : Value × St → Prop} (h : ∀ J, IsJ K (retK ir_Program_Check_c.results) J → Ok (atX K J ir_Program_Check_c (AM.start [a0]) st) Q) : Ok (K.go (.call n_ir_Program_Check [a0]) st) Q := call_of hF ir_Program_Check_is rfl h
theorem ir_Program_Check_j0_eq {K : Ctx} {J : JT (Value × St)} (hJ : IsJ K (retK ir_Program_Check_c.results) J) (v1 : Value) (st : St) : ir_Program_Check_j0 J v1 st =
  (.thn st (sField (some 1) 0 v1 st) fun p1 =>
  .thn p1.2 (K.go (.call n_ir_Program_Count [p1.1]) p1.2) fun p2 =>
  .thn p2.2 (sBin .gtr p2.1 (.int .i64 4000) p2.2) fun p3 =>
  condX p3.1
  (.ok ((.int .i64 3), p3.2))
  (ir_Program_Check_j1 J v1 p3.2)) := (go_eq hJ _ _ _ _).trans (by kernel_rfl)
theorem ir_Program_Check_j1_eq {K : Ctx} {J : JT (Value × St)} (hJ : IsJ K (retK ir_Program_Check_c.results) J) (v1 : Value) (st : St) : ir_Program_Check_j1 J v1 st =
  (.thn st (sNewMap st) fun p1 =>
  .thn p1.2 (sLref v1 p1.2) fun p2 =>
  .thn p2.2 (sField none 0 v1 p2.2) fun p3 =>
  .thn p3.2 (sLen .slice p3.1 p3.2) fun p4 =>
  ir_Program_Check_l0 J v1 p1.1 p3.1 p4.1 (.int .i64 0) p4.2) := (go_eq hJ _ _ _ _).trans (by kernel_rfl)
theorem ir_Program_Check_l0_eq (K : Ctx) (J : JT (Value × St)) (v1 : Value) (v3 : Value) (v30 : Value) (v31 : Value) (v32 : Value) (st : St) : inX K J (retK ir_Program_Check_c.results) ir_Program_Check_c.body [1, 1, 1, 1, 1, 1, 0, 1, 0, 1] (envT [(1, v1), (3, v3), (30, v30), (31, v31), (32, v32)]) st =
  (.thn st (sBin .lss v32 v31 st) fun p1 =>
  condX p1.1
  (ir_Program_Check_j2 J v1 v3 v30 v31 v32 p1.2)
  (ir_Program_Check_j3 J v1 v3 p1.2)) := by kernel_rfl
theorem ir_Program_Check_l0_of {K : Ctx} (hF : Fix pgF K) {J : JT (Value × St)} (hJ : IsJ K (retK ir_Program_Check_c.results) J) {v1 : Value} {v3 : Value} {v30 : Value} {v31 : Value} {v32 : Value} {st : St} {Q : Value × St → Prop} (h : Ok (inX K J (retK ir_Program_Check_c.results) ir_Program_Check_c.body [1, 1, 1, 1, 1, 1, 0, 1, 0, 1] (envT [(1, v1), (3, v3), (30, v30), (31, v31), (32, v32)]) st) Q) : Ok (ir_Program_Check_l0 J v1 v3 v30 v31 v32 st) Q := loop_of hF hJ h
theorem ir_Program_Check_j2_eq {K : Ctx} {J : JT (Value × St)} (hJ : IsJ K (retK ir_Program_Check_c.results) J) (v1 : Value) (v3 : Value) (v30 : Value) (v31 : Value) (v32 : Value) (st : St) : ir_Program_Check_j2 J v1 v3 v30 v31 v32 st =
  (.thn st (sIxA 7 none v30 v32 st) fun p1 =>
  .thn p1.2 (sLoad (some 7) p1.1 p1.2) fun p2 =>
  .thn p2.2 (sLnew [(.int .i64 0), (.slice none 0 0), (.slice none 0 0), (.int .u8 0), (.int .i64 0), (.int .i64 0), (.int .i64 0)] p2.2) fun p3 =>
  .thn p3.2 (sUpd 7 0 p3.1 p2.1 p3.2) fun p4 =>
  .thn p4.2 (sLref p4.1 p4.2) fun p5 =>
  .thn p5.2 (sField none 0 p4.1 p5.2) fun p6 =>
  .thn p6.2 (sBin .lss p6.1 (.int .i64 0) p6.2) fun p7 =>
  .thn p7.2 (sG p7.1 false (sLref p4.1 p7.2) p7.2) fun p8 =>
  .thn p8.2 (sG p7.1 false (sField none 0 p4.1 p8.2) p8.2) fun p9 =>
  .thn p9.2 (sG p7.1 false (sBin .geq p9.1 (.int .i64 100000) p9.2) p9.2) fun p10 =>
  .thn p10.2 (sPick p7.1 (.bool true) p10.1 p10.2) fun p11 =>
  condX p11.1
  (.ok ((.int .i64 2), p11.2))
  (ir_Program_Check_j4 J v1 v3 p4.1 v30 v31 v32 p11.2)) := (go_eq hJ _ _ _ _).trans (by kernel_rfl)
theorem ir_Program_Check_j3_eq {K : Ctx} {J : JT (Value × St)} (hJ : IsJ K (retK ir_Program_Check_c.results) J) (v1 : Value) (v3 : Value) (st : St) : ir_Program_Check_j3 J v1 v3 st =
  (.thn st (sLref v1 st) fun p1 =>
  .thn p1.2 (sField none 0 v1 p1.2) fun p2 =>
  .thn p2.2 (sLen .slice p2.1 p2.2) fun p3 =>
  ir_Program_Check_l1 J v3 p2.1 p3.1 (.int .i64 0) p3.2) := (go_eq hJ _ _ _ _).trans (by kernel_rfl)
theorem ir_Program_Check_j4_eq {K : Ctx} {J : JT (Value × St)} (hJ : IsJ K (retK ir_Program_Check_c.results) J) (v1 : Value) (v3 : Value) (v5 : Value) (v30 : Value) (v31 : Value) (v32 : Value) (st : St) : ir_Program_Check_j4 J v1 v3 v5 v30 v31 v32 st =
  (.thn st (sLref v5 st) fun p1 =>
  .thn p1.2 (sField none 0 v5 p1.2) fun p2 =>
  .thn p2.2 (sLook (.cell .int) (.bool false) false v3 p2.1 p2.2) fun p3 =>
  condX p3.1
  (.ok ((.int .i64 8), p3.2))
  (ir_Program_Check_j5 J v1 v3 v5 v30 v31 v32 p3.2)) := (go_eq hJ _ _ _ _).trans (by kernel_rfl)
theorem ir_Program_Check_l1_eq (K : Ctx) (J : JT (Value × St)) (v3 : Value) (v53 : Value) (v54 : Value) (v55 : Value) (st : St) : inX K J (retK ir_Program_Check_c.results) ir_Program_Check_c.body [1, 1, 1, 1, 1, 1, 1, 1, 0, 1, 0, 1] (envT [(3, v3), (53, v53), (54, v54), (55, v55)]) st =
  (.thn st (sBin .lss v55 v54 st) fun p1 =>
  condX p1.1
  (ir_Program_Check_j6 J v3 v53 v54 v55 p1.2)
  (ir_Program_Check_j7 J p1.2)) := by kernel_rfl
theorem ir_Program_Check_l1_of {K : Ctx} (hF : Fix pgF K) {J : JT (Value × St)} (hJ : IsJ K (retK ir_Program_Check_c.results) J) {v3 : Value} {v53 : Value} {v54 : Value} {v55 : Value} {st : St} {Q : Value × St → Prop} (h : Ok (inX K J (retK ir_Program_Check_c.results) ir_Program_Check_c.body [1, 1, 1, 1, 1, 1, 1, 1, 0, 1, 0, 1] (envT [(3, v3), (53, v53), (54, v54), (55, v55)]) st) Q) : Ok (ir_Program_Check_l1 J v3 v53 v54 v55 st) Q := loop_of hF hJ h
theorem ir_Program_Check_j5_eq {K : Ctx} {J : JT (Value × St)} (hJ : IsJ K (retK ir_Program_Check_c.results) J) (v1 : Value) (v3 : Value) (v5 : Value) (v30 : Value) (v31 : Value) (v32 : Value) (st : St) : ir_Program_Check_j5 J v1 v3 v5 v30 v31 v32 st =
  (.thn st (sLref v5 st) fun p1 =>
  .thn p1.2 (sField none 0 v5 p1.2) fun p2 =>
  .thn p2.2 (sMapSet (.cell .int) v3 p2.1 (.bool true) p2.2) fun p3 =>
  ir_Program_Check_j8 J v1 v3 v30 v31 v32 p3.2) := (go_eq hJ _ _ _ _).trans (by kernel_rfl)
theorem ir_Program_Check_j6_eq {K : Ctx} {J : JT (Value × St)} (hJ : IsJ K (retK ir_Program_Check_c.results) J) (v3 : Value) (v53 : Value) (v54 : Value) (v55 : Value) (st : St) : ir_Program_Check_j6 J v3 v53 v54 v55 st =
  (.thn st (sIxA 7 none v53 v55 st) fun p1 =>
  .thn p1.2 (sLoad (some 7) p1.1 p1.2) fun p2 =>
  .thn p2.2 (sLnew [(.int .i64 0), (.slice none 0 0), (.slice none 0 0), (.int .u8 0), (.int .i64 0), (.int .i64 0), (.int .i64 0)] p2.2) fun p3 =>
  .thn p3.2 (sUpd 7 0 p3.1 p2.1 p3.2) fun p4 =>
  .thn p4.2 (sLref p4.1 p4.2) fun p5 =>
  .thn p5.2 (sField none 1 p4.1 p5.2) fun p6 =>
  .thn p6.2 (sLen .slice p6.1 p6.2) fun p7 =>
  ir_Program_Check_l2 J v3 p4.1 v53 v54 v55 p6.1 p7.1 (.int .i64 0) p7.2) := (go_eq hJ _ _ _ _).trans (by kernel_rfl)
theorem ir_Program_Check_j7_eq {K : Ctx} {J : JT (Value × St)} (hJ : IsJ K (retK ir_Program_Check_c.results) J) (st : St) : ir_Program_Check_j7 J st =
  (.ok ((.int .i64 0), st)) := (go_eq hJ _ _ _ _).trans (by kernel_rfl)
theorem ir_Program_Check_j8_eq {K : Ctx} {J : JT (Value × St)} (hJ : IsJ K (retK ir_Program_Check_c.results) J) (v1 : Value) (v3 : Value) (v30 : Value) (v31 : Value) (v32 : Value) (st : St) : ir_Program_Check_j8 J v1 v3 v30 v31 v32 st =
  (.thn st (sBin .add v32 (.int .i64 1) st) fun p1 =>
  ir_Program_Check_l0 J v1 v3 v30 v31 p1.1 p1.2) := (go_eq hJ _ _ _ _).trans (by kernel_rfl)
theorem ir_Program_Check_l2_eq (K : Ctx) (J : JT (Value × St)) (v3 : Value) (v7 : Value) (v53 : Value) (v54 : Value) (v55 : Value) (v60 : Value) (v61 : Value) (v62 : Value) (st : St) : inX K J (retK ir_Program_Check_c.results) ir_Program_Check_c.body [1, 1, 1, 1, 1, 1, 1, 1, 0, 1, 0, 1, 0, 0, 1, 1, 1, 0, 0, 1, 0, 1, 0, 1] (envT [(3, v3), (7, v7), (53, v53), (54, v54), (55, v55), (60, v60), (61, v61), (62, v62)]) st =
  (.thn st (sBin .lss v62 v61 st) fun p1 =>
  condX p1.1
  (ir_Program_Check_j9 J v3 v7 v53 v54 v55 v60 v61 v62 p1.2)
  (ir_Program_Check_j10 J v3 v7 v53 v54 v55 p1.2)) := by kernel_rfl
theorem ir_Program_Check_l2_of {K : Ctx} (hF : Fix pgF K) {J : JT (Value × St)} (hJ : IsJ K (retK ir_Program_Check_c.results) J) {v3 : Value} {v7 : Value} {v53 : Value} {v54 : Value} {v55 : Value} {v60 : Value} {v61 : Value} {v62 : Value} {st : St} {Q : Value × St → Prop} (h : Ok (inX K J (retK ir_Program_Check_c.results) ir_Program_Check_c.body [1, 1, 1, 1, 1, 1, 1, 1, 0, 1, 0, 1, 0, 0, 1, 1, 1, 0, 0, 1, 0, 1, 0, 1] (envT [(3, v3), (7, v7), (53, v53), (54, v54), (55, v55), (60, v60), (61, v61), (62, v62)]) st) Q) : Ok (ir_Program_Check_l2 J v3 v7 v53 v54 v55 v60 v61 v62 st) Q := loop_of hF hJ h
theorem ir_Program_Check_j9_eq {K : Ctx} {J : JT (Value × St)} (hJ : IsJ K (retK ir_Program_Check_c.results) J) (v3 : Value) (v7 : Value) (v53 : Value) (v54 : Value) (v55 : Value) (v60 : Value) (v61 : Value) (v62 : Value) (st : St) : ir_Program_Check_j9 J v3 v7 v53 v54 v55 v60 v61 v62 st =
  (.thn st (sIxA 3 none v60 v62 st) fun p1 =>
  .thn p1.2 (sLoad (some 3) p1.1 p1.2) fun p2 =>
  .thn p2.2 (sLnew [(.int .i64 0), (.slice none 0 0), (.slice none 0 0)] p2.2) fun p3 =>
  .thn p3.2 (sUpd 3 0 p3.1 p2.1 p3.2) fun p4 =>
  .thn p4.2 (sField (some 3) 0 p4.1 p4.2) fun p5 =>
  .thn p5.2 (K.go (.call n_ir_Phi_check [p5.1, v3]) p5.2) fun p6 =>
  .thn p6.2 (sBin .neq p6.1 (.int .i64 0) p6.2) fun p7 =>
  condX p7.1
  (.ok (p6.1, p7.2))
  (ir_Program_Check_j11 J v3 v7 v53 v54 v55 v60 v61 v62 p7.2)) := (go_eq hJ _ _ _ _).trans (by kernel_rfl)
theorem ir_Program_Check_j10_eq {K : Ctx} {J : JT (Value × St)} (hJ : IsJ K (retK ir_Program_Check_c.results) J) (v3 : Value) (v7 : Value) (v53 : Value) (v54 : Value) (v55 : Value) (st : St) : ir_Program_Check_j10 J v3 v7 v53 v54 v55 st =
  (.thn st (sLref v7 st) fun p1 =>
  .thn p1.2 (sField none 2 v7 p1.2) fun p2 =>
  .thn p2.2 (sLen .slice p2.1 p2.2) fun p3 =>
  ir_Program_Check_l3 J v3 v7 v53 v54 v55 p2.1 p3.1 (.int .i64 0) p3.2) := (go_eq hJ _ _ _ _).trans (by kernel_rfl)
theorem ir_Program_Check_j11_eq {K : Ctx} {J : JT (Value × St)} (hJ : IsJ K (retK ir_Program_Check_c.results) J) (v3 : Value) (v7 : Value) (v53 : Value) (v54 : Value) (v55 : Value) (v60 : Value) (v61 : Value) (v62 : Value) (st : St) : ir_Program_Check_j11 J v3 v7 v53 v54 v55 v60 v61 v62 st =
  (.thn st (sBin .add v62 (.int .i64 1) st) fun p1 =>
  ir_Program_Check_l2 J v3 v7 v53 v54 v55 v60 v61 p1.1 p1.2) := (go_eq hJ _ _ _ _).trans (by kernel_rfl)
theorem ir_Program_Check_l3_eq (K : Ctx) (J : JT (Value × St)) (v3 : Value) (v7 : Value) (v53 : Value) (v54 : Value) (v55 : Value) (v74 : Value) (v75 : Value) (v76 : Value) (st : St) : inX K J (retK ir_Program_Check_c.results) ir_Program_Check_c.body [1, 1, 1, 1, 1, 1, 1, 1, 0, 1, 0, 1, 0, 0, 1, 1, 1, 0, 0, 1, 1, 1, 0, 1, 0, 1] (envT [(3, v3), (7, v7), (53, v53), (54, v54), (55, v55), (74, v74), (75, v75), (76, v76)]) st =
  (.thn st (sBin .lss v76 v75 st) fun p1 =>
  condX p1.1
  (ir_Program_Check_j12 J v3 v7 v53 v54 v55 v74 v75 v76 p1.2)
  (ir_Program_Check_j13 J v3 v7 v53 v54 v55 p1.2)) := by kernel_rfl
theorem ir_Program_Check_l3_of {K : Ctx} (hF : Fix pgF K) {J : JT (Value × St)} (hJ : IsJ K (retK ir_Program_Check_c.results) J) {v3 : Value} {v7 : Value} {v53 : Value} {v54 : Value} {v55 : Value} {v74 : Value} {v75 : Value} {v76 : Value} {st : St} {Q : Value × St → Prop} (h : Ok (inX K J (retK ir_Program_Check_c.results) ir_Program_Check_c.body [1, 1, 1, 1, 1, 1, 1, 1, 0, 1, 0, 1, 0, 0, 1, 1, 1, 0, 0, 1, 1, 1, 0, 1, 0, 1] (envT [(3, v3), (7, v7), (53, v53), (54, v54), (55, v55), (74, v74), (75, v75), (76, v76)]) st) Q) : Ok (ir_Program_Check_l3 J v3 v7 v53 v54 v55 v74 v75 v76 st) Q := loop_of hF hJ h
theorem ir_Program_Check_j12_eq {K : Ctx} {J : JT (Value × St)} (hJ : IsJ K (retK ir_Program_Check_c.results) J) (v3 : Value) (v7 : Value) (v53 : Value) (v54 : Value) (v55 : Value) (v74 : Value) (v75 : Value) (v76 : Value) (st : St) : ir_Program_Check_j12 J v3 v7 v53 v54 v55 v74 v75 v76 st =
  (.thn st (sIxA 7 none v74 v76 st) fun p1 =>
  .thn p1.2 (sLoad (some 7) p1.1 p1.2) fun p2 =>
  .thn p2.2 (sLnew [(.int .u8 0), (.int .u8 0), (.int .i64 0), (.int .i64 0), (.int .i64 0), (.int .i64 0), (.int .i64 0)] p2.2) fun p3 =>
  .thn p3.2 (sUpd 7 0 p3.1 p2.1 p3.2) fun p4 =>
  .thn p4.2 (sField (some 7) 0 p4.1 p4.2) fun p5 =>
  .thn p5.2 (K.go (.call n_ir_Instr_check [p5.1]) p5.2) fun p6 =>
  .thn p6.2 (sBin .neq p6.1 (.int .i64 0) p6.2) fun p7 =>
  condX p7.1
  (.ok (p6.1, p7.2))
  (ir_Program_Check_j14 J v3 v7 v53 v54 v55 v74 v75 v76 p7.2)) := (go_eq hJ _ _ _ _).trans (by kernel_rfl)
theorem ir_Program_Check_j13_eq {K : Ctx} {J : JT (Value × St)} (hJ : IsJ K (retK ir_Program_Check_c.results) J) (v3 : Value) (v7 : Value) (v53 : Value) (v54 : Value) (v55 : Value) (st : St) : ir_Program_Check_j13 J v3 v7 v53 v54 v55 st =
  (.thn st (sLref v7 st) fun p1 =>
  .thn p1.2 (sField (some 4) 3 v7 p1.2) fun p2 =>
  .thn p2.2 (K.go (.call n_ir_Last_check [p2.1, v3]) p2.2) fun p3 =>
  .thn p3.2 (sBin .neq p3.1 (.int .i64 0) p3.2) fun p4 =>
  condX p4.1
  (.ok (p3.1, p4.2))
  (ir_Program_Check_j15 J v3 v53 v54 v55 p4.2)) := (go_eq hJ _ _ _ _).trans (by kernel_rfl)
theorem ir_Program_Check_j14_eq {K : Ctx} {J : JT (Value × St)} (hJ : IsJ K (retK ir_Program_Check_c.results) J) (v3 : Value) (v7 : Value) (v53 : Value) (v54 : Value) (v55 : Value) (v74 : Value) (v75 : Value) (v76 : Value) (st : St) : ir_Program_Check_j14 J v3 v7 v53 v54 v55 v74 v75 v76 st =
  (.thn st (sBin .add v76 (.int .i64 1) st) fun p1 =>
  ir_Program_Check_l3 J v3 v7 v53 v54 v55 v74 v75 p1.1 p1.2) := (go_eq hJ _ _ _ _).trans (by kernel_rfl)
theorem ir_Program_Check_j15_eq {K : Ctx} {J : JT (Value × St)} (hJ : IsJ K (retK ir_Program_Check_c.results) J) (v3 : Value) (v53 : Value) (v54 : Value) (v55 : Value) (st : St) : ir_Program_Check_j15 J v3 v53 v54 v55 st =
  (.thn st (sBin .add v55 (.int .i64 1) st) fun p1 =>
  ir_Program_Check_l1 J v3 v53 v54 p1.1 p1.2) := (go_eq hJ _ _ _ _).trans (by kernel_rfl)

/-! ### slices.Equal[[]int,int] -/
open C in
noncomputable def slices_Equal_int_c : AFun := ⟨26, [.tmp 4],
 (s (.ops [o 4 (.mv (c (.bool false)))])
 (s (s (.ops [o 6 (.mv (t 0)), o 7 (.len .slice (t 6)), o 8 (.mv (t 1)), o 9 (.len .slice (t 8)), o 10 (.bin .neq (t 7) (t 9))])
 (.cond (t 10) (s (.ops [o 4 (.mv (c (.bool false)))])
 .ret) .skip))
 (s (.keep [0, 1])
 (s (s (.ops [o 11 (.mv (t 0)), o 12 (.len .slice (t 11)), o 13 (.mv (c (i 0)))])
 (.block 0 (s (.keep [0, 1, 12, 13])
 (.loop (s (s (.ops [o 14 (.bin .lss (t 13) (t 12))])
 (s (.cond (t 14) .skip (.exit 0))
 (s (.keep [0, 1, 12, 13])
 (s (.block 1 (s (.ops [o 15 (.mv (t 13)), o 5 (.mv (t 15))])
 (s (.draw [d 0 0 false (o 16 (.mv (t 0))), d 1 0 false (o 17 (.mv (t 5))), d 2 0 false (o 18 (.ixA 1 none (t 16) (t 17))), d 3 0 false (o 19 (.load none (t 18))), d 4 0 false (o 20 (.mv (t 1))), d 5 0 false (o 21 (.mv (t 5))), d 6 0 false (o 22 (.ixA 1 none (t 20) (t 21))), d 7 0 false (o 23 (.load none (t 22))), d 8 0 false (o 24 (.bin .neq (t 19) (t 23)))])
 (.cond (t 24) (s (.ops [o 4 (.mv (c (.bool false)))])
 .ret) .skip))))
 (s (.keep [0, 1, 12, 13])
 (.ops [o 25 (.bin .add (t 13) (c (i 1))), o 13 (.mv (t 25))]))))))
 (.keep [0, 1, 12, 13]))))))
 (s (.keep [])
 (s (.ops [o 4 (.mv (c (.bool true)))])
 .ret))))))⟩
theorem slices_Equal_int_is : pgF n_slices_Equal_int = some slices_Equal_int_c := by kernel_rfl
noncomputable def slices_Equal_int_j0 (J : JT (Value × St)) (v0 : Value) (v1 : Value) (st : St) : Res (Value × St) := goX J slices_Equal_int_c.body [1, 1, 1] (envT [(0, v0), (1, v1)]) st
noncomputable def slices_Equal_int_l0 (J : JT (Value × St)) (v0 : Value) (v1 : Value) (v12 : Value) (v13 : Value) (st : St) : Res (Value × St) := lpX J slices_Equal_int_c.body [1, 1, 1, 0, 1, 0, 1] (envT [(0, v0), (1, v1), (12, v12), (13, v13)]) st
noncomputable def slices_Equal_int_j1 (J : JT (Value × St)) (v0 : Value) (v1 : Value) (v12 : Value) (v13 : Value) (st : St) : Res (Value × St) := goX J slices_Equal_int_c.body [1, 1, 1, 0, 1, 0, 1, 0, 0, 1, 1, 1] (envT [(0, v0), (1, v1), (12, v12), (13, v13)]) st
noncomputable def slices_Equal_int_j2 (J : JT (Value × St)) (st : St) : Res (Value × St) := goX J slices_Equal_int_c.body [1, 1, 1, 1, 1] (envT []) st
noncomputable def slices_Equal_int_j3 (J : JT (Value × St)) (v0 : Value) (v1 : Value) (v12 : Value) (v13 : Value) (st : St) : Res (Value × St) := goX J slices_Equal_int_c.body [1, 1, 1, 0, 1, 0, 1, 0, 0, 1, 1, 1, 1, 1] (envT [(0, v0), (1, v1), (12, v12), (13, v13)]) st
theorem slices_Equal_int_eq (K : Ctx) (J : JT (Value × St)) (a0 a1 : Value) (st : St) : atX K J slices_Equal_int_c (AM.start [a0, a1]) st =
  (.thn st (sLen .slice a0 st) fun p1 =>
  .thn p1.2 (sLen .slice a1 p1.2) fun p2 =>
  .thn p2.2 (sBin .neq p1.1 p2.1 p2.2) fun p3 =>
  condX p3.1
  (.ok ((.bool false), p3.2))
  (slices_Equal_int_j0 J a0 a1 p3.2)) := by kernel_rfl
theorem slices_Equal_int_of {K : Ctx} (hF : Fix pgF K) {a0 a1 : Value} {st : St} {Q : Value × St → Prop} (h : ∀ J, IsJ K (retK slices_Equal_int_c.results) J → Ok (atX K J slices_Equal_int_c (AM.start [a0, a1]) st) Q) : Ok (K.go (.call n_slices_Equal_int [a0, a1]) st) Q := call_of hF slices_Equal_int_is rfl h
theorem slices_Equal_int_j0_eq {K : Ctx} {J : JT (Value × St)} (hJ : IsJ K (retK slices_Equal_int_c.results) J) (v0 : Value) (v1 : Value) (st : St) : slices_Equal_int_j0 J v0 v1 st =
  (.thn st (sLen .slice v0 st) fun p1 =>
  slices_Equal_int_l0 J v0 v1 p1.1 (.int .i64 0) p1.2) := (go_eq hJ _ _ _ _).trans (by kernel_rfl)
theorem slices_Equal_int_l0_eq (K : Ctx) (J : JT (Value × St)) (v0 : Value) (v1 : Value) (v12 : Value) (v13 : Value) (st : St) : inX K J (retK slices_Equal_int_c.results) slices_Equal_int_c.body [1, 1, 1, 0, 1, 0, 1] (envT [(0, v0), (1, v1), (12, v12), (13, v13)]) st =
  (.thn st (sBin .lss v13 v12 st) fun p1 =>
  condX p1.1
  (slices_Equal_int_j1 J v0 v1 v12 v13 p1.2)
  (slices_Equal_int_j2 J p1.2)) := by kernel_rfl
theorem slices_Equal_int_l0_of {K : Ctx} (hF : Fix pgF K) {J : JT (Value × St)} (hJ : IsJ K (retK slices_Equal_int_c.results) J) {v0 : Value} {v1 : Value} {v12 : Value} {v13 : Value} {st : St} {Q : Value × St → Prop} (h : Ok (inX K J (retK slices_Equal_int_c.results) slices_Equal_int_c.body [1, 1, 1, 0, 1, 0, 1] (envT [(0, v0), (1, v1), (12, v12), (13, v13)]) st) Q) : Ok (slices_Equal_int_l0 J v0 v1 v12 v13 st) Q := loop_of hF hJ h
theorem slices_Equal_int_j1_eq {K : Ctx} {J : JT (Value × St)} (hJ : IsJ K (retK slices_Equal_int_c.results) J) (v0 : Value) (v1 : Value) (v12 : Value) (v13 : Value) (st : St) : slices_Equal_int_j1 J v0 v1 v12 v13 st =
  (.thn st (sIxA 1 none v0 v13 st) fun p1 =>
  .thn p1.2 (sLoad none p1.1 p1.2) fun p2 =>
  .thn p2.2 (sIxA 1 none v1 v13 p2.2) fun p3 =>
  .thn p3.2 (sLoad none p3.1 p3.2) fun p4 =>
  .thn p4.2 (sBin .neq p2.1 p4.1 p4.2) fun p5 =>
  condX p5.1
  (.ok ((.bool false), p5.2))
  (slices_Equal_int_j3 J v0 v1 v12 v13 p5.2)) := (go_eq hJ _ _ _ _).trans (by kernel_rfl)
theorem slices_Equal_int_j2_eq {K : Ctx} {J : JT (Value × St)} (hJ : IsJ K (retK slices_Equal_int_c.results) J) (st : St) : slices_Equal_int_j2 J st =
  (.ok ((.bool true), st)) := (go_eq hJ _ _ _ _).trans (by kernel_rfl)
theorem slices_Equal_int_j3_eq {K : Ctx} {J : JT (Value × St)} (hJ : IsJ K (retK slices_Equal_int_c.results) J) (v0 : Value) (v1 : Value) (v12 : Value) (v13 : Value) (st : St) : slices_Equal_int_j3 J v0 v1 v12 v13 st =
  (.thn st (sBin .add v13 (.int .i64 1) st) fun p1 =>
  slices_Equal_int_l0 J v0 v1 v12 p1.1 p1.2) := (go_eq hJ _ _ _ _).trans (by kernel_rfl)

/-! ### (refinery/ir.Program).Clone -/
open C in
noncomputable def ir_Program_Clone_c : AFun := ⟨1, [.part 2 (some 1)],
 (s (.ops [o 1 (.lbox (t 0)), o 2 (.lnew [(.slice none 0 0)])])
 (s (.ops [o 3 (.lnew [(.slice none 0 0)])])
 (s (s (.ops [o 9 (.lref (t 1)), o 10 (.field none 0 (t 1)), o 11 (.len .slice (t 10)), o 12 (.mv (c (i 0)))])
 (.block 0 (s (.keep [2, 3, 10, 11, 12])
 (.loop (s (s (.ops [o 13 (.bin .lss (t 12) (t 11))])
 (s (.cond (t 13) .skip (.exit 0))
 (s (.keep [2, 3, 10, 11, 12])
 (s (.block 1 (s (.ops [o 14 (.ixA 7 none (t 10) (t 12)), o 15 (.load (some 7) (t 14)), o 5 (.lnew [(i 0), (.slice none 0 0), (.slice none 0 0), (u 0), (i 0), (i 0), (i 0)]), o 5 (.upd 7 0 (t 5) (t 15))])
 (s (.ops [o 16 (.field (some 7) 0 (t 5)), o 6 (.lnew [(i 0), (.slice none 0 0), (.slice none 0 0), (u 0), (i 0), (i 0), (i 0)]), o 6 (.upd 7 0 (t 6) (t 16))])
 (s (.ops [o 17 (.lref (t 5)), o 18 (.field none 2 (t 5)), o 19 (.call (f 70) [(t 18)]), o 20 (.lref (t 6)), o 6 (.upd 1 2 (t 6) (t 19))])
 (s (.ops [o 21 (.lref (t 6)), o 6 (.upd 1 1 (t 6) (c (.slice none 0 0)))])
 (s (s (.ops [o 22 (.lref (t 5)), o 23 (.field none 1 (t 5)), o 24 (.len .slice (t 23)), o 25 (.mv (c (i 0)))])
 (.block 2 (s (.keep [2, 3, 6, 10, 11, 12, 23, 24, 25])
 (.loop (s (s (.ops [o 26 (.bin .lss (t 25) (t 24))])
 (s (.cond (t 26) .skip (.exit 2))
 (s (.keep [2, 3, 6, 10, 11, 12, 23, 24, 25])
 (s (.block 3 (s (.ops [o 27 (.ixA 3 none (t 23) (t 25)), o 28 (.load (some 3) (t 27)), o 8 (.lnew [(i 0), (.slice none 0 0), (.slice none 0 0)]), o 8 (.upd 3 0 (t 8) (t 28))])
 (.draw [d 4 0 false (o 33 (.lref (t 8))), d 5 0 false (o 34 (.field none 1 (t 8))), d 6 0 true (o 35 (.call (f 59) [(t 34)])), d 7 0 false (o 36 (.lref (t 8))), d 8 1 false (o 37 (.field none 2 (t 8))), d 9 0 true (o 38 (.call (f 59) [(t 37)])), d 0 0 false (o 29 (.lref (t 6))), d 1 2 false (o 30 (.field none 1 (t 6))), d 2 0 false (o 31 (.lref (t 8))), d 3 2 false (o 32 (.field none 0 (t 8))), d 10 0 false (o 39 (.build [(i 0), (.slice none 0 0), (.slice none 0 0)] [(0, 1, (t 32)), (1, 1, (t 35)), (2, 1, (t 38))])), d 11 0 false (o 40 (.lit 3 1 [(i 0), (.slice none 0 0), (.slice none 0 0)] [(0, 3, (t 39))])), d 12 0 true (o 41 (.append 3 56 (t 30) (t 40))), d 13 0 false (o 42 (.lref (t 6))), d 14 0 true (o 6 (.upd 1 1 (t 6) (t 41)))])))
 (s (.keep [2, 3, 6, 10, 11, 12, 23, 24, 25])
 (.ops [o 43 (.bin .add (t 25) (c (i 1))), o 25 (.mv (t 43))]))))))
 (.keep [2, 3, 6, 10, 11, 12, 23, 24, 25]))))))
 (s (.keep [2, 3, 6, 10, 11, 12])
 (.ops [o 44 (.lref (t 3)), o 45 (.field none 0 (t 3)), o 46 (.field (some 7) 0 (t 6)), o 47 (.lit 7 1 [(i 0), (.slice none 0 0), (.slice none 0 0), (u 0), (i 0), (i 0), (i 0)] [(0, 7, (t 46))]), o 48 (.append 7 88 (t 45) (t 47)), o 49 (.lref (t 3)), o 3 (.upd 1 0 (t 3) (t 48))]))))))))
 (s (.keep [2, 3, 10, 11, 12])
 (.ops [o 50 (.bin .add (t 12) (c (i 1))), o 12 (.mv (t 50))]))))))
 (.keep [2, 3, 10, 11, 12]))))))
 (s (.keep [2, 3])
 (s (.ops [o 51 (.field (some 1) 0 (t 3)), o 2 (.upd 1 0 (t 2) (t 51))])
 .ret)))))⟩
theorem ir_Program_Clone_is : pgF n_ir_Program_Clone = some ir_Program_Clone_c := by kernel_rfl
noncomputable def ir_Program_Clone_l0 (J : JT (Value × St)) (v2 : Value) (v3 : Value) (v10 : Value) (v11 : Value) (v12 : Value) (st : St) : Res (Value × St) := lpX J ir_Program_Clone_c.body [1, 1, 0, 1, 0, 1] (envT [(2, v2), (3, v3), (10, v10), (11, v11), (12, v12)]) st
noncomputable def ir_Program_Clone_j0 (J : JT (Value × St)) (v2 : Value) (v3 : Value) (v10 : Value) (v11 : Value) (v12 : Value) (st : St) : Res (Value × St) := goX J ir_Program_Clone_c.body [1, 1, 0, 1, 0, 1, 0, 0, 1, 1, 1] (envT [(2, v2), (3, v3), (10, v10), (11, v11), (12, v12)]) st
noncomputable def ir_Program_Clone_j1 (J : JT (Value × St)) (v2 : Value) (v3 : Value) (st : St) : Res (Value × St) := goX J ir_Program_Clone_c.body [1, 1, 1, 1] (envT [(2, v2), (3, v3)]) st
noncomputable def ir_Program_Clone_l1 (J : JT (Value × St)) (v2 : Value) (v3 : Value) (v6 : Value) (v10 : Value) (v11 : Value) (v12 : Value) (v23 : Value) (v24 : Value) (v25 : Value) (st : St) : Res (Value × St) := lpX J ir_Program_Clone_c.body [1, 1, 0, 1, 0, 1, 0, 0, 1, 1, 1, 0, 0, 1, 1, 1, 1, 0, 1, 0, 1] (envT [(2, v2), (3, v3), (6, v6), (10, v10), (11, v11), (12, v12), (23, v23), (24, v24), (25, v25)]) st
noncomputable def ir_Program_Clone_j2 (J : JT (Value × St)) (v2 : Value) (v3 : Value) (v6 : Value) (v10 : Value) (v11 : Value) (v12 : Value) (v23 : Value) (v24 : Value) (v25 : Value) (st : St) : Res (Value × St) := goX J ir_Program_Clone_c.body [1, 1, 0, 1, 0, 1, 0, 0, 1, 1, 1, 0, 0, 1, 1, 1, 1, 0, 1, 0, 1, 0, 0, 1, 1, 1] (envT [(2, v2), (3, v3), (6, v6), (10, v10), (11, v11), (12, v12), (23, v23), (24, v24), (25, v25)]) st
noncomputable def ir_Program_Clone_j3 (J : JT (Value × St)) (v2 : Value) (v3 : Value) (v6 : Value) (v10 : Value) (v11 : Value) (v12 : Value) (st : St) : Res (Value × St) := goX J ir_Program_Clone_c.body [1, 1, 0, 1, 0, 1, 0, 0, 1, 1, 1, 0, 0, 1, 1, 1, 1, 1, 1] (envT [(2, v2), (3, v3), (6, v6), (10, v10), (11, v11), (12, v12)]) st
noncomputable def ir_Program_Clone_j4 (J : JT (Value × St)) (v2 : Value) (v3 : Value) (v6 : Value) (v10 : Value) (v11 : Value) (v12 : Value) (v23 : Value) (v24 : Value) (v25 : Value) (st : St) : Res (Value × St) := goX J ir_Program_Clone_c.body [1, 1, 0, 1, 0, 1, 0, 0, 1, 1, 1, 0, 0, 1, 1, 1, 1, 0, 1, 0, 1, 0, 0, 1, 1, 1, 1, 1] (envT [(2, v2), (3, v3), (6, v6), (10, v10), (11, v11), (12, v12), (23, v23), (24, v24), (25, v25)]) st
noncomputable def ir_Program_Clone_j5 (J : JT (Value × St)) (v2 : Value) (v3 : Value) (v10 : Value) (v11 : Value) (v12 : Value) (st : St) : Res (Value × St) := goX J ir_Program_Clone_c.body [1, 1, 0, 1, 0, 1, 0, 0, 1, 1, 1, 1, 1] (envT [(2, v2), (3, v3), (10, v10), (11, v11), (12, v12)]) st
theorem ir_Program_Clone_eq (K : Ctx) (J : JT (Value × St)) (a0 : Value) (st : St) : atX K J ir_Program_Clone_c (AM.start [a0]) st =
  (.thn st (sLbox a0 st) fun p1 =>
  .thn p1.2 (sLnew [(.slice none 0 0)] p1.2) fun p2 =>
  .thn p2.2 (sLnew [(.slice none 0 0)] p2.2) fun p3 =>
  .thn p3.2 (sLref p1.1 p3.2) fun p4 =>
  .thn p4.2 (sField none 0 p1.1 p4.2) fun p5 =>
  .thn p5.2 (sLen .slice p5.1 p5.2) fun p6 =>
  ir_Program_Clone_l0 J p2.1 p3.1 p5.1 p6.1 (.int .i64 0) p6.2) := by kernel_rfl
theorem ir_Program_Clone_of {K : Ctx} (hF : Fix pgF K) {a0 : Value} {st : St} {Q : Value × St → Prop} (h : ∀ J, IsJ K (retK ir_Program_Clone_c.results) J → Ok (atX K J ir_Program_Clone_c (AM.start [a0]) st) Q) : Ok (K.go (.call n_ir_Program_Clone [a0]) st) Q := call_of hF ir_Program_Clone_is rfl h
theorem ir_Program_Clone_l0_eq (K : Ctx) (J : JT (Value × St)) (v2 : Value) (v3 : Value) (v10 : Value) (v11 : Value) (v12 : Value) (st : St) : inX K J (retK ir_Program_Clone_c.results) ir_Program_Clone_c.body [1, 1, 0, 1, 0, 1] (envT [(2, v2), (3, v3), (10, v10), (11, v11), (12, v12)]) st =
  (.thn st (sBin .lss v12 v11 st) fun p1 =>
  condX p1.1
  (ir_Program_Clone_j0 J v2 v3 v10 v11 v12 p1.2)
  (ir_Program_Clone_j1 J v2 v3 p1.2)) := by kernel_rfl
theorem ir_Program_Clone_l0_of {K : Ctx} (hF : Fix pgF K) {J : JT (Value × St)} (hJ : IsJ K (retK ir_Program_Clone_c.results) J) {v2 : Value} {v3 : Value} {v10 : Value} {v11 : Value} {v12 : Value} {st : St} {Q : Value × St → Prop} (h : Ok (inX K J (retK ir_Program_Clone_c.results) ir_Program_Clone_c.body [1, 1, 0, 1, 0, 1] (envT [(2, v2), (3, v3), (10, v10), (11, v11), (12, v12)]) st) Q) : Ok (ir_Program_Clone_l0 J v2 v3 v10 v11 v12 st) Q := loop_of hF hJ h
theorem ir_Program_Clone_j0_eq {K : Ctx} {J : JT (Value × St)} (hJ : IsJ K (retK ir_Program_Clone_c.results) J) (v2 : Value) (v3 : Value) (v10 : Value) (v11 : Value) (v12 : Value) (st : St) : ir_Program_Clone_j0 J v2 v3 v10 v11 v12 st =
  (.thn st (sIxA 7 none v10 v12 st) fun p1 =>
  .thn p1.2 (sLoad (some 7) p1.1 p1.2) fun p2 =>
  .thn p2.2 (sLnew [(.int .i64 0), (.slice none 0 0), (.slice none 0 0), (.int .u8 0), (.int .i64 0), (.int .i64 0), (.int .i64 0)] p2.2) fun p3 =>
  .thn p3.2 (sUpd 7 0 p3.1 p2.1 p3.2) fun p4 =>
  .thn p4.2 (sField (some 7) 0 p4.1 p4.2) fun p5 =>
  .thn p5.2 (sLnew [(.int .i64 0), (.slice none 0 0), (.slice none 0 0), (.int .u8 0), (.int .i64 0), (.int .i64 0), (.int .i64 0)] p5.2) fun p6 =>
  .thn p6.2 (sUpd 7 0 p6.1 p5.1 p6.2) fun p7 =>
  .thn p7.2 (sLref p4.1 p7.2) fun p8 =>
  .thn p8.2 (sField none 2 p4.1 p8.2) fun p9 =>
  .thn p9.2 (K.go (.call n_slices_Clone_irInstr [p9.1]) p9.2) fun p10 =>
  .thn p10.2 (sLref p7.1 p10.2) fun p11 =>
  .thn p11.2 (sUpd 1 2 p7.1 p10.1 p11.2) fun p12 =>
  .thn p12.2 (sLref p12.1 p12.2) fun p13 =>
  .thn p13.2 (sUpd 1 1 p12.1 (.slice none 0 0) p13.2) fun p14 =>
  .thn p14.2 (sLref p4.1 p14.2) fun p15 =>
  .thn p15.2 (sField none 1 p4.1 p15.2) fun p16 =>
  .thn p16.2 (sLen .slice p16.1 p16.2) fun p17 =>
  ir_Program_Clone_l1 J v2 v3 p14.1 v10 v11 v12 p16.1 p17.1 (.int .i64 0) p17.2) := (go_eq hJ _ _ _ _).trans (by kernel_rfl)
theorem ir_Program_Clone_j1_eq {K : Ctx} {J : JT (Value × St)} (hJ : IsJ K (retK ir_Program_Clone_c.results) J) (v2 : Value) (v3 : Value) (st : St) : ir_Program_Clone_j1 J v2 v3 st =
  (.thn st (sField (some 1) 0 v3 st) fun p1 =>
  .thn p1.2 (sUpd 1 0 v2 p1.1 p1.2) fun p2 =>
  (sField (some 1) 0 p2.1 p2.2 >>= fun p3 => .ok [p3.1]) >>= fun vs => .ok (oneOf vs, p2.2)) := (go_eq hJ _ _ _ _).trans (by kernel_rfl)
theorem ir_Program_Clone_l1_eq (K : Ctx) (J : JT (Value × St)) (v2 : Value) (v3 : Value) (v6 : Value) (v10 : Value) (v11 : Value) (v12 : Value) (v23 : Value) (v24 : Value) (v25 : Value) (st : St) : inX K J (retK ir_Program_Clone_c.results) ir_Program_Clone_c.body [1, 1, 0, 1, 0, 1, 0, 0, 1, 1, 1, 0, 0, 1, 1, 1, 1, 0, 1, 0, 1] (envT [(2, v2), (3, v3), (6, v6), (10, v10), (11, v11), (12, v12), (23, v23), (24, v24), (25, v25)]) st =
  (.thn st (sBin .lss v25 v24 st) fun p1 =>
  condX p1.1
  (ir_Program_Clone_j2 J v2 v3 v6 v10 v11 v12 v23 v24 v25 p1.2)
  (ir_Program_Clone_j3 J v2 v3 v6 v10 v11 v12 p1.2)) := by kernel_rfl
theorem ir_Program_Clone_l1_of {K : Ctx} (hF : Fix pgF K) {J : JT (Value × St)} (hJ : IsJ K (retK ir_Program_Clone_c.results) J) {v2 : Value} {v3 : Value} {v6 : Value} {v10 : Value} {v11 : Value} {v12 : Value} {v23 : Value} {v24 : Value} {v25 : Value} {st : St} {Q : Value × St → Prop} (h : Ok (inX K J (retK ir_Program_Clone_c.results) ir_Program_Clone_c.body [1, 1, 0, 1, 0, 1, 0, 0, 1, 1, 1, 0, 0, 1, 1, 1, 1, 0, 1, 0, 1] (envT [(2, v2), (3, v3), (6, v6), (10, v10), (11, v11), (12, v12), (23, v23), (24, v24), (25, v25)]) st) Q) : Ok (ir_Program_Clone_l1 J v2 v3 v6 v10 v11 v12 v23 v24 v25 st) Q := loop_of hF hJ h
theorem ir_Program_Clone_j2_eq {K : Ctx} {J : JT (Value × St)} (hJ : IsJ K (retK ir_Program_Clone_c.results) J) (v2 : Value) (v3 : Value) (v6 : Value) (v10 : Value) (v11 : Value) (v12 : Value) (v23 : Value) (v24 : Value) (v25 : Value) (st : St) : ir_Program_Clone_j2 J v2 v3 v6 v10 v11 v12 v23 v24 v25 st =
  (.thn st (sIxA 3 none v23 v25 st) fun p1 =>
  .thn p1.2 (sLoad (some 3) p1.1 p1.2) fun p2 =>
  .thn p2.2 (sLnew [(.int .i64 0), (.slice none 0 0), (.slice none 0 0)] p2.2) fun p3 =>
  .thn p3.2 (sUpd 3 0 p3.1 p2.1 p3.2) fun p4 =>
  .thn p4.2 (sLref p4.1 p4.2) fun p5 =>
  .thn p5.2 (sField none 1 p4.1 p5.2) fun p6 =>
  .thn p6.2 (K.go (.call n_slices_Clone_int [p6.1]) p6.2) fun p7 =>
  .thn p7.2 (sLref p4.1 p7.2) fun p8 =>
  .thn p8.2 (sField none 2 p4.1 p8.2) fun p9 =>
  Res.need (sStays (List.take 1 (p6.2 :: [])) p7.2.next nothing (fun s => sField none 2 p4.1 s) p9.1) "order" >>= fun _ =>
  .thn p9.2 (K.go (.call n_slices_Clone_int [p9.1]) p9.2) fun p10 =>
  .thn p10.2 (sLref v6 p10.2) fun p11 =>
  .thn p11.2 (sField none 1 v6 p11.2) fun p12 =>
  Res.need (sStays (List.take 2 (p9.2 :: (p6.2 :: []))) p10.2.next nothing (fun s => sField none 1 v6 s) p12.1) "order" >>= fun _ =>
  .thn p12.2 (sLref p4.1 p12.2) fun p13 =>
  .thn p13.2 (sField none 0 p4.1 p13.2) fun p14 =>
  Res.need (sStays (List.take 2 (p9.2 :: (p6.2 :: []))) p10.2.next nothing (fun s => sField none 0 p4.1 s) p14.1) "order" >>= fun _ =>
  .thn p14.2 (sBuild [(.int .i64 0), (.slice none 0 0), (.slice none 0 0)] [(0, 1, p14.1), (1, 1, p7.1), (2, 1, p10.1)] p14.2) fun p15 =>
  .thn p15.2 (sLit 3 1 [(.int .i64 0), (.slice none 0 0), (.slice none 0 0)] [(0, 3, p15.1)] p15.2) fun p16 =>
  .thn p16.2 (sAppend 3 56 p12.1 p16.1 p16.2) fun p17 =>
  .thn p17.2 (sLref v6 p17.2) fun p18 =>
  .thn p18.2 (sUpd 1 1 v6 p17.1 p18.2) fun p19 =>
  ir_Program_Clone_j4 J v2 v3 p19.1 v10 v11 v12 v23 v24 v25 p19.2) := (go_eq hJ _ _ _ _).trans (by kernel_rfl)
theorem ir_Program_Clone_j3_eq {K : Ctx} {J : JT (Value × St)} (hJ : IsJ K (retK ir_Program_Clone_c.results) J) (v2 : Value) (v3 : Value) (v6 : Value) (v10 : Value) (v11 : Value) (v12 : Value) (st : St) : ir_Program_Clone_j3 J v2 v3 v6 v10 v11 v12 st =
  (.thn st (sLref v3 st) fun p1 =>
  .thn p1.2 (sField none 0 v3 p1.2) fun p2 =>
  .thn p2.2 (sField (some 7) 0 v6 p2.2) fun p3 =>
  .thn p3.2 (sLit 7 1 [(.int .i64 0), (.slice none 0 0), (.slice none 0 0), (.int .u8 0), (.int .i64 0), (.int .i64 0), (.int .i64 0)] [(0, 7, p3.1)] p3.2) fun p4 =>
  .thn p4.2 (sAppend 7 88 p2.1 p4.1 p4.2) fun p5 =>
  .thn p5.2 (sLref v3 p5.2) fun p6 =>
  .thn p6.2 (sUpd 1 0 v3 p5.1 p6.2) fun p7 =>
  ir_Program_Clone_j5 J v2 p7.1 v10 v11 v12 p7.2) := (go_eq hJ _ _ _ _).trans (by kernel_rfl)
theorem ir_Program_Clone_j4_eq {K : Ctx} {J : JT (Value × St)} (hJ : IsJ K (retK ir_Program_Clone_c.results) J) (v2 : Value) (v3 : Value) (v6 : Value) (v10 : Value) (v11 : Value) (v12 : Value) (v23 : Value) (v24 : Value) (v25 : Value) (st : St) : ir_Program_Clone_j4 J v2 v3 v6 v10 v11 v12 v23 v24 v25 st =
  (.thn st (sBin .add v25 (.int .i64 1) st) fun p1 =>
  ir_Program_Clone_l1 J v2 v3 v6 v10 v11 v12 v23 v24 p1.1 p1.2) := (go_eq hJ _ _ _ _).trans (by kernel_rfl)
theorem ir_Program_Clone_j5_eq {K : Ctx} {J : JT (Value × St)} (hJ : IsJ K (retK ir_Program_Clone_c.results) J) (v2 : Value) (v3 : Value) (v10 : Value) (v11 : Value) (v12 : Value) (st : St) : ir_Program_Clone_j5 J v2 v3 v10 v11 v12 st =
  (.thn st (sBin .add v12 (.int .i64 1) st) fun p1 =>
  ir_Program_Clone_l0 J v2 v3 v10 v11 p1.1 p1.2) := (go_eq hJ _ _ _ _).trans (by kernel_rfl)

/-! ### (refinery/ir.Instr).Turned -/
open C in
noncomputable def ir_Instr_Turned_c : AFun := ⟨2, [.part 4 (some 7)],
 (s (.ops [o 2 (.lbox (t 0)), o 4 (.lnew [(u 0), (u 0), (i 0), (i 0), (i 0), (i 0), (i 0)])])
 (s (s (.ops [o 5 (.mv (t 1)), o 6 (.eq false (.nilOf .func) (t 5) (c .nilFunc))])
 (.cond (t 6) (s (.ops [o 7 (.field (some 7) 0 (t 2)), o 4 (.upd 7 0 (t 4) (t 7))])
 .ret) .skip))
 (s (.keep [1, 2, 4])
 (s (s (.ops [o 8 (.lref (t 2)), o 9 (.field none 0 (t 2))])
 (.block 0 (s (s (.ops [o 11 (.bin .eql (t 9) (c (u 1))), o 10 (.mv (t 11))])
 (.cond (t 10) .skip (s (.ops [o 12 (.bin .eql (t 9) (c (u 4))), o 10 (.mv (t 12))])
 (.cond (t 10) .skip (s (.ops [o 13 (.bin .eql (t 9) (c (u 6))), o 10 (.mv (t 13))])
 (.cond (t 10) .skip (.ops [o 14 (.bin .eql (t 9) (c (u 7))), o 10 (.mv (t 14))])))))))
 (s (.keep [1, 2, 4, 9, 10])
 (.cond (t 10) (.ops [o 15 (.mv (t 1)), o 16 (.lref (t 2)), o 17 (.field none 3 (t 2)), o 18 (.call (t 15) [(t 17)]), o 19 (.lref (t 2)), o 2 (.upd 1 3 (t 2) (t 18))]) (s (s (.ops [o 21 (.bin .eql (t 9) (c (u 2))), o 20 (.mv (t 21))])
 (.cond (t 20) .skip (.ops [o 22 (.bin .eql (t 9) (c (u 8))), o 20 (.mv (t 22))])))
 (s (.keep [1, 2, 4, 20])
 (.cond (t 20) (.draw [d 0 0 false (o 23 (.mv (t 1))), d 1 0 false (o 24 (.lref (t 2))), d 2 0 false (o 25 (.field none 3 (t 2))), d 3 0 true (o 26 (.call (t 23) [(t 25)])), d 4 0 false (o 27 (.mv (t 1))), d 5 0 false (o 28 (.lref (t 2))), d 6 1 false (o 29 (.field none 4 (t 2))), d 7 0 true (o 30 (.call (t 27) [(t 29)])), d 8 0 false (o 31 (.lref (t 2))), d 9 0 true (o 2 (.upd 1 3 (t 2) (t 26))), d 10 0 false (o 32 (.lref (t 2))), d 11 0 true (o 2 (.upd 1 4 (t 2) (t 30)))]) .skip))))))))
 (s (.keep [2, 4])
 (s (.ops [o 33 (.field (some 7) 0 (t 2)), o 4 (.upd 7 0 (t 4) (t 33))])
 .ret))))))⟩
theorem ir_Instr_Turned_is : pgF n_ir_Instr_Turned = some ir_Instr_Turned_c := by kernel_rfl
noncomputable def ir_Instr_Turned_j0 (J : JT (Value × St)) (v1 : Value) (v2 : Value) (v4 : Value) (st : St) : Res (Value × St) := goX J ir_Instr_Turned_c.body [1, 1, 1] (envT [(1, v1), (2, v2), (4, v4)]) st
noncomputable def ir_Instr_Turned_j1 (J : JT (Value × St)) (v1 : Value) (v2 : Value) (v4 : Value) (v9 : Value) (v10 : Value) (st : St) : Res (Value × St) := goX J ir_Instr_Turned_c.body [1, 1, 1, 0, 1, 0, 1, 1] (envT [(1, v1), (2, v2), (4, v4), (9, v9), (10, v10)]) st
noncomputable def ir_Instr_Turned_j2 (J : JT (Value × St)) (v2 : Value) (v4 : Value) (st : St) : Res (Value × St) := goX J ir_Instr_Turned_c.body [1, 1, 1, 1, 1] (envT [(2, v2), (4, v4)]) st
noncomputable def ir_Instr_Turned_j3 (J : JT (Value × St)) (v1 : Value) (v2 : Value) (v4 : Value) (v20 : Value) (st : St) : Res (Value × St) := goX J ir_Instr_Turned_c.body [1, 1, 1, 0, 1, 0, 1, 1, 1, 1, 1] (envT [(1, v1), (2, v2), (4, v4), (20, v20)]) st
theorem ir_Instr_Turned_eq (K : Ctx) (J : JT (Value × St)) (a0 a1 : Value) (st : St) : atX K J ir_Instr_Turned_c (AM.start [a0, a1]) st =
  (.thn st (sLbox a0 st) fun p1 =>
  .thn p1.2 (sLnew [(.int .u8 0), (.int .u8 0), (.int .i64 0), (.int .i64 0), (.int .i64 0), (.int .i64 0), (.int .i64 0)] p1.2) fun p2 =>
  .thn p2.2 (sEq false (.nilOf .func) a1 .nilFunc p2.2) fun p3 =>
  condX p3.1
  (.thn p3.2 (sField (some 7) 0 p1.1 p3.2) fun p4 =>
  .thn p4.2 (sUpd 7 0 p2.1 p4.1 p4.2) fun p5 =>
  (sField (some 7) 0 p5.1 p5.2 >>= fun p6 => .ok [p6.1]) >>= fun vs => .ok (oneOf vs, p5.2))
  (ir_Instr_Turned_j0 J a1 p1.1 p2.1 p3.2)) := by kernel_rfl
theorem ir_Instr_Turned_of {K : Ctx} (hF : Fix pgF K) {a0 a1 : Value} {st : St} {Q : Value × St → Prop} (h : ∀ J, IsJ K (retK ir_Instr_Turned_c.results) J → Ok (atX K J ir_Instr_Turned_c (AM.start [a0, a1]) st) Q) : Ok (K.go (.call n_ir_Instr_Turned [a0, a1]) st) Q := call_of hF ir_Instr_Turned_is rfl h
theorem ir_Instr_Turned_j0_eq {K : Ctx} {J : JT (Value × St)} (hJ : IsJ K (retK ir_Instr_Turned_c.results) J) (v1 : Value) (v2 : Value) (v4 : Value) (st : St) : ir_Instr_Turned_j0 J v1 v2 v4 st =
  (.thn st (sLref v2 st) fun p1 =>
  .thn p1.2 (sField none 0 v2 p1.2) fun p2 =>
  .thn p2.2 (sBin .eql p2.1 (.int .u8 1) p2.2) fun p3 =>
  condX p3.1
  (ir_Instr_Turned_j1 J v1 v2 v4 p2.1 p3.1 p3.2)
  (.thn p3.2 (sBin .eql p2.1 (.int .u8 4) p3.2) fun p4 =>
  condX p4.1
  (ir_Instr_Turned_j1 J v1 v2 v4 p2.1 p4.1 p4.2)
  (.thn p4.2 (sBin .eql p2.1 (.int .u8 6) p4.2) fun p5 =>
  condX p5.1
  (ir_Instr_Turned_j1 J v1 v2 v4 p2.1 p5.1 p5.2)
  (.thn p5.2 (sBin .eql p2.1 (.int .u8 7) p5.2) fun p6 =>
  ir_Instr_Turned_j1 J v1 v2 v4 p2.1 p6.1 p6.2)))) := (go_eq hJ _ _ _ _).trans (by kernel_rfl)
theorem ir_Instr_Turned_j1_eq {K : Ctx} {J : JT (Value × St)} (hJ : IsJ K (retK ir_Instr_Turned_c.results) J) (v1 : Value) (v2 : Value) (v4 : Value) (v9 : Value) (v10 : Value) (st : St) : ir_Instr_Turned_j1 J v1 v2 v4 v9 v10 st =
  (condX v10
  (.thn st (sLref v2 st) fun p1 =>
  .thn p1.2 (sField none 3 v2 p1.2) fun p2 =>
  .thn p2.2 (sCall K v1 [p2.1] p2.2) fun p3 =>
  .thn p3.2 (sLref v2 p3.2) fun p4 =>
  .thn p4.2 (sUpd 1 3 v2 p3.1 p4.2) fun p5 =>
  ir_Instr_Turned_j2 J p5.1 v4 p5.2)
  (.thn st (sBin .eql v9 (.int .u8 2) st) fun p6 =>
  condX p6.1
  (ir_Instr_Turned_j3 J v1 v2 v4 p6.1 p6.2)
  (.thn p6.2 (sBin .eql v9 (.int .u8 8) p6.2) fun p7 =>
  ir_Instr_Turned_j3 J v1 v2 v4 p7.1 p7.2))) := (go_eq hJ _ _ _ _).trans (by kernel_rfl)
theorem ir_Instr_Turned_j2_eq {K : Ctx} {J : JT (Value × St)} (hJ : IsJ K (retK ir_Instr_Turned_c.results) J) (v2 : Value) (v4 : Value) (st : St) : ir_Instr_Turned_j2 J v2 v4 st =
  (.thn st (sField (some 7) 0 v2 st) fun p1 =>
  .thn p1.2 (sUpd 7 0 v4 p1.1 p1.2) fun p2 =>
  (sField (some 7) 0 p2.1 p2.2 >>= fun p3 => .ok [p3.1]) >>= fun vs => .ok (oneOf vs, p2.2)) := (go_eq hJ _ _ _ _).trans (by kernel_rfl)
theorem ir_Instr_Turned_j3_eq {K : Ctx} {J : JT (Value × St)} (hJ : IsJ K (retK ir_Instr_Turned_c.results) J) (v1 : Value) (v2 : Value) (v4 : Value) (v20 : Value) (st : St) : ir_Instr_Turned_j3 J v1 v2 v4 v20 st =
  (condX v20
  (.thn st (sLref v2 st) fun p1 =>
  .thn p1.2 (sField none 3 v2 p1.2) fun p2 =>
  .thn p2.2 (sCall K v1 [p2.1] p2.2) fun p3 =>
  .thn p3.2 (sLref v2 p3.2) fun p4 =>
  .thn p4.2 (sField none 4 v2 p4.2) fun p5 =>
  Res.need (sStays (List.take 1 (p2.2 :: [])) p3.2.next nothing (fun s => sField none 4 v2 s) p5.1) "order" >>= fun _ =>
  .thn p5.2 (sCall K v1 [p5.1] p5.2) fun p6 =>
  .thn p6.2 (sLref v2 p6.2) fun p7 =>
  .thn p7.2 (sUpd 1 3 v2 p3.1 p7.2) fun p8 =>
  .thn p8.2 (sLref p8.1 p8.2) fun p9 =>
  .thn p9.2 (sUpd 1 4 p8.1 p6.1 p9.2) fun p10 =>
  ir_Instr_Turned_j2 J p10.1 v4 p10.2)
  (ir_Instr_Turned_j2 J v2 v4 st)) := (go_eq hJ _ _ _ _).trans (by kernel_rfl)

/-! ### (refinery/ir.Last).Reads -/
open C in
noncomputable def ir_Last_Reads_c : AFun := ⟨1, [.tmp 2, .tmp 3],
 (s (.ops [o 1 (.lbox (t 0)), o 2 (.mv (c (i 0))), o 3 (.mv (c (.bool false)))])
 (s (.draw [d 0 0 false (o 4 (.lref (t 1))), d 1 0 false (o 5 (.field none 1 (t 1))), d 2 0 false (o 6 (.lref (t 1))), d 3 0 false (o 7 (.field none 0 (t 1))), d 4 0 false (o 8 (.bin .eql (t 7) (c (u 1)))), d 5 0 false (o 9 (.mv (t 8))), d 6 0 false (g 10 false 9 (.lref (t 1))), d 7 0 false (g 11 false 9 (.field none 0 (t 1))), d 8 0 false (g 12 false 9 (.bin .eql (t 11) (c (u 2)))), d 9 0 false (o 13 (.pick (t 9) (c (.bool true)) (t 12))), d 10 0 false (o 2 (.mv (t 5))), d 11 0 false (o 3 (.mv (t 13)))])
 .ret))⟩
theorem ir_Last_Reads_is : pgF n_ir_Last_Reads = some ir_Last_Reads_c := by kernel_rfl
theorem ir_Last_Reads_eq (K : Ctx) (J : JT (Value × St)) (a0 : Value) (st : St) : atX K J ir_Last_Reads_c (AM.start [a0]) st =
  (.thn st (sLbox a0 st) fun p1 =>
  .thn p1.2 (sLref p1.1 p1.2) fun p2 =>
  .thn p2.2 (sField none 1 p1.1 p2.2) fun p3 =>
  .thn p3.2 (sLref p1.1 p3.2) fun p4 =>
  .thn p4.2 (sField none 0 p1.1 p4.2) fun p5 =>
  .thn p5.2 (sBin .eql p5.1 (.int .u8 1) p5.2) fun p6 =>
  .thn p6.2 (sGo p6.1 false (sLref p1.1 p6.2) p6.2) fun p7 =>
  .thn p7.2 (sGo p6.1 false (sField none 0 p1.1 p7.2) p7.2) fun p9 =>
  .thn p9.2 (sGo p6.1 false (sBin .eql p9.1 (.int .u8 2) p9.2) p9.2) fun p11 =>
  .thn p11.2 (sPick p6.1 (.bool true) p11.1 p11.2) fun p13 =>
  .ok (.tuple #[p3.1, p13.1], p13.2)) := by kernel_rfl
theorem ir_Last_Reads_of {K : Ctx} (hF : Fix pgF K) {a0 : Value} {st : St} {Q : Value × St → Prop} (h : ∀ J, IsJ K (retK ir_Last_Reads_c.results) J → Ok (atX K J ir_Last_Reads_c (AM.start [a0]) st) Q) : Ok (K.go (.call n_ir_Last_Reads [a0]) st) Q := call_of hF ir_Last_Reads_is rfl h

/-! ### (refinery/word.Op).Traps -/
open C in
noncomputable def word_Op_Traps_c : AFun := ⟨9, [.tmp 2],
 (s (.ops [o 2 (.mv (c (.bool false)))])
 (s (.ops [o 3 (.mv (t 0)), o 4 (.bin .eql (t 3) (c (u 3))), o 5 (.mv (t 4)), g 6 false 5 (.mv (t 0)), g 7 false 5 (.bin .eql (t 6) (c (u 4))), o 8 (.pick (t 5) (c (.bool true)) (t 7)), o 2 (.mv (t 8))])
 .ret))⟩
theorem word_Op_Traps_is : pgF n_word_Op_Traps = some word_Op_Traps_c := by kernel_rfl
theorem word_Op_Traps_eq (K : Ctx) (J : JT (Value × St)) (a0 : Value) (st : St) : atX K J word_Op_Traps_c (AM.start [a0]) st =
  (.thn st (sBin .eql a0 (.int .u8 3) st) fun p1 =>
  .thn p1.2 (sG p1.1 false (.ok (a0, p1.2)) p1.2) fun p2 =>
  .thn p2.2 (sG p1.1 false (sBin .eql p2.1 (.int .u8 4) p2.2) p2.2) fun p3 =>
  .thn p3.2 (sPick p1.1 (.bool true) p3.1 p3.2) fun p4 =>
  .ok (p4.1, p4.2)) := by kernel_rfl
theorem word_Op_Traps_of {K : Ctx} (hF : Fix pgF K) {a0 : Value} {st : St} {Q : Value × St → Prop} (h : ∀ J, IsJ K (retK word_Op_Traps_c.results) J → Ok (atX K J word_Op_Traps_c (AM.start [a0]) st) Q) : Ok (K.go (.call n_word_Op_Traps [a0]) st) Q := call_of hF word_Op_Traps_is rfl h

/-! ### (refinery/ir.Program).Count -/
open C in
noncomputable def ir_Program_Count_c : AFun := ⟨1, [.tmp 2],
 (s (.ops [o 1 (.lbox (t 0)), o 2 (.mv (c (i 0)))])
 (s (.ops [o 3 (.mv (c (i 0)))])
 (s (s (.ops [o 6 (.lref (t 1)), o 7 (.field none 0 (t 1)), o 8 (.len .slice (t 7)), o 9 (.mv (c (i 0)))])
 (.block 0 (s (.keep [3, 7, 8, 9])
 (.loop (s (s (.ops [o 10 (.bin .lss (t 9) (t 8))])
 (s (.cond (t 10) .skip (.exit 0))
 (s (.keep [3, 7, 8, 9])
 (s (.block 1 (s (.ops [o 11 (.ixA 7 none (t 7) (t 9)), o 12 (.load (some 7) (t 11)), o 5 (.lnew [(i 0), (.slice none 0 0), (.slice none 0 0), (u 0), (i 0), (i 0), (i 0)]), o 5 (.upd 7 0 (t 5) (t 12))])
 (.ops [o 13 (.mv (t 3)), o 14 (.lref (t 5)), o 15 (.field none 2 (t 5)), o 16 (.len .slice (t 15)), o 17 (.lref (t 5)), o 18 (.field none 1 (t 5)), o 19 (.len .slice (t 18)), o 20 (.bin .add (t 16) (t 19)), o 21 (.bin .add (t 20) (c (i 1))), o 22 (.bin .add (t 13) (t 21)), o 3 (.mv (t 22))])))
 (s (.keep [3, 7, 8, 9])
 (.ops [o 23 (.bin .add (t 9) (c (i 1))), o 9 (.mv (t 23))]))))))
 (.keep [3, 7, 8, 9]))))))
 (s (.keep [3])
 (s (.ops [o 24 (.mv (t 3)), o 2 (.mv (t 24))])
 .ret)))))⟩
theorem ir_Program_Count_is : pgF n_ir_Program_Count = some ir_Program_Count_c := by kernel_rfl
noncomputable def ir_Program_Count_l0 (J : JT (Value × St)) (v3 : Value) (v7 : Value) (v8 : Value) (v9 : Value) (st : St) : Res (Value × St) := lpX J ir_Program_Count_c.body [1, 1, 0, 1, 0, 1] (envT [(3, v3), (7, v7), (8, v8), (9, v9)]) st
noncomputable def ir_Program_Count_j0 (J : JT (Value × St)) (v3 : Value) (v7 : Value) (v8 : Value) (v9 : Value) (st : St) : Res (Value × St) := goX J ir_Program_Count_c.body [1, 1, 0, 1, 0, 1, 0, 0, 1, 1, 1] (envT [(3, v3), (7, v7), (8, v8), (9, v9)]) st
noncomputable def ir_Program_Count_j1 (J : JT (Value × St)) (v3 : Value) (st : St) : Res (Value × St) := goX J ir_Program_Count_c.body [1, 1, 1, 1] (envT [(3, v3)]) st
noncomputable def ir_Program_Count_j2 (J : JT (Value × St)) (v3 : Value) (v7 : Value) (v8 : Value) (v9 : Value) (st : St) : Res (Value × St) := goX J ir_Program_Count_c.body [1, 1, 0, 1, 0, 1, 0, 0, 1, 1, 1, 1, 1] (envT [(3, v3), (7, v7), (8, v8), (9, v9)]) st
theorem ir_Program_Count_eq (K : Ctx) (J : JT (Value × St)) (a0 : Value) (st : St) : atX K J ir_Program_Count_c (AM.start [a0]) st =
  (.thn st (sLbox a0 st) fun p1 =>
  .thn p1.2 (sLref p1.1 p1.2) fun p2 =>
  .thn p2.2 (sField none 0 p1.1 p2.2) fun p3 =>
  .thn p3.2 (sLen .slice p3.1 p3.2) fun p4 =>
  ir_Program_Count_l0 J (.int .i64 0) p3.1 p4.1 (.int .i64 0) p4.2) := by kernel_rfl
theorem ir_Program_Count_of {K : Ctx} (hF : Fix pgF K) {a0 : Value} {st : St} {Q : Value × St → Prop} (h : ∀ J, IsJ K (retK ir_Program_Count_c.results) J → Ok (atX K J ir_Program_Count_c (AM.start [a0]) st) Q) : Ok (K.go (.call n_ir_Program_Count [a0]) st) Q := call_of hF ir_Program_Count_is rfl h
theorem ir_Program_Count_l0_eq (K : Ctx) (J : JT (Value × St)) (v3 : Value) (v7 : Value) (v8 : Value) (v9 : Value) (st : St) : inX K J (retK ir_Program_Count_c.results) ir_Program_Count_c.body [1, 1, 0, 1, 0, 1] (envT [(3, v3), (7, v7), (8, v8), (9, v9)]) st =
  (.thn st (sBin .lss v9 v8 st) fun p1 =>
  condX p1.1
  (ir_Program_Count_j0 J v3 v7 v8 v9 p1.2)
  (ir_Program_Count_j1 J v3 p1.2)) := by kernel_rfl
theorem ir_Program_Count_l0_of {K : Ctx} (hF : Fix pgF K) {J : JT (Value × St)} (hJ : IsJ K (retK ir_Program_Count_c.results) J) {v3 : Value} {v7 : Value} {v8 : Value} {v9 : Value} {st : St} {Q : Value × St → Prop} (h : Ok (inX K J (retK ir_Program_Count_c.results) ir_Program_Count_c.body [1, 1, 0, 1, 0, 1] (envT [(3, v3), (7, v7), (8, v8), (9, v9)]) st) Q) : Ok (ir_Program_Count_l0 J v3 v7 v8 v9 st) Q := loop_of hF hJ h
theorem ir_Program_Count_j0_eq {K : Ctx} {J : JT (Value × St)} (hJ : IsJ K (retK ir_Program_Count_c.results) J) (v3 : Value) (v7 : Value) (v8 : Value) (v9 : Value) (st : St) : ir_Program_Count_j0 J v3 v7 v8 v9 st =
  (.thn st (sIxA 7 none v7 v9 st) fun p1 =>
  .thn p1.2 (sLoad (some 7) p1.1 p1.2) fun p2 =>
  .thn p2.2 (sLnew [(.int .i64 0), (.slice none 0 0), (.slice none 0 0), (.int .u8 0), (.int .i64 0), (.int .i64 0), (.int .i64 0)] p2.2) fun p3 =>
  .thn p3.2 (sUpd 7 0 p3.1 p2.1 p3.2) fun p4 =>
  .thn p4.2 (sLref p4.1 p4.2) fun p5 =>
  .thn p5.2 (sField none 2 p4.1 p5.2) fun p6 =>
  .thn p6.2 (sLen .slice p6.1 p6.2) fun p7 =>
  .thn p7.2 (sLref p4.1 p7.2) fun p8 =>
  .thn p8.2 (sField none 1 p4.1 p8.2) fun p9 =>
  .thn p9.2 (sLen .slice p9.1 p9.2) fun p10 =>
  .thn p10.2 (sBin .add p7.1 p10.1 p10.2) fun p11 =>
  .thn p11.2 (sBin .add p11.1 (.int .i64 1) p11.2) fun p12 =>
  .thn p12.2 (sBin .add v3 p12.1 p12.2) fun p13 =>
  ir_Program_Count_j2 J p13.1 v7 v8 v9 p13.2) := (go_eq hJ _ _ _ _).trans (by kernel_rfl)
theorem ir_Program_Count_j1_eq {K : Ctx} {J : JT (Value × St)} (hJ : IsJ K (retK ir_Program_Count_c.results) J) (v3 : Value) (st : St) : ir_Program_Count_j1 J v3 st =
  (.ok (v3, st)) := (go_eq hJ _ _ _ _).trans (by kernel_rfl)
theorem ir_Program_Count_j2_eq {K : Ctx} {J : JT (Value × St)} (hJ : IsJ K (retK ir_Program_Count_c.results) J) (v3 : Value) (v7 : Value) (v8 : Value) (v9 : Value) (st : St) : ir_Program_Count_j2 J v3 v7 v8 v9 st =
  (.thn st (sBin .add v9 (.int .i64 1) st) fun p1 =>
  ir_Program_Count_l0 J v3 v7 v8 p1.1 p1.2) := (go_eq hJ _ _ _ _).trans (by kernel_rfl)

/-! ### (refinery/ir.Phi).check -/
open C in
noncomputable def ir_Phi_check_c : AFun := ⟨2, [.tmp 4],
 (s (.ops [o 2 (.lbox (t 0)), o 4 (.mv (c (i 0)))])
 (s (s (.ops [o 7 (.lref (t 2)), o 8 (.field none 1 (t 2)), o 9 (.len .slice (t 8)), o 10 (.lref (t 2)), o 11 (.field none 2 (t 2)), o 12 (.len .slice (t 11)), o 13 (.bin .neq (t 9) (t 12))])
 (.cond (t 13) (s (.ops [o 4 (.mv (c (i 5)))])
 .ret) .skip))
 (s (.keep [1, 2])
 (s (s (.ops [o 14 (.lref (t 2)), o 15 (.field none 0 (t 2)), o 16 (.call (f 82) [(t 15)]), o 17 (.un .not (t 16))])
 (.cond (t 17) (s (.ops [o 4 (.mv (c (i 2)))])
 .ret) .skip))
 (s (.keep [1, 2])
 (s (s (.ops [o 18 (.lref (t 2)), o 19 (.field none 1 (t 2)), o 20 (.len .slice (t 19)), o 21 (.mv (c (i 0)))])
 (.block 0 (s (.keep [1, 2, 19, 20, 21])
 (.loop (s (s (.ops [o 22 (.bin .lss (t 21) (t 20))])
 (s (.cond (t 22) .skip (.exit 0))
 (s (.keep [1, 2, 19, 20, 21])
 (s (.block 1 (s (.ops [o 23 (.mv (t 21)), o 24 (.ixA 1 none (t 19) (t 21)), o 25 (.load none (t 24)), o 5 (.mv (t 23)), o 6 (.mv (t 25))])
 (.block 2 (s (.ops [o 27 (.mv (t 1)), o 28 (.mv (t 6)), o 29 (.look (.cell .int) (.bool false) false (t 27) (t 28)), o 30 (.un .not (t 29)), o 26 (.mv (t 30))])
 (.cond (t 26) (s (.ops [o 4 (.mv (c (i 9)))])
 .ret) (s (.ops [o 32 (.mv (t 5)), o 33 (.bin .gtr (t 32) (c (i 0))), o 34 (.mv (t 33)), g 35 true 34 (.mv (t 6)), g 36 true 34 (.lref (t 2)), g 37 true 34 (.field none 1 (t 2)), g 38 true 34 (.mv (t 5)), g 39 true 34 (.bin .sub (t 38) (c (i 1))), g 40 true 34 (.ixA 1 none (t 37) (t 39)), g 41 true 34 (.load none (t 40)), g 42 true 34 (.bin .leq (t 35) (t 41)), o 43 (.pick (t 34) (t 42) (c (.bool false))), o 31 (.mv (t 43))])
 (.cond (t 31) (s (.ops [o 4 (.mv (c (i 8)))])
 .ret) (s (.ops [o 45 (.lref (t 2)), o 46 (.field none 2 (t 2)), o 47 (.mv (t 5)), o 48 (.ixA 1 none (t 46) (t 47)), o 49 (.load none (t 48)), o 50 (.call (f 82) [(t 49)]), o 51 (.un .not (t 50)), o 44 (.mv (t 51))])
 (.cond (t 44) (s (.ops [o 4 (.mv (c (i 2)))])
 .ret) .skip)))))))))
 (s (.keep [1, 2, 19, 20, 21])
 (.ops [o 52 (.bin .add (t 21) (c (i 1))), o 21 (.mv (t 52))]))))))
 (.keep [1, 2, 19, 20, 21]))))))
 (s (.keep [])
 (s (.ops [o 4 (.mv (c (i 0)))])
 .ret))))))))⟩
theorem ir_Phi_check_is : pgF n_ir_Phi_check = some ir_Phi_check_c := by kernel_rfl
noncomputable def ir_Phi_check_j0 (J : JT (Value × St)) (v1 : Value) (v2 : Value) (st : St) : Res (Value × St) := goX J ir_Phi_check_c.body [1, 1, 1] (envT [(1, v1), (2, v2)]) st
noncomputable def ir_Phi_check_j1 (J : JT (Value × St)) (v1 : Value) (v2 : Value) (st : St) : Res (Value × St) := goX J ir_Phi_check_c.body [1, 1, 1, 1, 1] (envT [(1, v1), (2, v2)]) st
noncomputable def ir_Phi_check_l0 (J : JT (Value × St)) (v1 : Value) (v2 : Value) (v19 : Value) (v20 : Value) (v21 : Value) (st : St) : Res (Value × St) := lpX J ir_Phi_check_c.body [1, 1, 1, 1, 1, 0, 1, 0, 1] (envT [(1, v1), (2, v2), (19, v19), (20, v20), (21, v21)]) st
noncomputable def ir_Phi_check_j2 (J : JT (Value × St)) (v1 : Value) (v2 : Value) (v19 : Value) (v20 : Value) (v21 : Value) (st : St) : Res (Value × St) := goX J ir_Phi_check_c.body [1, 1, 1, 1, 1, 0, 1, 0, 1, 0, 0, 1, 1, 1] (envT [(1, v1), (2, v2), (19, v19), (20, v20), (21, v21)]) st
noncomputable def ir_Phi_check_j3 (J : JT (Value × St)) (st : St) : Res (Value × St) := goX J ir_Phi_check_c.body [1, 1, 1, 1, 1, 1, 1] (envT []) st
noncomputable def ir_Phi_check_j4 (J : JT (Value × St)) (v1 : Value) (v2 : Value) (v19 : Value) (v20 : Value) (v21 : Value) (st : St) : Res (Value × St) := goX J ir_Phi_check_c.body [1, 1, 1, 1, 1, 0, 1, 0, 1, 0, 0, 1, 1, 1, 1, 1] (envT [(1, v1), (2, v2), (19, v19), (20, v20), (21, v21)]) st
theorem ir_Phi_check_eq (K : Ctx) (J : JT (Value × St)) (a0 a1 : Value) (st : St) : atX K J ir_Phi_check_c (AM.start [a0, a1]) st =
  (.thn st (sLbox a0 st) fun p1 =>
  .thn p1.2 (sLref p1.1 p1.2) fun p2 =>
  .thn p2.2 (sField none 1 p1.1 p2.2) fun p3 =>
  .thn p3.2 (sLen .slice p3.1 p3.2) fun p4 =>
  .thn p4.2 (sLref p1.1 p4.2) fun p5 =>
  .thn p5.2 (sField none 2 p1.1 p5.2) fun p6 =>
  .thn p6.2 (sLen .slice p6.1 p6.2) fun p7 =>
  .thn p7.2 (sBin .neq p4.1 p7.1 p7.2) fun p8 =>
  condX p8.1
  (.ok ((.int .i64 5), p8.2))
  (ir_Phi_check_j0 J a1 p1.1 p8.2)) := by kernel_rfl
theorem ir_Phi_check_of {K : Ctx} (hF : Fix pgF K) {a0 a1 : Value} {st : St} {Q : Value × St → Prop} (h : ∀ J, IsJ K (retK ir_Phi_check_c.results) J → Ok (atX K J ir_Phi_check_c (AM.start [a0, a1]) st) Q) : Ok (K.go (.call n_ir_Phi_check [a0, a1]) st) Q := call_of hF ir_Phi_check_is rfl h
theorem ir_Phi_check_j0_eq {K : Ctx} {J : JT (Value × St)} (hJ : IsJ K (retK ir_Phi_check_c.results) J) (v1 : Value) (v2 : Value) (st : St) : ir_Phi_check_j0 J v1 v2 st =
  (.thn st (sLref v2 st) fun p1 =>
  .thn p1.2 (sField none 0 v2 p1.2) fun p2 =>
  .thn p2.2 (K.go (.call n_ir_reg [p2.1]) p2.2) fun p3 =>
  .thn p3.2 (sUn .not p3.1 p3.2) fun p4 =>
  condX p4.1
  (.ok ((.int .i64 2), p4.2))
  (ir_Phi_check_j1 J v1 v2 p4.2)) := (go_eq hJ _ _ _ _).trans (by kernel_rfl)
theorem ir_Phi_check_j1_eq {K : Ctx} {J : JT (Value × St)} (hJ : IsJ K (retK ir_Phi_check_c.results) J) (v1 : Value) (v2 : Value) (st : St) : ir_Phi_check_j1 J v1 v2 st =
  (.thn st (sLref v2 st) fun p1 =>
  .thn p1.2 (sField none 1 v2 p1.2) fun p2 =>
  .thn p2.2 (sLen .slice p2.1 p2.2) fun p3 =>
  ir_Phi_check_l0 J v1 v2 p2.1 p3.1 (.int .i64 0) p3.2) := (go_eq hJ _ _ _ _).trans (by kernel_rfl)
theorem ir_Phi_check_l0_eq (K : Ctx) (J : JT (Value × St)) (v1 : Value) (v2 : Value) (v19 : Value) (v20 : Value) (v21 : Value) (st : St) : inX K J (retK ir_Phi_check_c.results) ir_Phi_check_c.body [1, 1, 1, 1, 1, 0, 1, 0, 1] (envT [(1, v1), (2, v2), (19, v19), (20, v20), (21, v21)]) st =
  (.thn st (sBin .lss v21 v20 st) fun p1 =>
  condX p1.1
  (ir_Phi_check_j2 J v1 v2 v19 v20 v21 p1.2)
  (ir_Phi_check_j3 J p1.2)) := by kernel_rfl
theorem ir_Phi_check_l0_of {K : Ctx} (hF : Fix pgF K) {J : JT (Value × St)} (hJ : IsJ K (retK ir_Phi_check_c.results) J) {v1 : Value} {v2 : Value} {v19 : Value} {v20 : Value} {v21 : Value} {st : St} {Q : Value × St → Prop} (h : Ok (inX K J (retK ir_Phi_check_c.results) ir_Phi_check_c.body [1, 1, 1, 1, 1, 0, 1, 0, 1] (envT [(1, v1), (2, v2), (19, v19), (20, v20), (21, v21)]) st) Q) : Ok (ir_Phi_check_l0 J v1 v2 v19 v20 v21 st) Q := loop_of hF hJ h
theorem ir_Phi_check_j2_eq {K : Ctx} {J : JT (Value × St)} (hJ : IsJ K (retK ir_Phi_check_c.results) J) (v1 : Value) (v2 : Value) (v19 : Value) (v20 : Value) (v21 : Value) (st : St) : ir_Phi_check_j2 J v1 v2 v19 v20 v21 st =
  (.thn st (sIxA 1 none v19 v21 st) fun p1 =>
  .thn p1.2 (sLoad none p1.1 p1.2) fun p2 =>
  .thn p2.2 (sLook (.cell .int) (.bool false) false v1 p2.1 p2.2) fun p3 =>
  .thn p3.2 (sUn .not p3.1 p3.2) fun p4 =>
  condX p4.1
  (.ok ((.int .i64 9), p4.2))
  (.thn p4.2 (sBin .gtr v21 (.int .i64 0) p4.2) fun p5 =>
  .thn p5.2 (sG p5.1 true (.ok (p2.1, p5.2)) p5.2) fun p6 =>
  .thn p6.2 (sG p5.1 true (sLref v2 p6.2) p6.2) fun p7 =>
  .thn p7.2 (sG p5.1 true (sField none 1 v2 p7.2) p7.2) fun p8 =>
  .thn p8.2 (sG p5.1 true (.ok (v21, p8.2)) p8.2) fun p9 =>
  .thn p9.2 (sG p5.1 true (sBin .sub p9.1 (.int .i64 1) p9.2) p9.2) fun p10 =>
  .thn p10.2 (sG p5.1 true (sIxA 1 none p8.1 p10.1 p10.2) p10.2) fun p11 =>
  .thn p11.2 (sG p5.1 true (sLoad none p11.1 p11.2) p11.2) fun p12 =>
  .thn p12.2 (sG p5.1 true (sBin .leq p6.1 p12.1 p12.2) p12.2) fun p13 =>
  .thn p13.2 (sPick p5.1 p13.1 (.bool false) p13.2) fun p14 =>
  condX p14.1
  (.ok ((.int .i64 8), p14.2))
  (.thn p14.2 (sLref v2 p14.2) fun p15 =>
  .thn p15.2 (sField none 2 v2 p15.2) fun p16 =>
  .thn p16.2 (sIxA 1 none p16.1 v21 p16.2) fun p17 =>
  .thn p17.2 (sLoad none p17.1 p17.2) fun p18 =>
  .thn p18.2 (K.go (.call n_ir_reg [p18.1]) p18.2) fun p19 =>
  .thn p19.2 (sUn .not p19.1 p19.2) fun p20 =>
  condX p20.1
  (.ok ((.int .i64 2), p20.2))
  (ir_Phi_check_j4 J v1 v2 v19 v20 v21 p20.2)))) := (go_eq hJ _ _ _ _).trans (by kernel_rfl)
theorem ir_Phi_check_j3_eq {K : Ctx} {J : JT (Value × St)} (hJ : IsJ K (retK ir_Phi_check_c.results) J) (st : St) : ir_Phi_check_j3 J st =
  (.ok ((.int .i64 0), st)) := (go_eq hJ _ _ _ _).trans (by kernel_rfl)
theorem ir_Phi_check_j4_eq {K : Ctx} {J : JT (Value × St)} (hJ : IsJ K (retK ir_Phi_check_c.results) J) (v1 : Value) (v2 : Value) (v19 : Value) (v20 : Value) (v21 : Value) (st : St) : ir_Phi_check_j4 J v1 v2 v19 v20 v21 st =
  (.thn st (sBin .add v21 (.int .i64 1) st) fun p1 =>
  ir_Phi_check_l0 J v1 v2 v19 v20 p1.1 p1.2) := (go_eq hJ _ _ _ _).trans (by kernel_rfl)

/-! ### (refinery/ir.Instr).check -/
open C in
noncomputable def ir_Instr_check_c : AFun := ⟨1, [.tmp 2],
 (s (.ops [o 1 (.lbox (t 0)), o 2 (.mv (c (i 0)))])
 (s (.block 0 (s (.ops [o 4 (.lref (t 1)), o 5 (.field none 0 (t 1)), o 6 (.bin .geq (t 5) (c (u 9))), o 7 (.mv (t 6)), g 8 false 7 (.lref (t 1)), g 9 false 7 (.field none 0 (t 1)), g 10 false 7 (.bin .eql (t 9) (c (u 2))), g 11 false 7 (.mv (t 10)), g 12 true 11 (.lref (t 1)), g 13 true 11 (.field none 1 (t 1)), g 14 true 11 (.bin .geq (t 13) (c (u 12))), g 15 false 7 (.pick (t 11) (t 14) (c (.bool false))), o 16 (.pick (t 7) (c (.bool true)) (t 15)), o 3 (.mv (t 16))])
 (.cond (t 3) (s (.ops [o 2 (.mv (c (i 6)))])
 .ret) (s (.draw [d 1 0 false (o 19 (.field (some 7) 0 (t 1))), d 2 0 true (o 20 (.call (f 22) [(t 19)])), d 0 1 false (o 18 (.field (some 7) 0 (t 1))), d 3 0 false (o 21 (.eq true (.fields [(0, .int), (1, .int), (2, .int), (3, .int), (4, .int), (5, .int), (6, .int)]) (t 18) (t 20))), d 4 0 false (o 17 (.mv (t 21)))])
 (.cond (t 17) (s (.ops [o 2 (.mv (c (i 5)))])
 .ret) (s (.ops [o 23 (.lref (t 1)), o 24 (.field none 2 (t 1)), o 25 (.call (f 82) [(t 24)]), o 26 (.un .not (t 25)), o 27 (.mv (t 26)), g 28 false 27 (.lref (t 1)), g 29 false 27 (.field none 3 (t 1)), g 30 false 27 (.call (f 82) [(t 29)]), g 31 false 27 (.un .not (t 30)), o 32 (.pick (t 27) (c (.bool true)) (t 31)), o 33 (.mv (t 32)), g 34 false 33 (.lref (t 1)), g 35 false 33 (.field none 4 (t 1)), g 36 false 33 (.call (f 82) [(t 35)]), g 37 false 33 (.un .not (t 36)), o 38 (.pick (t 33) (c (.bool true)) (t 37)), o 39 (.mv (t 38)), g 40 false 39 (.lref (t 1)), g 41 false 39 (.field none 6 (t 1)), g 42 false 39 (.bin .lss (t 41) (c (i 0))), o 43 (.pick (t 39) (c (.bool true)) (t 42)), o 44 (.mv (t 43)), g 45 false 44 (.lref (t 1)), g 46 false 44 (.field none 6 (t 1)), g 47 false 44 (.bin .geq (t 46) (c (i 16))), o 48 (.pick (t 44) (c (.bool true)) (t 47)), o 22 (.mv (t 48))])
 (.cond (t 22) (s (.ops [o 2 (.mv (c (i 2)))])
 .ret) .skip)))))))
 (s (.keep [])
 (s (.ops [o 2 (.mv (c (i 0)))])
 .ret))))⟩
theorem ir_Instr_check_is : pgF n_ir_Instr_check = some ir_Instr_check_c := by kernel_rfl
noncomputable def ir_Instr_check_j0 (J : JT (Value × St)) (st : St) : Res (Value × St) := goX J ir_Instr_check_c.body [1, 1, 1] (envT []) st
theorem ir_Instr_check_eq (K : Ctx) (J : JT (Value × St)) (a0 : Value) (st : St) : atX K J ir_Instr_check_c (AM.start [a0]) st =
  (.thn st (sLbox a0 st) fun p1 =>
  .thn p1.2 (sLref p1.1 p1.2) fun p2 =>
  .thn p2.2 (sField none 0 p1.1 p2.2) fun p3 =>
  .thn p3.2 (sBin .geq p3.1 (.int .u8 9) p3.2) fun p4 =>
  .thn p4.2 (sG p4.1 false (sLref p1.1 p4.2) p4.2) fun p5 =>
  .thn p5.2 (sG p4.1 false (sField none 0 p1.1 p5.2) p5.2) fun p6 =>
  .thn p6.2 (sG p4.1 false (sBin .eql p6.1 (.int .u8 2) p6.2) p6.2) fun p7 =>
  .thn p7.2 (sG p4.1 false (.ok (p7.1, p7.2)) p7.2) fun p8 =>
  .thn p8.2 (sG p8.1 true (sLref p1.1 p8.2) p8.2) fun p9 =>
  .thn p9.2 (sG p8.1 true (sField none 1 p1.1 p9.2) p9.2) fun p10 =>
  .thn p10.2 (sG p8.1 true (sBin .geq p10.1 (.int .u8 12) p10.2) p10.2) fun p11 =>
  .thn p11.2 (sG p4.1 false (sPick p8.1 p11.1 (.bool false) p11.2) p11.2) fun p12 =>
  .thn p12.2 (sPick p4.1 (.bool true) p12.1 p12.2) fun p13 =>
  condX p13.1
  (.ok ((.int .i64 6), p13.2))
  (.thn p13.2 (sField (some 7) 0 p1.1 p13.2) fun p14 =>
  .thn p14.2 (K.go (.call n_ir_Instr_Only [p14.1]) p14.2) fun p15 =>
  .thn p15.2 (sField (some 7) 0 p1.1 p15.2) fun p16 =>
  Res.need (sStays (List.take 1 (p14.2 :: [])) p15.2.next nothing (fun s => sField (some 7) 0 p1.1 s) p16.1) "order" >>= fun _ =>
  .thn p16.2 (sEq true (.fields [(0, .int), (1, .int), (2, .int), (3, .int), (4, .int), (5, .int), (6, .int)]) p16.1 p15.1 p16.2) fun p17 =>
  condX p17.1
  (.ok ((.int .i64 5), p17.2))
  (.thn p17.2 (sLref p1.1 p17.2) fun p18 =>
  .thn p18.2 (sField none 2 p1.1 p18.2) fun p19 =>
  .thn p19.2 (K.go (.call n_ir_reg [p19.1]) p19.2) fun p20 =>
  .thn p20.2 (sUn .not p20.1 p20.2) fun p21 =>
  .thn p21.2 (sG p21.1 false (sLref p1.1 p21.2) p21.2) fun p22 =>
  .thn p22.2 (sG p21.1 false (sField none 3 p1.1 p22.2) p22.2) fun p23 =>
  .thn p23.2 (sG p21.1 false (K.go (.call n_ir_reg [p23.1]) p23.2) p23.2) fun p24 =>
  .thn p24.2 (sG p21.1 false (sUn .not p24.1 p24.2) p24.2) fun p25 =>
  .thn p25.2 (sPick p21.1 (.bool true) p25.1 p25.2) fun p26 =>
  .thn p26.2 (sG p26.1 false (sLref p1.1 p26.2) p26.2) fun p27 =>
  .thn p27.2 (sG p26.1 false (sField none 4 p1.1 p27.2) p27.2) fun p28 =>
  .thn p28.2 (sG p26.1 false (K.go (.call n_ir_reg [p28.1]) p28.2) p28.2) fun p29 =>
  .thn p29.2 (sG p26.1 false (sUn .not p29.1 p29.2) p29.2) fun p30 =>
  .thn p30.2 (sPick p26.1 (.bool true) p30.1 p30.2) fun p31 =>
  .thn p31.2 (sG p31.1 false (sLref p1.1 p31.2) p31.2) fun p32 =>
  .thn p32.2 (sG p31.1 false (sField none 6 p1.1 p32.2) p32.2) fun p33 =>
  .thn p33.2 (sG p31.1 false (sBin .lss p33.1 (.int .i64 0) p33.2) p33.2) fun p34 =>
  .thn p34.2 (sPick p31.1 (.bool true) p34.1 p34.2) fun p35 =>
  .thn p35.2 (sG p35.1 false (sLref p1.1 p35.2) p35.2) fun p36 =>
  .thn p36.2 (sG p35.1 false (sField none 6 p1.1 p36.2) p36.2) fun p37 =>
  .thn p37.2 (sG p35.1 false (sBin .geq p37.1 (.int .i64 16) p37.2) p37.2) fun p38 =>
  .thn p38.2 (sPick p35.1 (.bool true) p38.1 p38.2) fun p39 =>
  condX p39.1
  (.ok ((.int .i64 2), p39.2))
  (ir_Instr_check_j0 J p39.2)))) := by kernel_rfl
theorem ir_Instr_check_of {K : Ctx} (hF : Fix pgF K) {a0 : Value} {st : St} {Q : Value × St → Prop} (h : ∀ J, IsJ K (retK ir_Instr_check_c.results) J → Ok (atX K J ir_Instr_check_c (AM.start [a0]) st) Q) : Ok (K.go (.call n_ir_Instr_check [a0]) st) Q := call_of hF ir_Instr_check_is rfl h
theorem ir_Instr_check_j0_eq {K : Ctx} {J : JT (Value × St)} (hJ : IsJ K (retK ir_Instr_check_c.results) J) (st : St) : ir_Instr_check_j0 J st =
  (.ok ((.int .i64 0), st)) := (go_eq hJ _ _ _ _).trans (by kernel_rfl)

/-! ### (refinery/ir.Last).check -/
open C in
noncomputable def ir_Last_check_c : AFun := ⟨2, [.tmp 4],
 (s (.ops [o 2 (.lbox (t 0)), o 4 (.mv (c (i 0)))])
 (s (.block 0 (s (.ops [o 8 (.lref (t 2)), o 9 (.field none 0 (t 2)), o 10 (.bin .geq (t 9) (c (u 4))), o 7 (.mv (t 10))])
 (.cond (t 7) (s (.ops [o 4 (.mv (c (i 6)))])
 .ret) (s (.draw [d 1 0 false (o 13 (.field (some 4) 0 (t 2))), d 2 0 true (o 14 (.call (f 83) [(t 13)])), d 0 1 false (o 12 (.field (some 4) 0 (t 2))), d 3 0 false (o 15 (.eq true (.fields [(0, .int), (1, .int), (2, .int), (3, .int)]) (t 12) (t 14))), d 4 0 false (o 11 (.mv (t 15)))])
 (.cond (t 11) (s (.ops [o 4 (.mv (c (i 5)))])
 .ret) (s (.ops [o 17 (.lref (t 2)), o 18 (.field none 1 (t 2)), o 19 (.call (f 82) [(t 18)]), o 20 (.un .not (t 19)), o 16 (.mv (t 20))])
 (.cond (t 16) (s (.ops [o 4 (.mv (c (i 2)))])
 .ret) .skip)))))))
 (s (.keep [1, 2])
 (s (s (.ops [o 21 (.field (some 4) 0 (t 2)), o 22 (.call (f 52) [(t 21)]), o 23 (.len .slice (t 22)), o 24 (.mv (c (i 0)))])
 (.block 1 (s (.keep [1, 22, 23, 24])
 (.loop (s (s (.ops [o 25 (.bin .lss (t 24) (t 23))])
 (s (.cond (t 25) .skip (.exit 1))
 (s (.keep [1, 22, 23, 24])
 (s (.block 2 (s (.ops [o 26 (.ixA 1 none (t 22) (t 24)), o 27 (.load none (t 26)), o 6 (.mv (t 27))])
 (s (.ops [o 28 (.mv (t 1)), o 29 (.mv (t 6)), o 30 (.look (.cell .int) (.bool false) false (t 28) (t 29)), o 31 (.un .not (t 30))])
 (.cond (t 31) (s (.ops [o 4 (.mv (c (i 9)))])
 .ret) .skip))))
 (s (.keep [1, 22, 23, 24])
 (.ops [o 32 (.bin .add (t 24) (c (i 1))), o 24 (.mv (t 32))]))))))
 (.keep [1, 22, 23, 24]))))))
 (s (.keep [])
 (s (.ops [o 4 (.mv (c (i 0)))])
 .ret))))))⟩
theorem ir_Last_check_is : pgF n_ir_Last_check = some ir_Last_check_c := by kernel_rfl
noncomputable def ir_Last_check_j0 (J : JT (Value × St)) (v1 : Value) (v2 : Value) (st : St) : Res (Value × St) := goX J ir_Last_check_c.body [1, 1, 1] (envT [(1, v1), (2, v2)]) st
noncomputable def ir_Last_check_l0 (J : JT (Value × St)) (v1 : Value) (v22 : Value) (v23 : Value) (v24 : Value) (st : St) : Res (Value × St) := lpX J ir_Last_check_c.body [1, 1, 1, 0, 1, 0, 1] (envT [(1, v1), (22, v22), (23, v23), (24, v24)]) st
noncomputable def ir_Last_check_j1 (J : JT (Value × St)) (v1 : Value) (v22 : Value) (v23 : Value) (v24 : Value) (st : St) : Res (Value × St) := goX J ir_Last_check_c.body [1, 1, 1, 0, 1, 0, 1, 0, 0, 1, 1, 1] (envT [(1, v1), (22, v22), (23, v23), (24, v24)]) st
noncomputable def ir_Last_check_j2 (J : JT (Value × St)) (st : St) : Res (Value × St) := goX J ir_Last_check_c.body [1, 1, 1, 1, 1] (envT []) st
noncomputable def ir_Last_check_j3 (J : JT (Value × St)) (v1 : Value) (v22 : Value) (v23 : Value) (v24 : Value) (st : St) : Res (Value × St) := goX J ir_Last_check_c.body [1, 1, 1, 0, 1, 0, 1, 0, 0, 1, 1, 1, 1, 1] (envT [(1, v1), (22, v22), (23, v23), (24, v24)]) st
theorem ir_Last_check_eq (K : Ctx) (J : JT (Value × St)) (a0 a1 : Value) (st : St) : atX K J ir_Last_check_c (AM.start [a0, a1]) st =
  (.thn st (sLbox a0 st) fun p1 =>
  .thn p1.2 (sLref p1.1 p1.2) fun p2 =>
  .thn p2.2 (sField none 0 p1.1 p2.2) fun p3 =>
  .thn p3.2 (sBin .geq p3.1 (.int .u8 4) p3.2) fun p4 =>
  condX p4.1
  (.ok ((.int .i64 6), p4.2))
  (.thn p4.2 (sField (some 4) 0 p1.1 p4.2) fun p5 =>
  .thn p5.2 (K.go (.call n_ir_Last_Only [p5.1]) p5.2) fun p6 =>
  .thn p6.2 (sField (some 4) 0 p1.1 p6.2) fun p7 =>
  Res.need (sStays (List.take 1 (p5.2 :: [])) p6.2.next nothing (fun s => sField (some 4) 0 p1.1 s) p7.1) "order" >>= fun _ =>
  .thn p7.2 (sEq true (.fields [(0, .int), (1, .int), (2, .int), (3, .int)]) p7.1 p6.1 p7.2) fun p8 =>
  condX p8.1
  (.ok ((.int .i64 5), p8.2))
  (.thn p8.2 (sLref p1.1 p8.2) fun p9 =>
  .thn p9.2 (sField none 1 p1.1 p9.2) fun p10 =>
  .thn p10.2 (K.go (.call n_ir_reg [p10.1]) p10.2) fun p11 =>
  .thn p11.2 (sUn .not p11.1 p11.2) fun p12 =>
  condX p12.1
  (.ok ((.int .i64 2), p12.2))
  (ir_Last_check_j0 J a1 p1.1 p12.2)))) := by kernel_rfl
theorem ir_Last_check_of {K : Ctx} (hF : Fix pgF K) {a0 a1 : Value} {st : St} {Q : Value × St → Prop} (h : ∀ J, IsJ K (retK ir_Last_check_c.results) J → Ok (atX K J ir_Last_check_c (AM.start [a0, a1]) st) Q) : Ok (K.go (.call n_ir_Last_check [a0, a1]) st) Q := call_of hF ir_Last_check_is rfl h
theorem ir_Last_check_j0_eq {K : Ctx} {J : JT (Value × St)} (hJ : IsJ K (retK ir_Last_check_c.results) J) (v1 : Value) (v2 : Value) (st : St) : ir_Last_check_j0 J v1 v2 st =
  (.thn st (sField (some 4) 0 v2 st) fun p1 =>
  .thn p1.2 (K.go (.call n_ir_Last_Labels [p1.1]) p1.2) fun p2 =>
  .thn p2.2 (sLen .slice p2.1 p2.2) fun p3 =>
  ir_Last_check_l0 J v1 p2.1 p3.1 (.int .i64 0) p3.2) := (go_eq hJ _ _ _ _).trans (by kernel_rfl)
theorem ir_Last_check_l0_eq (K : Ctx) (J : JT (Value × St)) (v1 : Value) (v22 : Value) (v23 : Value) (v24 : Value) (st : St) : inX K J (retK ir_Last_check_c.results) ir_Last_check_c.body [1, 1, 1, 0, 1, 0, 1] (envT [(1, v1), (22, v22), (23, v23), (24, v24)]) st =
  (.thn st (sBin .lss v24 v23 st) fun p1 =>
  condX p1.1
  (ir_Last_check_j1 J v1 v22 v23 v24 p1.2)
  (ir_Last_check_j2 J p1.2)) := by kernel_rfl
theorem ir_Last_check_l0_of {K : Ctx} (hF : Fix pgF K) {J : JT (Value × St)} (hJ : IsJ K (retK ir_Last_check_c.results) J) {v1 : Value} {v22 : Value} {v23 : Value} {v24 : Value} {st : St} {Q : Value × St → Prop} (h : Ok (inX K J (retK ir_Last_check_c.results) ir_Last_check_c.body [1, 1, 1, 0, 1, 0, 1] (envT [(1, v1), (22, v22), (23, v23), (24, v24)]) st) Q) : Ok (ir_Last_check_l0 J v1 v22 v23 v24 st) Q := loop_of hF hJ h
theorem ir_Last_check_j1_eq {K : Ctx} {J : JT (Value × St)} (hJ : IsJ K (retK ir_Last_check_c.results) J) (v1 : Value) (v22 : Value) (v23 : Value) (v24 : Value) (st : St) : ir_Last_check_j1 J v1 v22 v23 v24 st =
  (.thn st (sIxA 1 none v22 v24 st) fun p1 =>
  .thn p1.2 (sLoad none p1.1 p1.2) fun p2 =>
  .thn p2.2 (sLook (.cell .int) (.bool false) false v1 p2.1 p2.2) fun p3 =>
  .thn p3.2 (sUn .not p3.1 p3.2) fun p4 =>
  condX p4.1
  (.ok ((.int .i64 9), p4.2))
  (ir_Last_check_j3 J v1 v22 v23 v24 p4.2)) := (go_eq hJ _ _ _ _).trans (by kernel_rfl)
theorem ir_Last_check_j2_eq {K : Ctx} {J : JT (Value × St)} (hJ : IsJ K (retK ir_Last_check_c.results) J) (st : St) : ir_Last_check_j2 J st =
  (.ok ((.int .i64 0), st)) := (go_eq hJ _ _ _ _).trans (by kernel_rfl)
theorem ir_Last_check_j3_eq {K : Ctx} {J : JT (Value × St)} (hJ : IsJ K (retK ir_Last_check_c.results) J) (v1 : Value) (v22 : Value) (v23 : Value) (v24 : Value) (st : St) : ir_Last_check_j3 J v1 v22 v23 v24 st =
  (.thn st (sBin .add v24 (.int .i64 1) st) fun p1 =>
  ir_Last_check_l0 J v1 v22 v23 p1.1 p1.2) := (go_eq hJ _ _ _ _).trans (by kernel_rfl)

/-! ### (refinery/ir.Last).Labels -/
open C in
noncomputable def ir_Last_Labels_c : AFun := ⟨1, [.tmp 2],
 (s (.ops [o 1 (.lbox (t 0)), o 2 (.mv (c (.slice none 0 0)))])
 (s (.block 0 (s (.ops [o 4 (.lref (t 1)), o 5 (.field none 0 (t 1)), o 6 (.bin .eql (t 5) (c (u 0))), o 7 (.mv (t 6)), g 8 false 7 (.lref (t 1)), g 9 false 7 (.field none 0 (t 1)), g 10 false 7 (.bin .eql (t 9) (c (u 1))), g 11 false 7 (.mv (t 10)), g 12 true 11 (.lref (t 1)), g 13 true 11 (.field none 2 (t 1)), g 14 true 11 (.lref (t 1)), g 15 true 11 (.field none 3 (t 1)), g 16 true 11 (.bin .eql (t 13) (t 15)), g 17 false 7 (.pick (t 11) (t 16) (c (.bool false))), o 18 (.pick (t 7) (c (.bool true)) (t 17)), o 3 (.mv (t 18))])
 (.cond (t 3) (s (.ops [o 19 (.lref (t 1)), o 20 (.field none 2 (t 1)), o 21 (.lit 1 1 [(i 0)] [(0, 1, (t 20))]), o 2 (.mv (t 21))])
 .ret) (s (.ops [o 23 (.lref (t 1)), o 24 (.field none 0 (t 1)), o 25 (.bin .eql (t 24) (c (u 1))), o 22 (.mv (t 25))])
 (.cond (t 22) (s (.ops [o 26 (.lref (t 1)), o 27 (.field none 2 (t 1)), o 28 (.lref (t 1)), o 29 (.field none 3 (t 1)), o 30 (.lit 1 2 [(i 0), (i 0)] [(0, 1, (t 27)), (1, 1, (t 29))]), o 2 (.mv (t 30))])
 .ret) .skip)))))
 (s (.keep [])
 (s (.ops [o 2 (.mv (c (.slice none 0 0)))])
 .ret))))⟩
theorem ir_Last_Labels_is : pgF n_ir_Last_Labels = some ir_Last_Labels_c := by kernel_rfl
noncomputable def ir_Last_Labels_j0 (J : JT (Value × St)) (st : St) : Res (Value × St) := goX J ir_Last_Labels_c.body [1, 1, 1] (envT []) st
theorem ir_Last_Labels_eq (K : Ctx) (J : JT (Value × St)) (a0 : Value) (st : St) : atX K J ir_Last_Labels_c (AM.start [a0]) st =
  (.thn st (sLbox a0 st) fun p1 =>
  .thn p1.2 (sLref p1.1 p1.2) fun p2 =>
  .thn p2.2 (sField none 0 p1.1 p2.2) fun p3 =>
  .thn p3.2 (sBin .eql p3.1 (.int .u8 0) p3.2) fun p4 =>
  .thn p4.2 (sG p4.1 false (sLref p1.1 p4.2) p4.2) fun p5 =>
  .thn p5.2 (sG p4.1 false (sField none 0 p1.1 p5.2) p5.2) fun p6 =>
  .thn p6.2 (sG p4.1 false (sBin .eql p6.1 (.int .u8 1) p6.2) p6.2) fun p7 =>
  .thn p7.2 (sG p4.1 false (.ok (p7.1, p7.2)) p7.2) fun p8 =>
  .thn p8.2 (sG p8.1 true (sLref p1.1 p8.2) p8.2) fun p9 =>
  .thn p9.2 (sG p8.1 true (sField none 2 p1.1 p9.2) p9.2) fun p10 =>
  .thn p10.2 (sG p8.1 true (sLref p1.1 p10.2) p10.2) fun p11 =>
  .thn p11.2 (sG p8.1 true (sField none 3 p1.1 p11.2) p11.2) fun p12 =>
  .thn p12.2 (sG p8.1 true (sBin .eql p10.1 p12.1 p12.2) p12.2) fun p13 =>
  .thn p13.2 (sG p4.1 false (sPick p8.1 p13.1 (.bool false) p13.2) p13.2) fun p14 =>
  .thn p14.2 (sPick p4.1 (.bool true) p14.1 p14.2) fun p15 =>
  condX p15.1
  (.thn p15.2 (sLref p1.1 p15.2) fun p16 =>
  .thn p16.2 (sField none 2 p1.1 p16.2) fun p17 =>
  .thn p17.2 (sLit 1 1 [(.int .i64 0)] [(0, 1, p17.1)] p17.2) fun p18 =>
  .ok (p18.1, p18.2))
  (.thn p15.2 (sLref p1.1 p15.2) fun p19 =>
  .thn p19.2 (sField none 0 p1.1 p19.2) fun p20 =>
  .thn p20.2 (sBin .eql p20.1 (.int .u8 1) p20.2) fun p21 =>
  condX p21.1
  (.thn p21.2 (sLref p1.1 p21.2) fun p22 =>
  .thn p22.2 (sField none 2 p1.1 p22.2) fun p23 =>
  .thn p23.2 (sLref p1.1 p23.2) fun p24 =>
  .thn p24.2 (sField none 3 p1.1 p24.2) fun p25 =>
  .thn p25.2 (sLit 1 2 [(.int .i64 0), (.int .i64 0)] [(0, 1, p23.1), (1, 1, p25.1)] p25.2) fun p26 =>
  .ok (p26.1, p26.2))
  (ir_Last_Labels_j0 J p21.2))) := by kernel_rfl
theorem ir_Last_Labels_of {K : Ctx} (hF : Fix pgF K) {a0 : Value} {st : St} {Q : Value × St → Prop} (h : ∀ J, IsJ K (retK ir_Last_Labels_c.results) J → Ok (atX K J ir_Last_Labels_c (AM.start [a0]) st) Q) : Ok (K.go (.call n_ir_Last_Labels [a0]) st) Q := call_of hF ir_Last_Labels_is rfl h
theorem ir_Last_Labels_j0_eq {K : Ctx} {J : JT (Value × St)} (hJ : IsJ K (retK ir_Last_Labels_c.results) J) (st : St) : ir_Last_Labels_j0 J st =
  (.ok ((.slice none 0 0), st)) := (go_eq hJ _ _ _ _).trans (by kernel_rfl)

/-! ### slices.Clone[[]int,int] -/
open C in
noncomputable def slices_Clone_int_c : AFun := ⟨8, [.tmp 2],
 (s (.ops [o 2 (.mv (c (.slice none 0 0)))])
 (s (s (.ops [o 3 (.mv (t 0)), o 4 (.eq false (.nilOf .slice) (t 3) (c (.slice none 0 0)))])
 (.cond (t 4) (s (.ops [o 2 (.mv (c (.slice none 0 0)))])
 .ret) .skip))
 (s (.keep [0])
 (s (.ops [o 5 (.lit 1 0 [] []), o 6 (.mv (t 0)), o 7 (.append 1 8 (t 5) (t 6)), o 2 (.mv (t 7))])
 .ret))))⟩
theorem slices_Clone_int_is : pgF n_slices_Clone_int = some slices_Clone_int_c := by kernel_rfl
noncomputable def slices_Clone_int_j0 (J : JT (Value × St)) (v0 : Value) (st : St) : Res (Value × St) := goX J slices_Clone_int_c.body [1, 1, 1] (envT [(0, v0)]) st
theorem slices_Clone_int_eq (K : Ctx) (J : JT (Value × St)) (a0 : Value) (st : St) : atX K J slices_Clone_int_c (AM.start [a0]) st =
  (.thn st (sEq false (.nilOf .slice) a0 (.slice none 0 0) st) fun p1 =>
  condX p1.1
  (.ok ((.slice none 0 0), p1.2))
  (slices_Clone_int_j0 J a0 p1.2)) := by kernel_rfl
theorem slices_Clone_int_of {K : Ctx} (hF : Fix pgF K) {a0 : Value} {st : St} {Q : Value × St → Prop} (h : ∀ J, IsJ K (retK slices_Clone_int_c.results) J → Ok (atX K J slices_Clone_int_c (AM.start [a0]) st) Q) : Ok (K.go (.call n_slices_Clone_int [a0]) st) Q := call_of hF slices_Clone_int_is rfl h
theorem slices_Clone_int_j0_eq {K : Ctx} {J : JT (Value × St)} (hJ : IsJ K (retK slices_Clone_int_c.results) J) (v0 : Value) (st : St) : slices_Clone_int_j0 J v0 st =
  (.thn st (sLit 1 0 [] [] st) fun p1 =>
  .thn p1.2 (sAppend 1 8 p1.1 v0 p1.2) fun p2 =>
  .ok (p2.1, p2.2)) := (go_eq hJ _ _ _ _).trans (by kernel_rfl)

/-! ### slices.Clone[[]refinery/ir.Instr,refinery/ir.Instr] -/
open C in
noncomputable def slices_Clone_irInstr_c : AFun := ⟨8, [.tmp 2],
 (s (.ops [o 2 (.mv (c (.slice none 0 0)))])
 (s (s (.ops [o 3 (.mv (t 0)), o 4 (.eq false (.nilOf .slice) (t 3) (c (.slice none 0 0)))])
 (.cond (t 4) (s (.ops [o 2 (.mv (c (.slice none 0 0)))])
 .ret) .skip))
 (s (.keep [0])
 (s (.ops [o 5 (.lit 7 0 [] []), o 6 (.mv (t 0)), o 7 (.append 7 48 (t 5) (t 6)), o 2 (.mv (t 7))])
 .ret))))⟩
theorem slices_Clone_irInstr_is : pgF n_slices_Clone_irInstr = some slices_Clone_irInstr_c := by kernel_rfl
noncomputable def slices_Clone_irInstr_j0 (J : JT (Value × St)) (v0 : Value) (st : St) : Res (Value × St) := goX J slices_Clone_irInstr_c.body [1, 1, 1] (envT [(0, v0)]) st
theorem slices_Clone_irInstr_eq (K : Ctx) (J : JT (Value × St)) (a0 : Value) (st : St) : atX K J slices_Clone_irInstr_c (AM.start [a0]) st =
  (.thn st (sEq false (.nilOf .slice) a0 (.slice none 0 0) st) fun p1 =>
  condX p1.1
  (.ok ((.slice none 0 0), p1.2))
  (slices_Clone_irInstr_j0 J a0 p1.2)) := by kernel_rfl
theorem slices_Clone_irInstr_of {K : Ctx} (hF : Fix pgF K) {a0 : Value} {st : St} {Q : Value × St → Prop} (h : ∀ J, IsJ K (retK slices_Clone_irInstr_c.results) J → Ok (atX K J slices_Clone_irInstr_c (AM.start [a0]) st) Q) : Ok (K.go (.call n_slices_Clone_irInstr [a0]) st) Q := call_of hF slices_Clone_irInstr_is rfl h
theorem slices_Clone_irInstr_j0_eq {K : Ctx} {J : JT (Value × St)} (hJ : IsJ K (retK slices_Clone_irInstr_c.results) J) (v0 : Value) (st : St) : slices_Clone_irInstr_j0 J v0 st =
  (.thn st (sLit 7 0 [] [] st) fun p1 =>
  .thn p1.2 (sAppend 7 48 p1.1 v0 p1.2) fun p2 =>
  .ok (p2.1, p2.2)) := (go_eq hJ _ _ _ _).trans (by kernel_rfl)

/-! ### refinery/ir.reg -/
open C in
noncomputable def ir_reg_c : AFun := ⟨9, [.tmp 2],
 (s (.ops [o 2 (.mv (c (.bool false)))])
 (s (.ops [o 3 (.mv (t 0)), o 4 (.bin .geq (t 3) (c (i 0))), o 5 (.mv (t 4)), g 6 true 5 (.mv (t 0)), g 7 true 5 (.bin .lss (t 6) (c (i 100000))), o 8 (.pick (t 5) (t 7) (c (.bool false))), o 2 (.mv (t 8))])
 .ret))⟩
theorem ir_reg_is : pgF n_ir_reg = some ir_reg_c := by kernel_rfl
theorem ir_reg_eq (K : Ctx) (J : JT (Value × St)) (a0 : Value) (st : St) : atX K J ir_reg_c (AM.start [a0]) st =
  (.thn st (sBin .geq a0 (.int .i64 0) st) fun p1 =>
  .thn p1.2 (sG p1.1 true (.ok (a0, p1.2)) p1.2) fun p2 =>
  .thn p2.2 (sG p1.1 true (sBin .lss p2.1 (.int .i64 100000) p2.2) p2.2) fun p3 =>
  .thn p3.2 (sPick p1.1 p3.1 (.bool false) p3.2) fun p4 =>
  .ok (p4.1, p4.2)) := by kernel_rfl
theorem ir_reg_of {K : Ctx} (hF : Fix pgF K) {a0 : Value} {st : St} {Q : Value × St → Prop} (h : ∀ J, IsJ K (retK ir_reg_c.results) J → Ok (atX K J ir_reg_c (AM.start [a0]) st) Q) : Ok (K.go (.call n_ir_reg [a0]) st) Q := call_of hF ir_reg_is rfl h

/-! ### (refinery/ir.Last).Only -/
open C in
noncomputable def ir_Last_Only_c : AFun := ⟨1, [.part 2 (some 4)],
 (s (.ops [o 1 (.lbox (t 0)), o 2 (.lnew [(u 0), (i 0), (i 0), (i 0)])])
 (s (.ops [o 4 (.lref (t 1)), o 5 (.field none 0 (t 1)), o 6 (.build [(u 0), (i 0), (i 0), (i 0)] [(0, 1, (t 5))]), o 3 (.lnew [(u 0), (i 0), (i 0), (i 0)]), o 3 (.upd 4 0 (t 3) (t 6))])
 (s (.ops [o 8 (.field (some 4) 0 (t 1)), o 9 (.call (f 37) [(t 8)]), o 7 (.mv (t 9)), o 10 (.extract (t 7) 0), o 11 (.extract (t 7) 1), o 12 (.lref (t 3)), o 3 (.upd 1 1 (t 3) (t 10))])
 (s (s (.ops [o 13 (.lref (t 1)), o 14 (.field none 0 (t 1)), o 15 (.bin .neq (t 14) (c (u 1))), o 16 (.mv (t 15)), g 17 true 16 (.lref (t 1)), g 18 true 16 (.field none 0 (t 1)), g 19 true 16 (.bin .neq (t 18) (c (u 2))), o 20 (.pick (t 16) (t 19) (c (.bool false)))])
 (.cond (t 20) (.ops [o 21 (.lref (t 3)), o 3 (.upd 1 1 (t 3) (c (i 0)))]) .skip))
 (s (.keep [1, 2, 3])
 (s (s (.ops [o 22 (.lref (t 1)), o 23 (.field none 0 (t 1))])
 (.block 0 (s (.ops [o 25 (.bin .eql (t 23) (c (u 0))), o 24 (.mv (t 25))])
 (.cond (t 24) (.ops [o 26 (.lref (t 1)), o 27 (.field none 2 (t 1)), o 28 (.lref (t 3)), o 3 (.upd 1 2 (t 3) (t 27))]) (s (.ops [o 30 (.bin .eql (t 23) (c (u 1))), o 29 (.mv (t 30))])
 (.cond (t 29) (.draw [d 0 0 false (o 31 (.lref (t 1))), d 1 0 false (o 32 (.field none 2 (t 1))), d 4 0 false (o 35 (.lref (t 3))), d 5 0 true (o 3 (.upd 1 2 (t 3) (t 32))), d 2 0 false (o 33 (.lref (t 1))), d 3 1 false (o 34 (.field none 3 (t 1))), d 6 0 false (o 36 (.lref (t 3))), d 7 0 true (o 3 (.upd 1 3 (t 3) (t 34)))]) .skip))))))
 (s (.keep [2, 3])
 (s (.ops [o 37 (.field (some 4) 0 (t 3)), o 2 (.upd 4 0 (t 2) (t 37))])
 .ret))))))))⟩
theorem ir_Last_Only_is : pgF n_ir_Last_Only = some ir_Last_Only_c := by kernel_rfl
noncomputable def ir_Last_Only_j0 (J : JT (Value × St)) (v1 : Value) (v2 : Value) (v3 : Value) (st : St) : Res (Value × St) := goX J ir_Last_Only_c.body [1, 1, 1, 1, 1] (envT [(1, v1), (2, v2), (3, v3)]) st
noncomputable def ir_Last_Only_j1 (J : JT (Value × St)) (v2 : Value) (v3 : Value) (st : St) : Res (Value × St) := goX J ir_Last_Only_c.body [1, 1, 1, 1, 1, 1, 1] (envT [(2, v2), (3, v3)]) st
theorem ir_Last_Only_eq (K : Ctx) (J : JT (Value × St)) (a0 : Value) (st : St) : atX K J ir_Last_Only_c (AM.start [a0]) st =
  (.thn st (sLbox a0 st) fun p1 =>
  .thn p1.2 (sLnew [(.int .u8 0), (.int .i64 0), (.int .i64 0), (.int .i64 0)] p1.2) fun p2 =>
  .thn p2.2 (sLref p1.1 p2.2) fun p3 =>
  .thn p3.2 (sField none 0 p1.1 p3.2) fun p4 =>
  .thn p4.2 (sBuild [(.int .u8 0), (.int .i64 0), (.int .i64 0), (.int .i64 0)] [(0, 1, p4.1)] p4.2) fun p5 =>
  .thn p5.2 (sLnew [(.int .u8 0), (.int .i64 0), (.int .i64 0), (.int .i64 0)] p5.2) fun p6 =>
  .thn p6.2 (sUpd 4 0 p6.1 p5.1 p6.2) fun p7 =>
  .thn p7.2 (sField (some 4) 0 p1.1 p7.2) fun p8 =>
  .thn p8.2 (K.go (.call n_ir_Last_Reads [p8.1]) p8.2) fun p9 =>
  .thn p9.2 (sExtract p9.1 0 p9.2) fun p10 =>
  .thn p10.2 (sExtract p9.1 1 p10.2) fun p11 =>
  .thn p11.2 (sLref p7.1 p11.2) fun p12 =>
  .thn p12.2 (sUpd 1 1 p7.1 p10.1 p12.2) fun p13 =>
  .thn p13.2 (sLref p1.1 p13.2) fun p14 =>
  .thn p14.2 (sField none 0 p1.1 p14.2) fun p15 =>
  .thn p15.2 (sBin .neq p15.1 (.int .u8 1) p15.2) fun p16 =>
  .thn p16.2 (sG p16.1 true (sLref p1.1 p16.2) p16.2) fun p17 =>
  .thn p17.2 (sG p16.1 true (sField none 0 p1.1 p17.2) p17.2) fun p18 =>
  .thn p18.2 (sG p16.1 true (sBin .neq p18.1 (.int .u8 2) p18.2) p18.2) fun p19 =>
  .thn p19.2 (sPick p16.1 p19.1 (.bool false) p19.2) fun p20 =>
  condX p20.1
  (.thn p20.2 (sLref p13.1 p20.2) fun p21 =>
  .thn p21.2 (sUpd 1 1 p13.1 (.int .i64 0) p21.2) fun p22 =>
  ir_Last_Only_j0 J p1.1 p2.1 p22.1 p22.2)
  (ir_Last_Only_j0 J p1.1 p2.1 p13.1 p20.2)) := by kernel_rfl
theorem ir_Last_Only_of {K : Ctx} (hF : Fix pgF K) {a0 : Value} {st : St} {Q : Value × St → Prop} (h : ∀ J, IsJ K (retK ir_Last_Only_c.results) J → Ok (atX K J ir_Last_Only_c (AM.start [a0]) st) Q) : Ok (K.go (.call n_ir_Last_Only [a0]) st) Q := call_of hF ir_Last_Only_is rfl h
theorem ir_Last_Only_j0_eq {K : Ctx} {J : JT (Value × St)} (hJ : IsJ K (retK ir_Last_Only_c.results) J) (v1 : Value) (v2 : Value) (v3 : Value) (st : St) : ir_Last_Only_j0 J v1 v2 v3 st =
  (.thn st (sLref v1 st) fun p1 =>
  .thn p1.2 (sField none 0 v1 p1.2) fun p2 =>
  .thn p2.2 (sBin .eql p2.1 (.int .u8 0) p2.2) fun p3 =>
  condX p3.1
  (.thn p3.2 (sLref v1 p3.2) fun p4 =>
  .thn p4.2 (sField none 2 v1 p4.2) fun p5 =>
  .thn p5.2 (sLref v3 p5.2) fun p6 =>
  .thn p6.2 (sUpd 1 2 v3 p5.1 p6.2) fun p7 =>
  ir_Last_Only_j1 J v2 p7.1 p7.2)
  (.thn p3.2 (sBin .eql p2.1 (.int .u8 1) p3.2) fun p8 =>
  condX p8.1
  (.thn p8.2 (sLref v1 p8.2) fun p9 =>
  .thn p9.2 (sField none 2 v1 p9.2) fun p10 =>
  .thn p10.2 (sLref v3 p10.2) fun p11 =>
  .thn p11.2 (sUpd 1 2 v3 p10.1 p11.2) fun p12 =>
  .thn p12.2 (sLref v1 p12.2) fun p13 =>
  .thn p13.2 (sField none 3 v1 p13.2) fun p14 =>
  Res.need (sStays (List.take 1 (p11.2 :: [])) p12.2.next nothing (fun s => sField none 3 v1 s) p14.1) "order" >>= fun _ =>
  .thn p14.2 (sLref p12.1 p14.2) fun p15 =>
  .thn p15.2 (sUpd 1 3 p12.1 p14.1 p15.2) fun p16 =>
  ir_Last_Only_j1 J v2 p16.1 p16.2)
  (ir_Last_Only_j1 J v2 v3 p8.2))) := (go_eq hJ _ _ _ _).trans (by kernel_rfl)
theorem ir_Last_Only_j1_eq {K : Ctx} {J : JT (Value × St)} (hJ : IsJ K (retK ir_Last_Only_c.results) J) (v2 : Value) (v3 : Value) (st : St) : ir_Last_Only_j1 J v2 v3 st =
  (.thn st (sField (some 4) 0 v3 st) fun p1 =>
  .thn p1.2 (sUpd 4 0 v2 p1.1 p1.2) fun p2 =>
  (sField (some 4) 0 p2.1 p2.2 >>= fun p3 => .ok [p3.1]) >>= fun vs => .ok (oneOf vs, p2.2)) := (go_eq hJ _ _ _ _).trans (by kernel_rfl)

/-! ### refinery/ir.Same -/
open C in
noncomputable def ir_Same_c : AFun := ⟨2, [.tmp 4],
 (s (.ops [o 2 (.lbox (t 0)), o 3 (.lbox (t 1)), o 4 (.mv (c (.bool false)))])
 (s (.ops [o 5 (.lref (t 2)), o 6 (.field none 0 (t 2)), o 7 (.lref (t 3)), o 8 (.field none 0 (t 3)), o 9 (.call (f 38) [(t 6), (t 8), (f 39)]), o 4 (.mv (t 9))])
 .ret))⟩
theorem ir_Same_is : pgF n_ir_Same = some ir_Same_c := by kernel_rfl
theorem ir_Same_eq (K : Ctx) (J : JT (Value × St)) (a0 a1 : Value) (st : St) : atX K J ir_Same_c (AM.start [a0, a1]) st =
  (.thn st (sLbox a0 st) fun p1 =>
  .thn p1.2 (sLbox a1 p1.2) fun p2 =>
  .thn p2.2 (sLref p1.1 p2.2) fun p3 =>
  .thn p3.2 (sField none 0 p1.1 p3.2) fun p4 =>
  .thn p4.2 (sLref p2.1 p4.2) fun p5 =>
  .thn p5.2 (sField none 0 p2.1 p5.2) fun p6 =>
  .thn p6.2 (K.go (.call n_slices_EqualFunc_irBlock [p4.1, p6.1, (.func (.func n_ir_Same_1) #[] #[])]) p6.2) fun p7 =>
  .ok (p7.1, p7.2)) := by kernel_rfl
theorem ir_Same_of {K : Ctx} (hF : Fix pgF K) {a0 a1 : Value} {st : St} {Q : Value × St → Prop} (h : ∀ J, IsJ K (retK ir_Same_c.results) J → Ok (atX K J ir_Same_c (AM.start [a0, a1]) st) Q) : Ok (K.go (.call n_ir_Same [a0, a1]) st) Q := call_of hF ir_Same_is rfl h

/-! ### slices.EqualFunc[[]refinery/ir.Block,[]refinery/ir.Block,refinery/ir.Block,refinery/ir.Block] -/
open C in
noncomputable def slices_EqualFunc_irBlock_c : AFun := ⟨3, [.tmp 6],
 (s (.ops [o 6 (.mv (c (.bool false)))])
 (s (s (.ops [o 10 (.mv (t 0)), o 11 (.len .slice (t 10)), o 12 (.mv (t 1)), o 13 (.len .slice (t 12)), o 14 (.bin .neq (t 11) (t 13))])
 (.cond (t 14) (s (.ops [o 6 (.mv (c (.bool false)))])
 .ret) .skip))
 (s (.keep [0, 1, 2])
 (s (s (.ops [o 15 (.mv (t 0)), o 16 (.len .slice (t 15)), o 17 (.mv (c (i 0)))])
 (.block 0 (s (.keep [1, 2, 15, 16, 17])
 (.loop (s (s (.ops [o 18 (.bin .lss (t 17) (t 16))])
 (s (.cond (t 18) .skip (.exit 0))
 (s (.keep [1, 2, 15, 16, 17])
 (s (.block 1 (s (.ops [o 19 (.mv (t 17)), o 20 (.ixA 7 none (t 15) (t 17)), o 21 (.load (some 7) (t 20)), o 8 (.lnew [(i 0), (.slice none 0 0), (.slice none 0 0), (u 0), (i 0), (i 0), (i 0)]), o 7 (.mv (t 19)), o 8 (.upd 7 0 (t 8) (t 21))])
 (s (.ops [o 22 (.mv (t 1)), o 23 (.mv (t 7)), o 24 (.ixA 7 none (t 22) (t 23)), o 25 (.load (some 7) (t 24)), o 9 (.lnew [(i 0), (.slice none 0 0), (.slice none 0 0), (u 0), (i 0), (i 0), (i 0)]), o 9 (.upd 7 0 (t 9) (t 25))])
 (s (.ops [o 26 (.mv (t 2)), o 27 (.field (some 7) 0 (t 8)), o 28 (.field (some 7) 0 (t 9)), o 29 (.call (t 26) [(t 27), (t 28)]), o 30 (.un .not (t 29))])
 (.cond (t 30) (s (.ops [o 6 (.mv (c (.bool false)))])
 .ret) .skip)))))
 (s (.keep [1, 2, 15, 16, 17])
 (.ops [o 31 (.bin .add (t 17) (c (i 1))), o 17 (.mv (t 31))]))))))
 (.keep [1, 2, 15, 16, 17]))))))
 (s (.keep [])
 (s (.ops [o 6 (.mv (c (.bool true)))])
 .ret))))))⟩
theorem slices_EqualFunc_irBlock_is : pgF n_slices_EqualFunc_irBlock = some slices_EqualFunc_irBlock_c := by kernel_rfl
noncomputable def slices_EqualFunc_irBlock_j0 (J : JT (Value × St)) (v0 : Value) (v1 : Value) (v2 : Value) (st : St) : Res (Value × St) := goX J slices_EqualFunc_irBlock_c.body [1, 1, 1] (envT [(0, v0), (1, v1), (2, v2)]) st
noncomputable def slices_EqualFunc_irBlock_l0 (J : JT (Value × St)) (v1 : Value) (v2 : Value) (v15 : Value) (v16 : Value) (v17 : Value) (st : St) : Res (Value × St) := lpX J slices_EqualFunc_irBlock_c.body [1, 1, 1, 0, 1, 0, 1] (envT [(1, v1), (2, v2), (15, v15), (16, v16), (17, v17)]) st
noncomputable def slices_EqualFunc_irBlock_j1 (J : JT (Value × St)) (v1 : Value) (v2 : Value) (v15 : Value) (v16 : Value) (v17 : Value) (st : St) : Res (Value × St) := goX J slices_EqualFunc_irBlock_c.body [1, 1, 1, 0, 1, 0, 1, 0, 0, 1, 1, 1] (envT [(1, v1), (2, v2), (15, v15), (16, v16), (17, v17)]) st
noncomputable def slices_EqualFunc_irBlock_j2 (J : JT (Value × St)) (st : St) : Res (Value × St) := goX J slices_EqualFunc_irBlock_c.body [1, 1, 1, 1, 1] (envT []) st
noncomputable def slices_EqualFunc_irBlock_j3 (J : JT (Value × St)) (v1 : Value) (v2 : Value) (v15 : Value) (v16 : Value) (v17 : Value) (st : St) : Res (Value × St) := goX J slices_EqualFunc_irBlock_c.body [1, 1, 1, 0, 1, 0, 1, 0, 0, 1, 1, 1, 1, 1] (envT [(1, v1), (2, v2), (15, v15), (16, v16), (17, v17)]) st
theorem slices_EqualFunc_irBlock_eq (K : Ctx) (J : JT (Value × St)) (a0 a1 a2 : Value) (st : St) : atX K J slices_EqualFunc_irBlock_c (AM.start [a0, a1, a2]) st =
  (.thn st (sLen .slice a0 st) fun p1 =>
  .thn p1.2 (sLen .slice a1 p1.2) fun p2 =>
  .thn p2.2 (sBin .neq p1.1 p2.1 p2.2) fun p3 =>
  condX p3.1
  (.ok ((.bool false), p3.2))
  (slices_EqualFunc_irBlock_j0 J a0 a1 a2 p3.2)) := by kernel_rfl
theorem slices_EqualFunc_irBlock_of {K : Ctx} (hF : Fix pgF K) {a0 a1 a2 : Value} {st : St} {Q : Value × St → Prop} (h : ∀ J, IsJ K (retK slices_EqualFunc_irBlock_c.results) J → Ok (atX K J slices_EqualFunc_irBlock_c (AM.start [a0, a1, a2]) st) Q) : Ok (K.go (.call n_slices_EqualFunc_irBlock [a0, a1, a2]) st) Q := call_of hF slices_EqualFunc_irBlock_is rfl h
theorem slices_EqualFunc_irBlock_j0_eq {K : Ctx} {J : JT (Value × St)} (hJ : IsJ K (retK slices_EqualFunc_irBlock_c.results) J) (v0 : Value) (v1 : Value) (v2 : Value) (st : St) : slices_EqualFunc_irBlock_j0 J v0 v1 v2 st =
  (.thn st (sLen .slice v0 st) fun p1 =>
  slices_EqualFunc_irBlock_l0 J v1 v2 v0 p1.1 (.int .i64 0) p1.2) := (go_eq hJ _ _ _ _).trans (by kernel_rfl)
theorem slices_EqualFunc_irBlock_l0_eq (K : Ctx) (J : JT (Value × St)) (v1 : Value) (v2 : Value) (v15 : Value) (v16 : Value) (v17 : Value) (st : St) : inX K J (retK slices_EqualFunc_irBlock_c.results) slices_EqualFunc_irBlock_c.body [1, 1, 1, 0, 1, 0, 1] (envT [(1, v1), (2, v2), (15, v15), (16, v16), (17, v17)]) st =
  (.thn st (sBin .lss v17 v16 st) fun p1 =>
  condX p1.1
  (slices_EqualFunc_irBlock_j1 J v1 v2 v15 v16 v17 p1.2)
  (slices_EqualFunc_irBlock_j2 J p1.2)) := by kernel_rfl
theorem slices_EqualFunc_irBlock_l0_of {K : Ctx} (hF : Fix pgF K) {J : JT (Value × St)} (hJ : IsJ K (retK slices_EqualFunc_irBlock_c.results) J) {v1 : Value} {v2 : Value} {v15 : Value} {v16 : Value} {v17 : Value} {st : St} {Q : Value × St → Prop} (h : Ok (inX K J (retK slices_EqualFunc_irBlock_c.results) slices_EqualFunc_irBlock_c.body [1, 1, 1, 0, 1, 0, 1] (envT [(1, v1), (2, v2), (15, v15), (16, v16), (17, v17)]) st) Q) : Ok (slices_EqualFunc_irBlock_l0 J v1 v2 v15 v16 v17 st) Q := loop_of hF hJ h
theorem slices_EqualFunc_irBlock_j1_eq {K : Ctx} {J : JT (Value × St)} (hJ : IsJ K (retK slices_EqualFunc_irBlock_c.results) J) (v1 : Value) (v2 : Value) (v15 : Value) (v16 : Value) (v17 : Value) (st : St) : slices_EqualFunc_irBlock_j1 J v1 v2 v15 v16 v17 st =
  (.thn st (sIxA 7 none v15 v17 st) fun p1 =>
  .thn p1.2 (sLoad (some 7) p1.1 p1.2) fun p2 =>
  .thn p2.2 (sLnew [(.int .i64 0), (.slice none 0 0), (.slice none 0 0), (.int .u8 0), (.int .i64 0), (.int .i64 0), (.int .i64 0)] p2.2) fun p3 =>
  .thn p3.2 (sUpd 7 0 p3.1 p2.1 p3.2) fun p4 =>
  .thn p4.2 (sIxA 7 none v1 v17 p4.2) fun p5 =>
  .thn p5.2 (sLoad (some 7) p5.1 p5.2) fun p6 =>
  .thn p6.2 (sLnew [(.int .i64 0), (.slice none 0 0), (.slice none 0 0), (.int .u8 0), (.int .i64 0), (.int .i64 0), (.int .i64 0)] p6.2) fun p7 =>
  .thn p7.2 (sUpd 7 0 p7.1 p6.1 p7.2) fun p8 =>
  .thn p8.2 (sField (some 7) 0 p4.1 p8.2) fun p9 =>
  .thn p9.2 (sField (some 7) 0 p8.1 p9.2) fun p10 =>
  .thn p10.2 (sCall K v2 [p9.1, p10.1] p10.2) fun p11 =>
  .thn p11.2 (sUn .not p11.1 p11.2) fun p12 =>
  condX p12.1
  (.ok ((.bool false), p12.2))
  (slices_EqualFunc_irBlock_j3 J v1 v2 v15 v16 v17 p12.2)) := (go_eq hJ _ _ _ _).trans (by kernel_rfl)
theorem slices_EqualFunc_irBlock_j2_eq {K : Ctx} {J : JT (Value × St)} (hJ : IsJ K (retK slices_EqualFunc_irBlock_c.results) J) (st : St) : slices_EqualFunc_irBlock_j2 J st =
  (.ok ((.bool true), st)) := (go_eq hJ _ _ _ _).trans (by kernel_rfl)
theorem slices_EqualFunc_irBlock_j3_eq {K : Ctx} {J : JT (Value × St)} (hJ : IsJ K (retK slices_EqualFunc_irBlock_c.results) J) (v1 : Value) (v2 : Value) (v15 : Value) (v16 : Value) (v17 : Value) (st : St) : slices_EqualFunc_irBlock_j3 J v1 v2 v15 v16 v17 st =
  (.thn st (sBin .add v17 (.int .i64 1) st) fun p1 =>
  slices_EqualFunc_irBlock_l0 J v1 v2 v15 v16 p1.1 p1.2) := (go_eq hJ _ _ _ _).trans (by kernel_rfl)

/-! ### refinery/ir.Same$1 -/
open C in
noncomputable def ir_Same_1_c : AFun := ⟨2, [.tmp 4],
 (s (.ops [o 2 (.lbox (t 0)), o 3 (.lbox (t 1)), o 4 (.mv (c (.bool false)))])
 (s (.ops [o 5 (.lref (t 2)), o 6 (.field none 0 (t 2)), o 7 (.lref (t 3)), o 8 (.field none 0 (t 3)), o 9 (.bin .eql (t 6) (t 8)), o 10 (.mv (t 9)), g 11 true 10 (.lref (t 2)), g 12 true 10 (.field (some 4) 3 (t 2)), g 13 true 10 (.lref (t 3)), g 14 true 10 (.field (some 4) 3 (t 3)), g 15 true 10 (.eq false (.fields [(0, .int), (1, .int), (2, .int), (3, .int)]) (t 12) (t 14)), o 16 (.pick (t 10) (t 15) (c (.bool false))), o 17 (.mv (t 16)), g 18 true 17 (.lref (t 2)), g 19 true 17 (.field none 2 (t 2)), g 20 true 17 (.lref (t 3)), g 21 true 17 (.field none 2 (t 3)), g 22 true 17 (.call (f 40) [(t 19), (t 21)]), o 23 (.pick (t 17) (t 22) (c (.bool false))), o 24 (.mv (t 23)), g 25 true 24 (.lref (t 2)), g 26 true 24 (.field none 1 (t 2)), g 27 true 24 (.lref (t 3)), g 28 true 24 (.field none 1 (t 3)), g 29 true 24 (.call (f 41) [(t 26), (t 28), (f 42)]), o 30 (.pick (t 24) (t 29) (c (.bool false))), o 4 (.mv (t 30))])
 .ret))⟩
theorem ir_Same_1_is : pgF n_ir_Same_1 = some ir_Same_1_c := by kernel_rfl
theorem ir_Same_1_eq (K : Ctx) (J : JT (Value × St)) (a0 a1 : Value) (st : St) : atX K J ir_Same_1_c (AM.start [a0, a1]) st =
  (.thn st (sLbox a0 st) fun p1 =>
  .thn p1.2 (sLbox a1 p1.2) fun p2 =>
  .thn p2.2 (sLref p1.1 p2.2) fun p3 =>
  .thn p3.2 (sField none 0 p1.1 p3.2) fun p4 =>
  .thn p4.2 (sLref p2.1 p4.2) fun p5 =>
  .thn p5.2 (sField none 0 p2.1 p5.2) fun p6 =>
  .thn p6.2 (sBin .eql p4.1 p6.1 p6.2) fun p7 =>
  .thn p7.2 (sG p7.1 true (sLref p1.1 p7.2) p7.2) fun p8 =>
  .thn p8.2 (sG p7.1 true (sField (some 4) 3 p1.1 p8.2) p8.2) fun p9 =>
  .thn p9.2 (sG p7.1 true (sLref p2.1 p9.2) p9.2) fun p10 =>
  .thn p10.2 (sG p7.1 true (sField (some 4) 3 p2.1 p10.2) p10.2) fun p11 =>
  .thn p11.2 (sG p7.1 true (sEq false (.fields [(0, .int), (1, .int), (2, .int), (3, .int)]) p9.1 p11.1 p11.2) p11.2) fun p12 =>
  .thn p12.2 (sPick p7.1 p12.1 (.bool false) p12.2) fun p13 =>
  .thn p13.2 (sG p13.1 true (sLref p1.1 p13.2) p13.2) fun p14 =>
  .thn p14.2 (sG p13.1 true (sField none 2 p1.1 p14.2) p14.2) fun p15 =>
  .thn p15.2 (sG p13.1 true (sLref p2.1 p15.2) p15.2) fun p16 =>
  .thn p16.2 (sG p13.1 true (sField none 2 p2.1 p16.2) p16.2) fun p17 =>
  .thn p17.2 (sG p13.1 true (K.go (.call n_slices_Equal_irInstr [p15.1, p17.1]) p17.2) p17.2) fun p18 =>
  .thn p18.2 (sPick p13.1 p18.1 (.bool false) p18.2) fun p19 =>
  .thn p19.2 (sG p19.1 true (sLref p1.1 p19.2) p19.2) fun p20 =>
  .thn p20.2 (sG p19.1 true (sField none 1 p1.1 p20.2) p20.2) fun p21 =>
  .thn p21.2 (sG p19.1 true (sLref p2.1 p21.2) p21.2) fun p22 =>
  .thn p22.2 (sG p19.1 true (sField none 1 p2.1 p22.2) p22.2) fun p23 =>
  .thn p23.2 (sG p19.1 true (K.go (.call n_slices_EqualFunc_irPhi [p21.1, p23.1, (.func (.func n_ir_Phi_same) #[] #[])]) p23.2) p23.2) fun p24 =>
  .thn p24.2 (sPick p19.1 p24.1 (.bool false) p24.2) fun p25 =>
  .ok (p25.1, p25.2)) := by kernel_rfl
theorem ir_Same_1_of {K : Ctx} (hF : Fix pgF K) {a0 a1 : Value} {st : St} {Q : Value × St → Prop} (h : ∀ J, IsJ K (retK ir_Same_1_c.results) J → Ok (atX K J ir_Same_1_c (AM.start [a0, a1]) st) Q) : Ok (K.go (.call n_ir_Same_1 [a0, a1]) st) Q := call_of hF ir_Same_1_is rfl h

/-! ### slices.Equal[[]refinery/ir.Instr,refinery/ir.Instr] -/
open C in
noncomputable def slices_Equal_irInstr_c : AFun := ⟨26, [.tmp 4],
 (s (.ops [o 4 (.mv (c (.bool false)))])
 (s (s (.ops [o 6 (.mv (t 0)), o 7 (.len .slice (t 6)), o 8 (.mv (t 1)), o 9 (.len .slice (t 8)), o 10 (.bin .neq (t 7) (t 9))])
 (.cond (t 10) (s (.ops [o 4 (.mv (c (.bool false)))])
 .ret) .skip))
 (s (.keep [0, 1])
 (s (s (.ops [o 11 (.mv (t 0)), o 12 (.len .slice (t 11)), o 13 (.mv (c (i 0)))])
 (.block 0 (s (.keep [0, 1, 12, 13])
 (.loop (s (s (.ops [o 14 (.bin .lss (t 13) (t 12))])
 (s (.cond (t 14) .skip (.exit 0))
 (s (.keep [0, 1, 12, 13])
 (s (.block 1 (s (.ops [o 15 (.mv (t 13)), o 5 (.mv (t 15))])
 (s (.draw [d 0 0 false (o 16 (.mv (t 0))), d 1 0 false (o 17 (.mv (t 5))), d 2 0 false (o 18 (.ixA 7 none (t 16) (t 17))), d 3 0 false (o 19 (.load (some 7) (t 18))), d 4 0 false (o 20 (.mv (t 1))), d 5 0 false (o 21 (.mv (t 5))), d 6 0 false (o 22 (.ixA 7 none (t 20) (t 21))), d 7 0 false (o 23 (.load (some 7) (t 22))), d 8 0 false (o 24 (.eq true (.fields [(0, .int), (1, .int), (2, .int), (3, .int), (4, .int), (5, .int), (6, .int)]) (t 19) (t 23)))])
 (.cond (t 24) (s (.ops [o 4 (.mv (c (.bool false)))])
 .ret) .skip))))
 (s (.keep [0, 1, 12, 13])
 (.ops [o 25 (.bin .add (t 13) (c (i 1))), o 13 (.mv (t 25))]))))))
 (.keep [0, 1, 12, 13]))))))
 (s (.keep [])
 (s (.ops [o 4 (.mv (c (.bool true)))])
 .ret))))))⟩
theorem slices_Equal_irInstr_is : pgF n_slices_Equal_irInstr = some slices_Equal_irInstr_c := by kernel_rfl
noncomputable def slices_Equal_irInstr_j0 (J : JT (Value × St)) (v0 : Value) (v1 : Value) (st : St) : Res (Value × St) := goX J slices_Equal_irInstr_c.body [1, 1, 1] (envT [(0, v0), (1, v1)]) st
noncomputable def slices_Equal_irInstr_l0 (J : JT (Value × St)) (v0 : Value) (v1 : Value) (v12 : Value) (v13 : Value) (st : St) : Res (Value × St) := lpX J slices_Equal_irInstr_c.body [1, 1, 1, 0, 1, 0, 1] (envT [(0, v0), (1, v1), (12, v12), (13, v13)]) st
noncomputable def slices_Equal_irInstr_j1 (J : JT (Value × St)) (v0 : Value) (v1 : Value) (v12 : Value) (v13 : Value) (st : St) : Res (Value × St) := goX J slices_Equal_irInstr_c.body [1, 1, 1, 0, 1, 0, 1, 0, 0, 1, 1, 1] (envT [(0, v0), (1, v1), (12, v12), (13, v13)]) st
noncomputable def slices_Equal_irInstr_j2 (J : JT (Value × St)) (st : St) : Res (Value × St) := goX J slices_Equal_irInstr_c.body [1, 1, 1, 1, 1] (envT []) st
noncomputable def slices_Equal_irInstr_j3 (J : JT (Value × St)) (v0 : Value) (v1 : Value) (v12 : Value) (v13 : Value) (st : St) : Res (Value × St) := goX J slices_Equal_irInstr_c.body [1, 1, 1, 0, 1, 0, 1, 0, 0, 1, 1, 1, 1, 1] (envT [(0, v0), (1, v1), (12, v12), (13, v13)]) st
theorem slices_Equal_irInstr_eq (K : Ctx) (J : JT (Value × St)) (a0 a1 : Value) (st : St) : atX K J slices_Equal_irInstr_c (AM.start [a0, a1]) st =
  (.thn st (sLen .slice a0 st) fun p1 =>
  .thn p1.2 (sLen .slice a1 p1.2) fun p2 =>
  .thn p2.2 (sBin .neq p1.1 p2.1 p2.2) fun p3 =>
  condX p3.1
  (.ok ((.bool false), p3.2))
  (slices_Equal_irInstr_j0 J a0 a1 p3.2)) := by kernel_rfl
theorem slices_Equal_irInstr_of {K : Ctx} (hF : Fix pgF K) {a0 a1 : Value} {st : St} {Q : Value × St → Prop} (h : ∀ J, IsJ K (retK slices_Equal_irInstr_c.results) J → Ok (atX K J slices_Equal_irInstr_c (AM.start [a0, a1]) st) Q) : Ok (K.go (.call n_slices_Equal_irInstr [a0, a1]) st) Q := call_of hF slices_Equal_irInstr_is rfl h
theorem slices_Equal_irInstr_j0_eq {K : Ctx} {J : JT (Value × St)} (hJ : IsJ K (retK slices_Equal_irInstr_c.results) J) (v0 : Value) (v1 : Value) (st : St) : slices_Equal_irInstr_j0 J v0 v1 st =
  (.thn st (sLen .slice v0 st) fun p1 =>
  slices_Equal_irInstr_l0 J v0 v1 p1.1 (.int .i64 0) p1.2) := (go_eq hJ _ _ _ _).trans (by kernel_rfl)
theorem slices_Equal_irInstr_l0_eq (K : Ctx) (J : JT (Value × St)) (v0 : Value) (v1 : Value) (v12 : Value) (v13 : Value) (st : St) : inX K J (retK slices_Equal_irInstr_c.results) slices_Equal_irInstr_c.body [1, 1, 1, 0, 1, 0, 1] (envT [(0, v0), (1, v1), (12, v12), (13, v13)]) st =
  (.thn st (sBin .lss v13 v12 st) fun p1 =>
  condX p1.1
  (slices_Equal_irInstr_j1 J v0 v1 v12 v13 p1.2)
  (slices_Equal_irInstr_j2 J p1.2)) := by kernel_rfl
theorem slices_Equal_irInstr_l0_of {K : Ctx} (hF : Fix pgF K) {J : JT (Value × St)} (hJ : IsJ K (retK slices_Equal_irInstr_c.results) J) {v0 : Value} {v1 : Value} {v12 : Value} {v13 : Value} {st : St} {Q : Value × St → Prop} (h : Ok (inX K J (retK slices_Equal_irInstr_c.results) slices_Equal_irInstr_c.body [1, 1, 1, 0, 1, 0, 1] (envT [(0, v0), (1, v1), (12, v12), (13, v13)]) st) Q) : Ok (slices_Equal_irInstr_l0 J v0 v1 v12 v13 st) Q := loop_of hF hJ h
theorem slices_Equal_irInstr_j1_eq {K : Ctx} {J : JT (Value × St)} (hJ : IsJ K (retK slices_Equal_irInstr_c.results) J) (v0 : Value) (v1 : Value) (v12 : Value) (v13 : Value) (st : St) : slices_Equal_irInstr_j1 J v0 v1 v12 v13 st =
  (.thn st (sIxA 7 none v0 v13 st) fun p1 =>
  .thn p1.2 (sLoad (some 7) p1.1 p1.2) fun p2 =>
  .thn p2.2 (sIxA 7 none v1 v13 p2.2) fun p3 =>
  .thn p3.2 (sLoad (some 7) p3.1 p3.2) fun p4 =>
  .thn p4.2 (sEq true (.fields [(0, .int), (1, .int), (2, .int), (3, .int), (4, .int), (5, .int), (6, .int)]) p2.1 p4.1 p4.2) fun p5 =>
  condX p5.1
  (.ok ((.bool false), p5.2))
  (slices_Equal_irInstr_j3 J v0 v1 v12 v13 p5.2)) := (go_eq hJ _ _ _ _).trans (by kernel_rfl)
theorem slices_Equal_irInstr_j2_eq {K : Ctx} {J : JT (Value × St)} (hJ : IsJ K (retK slices_Equal_irInstr_c.results) J) (st : St) : slices_Equal_irInstr_j2 J st =
  (.ok ((.bool true), st)) := (go_eq hJ _ _ _ _).trans (by kernel_rfl)
theorem slices_Equal_irInstr_j3_eq {K : Ctx} {J : JT (Value × St)} (hJ : IsJ K (retK slices_Equal_irInstr_c.results) J) (v0 : Value) (v1 : Value) (v12 : Value) (v13 : Value) (st : St) : slices_Equal_irInstr_j3 J v0 v1 v12 v13 st =
  (.thn st (sBin .add v13 (.int .i64 1) st) fun p1 =>
  slices_Equal_irInstr_l0 J v0 v1 v12 p1.1 p1.2) := (go_eq hJ _ _ _ _).trans (by kernel_rfl)

/-! ### slices.EqualFunc[[]refinery/ir.Phi,[]refinery/ir.Phi,refinery/ir.Phi,refinery/ir.Phi] -/
open C in
noncomputable def slices_EqualFunc_irPhi_c : AFun := ⟨3, [.tmp 6],
 (s (.ops [o 6 (.mv (c (.bool false)))])
 (s (s (.ops [o 10 (.mv (t 0)), o 11 (.len .slice (t 10)), o 12 (.mv (t 1)), o 13 (.len .slice (t 12)), o 14 (.bin .neq (t 11) (t 13))])
 (.cond (t 14) (s (.ops [o 6 (.mv (c (.bool false)))])
 .ret) .skip))
 (s (.keep [0, 1, 2])
 (s (s (.ops [o 15 (.mv (t 0)), o 16 (.len .slice (t 15)), o 17 (.mv (c (i 0)))])
 (.block 0 (s (.keep [1, 2, 15, 16, 17])
 (.loop (s (s (.ops [o 18 (.bin .lss (t 17) (t 16))])
 (s (.cond (t 18) .skip (.exit 0))
 (s (.keep [1, 2, 15, 16, 17])
 (s (.block 1 (s (.ops [o 19 (.mv (t 17)), o 20 (.ixA 3 none (t 15) (t 17)), o 21 (.load (some 3) (t 20)), o 8 (.lnew [(i 0), (.slice none 0 0), (.slice none 0 0)]), o 7 (.mv (t 19)), o 8 (.upd 3 0 (t 8) (t 21))])
 (s (.ops [o 22 (.mv (t 1)), o 23 (.mv (t 7)), o 24 (.ixA 3 none (t 22) (t 23)), o 25 (.load (some 3) (t 24)), o 9 (.lnew [(i 0), (.slice none 0 0), (.slice none 0 0)]), o 9 (.upd 3 0 (t 9) (t 25))])
 (s (.ops [o 26 (.mv (t 2)), o 27 (.field (some 3) 0 (t 8)), o 28 (.field (some 3) 0 (t 9)), o 29 (.call (t 26) [(t 27), (t 28)]), o 30 (.un .not (t 29))])
 (.cond (t 30) (s (.ops [o 6 (.mv (c (.bool false)))])
 .ret) .skip)))))
 (s (.keep [1, 2, 15, 16, 17])
 (.ops [o 31 (.bin .add (t 17) (c (i 1))), o 17 (.mv (t 31))]))))))
 (.keep [1, 2, 15, 16, 17]))))))
 (s (.keep [])
 (s (.ops [o 6 (.mv (c (.bool true)))])
 .ret))))))⟩
theorem slices_EqualFunc_irPhi_is : pgF n_slices_EqualFunc_irPhi = some slices_EqualFunc_irPhi_c := by kernel_rfl
noncomputable def slices_EqualFunc_irPhi_j0 (J : JT (Value × St)) (v0 : Value) (v1 : Value) (v2 : Value) (st : St) : Res (Value × St) := goX J slices_EqualFunc_irPhi_c.body [1, 1, 1] (envT [(0, v0), (1, v1), (2, v2)]) st
noncomputable def slices_EqualFunc_irPhi_l0 (J : JT (Value × St)) (v1 : Value) (v2 : Value) (v15 : Value) (v16 : Value) (v17 : Value) (st : St) : Res (Value × St) := lpX J slices_EqualFunc_irPhi_c.body [1, 1, 1, 0, 1, 0, 1] (envT [(1, v1), (2, v2), (15, v15), (16, v16), (17, v17)]) st
noncomputable def slices_EqualFunc_irPhi_j1 (J : JT (Value × St)) (v1 : Value) (v2 : Value) (v15 : Value) (v16 : Value) (v17 : Value) (st : St) : Res (Value × St) := goX J slices_EqualFunc_irPhi_c.body [1, 1, 1, 0, 1, 0, 1, 0, 0, 1, 1, 1] (envT [(1, v1), (2, v2), (15, v15), (16, v16), (17, v17)]) st
noncomputable def slices_EqualFunc_irPhi_j2 (J : JT (Value × St)) (st : St) : Res (Value × St) := goX J slices_EqualFunc_irPhi_c.body [1, 1, 1, 1, 1] (envT []) st
noncomputable def slices_EqualFunc_irPhi_j3 (J : JT (Value × St)) (v1 : Value) (v2 : Value) (v15 : Value) (v16 : Value) (v17 : Value) (st : St) : Res (Value × St) := goX J slices_EqualFunc_irPhi_c.body [1, 1, 1, 0, 1, 0, 1, 0, 0, 1, 1, 1, 1, 1] (envT [(1, v1), (2, v2), (15, v15), (16, v16), (17, v17)]) st
theorem slices_EqualFunc_irPhi_eq (K : Ctx) (J : JT (Value × St)) (a0 a1 a2 : Value) (st : St) : atX K J slices_EqualFunc_irPhi_c (AM.start [a0, a1, a2]) st =
  (.thn st (sLen .slice a0 st) fun p1 =>
  .thn p1.2 (sLen .slice a1 p1.2) fun p2 =>
  .thn p2.2 (sBin .neq p1.1 p2.1 p2.2) fun p3 =>
  condX p3.1
  (.ok ((.bool false), p3.2))
  (slices_EqualFunc_irPhi_j0 J a0 a1 a2 p3.2)) := by kernel_rfl
theorem slices_EqualFunc_irPhi_of {K : Ctx} (hF : Fix pgF K) {a0 a1 a2 : Value} {st : St} {Q : Value × St → Prop} (h : ∀ J, IsJ K (retK slices_EqualFunc_irPhi_c.results) J → Ok (atX K J slices_EqualFunc_irPhi_c (AM.start [a0, a1, a2]) st) Q) : Ok (K.go (.call n_slices_EqualFunc_irPhi [a0, a1, a2]) st) Q := call_of hF slices_EqualFunc_irPhi_is rfl h
theorem slices_EqualFunc_irPhi_j0_eq {K : Ctx} {J : JT (Value × St)} (hJ : IsJ K (retK slices_EqualFunc_irPhi_c.results) J) (v0 : Value) (v1 : Value) (v2 : Value) (st : St) : slices_EqualFunc_irPhi_j0 J v0 v1 v2 st =
  (.thn st (sLen .slice v0 st) fun p1 =>
  slices_EqualFunc_irPhi_l0 J v1 v2 v0 p1.1 (.int .i64 0) p1.2) := (go_eq hJ _ _ _ _).trans (by kernel_rfl)
theorem slices_EqualFunc_irPhi_l0_eq (K : Ctx) (J : JT (Value × St)) (v1 : Value) (v2 : Value) (v15 : Value) (v16 : Value) (v17 : Value) (st : St) : inX K J (retK slices_EqualFunc_irPhi_c.results) slices_EqualFunc_irPhi_c.body [1, 1, 1, 0, 1, 0, 1] (envT [(1, v1), (2, v2), (15, v15), (16, v16), (17, v17)]) st =
  (.thn st (sBin .lss v17 v16 st) fun p1 =>
  condX p1.1
  (slices_EqualFunc_irPhi_j1 J v1 v2 v15 v16 v17 p1.2)
  (slices_EqualFunc_irPhi_j2 J p1.2)) := by kernel_rfl
theorem slices_EqualFunc_irPhi_l0_of {K : Ctx} (hF : Fix pgF K) {J : JT (Value × St)} (hJ : IsJ K (retK slices_EqualFunc_irPhi_c.results) J) {v1 : Value} {v2 : Value} {v15 : Value} {v16 : Value} {v17 : Value} {st : St} {Q : Value × St → Prop} (h : Ok (inX K J (retK slices_EqualFunc_irPhi_c.results) slices_EqualFunc_irPhi_c.body [1, 1, 1, 0, 1, 0, 1] (envT [(1, v1), (2, v2), (15, v15), (16, v16), (17, v17)]) st) Q) : Ok (slices_EqualFunc_irPhi_l0 J v1 v2 v15 v16 v17 st) Q := loop_of hF hJ h
theorem slices_EqualFunc_irPhi_j1_eq {K : Ctx} {J : JT (Value × St)} (hJ : IsJ K (retK slices_EqualFunc_irPhi_c.results) J) (v1 : Value) (v2 : Value) (v15 : Value) (v16 : Value) (v17 : Value) (st : St) : slices_EqualFunc_irPhi_j1 J v1 v2 v15 v16 v17 st =
  (.thn st (sIxA 3 none v15 v17 st) fun p1 =>
  .thn p1.2 (sLoad (some 3) p1.1 p1.2) fun p2 =>
  .thn p2.2 (sLnew [(.int .i64 0), (.slice none 0 0), (.slice none 0 0)] p2.2) fun p3 =>
  .thn p3.2 (sUpd 3 0 p3.1 p2.1 p3.2) fun p4 =>
  .thn p4.2 (sIxA 3 none v1 v17 p4.2) fun p5 =>
  .thn p5.2 (sLoad (some 3) p5.1 p5.2) fun p6 =>
  .thn p6.2 (sLnew [(.int .i64 0), (.slice none 0 0), (.slice none 0 0)] p6.2) fun p7 =>
  .thn p7.2 (sUpd 3 0 p7.1 p6.1 p7.2) fun p8 =>
  .thn p8.2 (sField (some 3) 0 p4.1 p8.2) fun p9 =>
  .thn p9.2 (sField (some 3) 0 p8.1 p9.2) fun p10 =>
  .thn p10.2 (sCall K v2 [p9.1, p10.1] p10.2) fun p11 =>
  .thn p11.2 (sUn .not p11.1 p11.2) fun p12 =>
  condX p12.1
  (.ok ((.bool false), p12.2))
  (slices_EqualFunc_irPhi_j3 J v1 v2 v15 v16 v17 p12.2)) := (go_eq hJ _ _ _ _).trans (by kernel_rfl)
theorem slices_EqualFunc_irPhi_j2_eq {K : Ctx} {J : JT (Value × St)} (hJ : IsJ K (retK slices_EqualFunc_irPhi_c.results) J) (st : St) : slices_EqualFunc_irPhi_j2 J st =
  (.ok ((.bool true), st)) := (go_eq hJ _ _ _ _).trans (by kernel_rfl)
theorem slices_EqualFunc_irPhi_j3_eq {K : Ctx} {J : JT (Value × St)} (hJ : IsJ K (retK slices_EqualFunc_irPhi_c.results) J) (v1 : Value) (v2 : Value) (v15 : Value) (v16 : Value) (v17 : Value) (st : St) : slices_EqualFunc_irPhi_j3 J v1 v2 v15 v16 v17 st =
  (.thn st (sBin .add v17 (.int .i64 1) st) fun p1 =>
  slices_EqualFunc_irPhi_l0 J v1 v2 v15 v16 p1.1 p1.2) := (go_eq hJ _ _ _ _).trans (by kernel_rfl)

/-! ### (refinery/ir.Phi).same -/
open C in
noncomputable def ir_Phi_same_c : AFun := ⟨2, [.tmp 4],
 (s (.ops [o 2 (.lbox (t 0)), o 3 (.lbox (t 1)), o 4 (.mv (c (.bool false)))])
 (s (.ops [o 5 (.lref (t 2)), o 6 (.field none 0 (t 2)), o 7 (.lref (t 3)), o 8 (.field none 0 (t 3)), o 9 (.bin .eql (t 6) (t 8)), o 10 (.mv (t 9)), g 11 true 10 (.lref (t 2)), g 12 true 10 (.field none 1 (t 2)), g 13 true 10 (.lref (t 3)), g 14 true 10 (.field none 1 (t 3)), g 15 true 10 (.call (f 30) [(t 12), (t 14)]), o 16 (.pick (t 10) (t 15) (c (.bool false))), o 17 (.mv (t 16)), g 18 true 17 (.lref (t 2)), g 19 true 17 (.field none 2 (t 2)), g 20 true 17 (.lref (t 3)), g 21 true 17 (.field none 2 (t 3)), g 22 true 17 (.call (f 30) [(t 19), (t 21)]), o 23 (.pick (t 17) (t 22) (c (.bool false))), o 4 (.mv (t 23))])
 .ret))⟩
theorem ir_Phi_same_is : pgF n_ir_Phi_same = some ir_Phi_same_c := by kernel_rfl
theorem ir_Phi_same_eq (K : Ctx) (J : JT (Value × St)) (a0 a1 : Value) (st : St) : atX K J ir_Phi_same_c (AM.start [a0, a1]) st =
  (.thn st (sLbox a0 st) fun p1 =>
  .thn p1.2 (sLbox a1 p1.2) fun p2 =>
  .thn p2.2 (sLref p1.1 p2.2) fun p3 =>
  .thn p3.2 (sField none 0 p1.1 p3.2) fun p4 =>
  .thn p4.2 (sLref p2.1 p4.2) fun p5 =>
  .thn p5.2 (sField none 0 p2.1 p5.2) fun p6 =>
  .thn p6.2 (sBin .eql p4.1 p6.1 p6.2) fun p7 =>
  .thn p7.2 (sG p7.1 true (sLref p1.1 p7.2) p7.2) fun p8 =>
  .thn p8.2 (sG p7.1 true (sField none 1 p1.1 p8.2) p8.2) fun p9 =>
  .thn p9.2 (sG p7.1 true (sLref p2.1 p9.2) p9.2) fun p10 =>
  .thn p10.2 (sG p7.1 true (sField none 1 p2.1 p10.2) p10.2) fun p11 =>
  .thn p11.2 (sG p7.1 true (K.go (.call n_slices_Equal_int [p9.1, p11.1]) p11.2) p11.2) fun p12 =>
  .thn p12.2 (sPick p7.1 p12.1 (.bool false) p12.2) fun p13 =>
  .thn p13.2 (sG p13.1 true (sLref p1.1 p13.2) p13.2) fun p14 =>
  .thn p14.2 (sG p13.1 true (sField none 2 p1.1 p14.2) p14.2) fun p15 =>
  .thn p15.2 (sG p13.1 true (sLref p2.1 p15.2) p15.2) fun p16 =>
  .thn p16.2 (sG p13.1 true (sField none 2 p2.1 p16.2) p16.2) fun p17 =>
  .thn p17.2 (sG p13.1 true (K.go (.call n_slices_Equal_int [p15.1, p17.1]) p17.2) p17.2) fun p18 =>
  .thn p18.2 (sPick p13.1 p18.1 (.bool false) p18.2) fun p19 =>
  .ok (p19.1, p19.2)) := by kernel_rfl
theorem ir_Phi_same_of {K : Ctx} (hF : Fix pgF K) {a0 a1 : Value} {st : St} {Q : Value × St → Prop} (h : ∀ J, IsJ K (retK ir_Phi_same_c.results) J → Ok (atX K J ir_Phi_same_c (AM.start [a0, a1]) st) Q) : Ok (K.go (.call n_ir_Phi_same [a0, a1]) st) Q := call_of hF ir_Phi_same_is rfl h
end Go.Proofs.Ytenfblnmmmppbaa.Sh
