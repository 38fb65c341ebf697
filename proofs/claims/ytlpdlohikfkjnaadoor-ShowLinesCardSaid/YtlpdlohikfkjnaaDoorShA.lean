/-
 The functions of the program, operation by operation, as the abstract machine has them.
-/
import Derived.Test.YtlpdlohikfkjnaaDoorProg
import Derived.Test.YtlpdlohikfkjnaaDoorShN
set_option linter.unusedVariables false
set_option maxRecDepth 100000
namespace Go.Proofs.YtlpdlohikfkjnaaDoor.Sh
open Go Go.AM Go.Proofs
noncomputable section
variable {K : Ctx} {J : JT (Value × St)} {st : St} {Q : Value × St → Prop}
open C in
def refinerylaw06_Awake_c : AFun := ⟨7, [.tmp 0],
 (s (.ops [o 0 (.mv (c (.bool false)))])
 (s (.ops [o 1 (.build [(u 0), (i 0), (i 0), (i 0)] [(0, 1, (c (u 3)))]), o 2 (.build [(i 0), (.slice none 0 0), (.slice none 0 0), (u 0), (i 0), (i 0), (i 0)] [(3, 4, (t 1))]), o 3 (.lit 7 1 [(i 0), (.slice none 0 0), (.slice none 0 0), (u 0), (i 0), (i 0), (i 0)] [(0, 7, (t 2))]), o 4 (.build [(.slice none 0 0)] [(0, 1, (t 3))]), o 5 (.call (f 13) [(t 4)]), o 6 (.bin .eql (t 5) (c (.string (bstr [64, 48, 58, 10, 32, 32, 116, 114, 97, 112, 10])))), o 0 (.mv (t 6))])
 .ret))⟩
theorem refinerylaw06_Awake_is : pgF n_refinerylaw06_Awake = some refinerylaw06_Awake_c := by kernel_rfl
theorem refinerylaw06_Awake_eq (K : Ctx) (J : JT (Value × St)) (st : St) : atX K J refinerylaw06_Awake_c (AM.start []) st =
 (.thn st (sBuild [(.int .u8 0), (.int .i64 0), (.int .i64 0), (.int .i64 0)] [(0, 1, (.int .u8 3))] st) fun p1 =>
 .thn p1.2 (sBuild [(.int .i64 0), (.slice none 0 0), (.slice none 0 0), (.int .u8 0), (.int .i64 0), (.int .i64 0), (.int .i64 0)] [(3, 4, p1.1)] p1.2) fun p2 =>
 .thn p2.2 (sLit 7 1 [(.int .i64 0), (.slice none 0 0), (.slice none 0 0), (.int .u8 0), (.int .i64 0), (.int .i64 0), (.int .i64 0)] [(0, 7, p2.1)] p2.2) fun p3 =>
 .thn p3.2 (sBuild [(.slice none 0 0)] [(0, 1, p3.1)] p3.2) fun p4 =>
 .thn p4.2 (K.go (.call n_show_Program [p4.1]) p4.2) fun p5 =>
 .thn p5.2 (sBin .eql p5.1 (.string (bstr [64, 48, 58, 10, 32, 32, 116, 114, 97, 112, 10])) p5.2) fun p6 =>
 .ok (p6.1, p6.2)) := by kernel_rfl
theorem refinerylaw06_Awake_of : Of0 n_refinerylaw06_Awake refinerylaw06_Awake_c := fun hF => call_of hF refinerylaw06_Awake_is rfl
open C in
def ir_Instr_Only_c : AFun := ⟨1, [.part 2 (some 7)],
 (s (.ops [o 1 (.lbox (t 0)), o 2 (.lnew [(u 0), (u 0), (i 0), (i 0), (i 0), (i 0), (i 0)])])
 (s (.ops [o 5 (.lref (t 1)), o 6 (.field none 0 (t 1)), o 7 (.build [(u 0), (u 0), (i 0), (i 0), (i 0), (i 0), (i 0)] [(0, 1, (t 6))]), o 3 (.lnew [(u 0), (u 0), (i 0), (i 0), (i 0), (i 0), (i 0)]), o 3 (.upd 7 0 (t 3) (t 7))])
 (s (.ops [o 9 (.field (some 7) 0 (t 1)), o 10 (.call (f 21) [(t 9)]), o 8 (.mv (t 10)), o 11 (.extract (t 8) 0), o 12 (.extract (t 8) 1), o 13 (.lref (t 3)), o 3 (.upd 1 2 (t 3) (t 11))])
 (s (s (.ops [o 14 (.field (some 7) 0 (t 1)), o 15 (.call (f 37) [(t 14)]), o 4 (.mv (t 15))])
 (s (.ops [o 16 (.mv (t 4)), o 17 (.len .slice (t 16))])
 (.block 0 (s (.ops [o 19 (.bin .eql (t 17) (c (i 1))), o 18 (.mv (t 19))])
 (.cond (t 18) (.ops [o 20 (.mv (t 4)), o 21 (.ixA 1 none (t 20) (c (i 0))), o 22 (.load none (t 21)), o 23 (.lref (t 3)), o 3 (.upd 1 3 (t 3) (t 22))]) (s (.ops [o 25 (.bin .eql (t 17) (c (i 2))), o 24 (.mv (t 25))])
 (.cond (t 24) (.draw [d 0 0 false (o 26 (.mv (t 4))), d 1 0 false (o 27 (.ixA 1 none (t 26) (c (i 0)))), d 2 0 false (o 28 (.load none (t 27))), d 6 0 false (o 32 (.lref (t 3))), d 7 0 true (o 3 (.upd 1 3 (t 3) (t 28))), d 3 0 false (o 29 (.mv (t 4))), d 4 0 false (o 30 (.ixA 1 none (t 29) (c (i 1)))), d 5 1 false (o 31 (.load none (t 30))), d 8 0 false (o 33 (.lref (t 3))), d 9 0 true (o 3 (.upd 1 4 (t 3) (t 31)))]) .skip)))))))
 (s (.keep [1, 2, 3])
 (s (s (.ops [o 34 (.lref (t 1)), o 35 (.field none 0 (t 1))])
 (.block 1 (s (.ops [o 37 (.bin .eql (t 35) (c (u 0))), o 36 (.mv (t 37))])
 (.cond (t 36) (.ops [o 38 (.lref (t 1)), o 39 (.field none 5 (t 1)), o 40 (.lref (t 3)), o 3 (.upd 1 5 (t 3) (t 39))]) (s (.ops [o 42 (.bin .eql (t 35) (c (u 2))), o 41 (.mv (t 42))])
 (.cond (t 41) (.ops [o 43 (.lref (t 1)), o 44 (.field none 1 (t 1)), o 45 (.lref (t 3)), o 3 (.upd 1 1 (t 3) (t 44))]) (s (s (.ops [o 47 (.bin .eql (t 35) (c (u 5))), o 46 (.mv (t 47))])
 (.cond (t 46) .skip (.ops [o 48 (.bin .eql (t 35) (c (u 6))), o 46 (.mv (t 48))])))
 (s (.keep [1, 2, 3, 46])
 (.cond (t 46) (.ops [o 49 (.lref (t 1)), o 50 (.field none 6 (t 1)), o 51 (.lref (t 3)), o 3 (.upd 1 6 (t 3) (t 50))]) .skip)))))))))
 (s (.keep [2, 3])
 (s (.ops [o 52 (.field (some 7) 0 (t 3)), o 2 (.upd 7 0 (t 2) (t 52))])
 .ret))))))))⟩
theorem ir_Instr_Only_is : pgF n_ir_Instr_Only = some ir_Instr_Only_c := by kernel_rfl
def ir_Instr_Only_j0 (J : JT (Value × St)) (v1 v2 v3 : Value) (st : St) := goX J ir_Instr_Only_c.body [1, 1, 1, 1, 1] (envT [(1, v1), (2, v2), (3, v3)]) st
def ir_Instr_Only_j1 (J : JT (Value × St)) (v2 v3 : Value) (st : St) := goX J ir_Instr_Only_c.body [1, 1, 1, 1, 1, 1, 1] (envT [(2, v2), (3, v3)]) st
def ir_Instr_Only_j2 (J : JT (Value × St)) (v1 v2 v3 v46 : Value) (st : St) := goX J ir_Instr_Only_c.body [1, 1, 1, 1, 1, 0, 1, 0, 1, 1, 1, 1, 1, 1] (envT [(1, v1), (2, v2), (3, v3), (46, v46)]) st
theorem ir_Instr_Only_eq (K : Ctx) (J : JT (Value × St)) (a0 : Value) (st : St) : atX K J ir_Instr_Only_c (AM.start [a0]) st =
 (.thn st (sLbox a0 st) fun p1 =>
 .thn p1.2 (sLnew [(.int .u8 0), (.int .u8 0), (.int .i64 0), (.int .i64 0), (.int .i64 0), (.int .i64 0), (.int .i64 0)] p1.2) fun p2 =>
 .thn p2.2 (sLref p1.1 p2.2) fun p3 =>
 .thn p3.2 (sField none 0 p1.1 p3.2) fun p4 =>
 .thn p4.2 (sBuild [(.int .u8 0), (.int .u8 0), (.int .i64 0), (.int .i64 0), (.int .i64 0), (.int .i64 0), (.int .i64 0)] [(0, 1, p4.1)] p4.2) fun p5 =>
 .thn p5.2 (sLnew [(.int .u8 0), (.int .u8 0), (.int .i64 0), (.int .i64 0), (.int .i64 0), (.int .i64 0), (.int .i64 0)] p5.2) fun p6 =>
 .thn p6.2 (sUpd 7 0 p6.1 p5.1 p6.2) fun p7 =>
 .thn p7.2 (sField (some 7) 0 p1.1 p7.2) fun p8 =>
 .thn p8.2 (K.go (.call n_ir_Instr_Sets [p8.1]) p8.2) fun p9 =>
 .thn p9.2 (sExtract p9.1 0 p9.2) fun p10 =>
 .thn p10.2 (sExtract p9.1 1 p10.2) fun p11 =>
 .thn p11.2 (sLref p7.1 p11.2) fun p12 =>
 .thn p12.2 (sUpd 1 2 p7.1 p10.1 p12.2) fun p13 =>
 .thn p13.2 (sField (some 7) 0 p1.1 p13.2) fun p14 =>
 .thn p14.2 (K.go (.call n_ir_Instr_Reads [p14.1]) p14.2) fun p15 =>
 .thn p15.2 (sLen .slice p15.1 p15.2) fun p16 =>
 .thn p16.2 (sBin .eql p16.1 (.int .i64 1) p16.2) fun p17 =>
 condX p17.1
 (.thn p17.2 (sIxA 1 none p15.1 (.int .i64 0) p17.2) fun p18 =>
 .thn p18.2 (sLoad none p18.1 p18.2) fun p19 =>
 .thn p19.2 (sLref p13.1 p19.2) fun p20 =>
 .thn p20.2 (sUpd 1 3 p13.1 p19.1 p20.2) fun p21 =>
 ir_Instr_Only_j0 J p1.1 p2.1 p21.1 p21.2)
 (.thn p17.2 (sBin .eql p16.1 (.int .i64 2) p17.2) fun p22 =>
 condX p22.1
 (.thn p22.2 (sIxA 1 none p15.1 (.int .i64 0) p22.2) fun p23 =>
 .thn p23.2 (sLoad none p23.1 p23.2) fun p24 =>
 .thn p24.2 (sLref p13.1 p24.2) fun p25 =>
 .thn p25.2 (sUpd 1 3 p13.1 p24.1 p25.2) fun p26 =>
 .thn p26.2 (sIxA 1 none p15.1 (.int .i64 1) p26.2) fun p27 =>
 .thn p27.2 (sLoad none p27.1 p27.2) fun p28 =>
 Res.need (sStays (List.take 1 (p25.2 :: [])) p26.2.next p27.1 (fun s => sLoad none p27.1 s) p28.1) "order" >>= fun _ =>
 .thn p28.2 (sLref p26.1 p28.2) fun p29 =>
 .thn p29.2 (sUpd 1 4 p26.1 p28.1 p29.2) fun p30 =>
 ir_Instr_Only_j0 J p1.1 p2.1 p30.1 p30.2)
 (ir_Instr_Only_j0 J p1.1 p2.1 p13.1 p22.2))) := by kernel_rfl
theorem ir_Instr_Only_of : Of1 n_ir_Instr_Only ir_Instr_Only_c := fun hF => call_of hF ir_Instr_Only_is rfl
theorem ir_Instr_Only_j0_eq (hJ : IsJ K (retK ir_Instr_Only_c.results) J) (v1 v2 v3 : Value) (st : St) : ir_Instr_Only_j0 J v1 v2 v3 st =
 (.thn st (sLref v1 st) fun p1 =>
 .thn p1.2 (sField none 0 v1 p1.2) fun p2 =>
 .thn p2.2 (sBin .eql p2.1 (.int .u8 0) p2.2) fun p3 =>
 condX p3.1
 (.thn p3.2 (sLref v1 p3.2) fun p4 =>
 .thn p4.2 (sField none 5 v1 p4.2) fun p5 =>
 .thn p5.2 (sLref v3 p5.2) fun p6 =>
 .thn p6.2 (sUpd 1 5 v3 p5.1 p6.2) fun p7 =>
 ir_Instr_Only_j1 J v2 p7.1 p7.2)
 (.thn p3.2 (sBin .eql p2.1 (.int .u8 2) p3.2) fun p8 =>
 condX p8.1
 (.thn p8.2 (sLref v1 p8.2) fun p9 =>
 .thn p9.2 (sField none 1 v1 p9.2) fun p10 =>
 .thn p10.2 (sLref v3 p10.2) fun p11 =>
 .thn p11.2 (sUpd 1 1 v3 p10.1 p11.2) fun p12 =>
 ir_Instr_Only_j1 J v2 p12.1 p12.2)
 (.thn p8.2 (sBin .eql p2.1 (.int .u8 5) p8.2) fun p13 =>
 condX p13.1
 (ir_Instr_Only_j2 J v1 v2 v3 p13.1 p13.2)
 (.thn p13.2 (sBin .eql p2.1 (.int .u8 6) p13.2) fun p14 =>
 ir_Instr_Only_j2 J v1 v2 v3 p14.1 p14.2)))) := gq hJ (by kernel_rfl)
theorem ir_Instr_Only_j1_eq (hJ : IsJ K (retK ir_Instr_Only_c.results) J) (v2 v3 : Value) (st : St) : ir_Instr_Only_j1 J v2 v3 st =
 (.thn st (sField (some 7) 0 v3 st) fun p1 =>
 .thn p1.2 (sUpd 7 0 v2 p1.1 p1.2) fun p2 =>
 (sField (some 7) 0 p2.1 p2.2 >>= fun p3 => .ok [p3.1]) >>= fun vs => .ok (oneOf vs, p2.2)) := gq hJ (by kernel_rfl)
theorem ir_Instr_Only_j2_eq (hJ : IsJ K (retK ir_Instr_Only_c.results) J) (v1 v2 v3 v46 : Value) (st : St) : ir_Instr_Only_j2 J v1 v2 v3 v46 st =
 (condX v46
 (.thn st (sLref v1 st) fun p1 =>
 .thn p1.2 (sField none 6 v1 p1.2) fun p2 =>
 .thn p2.2 (sLref v3 p2.2) fun p3 =>
 .thn p3.2 (sUpd 1 6 v3 p2.1 p3.2) fun p4 =>
 ir_Instr_Only_j1 J v2 p4.1 p4.2)
 (ir_Instr_Only_j1 J v2 v3 st)) := gq hJ (by kernel_rfl)
open C in
def ir_Last_Only_c : AFun := ⟨1, [.part 2 (some 4)],
 (s (.ops [o 1 (.lbox (t 0)), o 2 (.lnew [(u 0), (i 0), (i 0), (i 0)])])
 (s (.ops [o 4 (.lref (t 1)), o 5 (.field none 0 (t 1)), o 6 (.build [(u 0), (i 0), (i 0), (i 0)] [(0, 1, (t 5))]), o 3 (.lnew [(u 0), (i 0), (i 0), (i 0)]), o 3 (.upd 4 0 (t 3) (t 6))])
 (s (.ops [o 8 (.field (some 4) 0 (t 1)), o 9 (.call (f 38) [(t 8)]), o 7 (.mv (t 9)), o 10 (.extract (t 7) 0), o 11 (.extract (t 7) 1), o 12 (.lref (t 3)), o 3 (.upd 1 1 (t 3) (t 10))])
 (s (s (.ops [o 13 (.lref (t 1)), o 14 (.field none 0 (t 1)), o 15 (.bin .neq (t 14) (c (u 1))), o 16 (.mv (t 15)), g 17 true 16 (.lref (t 1)), g 18 true 16 (.field none 0 (t 1)), g 19 true 16 (.bin .neq (t 18) (c (u 2))), o 20 (.pick (t 16) (t 19) (c (.bool false)))])
 (.cond (t 20) (.ops [o 21 (.lref (t 3)), o 3 (.upd 1 1 (t 3) (c (i 0)))]) .skip))
 (s (.keep [1, 2, 3])
 (s (s (.ops [o 22 (.lref (t 1)), o 23 (.field none 0 (t 1))])
 (.block 0 (s (.ops [o 25 (.bin .eql (t 23) (c (u 0))), o 24 (.mv (t 25))])
 (.cond (t 24) (.ops [o 26 (.lref (t 1)), o 27 (.field none 2 (t 1)), o 28 (.lref (t 3)), o 3 (.upd 1 2 (t 3) (t 27))]) (s (.ops [o 30 (.bin .eql (t 23) (c (u 1))), o 29 (.mv (t 30))])
 (.cond (t 29) (.draw [d 0 0 false (o 31 (.lref (t 1))), d 1 0 false (o 32 (.field none 2 (t 1))), d 4 0 false (o 35 (.lref (t 3))), d 5 0 true (o 3 (.upd 1 2 (t 3) (t 32))), d 2 0 false (o 33 (.lref (t 1))), d 3 1 false (o 34 (.field none 3 (t 1))), d 6 0 false (o 36 (.lref (t 3))), d 7 0 true (o 3 (.upd 1 3 (t 3) (t 34)))]) .skip))))))
 (s (.keep [2, 3])
 (s (.ops [o 37 (.field (some 4) 0 (t 3)), o 2 (.upd 4 0 (t 2) (t 37))])
 .ret))))))))⟩
theorem ir_Last_Only_is : pgF n_ir_Last_Only = some ir_Last_Only_c := by kernel_rfl
def ir_Last_Only_j0 (J : JT (Value × St)) (v1 v2 v3 : Value) (st : St) := goX J ir_Last_Only_c.body [1, 1, 1, 1, 1] (envT [(1, v1), (2, v2), (3, v3)]) st
def ir_Last_Only_j1 (J : JT (Value × St)) (v2 v3 : Value) (st : St) := goX J ir_Last_Only_c.body [1, 1, 1, 1, 1, 1, 1] (envT [(2, v2), (3, v3)]) st
theorem ir_Last_Only_eq (K : Ctx) (J : JT (Value × St)) (a0 : Value) (st : St) : atX K J ir_Last_Only_c (AM.start [a0]) st =
 (.thn st (sLbox a0 st) fun p1 =>
 .thn p1.2 (sLnew [(.int .u8 0), (.int .i64 0), (.int .i64 0), (.int .i64 0)] p1.2) fun p2 =>
 .thn p2.2 (sLref p1.1 p2.2) fun p3 =>
 .thn p3.2 (sField none 0 p1.1 p3.2) fun p4 =>
 .thn p4.2 (sBuild [(.int .u8 0), (.int .i64 0), (.int .i64 0), (.int .i64 0)] [(0, 1, p4.1)] p4.2) fun p5 =>
 .thn p5.2 (sLnew [(.int .u8 0), (.int .i64 0), (.int .i64 0), (.int .i64 0)] p5.2) fun p6 =>
 .thn p6.2 (sUpd 4 0 p6.1 p5.1 p6.2) fun p7 =>
 .thn p7.2 (sField (some 4) 0 p1.1 p7.2) fun p8 =>
 .thn p8.2 (K.go (.call n_ir_Last_Reads [p8.1]) p8.2) fun p9 =>
 .thn p9.2 (sExtract p9.1 0 p9.2) fun p10 =>
 .thn p10.2 (sExtract p9.1 1 p10.2) fun p11 =>
 .thn p11.2 (sLref p7.1 p11.2) fun p12 =>
 .thn p12.2 (sUpd 1 1 p7.1 p10.1 p12.2) fun p13 =>
 .thn p13.2 (sLref p1.1 p13.2) fun p14 =>
 .thn p14.2 (sField none 0 p1.1 p14.2) fun p15 =>
 .thn p15.2 (sBin .neq p15.1 (.int .u8 1) p15.2) fun p16 =>
 .thn p16.2 (sG p16.1 true (sLref p1.1 p16.2) p16.2) fun p17 =>
 .thn p17.2 (sG p16.1 true (sField none 0 p1.1 p17.2) p17.2) fun p18 =>
 .thn p18.2 (sG p16.1 true (sBin .neq p18.1 (.int .u8 2) p18.2) p18.2) fun p19 =>
 .thn p19.2 (sPick p16.1 p19.1 (.bool false) p19.2) fun p20 =>
 condX p20.1
 (.thn p20.2 (sLref p13.1 p20.2) fun p21 =>
 .thn p21.2 (sUpd 1 1 p13.1 (.int .i64 0) p21.2) fun p22 =>
 ir_Last_Only_j0 J p1.1 p2.1 p22.1 p22.2)
 (ir_Last_Only_j0 J p1.1 p2.1 p13.1 p20.2)) := by kernel_rfl
theorem ir_Last_Only_of : Of1 n_ir_Last_Only ir_Last_Only_c := fun hF => call_of hF ir_Last_Only_is rfl
theorem ir_Last_Only_j0_eq (hJ : IsJ K (retK ir_Last_Only_c.results) J) (v1 v2 v3 : Value) (st : St) : ir_Last_Only_j0 J v1 v2 v3 st =
 (.thn st (sLref v1 st) fun p1 =>
 .thn p1.2 (sField none 0 v1 p1.2) fun p2 =>
 .thn p2.2 (sBin .eql p2.1 (.int .u8 0) p2.2) fun p3 =>
 condX p3.1
 (.thn p3.2 (sLref v1 p3.2) fun p4 =>
 .thn p4.2 (sField none 2 v1 p4.2) fun p5 =>
 .thn p5.2 (sLref v3 p5.2) fun p6 =>
 .thn p6.2 (sUpd 1 2 v3 p5.1 p6.2) fun p7 =>
 ir_Last_Only_j1 J v2 p7.1 p7.2)
 (.thn p3.2 (sBin .eql p2.1 (.int .u8 1) p3.2) fun p8 =>
 condX p8.1
 (.thn p8.2 (sLref v1 p8.2) fun p9 =>
 .thn p9.2 (sField none 2 v1 p9.2) fun p10 =>
 .thn p10.2 (sLref v3 p10.2) fun p11 =>
 .thn p11.2 (sUpd 1 2 v3 p10.1 p11.2) fun p12 =>
 .thn p12.2 (sLref v1 p12.2) fun p13 =>
 .thn p13.2 (sField none 3 v1 p13.2) fun p14 =>
 Res.need (sStays (List.take 1 (p11.2 :: [])) p12.2.next nothing (fun s => sField none 3 v1 s) p14.1) "order" >>= fun _ =>
 .thn p14.2 (sLref p12.1 p14.2) fun p15 =>
 .thn p15.2 (sUpd 1 3 p12.1 p14.1 p15.2) fun p16 =>
 ir_Last_Only_j1 J v2 p16.1 p16.2)
 (ir_Last_Only_j1 J v2 v3 p8.2))) := gq hJ (by kernel_rfl)
theorem ir_Last_Only_j1_eq (hJ : IsJ K (retK ir_Last_Only_c.results) J) (v2 v3 : Value) (st : St) : ir_Last_Only_j1 J v2 v3 st =
 (.thn st (sField (some 4) 0 v3 st) fun p1 =>
 .thn p1.2 (sUpd 4 0 v2 p1.1 p1.2) fun p2 =>
 (sField (some 4) 0 p2.1 p2.2 >>= fun p3 => .ok [p3.1]) >>= fun vs => .ok (oneOf vs, p2.2)) := gq hJ (by kernel_rfl)
open C in
def ir_Instr_Sets_c : AFun := ⟨1, [.tmp 2, .tmp 3],
 (s (.ops [o 1 (.lbox (t 0)), o 2 (.mv (c (i 0))), o 3 (.mv (c (.bool false)))])
 (s (s (.ops [o 4 (.lref (t 1)), o 5 (.field none 0 (t 1))])
 (.block 0 (s (s (.ops [o 7 (.bin .eql (t 5) (c (u 0))), o 6 (.mv (t 7))])
 (.cond (t 6) .skip (s (.ops [o 8 (.bin .eql (t 5) (c (u 1))), o 6 (.mv (t 8))])
 (.cond (t 6) .skip (s (.ops [o 9 (.bin .eql (t 5) (c (u 2))), o 6 (.mv (t 9))])
 (.cond (t 6) .skip (s (.ops [o 10 (.bin .eql (t 5) (c (u 3))), o 6 (.mv (t 10))])
 (.cond (t 6) .skip (s (.ops [o 11 (.bin .eql (t 5) (c (u 5))), o 6 (.mv (t 11))])
 (.cond (t 6) .skip (.ops [o 12 (.bin .eql (t 5) (c (u 7))), o 6 (.mv (t 12))])))))))))))
 (s (.keep [1, 6])
 (.cond (t 6) (s (.ops [o 13 (.lref (t 1)), o 14 (.field none 2 (t 1)), o 2 (.mv (t 14)), o 3 (.mv (c (.bool true)))])
 .ret) .skip)))))
 (s (.keep [])
 (s (.ops [o 2 (.mv (c (i 0))), o 3 (.mv (c (.bool false)))])
 .ret))))⟩
theorem ir_Instr_Sets_is : pgF n_ir_Instr_Sets = some ir_Instr_Sets_c := by kernel_rfl
def ir_Instr_Sets_j0 (J : JT (Value × St)) (v1 v6 : Value) (st : St) := goX J ir_Instr_Sets_c.body [1, 0, 1, 0, 1, 1] (envT [(1, v1), (6, v6)]) st
def ir_Instr_Sets_j1 (J : JT (Value × St)) (st : St) := goX J ir_Instr_Sets_c.body [1, 1, 1] (envT []) st
theorem ir_Instr_Sets_eq (K : Ctx) (J : JT (Value × St)) (a0 : Value) (st : St) : atX K J ir_Instr_Sets_c (AM.start [a0]) st =
 (.thn st (sLbox a0 st) fun p1 =>
 .thn p1.2 (sLref p1.1 p1.2) fun p2 =>
 .thn p2.2 (sField none 0 p1.1 p2.2) fun p3 =>
 .thn p3.2 (sBin .eql p3.1 (.int .u8 0) p3.2) fun p4 =>
 condX p4.1
 (ir_Instr_Sets_j0 J p1.1 p4.1 p4.2)
 (.thn p4.2 (sBin .eql p3.1 (.int .u8 1) p4.2) fun p5 =>
 condX p5.1
 (ir_Instr_Sets_j0 J p1.1 p5.1 p5.2)
 (.thn p5.2 (sBin .eql p3.1 (.int .u8 2) p5.2) fun p6 =>
 condX p6.1
 (ir_Instr_Sets_j0 J p1.1 p6.1 p6.2)
 (.thn p6.2 (sBin .eql p3.1 (.int .u8 3) p6.2) fun p7 =>
 condX p7.1
 (ir_Instr_Sets_j0 J p1.1 p7.1 p7.2)
 (.thn p7.2 (sBin .eql p3.1 (.int .u8 5) p7.2) fun p8 =>
 condX p8.1
 (ir_Instr_Sets_j0 J p1.1 p8.1 p8.2)
 (.thn p8.2 (sBin .eql p3.1 (.int .u8 7) p8.2) fun p9 =>
 ir_Instr_Sets_j0 J p1.1 p9.1 p9.2)))))) := by kernel_rfl
theorem ir_Instr_Sets_of : Of1 n_ir_Instr_Sets ir_Instr_Sets_c := fun hF => call_of hF ir_Instr_Sets_is rfl
theorem ir_Instr_Sets_j0_eq (hJ : IsJ K (retK ir_Instr_Sets_c.results) J) (v1 v6 : Value) (st : St) : ir_Instr_Sets_j0 J v1 v6 st =
 (condX v6
 (.thn st (sLref v1 st) fun p1 =>
 .thn p1.2 (sField none 2 v1 p1.2) fun p2 =>
 .ok (.tuple #[p2.1, (.bool true)], p2.2))
 (ir_Instr_Sets_j1 J st)) := gq hJ (by kernel_rfl)
theorem ir_Instr_Sets_j1_eq (hJ : IsJ K (retK ir_Instr_Sets_c.results) J) (st : St) : ir_Instr_Sets_j1 J st =
 (.ok (.tuple #[(.int .i64 0), (.bool false)], st)) := gq hJ (by kernel_rfl)
open C in
def lex_Split_c : AFun := ⟨1, [.cell 2 none, .cell 3 none, .cell 4 none],
 (s (.ops [o 2 (.new [(.slice none 0 0)]), o 3 (.new [(i 0)]), o 4 (.new [(i 0)])])
 (s (.ops [o 5 (.new [(.slice none 0 0)])])
 (s (s (.ops [o 8 (.mv (t 0)), o 9 (.call (f 42) [(t 8)])])
 (.block 0 (s (.keep [2, 3, 4, 5, 6, 7, 9])
 (.range (t 9) [10, 11] (s (.ops [o 6 (.lnew [(u 0), (i 0), (.string (bstr [])), (i 0)]), o 6 (.upd 4 0 (t 6) (t 10))])
 (.ops [o 7 (.mv (t 11))])) (s (.keep [2, 3, 4, 5, 6, 7])
 (.block 1 (s (s (.ops [o 12 (.mv (t 7)), o 13 (.bin .neq (t 12) (c (i 0)))])
 (.cond (t 13) (s (.draw [d 3 0 true (n (.store 1 (t 2) (c (.slice none 0 0)))), d 0 0 false (o 14 (.lref (t 6))), d 1 1 false (o 15 (.field none 1 (t 6))), d 4 0 true (n (.store 1 (t 3) (t 15))), d 2 0 false (o 16 (.mv (t 7))), d 5 0 true (n (.store 1 (t 4) (t 16)))])
 .ret) .skip))
 (s (.keep [5, 6])
 (.ops [o 17 (.load none (t 5)), o 18 (.field (some 4) 0 (t 6)), o 19 (.lit 4 1 [(u 0), (i 0), (.string (bstr [])), (i 0)] [(0, 4, (t 18))]), o 20 (.append 4 40 (t 17) (t 19)), n (.store 1 (t 5) (t 20))])))))))))
 (s (.keep [2, 3, 4, 5])
 (s (.ops [o 21 (.load none (t 5)), n (.store 1 (t 2) (t 21)), n (.store 1 (t 3) (c (i 0))), n (.store 1 (t 4) (c (i 0)))])
 .ret)))))⟩
open C in
def ir_Instr_Reads_c : AFun := ⟨1, [.tmp 2],
 (s (.ops [o 1 (.lbox (t 0)), o 2 (.mv (c (.slice none 0 0)))])
 (s (s (.ops [o 3 (.lref (t 1)), o 4 (.field none 0 (t 1))])
 (.block 0 (s (s (.ops [o 6 (.bin .eql (t 4) (c (u 1))), o 5 (.mv (t 6))])
 (.cond (t 5) .skip (s (.ops [o 7 (.bin .eql (t 4) (c (u 4))), o 5 (.mv (t 7))])
 (.cond (t 5) .skip (s (.ops [o 8 (.bin .eql (t 4) (c (u 6))), o 5 (.mv (t 8))])
 (.cond (t 5) .skip (.ops [o 9 (.bin .eql (t 4) (c (u 7))), o 5 (.mv (t 9))])))))))
 (s (.keep [1, 4, 5])
 (.cond (t 5) (s (.ops [o 10 (.lref (t 1)), o 11 (.field none 3 (t 1)), o 12 (.lit 1 1 [(i 0)] [(0, 1, (t 11))]), o 2 (.mv (t 12))])
 .ret) (s (s (.ops [o 14 (.bin .eql (t 4) (c (u 2))), o 13 (.mv (t 14))])
 (.cond (t 13) .skip (.ops [o 15 (.bin .eql (t 4) (c (u 8))), o 13 (.mv (t 15))])))
 (s (.keep [1, 13])
 (.cond (t 13) (s (.ops [o 16 (.lref (t 1)), o 17 (.field none 3 (t 1)), o 18 (.lref (t 1)), o 19 (.field none 4 (t 1)), o 20 (.lit 1 2 [(i 0), (i 0)] [(0, 1, (t 17)), (1, 1, (t 19))]), o 2 (.mv (t 20))])
 .ret) .skip))))))))
 (s (.keep [])
 (s (.ops [o 2 (.mv (c (.slice none 0 0)))])
 .ret))))⟩
theorem ir_Instr_Reads_is : pgF n_ir_Instr_Reads = some ir_Instr_Reads_c := by kernel_rfl
def ir_Instr_Reads_j0 (J : JT (Value × St)) (v1 v4 v5 : Value) (st : St) := goX J ir_Instr_Reads_c.body [1, 0, 1, 0, 1, 1] (envT [(1, v1), (4, v4), (5, v5)]) st
def ir_Instr_Reads_j1 (J : JT (Value × St)) (v1 v13 : Value) (st : St) := goX J ir_Instr_Reads_c.body [1, 0, 1, 0, 1, 1, 1, 1, 1] (envT [(1, v1), (13, v13)]) st
def ir_Instr_Reads_j2 (J : JT (Value × St)) (st : St) := goX J ir_Instr_Reads_c.body [1, 1, 1] (envT []) st
theorem ir_Instr_Reads_eq (K : Ctx) (J : JT (Value × St)) (a0 : Value) (st : St) : atX K J ir_Instr_Reads_c (AM.start [a0]) st =
 (.thn st (sLbox a0 st) fun p1 =>
 .thn p1.2 (sLref p1.1 p1.2) fun p2 =>
 .thn p2.2 (sField none 0 p1.1 p2.2) fun p3 =>
 .thn p3.2 (sBin .eql p3.1 (.int .u8 1) p3.2) fun p4 =>
 condX p4.1
 (ir_Instr_Reads_j0 J p1.1 p3.1 p4.1 p4.2)
 (.thn p4.2 (sBin .eql p3.1 (.int .u8 4) p4.2) fun p5 =>
 condX p5.1
 (ir_Instr_Reads_j0 J p1.1 p3.1 p5.1 p5.2)
 (.thn p5.2 (sBin .eql p3.1 (.int .u8 6) p5.2) fun p6 =>
 condX p6.1
 (ir_Instr_Reads_j0 J p1.1 p3.1 p6.1 p6.2)
 (.thn p6.2 (sBin .eql p3.1 (.int .u8 7) p6.2) fun p7 =>
 ir_Instr_Reads_j0 J p1.1 p3.1 p7.1 p7.2)))) := by kernel_rfl
theorem ir_Instr_Reads_of : Of1 n_ir_Instr_Reads ir_Instr_Reads_c := fun hF => call_of hF ir_Instr_Reads_is rfl
theorem ir_Instr_Reads_j0_eq (hJ : IsJ K (retK ir_Instr_Reads_c.results) J) (v1 v4 v5 : Value) (st : St) : ir_Instr_Reads_j0 J v1 v4 v5 st =
 (condX v5
 (.thn st (sLref v1 st) fun p1 =>
 .thn p1.2 (sField none 3 v1 p1.2) fun p2 =>
 .thn p2.2 (sLit 1 1 [(.int .i64 0)] [(0, 1, p2.1)] p2.2) fun p3 =>
 .ok (p3.1, p3.2))
 (.thn st (sBin .eql v4 (.int .u8 2) st) fun p4 =>
 condX p4.1
 (ir_Instr_Reads_j1 J v1 p4.1 p4.2)
 (.thn p4.2 (sBin .eql v4 (.int .u8 8) p4.2) fun p5 =>
 ir_Instr_Reads_j1 J v1 p5.1 p5.2))) := gq hJ (by kernel_rfl)
theorem ir_Instr_Reads_j1_eq (hJ : IsJ K (retK ir_Instr_Reads_c.results) J) (v1 v13 : Value) (st : St) : ir_Instr_Reads_j1 J v1 v13 st =
 (condX v13
 (.thn st (sLref v1 st) fun p1 =>
 .thn p1.2 (sField none 3 v1 p1.2) fun p2 =>
 .thn p2.2 (sLref v1 p2.2) fun p3 =>
 .thn p3.2 (sField none 4 v1 p3.2) fun p4 =>
 .thn p4.2 (sLit 1 2 [(.int .i64 0), (.int .i64 0)] [(0, 1, p2.1), (1, 1, p4.1)] p4.2) fun p5 =>
 .ok (p5.1, p5.2))
 (ir_Instr_Reads_j2 J st)) := gq hJ (by kernel_rfl)
theorem ir_Instr_Reads_j2_eq (hJ : IsJ K (retK ir_Instr_Reads_c.results) J) (st : St) : ir_Instr_Reads_j2 J st =
 (.ok ((.slice none 0 0), st)) := gq hJ (by kernel_rfl)
open C in
def ir_Last_Reads_c : AFun := ⟨1, [.tmp 2, .tmp 3],
 (s (.ops [o 1 (.lbox (t 0)), o 2 (.mv (c (i 0))), o 3 (.mv (c (.bool false)))])
 (s (.draw [d 0 0 false (o 4 (.lref (t 1))), d 1 0 false (o 5 (.field none 1 (t 1))), d 2 0 false (o 6 (.lref (t 1))), d 3 0 false (o 7 (.field none 0 (t 1))), d 4 0 false (o 8 (.bin .eql (t 7) (c (u 1)))), d 5 0 false (o 9 (.mv (t 8))), d 6 0 false (g 10 false 9 (.lref (t 1))), d 7 0 false (g 11 false 9 (.field none 0 (t 1))), d 8 0 false (g 12 false 9 (.bin .eql (t 11) (c (u 2)))), d 9 0 false (o 13 (.pick (t 9) (c (.bool true)) (t 12))), d 10 0 false (o 2 (.mv (t 5))), d 11 0 false (o 3 (.mv (t 13)))])
 .ret))⟩
theorem ir_Last_Reads_is : pgF n_ir_Last_Reads = some ir_Last_Reads_c := by kernel_rfl
theorem ir_Last_Reads_eq (K : Ctx) (J : JT (Value × St)) (a0 : Value) (st : St) : atX K J ir_Last_Reads_c (AM.start [a0]) st =
 (.thn st (sLbox a0 st) fun p1 =>
 .thn p1.2 (sLref p1.1 p1.2) fun p2 =>
 .thn p2.2 (sField none 1 p1.1 p2.2) fun p3 =>
 .thn p3.2 (sLref p1.1 p3.2) fun p4 =>
 .thn p4.2 (sField none 0 p1.1 p4.2) fun p5 =>
 .thn p5.2 (sBin .eql p5.1 (.int .u8 1) p5.2) fun p6 =>
 .thn p6.2 (sGo p6.1 false (sLref p1.1 p6.2) p6.2) fun p7 =>
 .thn p7.2 (sGo p6.1 false (sField none 0 p1.1 p7.2) p7.2) fun p9 =>
 .thn p9.2 (sGo p6.1 false (sBin .eql p9.1 (.int .u8 2) p9.2) p9.2) fun p11 =>
 .thn p11.2 (sPick p6.1 (.bool true) p11.1 p11.2) fun p13 =>
 .ok (.tuple #[p3.1, p13.1], p13.2)) := by kernel_rfl
theorem ir_Last_Reads_of : Of1 n_ir_Last_Reads ir_Last_Reads_c := fun hF => call_of hF ir_Last_Reads_is rfl
open C in
def lex_Tokens_1_c : AFun := ⟨2, [],
 (s (s (.ops [o 6 (.load none (t 1)), o 7 (.len .str (t 6)), o 8 (.bin .gtr (t 7) (c (i 100000)))])
 (.cond (t 8) (s (.ops [o 9 (.mv (t 0)), o 10 (.build [(u 0), (i 0), (.string (bstr [])), (i 0)] [(1, 1, (c (i 100000)))]), o 11 (.call (t 9) [(t 10), (c (i 3))])])
 .ret) .skip))
 (s (.keep [0, 1])
 (s (s (.ops [o 3 (.mv (c (i 0)))])
 (.block 0 (s (.keep [0, 1, 3])
 (.loop (s (s (s (.ops [o 12 (.mv (t 3)), o 13 (.load none (t 1)), o 14 (.len .str (t 13)), o 15 (.bin .lss (t 12) (t 14))])
 (.cond (t 15) .skip (.exit 0)))
 (s (.keep [0, 1, 3])
 (.block 1 (s (s (.ops [o 16 (.load none (t 1)), o 17 (.mv (t 3)), o 18 (.ixS (t 16) (t 17)), o 19 (.bin .eql (t 18) (c (u 32)))])
 (.cond (t 19) (s (.ops [o 20 (.mv (t 3)), o 21 (.bin .add (t 20) (c (i 1))), o 3 (.mv (t 21))])
 (.exit 1)) .skip))
 (s (.keep [0, 1, 3])
 (s (s (.ops [o 22 (.load none (t 1)), o 23 (.mv (t 3)), o 24 (.ixS (t 22) (t 23)), o 25 (.bin .eql (t 24) (c (u 35)))])
 (.cond (t 25) (s (.block 2 (s (.keep [0, 1, 3])
 (.loop (s (s (s (.ops [o 26 (.mv (t 3)), o 27 (.load none (t 1)), o 28 (.len .str (t 27)), o 29 (.bin .lss (t 26) (t 28)), o 30 (.mv (t 29)), g 31 true 30 (.load none (t 1)), g 32 true 30 (.mv (t 3)), g 33 true 30 (.ixS (t 31) (t 32)), g 34 true 30 (.bin .neq (t 33) (c (u 10))), o 35 (.pick (t 30) (t 34) (c (.bool false)))])
 (.cond (t 35) .skip (.exit 2)))
 (s (.keep [0, 1, 3])
 (.block 3 (.ops [o 36 (.mv (t 3)), o 37 (.bin .add (t 36) (c (i 1))), o 3 (.mv (t 37))]))))
 (.keep [0, 1, 3])))))
 (s (.keep [0, 1, 3])
 (.exit 1))) .skip))
 (s (.keep [0, 1, 3])
 (s (.ops [o 39 (.load none (t 1)), o 40 (.mv (t 3)), o 41 (.call (f 58) [(t 39), (t 40)]), o 38 (.mv (t 41)), o 42 (.extract (t 38) 0), o 43 (.extract (t 38) 1), o 4 (.lnew [(u 0), (i 0), (.string (bstr [])), (i 0)]), o 4 (.upd 4 0 (t 4) (t 42)), o 5 (.mv (t 43))])
 (s (s (.ops [o 44 (.mv (t 5)), o 45 (.bin .eql (t 44) (c (i 0)))])
 (.cond (t 45) (s (.ops [o 46 (.mv (t 0)), o 47 (.mv (t 3)), o 48 (.build [(u 0), (i 0), (.string (bstr [])), (i 0)] [(1, 1, (t 47))]), o 49 (.call (t 46) [(t 48), (c (i 4))])])
 .ret) .skip))
 (s (.keep [0, 1, 3, 4, 5])
 (s (s (.ops [o 50 (.mv (t 0)), o 51 (.field (some 4) 0 (t 4)), o 52 (.call (t 50) [(t 51), (c (i 0))]), o 53 (.un .not (t 52))])
 (.cond (t 53) .ret .skip))
 (s (.keep [0, 1, 3, 5])
 (.ops [o 54 (.mv (t 3)), o 55 (.mv (t 5)), o 56 (.bin .add (t 54) (t 55)), o 3 (.mv (t 56))])))))))))))))
 (.keep [0, 1, 3]))))))
 (s (.keep [0, 1])
 (.ops [o 57 (.mv (t 0)), o 58 (.load none (t 1)), o 59 (.len .str (t 58)), o 60 (.build [(u 0), (i 0), (.string (bstr [])), (i 0)] [(1, 1, (t 59))]), o 61 (.call (t 57) [(t 60), (c (i 0))])])))))⟩
end
end Go.Proofs.YtlpdlohikfkjnaaDoor.Sh
