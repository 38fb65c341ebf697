/-
 The functions of the program, operation by operation, as the abstract machine has them.
-/
import Derived.Test.YtdjfndijbnpkpaaDoorProg
import Derived.Test.YtdjfndijbnpkpaaDoorShN
set_option linter.unusedVariables false
set_option maxRecDepth 100000
namespace Go.Proofs.YtdjfndijbnpkpaaDoor.Sh
open Go Go.AM Go.Proofs
noncomputable section
variable {K : Ctx} {J : JT (Value × St)} {st : St} {Q : Value × St → Prop}
open C in
def refinerylaw05_Awake_c : AFun := ⟨0, [.tmp 0],
 (s (.ops [o 0 (.mv (c (.bool false)))])
 (s (.ops [o 5 (.call (f 15) [(c (.string (bstr [64, 48, 58, 10, 116, 114, 97, 112])))]), o 4 (.mv (t 5)), o 6 (.extract (t 4) 0), o 7 (.extract (t 4) 1), o 8 (.extract (t 4) 2), o 1 (.lnew [(.slice none 0 0)]), o 1 (.upd 1 0 (t 1) (t 6)), o 2 (.mv (t 7)), o 3 (.mv (t 8))])
 (s (.ops [o 9 (.mv (t 3)), o 10 (.bin .eql (t 9) (c (i 0))), o 11 (.mv (t 10)), g 12 true 11 (.lref (t 1)), g 13 true 11 (.field none 0 (t 1)), g 14 true 11 (.len .slice (t 13)), g 15 true 11 (.bin .eql (t 14) (c (i 1))), o 16 (.pick (t 11) (t 15) (c (.bool false))), o 17 (.mv (t 16)), g 18 true 17 (.lref (t 1)), g 19 true 17 (.field none 0 (t 1)), g 20 true 17 (.ixA 7 none (t 19) (c (i 0))), g 21 true 17 (.off 3 (t 20)), g 22 true 17 (.off 0 (t 21)), g 23 true 17 (.load none (t 22)), g 24 true 17 (.bin .eql (t 23) (c (u 3))), o 25 (.pick (t 17) (t 24) (c (.bool false))), o 0 (.mv (t 25))])
 .ret)))⟩
theorem refinerylaw05_Awake_is : pgF n_refinerylaw05_Awake = some refinerylaw05_Awake_c := by kernel_rfl
theorem refinerylaw05_Awake_eq (K : Ctx) (J : JT (Value × St)) (st : St) : atX K J refinerylaw05_Awake_c (AM.start []) st =
 (.thn st (K.go (.call n_parse_Parse [(.string (bstr [64, 48, 58, 10, 116, 114, 97, 112]))]) st) fun p1 =>
 .thn p1.2 (sExtract p1.1 0 p1.2) fun p2 =>
 .thn p2.2 (sExtract p1.1 1 p2.2) fun p3 =>
 .thn p3.2 (sExtract p1.1 2 p3.2) fun p4 =>
 .thn p4.2 (sLnew [(.slice none 0 0)] p4.2) fun p5 =>
 .thn p5.2 (sUpd 1 0 p5.1 p2.1 p5.2) fun p6 =>
 .thn p6.2 (sBin .eql p4.1 (.int .i64 0) p6.2) fun p7 =>
 .thn p7.2 (sG p7.1 true (sLref p6.1 p7.2) p7.2) fun p8 =>
 .thn p8.2 (sG p7.1 true (sField none 0 p6.1 p8.2) p8.2) fun p9 =>
 .thn p9.2 (sG p7.1 true (sLen .slice p9.1 p9.2) p9.2) fun p10 =>
 .thn p10.2 (sG p7.1 true (sBin .eql p10.1 (.int .i64 1) p10.2) p10.2) fun p11 =>
 .thn p11.2 (sPick p7.1 p11.1 (.bool false) p11.2) fun p12 =>
 .thn p12.2 (sG p12.1 true (sLref p6.1 p12.2) p12.2) fun p13 =>
 .thn p13.2 (sG p12.1 true (sField none 0 p6.1 p13.2) p13.2) fun p14 =>
 .thn p14.2 (sG p12.1 true (sIxA 7 none p14.1 (.int .i64 0) p14.2) p14.2) fun p15 =>
 .thn p15.2 (sG p12.1 true (sOff 3 p15.1 p15.2) p15.2) fun p16 =>
 .thn p16.2 (sG p12.1 true (sOff 0 p16.1 p16.2) p16.2) fun p17 =>
 .thn p17.2 (sG p12.1 true (sLoad none p17.1 p17.2) p17.2) fun p18 =>
 .thn p18.2 (sG p12.1 true (sBin .eql p18.1 (.int .u8 3) p18.2) p18.2) fun p19 =>
 .thn p19.2 (sPick p12.1 p19.1 (.bool false) p19.2) fun p20 =>
 .ok (p20.1, p20.2)) := by kernel_rfl
theorem refinerylaw05_Awake_of : Of0 n_refinerylaw05_Awake refinerylaw05_Awake_c := fun hF => call_of hF refinerylaw05_Awake_is rfl
open C in
def parse_Parse_c : AFun := ⟨1, [.part 2 (some 1), .tmp 3, .tmp 4],
 (s (.ops [o 2 (.lnew [(.slice none 0 0)]), o 3 (.mv (c (i 0))), o 4 (.mv (c (i 0)))])
 (s (.ops [o 12 (.mv (t 0)), o 13 (.call (f 23) [(t 12)]), o 11 (.mv (t 13)), o 14 (.extract (t 11) 0), o 15 (.extract (t 11) 1), o 16 (.extract (t 11) 2), o 5 (.mv (t 14)), o 6 (.mv (t 15)), o 7 (.mv (t 16))])
 (s (s (.ops [o 17 (.mv (t 7)), o 18 (.bin .neq (t 17) (c (i 0)))])
 (.cond (t 18) (s (.ops [o 19 (.build [(.slice none 0 0)] []), o 20 (.mv (t 6)), o 21 (.mv (t 7)), o 2 (.upd 1 0 (t 2) (t 19)), o 3 (.mv (t 20)), o 4 (.mv (t 21))])
 .ret) .skip))
 (s (.keep [0, 2, 5])
 (s (.ops [o 22 (.mv (t 5)), o 23 (.build [(.slice none 0 0), (i 0), (i 0), (i 0)] [(0, 1, (t 22))]), o 24 (.box (t 23)), o 8 (.mv (t 24))])
 (s (.ops [o 25 (.mv (t 8)), o 26 (.call (f 28) [(t 25)]), o 9 (.lnew [(.slice none 0 0)]), o 9 (.upd 1 0 (t 9) (t 26))])
 (s (s (.ops [o 27 (.mv (t 8)), o 28 (.nilc (t 27)), o 29 (.off 3 (t 28)), o 30 (.load none (t 29)), o 31 (.bin .neq (t 30) (c (i 0)))])
 (.cond (t 31) (s (.draw [d 0 0 false (o 32 (.build [(.slice none 0 0)] [])), d 9 0 true (o 2 (.upd 1 0 (t 2) (t 32))), d 1 0 false (o 33 (.mv (t 8))), d 2 0 false (o 34 (.nilc (t 33))), d 3 0 false (o 35 (.off 2 (t 34))), d 4 1 false (o 36 (.load none (t 35))), d 5 0 false (o 37 (.mv (t 8))), d 6 0 false (o 38 (.nilc (t 37))), d 7 0 false (o 39 (.off 3 (t 38))), d 8 1 false (o 40 (.load none (t 39))), d 10 0 false (o 3 (.mv (t 36))), d 11 0 false (o 4 (.mv (t 40)))])
 .ret) .skip))
 (s (.keep [0, 2, 9])
 (s (s (.ops [o 41 (.field (some 1) 0 (t 9)), o 42 (.call (f 21) [(t 41)]), o 10 (.mv (t 42))])
 (s (.ops [o 43 (.mv (t 10)), o 44 (.bin .neq (t 43) (c (i 0)))])
 (.cond (t 44) (s (.ops [o 45 (.build [(.slice none 0 0)] []), o 46 (.mv (t 0)), o 47 (.len .str (t 46)), o 48 (.mv (t 10)), o 2 (.upd 1 0 (t 2) (t 45)), o 3 (.mv (t 47)), o 4 (.mv (t 48))])
 .ret) .skip)))
 (s (.keep [2, 9])
 (s (.ops [o 49 (.field (some 1) 0 (t 9)), o 2 (.upd 1 0 (t 2) (t 49)), o 3 (.mv (c (i 0))), o 4 (.mv (c (i 0)))])
 .ret)))))))))))⟩
theorem parse_Parse_is : pgF n_parse_Parse = some parse_Parse_c := by kernel_rfl
def parse_Parse_j0 (J : JT (Value × St)) (v0 v2 v5 : Value) (st : St) := goX J parse_Parse_c.body [1, 1, 1, 1] (envT [(0, v0), (2, v2), (5, v5)]) st
def parse_Parse_j1 (J : JT (Value × St)) (v0 v2 v9 : Value) (st : St) := goX J parse_Parse_c.body [1, 1, 1, 1, 1, 1, 1, 1] (envT [(0, v0), (2, v2), (9, v9)]) st
def parse_Parse_j2 (J : JT (Value × St)) (v2 v9 : Value) (st : St) := goX J parse_Parse_c.body [1, 1, 1, 1, 1, 1, 1, 1, 1, 1] (envT [(2, v2), (9, v9)]) st
theorem parse_Parse_eq (K : Ctx) (J : JT (Value × St)) (a0 : Value) (st : St) : atX K J parse_Parse_c (AM.start [a0]) st =
 (.thn st (sLnew [(.slice none 0 0)] st) fun p1 =>
 .thn p1.2 (K.go (.call n_lex_Split [a0]) p1.2) fun p2 =>
 .thn p2.2 (sExtract p2.1 0 p2.2) fun p3 =>
 .thn p3.2 (sExtract p2.1 1 p3.2) fun p4 =>
 .thn p4.2 (sExtract p2.1 2 p4.2) fun p5 =>
 .thn p5.2 (sBin .neq p5.1 (.int .i64 0) p5.2) fun p6 =>
 condX p6.1
 (.thn p6.2 (sBuild [(.slice none 0 0)] [] p6.2) fun p7 =>
 .thn p7.2 (sUpd 1 0 p1.1 p7.1 p7.2) fun p8 =>
 (sField (some 1) 0 p8.1 p8.2 >>= fun p9 => .ok [p9.1, p4.1, p5.1]) >>= fun vs => .ok (oneOf vs, p8.2))
 (parse_Parse_j0 J a0 p1.1 p3.1 p6.2)) := by kernel_rfl
theorem parse_Parse_of : Of1 n_parse_Parse parse_Parse_c := fun hF => call_of hF parse_Parse_is rfl
theorem parse_Parse_j0_eq (hJ : IsJ K (retK parse_Parse_c.results) J) (v0 v2 v5 : Value) (st : St) : parse_Parse_j0 J v0 v2 v5 st =
 (.thn st (sBuild [(.slice none 0 0), (.int .i64 0), (.int .i64 0), (.int .i64 0)] [(0, 1, v5)] st) fun p1 =>
 .thn p1.2 (sBox p1.1 p1.2) fun p2 =>
 .thn p2.2 (K.go (.call n_parse_reader_program [p2.1]) p2.2) fun p3 =>
 .thn p3.2 (sLnew [(.slice none 0 0)] p3.2) fun p4 =>
 .thn p4.2 (sUpd 1 0 p4.1 p3.1 p4.2) fun p5 =>
 .thn p5.2 (sNilc p2.1 p5.2) fun p6 =>
 .thn p6.2 (sOff 3 p6.1 p6.2) fun p7 =>
 .thn p7.2 (sLoad none p7.1 p7.2) fun p8 =>
 .thn p8.2 (sBin .neq p8.1 (.int .i64 0) p8.2) fun p9 =>
 condX p9.1
 (.thn p9.2 (sBuild [(.slice none 0 0)] [] p9.2) fun p10 =>
 .thn p10.2 (sUpd 1 0 v2 p10.1 p10.2) fun p11 =>
 .thn p11.2 (sNilc p2.1 p11.2) fun p12 =>
 .thn p12.2 (sOff 2 p12.1 p12.2) fun p13 =>
 .thn p13.2 (sLoad none p13.1 p13.2) fun p14 =>
 Res.need (sStays (List.take 1 (p10.2 :: [])) p11.2.next p13.1 (fun s => sLoad none p13.1 s) p14.1) "order" >>= fun _ =>
 .thn p14.2 (sNilc p2.1 p14.2) fun p15 =>
 .thn p15.2 (sOff 3 p15.1 p15.2) fun p16 =>
 .thn p16.2 (sLoad none p16.1 p16.2) fun p17 =>
 Res.need (sStays (List.take 1 (p10.2 :: [])) p11.2.next p16.1 (fun s => sLoad none p16.1 s) p17.1) "order" >>= fun _ =>
 (sField (some 1) 0 p11.1 p17.2 >>= fun p18 => .ok [p18.1, p14.1, p17.1]) >>= fun vs => .ok (oneOf vs, p17.2))
 (parse_Parse_j1 J v0 v2 p5.1 p9.2)) := gq hJ (by kernel_rfl)
theorem parse_Parse_j1_eq (hJ : IsJ K (retK parse_Parse_c.results) J) (v0 v2 v9 : Value) (st : St) : parse_Parse_j1 J v0 v2 v9 st =
 (.thn st (sField (some 1) 0 v9 st) fun p1 =>
 .thn p1.2 (K.go (.call n_ir_Program_Check [p1.1]) p1.2) fun p2 =>
 .thn p2.2 (sBin .neq p2.1 (.int .i64 0) p2.2) fun p3 =>
 condX p3.1
 (.thn p3.2 (sBuild [(.slice none 0 0)] [] p3.2) fun p4 =>
 .thn p4.2 (sLen .str v0 p4.2) fun p5 =>
 .thn p5.2 (sUpd 1 0 v2 p4.1 p5.2) fun p6 =>
 (sField (some 1) 0 p6.1 p6.2 >>= fun p7 => .ok [p7.1, p5.1, p2.1]) >>= fun vs => .ok (oneOf vs, p6.2))
 (parse_Parse_j2 J v2 v9 p3.2)) := gq hJ (by kernel_rfl)
theorem parse_Parse_j2_eq (hJ : IsJ K (retK parse_Parse_c.results) J) (v2 v9 : Value) (st : St) : parse_Parse_j2 J v2 v9 st =
 (.thn st (sField (some 1) 0 v9 st) fun p1 =>
 .thn p1.2 (sUpd 1 0 v2 p1.1 p1.2) fun p2 =>
 (sField (some 1) 0 p2.1 p2.2 >>= fun p3 => .ok [p3.1, (.int .i64 0), (.int .i64 0)]) >>= fun vs => .ok (oneOf vs, p2.2)) := gq hJ (by kernel_rfl)
open C in
def ir_Same_c : AFun := ⟨2, [.tmp 4],
 (s (.ops [o 2 (.lbox (t 0)), o 3 (.lbox (t 1)), o 4 (.mv (c (.bool false)))])
 (s (.ops [o 5 (.lref (t 2)), o 6 (.field none 0 (t 2)), o 7 (.lref (t 3)), o 8 (.field none 0 (t 3)), o 9 (.call (f 29) [(t 6), (t 8), (f 30)]), o 4 (.mv (t 9))])
 .ret))⟩
theorem ir_Same_is : pgF n_ir_Same = some ir_Same_c := by kernel_rfl
theorem ir_Same_eq (K : Ctx) (J : JT (Value × St)) (a0 a1 : Value) (st : St) : atX K J ir_Same_c (AM.start [a0, a1]) st =
 (.thn st (sLbox a0 st) fun p1 =>
 .thn p1.2 (sLbox a1 p1.2) fun p2 =>
 .thn p2.2 (sLref p1.1 p2.2) fun p3 =>
 .thn p3.2 (sField none 0 p1.1 p3.2) fun p4 =>
 .thn p4.2 (sLref p2.1 p4.2) fun p5 =>
 .thn p5.2 (sField none 0 p2.1 p5.2) fun p6 =>
 .thn p6.2 (K.go (.call n_slices_EqualFunc_irBlock [p4.1, p6.1, (.func (.func n_ir_Same_1) #[] #[])]) p6.2) fun p7 =>
 .ok (p7.1, p7.2)) := by kernel_rfl
theorem ir_Same_of : Of2 n_ir_Same ir_Same_c := fun hF => call_of hF ir_Same_is rfl
open C in
def ir_Last_Only_c : AFun := ⟨1, [.part 2 (some 4)],
 (s (.ops [o 1 (.lbox (t 0)), o 2 (.lnew [(u 0), (i 0), (i 0), (i 0)])])
 (s (.ops [o 4 (.lref (t 1)), o 5 (.field none 0 (t 1)), o 6 (.build [(u 0), (i 0), (i 0), (i 0)] [(0, 1, (t 5))]), o 3 (.lnew [(u 0), (i 0), (i 0), (i 0)]), o 3 (.upd 4 0 (t 3) (t 6))])
 (s (.ops [o 8 (.field (some 4) 0 (t 1)), o 9 (.call (f 35) [(t 8)]), o 7 (.mv (t 9)), o 10 (.extract (t 7) 0), o 11 (.extract (t 7) 1), o 12 (.lref (t 3)), o 3 (.upd 1 1 (t 3) (t 10))])
 (s (s (.ops [o 13 (.lref (t 1)), o 14 (.field none 0 (t 1)), o 15 (.bin .neq (t 14) (c (u 1))), o 16 (.mv (t 15)), g 17 true 16 (.lref (t 1)), g 18 true 16 (.field none 0 (t 1)), g 19 true 16 (.bin .neq (t 18) (c (u 2))), o 20 (.pick (t 16) (t 19) (c (.bool false)))])
 (.cond (t 20) (.ops [o 21 (.lref (t 3)), o 3 (.upd 1 1 (t 3) (c (i 0)))]) .skip))
 (s (.keep [1, 2, 3])
 (s (s (.ops [o 22 (.lref (t 1)), o 23 (.field none 0 (t 1))])
 (.block 0 (s (.ops [o 25 (.bin .eql (t 23) (c (u 0))), o 24 (.mv (t 25))])
 (.cond (t 24) (.ops [o 26 (.lref (t 1)), o 27 (.field none 2 (t 1)), o 28 (.lref (t 3)), o 3 (.upd 1 2 (t 3) (t 27))]) (s (.ops [o 30 (.bin .eql (t 23) (c (u 1))), o 29 (.mv (t 30))])
 (.cond (t 29) (.draw [d 0 0 false (o 31 (.lref (t 1))), d 1 0 false (o 32 (.field none 2 (t 1))), d 4 0 false (o 35 (.lref (t 3))), d 5 0 true (o 3 (.upd 1 2 (t 3) (t 32))), d 2 0 false (o 33 (.lref (t 1))), d 3 1 false (o 34 (.field none 3 (t 1))), d 6 0 false (o 36 (.lref (t 3))), d 7 0 true (o 3 (.upd 1 3 (t 3) (t 34)))]) .skip))))))
 (s (.keep [2, 3])
 (s (.ops [o 37 (.field (some 4) 0 (t 3)), o 2 (.upd 4 0 (t 2) (t 37))])
 .ret))))))))⟩
theorem ir_Last_Only_is : pgF n_ir_Last_Only = some ir_Last_Only_c := by kernel_rfl
def ir_Last_Only_j0 (J : JT (Value × St)) (v1 v2 v3 : Value) (st : St) := goX J ir_Last_Only_c.body [1, 1, 1, 1, 1] (envT [(1, v1), (2, v2), (3, v3)]) st
def ir_Last_Only_j1 (J : JT (Value × St)) (v2 v3 : Value) (st : St) := goX J ir_Last_Only_c.body [1, 1, 1, 1, 1, 1, 1] (envT [(2, v2), (3, v3)]) st
theorem ir_Last_Only_eq (K : Ctx) (J : JT (Value × St)) (a0 : Value) (st : St) : atX K J ir_Last_Only_c (AM.start [a0]) st =
 (.thn st (sLbox a0 st) fun p1 =>
 .thn p1.2 (sLnew [(.int .u8 0), (.int .i64 0), (.int .i64 0), (.int .i64 0)] p1.2) fun p2 =>
 .thn p2.2 (sLref p1.1 p2.2) fun p3 =>
 .thn p3.2 (sField none 0 p1.1 p3.2) fun p4 =>
 .thn p4.2 (sBuild [(.int .u8 0), (.int .i64 0), (.int .i64 0), (.int .i64 0)] [(0, 1, p4.1)] p4.2) fun p5 =>
 .thn p5.2 (sLnew [(.int .u8 0), (.int .i64 0), (.int .i64 0), (.int .i64 0)] p5.2) fun p6 =>
 .thn p6.2 (sUpd 4 0 p6.1 p5.1 p6.2) fun p7 =>
 .thn p7.2 (sField (some 4) 0 p1.1 p7.2) fun p8 =>
 .thn p8.2 (K.go (.call n_ir_Last_Reads [p8.1]) p8.2) fun p9 =>
 .thn p9.2 (sExtract p9.1 0 p9.2) fun p10 =>
 .thn p10.2 (sExtract p9.1 1 p10.2) fun p11 =>
 .thn p11.2 (sLref p7.1 p11.2) fun p12 =>
 .thn p12.2 (sUpd 1 1 p7.1 p10.1 p12.2) fun p13 =>
 .thn p13.2 (sLref p1.1 p13.2) fun p14 =>
 .thn p14.2 (sField none 0 p1.1 p14.2) fun p15 =>
 .thn p15.2 (sBin .neq p15.1 (.int .u8 1) p15.2) fun p16 =>
 .thn p16.2 (sG p16.1 true (sLref p1.1 p16.2) p16.2) fun p17 =>
 .thn p17.2 (sG p16.1 true (sField none 0 p1.1 p17.2) p17.2) fun p18 =>
 .thn p18.2 (sG p16.1 true (sBin .neq p18.1 (.int .u8 2) p18.2) p18.2) fun p19 =>
 .thn p19.2 (sPick p16.1 p19.1 (.bool false) p19.2) fun p20 =>
 condX p20.1
 (.thn p20.2 (sLref p13.1 p20.2) fun p21 =>
 .thn p21.2 (sUpd 1 1 p13.1 (.int .i64 0) p21.2) fun p22 =>
 ir_Last_Only_j0 J p1.1 p2.1 p22.1 p22.2)
 (ir_Last_Only_j0 J p1.1 p2.1 p13.1 p20.2)) := by kernel_rfl
theorem ir_Last_Only_of : Of1 n_ir_Last_Only ir_Last_Only_c := fun hF => call_of hF ir_Last_Only_is rfl
theorem ir_Last_Only_j0_eq (hJ : IsJ K (retK ir_Last_Only_c.results) J) (v1 v2 v3 : Value) (st : St) : ir_Last_Only_j0 J v1 v2 v3 st =
 (.thn st (sLref v1 st) fun p1 =>
 .thn p1.2 (sField none 0 v1 p1.2) fun p2 =>
 .thn p2.2 (sBin .eql p2.1 (.int .u8 0) p2.2) fun p3 =>
 condX p3.1
 (.thn p3.2 (sLref v1 p3.2) fun p4 =>
 .thn p4.2 (sField none 2 v1 p4.2) fun p5 =>
 .thn p5.2 (sLref v3 p5.2) fun p6 =>
 .thn p6.2 (sUpd 1 2 v3 p5.1 p6.2) fun p7 =>
 ir_Last_Only_j1 J v2 p7.1 p7.2)
 (.thn p3.2 (sBin .eql p2.1 (.int .u8 1) p3.2) fun p8 =>
 condX p8.1
 (.thn p8.2 (sLref v1 p8.2) fun p9 =>
 .thn p9.2 (sField none 2 v1 p9.2) fun p10 =>
 .thn p10.2 (sLref v3 p10.2) fun p11 =>
 .thn p11.2 (sUpd 1 2 v3 p10.1 p11.2) fun p12 =>
 .thn p12.2 (sLref v1 p12.2) fun p13 =>
 .thn p13.2 (sField none 3 v1 p13.2) fun p14 =>
 Res.need (sStays (List.take 1 (p11.2 :: [])) p12.2.next nothing (fun s => sField none 3 v1 s) p14.1) "order" >>= fun _ =>
 .thn p14.2 (sLref p12.1 p14.2) fun p15 =>
 .thn p15.2 (sUpd 1 3 p12.1 p14.1 p15.2) fun p16 =>
 ir_Last_Only_j1 J v2 p16.1 p16.2)
 (ir_Last_Only_j1 J v2 v3 p8.2))) := gq hJ (by kernel_rfl)
theorem ir_Last_Only_j1_eq (hJ : IsJ K (retK ir_Last_Only_c.results) J) (v2 v3 : Value) (st : St) : ir_Last_Only_j1 J v2 v3 st =
 (.thn st (sField (some 4) 0 v3 st) fun p1 =>
 .thn p1.2 (sUpd 4 0 v2 p1.1 p1.2) fun p2 =>
 (sField (some 4) 0 p2.1 p2.2 >>= fun p3 => .ok [p3.1]) >>= fun vs => .ok (oneOf vs, p2.2)) := gq hJ (by kernel_rfl)
open C in
def refinerylaw05_reg_c : AFun := ⟨6, [.tmp 2],
 (s (.ops [o 2 (.mv (c (.string (bstr []))))])
 (s (.ops [o 3 (.mv (t 0)), o 4 (.call (f 20) [(t 3)]), o 5 (.bin .add (c (.string (bstr [37]))) (t 4)), o 2 (.mv (t 5))])
 .ret))⟩
theorem refinerylaw05_reg_is : pgF n_refinerylaw05_reg = some refinerylaw05_reg_c := by kernel_rfl
theorem refinerylaw05_reg_eq (K : Ctx) (J : JT (Value × St)) (a0 : Value) (st : St) : atX K J refinerylaw05_reg_c (AM.start [a0]) st =
 (.thn st (K.go (.call n_refinerylaw05_number [a0]) st) fun p1 =>
 .thn p1.2 (sBin .add (.string (bstr [37])) p1.1 p1.2) fun p2 =>
 .ok (p2.1, p2.2)) := by kernel_rfl
theorem refinerylaw05_reg_of : Of1 n_refinerylaw05_reg refinerylaw05_reg_c := fun hF => call_of hF refinerylaw05_reg_is rfl
open C in
def refinerylaw05_number_c : AFun := ⟨40, [.tmp 2],
 (s (.ops [o 2 (.mv (c (.string (bstr []))))])
 (s (s (.ops [o 3 (.mv (t 0)), o 4 (.bin .lss (t 3) (c (i 0)))])
 (.cond (t 4) (s (s (.ops [o 5 (.mv (t 0)), o 6 (.bin .lss (t 5) (c (i (-9))))])
 (.cond (t 6) (s (.draw [d 0 0 false (o 7 (.mv (t 0))), d 1 0 false (o 8 (.bin .quo (t 7) (c (i 10)))), d 2 0 true (o 9 (.call (f 20) [(t 8)])), d 3 0 false (o 10 (.mv (t 0))), d 4 0 false (o 11 (.bin .rem (t 10) (c (i 10)))), d 5 0 false (o 12 (.bin .sub (c (i 48)) (t 11))), d 6 0 false (o 13 (.conv (.int .u8) (t 12))), d 7 0 false (o 14 (.lit 1 1 [(u 0)] [(0, 1, (t 13))])), d 8 1 false (o 15 (.conv .strOfBytes (t 14))), d 9 0 false (o 16 (.bin .add (t 9) (t 15))), d 10 0 false (o 2 (.mv (t 16)))])
 .ret) .skip))
 (s (.keep [0])
 (s (.ops [o 17 (.mv (t 0)), o 18 (.bin .sub (c (i 48)) (t 17)), o 19 (.conv (.int .u8) (t 18)), o 20 (.lit 1 1 [(u 0)] [(0, 1, (t 19))]), o 21 (.conv .strOfBytes (t 20)), o 22 (.bin .add (c (.string (bstr [45]))) (t 21)), o 2 (.mv (t 22))])
 .ret))) .skip))
 (s (.keep [0])
 (s (s (.ops [o 23 (.mv (t 0)), o 24 (.bin .lss (t 23) (c (i 10)))])
 (.cond (t 24) (s (.ops [o 25 (.mv (t 0)), o 26 (.bin .add (c (i 48)) (t 25)), o 27 (.conv (.int .u8) (t 26)), o 28 (.lit 1 1 [(u 0)] [(0, 1, (t 27))]), o 29 (.conv .strOfBytes (t 28)), o 2 (.mv (t 29))])
 .ret) .skip))
 (s (.keep [0])
 (s (.draw [d 0 0 false (o 30 (.mv (t 0))), d 1 0 false (o 31 (.bin .quo (t 30) (c (i 10)))), d 2 0 true (o 32 (.call (f 20) [(t 31)])), d 3 0 false (o 33 (.mv (t 0))), d 4 0 false (o 34 (.bin .rem (t 33) (c (i 10)))), d 5 0 false (o 35 (.bin .add (c (i 48)) (t 34))), d 6 0 false (o 36 (.conv (.int .u8) (t 35))), d 7 0 false (o 37 (.lit 1 1 [(u 0)] [(0, 1, (t 36))])), d 8 1 false (o 38 (.conv .strOfBytes (t 37))), d 9 0 false (o 39 (.bin .add (t 32) (t 38))), d 10 0 false (o 2 (.mv (t 39)))])
 .ret))))))⟩
theorem refinerylaw05_number_is : pgF n_refinerylaw05_number = some refinerylaw05_number_c := by kernel_rfl
def refinerylaw05_number_j0 (J : JT (Value × St)) (v0 : Value) (st : St) := goX J refinerylaw05_number_c.body [1, 0, 1, 0, 1, 1] (envT [(0, v0)]) st
def refinerylaw05_number_j1 (J : JT (Value × St)) (v0 : Value) (st : St) := goX J refinerylaw05_number_c.body [1, 1, 1] (envT [(0, v0)]) st
def refinerylaw05_number_j2 (J : JT (Value × St)) (v0 : Value) (st : St) := goX J refinerylaw05_number_c.body [1, 1, 1, 1, 1] (envT [(0, v0)]) st
theorem refinerylaw05_number_eq (K : Ctx) (J : JT (Value × St)) (a0 : Value) (st : St) : atX K J refinerylaw05_number_c (AM.start [a0]) st =
 (.thn st (sBin .lss a0 (.int .i64 0) st) fun p1 =>
 condX p1.1
 (.thn p1.2 (sBin .lss a0 (.int .i64 (-9)) p1.2) fun p2 =>
 condX p2.1
 (.thn p2.2 (sBin .quo a0 (.int .i64 10) p2.2) fun p3 =>
 .thn p3.2 (K.go (.call n_refinerylaw05_number [p3.1]) p3.2) fun p4 =>
 .thn p4.2 (sBin .rem a0 (.int .i64 10) p4.2) fun p5 =>
 .thn p5.2 (sBin .sub (.int .i64 48) p5.1 p5.2) fun p6 =>
 .thn p6.2 (sConv (.int .u8) p6.1 p6.2) fun p7 =>
 .thn p7.2 (sLit 1 1 [(.int .u8 0)] [(0, 1, p7.1)] p7.2) fun p8 =>
 .thn p8.2 (sConv .strOfBytes p8.1 p8.2) fun p9 =>
 Res.need (sStays (List.take 1 (p3.2 :: [])) p4.2.next p8.1 (fun s => sConv .strOfBytes p8.1 s) p9.1) "order" >>= fun _ =>
 .thn p9.2 (sBin .add p4.1 p9.1 p9.2) fun p10 =>
 .ok (p10.1, p10.2))
 (refinerylaw05_number_j0 J a0 p2.2))
 (refinerylaw05_number_j1 J a0 p1.2)) := by kernel_rfl
theorem refinerylaw05_number_of : Of1 n_refinerylaw05_number refinerylaw05_number_c := fun hF => call_of hF refinerylaw05_number_is rfl
theorem refinerylaw05_number_j0_eq (hJ : IsJ K (retK refinerylaw05_number_c.results) J) (v0 : Value) (st : St) : refinerylaw05_number_j0 J v0 st =
 (.thn st (sBin .sub (.int .i64 48) v0 st) fun p1 =>
 .thn p1.2 (sConv (.int .u8) p1.1 p1.2) fun p2 =>
 .thn p2.2 (sLit 1 1 [(.int .u8 0)] [(0, 1, p2.1)] p2.2) fun p3 =>
 .thn p3.2 (sConv .strOfBytes p3.1 p3.2) fun p4 =>
 .thn p4.2 (sBin .add (.string (bstr [45])) p4.1 p4.2) fun p5 =>
 .ok (p5.1, p5.2)) := gq hJ (by kernel_rfl)
theorem refinerylaw05_number_j1_eq (hJ : IsJ K (retK refinerylaw05_number_c.results) J) (v0 : Value) (st : St) : refinerylaw05_number_j1 J v0 st =
 (.thn st (sBin .lss v0 (.int .i64 10) st) fun p1 =>
 condX p1.1
 (.thn p1.2 (sBin .add (.int .i64 48) v0 p1.2) fun p2 =>
 .thn p2.2 (sConv (.int .u8) p2.1 p2.2) fun p3 =>
 .thn p3.2 (sLit 1 1 [(.int .u8 0)] [(0, 1, p3.1)] p3.2) fun p4 =>
 .thn p4.2 (sConv .strOfBytes p4.1 p4.2) fun p5 =>
 .ok (p5.1, p5.2))
 (refinerylaw05_number_j2 J v0 p1.2)) := gq hJ (by kernel_rfl)
theorem refinerylaw05_number_j2_eq (hJ : IsJ K (retK refinerylaw05_number_c.results) J) (v0 : Value) (st : St) : refinerylaw05_number_j2 J v0 st =
 (.thn st (sBin .quo v0 (.int .i64 10) st) fun p1 =>
 .thn p1.2 (K.go (.call n_refinerylaw05_number [p1.1]) p1.2) fun p2 =>
 .thn p2.2 (sBin .rem v0 (.int .i64 10) p2.2) fun p3 =>
 .thn p3.2 (sBin .add (.int .i64 48) p3.1 p3.2) fun p4 =>
 .thn p4.2 (sConv (.int .u8) p4.1 p4.2) fun p5 =>
 .thn p5.2 (sLit 1 1 [(.int .u8 0)] [(0, 1, p5.1)] p5.2) fun p6 =>
 .thn p6.2 (sConv .strOfBytes p6.1 p6.2) fun p7 =>
 Res.need (sStays (List.take 1 (p1.2 :: [])) p2.2.next p6.1 (fun s => sConv .strOfBytes p6.1 s) p7.1) "order" >>= fun _ =>
 .thn p7.2 (sBin .add p2.1 p7.1 p7.2) fun p8 =>
 .ok (p8.1, p8.2)) := gq hJ (by kernel_rfl)
open C in
def ir_Program_Check_c : AFun := ⟨1, [.tmp 2],
 (s (.ops [o 1 (.lbox (t 0)), o 2 (.mv (c (i 0)))])
 (s (s (.ops [o 15 (.lref (t 1)), o 16 (.field none 0 (t 1)), o 17 (.len .slice (t 16)), o 18 (.bin .lss (t 17) (c (i 1))), o 19 (.mv (t 18)), g 20 false 19 (.lref (t 1)), g 21 false 19 (.field none 0 (t 1)), g 22 false 19 (.len .slice (t 21)), g 23 false 19 (.bin .gtr (t 22) (c (i 400))), o 24 (.pick (t 19) (c (.bool true)) (t 23))])
 (.cond (t 24) (s (.ops [o 2 (.mv (c (i 7)))])
 .ret) .skip))
 (s (.keep [1])
 (s (s (.ops [o 25 (.field (some 1) 0 (t 1)), o 26 (.call (f 36) [(t 25)]), o 27 (.bin .gtr (t 26) (c (i 4000)))])
 (.cond (t 27) (s (.ops [o 2 (.mv (c (i 3)))])
 .ret) .skip))
 (s (.keep [1])
 (s (.ops [o 28 .newMap, o 3 (.mv (t 28))])
 (s (s (.ops [o 29 (.lref (t 1)), o 30 (.field none 0 (t 1)), o 31 (.len .slice (t 30)), o 32 (.mv (c (i 0)))])
 (.block 0 (s (.keep [1, 3, 30, 31, 32])
 (.loop (s (s (.ops [o 33 (.bin .lss (t 32) (t 31))])
 (s (.cond (t 33) .skip (.exit 0))
 (s (.keep [1, 3, 30, 31, 32])
 (s (.block 1 (s (.ops [o 34 (.ixA 7 none (t 30) (t 32)), o 35 (.load (some 7) (t 34)), o 5 (.lnew [(i 0), (.slice none 0 0), (.slice none 0 0), (u 0), (i 0), (i 0), (i 0)]), o 5 (.upd 7 0 (t 5) (t 35))])
 (s (s (.ops [o 36 (.lref (t 5)), o 37 (.field none 0 (t 5)), o 38 (.bin .lss (t 37) (c (i 0))), o 39 (.mv (t 38)), g 40 false 39 (.lref (t 5)), g 41 false 39 (.field none 0 (t 5)), g 42 false 39 (.bin .geq (t 41) (c (i 100000))), o 43 (.pick (t 39) (c (.bool true)) (t 42))])
 (.cond (t 43) (s (.ops [o 2 (.mv (c (i 2)))])
 .ret) .skip))
 (s (.keep [1, 3, 5, 30, 31, 32])
 (s (s (.ops [o 44 (.mv (t 3)), o 45 (.lref (t 5)), o 46 (.field none 0 (t 5)), o 47 (.look (.cell .int) (.bool false) false (t 44) (t 46))])
 (.cond (t 47) (s (.ops [o 2 (.mv (c (i 8)))])
 .ret) .skip))
 (s (.keep [1, 3, 5, 30, 31, 32])
 (.ops [o 48 (.mv (t 3)), o 49 (.lref (t 5)), o 50 (.field none 0 (t 5)), n (.mapSet (.cell .int) (t 48) (t 50) (c (.bool true)))])))))))
 (s (.keep [1, 3, 30, 31, 32])
 (.ops [o 51 (.bin .add (t 32) (c (i 1))), o 32 (.mv (t 51))]))))))
 (.keep [1, 3, 30, 31, 32]))))))
 (s (.keep [1, 3])
 (s (s (.ops [o 52 (.lref (t 1)), o 53 (.field none 0 (t 1)), o 54 (.len .slice (t 53)), o 55 (.mv (c (i 0)))])
 (.block 2 (s (.keep [3, 53, 54, 55])
 (.loop (s (s (.ops [o 56 (.bin .lss (t 55) (t 54))])
 (s (.cond (t 56) .skip (.exit 2))
 (s (.keep [3, 53, 54, 55])
 (s (.block 3 (s (.ops [o 57 (.ixA 7 none (t 53) (t 55)), o 58 (.load (some 7) (t 57)), o 7 (.lnew [(i 0), (.slice none 0 0), (.slice none 0 0), (u 0), (i 0), (i 0), (i 0)]), o 7 (.upd 7 0 (t 7) (t 58))])
 (s (s (.ops [o 59 (.lref (t 7)), o 60 (.field none 1 (t 7)), o 61 (.len .slice (t 60)), o 62 (.mv (c (i 0)))])
 (.block 4 (s (.keep [3, 7, 53, 54, 55, 60, 61, 62])
 (.loop (s (s (.ops [o 63 (.bin .lss (t 62) (t 61))])
 (s (.cond (t 63) .skip (.exit 4))
 (s (.keep [3, 7, 53, 54, 55, 60, 61, 62])
 (s (.block 5 (s (.ops [o 64 (.ixA 3 none (t 60) (t 62)), o 65 (.load (some 3) (t 64)), o 9 (.lnew [(i 0), (.slice none 0 0), (.slice none 0 0)]), o 9 (.upd 3 0 (t 9) (t 65))])
 (s (.ops [o 66 (.field (some 3) 0 (t 9)), o 67 (.mv (t 3)), o 68 (.call (f 37) [(t 66), (t 67)]), o 10 (.mv (t 68))])
 (s (.ops [o 69 (.mv (t 10)), o 70 (.bin .neq (t 69) (c (i 0)))])
 (.cond (t 70) (s (.ops [o 71 (.mv (t 10)), o 2 (.mv (t 71))])
 .ret) .skip)))))
 (s (.keep [3, 7, 53, 54, 55, 60, 61, 62])
 (.ops [o 72 (.bin .add (t 62) (c (i 1))), o 62 (.mv (t 72))]))))))
 (.keep [3, 7, 53, 54, 55, 60, 61, 62]))))))
 (s (.keep [3, 7, 53, 54, 55])
 (s (s (.ops [o 73 (.lref (t 7)), o 74 (.field none 2 (t 7)), o 75 (.len .slice (t 74)), o 76 (.mv (c (i 0)))])
 (.block 6 (s (.keep [3, 7, 53, 54, 55, 74, 75, 76])
 (.loop (s (s (.ops [o 77 (.bin .lss (t 76) (t 75))])
 (s (.cond (t 77) .skip (.exit 6))
 (s (.keep [3, 7, 53, 54, 55, 74, 75, 76])
 (s (.block 7 (s (.ops [o 78 (.ixA 7 none (t 74) (t 76)), o 79 (.load (some 7) (t 78)), o 12 (.lnew [(u 0), (u 0), (i 0), (i 0), (i 0), (i 0), (i 0)]), o 12 (.upd 7 0 (t 12) (t 79))])
 (s (.ops [o 80 (.field (some 7) 0 (t 12)), o 81 (.call (f 38) [(t 80)]), o 13 (.mv (t 81))])
 (s (.ops [o 82 (.mv (t 13)), o 83 (.bin .neq (t 82) (c (i 0)))])
 (.cond (t 83) (s (.ops [o 84 (.mv (t 13)), o 2 (.mv (t 84))])
 .ret) .skip)))))
 (s (.keep [3, 7, 53, 54, 55, 74, 75, 76])
 (.ops [o 85 (.bin .add (t 76) (c (i 1))), o 76 (.mv (t 85))]))))))
 (.keep [3, 7, 53, 54, 55, 74, 75, 76]))))))
 (s (.keep [3, 7, 53, 54, 55])
 (s (.ops [o 86 (.lref (t 7)), o 87 (.field (some 4) 3 (t 7)), o 88 (.mv (t 3)), o 89 (.call (f 39) [(t 87), (t 88)]), o 14 (.mv (t 89))])
 (s (.ops [o 90 (.mv (t 14)), o 91 (.bin .neq (t 90) (c (i 0)))])
 (.cond (t 91) (s (.ops [o 92 (.mv (t 14)), o 2 (.mv (t 92))])
 .ret) .skip)))))))))
 (s (.keep [3, 53, 54, 55])
 (.ops [o 93 (.bin .add (t 55) (c (i 1))), o 55 (.mv (t 93))]))))))
 (.keep [3, 53, 54, 55]))))))
 (s (.keep [])
 (s (.ops [o 2 (.mv (c (i 0)))])
 .ret)))))))))))⟩
theorem ir_Program_Check_is : pgF n_ir_Program_Check = some ir_Program_Check_c := by kernel_rfl
def ir_Program_Check_j0 (J : JT (Value × St)) (v1 : Value) (st : St) := goX J ir_Program_Check_c.body [1, 1, 1] (envT [(1, v1)]) st
def ir_Program_Check_j1 (J : JT (Value × St)) (v1 : Value) (st : St) := goX J ir_Program_Check_c.body [1, 1, 1, 1, 1] (envT [(1, v1)]) st
def ir_Program_Check_l0 (J : JT (Value × St)) (v1 v3 v30 v31 v32 : Value) (st : St) := lpX J ir_Program_Check_c.body [1, 1, 1, 1, 1, 1, 0, 1, 0, 1] (envT [(1, v1), (3, v3), (30, v30), (31, v31), (32, v32)]) st
def ir_Program_Check_j2 (J : JT (Value × St)) (v1 v3 v30 v31 v32 : Value) (st : St) := goX J ir_Program_Check_c.body [1, 1, 1, 1, 1, 1, 0, 1, 0, 1, 0, 0, 1, 1, 1] (envT [(1, v1), (3, v3), (30, v30), (31, v31), (32, v32)]) st
def ir_Program_Check_j3 (J : JT (Value × St)) (v1 v3 : Value) (st : St) := goX J ir_Program_Check_c.body [1, 1, 1, 1, 1, 1, 1, 1] (envT [(1, v1), (3, v3)]) st
def ir_Program_Check_j4 (J : JT (Value × St)) (v1 v3 v5 v30 v31 v32 : Value) (st : St) := goX J ir_Program_Check_c.body [1, 1, 1, 1, 1, 1, 0, 1, 0, 1, 0, 0, 1, 1, 1, 0, 0, 1, 1, 1] (envT [(1, v1), (3, v3), (5, v5), (30, v30), (31, v31), (32, v32)]) st
def ir_Program_Check_l1 (J : JT (Value × St)) (v3 v53 v54 v55 : Value) (st : St) := lpX J ir_Program_Check_c.body [1, 1, 1, 1, 1, 1, 1, 1, 0, 1, 0, 1] (envT [(3, v3), (53, v53), (54, v54), (55, v55)]) st
def ir_Program_Check_j5 (J : JT (Value × St)) (v1 v3 v5 v30 v31 v32 : Value) (st : St) := goX J ir_Program_Check_c.body [1, 1, 1, 1, 1, 1, 0, 1, 0, 1, 0, 0, 1, 1, 1, 0, 0, 1, 1, 1, 1, 1] (envT [(1, v1), (3, v3), (5, v5), (30, v30), (31, v31), (32, v32)]) st
def ir_Program_Check_j6 (J : JT (Value × St)) (v3 v53 v54 v55 : Value) (st : St) := goX J ir_Program_Check_c.body [1, 1, 1, 1, 1, 1, 1, 1, 0, 1, 0, 1, 0, 0, 1, 1, 1] (envT [(3, v3), (53, v53), (54, v54), (55, v55)]) st
def ir_Program_Check_j7 (J : JT (Value × St)) (st : St) := goX J ir_Program_Check_c.body [1, 1, 1, 1, 1, 1, 1, 1, 1, 1] (envT []) st
def ir_Program_Check_j8 (J : JT (Value × St)) (v1 v3 v30 v31 v32 : Value) (st : St) := goX J ir_Program_Check_c.body [1, 1, 1, 1, 1, 1, 0, 1, 0, 1, 0, 0, 1, 1, 1, 1, 1] (envT [(1, v1), (3, v3), (30, v30), (31, v31), (32, v32)]) st
def ir_Program_Check_l2 (J : JT (Value × St)) (v3 v7 v53 v54 v55 v60 v61 v62 : Value) (st : St) := lpX J ir_Program_Check_c.body [1, 1, 1, 1, 1, 1, 1, 1, 0, 1, 0, 1, 0, 0, 1, 1, 1, 0, 0, 1, 0, 1, 0, 1] (envT [(3, v3), (7, v7), (53, v53), (54, v54), (55, v55), (60, v60), (61, v61), (62, v62)]) st
def ir_Program_Check_j9 (J : JT (Value × St)) (v3 v7 v53 v54 v55 v60 v61 v62 : Value) (st : St) := goX J ir_Program_Check_c.body [1, 1, 1, 1, 1, 1, 1, 1, 0, 1, 0, 1, 0, 0, 1, 1, 1, 0, 0, 1, 0, 1, 0, 1, 0, 0, 1, 1, 1] (envT [(3, v3), (7, v7), (53, v53), (54, v54), (55, v55), (60, v60), (61, v61), (62, v62)]) st
def ir_Program_Check_j10 (J : JT (Value × St)) (v3 v7 v53 v54 v55 : Value) (st : St) := goX J ir_Program_Check_c.body [1, 1, 1, 1, 1, 1, 1, 1, 0, 1, 0, 1, 0, 0, 1, 1, 1, 0, 0, 1, 1, 1] (envT [(3, v3), (7, v7), (53, v53), (54, v54), (55, v55)]) st
def ir_Program_Check_j11 (J : JT (Value × St)) (v3 v7 v53 v54 v55 v60 v61 v62 : Value) (st : St) := goX J ir_Program_Check_c.body [1, 1, 1, 1, 1, 1, 1, 1, 0, 1, 0, 1, 0, 0, 1, 1, 1, 0, 0, 1, 0, 1, 0, 1, 0, 0, 1, 1, 1, 1, 1] (envT [(3, v3), (7, v7), (53, v53), (54, v54), (55, v55), (60, v60), (61, v61), (62, v62)]) st
def ir_Program_Check_l3 (J : JT (Value × St)) (v3 v7 v53 v54 v55 v74 v75 v76 : Value) (st : St) := lpX J ir_Program_Check_c.body [1, 1, 1, 1, 1, 1, 1, 1, 0, 1, 0, 1, 0, 0, 1, 1, 1, 0, 0, 1, 1, 1, 0, 1, 0, 1] (envT [(3, v3), (7, v7), (53, v53), (54, v54), (55, v55), (74, v74), (75, v75), (76, v76)]) st
def ir_Program_Check_j12 (J : JT (Value × St)) (v3 v7 v53 v54 v55 v74 v75 v76 : Value) (st : St) := goX J ir_Program_Check_c.body [1, 1, 1, 1, 1, 1, 1, 1, 0, 1, 0, 1, 0, 0, 1, 1, 1, 0, 0, 1, 1, 1, 0, 1, 0, 1, 0, 0, 1, 1, 1] (envT [(3, v3), (7, v7), (53, v53), (54, v54), (55, v55), (74, v74), (75, v75), (76, v76)]) st
def ir_Program_Check_j13 (J : JT (Value × St)) (v3 v7 v53 v54 v55 : Value) (st : St) := goX J ir_Program_Check_c.body [1, 1, 1, 1, 1, 1, 1, 1, 0, 1, 0, 1, 0, 0, 1, 1, 1, 0, 0, 1, 1, 1, 1, 1] (envT [(3, v3), (7, v7), (53, v53), (54, v54), (55, v55)]) st
def ir_Program_Check_j14 (J : JT (Value × St)) (v3 v7 v53 v54 v55 v74 v75 v76 : Value) (st : St) := goX J ir_Program_Check_c.body [1, 1, 1, 1, 1, 1, 1, 1, 0, 1, 0, 1, 0, 0, 1, 1, 1, 0, 0, 1, 1, 1, 0, 1, 0, 1, 0, 0, 1, 1, 1, 1, 1] (envT [(3, v3), (7, v7), (53, v53), (54, v54), (55, v55), (74, v74), (75, v75), (76, v76)]) st
def ir_Program_Check_j15 (J : JT (Value × St)) (v3 v53 v54 v55 : Value) (st : St) := goX J ir_Program_Check_c.body [1, 1, 1, 1, 1, 1, 1, 1, 0, 1, 0, 1, 0, 0, 1, 1, 1, 1, 1] (envT [(3, v3), (53, v53), (54, v54), (55, v55)]) st
theorem ir_Program_Check_eq (K : Ctx) (J : JT (Value × St)) (a0 : Value) (st : St) : atX K J ir_Program_Check_c (AM.start [a0]) st =
 (.thn st (sLbox a0 st) fun p1 =>
 .thn p1.2 (sLref p1.1 p1.2) fun p2 =>
 .thn p2.2 (sField none 0 p1.1 p2.2) fun p3 =>
 .thn p3.2 (sLen .slice p3.1 p3.2) fun p4 =>
 .thn p4.2 (sBin .lss p4.1 (.int .i64 1) p4.2) fun p5 =>
 .thn p5.2 (sG p5.1 false (sLref p1.1 p5.2) p5.2) fun p6 =>
 .thn p6.2 (sG p5.1 false (sField none 0 p1.1 p6.2) p6.2) fun p7 =>
 .thn p7.2 (sG p5.1 false (sLen .slice p7.1 p7.2) p7.2) fun p8 =>
 .thn p8.2 (sG p5.1 false (sBin .gtr p8.1 (.int .i64 400) p8.2) p8.2) fun p9 =>
 .thn p9.2 (sPick p5.1 (.bool true) p9.1 p9.2) fun p10 =>
 condX p10.1
 (.ok ((.int .i64 7), p10.2))
 (ir_Program_Check_j0 J p1.1 p10.2)) := by kernel_rfl
theorem ir_Program_Check_of : Of1 n_ir_Program_Check ir_Program_Check_c := fun hF => call_of hF ir_Program_Check_is rfl
theorem ir_Program_Check_j0_eq (hJ : IsJ K (retK ir_Program_Check_c.results) J) (v1 : Value) (st : St) : ir_Program_Check_j0 J v1 st =
 (.thn st (sField (some 1) 0 v1 st) fun p1 =>
 .thn p1.2 (K.go (.call n_ir_Program_Count [p1.1]) p1.2) fun p2 =>
 .thn p2.2 (sBin .gtr p2.1 (.int .i64 4000) p2.2) fun p3 =>
 condX p3.1
 (.ok ((.int .i64 3), p3.2))
 (ir_Program_Check_j1 J v1 p3.2)) := gq hJ (by kernel_rfl)
theorem ir_Program_Check_j1_eq (hJ : IsJ K (retK ir_Program_Check_c.results) J) (v1 : Value) (st : St) : ir_Program_Check_j1 J v1 st =
 (.thn st (sNewMap st) fun p1 =>
 .thn p1.2 (sLref v1 p1.2) fun p2 =>
 .thn p2.2 (sField none 0 v1 p2.2) fun p3 =>
 .thn p3.2 (sLen .slice p3.1 p3.2) fun p4 =>
 ir_Program_Check_l0 J v1 p1.1 p3.1 p4.1 (.int .i64 0) p4.2) := gq hJ (by kernel_rfl)
theorem ir_Program_Check_l0_eq (K : Ctx) (J : JT (Value × St)) (v1 v3 v30 v31 v32 : Value) (st : St) : inX K J (retK ir_Program_Check_c.results) ir_Program_Check_c.body [1, 1, 1, 1, 1, 1, 0, 1, 0, 1] (envT [(1, v1), (3, v3), (30, v30), (31, v31), (32, v32)]) st =
 (.thn st (sBin .lss v32 v31 st) fun p1 =>
 condX p1.1
 (ir_Program_Check_j2 J v1 v3 v30 v31 v32 p1.2)
 (ir_Program_Check_j3 J v1 v3 p1.2)) := by kernel_rfl
theorem ir_Program_Check_l0_of (hF : Fix pgF K) (hJ : IsJ K (retK ir_Program_Check_c.results) J) {v1 v3 v30 v31 v32 : Value} (h : Ok (inX K J (retK ir_Program_Check_c.results) ir_Program_Check_c.body [1, 1, 1, 1, 1, 1, 0, 1, 0, 1] (envT [(1, v1), (3, v3), (30, v30), (31, v31), (32, v32)]) st) Q) : Ok (ir_Program_Check_l0 J v1 v3 v30 v31 v32 st) Q := loop_of hF hJ h
theorem ir_Program_Check_j2_eq (hJ : IsJ K (retK ir_Program_Check_c.results) J) (v1 v3 v30 v31 v32 : Value) (st : St) : ir_Program_Check_j2 J v1 v3 v30 v31 v32 st =
 (.thn st (sIxA 7 none v30 v32 st) fun p1 =>
 .thn p1.2 (sLoad (some 7) p1.1 p1.2) fun p2 =>
 .thn p2.2 (sLnew [(.int .i64 0), (.slice none 0 0), (.slice none 0 0), (.int .u8 0), (.int .i64 0), (.int .i64 0), (.int .i64 0)] p2.2) fun p3 =>
 .thn p3.2 (sUpd 7 0 p3.1 p2.1 p3.2) fun p4 =>
 .thn p4.2 (sLref p4.1 p4.2) fun p5 =>
 .thn p5.2 (sField none 0 p4.1 p5.2) fun p6 =>
 .thn p6.2 (sBin .lss p6.1 (.int .i64 0) p6.2) fun p7 =>
 .thn p7.2 (sG p7.1 false (sLref p4.1 p7.2) p7.2) fun p8 =>
 .thn p8.2 (sG p7.1 false (sField none 0 p4.1 p8.2) p8.2) fun p9 =>
 .thn p9.2 (sG p7.1 false (sBin .geq p9.1 (.int .i64 100000) p9.2) p9.2) fun p10 =>
 .thn p10.2 (sPick p7.1 (.bool true) p10.1 p10.2) fun p11 =>
 condX p11.1
 (.ok ((.int .i64 2), p11.2))
 (ir_Program_Check_j4 J v1 v3 p4.1 v30 v31 v32 p11.2)) := gq hJ (by kernel_rfl)
theorem ir_Program_Check_j3_eq (hJ : IsJ K (retK ir_Program_Check_c.results) J) (v1 v3 : Value) (st : St) : ir_Program_Check_j3 J v1 v3 st =
 (.thn st (sLref v1 st) fun p1 =>
 .thn p1.2 (sField none 0 v1 p1.2) fun p2 =>
 .thn p2.2 (sLen .slice p2.1 p2.2) fun p3 =>
 ir_Program_Check_l1 J v3 p2.1 p3.1 (.int .i64 0) p3.2) := gq hJ (by kernel_rfl)
theorem ir_Program_Check_j4_eq (hJ : IsJ K (retK ir_Program_Check_c.results) J) (v1 v3 v5 v30 v31 v32 : Value) (st : St) : ir_Program_Check_j4 J v1 v3 v5 v30 v31 v32 st =
 (.thn st (sLref v5 st) fun p1 =>
 .thn p1.2 (sField none 0 v5 p1.2) fun p2 =>
 .thn p2.2 (sLook (.cell .int) (.bool false) false v3 p2.1 p2.2) fun p3 =>
 condX p3.1
 (.ok ((.int .i64 8), p3.2))
 (ir_Program_Check_j5 J v1 v3 v5 v30 v31 v32 p3.2)) := gq hJ (by kernel_rfl)
theorem ir_Program_Check_l1_eq (K : Ctx) (J : JT (Value × St)) (v3 v53 v54 v55 : Value) (st : St) : inX K J (retK ir_Program_Check_c.results) ir_Program_Check_c.body [1, 1, 1, 1, 1, 1, 1, 1, 0, 1, 0, 1] (envT [(3, v3), (53, v53), (54, v54), (55, v55)]) st =
 (.thn st (sBin .lss v55 v54 st) fun p1 =>
 condX p1.1
 (ir_Program_Check_j6 J v3 v53 v54 v55 p1.2)
 (ir_Program_Check_j7 J p1.2)) := by kernel_rfl
theorem ir_Program_Check_l1_of (hF : Fix pgF K) (hJ : IsJ K (retK ir_Program_Check_c.results) J) {v3 v53 v54 v55 : Value} (h : Ok (inX K J (retK ir_Program_Check_c.results) ir_Program_Check_c.body [1, 1, 1, 1, 1, 1, 1, 1, 0, 1, 0, 1] (envT [(3, v3), (53, v53), (54, v54), (55, v55)]) st) Q) : Ok (ir_Program_Check_l1 J v3 v53 v54 v55 st) Q := loop_of hF hJ h
theorem ir_Program_Check_j5_eq (hJ : IsJ K (retK ir_Program_Check_c.results) J) (v1 v3 v5 v30 v31 v32 : Value) (st : St) : ir_Program_Check_j5 J v1 v3 v5 v30 v31 v32 st =
 (.thn st (sLref v5 st) fun p1 =>
 .thn p1.2 (sField none 0 v5 p1.2) fun p2 =>
 .thn p2.2 (sMapSet (.cell .int) v3 p2.1 (.bool true) p2.2) fun p3 =>
 ir_Program_Check_j8 J v1 v3 v30 v31 v32 p3.2) := gq hJ (by kernel_rfl)
theorem ir_Program_Check_j6_eq (hJ : IsJ K (retK ir_Program_Check_c.results) J) (v3 v53 v54 v55 : Value) (st : St) : ir_Program_Check_j6 J v3 v53 v54 v55 st =
 (.thn st (sIxA 7 none v53 v55 st) fun p1 =>
 .thn p1.2 (sLoad (some 7) p1.1 p1.2) fun p2 =>
 .thn p2.2 (sLnew [(.int .i64 0), (.slice none 0 0), (.slice none 0 0), (.int .u8 0), (.int .i64 0), (.int .i64 0), (.int .i64 0)] p2.2) fun p3 =>
 .thn p3.2 (sUpd 7 0 p3.1 p2.1 p3.2) fun p4 =>
 .thn p4.2 (sLref p4.1 p4.2) fun p5 =>
 .thn p5.2 (sField none 1 p4.1 p5.2) fun p6 =>
 .thn p6.2 (sLen .slice p6.1 p6.2) fun p7 =>
 ir_Program_Check_l2 J v3 p4.1 v53 v54 v55 p6.1 p7.1 (.int .i64 0) p7.2) := gq hJ (by kernel_rfl)
theorem ir_Program_Check_j7_eq (hJ : IsJ K (retK ir_Program_Check_c.results) J) (st : St) : ir_Program_Check_j7 J st =
 (.ok ((.int .i64 0), st)) := gq hJ (by kernel_rfl)
theorem ir_Program_Check_j8_eq (hJ : IsJ K (retK ir_Program_Check_c.results) J) (v1 v3 v30 v31 v32 : Value) (st : St) : ir_Program_Check_j8 J v1 v3 v30 v31 v32 st =
 (.thn st (sBin .add v32 (.int .i64 1) st) fun p1 =>
 ir_Program_Check_l0 J v1 v3 v30 v31 p1.1 p1.2) := gq hJ (by kernel_rfl)
theorem ir_Program_Check_l2_eq (K : Ctx) (J : JT (Value × St)) (v3 v7 v53 v54 v55 v60 v61 v62 : Value) (st : St) : inX K J (retK ir_Program_Check_c.results) ir_Program_Check_c.body [1, 1, 1, 1, 1, 1, 1, 1, 0, 1, 0, 1, 0, 0, 1, 1, 1, 0, 0, 1, 0, 1, 0, 1] (envT [(3, v3), (7, v7), (53, v53), (54, v54), (55, v55), (60, v60), (61, v61), (62, v62)]) st =
 (.thn st (sBin .lss v62 v61 st) fun p1 =>
 condX p1.1
 (ir_Program_Check_j9 J v3 v7 v53 v54 v55 v60 v61 v62 p1.2)
 (ir_Program_Check_j10 J v3 v7 v53 v54 v55 p1.2)) := by kernel_rfl
theorem ir_Program_Check_l2_of (hF : Fix pgF K) (hJ : IsJ K (retK ir_Program_Check_c.results) J) {v3 v7 v53 v54 v55 v60 v61 v62 : Value} (h : Ok (inX K J (retK ir_Program_Check_c.results) ir_Program_Check_c.body [1, 1, 1, 1, 1, 1, 1, 1, 0, 1, 0, 1, 0, 0, 1, 1, 1, 0, 0, 1, 0, 1, 0, 1] (envT [(3, v3), (7, v7), (53, v53), (54, v54), (55, v55), (60, v60), (61, v61), (62, v62)]) st) Q) : Ok (ir_Program_Check_l2 J v3 v7 v53 v54 v55 v60 v61 v62 st) Q := loop_of hF hJ h
theorem ir_Program_Check_j9_eq (hJ : IsJ K (retK ir_Program_Check_c.results) J) (v3 v7 v53 v54 v55 v60 v61 v62 : Value) (st : St) : ir_Program_Check_j9 J v3 v7 v53 v54 v55 v60 v61 v62 st =
 (.thn st (sIxA 3 none v60 v62 st) fun p1 =>
 .thn p1.2 (sLoad (some 3) p1.1 p1.2) fun p2 =>
 .thn p2.2 (sLnew [(.int .i64 0), (.slice none 0 0), (.slice none 0 0)] p2.2) fun p3 =>
 .thn p3.2 (sUpd 3 0 p3.1 p2.1 p3.2) fun p4 =>
 .thn p4.2 (sField (some 3) 0 p4.1 p4.2) fun p5 =>
 .thn p5.2 (K.go (.call n_ir_Phi_check [p5.1, v3]) p5.2) fun p6 =>
 .thn p6.2 (sBin .neq p6.1 (.int .i64 0) p6.2) fun p7 =>
 condX p7.1
 (.ok (p6.1, p7.2))
 (ir_Program_Check_j11 J v3 v7 v53 v54 v55 v60 v61 v62 p7.2)) := gq hJ (by kernel_rfl)
theorem ir_Program_Check_j10_eq (hJ : IsJ K (retK ir_Program_Check_c.results) J) (v3 v7 v53 v54 v55 : Value) (st : St) : ir_Program_Check_j10 J v3 v7 v53 v54 v55 st =
 (.thn st (sLref v7 st) fun p1 =>
 .thn p1.2 (sField none 2 v7 p1.2) fun p2 =>
 .thn p2.2 (sLen .slice p2.1 p2.2) fun p3 =>
 ir_Program_Check_l3 J v3 v7 v53 v54 v55 p2.1 p3.1 (.int .i64 0) p3.2) := gq hJ (by kernel_rfl)
theorem ir_Program_Check_j11_eq (hJ : IsJ K (retK ir_Program_Check_c.results) J) (v3 v7 v53 v54 v55 v60 v61 v62 : Value) (st : St) : ir_Program_Check_j11 J v3 v7 v53 v54 v55 v60 v61 v62 st =
 (.thn st (sBin .add v62 (.int .i64 1) st) fun p1 =>
 ir_Program_Check_l2 J v3 v7 v53 v54 v55 v60 v61 p1.1 p1.2) := gq hJ (by kernel_rfl)
theorem ir_Program_Check_l3_eq (K : Ctx) (J : JT (Value × St)) (v3 v7 v53 v54 v55 v74 v75 v76 : Value) (st : St) : inX K J (retK ir_Program_Check_c.results) ir_Program_Check_c.body [1, 1, 1, 1, 1, 1, 1, 1, 0, 1, 0, 1, 0, 0, 1, 1, 1, 0, 0, 1, 1, 1, 0, 1, 0, 1] (envT [(3, v3), (7, v7), (53, v53), (54, v54), (55, v55), (74, v74), (75, v75), (76, v76)]) st =
 (.thn st (sBin .lss v76 v75 st) fun p1 =>
 condX p1.1
 (ir_Program_Check_j12 J v3 v7 v53 v54 v55 v74 v75 v76 p1.2)
 (ir_Program_Check_j13 J v3 v7 v53 v54 v55 p1.2)) := by kernel_rfl
theorem ir_Program_Check_l3_of (hF : Fix pgF K) (hJ : IsJ K (retK ir_Program_Check_c.results) J) {v3 v7 v53 v54 v55 v74 v75 v76 : Value} (h : Ok (inX K J (retK ir_Program_Check_c.results) ir_Program_Check_c.body [1, 1, 1, 1, 1, 1, 1, 1, 0, 1, 0, 1, 0, 0, 1, 1, 1, 0, 0, 1, 1, 1, 0, 1, 0, 1] (envT [(3, v3), (7, v7), (53, v53), (54, v54), (55, v55), (74, v74), (75, v75), (76, v76)]) st) Q) : Ok (ir_Program_Check_l3 J v3 v7 v53 v54 v55 v74 v75 v76 st) Q := loop_of hF hJ h
theorem ir_Program_Check_j12_eq (hJ : IsJ K (retK ir_Program_Check_c.results) J) (v3 v7 v53 v54 v55 v74 v75 v76 : Value) (st : St) : ir_Program_Check_j12 J v3 v7 v53 v54 v55 v74 v75 v76 st =
 (.thn st (sIxA 7 none v74 v76 st) fun p1 =>
 .thn p1.2 (sLoad (some 7) p1.1 p1.2) fun p2 =>
 .thn p2.2 (sLnew [(.int .u8 0), (.int .u8 0), (.int .i64 0), (.int .i64 0), (.int .i64 0), (.int .i64 0), (.int .i64 0)] p2.2) fun p3 =>
 .thn p3.2 (sUpd 7 0 p3.1 p2.1 p3.2) fun p4 =>
 .thn p4.2 (sField (some 7) 0 p4.1 p4.2) fun p5 =>
 .thn p5.2 (K.go (.call n_ir_Instr_check [p5.1]) p5.2) fun p6 =>
 .thn p6.2 (sBin .neq p6.1 (.int .i64 0) p6.2) fun p7 =>
 condX p7.1
 (.ok (p6.1, p7.2))
 (ir_Program_Check_j14 J v3 v7 v53 v54 v55 v74 v75 v76 p7.2)) := gq hJ (by kernel_rfl)
theorem ir_Program_Check_j13_eq (hJ : IsJ K (retK ir_Program_Check_c.results) J) (v3 v7 v53 v54 v55 : Value) (st : St) : ir_Program_Check_j13 J v3 v7 v53 v54 v55 st =
 (.thn st (sLref v7 st) fun p1 =>
 .thn p1.2 (sField (some 4) 3 v7 p1.2) fun p2 =>
 .thn p2.2 (K.go (.call n_ir_Last_check [p2.1, v3]) p2.2) fun p3 =>
 .thn p3.2 (sBin .neq p3.1 (.int .i64 0) p3.2) fun p4 =>
 condX p4.1
 (.ok (p3.1, p4.2))
 (ir_Program_Check_j15 J v3 v53 v54 v55 p4.2)) := gq hJ (by kernel_rfl)
theorem ir_Program_Check_j14_eq (hJ : IsJ K (retK ir_Program_Check_c.results) J) (v3 v7 v53 v54 v55 v74 v75 v76 : Value) (st : St) : ir_Program_Check_j14 J v3 v7 v53 v54 v55 v74 v75 v76 st =
 (.thn st (sBin .add v76 (.int .i64 1) st) fun p1 =>
 ir_Program_Check_l3 J v3 v7 v53 v54 v55 v74 v75 p1.1 p1.2) := gq hJ (by kernel_rfl)
theorem ir_Program_Check_j15_eq (hJ : IsJ K (retK ir_Program_Check_c.results) J) (v3 v53 v54 v55 : Value) (st : St) : ir_Program_Check_j15 J v3 v53 v54 v55 st =
 (.thn st (sBin .add v55 (.int .i64 1) st) fun p1 =>
 ir_Program_Check_l1 J v3 v53 v54 p1.1 p1.2) := gq hJ (by kernel_rfl)
open C in
def lex_Split_c : AFun := ⟨1, [.cell 2 none, .cell 3 none, .cell 4 none],
 (s (.ops [o 2 (.new [(.slice none 0 0)]), o 3 (.new [(i 0)]), o 4 (.new [(i 0)])])
 (s (.ops [o 5 (.new [(.slice none 0 0)])])
 (s (s (.ops [o 8 (.mv (t 0)), o 9 (.call (f 42) [(t 8)])])
 (.block 0 (s (.keep [2, 3, 4, 5, 6, 7, 9])
 (.range (t 9) [10, 11] (s (.ops [o 6 (.lnew [(u 0), (i 0), (.string (bstr [])), (i 0)]), o 6 (.upd 4 0 (t 6) (t 10))])
 (.ops [o 7 (.mv (t 11))])) (s (.keep [2, 3, 4, 5, 6, 7])
 (.block 1 (s (s (.ops [o 12 (.mv (t 7)), o 13 (.bin .neq (t 12) (c (i 0)))])
 (.cond (t 13) (s (.draw [d 3 0 true (n (.store 1 (t 2) (c (.slice none 0 0)))), d 0 0 false (o 14 (.lref (t 6))), d 1 1 false (o 15 (.field none 1 (t 6))), d 4 0 true (n (.store 1 (t 3) (t 15))), d 2 0 false (o 16 (.mv (t 7))), d 5 0 true (n (.store 1 (t 4) (t 16)))])
 .ret) .skip))
 (s (.keep [5, 6])
 (.ops [o 17 (.load none (t 5)), o 18 (.field (some 4) 0 (t 6)), o 19 (.lit 4 1 [(u 0), (i 0), (.string (bstr [])), (i 0)] [(0, 4, (t 18))]), o 20 (.append 4 40 (t 17) (t 19)), n (.store 1 (t 5) (t 20))])))))))))
 (s (.keep [2, 3, 4, 5])
 (s (.ops [o 21 (.load none (t 5)), n (.store 1 (t 2) (t 21)), n (.store 1 (t 3) (c (i 0))), n (.store 1 (t 4) (c (i 0)))])
 .ret)))))⟩
theorem lex_Split_is : pgF n_lex_Split = some lex_Split_c := by kernel_rfl
def lex_Split_j0 (J : JT (Value × St)) (v2 v3 v4 v5 v6 v7 v9 : Value) (st : St) := goX J lex_Split_c.body [1, 1, 0, 1, 0, 1] (envT [(2, v2), (3, v3), (4, v4), (5, v5), (6, v6), (7, v7), (9, v9)]) st
def lex_Split_x0 (K : Ctx) (J : JT (Value × St)) (x : AExit) (v2 v3 v4 v5 v6 v7 v9 : Value) (st : St) : Res (Value × St) := kJ K J (retK lex_Split_c.results) (posK lex_Split_c.body [1, 1, 0, 1, 0, 1] []) x (envT [(2, v2), (3, v3), (4, v4), (5, v5), (6, v6), (7, v7), (9, v9)]) st
def lex_Split_j1 (J : JT (Value × St)) (v2 v3 v4 v5 : Value) (st : St) := goX J lex_Split_c.body [1, 1, 1, 1] (envT [(2, v2), (3, v3), (4, v4), (5, v5)]) st
def lex_Split_jr1101011_0 (J : JT (AExit × St)) (v2 v3 v4 v5 v6 v7 : Value) (st : St) : Res (AExit × St) := goX J (posC lex_Split_c.body [1, 1, 0, 1, 0, 1, 1]) [1] (envT [(2, v2), (3, v3), (4, v4), (5, v5), (6, v6), (7, v7)]) st
def lex_Split_jr1101011_1 (J : JT (AExit × St)) (v5 v6 : Value) (st : St) : Res (AExit × St) := goX J (posC lex_Split_c.body [1, 1, 0, 1, 0, 1, 1]) [1, 0, 1, 1] (envT [(5, v5), (6, v6)]) st
theorem lex_Split_eq (K : Ctx) (J : JT (Value × St)) (a0 : Value) (st : St) : atX K J lex_Split_c (AM.start [a0]) st =
 (.thn st (sNew [(.slice none 0 0)] st) fun p1 =>
 .thn p1.2 (sNew [(.int .i64 0)] p1.2) fun p2 =>
 .thn p2.2 (sNew [(.int .i64 0)] p2.2) fun p3 =>
 .thn p3.2 (sNew [(.slice none 0 0)] p3.2) fun p4 =>
 .thn p4.2 (K.go (.call n_lex_Tokens [a0]) p4.2) fun p5 =>
 lex_Split_j0 J p1.1 p2.1 p3.1 p4.1 nothing nothing p5.1 p5.2) := by kernel_rfl
theorem lex_Split_of : Of1 n_lex_Split lex_Split_c := fun hF => call_of hF lex_Split_is rfl
theorem lex_Split_j0_eq (hJ : IsJ K (retK lex_Split_c.results) J) (v2 v3 v4 v5 v6 v7 v9 : Value) (st : St) : lex_Split_j0 J v2 v3 v4 v5 v6 v7 v9 st =
 (sRange K v9 st (.loop (envT [(2, v2), (3, v3), (4, v4), (5, v5), (6, v6), (7, v7), (9, v9)]) [10, 11] (posC lex_Split_c.body [1, 1, 0, 1, 0, 1, 0]) (posC lex_Split_c.body [1, 1, 0, 1, 0, 1, 1]) .ready .normal) (fun x s => lex_Split_x0 K J x v2 v3 v4 v5 v6 v7 v9 s)) := gq hJ (by kernel_rfl)
theorem lex_Split_x0_n (K : Ctx) (J : JT (Value × St)) (v2 v3 v4 v5 v6 v7 v9 : Value) (st : St) : lex_Split_x0 K J .normal v2 v3 v4 v5 v6 v7 v9 st =
 (lex_Split_j1 J v2 v3 v4 v5 st) := by kernel_rfl
theorem lex_Split_x0_r (K : Ctx) (J : JT (Value × St)) (v2 v3 v4 v5 v6 v7 v9 : Value) (st : St) : lex_Split_x0 K J .ret v2 v3 v4 v5 v6 v7 v9 st =
 ((sLoad none v2 st >>= fun p1 => (sLoad none v3 st >>= fun p2 => (sLoad none v4 st >>= fun p3 => .ok [p3.1]) >>= fun r => .ok (p2.1 :: r)) >>= fun r => .ok (p1.1 :: r)) >>= fun vs => .ok (oneOf vs, st)) := by kernel_rfl
theorem lex_Split_j1_eq (hJ : IsJ K (retK lex_Split_c.results) J) (v2 v3 v4 v5 : Value) (st : St) : lex_Split_j1 J v2 v3 v4 v5 st =
 (.thn st (sLoad none v5 st) fun p1 =>
 .thn p1.2 (sStore 1 v2 p1.1 p1.2) fun p2 =>
 .thn p2.2 (sStore 1 v3 (.int .i64 0) p2.2) fun p3 =>
 .thn p3.2 (sStore 1 v4 (.int .i64 0) p3.2) fun p4 =>
 (sLoad none v2 p4.2 >>= fun p5 => (sLoad none v3 p4.2 >>= fun p6 => (sLoad none v4 p4.2 >>= fun p7 => .ok [p7.1]) >>= fun r => .ok (p6.1 :: r)) >>= fun r => .ok (p5.1 :: r)) >>= fun vs => .ok (oneOf vs, p4.2)) := gq hJ (by kernel_rfl)
theorem lex_Split_jr1101011_0_eq {K : Ctx} {J : JT (AExit × St)} (hJ : IsJ K rawK J) (v2 v3 v4 v5 v6 v7 : Value) (st : St) : lex_Split_jr1101011_0 J v2 v3 v4 v5 v6 v7 st =
 (.thn st (sBin .neq v7 (.int .i64 0) st) fun p1 =>
 condX p1.1
 (.thn p1.2 (sStore 1 v2 (.slice none 0 0) p1.2) fun p2 =>
 .thn p2.2 (sLref v6 p2.2) fun p3 =>
 .thn p3.2 (sField none 1 v6 p3.2) fun p4 =>
 Res.need (sStays (List.take 1 (p1.2 :: [])) p2.2.next nothing (fun s => sField none 1 v6 s) p4.1) "order" >>= fun _ =>
 .thn p4.2 (sStore 1 v3 p4.1 p4.2) fun p5 =>
 .thn p5.2 (sStore 1 v4 v7 p5.2) fun p6 =>
 .ok (.ret, p6.2))
 (lex_Split_jr1101011_1 J v5 v6 p1.2)) := gq hJ (by kernel_rfl)
theorem lex_Split_jr1101011_1_eq {K : Ctx} {J : JT (AExit × St)} (hJ : IsJ K rawK J) (v5 v6 : Value) (st : St) : lex_Split_jr1101011_1 J v5 v6 st =
 (.thn st (sLoad none v5 st) fun p1 =>
 .thn p1.2 (sField (some 4) 0 v6 p1.2) fun p2 =>
 .thn p2.2 (sLit 4 1 [(.int .u8 0), (.int .i64 0), (.string (bstr [])), (.int .i64 0)] [(0, 4, p2.1)] p2.2) fun p3 =>
 .thn p3.2 (sAppend 4 40 p1.1 p3.1 p3.2) fun p4 =>
 .thn p4.2 (sStore 1 v5 p4.1 p4.2) fun p5 =>
 .ok (.normal, p5.2)) := gq hJ (by kernel_rfl)
open C in
def parse_reader_program_c : AFun := ⟨1, [.part 2 (some 1)],
 (s (.ops [o 2 (.lnew [(.slice none 0 0)])])
 (s (.ops [o 3 (.lnew [(.slice none 0 0)])])
 (s (s (.ops [o 4 (.mv (t 0)), o 5 (.call (f 44) [(t 4)])])
 (.block 0 (s (.keep [0, 2, 3])
 (.loop (s (s (s (.ops [o 6 (.mv (t 0)), o 7 (.call (f 45) [(t 6), (c (u 3)), (c (.string (bstr [])))])])
 (.cond (t 7) .skip (.exit 0)))
 (s (.keep [0, 2, 3])
 (s (.block 1 (.draw [d 2 0 false (o 12 (.mv (t 0))), d 3 0 true (o 13 (.call (f 46) [(t 12)])), d 0 0 false (o 10 (.lref (t 3))), d 1 1 false (o 11 (.field none 0 (t 3))), d 4 0 false (o 14 (.lit 7 1 [(i 0), (.slice none 0 0), (.slice none 0 0), (u 0), (i 0), (i 0), (i 0)] [(0, 7, (t 13))])), d 5 0 true (o 15 (.append 7 88 (t 11) (t 14))), d 6 0 false (o 16 (.lref (t 3))), d 7 0 true (o 3 (.upd 1 0 (t 3) (t 15)))]))
 (s (.keep [0, 2, 3])
 (.ops [o 8 (.mv (t 0)), o 9 (.call (f 44) [(t 8)])])))))
 (.keep [0, 2, 3]))))))
 (s (.keep [0, 2, 3])
 (s (.ops [o 17 (.mv (t 0)), o 18 (.call (f 47) [(t 17), (c (u 0)), (c (.string (bstr [])))])])
 (s (.ops [o 19 (.field (some 1) 0 (t 3)), o 2 (.upd 1 0 (t 2) (t 19))])
 .ret))))))⟩
theorem parse_reader_program_is : pgF n_parse_reader_program = some parse_reader_program_c := by kernel_rfl
def parse_reader_program_l0 (J : JT (Value × St)) (v0 v2 v3 : Value) (st : St) := lpX J parse_reader_program_c.body [1, 1, 0, 1, 0, 1] (envT [(0, v0), (2, v2), (3, v3)]) st
def parse_reader_program_j0 (J : JT (Value × St)) (v0 v2 v3 : Value) (st : St) := goX J parse_reader_program_c.body [1, 1, 0, 1, 0, 1, 0, 0, 1, 1] (envT [(0, v0), (2, v2), (3, v3)]) st
def parse_reader_program_j1 (J : JT (Value × St)) (v0 v2 v3 : Value) (st : St) := goX J parse_reader_program_c.body [1, 1, 1, 1] (envT [(0, v0), (2, v2), (3, v3)]) st
def parse_reader_program_j2 (J : JT (Value × St)) (v0 v2 v3 : Value) (st : St) := goX J parse_reader_program_c.body [1, 1, 0, 1, 0, 1, 0, 0, 1, 1, 1, 1] (envT [(0, v0), (2, v2), (3, v3)]) st
theorem parse_reader_program_eq (K : Ctx) (J : JT (Value × St)) (a0 : Value) (st : St) : atX K J parse_reader_program_c (AM.start [a0]) st =
 (.thn st (sLnew [(.slice none 0 0)] st) fun p1 =>
 .thn p1.2 (sLnew [(.slice none 0 0)] p1.2) fun p2 =>
 .thn p2.2 (K.go (.call n_parse_reader_lines [a0]) p2.2) fun p3 =>
 parse_reader_program_l0 J a0 p1.1 p2.1 p3.2) := by kernel_rfl
theorem parse_reader_program_of : Of1 n_parse_reader_program parse_reader_program_c := fun hF => call_of hF parse_reader_program_is rfl
theorem parse_reader_program_l0_eq (K : Ctx) (J : JT (Value × St)) (v0 v2 v3 : Value) (st : St) : inX K J (retK parse_reader_program_c.results) parse_reader_program_c.body [1, 1, 0, 1, 0, 1] (envT [(0, v0), (2, v2), (3, v3)]) st =
 (.thn st (K.go (.call n_parse_reader_is [v0, (.int .u8 3), (.string (bstr []))]) st) fun p1 =>
 condX p1.1
 (parse_reader_program_j0 J v0 v2 v3 p1.2)
 (parse_reader_program_j1 J v0 v2 v3 p1.2)) := by kernel_rfl
theorem parse_reader_program_l0_of (hF : Fix pgF K) (hJ : IsJ K (retK parse_reader_program_c.results) J) {v0 v2 v3 : Value} (h : Ok (inX K J (retK parse_reader_program_c.results) parse_reader_program_c.body [1, 1, 0, 1, 0, 1] (envT [(0, v0), (2, v2), (3, v3)]) st) Q) : Ok (parse_reader_program_l0 J v0 v2 v3 st) Q := loop_of hF hJ h
theorem parse_reader_program_j0_eq (hJ : IsJ K (retK parse_reader_program_c.results) J) (v0 v2 v3 : Value) (st : St) : parse_reader_program_j0 J v0 v2 v3 st =
 (.thn st (K.go (.call n_parse_reader_block [v0]) st) fun p1 =>
 .thn p1.2 (sLref v3 p1.2) fun p2 =>
 .thn p2.2 (sField none 0 v3 p2.2) fun p3 =>
 Res.need (sStays (List.take 1 (st :: [])) p1.2.next nothing (fun s => sField none 0 v3 s) p3.1) "order" >>= fun _ =>
 .thn p3.2 (sLit 7 1 [(.int .i64 0), (.slice none 0 0), (.slice none 0 0), (.int .u8 0), (.int .i64 0), (.int .i64 0), (.int .i64 0)] [(0, 7, p1.1)] p3.2) fun p4 =>
 .thn p4.2 (sAppend 7 88 p3.1 p4.1 p4.2) fun p5 =>
 .thn p5.2 (sLref v3 p5.2) fun p6 =>
 .thn p6.2 (sUpd 1 0 v3 p5.1 p6.2) fun p7 =>
 parse_reader_program_j2 J v0 v2 p7.1 p7.2) := gq hJ (by kernel_rfl)
theorem parse_reader_program_j1_eq (hJ : IsJ K (retK parse_reader_program_c.results) J) (v0 v2 v3 : Value) (st : St) : parse_reader_program_j1 J v0 v2 v3 st =
 (.thn st (K.go (.call n_parse_reader_take [v0, (.int .u8 0), (.string (bstr []))]) st) fun p1 =>
 .thn p1.2 (sField (some 1) 0 v3 p1.2) fun p2 =>
 .thn p2.2 (sUpd 1 0 v2 p2.1 p2.2) fun p3 =>
 (sField (some 1) 0 p3.1 p3.2 >>= fun p4 => .ok [p4.1]) >>= fun vs => .ok (oneOf vs, p3.2)) := gq hJ (by kernel_rfl)
theorem parse_reader_program_j2_eq (hJ : IsJ K (retK parse_reader_program_c.results) J) (v0 v2 v3 : Value) (st : St) : parse_reader_program_j2 J v0 v2 v3 st =
 (.thn st (K.go (.call n_parse_reader_lines [v0]) st) fun p1 =>
 parse_reader_program_l0 J v0 v2 v3 p1.2) := gq hJ (by kernel_rfl)
open C in
def slices_EqualFunc_irBlock_c : AFun := ⟨3, [.tmp 6],
 (s (.ops [o 6 (.mv (c (.bool false)))])
 (s (s (.ops [o 10 (.mv (t 0)), o 11 (.len .slice (t 10)), o 12 (.mv (t 1)), o 13 (.len .slice (t 12)), o 14 (.bin .neq (t 11) (t 13))])
 (.cond (t 14) (s (.ops [o 6 (.mv (c (.bool false)))])
 .ret) .skip))
 (s (.keep [0, 1, 2])
 (s (s (.ops [o 15 (.mv (t 0)), o 16 (.len .slice (t 15)), o 17 (.mv (c (i 0)))])
 (.block 0 (s (.keep [1, 2, 15, 16, 17])
 (.loop (s (s (.ops [o 18 (.bin .lss (t 17) (t 16))])
 (s (.cond (t 18) .skip (.exit 0))
 (s (.keep [1, 2, 15, 16, 17])
 (s (.block 1 (s (.ops [o 19 (.mv (t 17)), o 20 (.ixA 7 none (t 15) (t 17)), o 21 (.load (some 7) (t 20)), o 8 (.lnew [(i 0), (.slice none 0 0), (.slice none 0 0), (u 0), (i 0), (i 0), (i 0)]), o 7 (.mv (t 19)), o 8 (.upd 7 0 (t 8) (t 21))])
 (s (.ops [o 22 (.mv (t 1)), o 23 (.mv (t 7)), o 24 (.ixA 7 none (t 22) (t 23)), o 25 (.load (some 7) (t 24)), o 9 (.lnew [(i 0), (.slice none 0 0), (.slice none 0 0), (u 0), (i 0), (i 0), (i 0)]), o 9 (.upd 7 0 (t 9) (t 25))])
 (s (.ops [o 26 (.mv (t 2)), o 27 (.field (some 7) 0 (t 8)), o 28 (.field (some 7) 0 (t 9)), o 29 (.call (t 26) [(t 27), (t 28)]), o 30 (.un .not (t 29))])
 (.cond (t 30) (s (.ops [o 6 (.mv (c (.bool false)))])
 .ret) .skip)))))
 (s (.keep [1, 2, 15, 16, 17])
 (.ops [o 31 (.bin .add (t 17) (c (i 1))), o 17 (.mv (t 31))]))))))
 (.keep [1, 2, 15, 16, 17]))))))
 (s (.keep [])
 (s (.ops [o 6 (.mv (c (.bool true)))])
 .ret))))))⟩
theorem slices_EqualFunc_irBlock_is : pgF n_slices_EqualFunc_irBlock = some slices_EqualFunc_irBlock_c := by kernel_rfl
def slices_EqualFunc_irBlock_j0 (J : JT (Value × St)) (v0 v1 v2 : Value) (st : St) := goX J slices_EqualFunc_irBlock_c.body [1, 1, 1] (envT [(0, v0), (1, v1), (2, v2)]) st
def slices_EqualFunc_irBlock_l0 (J : JT (Value × St)) (v1 v2 v15 v16 v17 : Value) (st : St) := lpX J slices_EqualFunc_irBlock_c.body [1, 1, 1, 0, 1, 0, 1] (envT [(1, v1), (2, v2), (15, v15), (16, v16), (17, v17)]) st
def slices_EqualFunc_irBlock_j1 (J : JT (Value × St)) (v1 v2 v15 v16 v17 : Value) (st : St) := goX J slices_EqualFunc_irBlock_c.body [1, 1, 1, 0, 1, 0, 1, 0, 0, 1, 1, 1] (envT [(1, v1), (2, v2), (15, v15), (16, v16), (17, v17)]) st
def slices_EqualFunc_irBlock_j2 (J : JT (Value × St)) (st : St) := goX J slices_EqualFunc_irBlock_c.body [1, 1, 1, 1, 1] (envT []) st
def slices_EqualFunc_irBlock_j3 (J : JT (Value × St)) (v1 v2 v15 v16 v17 : Value) (st : St) := goX J slices_EqualFunc_irBlock_c.body [1, 1, 1, 0, 1, 0, 1, 0, 0, 1, 1, 1, 1, 1] (envT [(1, v1), (2, v2), (15, v15), (16, v16), (17, v17)]) st
theorem slices_EqualFunc_irBlock_eq (K : Ctx) (J : JT (Value × St)) (a0 a1 a2 : Value) (st : St) : atX K J slices_EqualFunc_irBlock_c (AM.start [a0, a1, a2]) st =
 (.thn st (sLen .slice a0 st) fun p1 =>
 .thn p1.2 (sLen .slice a1 p1.2) fun p2 =>
 .thn p2.2 (sBin .neq p1.1 p2.1 p2.2) fun p3 =>
 condX p3.1
 (.ok ((.bool false), p3.2))
 (slices_EqualFunc_irBlock_j0 J a0 a1 a2 p3.2)) := by kernel_rfl
theorem slices_EqualFunc_irBlock_of : Of3 n_slices_EqualFunc_irBlock slices_EqualFunc_irBlock_c := fun hF => call_of hF slices_EqualFunc_irBlock_is rfl
theorem slices_EqualFunc_irBlock_j0_eq (hJ : IsJ K (retK slices_EqualFunc_irBlock_c.results) J) (v0 v1 v2 : Value) (st : St) : slices_EqualFunc_irBlock_j0 J v0 v1 v2 st =
 (.thn st (sLen .slice v0 st) fun p1 =>
 slices_EqualFunc_irBlock_l0 J v1 v2 v0 p1.1 (.int .i64 0) p1.2) := gq hJ (by kernel_rfl)
theorem slices_EqualFunc_irBlock_l0_eq (K : Ctx) (J : JT (Value × St)) (v1 v2 v15 v16 v17 : Value) (st : St) : inX K J (retK slices_EqualFunc_irBlock_c.results) slices_EqualFunc_irBlock_c.body [1, 1, 1, 0, 1, 0, 1] (envT [(1, v1), (2, v2), (15, v15), (16, v16), (17, v17)]) st =
 (.thn st (sBin .lss v17 v16 st) fun p1 =>
 condX p1.1
 (slices_EqualFunc_irBlock_j1 J v1 v2 v15 v16 v17 p1.2)
 (slices_EqualFunc_irBlock_j2 J p1.2)) := by kernel_rfl
theorem slices_EqualFunc_irBlock_l0_of (hF : Fix pgF K) (hJ : IsJ K (retK slices_EqualFunc_irBlock_c.results) J) {v1 v2 v15 v16 v17 : Value} (h : Ok (inX K J (retK slices_EqualFunc_irBlock_c.results) slices_EqualFunc_irBlock_c.body [1, 1, 1, 0, 1, 0, 1] (envT [(1, v1), (2, v2), (15, v15), (16, v16), (17, v17)]) st) Q) : Ok (slices_EqualFunc_irBlock_l0 J v1 v2 v15 v16 v17 st) Q := loop_of hF hJ h
theorem slices_EqualFunc_irBlock_j1_eq (hJ : IsJ K (retK slices_EqualFunc_irBlock_c.results) J) (v1 v2 v15 v16 v17 : Value) (st : St) : slices_EqualFunc_irBlock_j1 J v1 v2 v15 v16 v17 st =
 (.thn st (sIxA 7 none v15 v17 st) fun p1 =>
 .thn p1.2 (sLoad (some 7) p1.1 p1.2) fun p2 =>
 .thn p2.2 (sLnew [(.int .i64 0), (.slice none 0 0), (.slice none 0 0), (.int .u8 0), (.int .i64 0), (.int .i64 0), (.int .i64 0)] p2.2) fun p3 =>
 .thn p3.2 (sUpd 7 0 p3.1 p2.1 p3.2) fun p4 =>
 .thn p4.2 (sIxA 7 none v1 v17 p4.2) fun p5 =>
 .thn p5.2 (sLoad (some 7) p5.1 p5.2) fun p6 =>
 .thn p6.2 (sLnew [(.int .i64 0), (.slice none 0 0), (.slice none 0 0), (.int .u8 0), (.int .i64 0), (.int .i64 0), (.int .i64 0)] p6.2) fun p7 =>
 .thn p7.2 (sUpd 7 0 p7.1 p6.1 p7.2) fun p8 =>
 .thn p8.2 (sField (some 7) 0 p4.1 p8.2) fun p9 =>
 .thn p9.2 (sField (some 7) 0 p8.1 p9.2) fun p10 =>
 .thn p10.2 (sCall K v2 [p9.1, p10.1] p10.2) fun p11 =>
 .thn p11.2 (sUn .not p11.1 p11.2) fun p12 =>
 condX p12.1
 (.ok ((.bool false), p12.2))
 (slices_EqualFunc_irBlock_j3 J v1 v2 v15 v16 v17 p12.2)) := gq hJ (by kernel_rfl)
theorem slices_EqualFunc_irBlock_j2_eq (hJ : IsJ K (retK slices_EqualFunc_irBlock_c.results) J) (st : St) : slices_EqualFunc_irBlock_j2 J st =
 (.ok ((.bool true), st)) := gq hJ (by kernel_rfl)
theorem slices_EqualFunc_irBlock_j3_eq (hJ : IsJ K (retK slices_EqualFunc_irBlock_c.results) J) (v1 v2 v15 v16 v17 : Value) (st : St) : slices_EqualFunc_irBlock_j3 J v1 v2 v15 v16 v17 st =
 (.thn st (sBin .add v17 (.int .i64 1) st) fun p1 =>
 slices_EqualFunc_irBlock_l0 J v1 v2 v15 v16 p1.1 p1.2) := gq hJ (by kernel_rfl)
open C in
def ir_Same_1_c : AFun := ⟨2, [.tmp 4],
 (s (.ops [o 2 (.lbox (t 0)), o 3 (.lbox (t 1)), o 4 (.mv (c (.bool false)))])
 (s (.ops [o 5 (.lref (t 2)), o 6 (.field none 0 (t 2)), o 7 (.lref (t 3)), o 8 (.field none 0 (t 3)), o 9 (.bin .eql (t 6) (t 8)), o 10 (.mv (t 9)), g 11 true 10 (.lref (t 2)), g 12 true 10 (.field (some 4) 3 (t 2)), g 13 true 10 (.lref (t 3)), g 14 true 10 (.field (some 4) 3 (t 3)), g 15 true 10 (.eq false (.fields [(0, .int), (1, .int), (2, .int), (3, .int)]) (t 12) (t 14)), o 16 (.pick (t 10) (t 15) (c (.bool false))), o 17 (.mv (t 16)), g 18 true 17 (.lref (t 2)), g 19 true 17 (.field none 2 (t 2)), g 20 true 17 (.lref (t 3)), g 21 true 17 (.field none 2 (t 3)), g 22 true 17 (.call (f 31) [(t 19), (t 21)]), o 23 (.pick (t 17) (t 22) (c (.bool false))), o 24 (.mv (t 23)), g 25 true 24 (.lref (t 2)), g 26 true 24 (.field none 1 (t 2)), g 27 true 24 (.lref (t 3)), g 28 true 24 (.field none 1 (t 3)), g 29 true 24 (.call (f 32) [(t 26), (t 28), (f 33)]), o 30 (.pick (t 24) (t 29) (c (.bool false))), o 4 (.mv (t 30))])
 .ret))⟩
theorem ir_Same_1_is : pgF n_ir_Same_1 = some ir_Same_1_c := by kernel_rfl
theorem ir_Same_1_eq (K : Ctx) (J : JT (Value × St)) (a0 a1 : Value) (st : St) : atX K J ir_Same_1_c (AM.start [a0, a1]) st =
 (.thn st (sLbox a0 st) fun p1 =>
 .thn p1.2 (sLbox a1 p1.2) fun p2 =>
 .thn p2.2 (sLref p1.1 p2.2) fun p3 =>
 .thn p3.2 (sField none 0 p1.1 p3.2) fun p4 =>
 .thn p4.2 (sLref p2.1 p4.2) fun p5 =>
 .thn p5.2 (sField none 0 p2.1 p5.2) fun p6 =>
 .thn p6.2 (sBin .eql p4.1 p6.1 p6.2) fun p7 =>
 .thn p7.2 (sG p7.1 true (sLref p1.1 p7.2) p7.2) fun p8 =>
 .thn p8.2 (sG p7.1 true (sField (some 4) 3 p1.1 p8.2) p8.2) fun p9 =>
 .thn p9.2 (sG p7.1 true (sLref p2.1 p9.2) p9.2) fun p10 =>
 .thn p10.2 (sG p7.1 true (sField (some 4) 3 p2.1 p10.2) p10.2) fun p11 =>
 .thn p11.2 (sG p7.1 true (sEq false (.fields [(0, .int), (1, .int), (2, .int), (3, .int)]) p9.1 p11.1 p11.2) p11.2) fun p12 =>
 .thn p12.2 (sPick p7.1 p12.1 (.bool false) p12.2) fun p13 =>
 .thn p13.2 (sG p13.1 true (sLref p1.1 p13.2) p13.2) fun p14 =>
 .thn p14.2 (sG p13.1 true (sField none 2 p1.1 p14.2) p14.2) fun p15 =>
 .thn p15.2 (sG p13.1 true (sLref p2.1 p15.2) p15.2) fun p16 =>
 .thn p16.2 (sG p13.1 true (sField none 2 p2.1 p16.2) p16.2) fun p17 =>
 .thn p17.2 (sG p13.1 true (K.go (.call n_slices_Equal_irInstr [p15.1, p17.1]) p17.2) p17.2) fun p18 =>
 .thn p18.2 (sPick p13.1 p18.1 (.bool false) p18.2) fun p19 =>
 .thn p19.2 (sG p19.1 true (sLref p1.1 p19.2) p19.2) fun p20 =>
 .thn p20.2 (sG p19.1 true (sField none 1 p1.1 p20.2) p20.2) fun p21 =>
 .thn p21.2 (sG p19.1 true (sLref p2.1 p21.2) p21.2) fun p22 =>
 .thn p22.2 (sG p19.1 true (sField none 1 p2.1 p22.2) p22.2) fun p23 =>
 .thn p23.2 (sG p19.1 true (K.go (.call n_slices_EqualFunc_irPhi [p21.1, p23.1, (.func (.func n_ir_Phi_same) #[] #[])]) p23.2) p23.2) fun p24 =>
 .thn p24.2 (sPick p19.1 p24.1 (.bool false) p24.2) fun p25 =>
 .ok (p25.1, p25.2)) := by kernel_rfl
theorem ir_Same_1_of : Of2 n_ir_Same_1 ir_Same_1_c := fun hF => call_of hF ir_Same_1_is rfl
open C in
def slices_Equal_irInstr_c : AFun := ⟨26, [.tmp 4],
 (s (.ops [o 4 (.mv (c (.bool false)))])
 (s (s (.ops [o 6 (.mv (t 0)), o 7 (.len .slice (t 6)), o 8 (.mv (t 1)), o 9 (.len .slice (t 8)), o 10 (.bin .neq (t 7) (t 9))])
 (.cond (t 10) (s (.ops [o 4 (.mv (c (.bool false)))])
 .ret) .skip))
 (s (.keep [0, 1])
 (s (s (.ops [o 11 (.mv (t 0)), o 12 (.len .slice (t 11)), o 13 (.mv (c (i 0)))])
 (.block 0 (s (.keep [0, 1, 12, 13])
 (.loop (s (s (.ops [o 14 (.bin .lss (t 13) (t 12))])
 (s (.cond (t 14) .skip (.exit 0))
 (s (.keep [0, 1, 12, 13])
 (s (.block 1 (s (.ops [o 15 (.mv (t 13)), o 5 (.mv (t 15))])
 (s (.draw [d 0 0 false (o 16 (.mv (t 0))), d 1 0 false (o 17 (.mv (t 5))), d 2 0 false (o 18 (.ixA 7 none (t 16) (t 17))), d 3 0 false (o 19 (.load (some 7) (t 18))), d 4 0 false (o 20 (.mv (t 1))), d 5 0 false (o 21 (.mv (t 5))), d 6 0 false (o 22 (.ixA 7 none (t 20) (t 21))), d 7 0 false (o 23 (.load (some 7) (t 22))), d 8 0 false (o 24 (.eq true (.fields [(0, .int), (1, .int), (2, .int), (3, .int), (4, .int), (5, .int), (6, .int)]) (t 19) (t 23)))])
 (.cond (t 24) (s (.ops [o 4 (.mv (c (.bool false)))])
 .ret) .skip))))
 (s (.keep [0, 1, 12, 13])
 (.ops [o 25 (.bin .add (t 13) (c (i 1))), o 13 (.mv (t 25))]))))))
 (.keep [0, 1, 12, 13]))))))
 (s (.keep [])
 (s (.ops [o 4 (.mv (c (.bool true)))])
 .ret))))))⟩
theorem slices_Equal_irInstr_is : pgF n_slices_Equal_irInstr = some slices_Equal_irInstr_c := by kernel_rfl
def slices_Equal_irInstr_j0 (J : JT (Value × St)) (v0 v1 : Value) (st : St) := goX J slices_Equal_irInstr_c.body [1, 1, 1] (envT [(0, v0), (1, v1)]) st
def slices_Equal_irInstr_l0 (J : JT (Value × St)) (v0 v1 v12 v13 : Value) (st : St) := lpX J slices_Equal_irInstr_c.body [1, 1, 1, 0, 1, 0, 1] (envT [(0, v0), (1, v1), (12, v12), (13, v13)]) st
def slices_Equal_irInstr_j1 (J : JT (Value × St)) (v0 v1 v12 v13 : Value) (st : St) := goX J slices_Equal_irInstr_c.body [1, 1, 1, 0, 1, 0, 1, 0, 0, 1, 1, 1] (envT [(0, v0), (1, v1), (12, v12), (13, v13)]) st
def slices_Equal_irInstr_j2 (J : JT (Value × St)) (st : St) := goX J slices_Equal_irInstr_c.body [1, 1, 1, 1, 1] (envT []) st
def slices_Equal_irInstr_j3 (J : JT (Value × St)) (v0 v1 v12 v13 : Value) (st : St) := goX J slices_Equal_irInstr_c.body [1, 1, 1, 0, 1, 0, 1, 0, 0, 1, 1, 1, 1, 1] (envT [(0, v0), (1, v1), (12, v12), (13, v13)]) st
theorem slices_Equal_irInstr_eq (K : Ctx) (J : JT (Value × St)) (a0 a1 : Value) (st : St) : atX K J slices_Equal_irInstr_c (AM.start [a0, a1]) st =
 (.thn st (sLen .slice a0 st) fun p1 =>
 .thn p1.2 (sLen .slice a1 p1.2) fun p2 =>
 .thn p2.2 (sBin .neq p1.1 p2.1 p2.2) fun p3 =>
 condX p3.1
 (.ok ((.bool false), p3.2))
 (slices_Equal_irInstr_j0 J a0 a1 p3.2)) := by kernel_rfl
theorem slices_Equal_irInstr_of : Of2 n_slices_Equal_irInstr slices_Equal_irInstr_c := fun hF => call_of hF slices_Equal_irInstr_is rfl
theorem slices_Equal_irInstr_j0_eq (hJ : IsJ K (retK slices_Equal_irInstr_c.results) J) (v0 v1 : Value) (st : St) : slices_Equal_irInstr_j0 J v0 v1 st =
 (.thn st (sLen .slice v0 st) fun p1 =>
 slices_Equal_irInstr_l0 J v0 v1 p1.1 (.int .i64 0) p1.2) := gq hJ (by kernel_rfl)
theorem slices_Equal_irInstr_l0_eq (K : Ctx) (J : JT (Value × St)) (v0 v1 v12 v13 : Value) (st : St) : inX K J (retK slices_Equal_irInstr_c.results) slices_Equal_irInstr_c.body [1, 1, 1, 0, 1, 0, 1] (envT [(0, v0), (1, v1), (12, v12), (13, v13)]) st =
 (.thn st (sBin .lss v13 v12 st) fun p1 =>
 condX p1.1
 (slices_Equal_irInstr_j1 J v0 v1 v12 v13 p1.2)
 (slices_Equal_irInstr_j2 J p1.2)) := by kernel_rfl
theorem slices_Equal_irInstr_l0_of (hF : Fix pgF K) (hJ : IsJ K (retK slices_Equal_irInstr_c.results) J) {v0 v1 v12 v13 : Value} (h : Ok (inX K J (retK slices_Equal_irInstr_c.results) slices_Equal_irInstr_c.body [1, 1, 1, 0, 1, 0, 1] (envT [(0, v0), (1, v1), (12, v12), (13, v13)]) st) Q) : Ok (slices_Equal_irInstr_l0 J v0 v1 v12 v13 st) Q := loop_of hF hJ h
theorem slices_Equal_irInstr_j1_eq (hJ : IsJ K (retK slices_Equal_irInstr_c.results) J) (v0 v1 v12 v13 : Value) (st : St) : slices_Equal_irInstr_j1 J v0 v1 v12 v13 st =
 (.thn st (sIxA 7 none v0 v13 st) fun p1 =>
 .thn p1.2 (sLoad (some 7) p1.1 p1.2) fun p2 =>
 .thn p2.2 (sIxA 7 none v1 v13 p2.2) fun p3 =>
 .thn p3.2 (sLoad (some 7) p3.1 p3.2) fun p4 =>
 .thn p4.2 (sEq true (.fields [(0, .int), (1, .int), (2, .int), (3, .int), (4, .int), (5, .int), (6, .int)]) p2.1 p4.1 p4.2) fun p5 =>
 condX p5.1
 (.ok ((.bool false), p5.2))
 (slices_Equal_irInstr_j3 J v0 v1 v12 v13 p5.2)) := gq hJ (by kernel_rfl)
theorem slices_Equal_irInstr_j2_eq (hJ : IsJ K (retK slices_Equal_irInstr_c.results) J) (st : St) : slices_Equal_irInstr_j2 J st =
 (.ok ((.bool true), st)) := gq hJ (by kernel_rfl)
theorem slices_Equal_irInstr_j3_eq (hJ : IsJ K (retK slices_Equal_irInstr_c.results) J) (v0 v1 v12 v13 : Value) (st : St) : slices_Equal_irInstr_j3 J v0 v1 v12 v13 st =
 (.thn st (sBin .add v13 (.int .i64 1) st) fun p1 =>
 slices_Equal_irInstr_l0 J v0 v1 v12 p1.1 p1.2) := gq hJ (by kernel_rfl)
open C in
def slices_EqualFunc_irPhi_c : AFun := ⟨3, [.tmp 6],
 (s (.ops [o 6 (.mv (c (.bool false)))])
 (s (s (.ops [o 10 (.mv (t 0)), o 11 (.len .slice (t 10)), o 12 (.mv (t 1)), o 13 (.len .slice (t 12)), o 14 (.bin .neq (t 11) (t 13))])
 (.cond (t 14) (s (.ops [o 6 (.mv (c (.bool false)))])
 .ret) .skip))
 (s (.keep [0, 1, 2])
 (s (s (.ops [o 15 (.mv (t 0)), o 16 (.len .slice (t 15)), o 17 (.mv (c (i 0)))])
 (.block 0 (s (.keep [1, 2, 15, 16, 17])
 (.loop (s (s (.ops [o 18 (.bin .lss (t 17) (t 16))])
 (s (.cond (t 18) .skip (.exit 0))
 (s (.keep [1, 2, 15, 16, 17])
 (s (.block 1 (s (.ops [o 19 (.mv (t 17)), o 20 (.ixA 3 none (t 15) (t 17)), o 21 (.load (some 3) (t 20)), o 8 (.lnew [(i 0), (.slice none 0 0), (.slice none 0 0)]), o 7 (.mv (t 19)), o 8 (.upd 3 0 (t 8) (t 21))])
 (s (.ops [o 22 (.mv (t 1)), o 23 (.mv (t 7)), o 24 (.ixA 3 none (t 22) (t 23)), o 25 (.load (some 3) (t 24)), o 9 (.lnew [(i 0), (.slice none 0 0), (.slice none 0 0)]), o 9 (.upd 3 0 (t 9) (t 25))])
 (s (.ops [o 26 (.mv (t 2)), o 27 (.field (some 3) 0 (t 8)), o 28 (.field (some 3) 0 (t 9)), o 29 (.call (t 26) [(t 27), (t 28)]), o 30 (.un .not (t 29))])
 (.cond (t 30) (s (.ops [o 6 (.mv (c (.bool false)))])
 .ret) .skip)))))
 (s (.keep [1, 2, 15, 16, 17])
 (.ops [o 31 (.bin .add (t 17) (c (i 1))), o 17 (.mv (t 31))]))))))
 (.keep [1, 2, 15, 16, 17]))))))
 (s (.keep [])
 (s (.ops [o 6 (.mv (c (.bool true)))])
 .ret))))))⟩
theorem slices_EqualFunc_irPhi_is : pgF n_slices_EqualFunc_irPhi = some slices_EqualFunc_irPhi_c := by kernel_rfl
def slices_EqualFunc_irPhi_j0 (J : JT (Value × St)) (v0 v1 v2 : Value) (st : St) := goX J slices_EqualFunc_irPhi_c.body [1, 1, 1] (envT [(0, v0), (1, v1), (2, v2)]) st
def slices_EqualFunc_irPhi_l0 (J : JT (Value × St)) (v1 v2 v15 v16 v17 : Value) (st : St) := lpX J slices_EqualFunc_irPhi_c.body [1, 1, 1, 0, 1, 0, 1] (envT [(1, v1), (2, v2), (15, v15), (16, v16), (17, v17)]) st
def slices_EqualFunc_irPhi_j1 (J : JT (Value × St)) (v1 v2 v15 v16 v17 : Value) (st : St) := goX J slices_EqualFunc_irPhi_c.body [1, 1, 1, 0, 1, 0, 1, 0, 0, 1, 1, 1] (envT [(1, v1), (2, v2), (15, v15), (16, v16), (17, v17)]) st
def slices_EqualFunc_irPhi_j2 (J : JT (Value × St)) (st : St) := goX J slices_EqualFunc_irPhi_c.body [1, 1, 1, 1, 1] (envT []) st
def slices_EqualFunc_irPhi_j3 (J : JT (Value × St)) (v1 v2 v15 v16 v17 : Value) (st : St) := goX J slices_EqualFunc_irPhi_c.body [1, 1, 1, 0, 1, 0, 1, 0, 0, 1, 1, 1, 1, 1] (envT [(1, v1), (2, v2), (15, v15), (16, v16), (17, v17)]) st
theorem slices_EqualFunc_irPhi_eq (K : Ctx) (J : JT (Value × St)) (a0 a1 a2 : Value) (st : St) : atX K J slices_EqualFunc_irPhi_c (AM.start [a0, a1, a2]) st =
 (.thn st (sLen .slice a0 st) fun p1 =>
 .thn p1.2 (sLen .slice a1 p1.2) fun p2 =>
 .thn p2.2 (sBin .neq p1.1 p2.1 p2.2) fun p3 =>
 condX p3.1
 (.ok ((.bool false), p3.2))
 (slices_EqualFunc_irPhi_j0 J a0 a1 a2 p3.2)) := by kernel_rfl
theorem slices_EqualFunc_irPhi_of : Of3 n_slices_EqualFunc_irPhi slices_EqualFunc_irPhi_c := fun hF => call_of hF slices_EqualFunc_irPhi_is rfl
theorem slices_EqualFunc_irPhi_j0_eq (hJ : IsJ K (retK slices_EqualFunc_irPhi_c.results) J) (v0 v1 v2 : Value) (st : St) : slices_EqualFunc_irPhi_j0 J v0 v1 v2 st =
 (.thn st (sLen .slice v0 st) fun p1 =>
 slices_EqualFunc_irPhi_l0 J v1 v2 v0 p1.1 (.int .i64 0) p1.2) := gq hJ (by kernel_rfl)
theorem slices_EqualFunc_irPhi_l0_eq (K : Ctx) (J : JT (Value × St)) (v1 v2 v15 v16 v17 : Value) (st : St) : inX K J (retK slices_EqualFunc_irPhi_c.results) slices_EqualFunc_irPhi_c.body [1, 1, 1, 0, 1, 0, 1] (envT [(1, v1), (2, v2), (15, v15), (16, v16), (17, v17)]) st =
 (.thn st (sBin .lss v17 v16 st) fun p1 =>
 condX p1.1
 (slices_EqualFunc_irPhi_j1 J v1 v2 v15 v16 v17 p1.2)
 (slices_EqualFunc_irPhi_j2 J p1.2)) := by kernel_rfl
theorem slices_EqualFunc_irPhi_l0_of (hF : Fix pgF K) (hJ : IsJ K (retK slices_EqualFunc_irPhi_c.results) J) {v1 v2 v15 v16 v17 : Value} (h : Ok (inX K J (retK slices_EqualFunc_irPhi_c.results) slices_EqualFunc_irPhi_c.body [1, 1, 1, 0, 1, 0, 1] (envT [(1, v1), (2, v2), (15, v15), (16, v16), (17, v17)]) st) Q) : Ok (slices_EqualFunc_irPhi_l0 J v1 v2 v15 v16 v17 st) Q := loop_of hF hJ h
theorem slices_EqualFunc_irPhi_j1_eq (hJ : IsJ K (retK slices_EqualFunc_irPhi_c.results) J) (v1 v2 v15 v16 v17 : Value) (st : St) : slices_EqualFunc_irPhi_j1 J v1 v2 v15 v16 v17 st =
 (.thn st (sIxA 3 none v15 v17 st) fun p1 =>
 .thn p1.2 (sLoad (some 3) p1.1 p1.2) fun p2 =>
 .thn p2.2 (sLnew [(.int .i64 0), (.slice none 0 0), (.slice none 0 0)] p2.2) fun p3 =>
 .thn p3.2 (sUpd 3 0 p3.1 p2.1 p3.2) fun p4 =>
 .thn p4.2 (sIxA 3 none v1 v17 p4.2) fun p5 =>
 .thn p5.2 (sLoad (some 3) p5.1 p5.2) fun p6 =>
 .thn p6.2 (sLnew [(.int .i64 0), (.slice none 0 0), (.slice none 0 0)] p6.2) fun p7 =>
 .thn p7.2 (sUpd 3 0 p7.1 p6.1 p7.2) fun p8 =>
 .thn p8.2 (sField (some 3) 0 p4.1 p8.2) fun p9 =>
 .thn p9.2 (sField (some 3) 0 p8.1 p9.2) fun p10 =>
 .thn p10.2 (sCall K v2 [p9.1, p10.1] p10.2) fun p11 =>
 .thn p11.2 (sUn .not p11.1 p11.2) fun p12 =>
 condX p12.1
 (.ok ((.bool false), p12.2))
 (slices_EqualFunc_irPhi_j3 J v1 v2 v15 v16 v17 p12.2)) := gq hJ (by kernel_rfl)
theorem slices_EqualFunc_irPhi_j2_eq (hJ : IsJ K (retK slices_EqualFunc_irPhi_c.results) J) (st : St) : slices_EqualFunc_irPhi_j2 J st =
 (.ok ((.bool true), st)) := gq hJ (by kernel_rfl)
theorem slices_EqualFunc_irPhi_j3_eq (hJ : IsJ K (retK slices_EqualFunc_irPhi_c.results) J) (v1 v2 v15 v16 v17 : Value) (st : St) : slices_EqualFunc_irPhi_j3 J v1 v2 v15 v16 v17 st =
 (.thn st (sBin .add v17 (.int .i64 1) st) fun p1 =>
 slices_EqualFunc_irPhi_l0 J v1 v2 v15 v16 p1.1 p1.2) := gq hJ (by kernel_rfl)
open C in
def ir_Phi_same_c : AFun := ⟨2, [.tmp 4],
 (s (.ops [o 2 (.lbox (t 0)), o 3 (.lbox (t 1)), o 4 (.mv (c (.bool false)))])
 (s (.ops [o 5 (.lref (t 2)), o 6 (.field none 0 (t 2)), o 7 (.lref (t 3)), o 8 (.field none 0 (t 3)), o 9 (.bin .eql (t 6) (t 8)), o 10 (.mv (t 9)), g 11 true 10 (.lref (t 2)), g 12 true 10 (.field none 1 (t 2)), g 13 true 10 (.lref (t 3)), g 14 true 10 (.field none 1 (t 3)), g 15 true 10 (.call (f 48) [(t 12), (t 14)]), o 16 (.pick (t 10) (t 15) (c (.bool false))), o 17 (.mv (t 16)), g 18 true 17 (.lref (t 2)), g 19 true 17 (.field none 2 (t 2)), g 20 true 17 (.lref (t 3)), g 21 true 17 (.field none 2 (t 3)), g 22 true 17 (.call (f 48) [(t 19), (t 21)]), o 23 (.pick (t 17) (t 22) (c (.bool false))), o 4 (.mv (t 23))])
 .ret))⟩
theorem ir_Phi_same_is : pgF n_ir_Phi_same = some ir_Phi_same_c := by kernel_rfl
theorem ir_Phi_same_eq (K : Ctx) (J : JT (Value × St)) (a0 a1 : Value) (st : St) : atX K J ir_Phi_same_c (AM.start [a0, a1]) st =
 (.thn st (sLbox a0 st) fun p1 =>
 .thn p1.2 (sLbox a1 p1.2) fun p2 =>
 .thn p2.2 (sLref p1.1 p2.2) fun p3 =>
 .thn p3.2 (sField none 0 p1.1 p3.2) fun p4 =>
 .thn p4.2 (sLref p2.1 p4.2) fun p5 =>
 .thn p5.2 (sField none 0 p2.1 p5.2) fun p6 =>
 .thn p6.2 (sBin .eql p4.1 p6.1 p6.2) fun p7 =>
 .thn p7.2 (sG p7.1 true (sLref p1.1 p7.2) p7.2) fun p8 =>
 .thn p8.2 (sG p7.1 true (sField none 1 p1.1 p8.2) p8.2) fun p9 =>
 .thn p9.2 (sG p7.1 true (sLref p2.1 p9.2) p9.2) fun p10 =>
 .thn p10.2 (sG p7.1 true (sField none 1 p2.1 p10.2) p10.2) fun p11 =>
 .thn p11.2 (sG p7.1 true (K.go (.call n_slices_Equal_int [p9.1, p11.1]) p11.2) p11.2) fun p12 =>
 .thn p12.2 (sPick p7.1 p12.1 (.bool false) p12.2) fun p13 =>
 .thn p13.2 (sG p13.1 true (sLref p1.1 p13.2) p13.2) fun p14 =>
 .thn p14.2 (sG p13.1 true (sField none 2 p1.1 p14.2) p14.2) fun p15 =>
 .thn p15.2 (sG p13.1 true (sLref p2.1 p15.2) p15.2) fun p16 =>
 .thn p16.2 (sG p13.1 true (sField none 2 p2.1 p16.2) p16.2) fun p17 =>
 .thn p17.2 (sG p13.1 true (K.go (.call n_slices_Equal_int [p15.1, p17.1]) p17.2) p17.2) fun p18 =>
 .thn p18.2 (sPick p13.1 p18.1 (.bool false) p18.2) fun p19 =>
 .ok (p19.1, p19.2)) := by kernel_rfl
theorem ir_Phi_same_of : Of2 n_ir_Phi_same ir_Phi_same_c := fun hF => call_of hF ir_Phi_same_is rfl
open C in
def ir_Instr_Only_c : AFun := ⟨1, [.part 2 (some 7)],
 (s (.ops [o 1 (.lbox (t 0)), o 2 (.lnew [(u 0), (u 0), (i 0), (i 0), (i 0), (i 0), (i 0)])])
 (s (.ops [o 5 (.lref (t 1)), o 6 (.field none 0 (t 1)), o 7 (.build [(u 0), (u 0), (i 0), (i 0), (i 0), (i 0), (i 0)] [(0, 1, (t 6))]), o 3 (.lnew [(u 0), (u 0), (i 0), (i 0), (i 0), (i 0), (i 0)]), o 3 (.upd 7 0 (t 3) (t 7))])
 (s (.ops [o 9 (.field (some 7) 0 (t 1)), o 10 (.call (f 49) [(t 9)]), o 8 (.mv (t 10)), o 11 (.extract (t 8) 0), o 12 (.extract (t 8) 1), o 13 (.lref (t 3)), o 3 (.upd 1 2 (t 3) (t 11))])
 (s (s (.ops [o 14 (.field (some 7) 0 (t 1)), o 15 (.call (f 50) [(t 14)]), o 4 (.mv (t 15))])
 (s (.ops [o 16 (.mv (t 4)), o 17 (.len .slice (t 16))])
 (.block 0 (s (.ops [o 19 (.bin .eql (t 17) (c (i 1))), o 18 (.mv (t 19))])
 (.cond (t 18) (.ops [o 20 (.mv (t 4)), o 21 (.ixA 1 none (t 20) (c (i 0))), o 22 (.load none (t 21)), o 23 (.lref (t 3)), o 3 (.upd 1 3 (t 3) (t 22))]) (s (.ops [o 25 (.bin .eql (t 17) (c (i 2))), o 24 (.mv (t 25))])
 (.cond (t 24) (.draw [d 0 0 false (o 26 (.mv (t 4))), d 1 0 false (o 27 (.ixA 1 none (t 26) (c (i 0)))), d 2 0 false (o 28 (.load none (t 27))), d 6 0 false (o 32 (.lref (t 3))), d 7 0 true (o 3 (.upd 1 3 (t 3) (t 28))), d 3 0 false (o 29 (.mv (t 4))), d 4 0 false (o 30 (.ixA 1 none (t 29) (c (i 1)))), d 5 1 false (o 31 (.load none (t 30))), d 8 0 false (o 33 (.lref (t 3))), d 9 0 true (o 3 (.upd 1 4 (t 3) (t 31)))]) .skip)))))))
 (s (.keep [1, 2, 3])
 (s (s (.ops [o 34 (.lref (t 1)), o 35 (.field none 0 (t 1))])
 (.block 1 (s (.ops [o 37 (.bin .eql (t 35) (c (u 0))), o 36 (.mv (t 37))])
 (.cond (t 36) (.ops [o 38 (.lref (t 1)), o 39 (.field none 5 (t 1)), o 40 (.lref (t 3)), o 3 (.upd 1 5 (t 3) (t 39))]) (s (.ops [o 42 (.bin .eql (t 35) (c (u 2))), o 41 (.mv (t 42))])
 (.cond (t 41) (.ops [o 43 (.lref (t 1)), o 44 (.field none 1 (t 1)), o 45 (.lref (t 3)), o 3 (.upd 1 1 (t 3) (t 44))]) (s (s (.ops [o 47 (.bin .eql (t 35) (c (u 5))), o 46 (.mv (t 47))])
 (.cond (t 46) .skip (.ops [o 48 (.bin .eql (t 35) (c (u 6))), o 46 (.mv (t 48))])))
 (s (.keep [1, 2, 3, 46])
 (.cond (t 46) (.ops [o 49 (.lref (t 1)), o 50 (.field none 6 (t 1)), o 51 (.lref (t 3)), o 3 (.upd 1 6 (t 3) (t 50))]) .skip)))))))))
 (s (.keep [2, 3])
 (s (.ops [o 52 (.field (some 7) 0 (t 3)), o 2 (.upd 7 0 (t 2) (t 52))])
 .ret))))))))⟩
theorem ir_Instr_Only_is : pgF n_ir_Instr_Only = some ir_Instr_Only_c := by kernel_rfl
def ir_Instr_Only_j0 (J : JT (Value × St)) (v1 v2 v3 : Value) (st : St) := goX J ir_Instr_Only_c.body [1, 1, 1, 1, 1] (envT [(1, v1), (2, v2), (3, v3)]) st
def ir_Instr_Only_j1 (J : JT (Value × St)) (v2 v3 : Value) (st : St) := goX J ir_Instr_Only_c.body [1, 1, 1, 1, 1, 1, 1] (envT [(2, v2), (3, v3)]) st
def ir_Instr_Only_j2 (J : JT (Value × St)) (v1 v2 v3 v46 : Value) (st : St) := goX J ir_Instr_Only_c.body [1, 1, 1, 1, 1, 0, 1, 0, 1, 1, 1, 1, 1, 1] (envT [(1, v1), (2, v2), (3, v3), (46, v46)]) st
theorem ir_Instr_Only_eq (K : Ctx) (J : JT (Value × St)) (a0 : Value) (st : St) : atX K J ir_Instr_Only_c (AM.start [a0]) st =
 (.thn st (sLbox a0 st) fun p1 =>
 .thn p1.2 (sLnew [(.int .u8 0), (.int .u8 0), (.int .i64 0), (.int .i64 0), (.int .i64 0), (.int .i64 0), (.int .i64 0)] p1.2) fun p2 =>
 .thn p2.2 (sLref p1.1 p2.2) fun p3 =>
 .thn p3.2 (sField none 0 p1.1 p3.2) fun p4 =>
 .thn p4.2 (sBuild [(.int .u8 0), (.int .u8 0), (.int .i64 0), (.int .i64 0), (.int .i64 0), (.int .i64 0), (.int .i64 0)] [(0, 1, p4.1)] p4.2) fun p5 =>
 .thn p5.2 (sLnew [(.int .u8 0), (.int .u8 0), (.int .i64 0), (.int .i64 0), (.int .i64 0), (.int .i64 0), (.int .i64 0)] p5.2) fun p6 =>
 .thn p6.2 (sUpd 7 0 p6.1 p5.1 p6.2) fun p7 =>
 .thn p7.2 (sField (some 7) 0 p1.1 p7.2) fun p8 =>
 .thn p8.2 (K.go (.call n_ir_Instr_Sets [p8.1]) p8.2) fun p9 =>
 .thn p9.2 (sExtract p9.1 0 p9.2) fun p10 =>
 .thn p10.2 (sExtract p9.1 1 p10.2) fun p11 =>
 .thn p11.2 (sLref p7.1 p11.2) fun p12 =>
 .thn p12.2 (sUpd 1 2 p7.1 p10.1 p12.2) fun p13 =>
 .thn p13.2 (sField (some 7) 0 p1.1 p13.2) fun p14 =>
 .thn p14.2 (K.go (.call n_ir_Instr_Reads [p14.1]) p14.2) fun p15 =>
 .thn p15.2 (sLen .slice p15.1 p15.2) fun p16 =>
 .thn p16.2 (sBin .eql p16.1 (.int .i64 1) p16.2) fun p17 =>
 condX p17.1
 (.thn p17.2 (sIxA 1 none p15.1 (.int .i64 0) p17.2) fun p18 =>
 .thn p18.2 (sLoad none p18.1 p18.2) fun p19 =>
 .thn p19.2 (sLref p13.1 p19.2) fun p20 =>
 .thn p20.2 (sUpd 1 3 p13.1 p19.1 p20.2) fun p21 =>
 ir_Instr_Only_j0 J p1.1 p2.1 p21.1 p21.2)
 (.thn p17.2 (sBin .eql p16.1 (.int .i64 2) p17.2) fun p22 =>
 condX p22.1
 (.thn p22.2 (sIxA 1 none p15.1 (.int .i64 0) p22.2) fun p23 =>
 .thn p23.2 (sLoad none p23.1 p23.2) fun p24 =>
 .thn p24.2 (sLref p13.1 p24.2) fun p25 =>
 .thn p25.2 (sUpd 1 3 p13.1 p24.1 p25.2) fun p26 =>
 .thn p26.2 (sIxA 1 none p15.1 (.int .i64 1) p26.2) fun p27 =>
 .thn p27.2 (sLoad none p27.1 p27.2) fun p28 =>
 Res.need (sStays (List.take 1 (p25.2 :: [])) p26.2.next p27.1 (fun s => sLoad none p27.1 s) p28.1) "order" >>= fun _ =>
 .thn p28.2 (sLref p26.1 p28.2) fun p29 =>
 .thn p29.2 (sUpd 1 4 p26.1 p28.1 p29.2) fun p30 =>
 ir_Instr_Only_j0 J p1.1 p2.1 p30.1 p30.2)
 (ir_Instr_Only_j0 J p1.1 p2.1 p13.1 p22.2))) := by kernel_rfl
theorem ir_Instr_Only_of : Of1 n_ir_Instr_Only ir_Instr_Only_c := fun hF => call_of hF ir_Instr_Only_is rfl
theorem ir_Instr_Only_j0_eq (hJ : IsJ K (retK ir_Instr_Only_c.results) J) (v1 v2 v3 : Value) (st : St) : ir_Instr_Only_j0 J v1 v2 v3 st =
 (.thn st (sLref v1 st) fun p1 =>
 .thn p1.2 (sField none 0 v1 p1.2) fun p2 =>
 .thn p2.2 (sBin .eql p2.1 (.int .u8 0) p2.2) fun p3 =>
 condX p3.1
 (.thn p3.2 (sLref v1 p3.2) fun p4 =>
 .thn p4.2 (sField none 5 v1 p4.2) fun p5 =>
 .thn p5.2 (sLref v3 p5.2) fun p6 =>
 .thn p6.2 (sUpd 1 5 v3 p5.1 p6.2) fun p7 =>
 ir_Instr_Only_j1 J v2 p7.1 p7.2)
 (.thn p3.2 (sBin .eql p2.1 (.int .u8 2) p3.2) fun p8 =>
 condX p8.1
 (.thn p8.2 (sLref v1 p8.2) fun p9 =>
 .thn p9.2 (sField none 1 v1 p9.2) fun p10 =>
 .thn p10.2 (sLref v3 p10.2) fun p11 =>
 .thn p11.2 (sUpd 1 1 v3 p10.1 p11.2) fun p12 =>
 ir_Instr_Only_j1 J v2 p12.1 p12.2)
 (.thn p8.2 (sBin .eql p2.1 (.int .u8 5) p8.2) fun p13 =>
 condX p13.1
 (ir_Instr_Only_j2 J v1 v2 v3 p13.1 p13.2)
 (.thn p13.2 (sBin .eql p2.1 (.int .u8 6) p13.2) fun p14 =>
 ir_Instr_Only_j2 J v1 v2 v3 p14.1 p14.2)))) := gq hJ (by kernel_rfl)
theorem ir_Instr_Only_j1_eq (hJ : IsJ K (retK ir_Instr_Only_c.results) J) (v2 v3 : Value) (st : St) : ir_Instr_Only_j1 J v2 v3 st =
 (.thn st (sField (some 7) 0 v3 st) fun p1 =>
 .thn p1.2 (sUpd 7 0 v2 p1.1 p1.2) fun p2 =>
 (sField (some 7) 0 p2.1 p2.2 >>= fun p3 => .ok [p3.1]) >>= fun vs => .ok (oneOf vs, p2.2)) := gq hJ (by kernel_rfl)
theorem ir_Instr_Only_j2_eq (hJ : IsJ K (retK ir_Instr_Only_c.results) J) (v1 v2 v3 v46 : Value) (st : St) : ir_Instr_Only_j2 J v1 v2 v3 v46 st =
 (condX v46
 (.thn st (sLref v1 st) fun p1 =>
 .thn p1.2 (sField none 6 v1 p1.2) fun p2 =>
 .thn p2.2 (sLref v3 p2.2) fun p3 =>
 .thn p3.2 (sUpd 1 6 v3 p2.1 p3.2) fun p4 =>
 ir_Instr_Only_j1 J v2 p4.1 p4.2)
 (ir_Instr_Only_j1 J v2 v3 st)) := gq hJ (by kernel_rfl)
open C in
def ir_Last_Reads_c : AFun := ⟨1, [.tmp 2, .tmp 3],
 (s (.ops [o 1 (.lbox (t 0)), o 2 (.mv (c (i 0))), o 3 (.mv (c (.bool false)))])
 (s (.draw [d 0 0 false (o 4 (.lref (t 1))), d 1 0 false (o 5 (.field none 1 (t 1))), d 2 0 false (o 6 (.lref (t 1))), d 3 0 false (o 7 (.field none 0 (t 1))), d 4 0 false (o 8 (.bin .eql (t 7) (c (u 1)))), d 5 0 false (o 9 (.mv (t 8))), d 6 0 false (g 10 false 9 (.lref (t 1))), d 7 0 false (g 11 false 9 (.field none 0 (t 1))), d 8 0 false (g 12 false 9 (.bin .eql (t 11) (c (u 2)))), d 9 0 false (o 13 (.pick (t 9) (c (.bool true)) (t 12))), d 10 0 false (o 2 (.mv (t 5))), d 11 0 false (o 3 (.mv (t 13)))])
 .ret))⟩
theorem ir_Last_Reads_is : pgF n_ir_Last_Reads = some ir_Last_Reads_c := by kernel_rfl
theorem ir_Last_Reads_eq (K : Ctx) (J : JT (Value × St)) (a0 : Value) (st : St) : atX K J ir_Last_Reads_c (AM.start [a0]) st =
 (.thn st (sLbox a0 st) fun p1 =>
 .thn p1.2 (sLref p1.1 p1.2) fun p2 =>
 .thn p2.2 (sField none 1 p1.1 p2.2) fun p3 =>
 .thn p3.2 (sLref p1.1 p3.2) fun p4 =>
 .thn p4.2 (sField none 0 p1.1 p4.2) fun p5 =>
 .thn p5.2 (sBin .eql p5.1 (.int .u8 1) p5.2) fun p6 =>
 .thn p6.2 (sGo p6.1 false (sLref p1.1 p6.2) p6.2) fun p7 =>
 .thn p7.2 (sGo p6.1 false (sField none 0 p1.1 p7.2) p7.2) fun p9 =>
 .thn p9.2 (sGo p6.1 false (sBin .eql p9.1 (.int .u8 2) p9.2) p9.2) fun p11 =>
 .thn p11.2 (sPick p6.1 (.bool true) p11.1 p11.2) fun p13 =>
 .ok (.tuple #[p3.1, p13.1], p13.2)) := by kernel_rfl
theorem ir_Last_Reads_of : Of1 n_ir_Last_Reads ir_Last_Reads_c := fun hF => call_of hF ir_Last_Reads_is rfl
open C in
def ir_Program_Count_c : AFun := ⟨1, [.tmp 2],
 (s (.ops [o 1 (.lbox (t 0)), o 2 (.mv (c (i 0)))])
 (s (.ops [o 3 (.mv (c (i 0)))])
 (s (s (.ops [o 6 (.lref (t 1)), o 7 (.field none 0 (t 1)), o 8 (.len .slice (t 7)), o 9 (.mv (c (i 0)))])
 (.block 0 (s (.keep [3, 7, 8, 9])
 (.loop (s (s (.ops [o 10 (.bin .lss (t 9) (t 8))])
 (s (.cond (t 10) .skip (.exit 0))
 (s (.keep [3, 7, 8, 9])
 (s (.block 1 (s (.ops [o 11 (.ixA 7 none (t 7) (t 9)), o 12 (.load (some 7) (t 11)), o 5 (.lnew [(i 0), (.slice none 0 0), (.slice none 0 0), (u 0), (i 0), (i 0), (i 0)]), o 5 (.upd 7 0 (t 5) (t 12))])
 (.ops [o 13 (.mv (t 3)), o 14 (.lref (t 5)), o 15 (.field none 2 (t 5)), o 16 (.len .slice (t 15)), o 17 (.lref (t 5)), o 18 (.field none 1 (t 5)), o 19 (.len .slice (t 18)), o 20 (.bin .add (t 16) (t 19)), o 21 (.bin .add (t 20) (c (i 1))), o 22 (.bin .add (t 13) (t 21)), o 3 (.mv (t 22))])))
 (s (.keep [3, 7, 8, 9])
 (.ops [o 23 (.bin .add (t 9) (c (i 1))), o 9 (.mv (t 23))]))))))
 (.keep [3, 7, 8, 9]))))))
 (s (.keep [3])
 (s (.ops [o 24 (.mv (t 3)), o 2 (.mv (t 24))])
 .ret)))))⟩
theorem ir_Program_Count_is : pgF n_ir_Program_Count = some ir_Program_Count_c := by kernel_rfl
def ir_Program_Count_l0 (J : JT (Value × St)) (v3 v7 v8 v9 : Value) (st : St) := lpX J ir_Program_Count_c.body [1, 1, 0, 1, 0, 1] (envT [(3, v3), (7, v7), (8, v8), (9, v9)]) st
def ir_Program_Count_j0 (J : JT (Value × St)) (v3 v7 v8 v9 : Value) (st : St) := goX J ir_Program_Count_c.body [1, 1, 0, 1, 0, 1, 0, 0, 1, 1, 1] (envT [(3, v3), (7, v7), (8, v8), (9, v9)]) st
def ir_Program_Count_j1 (J : JT (Value × St)) (v3 : Value) (st : St) := goX J ir_Program_Count_c.body [1, 1, 1, 1] (envT [(3, v3)]) st
def ir_Program_Count_j2 (J : JT (Value × St)) (v3 v7 v8 v9 : Value) (st : St) := goX J ir_Program_Count_c.body [1, 1, 0, 1, 0, 1, 0, 0, 1, 1, 1, 1, 1] (envT [(3, v3), (7, v7), (8, v8), (9, v9)]) st
theorem ir_Program_Count_eq (K : Ctx) (J : JT (Value × St)) (a0 : Value) (st : St) : atX K J ir_Program_Count_c (AM.start [a0]) st =
 (.thn st (sLbox a0 st) fun p1 =>
 .thn p1.2 (sLref p1.1 p1.2) fun p2 =>
 .thn p2.2 (sField none 0 p1.1 p2.2) fun p3 =>
 .thn p3.2 (sLen .slice p3.1 p3.2) fun p4 =>
 ir_Program_Count_l0 J (.int .i64 0) p3.1 p4.1 (.int .i64 0) p4.2) := by kernel_rfl
theorem ir_Program_Count_of : Of1 n_ir_Program_Count ir_Program_Count_c := fun hF => call_of hF ir_Program_Count_is rfl
theorem ir_Program_Count_l0_eq (K : Ctx) (J : JT (Value × St)) (v3 v7 v8 v9 : Value) (st : St) : inX K J (retK ir_Program_Count_c.results) ir_Program_Count_c.body [1, 1, 0, 1, 0, 1] (envT [(3, v3), (7, v7), (8, v8), (9, v9)]) st =
 (.thn st (sBin .lss v9 v8 st) fun p1 =>
 condX p1.1
 (ir_Program_Count_j0 J v3 v7 v8 v9 p1.2)
 (ir_Program_Count_j1 J v3 p1.2)) := by kernel_rfl
theorem ir_Program_Count_l0_of (hF : Fix pgF K) (hJ : IsJ K (retK ir_Program_Count_c.results) J) {v3 v7 v8 v9 : Value} (h : Ok (inX K J (retK ir_Program_Count_c.results) ir_Program_Count_c.body [1, 1, 0, 1, 0, 1] (envT [(3, v3), (7, v7), (8, v8), (9, v9)]) st) Q) : Ok (ir_Program_Count_l0 J v3 v7 v8 v9 st) Q := loop_of hF hJ h
theorem ir_Program_Count_j0_eq (hJ : IsJ K (retK ir_Program_Count_c.results) J) (v3 v7 v8 v9 : Value) (st : St) : ir_Program_Count_j0 J v3 v7 v8 v9 st =
 (.thn st (sIxA 7 none v7 v9 st) fun p1 =>
 .thn p1.2 (sLoad (some 7) p1.1 p1.2) fun p2 =>
 .thn p2.2 (sLnew [(.int .i64 0), (.slice none 0 0), (.slice none 0 0), (.int .u8 0), (.int .i64 0), (.int .i64 0), (.int .i64 0)] p2.2) fun p3 =>
 .thn p3.2 (sUpd 7 0 p3.1 p2.1 p3.2) fun p4 =>
 .thn p4.2 (sLref p4.1 p4.2) fun p5 =>
 .thn p5.2 (sField none 2 p4.1 p5.2) fun p6 =>
 .thn p6.2 (sLen .slice p6.1 p6.2) fun p7 =>
 .thn p7.2 (sLref p4.1 p7.2) fun p8 =>
 .thn p8.2 (sField none 1 p4.1 p8.2) fun p9 =>
 .thn p9.2 (sLen .slice p9.1 p9.2) fun p10 =>
 .thn p10.2 (sBin .add p7.1 p10.1 p10.2) fun p11 =>
 .thn p11.2 (sBin .add p11.1 (.int .i64 1) p11.2) fun p12 =>
 .thn p12.2 (sBin .add v3 p12.1 p12.2) fun p13 =>
 ir_Program_Count_j2 J p13.1 v7 v8 v9 p13.2) := gq hJ (by kernel_rfl)
theorem ir_Program_Count_j1_eq (hJ : IsJ K (retK ir_Program_Count_c.results) J) (v3 : Value) (st : St) : ir_Program_Count_j1 J v3 st =
 (.ok (v3, st)) := gq hJ (by kernel_rfl)
theorem ir_Program_Count_j2_eq (hJ : IsJ K (retK ir_Program_Count_c.results) J) (v3 v7 v8 v9 : Value) (st : St) : ir_Program_Count_j2 J v3 v7 v8 v9 st =
 (.thn st (sBin .add v9 (.int .i64 1) st) fun p1 =>
 ir_Program_Count_l0 J v3 v7 v8 p1.1 p1.2) := gq hJ (by kernel_rfl)
open C in
def ir_Phi_check_c : AFun := ⟨2, [.tmp 4],
 (s (.ops [o 2 (.lbox (t 0)), o 4 (.mv (c (i 0)))])
 (s (s (.ops [o 7 (.lref (t 2)), o 8 (.field none 1 (t 2)), o 9 (.len .slice (t 8)), o 10 (.lref (t 2)), o 11 (.field none 2 (t 2)), o 12 (.len .slice (t 11)), o 13 (.bin .neq (t 9) (t 12))])
 (.cond (t 13) (s (.ops [o 4 (.mv (c (i 5)))])
 .ret) .skip))
 (s (.keep [1, 2])
 (s (s (.ops [o 14 (.lref (t 2)), o 15 (.field none 0 (t 2)), o 16 (.call (f 51) [(t 15)]), o 17 (.un .not (t 16))])
 (.cond (t 17) (s (.ops [o 4 (.mv (c (i 2)))])
 .ret) .skip))
 (s (.keep [1, 2])
 (s (s (.ops [o 18 (.lref (t 2)), o 19 (.field none 1 (t 2)), o 20 (.len .slice (t 19)), o 21 (.mv (c (i 0)))])
 (.block 0 (s (.keep [1, 2, 19, 20, 21])
 (.loop (s (s (.ops [o 22 (.bin .lss (t 21) (t 20))])
 (s (.cond (t 22) .skip (.exit 0))
 (s (.keep [1, 2, 19, 20, 21])
 (s (.block 1 (s (.ops [o 23 (.mv (t 21)), o 24 (.ixA 1 none (t 19) (t 21)), o 25 (.load none (t 24)), o 5 (.mv (t 23)), o 6 (.mv (t 25))])
 (.block 2 (s (.ops [o 27 (.mv (t 1)), o 28 (.mv (t 6)), o 29 (.look (.cell .int) (.bool false) false (t 27) (t 28)), o 30 (.un .not (t 29)), o 26 (.mv (t 30))])
 (.cond (t 26) (s (.ops [o 4 (.mv (c (i 9)))])
 .ret) (s (.ops [o 32 (.mv (t 5)), o 33 (.bin .gtr (t 32) (c (i 0))), o 34 (.mv (t 33)), g 35 true 34 (.mv (t 6)), g 36 true 34 (.lref (t 2)), g 37 true 34 (.field none 1 (t 2)), g 38 true 34 (.mv (t 5)), g 39 true 34 (.bin .sub (t 38) (c (i 1))), g 40 true 34 (.ixA 1 none (t 37) (t 39)), g 41 true 34 (.load none (t 40)), g 42 true 34 (.bin .leq (t 35) (t 41)), o 43 (.pick (t 34) (t 42) (c (.bool false))), o 31 (.mv (t 43))])
 (.cond (t 31) (s (.ops [o 4 (.mv (c (i 8)))])
 .ret) (s (.ops [o 45 (.lref (t 2)), o 46 (.field none 2 (t 2)), o 47 (.mv (t 5)), o 48 (.ixA 1 none (t 46) (t 47)), o 49 (.load none (t 48)), o 50 (.call (f 51) [(t 49)]), o 51 (.un .not (t 50)), o 44 (.mv (t 51))])
 (.cond (t 44) (s (.ops [o 4 (.mv (c (i 2)))])
 .ret) .skip)))))))))
 (s (.keep [1, 2, 19, 20, 21])
 (.ops [o 52 (.bin .add (t 21) (c (i 1))), o 21 (.mv (t 52))]))))))
 (.keep [1, 2, 19, 20, 21]))))))
 (s (.keep [])
 (s (.ops [o 4 (.mv (c (i 0)))])
 .ret))))))))⟩
theorem ir_Phi_check_is : pgF n_ir_Phi_check = some ir_Phi_check_c := by kernel_rfl
def ir_Phi_check_j0 (J : JT (Value × St)) (v1 v2 : Value) (st : St) := goX J ir_Phi_check_c.body [1, 1, 1] (envT [(1, v1), (2, v2)]) st
def ir_Phi_check_j1 (J : JT (Value × St)) (v1 v2 : Value) (st : St) := goX J ir_Phi_check_c.body [1, 1, 1, 1, 1] (envT [(1, v1), (2, v2)]) st
def ir_Phi_check_l0 (J : JT (Value × St)) (v1 v2 v19 v20 v21 : Value) (st : St) := lpX J ir_Phi_check_c.body [1, 1, 1, 1, 1, 0, 1, 0, 1] (envT [(1, v1), (2, v2), (19, v19), (20, v20), (21, v21)]) st
def ir_Phi_check_j2 (J : JT (Value × St)) (v1 v2 v19 v20 v21 : Value) (st : St) := goX J ir_Phi_check_c.body [1, 1, 1, 1, 1, 0, 1, 0, 1, 0, 0, 1, 1, 1] (envT [(1, v1), (2, v2), (19, v19), (20, v20), (21, v21)]) st
def ir_Phi_check_j3 (J : JT (Value × St)) (st : St) := goX J ir_Phi_check_c.body [1, 1, 1, 1, 1, 1, 1] (envT []) st
def ir_Phi_check_j4 (J : JT (Value × St)) (v1 v2 v19 v20 v21 : Value) (st : St) := goX J ir_Phi_check_c.body [1, 1, 1, 1, 1, 0, 1, 0, 1, 0, 0, 1, 1, 1, 1, 1] (envT [(1, v1), (2, v2), (19, v19), (20, v20), (21, v21)]) st
theorem ir_Phi_check_eq (K : Ctx) (J : JT (Value × St)) (a0 a1 : Value) (st : St) : atX K J ir_Phi_check_c (AM.start [a0, a1]) st =
 (.thn st (sLbox a0 st) fun p1 =>
 .thn p1.2 (sLref p1.1 p1.2) fun p2 =>
 .thn p2.2 (sField none 1 p1.1 p2.2) fun p3 =>
 .thn p3.2 (sLen .slice p3.1 p3.2) fun p4 =>
 .thn p4.2 (sLref p1.1 p4.2) fun p5 =>
 .thn p5.2 (sField none 2 p1.1 p5.2) fun p6 =>
 .thn p6.2 (sLen .slice p6.1 p6.2) fun p7 =>
 .thn p7.2 (sBin .neq p4.1 p7.1 p7.2) fun p8 =>
 condX p8.1
 (.ok ((.int .i64 5), p8.2))
 (ir_Phi_check_j0 J a1 p1.1 p8.2)) := by kernel_rfl
theorem ir_Phi_check_of : Of2 n_ir_Phi_check ir_Phi_check_c := fun hF => call_of hF ir_Phi_check_is rfl
theorem ir_Phi_check_j0_eq (hJ : IsJ K (retK ir_Phi_check_c.results) J) (v1 v2 : Value) (st : St) : ir_Phi_check_j0 J v1 v2 st =
 (.thn st (sLref v2 st) fun p1 =>
 .thn p1.2 (sField none 0 v2 p1.2) fun p2 =>
 .thn p2.2 (K.go (.call n_ir_reg [p2.1]) p2.2) fun p3 =>
 .thn p3.2 (sUn .not p3.1 p3.2) fun p4 =>
 condX p4.1
 (.ok ((.int .i64 2), p4.2))
 (ir_Phi_check_j1 J v1 v2 p4.2)) := gq hJ (by kernel_rfl)
theorem ir_Phi_check_j1_eq (hJ : IsJ K (retK ir_Phi_check_c.results) J) (v1 v2 : Value) (st : St) : ir_Phi_check_j1 J v1 v2 st =
 (.thn st (sLref v2 st) fun p1 =>
 .thn p1.2 (sField none 1 v2 p1.2) fun p2 =>
 .thn p2.2 (sLen .slice p2.1 p2.2) fun p3 =>
 ir_Phi_check_l0 J v1 v2 p2.1 p3.1 (.int .i64 0) p3.2) := gq hJ (by kernel_rfl)
theorem ir_Phi_check_l0_eq (K : Ctx) (J : JT (Value × St)) (v1 v2 v19 v20 v21 : Value) (st : St) : inX K J (retK ir_Phi_check_c.results) ir_Phi_check_c.body [1, 1, 1, 1, 1, 0, 1, 0, 1] (envT [(1, v1), (2, v2), (19, v19), (20, v20), (21, v21)]) st =
 (.thn st (sBin .lss v21 v20 st) fun p1 =>
 condX p1.1
 (ir_Phi_check_j2 J v1 v2 v19 v20 v21 p1.2)
 (ir_Phi_check_j3 J p1.2)) := by kernel_rfl
theorem ir_Phi_check_l0_of (hF : Fix pgF K) (hJ : IsJ K (retK ir_Phi_check_c.results) J) {v1 v2 v19 v20 v21 : Value} (h : Ok (inX K J (retK ir_Phi_check_c.results) ir_Phi_check_c.body [1, 1, 1, 1, 1, 0, 1, 0, 1] (envT [(1, v1), (2, v2), (19, v19), (20, v20), (21, v21)]) st) Q) : Ok (ir_Phi_check_l0 J v1 v2 v19 v20 v21 st) Q := loop_of hF hJ h
theorem ir_Phi_check_j2_eq (hJ : IsJ K (retK ir_Phi_check_c.results) J) (v1 v2 v19 v20 v21 : Value) (st : St) : ir_Phi_check_j2 J v1 v2 v19 v20 v21 st =
 (.thn st (sIxA 1 none v19 v21 st) fun p1 =>
 .thn p1.2 (sLoad none p1.1 p1.2) fun p2 =>
 .thn p2.2 (sLook (.cell .int) (.bool false) false v1 p2.1 p2.2) fun p3 =>
 .thn p3.2 (sUn .not p3.1 p3.2) fun p4 =>
 condX p4.1
 (.ok ((.int .i64 9), p4.2))
 (.thn p4.2 (sBin .gtr v21 (.int .i64 0) p4.2) fun p5 =>
 .thn p5.2 (sG p5.1 true (.ok (p2.1, p5.2)) p5.2) fun p6 =>
 .thn p6.2 (sG p5.1 true (sLref v2 p6.2) p6.2) fun p7 =>
 .thn p7.2 (sG p5.1 true (sField none 1 v2 p7.2) p7.2) fun p8 =>
 .thn p8.2 (sG p5.1 true (.ok (v21, p8.2)) p8.2) fun p9 =>
 .thn p9.2 (sG p5.1 true (sBin .sub p9.1 (.int .i64 1) p9.2) p9.2) fun p10 =>
 .thn p10.2 (sG p5.1 true (sIxA 1 none p8.1 p10.1 p10.2) p10.2) fun p11 =>
 .thn p11.2 (sG p5.1 true (sLoad none p11.1 p11.2) p11.2) fun p12 =>
 .thn p12.2 (sG p5.1 true (sBin .leq p6.1 p12.1 p12.2) p12.2) fun p13 =>
 .thn p13.2 (sPick p5.1 p13.1 (.bool false) p13.2) fun p14 =>
 condX p14.1
 (.ok ((.int .i64 8), p14.2))
 (.thn p14.2 (sLref v2 p14.2) fun p15 =>
 .thn p15.2 (sField none 2 v2 p15.2) fun p16 =>
 .thn p16.2 (sIxA 1 none p16.1 v21 p16.2) fun p17 =>
 .thn p17.2 (sLoad none p17.1 p17.2) fun p18 =>
 .thn p18.2 (K.go (.call n_ir_reg [p18.1]) p18.2) fun p19 =>
 .thn p19.2 (sUn .not p19.1 p19.2) fun p20 =>
 condX p20.1
 (.ok ((.int .i64 2), p20.2))
 (ir_Phi_check_j4 J v1 v2 v19 v20 v21 p20.2)))) := gq hJ (by kernel_rfl)
theorem ir_Phi_check_j3_eq (hJ : IsJ K (retK ir_Phi_check_c.results) J) (st : St) : ir_Phi_check_j3 J st =
 (.ok ((.int .i64 0), st)) := gq hJ (by kernel_rfl)
theorem ir_Phi_check_j4_eq (hJ : IsJ K (retK ir_Phi_check_c.results) J) (v1 v2 v19 v20 v21 : Value) (st : St) : ir_Phi_check_j4 J v1 v2 v19 v20 v21 st =
 (.thn st (sBin .add v21 (.int .i64 1) st) fun p1 =>
 ir_Phi_check_l0 J v1 v2 v19 v20 p1.1 p1.2) := gq hJ (by kernel_rfl)
open C in
def ir_Instr_check_c : AFun := ⟨1, [.tmp 2],
 (s (.ops [o 1 (.lbox (t 0)), o 2 (.mv (c (i 0)))])
 (s (.block 0 (s (.ops [o 4 (.lref (t 1)), o 5 (.field none 0 (t 1)), o 6 (.bin .geq (t 5) (c (u 9))), o 7 (.mv (t 6)), g 8 false 7 (.lref (t 1)), g 9 false 7 (.field none 0 (t 1)), g 10 false 7 (.bin .eql (t 9) (c (u 2))), g 11 false 7 (.mv (t 10)), g 12 true 11 (.lref (t 1)), g 13 true 11 (.field none 1 (t 1)), g 14 true 11 (.bin .geq (t 13) (c (u 12))), g 15 false 7 (.pick (t 11) (t 14) (c (.bool false))), o 16 (.pick (t 7) (c (.bool true)) (t 15)), o 3 (.mv (t 16))])
 (.cond (t 3) (s (.ops [o 2 (.mv (c (i 6)))])
 .ret) (s (.draw [d 1 0 false (o 19 (.field (some 7) 0 (t 1))), d 2 0 true (o 20 (.call (f 34) [(t 19)])), d 0 1 false (o 18 (.field (some 7) 0 (t 1))), d 3 0 false (o 21 (.eq true (.fields [(0, .int), (1, .int), (2, .int), (3, .int), (4, .int), (5, .int), (6, .int)]) (t 18) (t 20))), d 4 0 false (o 17 (.mv (t 21)))])
 (.cond (t 17) (s (.ops [o 2 (.mv (c (i 5)))])
 .ret) (s (.ops [o 23 (.lref (t 1)), o 24 (.field none 2 (t 1)), o 25 (.call (f 51) [(t 24)]), o 26 (.un .not (t 25)), o 27 (.mv (t 26)), g 28 false 27 (.lref (t 1)), g 29 false 27 (.field none 3 (t 1)), g 30 false 27 (.call (f 51) [(t 29)]), g 31 false 27 (.un .not (t 30)), o 32 (.pick (t 27) (c (.bool true)) (t 31)), o 33 (.mv (t 32)), g 34 false 33 (.lref (t 1)), g 35 false 33 (.field none 4 (t 1)), g 36 false 33 (.call (f 51) [(t 35)]), g 37 false 33 (.un .not (t 36)), o 38 (.pick (t 33) (c (.bool true)) (t 37)), o 39 (.mv (t 38)), g 40 false 39 (.lref (t 1)), g 41 false 39 (.field none 6 (t 1)), g 42 false 39 (.bin .lss (t 41) (c (i 0))), o 43 (.pick (t 39) (c (.bool true)) (t 42)), o 44 (.mv (t 43)), g 45 false 44 (.lref (t 1)), g 46 false 44 (.field none 6 (t 1)), g 47 false 44 (.bin .geq (t 46) (c (i 16))), o 48 (.pick (t 44) (c (.bool true)) (t 47)), o 22 (.mv (t 48))])
 (.cond (t 22) (s (.ops [o 2 (.mv (c (i 2)))])
 .ret) .skip)))))))
 (s (.keep [])
 (s (.ops [o 2 (.mv (c (i 0)))])
 .ret))))⟩
theorem ir_Instr_check_is : pgF n_ir_Instr_check = some ir_Instr_check_c := by kernel_rfl
def ir_Instr_check_j0 (J : JT (Value × St)) (st : St) := goX J ir_Instr_check_c.body [1, 1, 1] (envT []) st
theorem ir_Instr_check_eq (K : Ctx) (J : JT (Value × St)) (a0 : Value) (st : St) : atX K J ir_Instr_check_c (AM.start [a0]) st =
 (.thn st (sLbox a0 st) fun p1 =>
 .thn p1.2 (sLref p1.1 p1.2) fun p2 =>
 .thn p2.2 (sField none 0 p1.1 p2.2) fun p3 =>
 .thn p3.2 (sBin .geq p3.1 (.int .u8 9) p3.2) fun p4 =>
 .thn p4.2 (sG p4.1 false (sLref p1.1 p4.2) p4.2) fun p5 =>
 .thn p5.2 (sG p4.1 false (sField none 0 p1.1 p5.2) p5.2) fun p6 =>
 .thn p6.2 (sG p4.1 false (sBin .eql p6.1 (.int .u8 2) p6.2) p6.2) fun p7 =>
 .thn p7.2 (sG p4.1 false (.ok (p7.1, p7.2)) p7.2) fun p8 =>
 .thn p8.2 (sG p8.1 true (sLref p1.1 p8.2) p8.2) fun p9 =>
 .thn p9.2 (sG p8.1 true (sField none 1 p1.1 p9.2) p9.2) fun p10 =>
 .thn p10.2 (sG p8.1 true (sBin .geq p10.1 (.int .u8 12) p10.2) p10.2) fun p11 =>
 .thn p11.2 (sG p4.1 false (sPick p8.1 p11.1 (.bool false) p11.2) p11.2) fun p12 =>
 .thn p12.2 (sPick p4.1 (.bool true) p12.1 p12.2) fun p13 =>
 condX p13.1
 (.ok ((.int .i64 6), p13.2))
 (.thn p13.2 (sField (some 7) 0 p1.1 p13.2) fun p14 =>
 .thn p14.2 (K.go (.call n_ir_Instr_Only [p14.1]) p14.2) fun p15 =>
 .thn p15.2 (sField (some 7) 0 p1.1 p15.2) fun p16 =>
 Res.need (sStays (List.take 1 (p14.2 :: [])) p15.2.next nothing (fun s => sField (some 7) 0 p1.1 s) p16.1) "order" >>= fun _ =>
 .thn p16.2 (sEq true (.fields [(0, .int), (1, .int), (2, .int), (3, .int), (4, .int), (5, .int), (6, .int)]) p16.1 p15.1 p16.2) fun p17 =>
 condX p17.1
 (.ok ((.int .i64 5), p17.2))
 (.thn p17.2 (sLref p1.1 p17.2) fun p18 =>
 .thn p18.2 (sField none 2 p1.1 p18.2) fun p19 =>
 .thn p19.2 (K.go (.call n_ir_reg [p19.1]) p19.2) fun p20 =>
 .thn p20.2 (sUn .not p20.1 p20.2) fun p21 =>
 .thn p21.2 (sG p21.1 false (sLref p1.1 p21.2) p21.2) fun p22 =>
 .thn p22.2 (sG p21.1 false (sField none 3 p1.1 p22.2) p22.2) fun p23 =>
 .thn p23.2 (sG p21.1 false (K.go (.call n_ir_reg [p23.1]) p23.2) p23.2) fun p24 =>
 .thn p24.2 (sG p21.1 false (sUn .not p24.1 p24.2) p24.2) fun p25 =>
 .thn p25.2 (sPick p21.1 (.bool true) p25.1 p25.2) fun p26 =>
 .thn p26.2 (sG p26.1 false (sLref p1.1 p26.2) p26.2) fun p27 =>
 .thn p27.2 (sG p26.1 false (sField none 4 p1.1 p27.2) p27.2) fun p28 =>
 .thn p28.2 (sG p26.1 false (K.go (.call n_ir_reg [p28.1]) p28.2) p28.2) fun p29 =>
 .thn p29.2 (sG p26.1 false (sUn .not p29.1 p29.2) p29.2) fun p30 =>
 .thn p30.2 (sPick p26.1 (.bool true) p30.1 p30.2) fun p31 =>
 .thn p31.2 (sG p31.1 false (sLref p1.1 p31.2) p31.2) fun p32 =>
 .thn p32.2 (sG p31.1 false (sField none 6 p1.1 p32.2) p32.2) fun p33 =>
 .thn p33.2 (sG p31.1 false (sBin .lss p33.1 (.int .i64 0) p33.2) p33.2) fun p34 =>
 .thn p34.2 (sPick p31.1 (.bool true) p34.1 p34.2) fun p35 =>
 .thn p35.2 (sG p35.1 false (sLref p1.1 p35.2) p35.2) fun p36 =>
 .thn p36.2 (sG p35.1 false (sField none 6 p1.1 p36.2) p36.2) fun p37 =>
 .thn p37.2 (sG p35.1 false (sBin .geq p37.1 (.int .i64 16) p37.2) p37.2) fun p38 =>
 .thn p38.2 (sPick p35.1 (.bool true) p38.1 p38.2) fun p39 =>
 condX p39.1
 (.ok ((.int .i64 2), p39.2))
 (ir_Instr_check_j0 J p39.2)))) := by kernel_rfl
theorem ir_Instr_check_of : Of1 n_ir_Instr_check ir_Instr_check_c := fun hF => call_of hF ir_Instr_check_is rfl
theorem ir_Instr_check_j0_eq (hJ : IsJ K (retK ir_Instr_check_c.results) J) (st : St) : ir_Instr_check_j0 J st =
 (.ok ((.int .i64 0), st)) := gq hJ (by kernel_rfl)
open C in
def ir_Last_check_c : AFun := ⟨2, [.tmp 4],
 (s (.ops [o 2 (.lbox (t 0)), o 4 (.mv (c (i 0)))])
 (s (.block 0 (s (.ops [o 8 (.lref (t 2)), o 9 (.field none 0 (t 2)), o 10 (.bin .geq (t 9) (c (u 4))), o 7 (.mv (t 10))])
 (.cond (t 7) (s (.ops [o 4 (.mv (c (i 6)))])
 .ret) (s (.draw [d 1 0 false (o 13 (.field (some 4) 0 (t 2))), d 2 0 true (o 14 (.call (f 18) [(t 13)])), d 0 1 false (o 12 (.field (some 4) 0 (t 2))), d 3 0 false (o 15 (.eq true (.fields [(0, .int), (1, .int), (2, .int), (3, .int)]) (t 12) (t 14))), d 4 0 false (o 11 (.mv (t 15)))])
 (.cond (t 11) (s (.ops [o 4 (.mv (c (i 5)))])
 .ret) (s (.ops [o 17 (.lref (t 2)), o 18 (.field none 1 (t 2)), o 19 (.call (f 51) [(t 18)]), o 20 (.un .not (t 19)), o 16 (.mv (t 20))])
 (.cond (t 16) (s (.ops [o 4 (.mv (c (i 2)))])
 .ret) .skip)))))))
 (s (.keep [1, 2])
 (s (s (.ops [o 21 (.field (some 4) 0 (t 2)), o 22 (.call (f 52) [(t 21)]), o 23 (.len .slice (t 22)), o 24 (.mv (c (i 0)))])
 (.block 1 (s (.keep [1, 22, 23, 24])
 (.loop (s (s (.ops [o 25 (.bin .lss (t 24) (t 23))])
 (s (.cond (t 25) .skip (.exit 1))
 (s (.keep [1, 22, 23, 24])
 (s (.block 2 (s (.ops [o 26 (.ixA 1 none (t 22) (t 24)), o 27 (.load none (t 26)), o 6 (.mv (t 27))])
 (s (.ops [o 28 (.mv (t 1)), o 29 (.mv (t 6)), o 30 (.look (.cell .int) (.bool false) false (t 28) (t 29)), o 31 (.un .not (t 30))])
 (.cond (t 31) (s (.ops [o 4 (.mv (c (i 9)))])
 .ret) .skip))))
 (s (.keep [1, 22, 23, 24])
 (.ops [o 32 (.bin .add (t 24) (c (i 1))), o 24 (.mv (t 32))]))))))
 (.keep [1, 22, 23, 24]))))))
 (s (.keep [])
 (s (.ops [o 4 (.mv (c (i 0)))])
 .ret))))))⟩
theorem ir_Last_check_is : pgF n_ir_Last_check = some ir_Last_check_c := by kernel_rfl
def ir_Last_check_j0 (J : JT (Value × St)) (v1 v2 : Value) (st : St) := goX J ir_Last_check_c.body [1, 1, 1] (envT [(1, v1), (2, v2)]) st
def ir_Last_check_l0 (J : JT (Value × St)) (v1 v22 v23 v24 : Value) (st : St) := lpX J ir_Last_check_c.body [1, 1, 1, 0, 1, 0, 1] (envT [(1, v1), (22, v22), (23, v23), (24, v24)]) st
def ir_Last_check_j1 (J : JT (Value × St)) (v1 v22 v23 v24 : Value) (st : St) := goX J ir_Last_check_c.body [1, 1, 1, 0, 1, 0, 1, 0, 0, 1, 1, 1] (envT [(1, v1), (22, v22), (23, v23), (24, v24)]) st
def ir_Last_check_j2 (J : JT (Value × St)) (st : St) := goX J ir_Last_check_c.body [1, 1, 1, 1, 1] (envT []) st
def ir_Last_check_j3 (J : JT (Value × St)) (v1 v22 v23 v24 : Value) (st : St) := goX J ir_Last_check_c.body [1, 1, 1, 0, 1, 0, 1, 0, 0, 1, 1, 1, 1, 1] (envT [(1, v1), (22, v22), (23, v23), (24, v24)]) st
theorem ir_Last_check_eq (K : Ctx) (J : JT (Value × St)) (a0 a1 : Value) (st : St) : atX K J ir_Last_check_c (AM.start [a0, a1]) st =
 (.thn st (sLbox a0 st) fun p1 =>
 .thn p1.2 (sLref p1.1 p1.2) fun p2 =>
 .thn p2.2 (sField none 0 p1.1 p2.2) fun p3 =>
 .thn p3.2 (sBin .geq p3.1 (.int .u8 4) p3.2) fun p4 =>
 condX p4.1
 (.ok ((.int .i64 6), p4.2))
 (.thn p4.2 (sField (some 4) 0 p1.1 p4.2) fun p5 =>
 .thn p5.2 (K.go (.call n_ir_Last_Only [p5.1]) p5.2) fun p6 =>
 .thn p6.2 (sField (some 4) 0 p1.1 p6.2) fun p7 =>
 Res.need (sStays (List.take 1 (p5.2 :: [])) p6.2.next nothing (fun s => sField (some 4) 0 p1.1 s) p7.1) "order" >>= fun _ =>
 .thn p7.2 (sEq true (.fields [(0, .int), (1, .int), (2, .int), (3, .int)]) p7.1 p6.1 p7.2) fun p8 =>
 condX p8.1
 (.ok ((.int .i64 5), p8.2))
 (.thn p8.2 (sLref p1.1 p8.2) fun p9 =>
 .thn p9.2 (sField none 1 p1.1 p9.2) fun p10 =>
 .thn p10.2 (K.go (.call n_ir_reg [p10.1]) p10.2) fun p11 =>
 .thn p11.2 (sUn .not p11.1 p11.2) fun p12 =>
 condX p12.1
 (.ok ((.int .i64 2), p12.2))
 (ir_Last_check_j0 J a1 p1.1 p12.2)))) := by kernel_rfl
theorem ir_Last_check_of : Of2 n_ir_Last_check ir_Last_check_c := fun hF => call_of hF ir_Last_check_is rfl
theorem ir_Last_check_j0_eq (hJ : IsJ K (retK ir_Last_check_c.results) J) (v1 v2 : Value) (st : St) : ir_Last_check_j0 J v1 v2 st =
 (.thn st (sField (some 4) 0 v2 st) fun p1 =>
 .thn p1.2 (K.go (.call n_ir_Last_Labels [p1.1]) p1.2) fun p2 =>
 .thn p2.2 (sLen .slice p2.1 p2.2) fun p3 =>
 ir_Last_check_l0 J v1 p2.1 p3.1 (.int .i64 0) p3.2) := gq hJ (by kernel_rfl)
theorem ir_Last_check_l0_eq (K : Ctx) (J : JT (Value × St)) (v1 v22 v23 v24 : Value) (st : St) : inX K J (retK ir_Last_check_c.results) ir_Last_check_c.body [1, 1, 1, 0, 1, 0, 1] (envT [(1, v1), (22, v22), (23, v23), (24, v24)]) st =
 (.thn st (sBin .lss v24 v23 st) fun p1 =>
 condX p1.1
 (ir_Last_check_j1 J v1 v22 v23 v24 p1.2)
 (ir_Last_check_j2 J p1.2)) := by kernel_rfl
theorem ir_Last_check_l0_of (hF : Fix pgF K) (hJ : IsJ K (retK ir_Last_check_c.results) J) {v1 v22 v23 v24 : Value} (h : Ok (inX K J (retK ir_Last_check_c.results) ir_Last_check_c.body [1, 1, 1, 0, 1, 0, 1] (envT [(1, v1), (22, v22), (23, v23), (24, v24)]) st) Q) : Ok (ir_Last_check_l0 J v1 v22 v23 v24 st) Q := loop_of hF hJ h
theorem ir_Last_check_j1_eq (hJ : IsJ K (retK ir_Last_check_c.results) J) (v1 v22 v23 v24 : Value) (st : St) : ir_Last_check_j1 J v1 v22 v23 v24 st =
 (.thn st (sIxA 1 none v22 v24 st) fun p1 =>
 .thn p1.2 (sLoad none p1.1 p1.2) fun p2 =>
 .thn p2.2 (sLook (.cell .int) (.bool false) false v1 p2.1 p2.2) fun p3 =>
 .thn p3.2 (sUn .not p3.1 p3.2) fun p4 =>
 condX p4.1
 (.ok ((.int .i64 9), p4.2))
 (ir_Last_check_j3 J v1 v22 v23 v24 p4.2)) := gq hJ (by kernel_rfl)
theorem ir_Last_check_j2_eq (hJ : IsJ K (retK ir_Last_check_c.results) J) (st : St) : ir_Last_check_j2 J st =
 (.ok ((.int .i64 0), st)) := gq hJ (by kernel_rfl)
theorem ir_Last_check_j3_eq (hJ : IsJ K (retK ir_Last_check_c.results) J) (v1 v22 v23 v24 : Value) (st : St) : ir_Last_check_j3 J v1 v22 v23 v24 st =
 (.thn st (sBin .add v24 (.int .i64 1) st) fun p1 =>
 ir_Last_check_l0 J v1 v22 v23 p1.1 p1.2) := gq hJ (by kernel_rfl)
open C in
def lex_Tokens_c : AFun := ⟨4, [.tmp 2],
 (s (.ops [o 1 (.box (t 0)), o 2 (.mv (c .nilFunc))])
 (s (.ops [o 3 (.fn 54 [] [(t 1)]), o 2 (.mv (t 3))])
 .ret))⟩
theorem lex_Tokens_is : pgF n_lex_Tokens = some lex_Tokens_c := by kernel_rfl
theorem lex_Tokens_eq (K : Ctx) (J : JT (Value × St)) (a0 : Value) (st : St) : atX K J lex_Tokens_c (AM.start [a0]) st =
 (.thn st (sBox a0 st) fun p1 =>
 .ok ((.func (.func n_lex_Tokens_1) #[] #[p1.1]), p1.2)) := by kernel_rfl
theorem lex_Tokens_of : Of1 n_lex_Tokens lex_Tokens_c := fun hF => call_of hF lex_Tokens_is rfl
open C in
def parse_reader_lines_c : AFun := ⟨11, [],
 (.block 0 (s (.keep [0])
 (.loop (s (s (s (.ops [o 2 (.mv (t 0)), o 3 (.call (f 45) [(t 2), (c (u 7)), (c (.string (bstr [])))])])
 (.cond (t 3) .skip (.exit 0)))
 (s (.keep [0])
 (.block 1 (.ops [o 4 (.mv (t 0)), o 5 (.nilc (t 4)), o 6 (.off 1 (t 5)), o 7 (.load none (t 6)), o 8 (.bin .add (t 7) (c (i 1))), o 9 (.nilc (t 4)), o 10 (.off 1 (t 9)), n (.store 1 (t 10) (t 8))]))))
 (.keep [0])))))⟩
theorem parse_reader_lines_is : pgF n_parse_reader_lines = some parse_reader_lines_c := by kernel_rfl
def parse_reader_lines_l0 (J : JT (Value × St)) (v0 : Value) (st : St) := lpX J parse_reader_lines_c.body [0, 1] (envT [(0, v0)]) st
def parse_reader_lines_j0 (J : JT (Value × St)) (v0 : Value) (st : St) := goX J parse_reader_lines_c.body [0, 1, 0, 0, 1, 1] (envT [(0, v0)]) st
theorem parse_reader_lines_eq (K : Ctx) (J : JT (Value × St)) (a0 : Value) (st : St) : atX K J parse_reader_lines_c (AM.start [a0]) st =
 (parse_reader_lines_l0 J a0 st) := by kernel_rfl
theorem parse_reader_lines_of : Of1 n_parse_reader_lines parse_reader_lines_c := fun hF => call_of hF parse_reader_lines_is rfl
theorem parse_reader_lines_l0_eq (K : Ctx) (J : JT (Value × St)) (v0 : Value) (st : St) : inX K J (retK parse_reader_lines_c.results) parse_reader_lines_c.body [0, 1] (envT [(0, v0)]) st =
 (.thn st (K.go (.call n_parse_reader_is [v0, (.int .u8 7), (.string (bstr []))]) st) fun p1 =>
 condX p1.1
 (parse_reader_lines_j0 J v0 p1.2)
 (.ok (.tuple #[], p1.2))) := by kernel_rfl
theorem parse_reader_lines_l0_of (hF : Fix pgF K) (hJ : IsJ K (retK parse_reader_lines_c.results) J) {v0 : Value} (h : Ok (inX K J (retK parse_reader_lines_c.results) parse_reader_lines_c.body [0, 1] (envT [(0, v0)]) st) Q) : Ok (parse_reader_lines_l0 J v0 st) Q := loop_of hF hJ h
theorem parse_reader_lines_j0_eq (hJ : IsJ K (retK parse_reader_lines_c.results) J) (v0 : Value) (st : St) : parse_reader_lines_j0 J v0 st =
 (.thn st (sNilc v0 st) fun p1 =>
 .thn p1.2 (sOff 1 p1.1 p1.2) fun p2 =>
 .thn p2.2 (sLoad none p2.1 p2.2) fun p3 =>
 .thn p3.2 (sBin .add p3.1 (.int .i64 1) p3.2) fun p4 =>
 .thn p4.2 (sNilc v0 p4.2) fun p5 =>
 .thn p5.2 (sOff 1 p5.1 p5.2) fun p6 =>
 .thn p6.2 (sStore 1 p6.1 p4.1 p6.2) fun p7 =>
 parse_reader_lines_l0 J v0 p7.2) := gq hJ (by kernel_rfl)
open C in
def parse_reader_is_c : AFun := ⟨3, [.tmp 6],
 (s (.ops [o 6 (.mv (c (.bool false)))])
 (s (.draw [d 0 0 false (o 8 (.mv (t 0))), d 1 0 false (o 9 (.nilc (t 8))), d 2 0 false (o 10 (.off 0 (t 9))), d 3 0 false (o 11 (.load none (t 10))), d 4 0 false (o 12 (.mv (t 0))), d 5 0 false (o 13 (.nilc (t 12))), d 6 0 false (o 14 (.off 1 (t 13))), d 7 0 false (o 15 (.load none (t 14))), d 8 0 false (o 16 (.ixA 4 none (t 11) (t 15))), d 9 0 false (o 17 (.load (some 4) (t 16))), d 10 0 false (o 7 (.lnew [(u 0), (i 0), (.string (bstr [])), (i 0)])), d 11 0 true (o 7 (.upd 4 0 (t 7) (t 17)))])
 (s (.ops [o 18 (.mv (t 0)), o 19 (.nilc (t 18)), o 20 (.off 3 (t 19)), o 21 (.load none (t 20)), o 22 (.bin .eql (t 21) (c (i 0))), o 23 (.mv (t 22)), g 24 true 23 (.lref (t 7)), g 25 true 23 (.field none 0 (t 7)), g 26 true 23 (.mv (t 1)), g 27 true 23 (.bin .eql (t 25) (t 26)), o 28 (.pick (t 23) (t 27) (c (.bool false))), o 29 (.mv (t 28)), g 30 true 29 (.mv (t 2)), g 31 true 29 (.bin .eql (t 30) (c (.string (bstr [])))), g 32 true 29 (.mv (t 31)), g 33 false 32 (.lref (t 7)), g 34 false 32 (.field none 2 (t 7)), g 35 false 32 (.mv (t 2)), g 36 false 32 (.bin .eql (t 34) (t 35)), g 37 true 29 (.pick (t 32) (c (.bool true)) (t 36)), o 38 (.pick (t 29) (t 37) (c (.bool false))), o 6 (.mv (t 38))])
 .ret)))⟩
theorem parse_reader_is_is : pgF n_parse_reader_is = some parse_reader_is_c := by kernel_rfl
theorem parse_reader_is_eq (K : Ctx) (J : JT (Value × St)) (a0 a1 a2 : Value) (st : St) : atX K J parse_reader_is_c (AM.start [a0, a1, a2]) st =
 (.thn st (sNilc a0 st) fun p1 =>
 .thn p1.2 (sOff 0 p1.1 p1.2) fun p2 =>
 .thn p2.2 (sLoad none p2.1 p2.2) fun p3 =>
 .thn p3.2 (sNilc a0 p3.2) fun p4 =>
 .thn p4.2 (sOff 1 p4.1 p4.2) fun p5 =>
 .thn p5.2 (sLoad none p5.1 p5.2) fun p6 =>
 .thn p6.2 (sIxA 4 none p3.1 p6.1 p6.2) fun p7 =>
 .thn p7.2 (sLoad (some 4) p7.1 p7.2) fun p8 =>
 .thn p8.2 (sLnew [(.int .u8 0), (.int .i64 0), (.string (bstr [])), (.int .i64 0)] p8.2) fun p9 =>
 .thn p9.2 (sUpd 4 0 p9.1 p8.1 p9.2) fun p10 =>
 .thn p10.2 (sNilc a0 p10.2) fun p11 =>
 .thn p11.2 (sOff 3 p11.1 p11.2) fun p12 =>
 .thn p12.2 (sLoad none p12.1 p12.2) fun p13 =>
 .thn p13.2 (sBin .eql p13.1 (.int .i64 0) p13.2) fun p14 =>
 .thn p14.2 (sG p14.1 true (sLref p10.1 p14.2) p14.2) fun p15 =>
 .thn p15.2 (sG p14.1 true (sField none 0 p10.1 p15.2) p15.2) fun p16 =>
 .thn p16.2 (sG p14.1 true (.ok (a1, p16.2)) p16.2) fun p17 =>
 .thn p17.2 (sG p14.1 true (sBin .eql p16.1 p17.1 p17.2) p17.2) fun p18 =>
 .thn p18.2 (sPick p14.1 p18.1 (.bool false) p18.2) fun p19 =>
 .thn p19.2 (sG p19.1 true (.ok (a2, p19.2)) p19.2) fun p20 =>
 .thn p20.2 (sG p19.1 true (sBin .eql p20.1 (.string (bstr [])) p20.2) p20.2) fun p21 =>
 .thn p21.2 (sG p19.1 true (.ok (p21.1, p21.2)) p21.2) fun p22 =>
 .thn p22.2 (sG p22.1 false (sLref p10.1 p22.2) p22.2) fun p23 =>
 .thn p23.2 (sG p22.1 false (sField none 2 p10.1 p23.2) p23.2) fun p24 =>
 .thn p24.2 (sG p22.1 false (.ok (a2, p24.2)) p24.2) fun p25 =>
 .thn p25.2 (sG p22.1 false (sBin .eql p24.1 p25.1 p25.2) p25.2) fun p26 =>
 .thn p26.2 (sG p19.1 true (sPick p22.1 (.bool true) p26.1 p26.2) p26.2) fun p27 =>
 .thn p27.2 (sPick p19.1 p27.1 (.bool false) p27.2) fun p28 =>
 .ok (p28.1, p28.2)) := by kernel_rfl
theorem parse_reader_is_of : Of3 n_parse_reader_is parse_reader_is_c := fun hF => call_of hF parse_reader_is_is rfl
open C in
def parse_reader_block_c : AFun := ⟨1, [.part 2 (some 7)],
 (s (.ops [o 2 (.lnew [(i 0), (.slice none 0 0), (.slice none 0 0), (u 0), (i 0), (i 0), (i 0)])])
 (s (.ops [o 6 (.mv (t 0)), o 7 (.call (f 56) [(t 6)]), o 8 (.build [(i 0), (.slice none 0 0), (.slice none 0 0), (u 0), (i 0), (i 0), (i 0)] [(0, 1, (t 7))]), o 3 (.lnew [(i 0), (.slice none 0 0), (.slice none 0 0), (u 0), (i 0), (i 0), (i 0)]), o 3 (.upd 7 0 (t 3) (t 8))])
 (s (.ops [o 9 (.mv (t 0)), o 10 (.call (f 47) [(t 9), (c (u 6)), (c (.string (bstr [58])))])])
 (s (.ops [o 11 (.mv (t 0)), o 12 (.call (f 47) [(t 11), (c (u 7)), (c (.string (bstr [])))])])
 (s (.block 0 (s (.keep [0, 2, 3])
 (.loop (s (s (s (.ops [o 13 (.mv (t 0)), o 14 (.nilc (t 13)), o 15 (.off 3 (t 14)), o 16 (.load none (t 15)), o 17 (.bin .eql (t 16) (c (i 0)))])
 (.cond (t 17) .skip (.exit 0)))
 (s (.keep [0, 2, 3])
 (.block 1 (s (.ops [o 18 (.mv (t 0)), o 19 (.call (f 44) [(t 18)])])
 (s (s (.ops [o 21 (.mv (t 0)), o 22 (.call (f 57) [(t 21)]), o 20 (.mv (t 22)), o 23 (.extract (t 20) 0), o 24 (.extract (t 20) 1), o 4 (.lnew [(u 0), (i 0), (i 0), (i 0)]), o 4 (.upd 4 0 (t 4) (t 23)), o 5 (.mv (t 24))])
 (s (.ops [o 25 (.mv (t 5))])
 (.cond (t 25) (s (.ops [o 26 (.field (some 4) 0 (t 4)), o 27 (.lref (t 3)), o 3 (.upd 4 3 (t 3) (t 26))])
 (.exit 0)) .skip)))
 (s (.keep [0, 2, 3])
 (s (.draw [d 2 0 false (o 30 (.mv (t 0))), d 3 0 true (o 31 (.call (f 58) [(t 30)])), d 0 0 false (o 28 (.lref (t 3))), d 1 1 false (o 29 (.field none 2 (t 3))), d 4 0 false (o 32 (.lit 7 1 [(u 0), (u 0), (i 0), (i 0), (i 0), (i 0), (i 0)] [(0, 7, (t 31))])), d 5 0 true (o 33 (.append 7 48 (t 29) (t 32))), d 6 0 false (o 34 (.lref (t 3))), d 7 0 true (o 3 (.upd 1 2 (t 3) (t 33)))])
 (.ops [o 35 (.mv (t 0)), o 36 (.call (f 47) [(t 35), (c (u 7)), (c (.string (bstr [])))])]))))))))
 (.keep [0, 2, 3])))))
 (s (.keep [0, 2, 3])
 (s (s (.ops [o 37 (.mv (t 0)), o 38 (.call (f 45) [(t 37), (c (u 0)), (c (.string (bstr [])))]), o 39 (.un .not (t 38))])
 (.cond (t 39) (.ops [o 40 (.mv (t 0)), o 41 (.call (f 47) [(t 40), (c (u 7)), (c (.string (bstr [])))])]) .skip))
 (s (.keep [2, 3])
 (s (.ops [o 42 (.field (some 7) 0 (t 3)), o 2 (.upd 7 0 (t 2) (t 42))])
 .ret)))))))))⟩
theorem parse_reader_block_is : pgF n_parse_reader_block = some parse_reader_block_c := by kernel_rfl
def parse_reader_block_l0 (J : JT (Value × St)) (v0 v2 v3 : Value) (st : St) := lpX J parse_reader_block_c.body [1, 1, 1, 1, 0, 0, 1] (envT [(0, v0), (2, v2), (3, v3)]) st
def parse_reader_block_j0 (J : JT (Value × St)) (v0 v2 v3 : Value) (st : St) := goX J parse_reader_block_c.body [1, 1, 1, 1, 0, 0, 1, 0, 0, 1, 1] (envT [(0, v0), (2, v2), (3, v3)]) st
def parse_reader_block_j1 (J : JT (Value × St)) (v0 v2 v3 : Value) (st : St) := goX J parse_reader_block_c.body [1, 1, 1, 1, 1, 1] (envT [(0, v0), (2, v2), (3, v3)]) st
def parse_reader_block_j2 (J : JT (Value × St)) (v0 v2 v3 : Value) (st : St) := goX J parse_reader_block_c.body [1, 1, 1, 1, 0, 0, 1, 0, 0, 1, 1, 0, 1, 1, 1] (envT [(0, v0), (2, v2), (3, v3)]) st
def parse_reader_block_j3 (J : JT (Value × St)) (v2 v3 : Value) (st : St) := goX J parse_reader_block_c.body [1, 1, 1, 1, 1, 1, 1, 1] (envT [(2, v2), (3, v3)]) st
theorem parse_reader_block_eq (K : Ctx) (J : JT (Value × St)) (a0 : Value) (st : St) : atX K J parse_reader_block_c (AM.start [a0]) st =
 (.thn st (sLnew [(.int .i64 0), (.slice none 0 0), (.slice none 0 0), (.int .u8 0), (.int .i64 0), (.int .i64 0), (.int .i64 0)] st) fun p1 =>
 .thn p1.2 (K.go (.call n_parse_reader_label [a0]) p1.2) fun p2 =>
 .thn p2.2 (sBuild [(.int .i64 0), (.slice none 0 0), (.slice none 0 0), (.int .u8 0), (.int .i64 0), (.int .i64 0), (.int .i64 0)] [(0, 1, p2.1)] p2.2) fun p3 =>
 .thn p3.2 (sLnew [(.int .i64 0), (.slice none 0 0), (.slice none 0 0), (.int .u8 0), (.int .i64 0), (.int .i64 0), (.int .i64 0)] p3.2) fun p4 =>
 .thn p4.2 (sUpd 7 0 p4.1 p3.1 p4.2) fun p5 =>
 .thn p5.2 (K.go (.call n_parse_reader_take [a0, (.int .u8 6), (.string (bstr [58]))]) p5.2) fun p6 =>
 .thn p6.2 (K.go (.call n_parse_reader_take [a0, (.int .u8 7), (.string (bstr []))]) p6.2) fun p7 =>
 parse_reader_block_l0 J a0 p1.1 p5.1 p7.2) := by kernel_rfl
theorem parse_reader_block_of : Of1 n_parse_reader_block parse_reader_block_c := fun hF => call_of hF parse_reader_block_is rfl
theorem parse_reader_block_l0_eq (K : Ctx) (J : JT (Value × St)) (v0 v2 v3 : Value) (st : St) : inX K J (retK parse_reader_block_c.results) parse_reader_block_c.body [1, 1, 1, 1, 0, 0, 1] (envT [(0, v0), (2, v2), (3, v3)]) st =
 (.thn st (sNilc v0 st) fun p1 =>
 .thn p1.2 (sOff 3 p1.1 p1.2) fun p2 =>
 .thn p2.2 (sLoad none p2.1 p2.2) fun p3 =>
 .thn p3.2 (sBin .eql p3.1 (.int .i64 0) p3.2) fun p4 =>
 condX p4.1
 (parse_reader_block_j0 J v0 v2 v3 p4.2)
 (parse_reader_block_j1 J v0 v2 v3 p4.2)) := by kernel_rfl
theorem parse_reader_block_l0_of (hF : Fix pgF K) (hJ : IsJ K (retK parse_reader_block_c.results) J) {v0 v2 v3 : Value} (h : Ok (inX K J (retK parse_reader_block_c.results) parse_reader_block_c.body [1, 1, 1, 1, 0, 0, 1] (envT [(0, v0), (2, v2), (3, v3)]) st) Q) : Ok (parse_reader_block_l0 J v0 v2 v3 st) Q := loop_of hF hJ h
theorem parse_reader_block_j0_eq (hJ : IsJ K (retK parse_reader_block_c.results) J) (v0 v2 v3 : Value) (st : St) : parse_reader_block_j0 J v0 v2 v3 st =
 (.thn st (K.go (.call n_parse_reader_lines [v0]) st) fun p1 =>
 .thn p1.2 (K.go (.call n_parse_reader_last [v0]) p1.2) fun p2 =>
 .thn p2.2 (sExtract p2.1 0 p2.2) fun p3 =>
 .thn p3.2 (sExtract p2.1 1 p3.2) fun p4 =>
 .thn p4.2 (sLnew [(.int .u8 0), (.int .i64 0), (.int .i64 0), (.int .i64 0)] p4.2) fun p5 =>
 .thn p5.2 (sUpd 4 0 p5.1 p3.1 p5.2) fun p6 =>
 condX p4.1
 (.thn p6.2 (sField (some 4) 0 p6.1 p6.2) fun p7 =>
 .thn p7.2 (sLref v3 p7.2) fun p8 =>
 .thn p8.2 (sUpd 4 3 v3 p7.1 p8.2) fun p9 =>
 parse_reader_block_j1 J v0 v2 p9.1 p9.2)
 (parse_reader_block_j2 J v0 v2 v3 p6.2)) := gq hJ (by kernel_rfl)
theorem parse_reader_block_j1_eq (hJ : IsJ K (retK parse_reader_block_c.results) J) (v0 v2 v3 : Value) (st : St) : parse_reader_block_j1 J v0 v2 v3 st =
 (.thn st (K.go (.call n_parse_reader_is [v0, (.int .u8 0), (.string (bstr []))]) st) fun p1 =>
 .thn p1.2 (sUn .not p1.1 p1.2) fun p2 =>
 condX p2.1
 (.thn p2.2 (K.go (.call n_parse_reader_take [v0, (.int .u8 7), (.string (bstr []))]) p2.2) fun p3 =>
 parse_reader_block_j3 J v2 v3 p3.2)
 (parse_reader_block_j3 J v2 v3 p2.2)) := gq hJ (by kernel_rfl)
theorem parse_reader_block_j2_eq (hJ : IsJ K (retK parse_reader_block_c.results) J) (v0 v2 v3 : Value) (st : St) : parse_reader_block_j2 J v0 v2 v3 st =
 (.thn st (K.go (.call n_parse_reader_instr [v0]) st) fun p1 =>
 .thn p1.2 (sLref v3 p1.2) fun p2 =>
 .thn p2.2 (sField none 2 v3 p2.2) fun p3 =>
 Res.need (sStays (List.take 1 (st :: [])) p1.2.next nothing (fun s => sField none 2 v3 s) p3.1) "order" >>= fun _ =>
 .thn p3.2 (sLit 7 1 [(.int .u8 0), (.int .u8 0), (.int .i64 0), (.int .i64 0), (.int .i64 0), (.int .i64 0), (.int .i64 0)] [(0, 7, p1.1)] p3.2) fun p4 =>
 .thn p4.2 (sAppend 7 48 p3.1 p4.1 p4.2) fun p5 =>
 .thn p5.2 (sLref v3 p5.2) fun p6 =>
 .thn p6.2 (sUpd 1 2 v3 p5.1 p6.2) fun p7 =>
 .thn p7.2 (K.go (.call n_parse_reader_take [v0, (.int .u8 7), (.string (bstr []))]) p7.2) fun p8 =>
 parse_reader_block_l0 J v0 v2 p7.1 p8.2) := gq hJ (by kernel_rfl)
theorem parse_reader_block_j3_eq (hJ : IsJ K (retK parse_reader_block_c.results) J) (v2 v3 : Value) (st : St) : parse_reader_block_j3 J v2 v3 st =
 (.thn st (sField (some 7) 0 v3 st) fun p1 =>
 .thn p1.2 (sUpd 7 0 v2 p1.1 p1.2) fun p2 =>
 (sField (some 7) 0 p2.1 p2.2 >>= fun p3 => .ok [p3.1]) >>= fun vs => .ok (oneOf vs, p2.2)) := gq hJ (by kernel_rfl)
open C in
def parse_reader_take_c : AFun := ⟨3, [.part 6 (some 4)],
 (s (.ops [o 6 (.lnew [(u 0), (i 0), (.string (bstr [])), (i 0)])])
 (s (.draw [d 0 0 false (o 8 (.mv (t 0))), d 1 0 false (o 9 (.nilc (t 8))), d 2 0 false (o 10 (.off 0 (t 9))), d 3 0 false (o 11 (.load none (t 10))), d 4 0 false (o 12 (.mv (t 0))), d 5 0 false (o 13 (.nilc (t 12))), d 6 0 false (o 14 (.off 1 (t 13))), d 7 0 false (o 15 (.load none (t 14))), d 8 0 false (o 16 (.ixA 4 none (t 11) (t 15))), d 9 0 false (o 17 (.load (some 4) (t 16))), d 10 0 false (o 7 (.lnew [(u 0), (i 0), (.string (bstr [])), (i 0)])), d 11 0 true (o 7 (.upd 4 0 (t 7) (t 17)))])
 (s (s (.ops [o 18 (.mv (t 0)), o 19 (.nilc (t 18)), o 20 (.off 3 (t 19)), o 21 (.load none (t 20)), o 22 (.bin .neq (t 21) (c (i 0))), o 23 (.mv (t 22)), g 24 false 23 (.lref (t 7)), g 25 false 23 (.field none 0 (t 7)), g 26 false 23 (.mv (t 1)), g 27 false 23 (.bin .neq (t 25) (t 26)), o 28 (.pick (t 23) (c (.bool true)) (t 27)), o 29 (.mv (t 28)), g 30 false 29 (.mv (t 2)), g 31 false 29 (.bin .neq (t 30) (c (.string (bstr [])))), g 32 false 29 (.mv (t 31)), g 33 true 32 (.lref (t 7)), g 34 true 32 (.field none 2 (t 7)), g 35 true 32 (.mv (t 2)), g 36 true 32 (.bin .neq (t 34) (t 35)), g 37 false 29 (.pick (t 32) (t 36) (c (.bool false))), o 38 (.pick (t 29) (c (.bool true)) (t 37))])
 (.cond (t 38) (s (.ops [o 39 (.mv (t 0)), o 40 (.call (f 59) [(t 39), (c (i 5))])])
 (s (.ops [o 41 (.build [(u 0), (i 0), (.string (bstr [])), (i 0)] []), o 6 (.upd 4 0 (t 6) (t 41))])
 .ret)) .skip))
 (s (.keep [0, 1, 6, 7])
 (s (s (.ops [o 42 (.mv (t 1)), o 43 (.bin .neq (t 42) (c (u 0)))])
 (.cond (t 43) (.ops [o 44 (.mv (t 0)), o 45 (.nilc (t 44)), o 46 (.off 1 (t 45)), o 47 (.load none (t 46)), o 48 (.bin .add (t 47) (c (i 1))), o 49 (.nilc (t 44)), o 50 (.off 1 (t 49)), n (.store 1 (t 50) (t 48))]) .skip))
 (s (.keep [6, 7])
 (s (.ops [o 51 (.field (some 4) 0 (t 7)), o 6 (.upd 4 0 (t 6) (t 51))])
 .ret)))))))⟩
theorem parse_reader_take_is : pgF n_parse_reader_take = some parse_reader_take_c := by kernel_rfl
def parse_reader_take_j0 (J : JT (Value × St)) (v0 v1 v6 v7 : Value) (st : St) := goX J parse_reader_take_c.body [1, 1, 1, 1] (envT [(0, v0), (1, v1), (6, v6), (7, v7)]) st
def parse_reader_take_j1 (J : JT (Value × St)) (v6 v7 : Value) (st : St) := goX J parse_reader_take_c.body [1, 1, 1, 1, 1, 1] (envT [(6, v6), (7, v7)]) st
theorem parse_reader_take_eq (K : Ctx) (J : JT (Value × St)) (a0 a1 a2 : Value) (st : St) : atX K J parse_reader_take_c (AM.start [a0, a1, a2]) st =
 (.thn st (sLnew [(.int .u8 0), (.int .i64 0), (.string (bstr [])), (.int .i64 0)] st) fun p1 =>
 .thn p1.2 (sNilc a0 p1.2) fun p2 =>
 .thn p2.2 (sOff 0 p2.1 p2.2) fun p3 =>
 .thn p3.2 (sLoad none p3.1 p3.2) fun p4 =>
 .thn p4.2 (sNilc a0 p4.2) fun p5 =>
 .thn p5.2 (sOff 1 p5.1 p5.2) fun p6 =>
 .thn p6.2 (sLoad none p6.1 p6.2) fun p7 =>
 .thn p7.2 (sIxA 4 none p4.1 p7.1 p7.2) fun p8 =>
 .thn p8.2 (sLoad (some 4) p8.1 p8.2) fun p9 =>
 .thn p9.2 (sLnew [(.int .u8 0), (.int .i64 0), (.string (bstr [])), (.int .i64 0)] p9.2) fun p10 =>
 .thn p10.2 (sUpd 4 0 p10.1 p9.1 p10.2) fun p11 =>
 .thn p11.2 (sNilc a0 p11.2) fun p12 =>
 .thn p12.2 (sOff 3 p12.1 p12.2) fun p13 =>
 .thn p13.2 (sLoad none p13.1 p13.2) fun p14 =>
 .thn p14.2 (sBin .neq p14.1 (.int .i64 0) p14.2) fun p15 =>
 .thn p15.2 (sG p15.1 false (sLref p11.1 p15.2) p15.2) fun p16 =>
 .thn p16.2 (sG p15.1 false (sField none 0 p11.1 p16.2) p16.2) fun p17 =>
 .thn p17.2 (sG p15.1 false (.ok (a1, p17.2)) p17.2) fun p18 =>
 .thn p18.2 (sG p15.1 false (sBin .neq p17.1 p18.1 p18.2) p18.2) fun p19 =>
 .thn p19.2 (sPick p15.1 (.bool true) p19.1 p19.2) fun p20 =>
 .thn p20.2 (sG p20.1 false (.ok (a2, p20.2)) p20.2) fun p21 =>
 .thn p21.2 (sG p20.1 false (sBin .neq p21.1 (.string (bstr [])) p21.2) p21.2) fun p22 =>
 .thn p22.2 (sG p20.1 false (.ok (p22.1, p22.2)) p22.2) fun p23 =>
 .thn p23.2 (sG p23.1 true (sLref p11.1 p23.2) p23.2) fun p24 =>
 .thn p24.2 (sG p23.1 true (sField none 2 p11.1 p24.2) p24.2) fun p25 =>
 .thn p25.2 (sG p23.1 true (.ok (a2, p25.2)) p25.2) fun p26 =>
 .thn p26.2 (sG p23.1 true (sBin .neq p25.1 p26.1 p26.2) p26.2) fun p27 =>
 .thn p27.2 (sG p20.1 false (sPick p23.1 p27.1 (.bool false) p27.2) p27.2) fun p28 =>
 .thn p28.2 (sPick p20.1 (.bool true) p28.1 p28.2) fun p29 =>
 condX p29.1
 (.thn p29.2 (K.go (.call n_parse_reader_fail [a0, (.int .i64 5)]) p29.2) fun p30 =>
 .thn p30.2 (sBuild [(.int .u8 0), (.int .i64 0), (.string (bstr [])), (.int .i64 0)] [] p30.2) fun p31 =>
 .thn p31.2 (sUpd 4 0 p1.1 p31.1 p31.2) fun p32 =>
 (sField (some 4) 0 p32.1 p32.2 >>= fun p33 => .ok [p33.1]) >>= fun vs => .ok (oneOf vs, p32.2))
 (parse_reader_take_j0 J a0 a1 p1.1 p11.1 p29.2)) := by kernel_rfl
theorem parse_reader_take_of : Of3 n_parse_reader_take parse_reader_take_c := fun hF => call_of hF parse_reader_take_is rfl
theorem parse_reader_take_j0_eq (hJ : IsJ K (retK parse_reader_take_c.results) J) (v0 v1 v6 v7 : Value) (st : St) : parse_reader_take_j0 J v0 v1 v6 v7 st =
 (.thn st (sBin .neq v1 (.int .u8 0) st) fun p1 =>
 condX p1.1
 (.thn p1.2 (sNilc v0 p1.2) fun p2 =>
 .thn p2.2 (sOff 1 p2.1 p2.2) fun p3 =>
 .thn p3.2 (sLoad none p3.1 p3.2) fun p4 =>
 .thn p4.2 (sBin .add p4.1 (.int .i64 1) p4.2) fun p5 =>
 .thn p5.2 (sNilc v0 p5.2) fun p6 =>
 .thn p6.2 (sOff 1 p6.1 p6.2) fun p7 =>
 .thn p7.2 (sStore 1 p7.1 p5.1 p7.2) fun p8 =>
 parse_reader_take_j1 J v6 v7 p8.2)
 (parse_reader_take_j1 J v6 v7 p1.2)) := gq hJ (by kernel_rfl)
theorem parse_reader_take_j1_eq (hJ : IsJ K (retK parse_reader_take_c.results) J) (v6 v7 : Value) (st : St) : parse_reader_take_j1 J v6 v7 st =
 (.thn st (sField (some 4) 0 v7 st) fun p1 =>
 .thn p1.2 (sUpd 4 0 v6 p1.1 p1.2) fun p2 =>
 (sField (some 4) 0 p2.1 p2.2 >>= fun p3 => .ok [p3.1]) >>= fun vs => .ok (oneOf vs, p2.2)) := gq hJ (by kernel_rfl)
open C in
def slices_Equal_int_c : AFun := ⟨26, [.tmp 4],
 (s (.ops [o 4 (.mv (c (.bool false)))])
 (s (s (.ops [o 6 (.mv (t 0)), o 7 (.len .slice (t 6)), o 8 (.mv (t 1)), o 9 (.len .slice (t 8)), o 10 (.bin .neq (t 7) (t 9))])
 (.cond (t 10) (s (.ops [o 4 (.mv (c (.bool false)))])
 .ret) .skip))
 (s (.keep [0, 1])
 (s (s (.ops [o 11 (.mv (t 0)), o 12 (.len .slice (t 11)), o 13 (.mv (c (i 0)))])
 (.block 0 (s (.keep [0, 1, 12, 13])
 (.loop (s (s (.ops [o 14 (.bin .lss (t 13) (t 12))])
 (s (.cond (t 14) .skip (.exit 0))
 (s (.keep [0, 1, 12, 13])
 (s (.block 1 (s (.ops [o 15 (.mv (t 13)), o 5 (.mv (t 15))])
 (s (.draw [d 0 0 false (o 16 (.mv (t 0))), d 1 0 false (o 17 (.mv (t 5))), d 2 0 false (o 18 (.ixA 1 none (t 16) (t 17))), d 3 0 false (o 19 (.load none (t 18))), d 4 0 false (o 20 (.mv (t 1))), d 5 0 false (o 21 (.mv (t 5))), d 6 0 false (o 22 (.ixA 1 none (t 20) (t 21))), d 7 0 false (o 23 (.load none (t 22))), d 8 0 false (o 24 (.bin .neq (t 19) (t 23)))])
 (.cond (t 24) (s (.ops [o 4 (.mv (c (.bool false)))])
 .ret) .skip))))
 (s (.keep [0, 1, 12, 13])
 (.ops [o 25 (.bin .add (t 13) (c (i 1))), o 13 (.mv (t 25))]))))))
 (.keep [0, 1, 12, 13]))))))
 (s (.keep [])
 (s (.ops [o 4 (.mv (c (.bool true)))])
 .ret))))))⟩
theorem slices_Equal_int_is : pgF n_slices_Equal_int = some slices_Equal_int_c := by kernel_rfl
def slices_Equal_int_j0 (J : JT (Value × St)) (v0 v1 : Value) (st : St) := goX J slices_Equal_int_c.body [1, 1, 1] (envT [(0, v0), (1, v1)]) st
def slices_Equal_int_l0 (J : JT (Value × St)) (v0 v1 v12 v13 : Value) (st : St) := lpX J slices_Equal_int_c.body [1, 1, 1, 0, 1, 0, 1] (envT [(0, v0), (1, v1), (12, v12), (13, v13)]) st
def slices_Equal_int_j1 (J : JT (Value × St)) (v0 v1 v12 v13 : Value) (st : St) := goX J slices_Equal_int_c.body [1, 1, 1, 0, 1, 0, 1, 0, 0, 1, 1, 1] (envT [(0, v0), (1, v1), (12, v12), (13, v13)]) st
def slices_Equal_int_j2 (J : JT (Value × St)) (st : St) := goX J slices_Equal_int_c.body [1, 1, 1, 1, 1] (envT []) st
def slices_Equal_int_j3 (J : JT (Value × St)) (v0 v1 v12 v13 : Value) (st : St) := goX J slices_Equal_int_c.body [1, 1, 1, 0, 1, 0, 1, 0, 0, 1, 1, 1, 1, 1] (envT [(0, v0), (1, v1), (12, v12), (13, v13)]) st
theorem slices_Equal_int_eq (K : Ctx) (J : JT (Value × St)) (a0 a1 : Value) (st : St) : atX K J slices_Equal_int_c (AM.start [a0, a1]) st =
 (.thn st (sLen .slice a0 st) fun p1 =>
 .thn p1.2 (sLen .slice a1 p1.2) fun p2 =>
 .thn p2.2 (sBin .neq p1.1 p2.1 p2.2) fun p3 =>
 condX p3.1
 (.ok ((.bool false), p3.2))
 (slices_Equal_int_j0 J a0 a1 p3.2)) := by kernel_rfl
theorem slices_Equal_int_of : Of2 n_slices_Equal_int slices_Equal_int_c := fun hF => call_of hF slices_Equal_int_is rfl
theorem slices_Equal_int_j0_eq (hJ : IsJ K (retK slices_Equal_int_c.results) J) (v0 v1 : Value) (st : St) : slices_Equal_int_j0 J v0 v1 st =
 (.thn st (sLen .slice v0 st) fun p1 =>
 slices_Equal_int_l0 J v0 v1 p1.1 (.int .i64 0) p1.2) := gq hJ (by kernel_rfl)
theorem slices_Equal_int_l0_eq (K : Ctx) (J : JT (Value × St)) (v0 v1 v12 v13 : Value) (st : St) : inX K J (retK slices_Equal_int_c.results) slices_Equal_int_c.body [1, 1, 1, 0, 1, 0, 1] (envT [(0, v0), (1, v1), (12, v12), (13, v13)]) st =
 (.thn st (sBin .lss v13 v12 st) fun p1 =>
 condX p1.1
 (slices_Equal_int_j1 J v0 v1 v12 v13 p1.2)
 (slices_Equal_int_j2 J p1.2)) := by kernel_rfl
theorem slices_Equal_int_l0_of (hF : Fix pgF K) (hJ : IsJ K (retK slices_Equal_int_c.results) J) {v0 v1 v12 v13 : Value} (h : Ok (inX K J (retK slices_Equal_int_c.results) slices_Equal_int_c.body [1, 1, 1, 0, 1, 0, 1] (envT [(0, v0), (1, v1), (12, v12), (13, v13)]) st) Q) : Ok (slices_Equal_int_l0 J v0 v1 v12 v13 st) Q := loop_of hF hJ h
theorem slices_Equal_int_j1_eq (hJ : IsJ K (retK slices_Equal_int_c.results) J) (v0 v1 v12 v13 : Value) (st : St) : slices_Equal_int_j1 J v0 v1 v12 v13 st =
 (.thn st (sIxA 1 none v0 v13 st) fun p1 =>
 .thn p1.2 (sLoad none p1.1 p1.2) fun p2 =>
 .thn p2.2 (sIxA 1 none v1 v13 p2.2) fun p3 =>
 .thn p3.2 (sLoad none p3.1 p3.2) fun p4 =>
 .thn p4.2 (sBin .neq p2.1 p4.1 p4.2) fun p5 =>
 condX p5.1
 (.ok ((.bool false), p5.2))
 (slices_Equal_int_j3 J v0 v1 v12 v13 p5.2)) := gq hJ (by kernel_rfl)
theorem slices_Equal_int_j2_eq (hJ : IsJ K (retK slices_Equal_int_c.results) J) (st : St) : slices_Equal_int_j2 J st =
 (.ok ((.bool true), st)) := gq hJ (by kernel_rfl)
theorem slices_Equal_int_j3_eq (hJ : IsJ K (retK slices_Equal_int_c.results) J) (v0 v1 v12 v13 : Value) (st : St) : slices_Equal_int_j3 J v0 v1 v12 v13 st =
 (.thn st (sBin .add v13 (.int .i64 1) st) fun p1 =>
 slices_Equal_int_l0 J v0 v1 v12 p1.1 p1.2) := gq hJ (by kernel_rfl)
open C in
def ir_Instr_Sets_c : AFun := ⟨1, [.tmp 2, .tmp 3],
 (s (.ops [o 1 (.lbox (t 0)), o 2 (.mv (c (i 0))), o 3 (.mv (c (.bool false)))])
 (s (s (.ops [o 4 (.lref (t 1)), o 5 (.field none 0 (t 1))])
 (.block 0 (s (s (.ops [o 7 (.bin .eql (t 5) (c (u 0))), o 6 (.mv (t 7))])
 (.cond (t 6) .skip (s (.ops [o 8 (.bin .eql (t 5) (c (u 1))), o 6 (.mv (t 8))])
 (.cond (t 6) .skip (s (.ops [o 9 (.bin .eql (t 5) (c (u 2))), o 6 (.mv (t 9))])
 (.cond (t 6) .skip (s (.ops [o 10 (.bin .eql (t 5) (c (u 3))), o 6 (.mv (t 10))])
 (.cond (t 6) .skip (s (.ops [o 11 (.bin .eql (t 5) (c (u 5))), o 6 (.mv (t 11))])
 (.cond (t 6) .skip (.ops [o 12 (.bin .eql (t 5) (c (u 7))), o 6 (.mv (t 12))])))))))))))
 (s (.keep [1, 6])
 (.cond (t 6) (s (.ops [o 13 (.lref (t 1)), o 14 (.field none 2 (t 1)), o 2 (.mv (t 14)), o 3 (.mv (c (.bool true)))])
 .ret) .skip)))))
 (s (.keep [])
 (s (.ops [o 2 (.mv (c (i 0))), o 3 (.mv (c (.bool false)))])
 .ret))))⟩
theorem ir_Instr_Sets_is : pgF n_ir_Instr_Sets = some ir_Instr_Sets_c := by kernel_rfl
def ir_Instr_Sets_j0 (J : JT (Value × St)) (v1 v6 : Value) (st : St) := goX J ir_Instr_Sets_c.body [1, 0, 1, 0, 1, 1] (envT [(1, v1), (6, v6)]) st
def ir_Instr_Sets_j1 (J : JT (Value × St)) (st : St) := goX J ir_Instr_Sets_c.body [1, 1, 1] (envT []) st
theorem ir_Instr_Sets_eq (K : Ctx) (J : JT (Value × St)) (a0 : Value) (st : St) : atX K J ir_Instr_Sets_c (AM.start [a0]) st =
 (.thn st (sLbox a0 st) fun p1 =>
 .thn p1.2 (sLref p1.1 p1.2) fun p2 =>
 .thn p2.2 (sField none 0 p1.1 p2.2) fun p3 =>
 .thn p3.2 (sBin .eql p3.1 (.int .u8 0) p3.2) fun p4 =>
 condX p4.1
 (ir_Instr_Sets_j0 J p1.1 p4.1 p4.2)
 (.thn p4.2 (sBin .eql p3.1 (.int .u8 1) p4.2) fun p5 =>
 condX p5.1
 (ir_Instr_Sets_j0 J p1.1 p5.1 p5.2)
 (.thn p5.2 (sBin .eql p3.1 (.int .u8 2) p5.2) fun p6 =>
 condX p6.1
 (ir_Instr_Sets_j0 J p1.1 p6.1 p6.2)
 (.thn p6.2 (sBin .eql p3.1 (.int .u8 3) p6.2) fun p7 =>
 condX p7.1
 (ir_Instr_Sets_j0 J p1.1 p7.1 p7.2)
 (.thn p7.2 (sBin .eql p3.1 (.int .u8 5) p7.2) fun p8 =>
 condX p8.1
 (ir_Instr_Sets_j0 J p1.1 p8.1 p8.2)
 (.thn p8.2 (sBin .eql p3.1 (.int .u8 7) p8.2) fun p9 =>
 ir_Instr_Sets_j0 J p1.1 p9.1 p9.2)))))) := by kernel_rfl
theorem ir_Instr_Sets_of : Of1 n_ir_Instr_Sets ir_Instr_Sets_c := fun hF => call_of hF ir_Instr_Sets_is rfl
theorem ir_Instr_Sets_j0_eq (hJ : IsJ K (retK ir_Instr_Sets_c.results) J) (v1 v6 : Value) (st : St) : ir_Instr_Sets_j0 J v1 v6 st =
 (condX v6
 (.thn st (sLref v1 st) fun p1 =>
 .thn p1.2 (sField none 2 v1 p1.2) fun p2 =>
 .ok (.tuple #[p2.1, (.bool true)], p2.2))
 (ir_Instr_Sets_j1 J st)) := gq hJ (by kernel_rfl)
theorem ir_Instr_Sets_j1_eq (hJ : IsJ K (retK ir_Instr_Sets_c.results) J) (st : St) : ir_Instr_Sets_j1 J st =
 (.ok (.tuple #[(.int .i64 0), (.bool false)], st)) := gq hJ (by kernel_rfl)
open C in
def ir_Instr_Reads_c : AFun := ⟨1, [.tmp 2],
 (s (.ops [o 1 (.lbox (t 0)), o 2 (.mv (c (.slice none 0 0)))])
 (s (s (.ops [o 3 (.lref (t 1)), o 4 (.field none 0 (t 1))])
 (.block 0 (s (s (.ops [o 6 (.bin .eql (t 4) (c (u 1))), o 5 (.mv (t 6))])
 (.cond (t 5) .skip (s (.ops [o 7 (.bin .eql (t 4) (c (u 4))), o 5 (.mv (t 7))])
 (.cond (t 5) .skip (s (.ops [o 8 (.bin .eql (t 4) (c (u 6))), o 5 (.mv (t 8))])
 (.cond (t 5) .skip (.ops [o 9 (.bin .eql (t 4) (c (u 7))), o 5 (.mv (t 9))])))))))
 (s (.keep [1, 4, 5])
 (.cond (t 5) (s (.ops [o 10 (.lref (t 1)), o 11 (.field none 3 (t 1)), o 12 (.lit 1 1 [(i 0)] [(0, 1, (t 11))]), o 2 (.mv (t 12))])
 .ret) (s (s (.ops [o 14 (.bin .eql (t 4) (c (u 2))), o 13 (.mv (t 14))])
 (.cond (t 13) .skip (.ops [o 15 (.bin .eql (t 4) (c (u 8))), o 13 (.mv (t 15))])))
 (s (.keep [1, 13])
 (.cond (t 13) (s (.ops [o 16 (.lref (t 1)), o 17 (.field none 3 (t 1)), o 18 (.lref (t 1)), o 19 (.field none 4 (t 1)), o 20 (.lit 1 2 [(i 0), (i 0)] [(0, 1, (t 17)), (1, 1, (t 19))]), o 2 (.mv (t 20))])
 .ret) .skip))))))))
 (s (.keep [])
 (s (.ops [o 2 (.mv (c (.slice none 0 0)))])
 .ret))))⟩
theorem ir_Instr_Reads_is : pgF n_ir_Instr_Reads = some ir_Instr_Reads_c := by kernel_rfl
def ir_Instr_Reads_j0 (J : JT (Value × St)) (v1 v4 v5 : Value) (st : St) := goX J ir_Instr_Reads_c.body [1, 0, 1, 0, 1, 1] (envT [(1, v1), (4, v4), (5, v5)]) st
def ir_Instr_Reads_j1 (J : JT (Value × St)) (v1 v13 : Value) (st : St) := goX J ir_Instr_Reads_c.body [1, 0, 1, 0, 1, 1, 1, 1, 1] (envT [(1, v1), (13, v13)]) st
def ir_Instr_Reads_j2 (J : JT (Value × St)) (st : St) := goX J ir_Instr_Reads_c.body [1, 1, 1] (envT []) st
theorem ir_Instr_Reads_eq (K : Ctx) (J : JT (Value × St)) (a0 : Value) (st : St) : atX K J ir_Instr_Reads_c (AM.start [a0]) st =
 (.thn st (sLbox a0 st) fun p1 =>
 .thn p1.2 (sLref p1.1 p1.2) fun p2 =>
 .thn p2.2 (sField none 0 p1.1 p2.2) fun p3 =>
 .thn p3.2 (sBin .eql p3.1 (.int .u8 1) p3.2) fun p4 =>
 condX p4.1
 (ir_Instr_Reads_j0 J p1.1 p3.1 p4.1 p4.2)
 (.thn p4.2 (sBin .eql p3.1 (.int .u8 4) p4.2) fun p5 =>
 condX p5.1
 (ir_Instr_Reads_j0 J p1.1 p3.1 p5.1 p5.2)
 (.thn p5.2 (sBin .eql p3.1 (.int .u8 6) p5.2) fun p6 =>
 condX p6.1
 (ir_Instr_Reads_j0 J p1.1 p3.1 p6.1 p6.2)
 (.thn p6.2 (sBin .eql p3.1 (.int .u8 7) p6.2) fun p7 =>
 ir_Instr_Reads_j0 J p1.1 p3.1 p7.1 p7.2)))) := by kernel_rfl
theorem ir_Instr_Reads_of : Of1 n_ir_Instr_Reads ir_Instr_Reads_c := fun hF => call_of hF ir_Instr_Reads_is rfl
theorem ir_Instr_Reads_j0_eq (hJ : IsJ K (retK ir_Instr_Reads_c.results) J) (v1 v4 v5 : Value) (st : St) : ir_Instr_Reads_j0 J v1 v4 v5 st =
 (condX v5
 (.thn st (sLref v1 st) fun p1 =>
 .thn p1.2 (sField none 3 v1 p1.2) fun p2 =>
 .thn p2.2 (sLit 1 1 [(.int .i64 0)] [(0, 1, p2.1)] p2.2) fun p3 =>
 .ok (p3.1, p3.2))
 (.thn st (sBin .eql v4 (.int .u8 2) st) fun p4 =>
 condX p4.1
 (ir_Instr_Reads_j1 J v1 p4.1 p4.2)
 (.thn p4.2 (sBin .eql v4 (.int .u8 8) p4.2) fun p5 =>
 ir_Instr_Reads_j1 J v1 p5.1 p5.2))) := gq hJ (by kernel_rfl)
theorem ir_Instr_Reads_j1_eq (hJ : IsJ K (retK ir_Instr_Reads_c.results) J) (v1 v13 : Value) (st : St) : ir_Instr_Reads_j1 J v1 v13 st =
 (condX v13
 (.thn st (sLref v1 st) fun p1 =>
 .thn p1.2 (sField none 3 v1 p1.2) fun p2 =>
 .thn p2.2 (sLref v1 p2.2) fun p3 =>
 .thn p3.2 (sField none 4 v1 p3.2) fun p4 =>
 .thn p4.2 (sLit 1 2 [(.int .i64 0), (.int .i64 0)] [(0, 1, p2.1), (1, 1, p4.1)] p4.2) fun p5 =>
 .ok (p5.1, p5.2))
 (ir_Instr_Reads_j2 J st)) := gq hJ (by kernel_rfl)
theorem ir_Instr_Reads_j2_eq (hJ : IsJ K (retK ir_Instr_Reads_c.results) J) (st : St) : ir_Instr_Reads_j2 J st =
 (.ok ((.slice none 0 0), st)) := gq hJ (by kernel_rfl)
open C in
def ir_reg_c : AFun := ⟨9, [.tmp 2],
 (s (.ops [o 2 (.mv (c (.bool false)))])
 (s (.ops [o 3 (.mv (t 0)), o 4 (.bin .geq (t 3) (c (i 0))), o 5 (.mv (t 4)), g 6 true 5 (.mv (t 0)), g 7 true 5 (.bin .lss (t 6) (c (i 100000))), o 8 (.pick (t 5) (t 7) (c (.bool false))), o 2 (.mv (t 8))])
 .ret))⟩
theorem ir_reg_is : pgF n_ir_reg = some ir_reg_c := by kernel_rfl
theorem ir_reg_eq (K : Ctx) (J : JT (Value × St)) (a0 : Value) (st : St) : atX K J ir_reg_c (AM.start [a0]) st =
 (.thn st (sBin .geq a0 (.int .i64 0) st) fun p1 =>
 .thn p1.2 (sG p1.1 true (.ok (a0, p1.2)) p1.2) fun p2 =>
 .thn p2.2 (sG p1.1 true (sBin .lss p2.1 (.int .i64 100000) p2.2) p2.2) fun p3 =>
 .thn p3.2 (sPick p1.1 p3.1 (.bool false) p3.2) fun p4 =>
 .ok (p4.1, p4.2)) := by kernel_rfl
theorem ir_reg_of : Of1 n_ir_reg ir_reg_c := fun hF => call_of hF ir_reg_is rfl
open C in
def ir_Last_Labels_c : AFun := ⟨1, [.tmp 2],
 (s (.ops [o 1 (.lbox (t 0)), o 2 (.mv (c (.slice none 0 0)))])
 (s (.block 0 (s (.ops [o 4 (.lref (t 1)), o 5 (.field none 0 (t 1)), o 6 (.bin .eql (t 5) (c (u 0))), o 7 (.mv (t 6)), g 8 false 7 (.lref (t 1)), g 9 false 7 (.field none 0 (t 1)), g 10 false 7 (.bin .eql (t 9) (c (u 1))), g 11 false 7 (.mv (t 10)), g 12 true 11 (.lref (t 1)), g 13 true 11 (.field none 2 (t 1)), g 14 true 11 (.lref (t 1)), g 15 true 11 (.field none 3 (t 1)), g 16 true 11 (.bin .eql (t 13) (t 15)), g 17 false 7 (.pick (t 11) (t 16) (c (.bool false))), o 18 (.pick (t 7) (c (.bool true)) (t 17)), o 3 (.mv (t 18))])
 (.cond (t 3) (s (.ops [o 19 (.lref (t 1)), o 20 (.field none 2 (t 1)), o 21 (.lit 1 1 [(i 0)] [(0, 1, (t 20))]), o 2 (.mv (t 21))])
 .ret) (s (.ops [o 23 (.lref (t 1)), o 24 (.field none 0 (t 1)), o 25 (.bin .eql (t 24) (c (u 1))), o 22 (.mv (t 25))])
 (.cond (t 22) (s (.ops [o 26 (.lref (t 1)), o 27 (.field none 2 (t 1)), o 28 (.lref (t 1)), o 29 (.field none 3 (t 1)), o 30 (.lit 1 2 [(i 0), (i 0)] [(0, 1, (t 27)), (1, 1, (t 29))]), o 2 (.mv (t 30))])
 .ret) .skip)))))
 (s (.keep [])
 (s (.ops [o 2 (.mv (c (.slice none 0 0)))])
 .ret))))⟩
theorem ir_Last_Labels_is : pgF n_ir_Last_Labels = some ir_Last_Labels_c := by kernel_rfl
def ir_Last_Labels_j0 (J : JT (Value × St)) (st : St) := goX J ir_Last_Labels_c.body [1, 1, 1] (envT []) st
theorem ir_Last_Labels_eq (K : Ctx) (J : JT (Value × St)) (a0 : Value) (st : St) : atX K J ir_Last_Labels_c (AM.start [a0]) st =
 (.thn st (sLbox a0 st) fun p1 =>
 .thn p1.2 (sLref p1.1 p1.2) fun p2 =>
 .thn p2.2 (sField none 0 p1.1 p2.2) fun p3 =>
 .thn p3.2 (sBin .eql p3.1 (.int .u8 0) p3.2) fun p4 =>
 .thn p4.2 (sG p4.1 false (sLref p1.1 p4.2) p4.2) fun p5 =>
 .thn p5.2 (sG p4.1 false (sField none 0 p1.1 p5.2) p5.2) fun p6 =>
 .thn p6.2 (sG p4.1 false (sBin .eql p6.1 (.int .u8 1) p6.2) p6.2) fun p7 =>
 .thn p7.2 (sG p4.1 false (.ok (p7.1, p7.2)) p7.2) fun p8 =>
 .thn p8.2 (sG p8.1 true (sLref p1.1 p8.2) p8.2) fun p9 =>
 .thn p9.2 (sG p8.1 true (sField none 2 p1.1 p9.2) p9.2) fun p10 =>
 .thn p10.2 (sG p8.1 true (sLref p1.1 p10.2) p10.2) fun p11 =>
 .thn p11.2 (sG p8.1 true (sField none 3 p1.1 p11.2) p11.2) fun p12 =>
 .thn p12.2 (sG p8.1 true (sBin .eql p10.1 p12.1 p12.2) p12.2) fun p13 =>
 .thn p13.2 (sG p4.1 false (sPick p8.1 p13.1 (.bool false) p13.2) p13.2) fun p14 =>
 .thn p14.2 (sPick p4.1 (.bool true) p14.1 p14.2) fun p15 =>
 condX p15.1
 (.thn p15.2 (sLref p1.1 p15.2) fun p16 =>
 .thn p16.2 (sField none 2 p1.1 p16.2) fun p17 =>
 .thn p17.2 (sLit 1 1 [(.int .i64 0)] [(0, 1, p17.1)] p17.2) fun p18 =>
 .ok (p18.1, p18.2))
 (.thn p15.2 (sLref p1.1 p15.2) fun p19 =>
 .thn p19.2 (sField none 0 p1.1 p19.2) fun p20 =>
 .thn p20.2 (sBin .eql p20.1 (.int .u8 1) p20.2) fun p21 =>
 condX p21.1
 (.thn p21.2 (sLref p1.1 p21.2) fun p22 =>
 .thn p22.2 (sField none 2 p1.1 p22.2) fun p23 =>
 .thn p23.2 (sLref p1.1 p23.2) fun p24 =>
 .thn p24.2 (sField none 3 p1.1 p24.2) fun p25 =>
 .thn p25.2 (sLit 1 2 [(.int .i64 0), (.int .i64 0)] [(0, 1, p23.1), (1, 1, p25.1)] p25.2) fun p26 =>
 .ok (p26.1, p26.2))
 (ir_Last_Labels_j0 J p21.2))) := by kernel_rfl
theorem ir_Last_Labels_of : Of1 n_ir_Last_Labels ir_Last_Labels_c := fun hF => call_of hF ir_Last_Labels_is rfl
theorem ir_Last_Labels_j0_eq (hJ : IsJ K (retK ir_Last_Labels_c.results) J) (st : St) : ir_Last_Labels_j0 J st =
 (.ok ((.slice none 0 0), st)) := gq hJ (by kernel_rfl)
open C in
def lex_Tokens_1_c : AFun := ⟨2, [],
 (s (s (.ops [o 6 (.load none (t 1)), o 7 (.len .str (t 6)), o 8 (.bin .gtr (t 7) (c (i 100000)))])
 (.cond (t 8) (s (.ops [o 9 (.mv (t 0)), o 10 (.build [(u 0), (i 0), (.string (bstr [])), (i 0)] [(1, 1, (c (i 100000)))]), o 11 (.call (t 9) [(t 10), (c (i 3))])])
 .ret) .skip))
 (s (.keep [0, 1])
 (s (s (.ops [o 3 (.mv (c (i 0)))])
 (.block 0 (s (.keep [0, 1, 3])
 (.loop (s (s (s (.ops [o 12 (.mv (t 3)), o 13 (.load none (t 1)), o 14 (.len .str (t 13)), o 15 (.bin .lss (t 12) (t 14))])
 (.cond (t 15) .skip (.exit 0)))
 (s (.keep [0, 1, 3])
 (.block 1 (s (s (.ops [o 16 (.load none (t 1)), o 17 (.mv (t 3)), o 18 (.ixS (t 16) (t 17)), o 19 (.bin .eql (t 18) (c (u 32)))])
 (.cond (t 19) (s (.ops [o 20 (.mv (t 3)), o 21 (.bin .add (t 20) (c (i 1))), o 3 (.mv (t 21))])
 (.exit 1)) .skip))
 (s (.keep [0, 1, 3])
 (s (s (.ops [o 22 (.load none (t 1)), o 23 (.mv (t 3)), o 24 (.ixS (t 22) (t 23)), o 25 (.bin .eql (t 24) (c (u 35)))])
 (.cond (t 25) (s (.block 2 (s (.keep [0, 1, 3])
 (.loop (s (s (s (.ops [o 26 (.mv (t 3)), o 27 (.load none (t 1)), o 28 (.len .str (t 27)), o 29 (.bin .lss (t 26) (t 28)), o 30 (.mv (t 29)), g 31 true 30 (.load none (t 1)), g 32 true 30 (.mv (t 3)), g 33 true 30 (.ixS (t 31) (t 32)), g 34 true 30 (.bin .neq (t 33) (c (u 10))), o 35 (.pick (t 30) (t 34) (c (.bool false)))])
 (.cond (t 35) .skip (.exit 2)))
 (s (.keep [0, 1, 3])
 (.block 3 (.ops [o 36 (.mv (t 3)), o 37 (.bin .add (t 36) (c (i 1))), o 3 (.mv (t 37))]))))
 (.keep [0, 1, 3])))))
 (s (.keep [0, 1, 3])
 (.exit 1))) .skip))
 (s (.keep [0, 1, 3])
 (s (.ops [o 39 (.load none (t 1)), o 40 (.mv (t 3)), o 41 (.call (f 55) [(t 39), (t 40)]), o 38 (.mv (t 41)), o 42 (.extract (t 38) 0), o 43 (.extract (t 38) 1), o 4 (.lnew [(u 0), (i 0), (.string (bstr [])), (i 0)]), o 4 (.upd 4 0 (t 4) (t 42)), o 5 (.mv (t 43))])
 (s (s (.ops [o 44 (.mv (t 5)), o 45 (.bin .eql (t 44) (c (i 0)))])
 (.cond (t 45) (s (.ops [o 46 (.mv (t 0)), o 47 (.mv (t 3)), o 48 (.build [(u 0), (i 0), (.string (bstr [])), (i 0)] [(1, 1, (t 47))]), o 49 (.call (t 46) [(t 48), (c (i 4))])])
 .ret) .skip))
 (s (.keep [0, 1, 3, 4, 5])
 (s (s (.ops [o 50 (.mv (t 0)), o 51 (.field (some 4) 0 (t 4)), o 52 (.call (t 50) [(t 51), (c (i 0))]), o 53 (.un .not (t 52))])
 (.cond (t 53) .ret .skip))
 (s (.keep [0, 1, 3, 5])
 (.ops [o 54 (.mv (t 3)), o 55 (.mv (t 5)), o 56 (.bin .add (t 54) (t 55)), o 3 (.mv (t 56))])))))))))))))
 (.keep [0, 1, 3]))))))
 (s (.keep [0, 1])
 (.ops [o 57 (.mv (t 0)), o 58 (.load none (t 1)), o 59 (.len .str (t 58)), o 60 (.build [(u 0), (i 0), (.string (bstr [])), (i 0)] [(1, 1, (t 59))]), o 61 (.call (t 57) [(t 60), (c (i 0))])])))))⟩
theorem lex_Tokens_1_is : pgF n_lex_Tokens_1 = some lex_Tokens_1_c := by kernel_rfl
def lex_Tokens_1_j0 (J : JT (Value × St)) (v0 v1 : Value) (st : St) := goX J lex_Tokens_1_c.body [1, 1] (envT [(0, v0), (1, v1)]) st
def lex_Tokens_1_l0 (J : JT (Value × St)) (v0 v1 v3 : Value) (st : St) := lpX J lex_Tokens_1_c.body [1, 1, 0, 1, 0, 1] (envT [(0, v0), (1, v1), (3, v3)]) st
def lex_Tokens_1_j1 (J : JT (Value × St)) (v0 v1 v3 : Value) (st : St) := goX J lex_Tokens_1_c.body [1, 1, 0, 1, 0, 1, 0, 0, 1, 1] (envT [(0, v0), (1, v1), (3, v3)]) st
def lex_Tokens_1_j2 (J : JT (Value × St)) (v0 v1 : Value) (st : St) := goX J lex_Tokens_1_c.body [1, 1, 1, 1] (envT [(0, v0), (1, v1)]) st
def lex_Tokens_1_j3 (J : JT (Value × St)) (v0 v1 v3 : Value) (st : St) := goX J lex_Tokens_1_c.body [1, 1, 0, 1, 0, 1, 0, 0, 1, 1, 0, 1, 1] (envT [(0, v0), (1, v1), (3, v3)]) st
def lex_Tokens_1_l1 (J : JT (Value × St)) (v0 v1 v3 : Value) (st : St) := lpX J lex_Tokens_1_c.body [1, 1, 0, 1, 0, 1, 0, 0, 1, 1, 0, 1, 1, 0, 1, 0, 0, 0, 1] (envT [(0, v0), (1, v1), (3, v3)]) st
def lex_Tokens_1_j4 (J : JT (Value × St)) (v0 v1 v3 : Value) (st : St) := goX J lex_Tokens_1_c.body [1, 1, 0, 1, 0, 1, 0, 0, 1, 1, 0, 1, 1, 1, 1] (envT [(0, v0), (1, v1), (3, v3)]) st
def lex_Tokens_1_j5 (J : JT (Value × St)) (v0 v1 v3 : Value) (st : St) := goX J lex_Tokens_1_c.body [1, 1, 0, 1, 0, 1, 0, 0, 1, 1, 0, 1, 1, 0, 1, 0, 0, 0, 1, 0, 0, 1, 1] (envT [(0, v0), (1, v1), (3, v3)]) st
def lex_Tokens_1_j6 (J : JT (Value × St)) (v0 v1 v3 : Value) (st : St) := goX J lex_Tokens_1_c.body [1, 1, 0, 1, 0, 1, 0, 0, 1, 1, 0, 1, 1, 0, 1, 0, 1, 1] (envT [(0, v0), (1, v1), (3, v3)]) st
def lex_Tokens_1_j7 (J : JT (Value × St)) (v0 v1 v3 v4 v5 : Value) (st : St) := goX J lex_Tokens_1_c.body [1, 1, 0, 1, 0, 1, 0, 0, 1, 1, 0, 1, 1, 1, 1, 1, 1, 1] (envT [(0, v0), (1, v1), (3, v3), (4, v4), (5, v5)]) st
def lex_Tokens_1_j8 (J : JT (Value × St)) (v0 v1 v3 v5 : Value) (st : St) := goX J lex_Tokens_1_c.body [1, 1, 0, 1, 0, 1, 0, 0, 1, 1, 0, 1, 1, 1, 1, 1, 1, 1, 1, 1] (envT [(0, v0), (1, v1), (3, v3), (5, v5)]) st
theorem lex_Tokens_1_eq (K : Ctx) (J : JT (Value × St)) (a0 a1 : Value) (st : St) : atX K J lex_Tokens_1_c (AM.start [a0, a1]) st =
 (.thn st (sLoad none a1 st) fun p1 =>
 .thn p1.2 (sLen .str p1.1 p1.2) fun p2 =>
 .thn p2.2 (sBin .gtr p2.1 (.int .i64 100000) p2.2) fun p3 =>
 condX p3.1
 (.thn p3.2 (sBuild [(.int .u8 0), (.int .i64 0), (.string (bstr [])), (.int .i64 0)] [(1, 1, (.int .i64 100000))] p3.2) fun p4 =>
 .thn p4.2 (sCall K a0 [p4.1, (.int .i64 3)] p4.2) fun p5 =>
 .ok (.tuple #[], p5.2))
 (lex_Tokens_1_j0 J a0 a1 p3.2)) := by kernel_rfl
theorem lex_Tokens_1_of : Of2 n_lex_Tokens_1 lex_Tokens_1_c := fun hF => call_of hF lex_Tokens_1_is rfl
theorem lex_Tokens_1_j0_eq (hJ : IsJ K (retK lex_Tokens_1_c.results) J) (v0 v1 : Value) (st : St) : lex_Tokens_1_j0 J v0 v1 st =
 (lex_Tokens_1_l0 J v0 v1 (.int .i64 0) st) := gq hJ (by kernel_rfl)
theorem lex_Tokens_1_l0_eq (K : Ctx) (J : JT (Value × St)) (v0 v1 v3 : Value) (st : St) : inX K J (retK lex_Tokens_1_c.results) lex_Tokens_1_c.body [1, 1, 0, 1, 0, 1] (envT [(0, v0), (1, v1), (3, v3)]) st =
 (.thn st (sLoad none v1 st) fun p1 =>
 .thn p1.2 (sLen .str p1.1 p1.2) fun p2 =>
 .thn p2.2 (sBin .lss v3 p2.1 p2.2) fun p3 =>
 condX p3.1
 (lex_Tokens_1_j1 J v0 v1 v3 p3.2)
 (lex_Tokens_1_j2 J v0 v1 p3.2)) := by kernel_rfl
theorem lex_Tokens_1_l0_of (hF : Fix pgF K) (hJ : IsJ K (retK lex_Tokens_1_c.results) J) {v0 v1 v3 : Value} (h : Ok (inX K J (retK lex_Tokens_1_c.results) lex_Tokens_1_c.body [1, 1, 0, 1, 0, 1] (envT [(0, v0), (1, v1), (3, v3)]) st) Q) : Ok (lex_Tokens_1_l0 J v0 v1 v3 st) Q := loop_of hF hJ h
theorem lex_Tokens_1_j1_eq (hJ : IsJ K (retK lex_Tokens_1_c.results) J) (v0 v1 v3 : Value) (st : St) : lex_Tokens_1_j1 J v0 v1 v3 st =
 (.thn st (sLoad none v1 st) fun p1 =>
 .thn p1.2 (sIxS p1.1 v3 p1.2) fun p2 =>
 .thn p2.2 (sBin .eql p2.1 (.int .u8 32) p2.2) fun p3 =>
 condX p3.1
 (.thn p3.2 (sBin .add v3 (.int .i64 1) p3.2) fun p4 =>
 lex_Tokens_1_l0 J v0 v1 p4.1 p4.2)
 (lex_Tokens_1_j3 J v0 v1 v3 p3.2)) := gq hJ (by kernel_rfl)
theorem lex_Tokens_1_j2_eq (hJ : IsJ K (retK lex_Tokens_1_c.results) J) (v0 v1 : Value) (st : St) : lex_Tokens_1_j2 J v0 v1 st =
 (.thn st (sLoad none v1 st) fun p1 =>
 .thn p1.2 (sLen .str p1.1 p1.2) fun p2 =>
 .thn p2.2 (sBuild [(.int .u8 0), (.int .i64 0), (.string (bstr [])), (.int .i64 0)] [(1, 1, p2.1)] p2.2) fun p3 =>
 .thn p3.2 (sCall K v0 [p3.1, (.int .i64 0)] p3.2) fun p4 =>
 .ok (.tuple #[], p4.2)) := gq hJ (by kernel_rfl)
theorem lex_Tokens_1_j3_eq (hJ : IsJ K (retK lex_Tokens_1_c.results) J) (v0 v1 v3 : Value) (st : St) : lex_Tokens_1_j3 J v0 v1 v3 st =
 (.thn st (sLoad none v1 st) fun p1 =>
 .thn p1.2 (sIxS p1.1 v3 p1.2) fun p2 =>
 .thn p2.2 (sBin .eql p2.1 (.int .u8 35) p2.2) fun p3 =>
 condX p3.1
 (lex_Tokens_1_l1 J v0 v1 v3 p3.2)
 (lex_Tokens_1_j4 J v0 v1 v3 p3.2)) := gq hJ (by kernel_rfl)
theorem lex_Tokens_1_l1_eq (K : Ctx) (J : JT (Value × St)) (v0 v1 v3 : Value) (st : St) : inX K J (retK lex_Tokens_1_c.results) lex_Tokens_1_c.body [1, 1, 0, 1, 0, 1, 0, 0, 1, 1, 0, 1, 1, 0, 1, 0, 0, 0, 1] (envT [(0, v0), (1, v1), (3, v3)]) st =
 (.thn st (sLoad none v1 st) fun p1 =>
 .thn p1.2 (sLen .str p1.1 p1.2) fun p2 =>
 .thn p2.2 (sBin .lss v3 p2.1 p2.2) fun p3 =>
 .thn p3.2 (sG p3.1 true (sLoad none v1 p3.2) p3.2) fun p4 =>
 .thn p4.2 (sG p3.1 true (.ok (v3, p4.2)) p4.2) fun p5 =>
 .thn p5.2 (sG p3.1 true (sIxS p4.1 p5.1 p5.2) p5.2) fun p6 =>
 .thn p6.2 (sG p3.1 true (sBin .neq p6.1 (.int .u8 10) p6.2) p6.2) fun p7 =>
 .thn p7.2 (sPick p3.1 p7.1 (.bool false) p7.2) fun p8 =>
 condX p8.1
 (lex_Tokens_1_j5 J v0 v1 v3 p8.2)
 (lex_Tokens_1_j6 J v0 v1 v3 p8.2)) := by kernel_rfl
theorem lex_Tokens_1_l1_of (hF : Fix pgF K) (hJ : IsJ K (retK lex_Tokens_1_c.results) J) {v0 v1 v3 : Value} (h : Ok (inX K J (retK lex_Tokens_1_c.results) lex_Tokens_1_c.body [1, 1, 0, 1, 0, 1, 0, 0, 1, 1, 0, 1, 1, 0, 1, 0, 0, 0, 1] (envT [(0, v0), (1, v1), (3, v3)]) st) Q) : Ok (lex_Tokens_1_l1 J v0 v1 v3 st) Q := loop_of hF hJ h
theorem lex_Tokens_1_j4_eq (hJ : IsJ K (retK lex_Tokens_1_c.results) J) (v0 v1 v3 : Value) (st : St) : lex_Tokens_1_j4 J v0 v1 v3 st =
 (.thn st (sLoad none v1 st) fun p1 =>
 .thn p1.2 (K.go (.call n_lex_next [p1.1, v3]) p1.2) fun p2 =>
 .thn p2.2 (sExtract p2.1 0 p2.2) fun p3 =>
 .thn p3.2 (sExtract p2.1 1 p3.2) fun p4 =>
 .thn p4.2 (sLnew [(.int .u8 0), (.int .i64 0), (.string (bstr [])), (.int .i64 0)] p4.2) fun p5 =>
 .thn p5.2 (sUpd 4 0 p5.1 p3.1 p5.2) fun p6 =>
 .thn p6.2 (sBin .eql p4.1 (.int .i64 0) p6.2) fun p7 =>
 condX p7.1
 (.thn p7.2 (sBuild [(.int .u8 0), (.int .i64 0), (.string (bstr [])), (.int .i64 0)] [(1, 1, v3)] p7.2) fun p8 =>
 .thn p8.2 (sCall K v0 [p8.1, (.int .i64 4)] p8.2) fun p9 =>
 .ok (.tuple #[], p9.2))
 (lex_Tokens_1_j7 J v0 v1 v3 p6.1 p4.1 p7.2)) := gq hJ (by kernel_rfl)
theorem lex_Tokens_1_j5_eq (hJ : IsJ K (retK lex_Tokens_1_c.results) J) (v0 v1 v3 : Value) (st : St) : lex_Tokens_1_j5 J v0 v1 v3 st =
 (.thn st (sBin .add v3 (.int .i64 1) st) fun p1 =>
 lex_Tokens_1_l1 J v0 v1 p1.1 p1.2) := gq hJ (by kernel_rfl)
theorem lex_Tokens_1_j6_eq (hJ : IsJ K (retK lex_Tokens_1_c.results) J) (v0 v1 v3 : Value) (st : St) : lex_Tokens_1_j6 J v0 v1 v3 st =
 (lex_Tokens_1_l0 J v0 v1 v3 st) := gq hJ (by kernel_rfl)
theorem lex_Tokens_1_j7_eq (hJ : IsJ K (retK lex_Tokens_1_c.results) J) (v0 v1 v3 v4 v5 : Value) (st : St) : lex_Tokens_1_j7 J v0 v1 v3 v4 v5 st =
 (.thn st (sField (some 4) 0 v4 st) fun p1 =>
 .thn p1.2 (sCall K v0 [p1.1, (.int .i64 0)] p1.2) fun p2 =>
 .thn p2.2 (sUn .not p2.1 p2.2) fun p3 =>
 condX p3.1
 (.ok (.tuple #[], p3.2))
 (lex_Tokens_1_j8 J v0 v1 v3 v5 p3.2)) := gq hJ (by kernel_rfl)
theorem lex_Tokens_1_j8_eq (hJ : IsJ K (retK lex_Tokens_1_c.results) J) (v0 v1 v3 v5 : Value) (st : St) : lex_Tokens_1_j8 J v0 v1 v3 v5 st =
 (.thn st (sBin .add v3 v5 st) fun p1 =>
 lex_Tokens_1_l0 J v0 v1 p1.1 p1.2) := gq hJ (by kernel_rfl)
open C in
def lex_next_c : AFun := ⟨2, [.part 4 (some 4), .tmp 5],
 (s (.ops [o 4 (.lnew [(u 0), (i 0), (.string (bstr [])), (i 0)]), o 5 (.mv (c (i 0)))])
 (s (.ops [o 15 (.mv (t 1)), o 16 (.build [(u 0), (i 0), (.string (bstr [])), (i 0)] [(1, 1, (t 15))]), o 6 (.lnew [(u 0), (i 0), (.string (bstr [])), (i 0)]), o 6 (.upd 4 0 (t 6) (t 16))])
 (s (.ops [o 17 (.mv (t 0)), o 18 (.mv (t 1)), o 19 (.slice .str (t 17) (some (t 18)) none none), o 7 (.mv (t 19))])
 (s (s (.ops [o 20 (.mv (t 7)), o 21 (.ixS (t 20) (c (i 0))), o 8 (.mv (t 21))])
 (.block 0 (s (.ops [o 23 (.mv (t 8)), o 24 (.bin .eql (t 23) (c (u 10))), o 22 (.mv (t 24))])
 (.cond (t 22) (s (.ops [o 25 (.lref (t 6)), o 6 (.upd 1 0 (t 6) (c (u 7)))])
 (s (.ops [o 26 (.field (some 4) 0 (t 6)), o 4 (.upd 4 0 (t 4) (t 26)), o 5 (.mv (c (i 1)))])
 .ret)) (s (.ops [o 28 (.mv (t 8)), o 29 (.bin .eql (t 28) (c (u 61))), o 30 (.mv (t 29)), g 31 false 30 (.mv (t 8)), g 32 false 30 (.bin .eql (t 31) (c (u 44))), o 33 (.pick (t 30) (c (.bool true)) (t 32)), o 34 (.mv (t 33)), g 35 false 34 (.mv (t 8)), g 36 false 34 (.bin .eql (t 35) (c (u 58))), o 37 (.pick (t 34) (c (.bool true)) (t 36)), o 27 (.mv (t 37))])
 (.cond (t 27) (s (.draw [d 2 0 false (o 40 (.lref (t 6))), d 3 0 true (o 6 (.upd 1 0 (t 6) (c (u 6)))), d 0 0 false (o 38 (.mv (t 7))), d 1 0 false (o 39 (.slice .str (t 38) none (some (c (i 1))) none)), d 4 0 false (o 41 (.lref (t 6))), d 5 0 true (o 6 (.upd 1 2 (t 6) (t 39)))])
 (s (.ops [o 42 (.field (some 4) 0 (t 6)), o 4 (.upd 4 0 (t 4) (t 42)), o 5 (.mv (c (i 1)))])
 .ret)) (s (.ops [o 44 (.mv (t 8)), o 45 (.bin .eql (t 44) (c (u 37))), o 46 (.mv (t 45)), g 47 false 46 (.mv (t 8)), g 48 false 46 (.bin .eql (t 47) (c (u 64))), o 49 (.pick (t 46) (c (.bool true)) (t 48)), o 50 (.mv (t 49)), g 51 false 50 (.mv (t 8)), g 52 false 50 (.bin .eql (t 51) (c (u 36))), o 53 (.pick (t 50) (c (.bool true)) (t 52)), o 43 (.mv (t 53))])
 (.cond (t 43) (s (.ops [o 54 .newMap, n (.mapSet (.cell .int) (t 54) (c (u 37)) (c (u 2))), n (.mapSet (.cell .int) (t 54) (c (u 64)) (c (u 3))), n (.mapSet (.cell .int) (t 54) (c (u 36)) (c (u 4))), o 55 (.mv (t 54)), o 56 (.mv (t 8)), o 57 (.look (.cell .int) (u 0) false (t 55) (t 56)), o 58 (.lref (t 6)), o 6 (.upd 1 0 (t 6) (t 57))])
 (s (.ops [o 59 (.mv (t 7)), o 60 (.slice .str (t 59) (some (c (i 1))) none none), o 61 (.call (f 60) [(t 60)]), o 9 (.mv (t 61))])
 (s (.ops [o 63 (.mv (t 7)), o 64 (.mv (t 9)), o 65 (.bin .add (c (i 1)) (t 64)), o 66 (.slice .str (t 63) (some (c (i 1))) (some (t 65)) none), o 67 (.call (f 61) [(t 66)]), o 62 (.mv (t 67)), o 68 (.extract (t 62) 0), o 69 (.extract (t 62) 1), o 10 (.mv (t 68)), o 11 (.mv (t 69))])
 (s (s (.ops [o 70 (.mv (t 11)), o 71 (.bin .eql (t 70) (c (i 0)))])
 (.cond (t 71) (s (.ops [o 72 (.field (some 4) 0 (t 6)), o 4 (.upd 4 0 (t 4) (t 72)), o 5 (.mv (c (i 0)))])
 .ret) .skip))
 (s (.keep [4, 6, 10, 11])
 (s (.ops [o 73 (.mv (t 10)), o 74 (.lref (t 6)), o 6 (.upd 1 3 (t 6) (t 73))])
 (s (.ops [o 75 (.field (some 4) 0 (t 6)), o 76 (.mv (t 11)), o 77 (.bin .add (t 76) (c (i 1))), o 4 (.upd 4 0 (t 4) (t 75)), o 5 (.mv (t 77))])
 .ret))))))) (s (.ops [o 79 (.mv (t 7)), o 80 (.call (f 62) [(t 79)]), o 81 (.bin .gtr (t 80) (c (i 0))), o 78 (.mv (t 81))])
 (.cond (t 78) (s (.ops [o 82 (.mv (t 7)), o 83 (.call (f 62) [(t 82)]), o 12 (.mv (t 83))])
 (s (.draw [d 3 0 false (o 87 (.lref (t 6))), d 4 0 true (o 6 (.upd 1 0 (t 6) (c (u 1)))), d 0 0 false (o 84 (.mv (t 7))), d 1 0 false (o 85 (.mv (t 12))), d 2 0 false (o 86 (.slice .str (t 84) none (some (t 85)) none)), d 5 0 false (o 88 (.lref (t 6))), d 6 0 true (o 6 (.upd 1 2 (t 6) (t 86)))])
 (s (.ops [o 89 (.field (some 4) 0 (t 6)), o 90 (.mv (t 12)), o 4 (.upd 4 0 (t 4) (t 89)), o 5 (.mv (t 90))])
 .ret))) .skip))))))))))
 (s (.keep [4, 6, 7])
 (s (.ops [o 92 (.mv (t 7)), o 93 (.call (f 61) [(t 92)]), o 91 (.mv (t 93)), o 94 (.extract (t 91) 0), o 95 (.extract (t 91) 1), o 13 (.mv (t 94)), o 14 (.mv (t 95))])
 (s (.ops [o 96 (.mv (t 13)), o 97 (.lref (t 6)), o 6 (.upd 1 0 (t 6) (c (u 5))), o 98 (.lref (t 6)), o 6 (.upd 1 3 (t 6) (t 96))])
 (s (.ops [o 99 (.field (some 4) 0 (t 6)), o 100 (.mv (t 14)), o 4 (.upd 4 0 (t 4) (t 99)), o 5 (.mv (t 100))])
 .ret))))))))⟩
theorem lex_next_is : pgF n_lex_next = some lex_next_c := by kernel_rfl
def lex_next_j0 (J : JT (Value × St)) (v4 v6 v10 v11 : Value) (st : St) := goX J lex_next_c.body [1, 1, 1, 0, 1, 0, 1, 1, 1, 1, 1, 0, 1, 1, 1, 1, 1] (envT [(4, v4), (6, v6), (10, v10), (11, v11)]) st
def lex_next_j1 (J : JT (Value × St)) (v4 v6 v7 : Value) (st : St) := goX J lex_next_c.body [1, 1, 1, 1, 1] (envT [(4, v4), (6, v6), (7, v7)]) st
theorem lex_next_eq (K : Ctx) (J : JT (Value × St)) (a0 a1 : Value) (st : St) : atX K J lex_next_c (AM.start [a0, a1]) st =
 (.thn st (sLnew [(.int .u8 0), (.int .i64 0), (.string (bstr [])), (.int .i64 0)] st) fun p1 =>
 .thn p1.2 (sBuild [(.int .u8 0), (.int .i64 0), (.string (bstr [])), (.int .i64 0)] [(1, 1, a1)] p1.2) fun p2 =>
 .thn p2.2 (sLnew [(.int .u8 0), (.int .i64 0), (.string (bstr [])), (.int .i64 0)] p2.2) fun p3 =>
 .thn p3.2 (sUpd 4 0 p3.1 p2.1 p3.2) fun p4 =>
 .thn p4.2 (sSlice .str a0 (some a1) none none p4.2) fun p5 =>
 .thn p5.2 (sIxS p5.1 (.int .i64 0) p5.2) fun p6 =>
 .thn p6.2 (sBin .eql p6.1 (.int .u8 10) p6.2) fun p7 =>
 condX p7.1
 (.thn p7.2 (sLref p4.1 p7.2) fun p8 =>
 .thn p8.2 (sUpd 1 0 p4.1 (.int .u8 7) p8.2) fun p9 =>
 .thn p9.2 (sField (some 4) 0 p9.1 p9.2) fun p10 =>
 .thn p10.2 (sUpd 4 0 p1.1 p10.1 p10.2) fun p11 =>
 (sField (some 4) 0 p11.1 p11.2 >>= fun p12 => .ok [p12.1, (.int .i64 1)]) >>= fun vs => .ok (oneOf vs, p11.2))
 (.thn p7.2 (sBin .eql p6.1 (.int .u8 61) p7.2) fun p13 =>
 .thn p13.2 (sG p13.1 false (.ok (p6.1, p13.2)) p13.2) fun p14 =>
 .thn p14.2 (sG p13.1 false (sBin .eql p14.1 (.int .u8 44) p14.2) p14.2) fun p15 =>
 .thn p15.2 (sPick p13.1 (.bool true) p15.1 p15.2) fun p16 =>
 .thn p16.2 (sG p16.1 false (.ok (p6.1, p16.2)) p16.2) fun p17 =>
 .thn p17.2 (sG p16.1 false (sBin .eql p17.1 (.int .u8 58) p17.2) p17.2) fun p18 =>
 .thn p18.2 (sPick p16.1 (.bool true) p18.1 p18.2) fun p19 =>
 condX p19.1
 (.thn p19.2 (sLref p4.1 p19.2) fun p20 =>
 .thn p20.2 (sUpd 1 0 p4.1 (.int .u8 6) p20.2) fun p21 =>
 .thn p21.2 (sSlice .str p5.1 none (some (.int .i64 1)) none p21.2) fun p22 =>
 .thn p22.2 (sLref p21.1 p22.2) fun p23 =>
 .thn p23.2 (sUpd 1 2 p21.1 p22.1 p23.2) fun p24 =>
 .thn p24.2 (sField (some 4) 0 p24.1 p24.2) fun p25 =>
 .thn p25.2 (sUpd 4 0 p1.1 p25.1 p25.2) fun p26 =>
 (sField (some 4) 0 p26.1 p26.2 >>= fun p27 => .ok [p27.1, (.int .i64 1)]) >>= fun vs => .ok (oneOf vs, p26.2))
 (.thn p19.2 (sBin .eql p6.1 (.int .u8 37) p19.2) fun p28 =>
 .thn p28.2 (sG p28.1 false (.ok (p6.1, p28.2)) p28.2) fun p29 =>
 .thn p29.2 (sG p28.1 false (sBin .eql p29.1 (.int .u8 64) p29.2) p29.2) fun p30 =>
 .thn p30.2 (sPick p28.1 (.bool true) p30.1 p30.2) fun p31 =>
 .thn p31.2 (sG p31.1 false (.ok (p6.1, p31.2)) p31.2) fun p32 =>
 .thn p32.2 (sG p31.1 false (sBin .eql p32.1 (.int .u8 36) p32.2) p32.2) fun p33 =>
 .thn p33.2 (sPick p31.1 (.bool true) p33.1 p33.2) fun p34 =>
 condX p34.1
 (.thn p34.2 (sNewMap p34.2) fun p35 =>
 .thn p35.2 (sMapSet (.cell .int) p35.1 (.int .u8 37) (.int .u8 2) p35.2) fun p36 =>
 .thn p36.2 (sMapSet (.cell .int) p35.1 (.int .u8 64) (.int .u8 3) p36.2) fun p37 =>
 .thn p37.2 (sMapSet (.cell .int) p35.1 (.int .u8 36) (.int .u8 4) p37.2) fun p38 =>
 .thn p38.2 (sLook (.cell .int) (.int .u8 0) false p35.1 p6.1 p38.2) fun p39 =>
 .thn p39.2 (sLref p4.1 p39.2) fun p40 =>
 .thn p40.2 (sUpd 1 0 p4.1 p39.1 p40.2) fun p41 =>
 .thn p41.2 (sSlice .str p5.1 (some (.int .i64 1)) none none p41.2) fun p42 =>
 .thn p42.2 (K.go (.call n_lex_digits [p42.1]) p42.2) fun p43 =>
 .thn p43.2 (sBin .add (.int .i64 1) p43.1 p43.2) fun p44 =>
 .thn p44.2 (sSlice .str p5.1 (some (.int .i64 1)) (some p44.1) none p44.2) fun p45 =>
 .thn p45.2 (K.go (.call n_lex_number [p45.1]) p45.2) fun p46 =>
 .thn p46.2 (sExtract p46.1 0 p46.2) fun p47 =>
 .thn p47.2 (sExtract p46.1 1 p47.2) fun p48 =>
 .thn p48.2 (sBin .eql p48.1 (.int .i64 0) p48.2) fun p49 =>
 condX p49.1
 (.thn p49.2 (sField (some 4) 0 p41.1 p49.2) fun p50 =>
 .thn p50.2 (sUpd 4 0 p1.1 p50.1 p50.2) fun p51 =>
 (sField (some 4) 0 p51.1 p51.2 >>= fun p52 => .ok [p52.1, (.int .i64 0)]) >>= fun vs => .ok (oneOf vs, p51.2))
 (lex_next_j0 J p1.1 p41.1 p47.1 p48.1 p49.2))
 (.thn p34.2 (K.go (.call n_lex_letters [p5.1]) p34.2) fun p53 =>
 .thn p53.2 (sBin .gtr p53.1 (.int .i64 0) p53.2) fun p54 =>
 condX p54.1
 (.thn p54.2 (K.go (.call n_lex_letters [p5.1]) p54.2) fun p55 =>
 .thn p55.2 (sLref p4.1 p55.2) fun p56 =>
 .thn p56.2 (sUpd 1 0 p4.1 (.int .u8 1) p56.2) fun p57 =>
 .thn p57.2 (sSlice .str p5.1 none (some p55.1) none p57.2) fun p58 =>
 .thn p58.2 (sLref p57.1 p58.2) fun p59 =>
 .thn p59.2 (sUpd 1 2 p57.1 p58.1 p59.2) fun p60 =>
 .thn p60.2 (sField (some 4) 0 p60.1 p60.2) fun p61 =>
 .thn p61.2 (sUpd 4 0 p1.1 p61.1 p61.2) fun p62 =>
 (sField (some 4) 0 p62.1 p62.2 >>= fun p63 => .ok [p63.1, p55.1]) >>= fun vs => .ok (oneOf vs, p62.2))
 (lex_next_j1 J p1.1 p4.1 p5.1 p54.2))))) := by kernel_rfl
theorem lex_next_of : Of2 n_lex_next lex_next_c := fun hF => call_of hF lex_next_is rfl
theorem lex_next_j0_eq (hJ : IsJ K (retK lex_next_c.results) J) (v4 v6 v10 v11 : Value) (st : St) : lex_next_j0 J v4 v6 v10 v11 st =
 (.thn st (sLref v6 st) fun p1 =>
 .thn p1.2 (sUpd 1 3 v6 v10 p1.2) fun p2 =>
 .thn p2.2 (sField (some 4) 0 p2.1 p2.2) fun p3 =>
 .thn p3.2 (sBin .add v11 (.int .i64 1) p3.2) fun p4 =>
 .thn p4.2 (sUpd 4 0 v4 p3.1 p4.2) fun p5 =>
 (sField (some 4) 0 p5.1 p5.2 >>= fun p6 => .ok [p6.1, p4.1]) >>= fun vs => .ok (oneOf vs, p5.2)) := gq hJ (by kernel_rfl)
theorem lex_next_j1_eq (hJ : IsJ K (retK lex_next_c.results) J) (v4 v6 v7 : Value) (st : St) : lex_next_j1 J v4 v6 v7 st =
 (.thn st (K.go (.call n_lex_number [v7]) st) fun p1 =>
 .thn p1.2 (sExtract p1.1 0 p1.2) fun p2 =>
 .thn p2.2 (sExtract p1.1 1 p2.2) fun p3 =>
 .thn p3.2 (sLref v6 p3.2) fun p4 =>
 .thn p4.2 (sUpd 1 0 v6 (.int .u8 5) p4.2) fun p5 =>
 .thn p5.2 (sLref p5.1 p5.2) fun p6 =>
 .thn p6.2 (sUpd 1 3 p5.1 p2.1 p6.2) fun p7 =>
 .thn p7.2 (sField (some 4) 0 p7.1 p7.2) fun p8 =>
 .thn p8.2 (sUpd 4 0 v4 p8.1 p8.2) fun p9 =>
 (sField (some 4) 0 p9.1 p9.2 >>= fun p10 => .ok [p10.1, p3.1]) >>= fun vs => .ok (oneOf vs, p9.2)) := gq hJ (by kernel_rfl)
open C in
def parse_reader_label_c : AFun := ⟨5, [.tmp 2],
 (s (.ops [o 2 (.mv (c (i 0)))])
 (s (.ops [o 3 (.mv (t 0)), o 4 (.call (f 63) [(t 3), (c (u 3)), (c (i 100000))]), o 2 (.mv (t 4))])
 .ret))⟩
theorem parse_reader_label_is : pgF n_parse_reader_label = some parse_reader_label_c := by kernel_rfl
theorem parse_reader_label_eq (K : Ctx) (J : JT (Value × St)) (a0 : Value) (st : St) : atX K J parse_reader_label_c (AM.start [a0]) st =
 (.thn st (K.go (.call n_parse_reader_below [a0, (.int .u8 3), (.int .i64 100000)]) st) fun p1 =>
 .ok (p1.1, p1.2)) := by kernel_rfl
theorem parse_reader_label_of : Of1 n_parse_reader_label parse_reader_label_c := fun hF => call_of hF parse_reader_label_is rfl
open C in
def parse_reader_last_c : AFun := ⟨1, [.part 2 (some 4), .tmp 3],
 (s (.ops [o 2 (.lnew [(u 0), (i 0), (i 0), (i 0)]), o 3 (.mv (c (.bool false)))])
 (s (.ops [o 4 (.lnew [(u 0), (i 0), (i 0), (i 0)])])
 (s (s (.ops [o 5 (.mv (t 0)), o 6 (.call (f 64) [(t 5)])])
 (.block 0 (s (.ops [o 9 (.bin .eql (t 6) (c (.string (bstr [106, 117, 109, 112])))), o 8 (.mv (t 9))])
 (.cond (t 8) (s (.ops [o 10 (.mv (t 0)), o 11 (.nilc (t 10)), o 12 (.off 1 (t 11)), o 13 (.load none (t 12)), o 14 (.bin .add (t 13) (c (i 1))), o 15 (.nilc (t 10)), o 16 (.off 1 (t 15)), n (.store 1 (t 16) (t 14))])
 (.ops [o 17 (.mv (t 0)), o 18 (.call (f 56) [(t 17)]), o 19 (.lref (t 4)), o 4 (.upd 1 2 (t 4) (t 18))])) (s (.ops [o 21 (.bin .eql (t 6) (c (.string (bstr [98, 114])))), o 20 (.mv (t 21))])
 (.cond (t 20) (s (.ops [o 22 (.mv (t 0)), o 23 (.nilc (t 22)), o 24 (.off 1 (t 23)), o 25 (.load none (t 24)), o 26 (.bin .add (t 25) (c (i 1))), o 27 (.nilc (t 22)), o 28 (.off 1 (t 27)), n (.store 1 (t 28) (t 26))])
 (s (.ops [o 29 (.mv (t 0)), o 30 (.call (f 65) [(t 29)]), o 31 (.lref (t 4)), o 4 (.upd 1 0 (t 4) (c (u 1))), o 32 (.lref (t 4)), o 4 (.upd 1 1 (t 4) (t 30))])
 (s (.ops [o 33 (.mv (t 0)), o 34 (.call (f 47) [(t 33), (c (u 6)), (c (.string (bstr [44])))])])
 (s (.ops [o 35 (.mv (t 0)), o 36 (.call (f 56) [(t 35)]), o 37 (.lref (t 4)), o 4 (.upd 1 2 (t 4) (t 36))])
 (s (.ops [o 38 (.mv (t 0)), o 39 (.call (f 47) [(t 38), (c (u 6)), (c (.string (bstr [44])))])])
 (.ops [o 40 (.mv (t 0)), o 41 (.call (f 56) [(t 40)]), o 42 (.lref (t 4)), o 4 (.upd 1 3 (t 4) (t 41))])))))) (s (.ops [o 44 (.bin .eql (t 6) (c (.string (bstr [114, 101, 116])))), o 43 (.mv (t 44))])
 (.cond (t 43) (s (.ops [o 45 (.mv (t 0)), o 46 (.nilc (t 45)), o 47 (.off 1 (t 46)), o 48 (.load none (t 47)), o 49 (.bin .add (t 48) (c (i 1))), o 50 (.nilc (t 45)), o 51 (.off 1 (t 50)), n (.store 1 (t 51) (t 49))])
 (.ops [o 52 (.mv (t 0)), o 53 (.call (f 65) [(t 52)]), o 54 (.lref (t 4)), o 4 (.upd 1 0 (t 4) (c (u 2))), o 55 (.lref (t 4)), o 4 (.upd 1 1 (t 4) (t 53))])) (s (.ops [o 57 (.bin .eql (t 6) (c (.string (bstr [116, 114, 97, 112])))), o 56 (.mv (t 57))])
 (.cond (t 56) (s (.ops [o 58 (.mv (t 0)), o 59 (.nilc (t 58)), o 60 (.off 1 (t 59)), o 61 (.load none (t 60)), o 62 (.bin .add (t 61) (c (i 1))), o 63 (.nilc (t 58)), o 64 (.off 1 (t 63)), n (.store 1 (t 64) (t 62))])
 (.ops [o 65 (.lref (t 4)), o 4 (.upd 1 0 (t 4) (c (u 3)))])) (s (.ops [o 7 (.field (some 4) 0 (t 4)), o 2 (.upd 4 0 (t 2) (t 7)), o 3 (.mv (c (.bool false)))])
 .ret)))))))))))
 (s (.keep [2, 4])
 (s (.ops [o 66 (.field (some 4) 0 (t 4)), o 2 (.upd 4 0 (t 2) (t 66)), o 3 (.mv (c (.bool true)))])
 .ret)))))⟩
theorem parse_reader_last_is : pgF n_parse_reader_last = some parse_reader_last_c := by kernel_rfl
def parse_reader_last_j0 (J : JT (Value × St)) (v2 v4 : Value) (st : St) := goX J parse_reader_last_c.body [1, 1, 1, 1] (envT [(2, v2), (4, v4)]) st
theorem parse_reader_last_eq (K : Ctx) (J : JT (Value × St)) (a0 : Value) (st : St) : atX K J parse_reader_last_c (AM.start [a0]) st =
 (.thn st (sLnew [(.int .u8 0), (.int .i64 0), (.int .i64 0), (.int .i64 0)] st) fun p1 =>
 .thn p1.2 (sLnew [(.int .u8 0), (.int .i64 0), (.int .i64 0), (.int .i64 0)] p1.2) fun p2 =>
 .thn p2.2 (K.go (.call n_parse_reader_word [a0]) p2.2) fun p3 =>
 .thn p3.2 (sBin .eql p3.1 (.string (bstr [106, 117, 109, 112])) p3.2) fun p4 =>
 condX p4.1
 (.thn p4.2 (sNilc a0 p4.2) fun p5 =>
 .thn p5.2 (sOff 1 p5.1 p5.2) fun p6 =>
 .thn p6.2 (sLoad none p6.1 p6.2) fun p7 =>
 .thn p7.2 (sBin .add p7.1 (.int .i64 1) p7.2) fun p8 =>
 .thn p8.2 (sNilc a0 p8.2) fun p9 =>
 .thn p9.2 (sOff 1 p9.1 p9.2) fun p10 =>
 .thn p10.2 (sStore 1 p10.1 p8.1 p10.2) fun p11 =>
 .thn p11.2 (K.go (.call n_parse_reader_label [a0]) p11.2) fun p12 =>
 .thn p12.2 (sLref p2.1 p12.2) fun p13 =>
 .thn p13.2 (sUpd 1 2 p2.1 p12.1 p13.2) fun p14 =>
 parse_reader_last_j0 J p1.1 p14.1 p14.2)
 (.thn p4.2 (sBin .eql p3.1 (.string (bstr [98, 114])) p4.2) fun p15 =>
 condX p15.1
 (.thn p15.2 (sNilc a0 p15.2) fun p16 =>
 .thn p16.2 (sOff 1 p16.1 p16.2) fun p17 =>
 .thn p17.2 (sLoad none p17.1 p17.2) fun p18 =>
 .thn p18.2 (sBin .add p18.1 (.int .i64 1) p18.2) fun p19 =>
 .thn p19.2 (sNilc a0 p19.2) fun p20 =>
 .thn p20.2 (sOff 1 p20.1 p20.2) fun p21 =>
 .thn p21.2 (sStore 1 p21.1 p19.1 p21.2) fun p22 =>
 .thn p22.2 (K.go (.call n_parse_reader_reg [a0]) p22.2) fun p23 =>
 .thn p23.2 (sLref p2.1 p23.2) fun p24 =>
 .thn p24.2 (sUpd 1 0 p2.1 (.int .u8 1) p24.2) fun p25 =>
 .thn p25.2 (sLref p25.1 p25.2) fun p26 =>
 .thn p26.2 (sUpd 1 1 p25.1 p23.1 p26.2) fun p27 =>
 .thn p27.2 (K.go (.call n_parse_reader_take [a0, (.int .u8 6), (.string (bstr [44]))]) p27.2) fun p28 =>
 .thn p28.2 (K.go (.call n_parse_reader_label [a0]) p28.2) fun p29 =>
 .thn p29.2 (sLref p27.1 p29.2) fun p30 =>
 .thn p30.2 (sUpd 1 2 p27.1 p29.1 p30.2) fun p31 =>
 .thn p31.2 (K.go (.call n_parse_reader_take [a0, (.int .u8 6), (.string (bstr [44]))]) p31.2) fun p32 =>
 .thn p32.2 (K.go (.call n_parse_reader_label [a0]) p32.2) fun p33 =>
 .thn p33.2 (sLref p31.1 p33.2) fun p34 =>
 .thn p34.2 (sUpd 1 3 p31.1 p33.1 p34.2) fun p35 =>
 parse_reader_last_j0 J p1.1 p35.1 p35.2)
 (.thn p15.2 (sBin .eql p3.1 (.string (bstr [114, 101, 116])) p15.2) fun p36 =>
 condX p36.1
 (.thn p36.2 (sNilc a0 p36.2) fun p37 =>
 .thn p37.2 (sOff 1 p37.1 p37.2) fun p38 =>
 .thn p38.2 (sLoad none p38.1 p38.2) fun p39 =>
 .thn p39.2 (sBin .add p39.1 (.int .i64 1) p39.2) fun p40 =>
 .thn p40.2 (sNilc a0 p40.2) fun p41 =>
 .thn p41.2 (sOff 1 p41.1 p41.2) fun p42 =>
 .thn p42.2 (sStore 1 p42.1 p40.1 p42.2) fun p43 =>
 .thn p43.2 (K.go (.call n_parse_reader_reg [a0]) p43.2) fun p44 =>
 .thn p44.2 (sLref p2.1 p44.2) fun p45 =>
 .thn p45.2 (sUpd 1 0 p2.1 (.int .u8 2) p45.2) fun p46 =>
 .thn p46.2 (sLref p46.1 p46.2) fun p47 =>
 .thn p47.2 (sUpd 1 1 p46.1 p44.1 p47.2) fun p48 =>
 parse_reader_last_j0 J p1.1 p48.1 p48.2)
 (.thn p36.2 (sBin .eql p3.1 (.string (bstr [116, 114, 97, 112])) p36.2) fun p49 =>
 condX p49.1
 (.thn p49.2 (sNilc a0 p49.2) fun p50 =>
 .thn p50.2 (sOff 1 p50.1 p50.2) fun p51 =>
 .thn p51.2 (sLoad none p51.1 p51.2) fun p52 =>
 .thn p52.2 (sBin .add p52.1 (.int .i64 1) p52.2) fun p53 =>
 .thn p53.2 (sNilc a0 p53.2) fun p54 =>
 .thn p54.2 (sOff 1 p54.1 p54.2) fun p55 =>
 .thn p55.2 (sStore 1 p55.1 p53.1 p55.2) fun p56 =>
 .thn p56.2 (sLref p2.1 p56.2) fun p57 =>
 .thn p57.2 (sUpd 1 0 p2.1 (.int .u8 3) p57.2) fun p58 =>
 parse_reader_last_j0 J p1.1 p58.1 p58.2)
 (.thn p49.2 (sField (some 4) 0 p2.1 p49.2) fun p59 =>
 .thn p59.2 (sUpd 4 0 p1.1 p59.1 p59.2) fun p60 =>
 (sField (some 4) 0 p60.1 p60.2 >>= fun p61 => .ok [p61.1, (.bool false)]) >>= fun vs => .ok (oneOf vs, p60.2)))))) := by kernel_rfl
theorem parse_reader_last_of : Of1 n_parse_reader_last parse_reader_last_c := fun hF => call_of hF parse_reader_last_is rfl
theorem parse_reader_last_j0_eq (hJ : IsJ K (retK parse_reader_last_c.results) J) (v2 v4 : Value) (st : St) : parse_reader_last_j0 J v2 v4 st =
 (.thn st (sField (some 4) 0 v4 st) fun p1 =>
 .thn p1.2 (sUpd 4 0 v2 p1.1 p1.2) fun p2 =>
 (sField (some 4) 0 p2.1 p2.2 >>= fun p3 => .ok [p3.1, (.bool true)]) >>= fun vs => .ok (oneOf vs, p2.2)) := gq hJ (by kernel_rfl)
open C in
def parse_reader_instr_c : AFun := ⟨1, [.part 2 (some 7)],
 (s (.ops [o 2 (.lnew [(u 0), (u 0), (i 0), (i 0), (i 0), (i 0), (i 0)])])
 (s (s (.ops [o 7 (.mv (t 0)), o 8 (.call (f 64) [(t 7)])])
 (.block 0 (s (.ops [o 10 (.bin .eql (t 8) (c (.string (bstr [111, 117, 116])))), o 9 (.mv (t 10))])
 (.cond (t 9) (s (.ops [o 11 (.mv (t 0)), o 12 (.nilc (t 11)), o 13 (.off 1 (t 12)), o 14 (.load none (t 13)), o 15 (.bin .add (t 14) (c (i 1))), o 16 (.nilc (t 11)), o 17 (.off 1 (t 16)), n (.store 1 (t 17) (t 15))])
 (s (.ops [o 18 (.mv (t 0)), o 19 (.call (f 65) [(t 18)]), o 20 (.build [(u 0), (u 0), (i 0), (i 0), (i 0), (i 0), (i 0)] [(0, 1, (c (u 4))), (3, 1, (t 19))]), o 2 (.upd 7 0 (t 2) (t 20))])
 .ret)) (s (.ops [o 22 (.bin .eql (t 8) (c (.string (bstr [115, 116, 111, 114, 101])))), o 21 (.mv (t 22))])
 (.cond (t 21) (s (.ops [o 23 (.mv (t 0)), o 24 (.nilc (t 23)), o 25 (.off 1 (t 24)), o 26 (.load none (t 25)), o 27 (.bin .add (t 26) (c (i 1))), o 28 (.nilc (t 23)), o 29 (.off 1 (t 28)), n (.store 1 (t 29) (t 27))])
 (s (.ops [o 30 (.mv (t 0)), o 31 (.call (f 63) [(t 30), (c (u 4)), (c (i 16))]), o 32 (.build [(u 0), (u 0), (i 0), (i 0), (i 0), (i 0), (i 0)] [(0, 1, (c (u 6))), (6, 1, (t 31))]), o 3 (.lnew [(u 0), (u 0), (i 0), (i 0), (i 0), (i 0), (i 0)]), o 3 (.upd 7 0 (t 3) (t 32))])
 (s (.ops [o 33 (.mv (t 0)), o 34 (.call (f 47) [(t 33), (c (u 6)), (c (.string (bstr [44])))])])
 (s (.ops [o 35 (.mv (t 0)), o 36 (.call (f 65) [(t 35)]), o 37 (.lref (t 3)), o 3 (.upd 1 3 (t 3) (t 36))])
 (s (.ops [o 38 (.field (some 7) 0 (t 3)), o 2 (.upd 7 0 (t 2) (t 38))])
 .ret))))) (s (.ops [o 40 (.bin .eql (t 8) (c (.string (bstr [112, 117, 116])))), o 39 (.mv (t 40))])
 (.cond (t 39) (s (.ops [o 41 (.mv (t 0)), o 42 (.nilc (t 41)), o 43 (.off 1 (t 42)), o 44 (.load none (t 43)), o 45 (.bin .add (t 44) (c (i 1))), o 46 (.nilc (t 41)), o 47 (.off 1 (t 46)), n (.store 1 (t 47) (t 45))])
 (s (.ops [o 48 (.mv (t 0)), o 49 (.call (f 65) [(t 48)]), o 50 (.build [(u 0), (u 0), (i 0), (i 0), (i 0), (i 0), (i 0)] [(0, 1, (c (u 8))), (3, 1, (t 49))]), o 4 (.lnew [(u 0), (u 0), (i 0), (i 0), (i 0), (i 0), (i 0)]), o 4 (.upd 7 0 (t 4) (t 50))])
 (s (.ops [o 51 (.mv (t 0)), o 52 (.call (f 47) [(t 51), (c (u 6)), (c (.string (bstr [44])))])])
 (s (.ops [o 53 (.mv (t 0)), o 54 (.call (f 65) [(t 53)]), o 55 (.lref (t 4)), o 4 (.upd 1 4 (t 4) (t 54))])
 (s (.ops [o 56 (.field (some 7) 0 (t 4)), o 2 (.upd 7 0 (t 2) (t 56))])
 .ret))))) .skip))))))))
 (s (.keep [0, 2])
 (s (.ops [o 57 (.mv (t 0)), o 58 (.call (f 65) [(t 57)]), o 5 (.mv (t 58))])
 (s (.ops [o 59 (.mv (t 0)), o 60 (.call (f 47) [(t 59), (c (u 6)), (c (.string (bstr [61])))])])
 (s (.ops [o 61 (.mv (t 0)), o 62 (.call (f 66) [(t 61)]), o 6 (.lnew [(u 0), (u 0), (i 0), (i 0), (i 0), (i 0), (i 0)]), o 6 (.upd 7 0 (t 6) (t 62))])
 (s (.ops [o 63 (.mv (t 5)), o 64 (.lref (t 6)), o 6 (.upd 1 2 (t 6) (t 63))])
 (s (s (.ops [o 65 (.mv (t 0)), o 66 (.nilc (t 65)), o 67 (.off 3 (t 66)), o 68 (.load none (t 67)), o 69 (.bin .neq (t 68) (c (i 0)))])
 (.cond (t 69) (s (.ops [o 70 (.build [(u 0), (u 0), (i 0), (i 0), (i 0), (i 0), (i 0)] []), o 2 (.upd 7 0 (t 2) (t 70))])
 .ret) .skip))
 (s (.keep [2, 6])
 (s (.ops [o 71 (.field (some 7) 0 (t 6)), o 2 (.upd 7 0 (t 2) (t 71))])
 .ret))))))))))⟩
theorem parse_reader_instr_is : pgF n_parse_reader_instr = some parse_reader_instr_c := by kernel_rfl
def parse_reader_instr_j0 (J : JT (Value × St)) (v0 v2 : Value) (st : St) := goX J parse_reader_instr_c.body [1, 1, 1] (envT [(0, v0), (2, v2)]) st
def parse_reader_instr_j1 (J : JT (Value × St)) (v2 v6 : Value) (st : St) := goX J parse_reader_instr_c.body [1, 1, 1, 1, 1, 1, 1, 1, 1] (envT [(2, v2), (6, v6)]) st
theorem parse_reader_instr_eq (K : Ctx) (J : JT (Value × St)) (a0 : Value) (st : St) : atX K J parse_reader_instr_c (AM.start [a0]) st =
 (.thn st (sLnew [(.int .u8 0), (.int .u8 0), (.int .i64 0), (.int .i64 0), (.int .i64 0), (.int .i64 0), (.int .i64 0)] st) fun p1 =>
 .thn p1.2 (K.go (.call n_parse_reader_word [a0]) p1.2) fun p2 =>
 .thn p2.2 (sBin .eql p2.1 (.string (bstr [111, 117, 116])) p2.2) fun p3 =>
 condX p3.1
 (.thn p3.2 (sNilc a0 p3.2) fun p4 =>
 .thn p4.2 (sOff 1 p4.1 p4.2) fun p5 =>
 .thn p5.2 (sLoad none p5.1 p5.2) fun p6 =>
 .thn p6.2 (sBin .add p6.1 (.int .i64 1) p6.2) fun p7 =>
 .thn p7.2 (sNilc a0 p7.2) fun p8 =>
 .thn p8.2 (sOff 1 p8.1 p8.2) fun p9 =>
 .thn p9.2 (sStore 1 p9.1 p7.1 p9.2) fun p10 =>
 .thn p10.2 (K.go (.call n_parse_reader_reg [a0]) p10.2) fun p11 =>
 .thn p11.2 (sBuild [(.int .u8 0), (.int .u8 0), (.int .i64 0), (.int .i64 0), (.int .i64 0), (.int .i64 0), (.int .i64 0)] [(0, 1, (.int .u8 4)), (3, 1, p11.1)] p11.2) fun p12 =>
 .thn p12.2 (sUpd 7 0 p1.1 p12.1 p12.2) fun p13 =>
 (sField (some 7) 0 p13.1 p13.2 >>= fun p14 => .ok [p14.1]) >>= fun vs => .ok (oneOf vs, p13.2))
 (.thn p3.2 (sBin .eql p2.1 (.string (bstr [115, 116, 111, 114, 101])) p3.2) fun p15 =>
 condX p15.1
 (.thn p15.2 (sNilc a0 p15.2) fun p16 =>
 .thn p16.2 (sOff 1 p16.1 p16.2) fun p17 =>
 .thn p17.2 (sLoad none p17.1 p17.2) fun p18 =>
 .thn p18.2 (sBin .add p18.1 (.int .i64 1) p18.2) fun p19 =>
 .thn p19.2 (sNilc a0 p19.2) fun p20 =>
 .thn p20.2 (sOff 1 p20.1 p20.2) fun p21 =>
 .thn p21.2 (sStore 1 p21.1 p19.1 p21.2) fun p22 =>
 .thn p22.2 (K.go (.call n_parse_reader_below [a0, (.int .u8 4), (.int .i64 16)]) p22.2) fun p23 =>
 .thn p23.2 (sBuild [(.int .u8 0), (.int .u8 0), (.int .i64 0), (.int .i64 0), (.int .i64 0), (.int .i64 0), (.int .i64 0)] [(0, 1, (.int .u8 6)), (6, 1, p23.1)] p23.2) fun p24 =>
 .thn p24.2 (sLnew [(.int .u8 0), (.int .u8 0), (.int .i64 0), (.int .i64 0), (.int .i64 0), (.int .i64 0), (.int .i64 0)] p24.2) fun p25 =>
 .thn p25.2 (sUpd 7 0 p25.1 p24.1 p25.2) fun p26 =>
 .thn p26.2 (K.go (.call n_parse_reader_take [a0, (.int .u8 6), (.string (bstr [44]))]) p26.2) fun p27 =>
 .thn p27.2 (K.go (.call n_parse_reader_reg [a0]) p27.2) fun p28 =>
 .thn p28.2 (sLref p26.1 p28.2) fun p29 =>
 .thn p29.2 (sUpd 1 3 p26.1 p28.1 p29.2) fun p30 =>
 .thn p30.2 (sField (some 7) 0 p30.1 p30.2) fun p31 =>
 .thn p31.2 (sUpd 7 0 p1.1 p31.1 p31.2) fun p32 =>
 (sField (some 7) 0 p32.1 p32.2 >>= fun p33 => .ok [p33.1]) >>= fun vs => .ok (oneOf vs, p32.2))
 (.thn p15.2 (sBin .eql p2.1 (.string (bstr [112, 117, 116])) p15.2) fun p34 =>
 condX p34.1
 (.thn p34.2 (sNilc a0 p34.2) fun p35 =>
 .thn p35.2 (sOff 1 p35.1 p35.2) fun p36 =>
 .thn p36.2 (sLoad none p36.1 p36.2) fun p37 =>
 .thn p37.2 (sBin .add p37.1 (.int .i64 1) p37.2) fun p38 =>
 .thn p38.2 (sNilc a0 p38.2) fun p39 =>
 .thn p39.2 (sOff 1 p39.1 p39.2) fun p40 =>
 .thn p40.2 (sStore 1 p40.1 p38.1 p40.2) fun p41 =>
 .thn p41.2 (K.go (.call n_parse_reader_reg [a0]) p41.2) fun p42 =>
 .thn p42.2 (sBuild [(.int .u8 0), (.int .u8 0), (.int .i64 0), (.int .i64 0), (.int .i64 0), (.int .i64 0), (.int .i64 0)] [(0, 1, (.int .u8 8)), (3, 1, p42.1)] p42.2) fun p43 =>
 .thn p43.2 (sLnew [(.int .u8 0), (.int .u8 0), (.int .i64 0), (.int .i64 0), (.int .i64 0), (.int .i64 0), (.int .i64 0)] p43.2) fun p44 =>
 .thn p44.2 (sUpd 7 0 p44.1 p43.1 p44.2) fun p45 =>
 .thn p45.2 (K.go (.call n_parse_reader_take [a0, (.int .u8 6), (.string (bstr [44]))]) p45.2) fun p46 =>
 .thn p46.2 (K.go (.call n_parse_reader_reg [a0]) p46.2) fun p47 =>
 .thn p47.2 (sLref p45.1 p47.2) fun p48 =>
 .thn p48.2 (sUpd 1 4 p45.1 p47.1 p48.2) fun p49 =>
 .thn p49.2 (sField (some 7) 0 p49.1 p49.2) fun p50 =>
 .thn p50.2 (sUpd 7 0 p1.1 p50.1 p50.2) fun p51 =>
 (sField (some 7) 0 p51.1 p51.2 >>= fun p52 => .ok [p52.1]) >>= fun vs => .ok (oneOf vs, p51.2))
 (parse_reader_instr_j0 J a0 p1.1 p34.2)))) := by kernel_rfl
theorem parse_reader_instr_of : Of1 n_parse_reader_instr parse_reader_instr_c := fun hF => call_of hF parse_reader_instr_is rfl
theorem parse_reader_instr_j0_eq (hJ : IsJ K (retK parse_reader_instr_c.results) J) (v0 v2 : Value) (st : St) : parse_reader_instr_j0 J v0 v2 st =
 (.thn st (K.go (.call n_parse_reader_reg [v0]) st) fun p1 =>
 .thn p1.2 (K.go (.call n_parse_reader_take [v0, (.int .u8 6), (.string (bstr [61]))]) p1.2) fun p2 =>
 .thn p2.2 (K.go (.call n_parse_reader_right [v0]) p2.2) fun p3 =>
 .thn p3.2 (sLnew [(.int .u8 0), (.int .u8 0), (.int .i64 0), (.int .i64 0), (.int .i64 0), (.int .i64 0), (.int .i64 0)] p3.2) fun p4 =>
 .thn p4.2 (sUpd 7 0 p4.1 p3.1 p4.2) fun p5 =>
 .thn p5.2 (sLref p5.1 p5.2) fun p6 =>
 .thn p6.2 (sUpd 1 2 p5.1 p1.1 p6.2) fun p7 =>
 .thn p7.2 (sNilc v0 p7.2) fun p8 =>
 .thn p8.2 (sOff 3 p8.1 p8.2) fun p9 =>
 .thn p9.2 (sLoad none p9.1 p9.2) fun p10 =>
 .thn p10.2 (sBin .neq p10.1 (.int .i64 0) p10.2) fun p11 =>
 condX p11.1
 (.thn p11.2 (sBuild [(.int .u8 0), (.int .u8 0), (.int .i64 0), (.int .i64 0), (.int .i64 0), (.int .i64 0), (.int .i64 0)] [] p11.2) fun p12 =>
 .thn p12.2 (sUpd 7 0 v2 p12.1 p12.2) fun p13 =>
 (sField (some 7) 0 p13.1 p13.2 >>= fun p14 => .ok [p14.1]) >>= fun vs => .ok (oneOf vs, p13.2))
 (parse_reader_instr_j1 J v2 p7.1 p11.2)) := gq hJ (by kernel_rfl)
theorem parse_reader_instr_j1_eq (hJ : IsJ K (retK parse_reader_instr_c.results) J) (v2 v6 : Value) (st : St) : parse_reader_instr_j1 J v2 v6 st =
 (.thn st (sField (some 7) 0 v6 st) fun p1 =>
 .thn p1.2 (sUpd 7 0 v2 p1.1 p1.2) fun p2 =>
 (sField (some 7) 0 p2.1 p2.2 >>= fun p3 => .ok [p3.1]) >>= fun vs => .ok (oneOf vs, p2.2)) := gq hJ (by kernel_rfl)
open C in
def parse_reader_fail_c : AFun := ⟨27, [],
 (s (.ops [o 4 (.mv (t 0)), o 5 (.nilc (t 4)), o 6 (.off 3 (t 5)), o 7 (.load none (t 6)), o 8 (.bin .eql (t 7) (c (i 0)))])
 (.cond (t 8) (.draw [d 0 0 false (o 9 (.mv (t 0))), d 2 0 false (o 11 (.mv (t 0))), d 3 0 false (o 12 (.nilc (t 11))), d 4 0 false (o 13 (.off 0 (t 12))), d 5 0 false (o 14 (.load none (t 13))), d 6 0 false (o 15 (.mv (t 0))), d 7 0 false (o 16 (.nilc (t 15))), d 8 0 false (o 17 (.off 1 (t 16))), d 9 0 false (o 18 (.load none (t 17))), d 10 0 false (o 19 (.ixA 4 none (t 14) (t 18))), d 11 0 false (o 20 (.off 1 (t 19))), d 12 0 false (o 21 (.load none (t 20))), d 14 0 false (o 23 (.nilc (t 9))), d 15 0 false (o 24 (.off 2 (t 23))), d 16 0 true (n (.store 1 (t 24) (t 21))), d 1 0 false (o 10 (.mv (t 0))), d 13 0 false (o 22 (.mv (t 1))), d 17 0 false (o 25 (.nilc (t 10))), d 18 0 false (o 26 (.off 3 (t 25))), d 19 0 true (n (.store 1 (t 26) (t 22)))]) .skip))⟩
theorem parse_reader_fail_is : pgF n_parse_reader_fail = some parse_reader_fail_c := by kernel_rfl
theorem parse_reader_fail_eq (K : Ctx) (J : JT (Value × St)) (a0 a1 : Value) (st : St) : atX K J parse_reader_fail_c (AM.start [a0, a1]) st =
 (.thn st (sNilc a0 st) fun p1 =>
 .thn p1.2 (sOff 3 p1.1 p1.2) fun p2 =>
 .thn p2.2 (sLoad none p2.1 p2.2) fun p3 =>
 .thn p3.2 (sBin .eql p3.1 (.int .i64 0) p3.2) fun p4 =>
 condX p4.1
 (.thn p4.2 (sNilc a0 p4.2) fun p5 =>
 .thn p5.2 (sOff 0 p5.1 p5.2) fun p6 =>
 .thn p6.2 (sLoad none p6.1 p6.2) fun p7 =>
 .thn p7.2 (sNilc a0 p7.2) fun p8 =>
 .thn p8.2 (sOff 1 p8.1 p8.2) fun p9 =>
 .thn p9.2 (sLoad none p9.1 p9.2) fun p10 =>
 .thn p10.2 (sIxA 4 none p7.1 p10.1 p10.2) fun p11 =>
 .thn p11.2 (sOff 1 p11.1 p11.2) fun p12 =>
 .thn p12.2 (sLoad none p12.1 p12.2) fun p13 =>
 .thn p13.2 (sNilc a0 p13.2) fun p14 =>
 .thn p14.2 (sOff 2 p14.1 p14.2) fun p15 =>
 .thn p15.2 (sStore 1 p15.1 p13.1 p15.2) fun p16 =>
 .thn p16.2 (sNilc a0 p16.2) fun p17 =>
 .thn p17.2 (sOff 3 p17.1 p17.2) fun p18 =>
 .thn p18.2 (sStore 1 p18.1 a1 p18.2) fun p19 =>
 .ok (.tuple #[], p19.2))
 (.ok (.tuple #[], p4.2))) := by kernel_rfl
theorem parse_reader_fail_of : Of2 n_parse_reader_fail parse_reader_fail_c := fun hF => call_of hF parse_reader_fail_is rfl
open C in
def lex_digits_c : AFun := ⟨23, [.tmp 2],
 (s (.ops [o 2 (.mv (c (i 0)))])
 (s (.ops [o 3 (.mv (c (i 0)))])
 (s (.block 0 (s (.keep [0, 3])
 (.loop (s (s (s (.ops [o 4 (.mv (t 3)), o 5 (.mv (t 0)), o 6 (.len .str (t 5)), o 7 (.bin .lss (t 4) (t 6)), o 8 (.mv (t 7)), g 9 true 8 (.mv (t 0)), g 10 true 8 (.mv (t 3)), g 11 true 8 (.ixS (t 9) (t 10)), g 12 true 8 (.bin .geq (t 11) (c (u 48))), o 13 (.pick (t 8) (t 12) (c (.bool false))), o 14 (.mv (t 13)), g 15 true 14 (.mv (t 0)), g 16 true 14 (.mv (t 3)), g 17 true 14 (.ixS (t 15) (t 16)), g 18 true 14 (.bin .leq (t 17) (c (u 57))), o 19 (.pick (t 14) (t 18) (c (.bool false)))])
 (.cond (t 19) .skip (.exit 0)))
 (s (.keep [0, 3])
 (.block 1 (.ops [o 20 (.mv (t 3)), o 21 (.bin .add (t 20) (c (i 1))), o 3 (.mv (t 21))]))))
 (.keep [0, 3])))))
 (s (.keep [3])
 (s (.ops [o 22 (.mv (t 3)), o 2 (.mv (t 22))])
 .ret)))))⟩
theorem lex_digits_is : pgF n_lex_digits = some lex_digits_c := by kernel_rfl
def lex_digits_l0 (J : JT (Value × St)) (v0 v3 : Value) (st : St) := lpX J lex_digits_c.body [1, 1, 0, 0, 1] (envT [(0, v0), (3, v3)]) st
def lex_digits_j0 (J : JT (Value × St)) (v0 v3 : Value) (st : St) := goX J lex_digits_c.body [1, 1, 0, 0, 1, 0, 0, 1, 1] (envT [(0, v0), (3, v3)]) st
def lex_digits_j1 (J : JT (Value × St)) (v3 : Value) (st : St) := goX J lex_digits_c.body [1, 1, 1, 1] (envT [(3, v3)]) st
theorem lex_digits_eq (K : Ctx) (J : JT (Value × St)) (a0 : Value) (st : St) : atX K J lex_digits_c (AM.start [a0]) st =
 (lex_digits_l0 J a0 (.int .i64 0) st) := by kernel_rfl
theorem lex_digits_of : Of1 n_lex_digits lex_digits_c := fun hF => call_of hF lex_digits_is rfl
theorem lex_digits_l0_eq (K : Ctx) (J : JT (Value × St)) (v0 v3 : Value) (st : St) : inX K J (retK lex_digits_c.results) lex_digits_c.body [1, 1, 0, 0, 1] (envT [(0, v0), (3, v3)]) st =
 (.thn st (sLen .str v0 st) fun p1 =>
 .thn p1.2 (sBin .lss v3 p1.1 p1.2) fun p2 =>
 .thn p2.2 (sG p2.1 true (.ok (v0, p2.2)) p2.2) fun p3 =>
 .thn p3.2 (sG p2.1 true (.ok (v3, p3.2)) p3.2) fun p4 =>
 .thn p4.2 (sG p2.1 true (sIxS p3.1 p4.1 p4.2) p4.2) fun p5 =>
 .thn p5.2 (sG p2.1 true (sBin .geq p5.1 (.int .u8 48) p5.2) p5.2) fun p6 =>
 .thn p6.2 (sPick p2.1 p6.1 (.bool false) p6.2) fun p7 =>
 .thn p7.2 (sG p7.1 true (.ok (v0, p7.2)) p7.2) fun p8 =>
 .thn p8.2 (sG p7.1 true (.ok (v3, p8.2)) p8.2) fun p9 =>
 .thn p9.2 (sG p7.1 true (sIxS p8.1 p9.1 p9.2) p9.2) fun p10 =>
 .thn p10.2 (sG p7.1 true (sBin .leq p10.1 (.int .u8 57) p10.2) p10.2) fun p11 =>
 .thn p11.2 (sPick p7.1 p11.1 (.bool false) p11.2) fun p12 =>
 condX p12.1
 (lex_digits_j0 J v0 v3 p12.2)
 (lex_digits_j1 J v3 p12.2)) := by kernel_rfl
theorem lex_digits_l0_of (hF : Fix pgF K) (hJ : IsJ K (retK lex_digits_c.results) J) {v0 v3 : Value} (h : Ok (inX K J (retK lex_digits_c.results) lex_digits_c.body [1, 1, 0, 0, 1] (envT [(0, v0), (3, v3)]) st) Q) : Ok (lex_digits_l0 J v0 v3 st) Q := loop_of hF hJ h
theorem lex_digits_j0_eq (hJ : IsJ K (retK lex_digits_c.results) J) (v0 v3 : Value) (st : St) : lex_digits_j0 J v0 v3 st =
 (.thn st (sBin .add v3 (.int .i64 1) st) fun p1 =>
 lex_digits_l0 J v0 p1.1 p1.2) := gq hJ (by kernel_rfl)
theorem lex_digits_j1_eq (hJ : IsJ K (retK lex_digits_c.results) J) (v3 : Value) (st : St) : lex_digits_j1 J v3 st =
 (.ok (v3, st)) := gq hJ (by kernel_rfl)
open C in
def lex_number_c : AFun := ⟨39, [.tmp 2, .tmp 3],
 (s (.ops [o 2 (.mv (c (i 0))), o 3 (.mv (c (i 0)))])
 (s (.ops [o 4 (.mv (c (i 0)))])
 (s (s (.ops [o 7 (.mv (t 0)), o 8 (.bin .neq (t 7) (c (.string (bstr [])))), o 9 (.mv (t 8)), g 10 true 9 (.mv (t 0)), g 11 true 9 (.ixS (t 10) (c (i 0))), g 12 true 9 (.bin .eql (t 11) (c (u 45))), o 13 (.pick (t 9) (t 12) (c (.bool false)))])
 (.cond (t 13) (.ops [o 4 (.mv (c (i 1)))]) .skip))
 (s (.keep [0, 4])
 (s (.ops [o 14 (.mv (t 4)), o 15 (.mv (t 0)), o 16 (.mv (t 4)), o 17 (.slice .str (t 15) (some (t 16)) none none), o 18 (.call (f 60) [(t 17)]), o 19 (.bin .add (t 14) (t 18)), o 4 (.mv (t 19))])
 (s (.ops [o 21 (.mv (t 0)), o 22 (.mv (t 4)), o 23 (.slice .str (t 21) none (some (t 22)) none), o 24 (.call (f 67) [(t 23), (c (i 10)), (c (i 64))]), o 20 (.mv (t 24)), o 25 (.extract (t 20) 0), o 26 (.extract (t 20) 1), o 5 (.mv (t 25)), o 6 (.mv (t 26))])
 (s (s (.draw [d 0 0 false (o 27 (.mv (t 6))), d 1 0 false (o 28 (.eq true (.nilOf .iface) (t 27) (c .nilIface))), d 2 0 false (o 29 (.mv (t 28))), d 3 0 false (g 30 false 29 (.mv (t 5))), d 4 0 true (g 31 false 29 (.call (f 68) [(t 30), (c (i 10))])), d 5 0 false (g 32 false 29 (.mv (t 0))), d 6 0 false (g 33 false 29 (.mv (t 4))), d 7 0 false (g 34 false 29 (.slice .str (t 32) none (some (t 33)) none)), d 8 0 false (g 35 false 29 (.bin .neq (t 31) (t 34))), d 9 0 false (o 36 (.pick (t 29) (c (.bool true)) (t 35)))])
 (.cond (t 36) (s (.ops [o 2 (.mv (c (i 0))), o 3 (.mv (c (i 0)))])
 .ret) .skip))
 (s (.keep [4, 5])
 (s (.ops [o 37 (.mv (t 5)), o 38 (.mv (t 4)), o 2 (.mv (t 37)), o 3 (.mv (t 38))])
 .ret)))))))))⟩
theorem lex_number_is : pgF n_lex_number = some lex_number_c := by kernel_rfl
def lex_number_j0 (J : JT (Value × St)) (v0 v4 : Value) (st : St) := goX J lex_number_c.body [1, 1, 1, 1] (envT [(0, v0), (4, v4)]) st
def lex_number_j1 (J : JT (Value × St)) (v4 v5 : Value) (st : St) := goX J lex_number_c.body [1, 1, 1, 1, 1, 1, 1, 1] (envT [(4, v4), (5, v5)]) st
theorem lex_number_eq (K : Ctx) (J : JT (Value × St)) (a0 : Value) (st : St) : atX K J lex_number_c (AM.start [a0]) st =
 (.thn st (sBin .neq a0 (.string (bstr [])) st) fun p1 =>
 .thn p1.2 (sG p1.1 true (.ok (a0, p1.2)) p1.2) fun p2 =>
 .thn p2.2 (sG p1.1 true (sIxS p2.1 (.int .i64 0) p2.2) p2.2) fun p3 =>
 .thn p3.2 (sG p1.1 true (sBin .eql p3.1 (.int .u8 45) p3.2) p3.2) fun p4 =>
 .thn p4.2 (sPick p1.1 p4.1 (.bool false) p4.2) fun p5 =>
 condX p5.1
 (lex_number_j0 J a0 (.int .i64 1) p5.2)
 (lex_number_j0 J a0 (.int .i64 0) p5.2)) := by kernel_rfl
theorem lex_number_of : Of1 n_lex_number lex_number_c := fun hF => call_of hF lex_number_is rfl
theorem lex_number_j0_eq (hJ : IsJ K (retK lex_number_c.results) J) (v0 v4 : Value) (st : St) : lex_number_j0 J v0 v4 st =
 (.thn st (sSlice .str v0 (some v4) none none st) fun p1 =>
 .thn p1.2 (K.go (.call n_lex_digits [p1.1]) p1.2) fun p2 =>
 .thn p2.2 (sBin .add v4 p2.1 p2.2) fun p3 =>
 .thn p3.2 (sSlice .str v0 none (some p3.1) none p3.2) fun p4 =>
 .thn p4.2 (K.go (.call n_strconv_ParseInt [p4.1, (.int .i64 10), (.int .i64 64)]) p4.2) fun p5 =>
 .thn p5.2 (sExtract p5.1 0 p5.2) fun p6 =>
 .thn p6.2 (sExtract p5.1 1 p6.2) fun p7 =>
 .thn p7.2 (sEq true (.nilOf .iface) p7.1 .nilIface p7.2) fun p8 =>
 .thn p8.2 (sGo p8.1 false (Res.ok (p6.1, p8.2)) p8.2) fun p9 =>
 .thn p9.2 (gd p8.1 false >>= fun b => bif b then (K.go (.call n_strconv_FormatInt [p9.1, (.int .i64 10)]) p9.2 >>= fun p11 => Res.ok (p11.1, p11.2, p9.2 :: [], p11.2.next)) else Res.ok (skipped, p9.2, [], p7.2.next)) fun p12 =>
 .thn p12.2.1 (sGo p8.1 false (Res.ok (v0, p12.2.1)) p12.2.1) fun p13 =>
 .thn p13.2 (sGo p8.1 false (Res.ok (p3.1, p13.2)) p13.2) fun p15 =>
 .thn p15.2 (sGo p8.1 false (sSlice .str p13.1 none (some p15.1) none p15.2) p15.2) fun p17 =>
 .thn p17.2 (sGo p8.1 false (sBin .neq p12.1 p17.1 p17.2) p17.2) fun p19 =>
 .thn p19.2 (sPick p8.1 (.bool true) p19.1 p19.2) fun p21 =>
 condX p21.1
 (.ok (.tuple #[(.int .i64 0), (.int .i64 0)], p21.2))
 (lex_number_j1 J p3.1 p6.1 p21.2)) := gq hJ (by kernel_rfl)
theorem lex_number_j1_eq (hJ : IsJ K (retK lex_number_c.results) J) (v4 v5 : Value) (st : St) : lex_number_j1 J v4 v5 st =
 (.ok (.tuple #[v5, v4], st)) := gq hJ (by kernel_rfl)
open C in
def lex_letters_c : AFun := ⟨20, [.tmp 2],
 (s (.ops [o 2 (.mv (c (i 0)))])
 (s (s (.ops [o 5 (.mv (t 0)), o 6 (.rangeStr (t 5))])
 (.block 0 (s (.keep [0, 6])
 (.loop (s (s (.ops [o 7 (.nextStr (t 6)), o 8 (.extract (t 7) 0)])
 (s (.cond (t 8) .skip (.exit 0))
 (s (.keep [0, 6, 7])
 (.block 1 (s (.ops [o 9 (.extract (t 7) 1), o 10 (.extract (t 7) 2), o 3 (.mv (t 9)), o 4 (.mv (t 10))])
 (s (.ops [o 11 (.mv (t 4)), o 12 (.bin .lss (t 11) (c (.int .i32 97))), o 13 (.mv (t 12)), g 14 false 13 (.mv (t 4)), g 15 false 13 (.bin .gtr (t 14) (c (.int .i32 122))), o 16 (.pick (t 13) (c (.bool true)) (t 15))])
 (.cond (t 16) (s (.ops [o 17 (.mv (t 3)), o 2 (.mv (t 17))])
 .ret) .skip)))))))
 (.keep [0, 6]))))))
 (s (.keep [0])
 (s (.ops [o 18 (.mv (t 0)), o 19 (.len .str (t 18)), o 2 (.mv (t 19))])
 .ret))))⟩
theorem lex_letters_is : pgF n_lex_letters = some lex_letters_c := by kernel_rfl
def lex_letters_l0 (J : JT (Value × St)) (v0 v6 : Value) (st : St) := lpX J lex_letters_c.body [1, 0, 1, 0, 1] (envT [(0, v0), (6, v6)]) st
def lex_letters_j0 (J : JT (Value × St)) (v0 v6 v7 : Value) (st : St) := goX J lex_letters_c.body [1, 0, 1, 0, 1, 0, 0, 1, 1, 1] (envT [(0, v0), (6, v6), (7, v7)]) st
def lex_letters_j1 (J : JT (Value × St)) (v0 : Value) (st : St) := goX J lex_letters_c.body [1, 1, 1] (envT [(0, v0)]) st
theorem lex_letters_eq (K : Ctx) (J : JT (Value × St)) (a0 : Value) (st : St) : atX K J lex_letters_c (AM.start [a0]) st =
 (.thn st (sRangeStr a0 st) fun p1 =>
 lex_letters_l0 J a0 p1.1 p1.2) := by kernel_rfl
theorem lex_letters_of : Of1 n_lex_letters lex_letters_c := fun hF => call_of hF lex_letters_is rfl
theorem lex_letters_l0_eq (K : Ctx) (J : JT (Value × St)) (v0 v6 : Value) (st : St) : inX K J (retK lex_letters_c.results) lex_letters_c.body [1, 0, 1, 0, 1] (envT [(0, v0), (6, v6)]) st =
 (.thn st (sNextStr v6 st) fun p1 =>
 .thn p1.2 (sExtract p1.1 0 p1.2) fun p2 =>
 condX p2.1
 (lex_letters_j0 J v0 v6 p1.1 p2.2)
 (lex_letters_j1 J v0 p2.2)) := by kernel_rfl
theorem lex_letters_l0_of (hF : Fix pgF K) (hJ : IsJ K (retK lex_letters_c.results) J) {v0 v6 : Value} (h : Ok (inX K J (retK lex_letters_c.results) lex_letters_c.body [1, 0, 1, 0, 1] (envT [(0, v0), (6, v6)]) st) Q) : Ok (lex_letters_l0 J v0 v6 st) Q := loop_of hF hJ h
theorem lex_letters_j0_eq (hJ : IsJ K (retK lex_letters_c.results) J) (v0 v6 v7 : Value) (st : St) : lex_letters_j0 J v0 v6 v7 st =
 (.thn st (sExtract v7 1 st) fun p1 =>
 .thn p1.2 (sExtract v7 2 p1.2) fun p2 =>
 .thn p2.2 (sBin .lss p2.1 (.int .i32 97) p2.2) fun p3 =>
 .thn p3.2 (sG p3.1 false (.ok (p2.1, p3.2)) p3.2) fun p4 =>
 .thn p4.2 (sG p3.1 false (sBin .gtr p4.1 (.int .i32 122) p4.2) p4.2) fun p5 =>
 .thn p5.2 (sPick p3.1 (.bool true) p5.1 p5.2) fun p6 =>
 condX p6.1
 (.ok (p1.1, p6.2))
 (lex_letters_l0 J v0 v6 p6.2)) := gq hJ (by kernel_rfl)
theorem lex_letters_j1_eq (hJ : IsJ K (retK lex_letters_c.results) J) (v0 : Value) (st : St) : lex_letters_j1 J v0 st =
 (.thn st (sLen .str v0 st) fun p1 =>
 .ok (p1.1, p1.2)) := gq hJ (by kernel_rfl)
open C in
def parse_reader_below_c : AFun := ⟨3, [.tmp 6],
 (s (.ops [o 6 (.mv (c (i 0)))])
 (s (.draw [d 0 0 false (o 8 (.mv (t 0))), d 1 0 false (o 9 (.nilc (t 8))), d 2 0 false (o 10 (.off 0 (t 9))), d 3 0 false (o 11 (.load none (t 10))), d 4 0 false (o 12 (.mv (t 0))), d 5 0 false (o 13 (.nilc (t 12))), d 6 0 false (o 14 (.off 1 (t 13))), d 7 0 false (o 15 (.load none (t 14))), d 8 0 false (o 16 (.ixA 4 none (t 11) (t 15))), d 9 0 false (o 17 (.load (some 4) (t 16))), d 10 0 false (o 7 (.lnew [(u 0), (i 0), (.string (bstr [])), (i 0)])), d 11 0 true (o 7 (.upd 4 0 (t 7) (t 17)))])
 (s (s (.ops [o 18 (.mv (t 0)), o 19 (.mv (t 1)), o 20 (.call (f 45) [(t 18), (t 19), (c (.string (bstr [])))]), o 21 (.mv (t 20)), g 22 true 21 (.lref (t 7)), g 23 true 21 (.field none 3 (t 7)), g 24 true 21 (.mv (t 2)), g 25 true 21 (.bin .geq (t 23) (t 24)), o 26 (.pick (t 21) (t 25) (c (.bool false)))])
 (.cond (t 26) (.ops [o 27 (.mv (t 0)), o 28 (.call (f 59) [(t 27), (c (i 2))])]) .skip))
 (s (.keep [0, 1, 7])
 (s (.ops [o 29 (.mv (t 0)), o 30 (.mv (t 1)), o 31 (.call (f 47) [(t 29), (t 30), (c (.string (bstr [])))])])
 (s (s (.ops [o 32 (.mv (t 0)), o 33 (.nilc (t 32)), o 34 (.off 3 (t 33)), o 35 (.load none (t 34)), o 36 (.bin .neq (t 35) (c (i 0)))])
 (.cond (t 36) (s (.ops [o 6 (.mv (c (i 0)))])
 .ret) .skip))
 (s (.keep [7])
 (s (.ops [o 37 (.lref (t 7)), o 38 (.field none 3 (t 7)), o 6 (.mv (t 38))])
 .ret))))))))⟩
theorem parse_reader_below_is : pgF n_parse_reader_below = some parse_reader_below_c := by kernel_rfl
def parse_reader_below_j0 (J : JT (Value × St)) (v0 v1 v7 : Value) (st : St) := goX J parse_reader_below_c.body [1, 1, 1, 1] (envT [(0, v0), (1, v1), (7, v7)]) st
def parse_reader_below_j1 (J : JT (Value × St)) (v7 : Value) (st : St) := goX J parse_reader_below_c.body [1, 1, 1, 1, 1, 1, 1] (envT [(7, v7)]) st
theorem parse_reader_below_eq (K : Ctx) (J : JT (Value × St)) (a0 a1 a2 : Value) (st : St) : atX K J parse_reader_below_c (AM.start [a0, a1, a2]) st =
 (.thn st (sNilc a0 st) fun p1 =>
 .thn p1.2 (sOff 0 p1.1 p1.2) fun p2 =>
 .thn p2.2 (sLoad none p2.1 p2.2) fun p3 =>
 .thn p3.2 (sNilc a0 p3.2) fun p4 =>
 .thn p4.2 (sOff 1 p4.1 p4.2) fun p5 =>
 .thn p5.2 (sLoad none p5.1 p5.2) fun p6 =>
 .thn p6.2 (sIxA 4 none p3.1 p6.1 p6.2) fun p7 =>
 .thn p7.2 (sLoad (some 4) p7.1 p7.2) fun p8 =>
 .thn p8.2 (sLnew [(.int .u8 0), (.int .i64 0), (.string (bstr [])), (.int .i64 0)] p8.2) fun p9 =>
 .thn p9.2 (sUpd 4 0 p9.1 p8.1 p9.2) fun p10 =>
 .thn p10.2 (K.go (.call n_parse_reader_is [a0, a1, (.string (bstr []))]) p10.2) fun p11 =>
 .thn p11.2 (sG p11.1 true (sLref p10.1 p11.2) p11.2) fun p12 =>
 .thn p12.2 (sG p11.1 true (sField none 3 p10.1 p12.2) p12.2) fun p13 =>
 .thn p13.2 (sG p11.1 true (.ok (a2, p13.2)) p13.2) fun p14 =>
 .thn p14.2 (sG p11.1 true (sBin .geq p13.1 p14.1 p14.2) p14.2) fun p15 =>
 .thn p15.2 (sPick p11.1 p15.1 (.bool false) p15.2) fun p16 =>
 condX p16.1
 (.thn p16.2 (K.go (.call n_parse_reader_fail [a0, (.int .i64 2)]) p16.2) fun p17 =>
 parse_reader_below_j0 J a0 a1 p10.1 p17.2)
 (parse_reader_below_j0 J a0 a1 p10.1 p16.2)) := by kernel_rfl
theorem parse_reader_below_of : Of3 n_parse_reader_below parse_reader_below_c := fun hF => call_of hF parse_reader_below_is rfl
theorem parse_reader_below_j0_eq (hJ : IsJ K (retK parse_reader_below_c.results) J) (v0 v1 v7 : Value) (st : St) : parse_reader_below_j0 J v0 v1 v7 st =
 (.thn st (K.go (.call n_parse_reader_take [v0, v1, (.string (bstr []))]) st) fun p1 =>
 .thn p1.2 (sNilc v0 p1.2) fun p2 =>
 .thn p2.2 (sOff 3 p2.1 p2.2) fun p3 =>
 .thn p3.2 (sLoad none p3.1 p3.2) fun p4 =>
 .thn p4.2 (sBin .neq p4.1 (.int .i64 0) p4.2) fun p5 =>
 condX p5.1
 (.ok ((.int .i64 0), p5.2))
 (parse_reader_below_j1 J v7 p5.2)) := gq hJ (by kernel_rfl)
theorem parse_reader_below_j1_eq (hJ : IsJ K (retK parse_reader_below_c.results) J) (v7 : Value) (st : St) : parse_reader_below_j1 J v7 st =
 (.thn st (sLref v7 st) fun p1 =>
 .thn p1.2 (sField none 3 v7 p1.2) fun p2 =>
 .ok (p2.1, p2.2)) := gq hJ (by kernel_rfl)
open C in
def parse_reader_word_c : AFun := ⟨16, [.tmp 2],
 (s (.ops [o 2 (.mv (c (.string (bstr []))))])
 (s (s (.ops [o 3 (.mv (t 0)), o 4 (.call (f 45) [(t 3), (c (u 1)), (c (.string (bstr [])))])])
 (.cond (t 4) (s (.draw [d 0 0 false (o 5 (.mv (t 0))), d 1 0 false (o 6 (.nilc (t 5))), d 2 0 false (o 7 (.off 0 (t 6))), d 3 0 false (o 8 (.load none (t 7))), d 4 0 false (o 9 (.mv (t 0))), d 5 0 false (o 10 (.nilc (t 9))), d 6 0 false (o 11 (.off 1 (t 10))), d 7 0 false (o 12 (.load none (t 11))), d 8 0 false (o 13 (.ixA 4 none (t 8) (t 12))), d 9 0 false (o 14 (.off 2 (t 13))), d 10 0 false (o 15 (.load none (t 14))), d 11 0 false (o 2 (.mv (t 15)))])
 .ret) .skip))
 (s (.keep [])
 (s (.ops [o 2 (.mv (c (.string (bstr []))))])
 .ret))))⟩
theorem parse_reader_word_is : pgF n_parse_reader_word = some parse_reader_word_c := by kernel_rfl
def parse_reader_word_j0 (J : JT (Value × St)) (st : St) := goX J parse_reader_word_c.body [1, 1, 1] (envT []) st
theorem parse_reader_word_eq (K : Ctx) (J : JT (Value × St)) (a0 : Value) (st : St) : atX K J parse_reader_word_c (AM.start [a0]) st =
 (.thn st (K.go (.call n_parse_reader_is [a0, (.int .u8 1), (.string (bstr []))]) st) fun p1 =>
 condX p1.1
 (.thn p1.2 (sNilc a0 p1.2) fun p2 =>
 .thn p2.2 (sOff 0 p2.1 p2.2) fun p3 =>
 .thn p3.2 (sLoad none p3.1 p3.2) fun p4 =>
 .thn p4.2 (sNilc a0 p4.2) fun p5 =>
 .thn p5.2 (sOff 1 p5.1 p5.2) fun p6 =>
 .thn p6.2 (sLoad none p6.1 p6.2) fun p7 =>
 .thn p7.2 (sIxA 4 none p4.1 p7.1 p7.2) fun p8 =>
 .thn p8.2 (sOff 2 p8.1 p8.2) fun p9 =>
 .thn p9.2 (sLoad none p9.1 p9.2) fun p10 =>
 .ok (p10.1, p10.2))
 (parse_reader_word_j0 J p1.2)) := by kernel_rfl
theorem parse_reader_word_of : Of1 n_parse_reader_word parse_reader_word_c := fun hF => call_of hF parse_reader_word_is rfl
theorem parse_reader_word_j0_eq (hJ : IsJ K (retK parse_reader_word_c.results) J) (st : St) : parse_reader_word_j0 J st =
 (.ok ((.string (bstr [])), st)) := gq hJ (by kernel_rfl)
open C in
def parse_reader_reg_c : AFun := ⟨5, [.tmp 2],
 (s (.ops [o 2 (.mv (c (i 0)))])
 (s (.ops [o 3 (.mv (t 0)), o 4 (.call (f 63) [(t 3), (c (u 2)), (c (i 100000))]), o 2 (.mv (t 4))])
 .ret))⟩
theorem parse_reader_reg_is : pgF n_parse_reader_reg = some parse_reader_reg_c := by kernel_rfl
theorem parse_reader_reg_eq (K : Ctx) (J : JT (Value × St)) (a0 : Value) (st : St) : atX K J parse_reader_reg_c (AM.start [a0]) st =
 (.thn st (K.go (.call n_parse_reader_below [a0, (.int .u8 2), (.int .i64 100000)]) st) fun p1 =>
 .ok (p1.1, p1.2)) := by kernel_rfl
theorem parse_reader_reg_of : Of1 n_parse_reader_reg parse_reader_reg_c := fun hF => call_of hF parse_reader_reg_is rfl
open C in
def parse_reader_right_c : AFun := ⟨1, [.part 2 (some 7)],
 (s (.ops [o 2 (.lnew [(u 0), (u 0), (i 0), (i 0), (i 0), (i 0), (i 0)])])
 (s (s (.ops [o 7 (.mv (t 0)), o 8 (.call (f 45) [(t 7), (c (u 5)), (c (.string (bstr [])))])])
 (.cond (t 8) (s (.ops [o 9 (.mv (t 0)), o 10 (.nilc (t 9)), o 11 (.off 1 (t 10)), o 12 (.load none (t 11)), o 13 (.bin .add (t 12) (c (i 1))), o 14 (.nilc (t 9)), o 15 (.off 1 (t 14)), n (.store 1 (t 15) (t 13))])
 (s (.draw [d 0 0 false (o 16 (.mv (t 0))), d 1 0 false (o 17 (.nilc (t 16))), d 2 0 false (o 18 (.off 0 (t 17))), d 3 0 false (o 19 (.load none (t 18))), d 4 0 false (o 20 (.mv (t 0))), d 5 0 false (o 21 (.nilc (t 20))), d 6 0 false (o 22 (.off 1 (t 21))), d 7 0 false (o 23 (.load none (t 22))), d 8 0 false (o 24 (.bin .sub (t 23) (c (i 1)))), d 9 0 false (o 25 (.ixA 4 none (t 19) (t 24))), d 10 0 false (o 26 (.off 3 (t 25))), d 11 0 false (o 27 (.load none (t 26))), d 12 0 false (o 28 (.build [(u 0), (u 0), (i 0), (i 0), (i 0), (i 0), (i 0)] [(0, 1, (c (u 0))), (5, 1, (t 27))])), d 13 0 true (o 2 (.upd 7 0 (t 2) (t 28)))])
 .ret)) .skip))
 (s (.keep [0, 2])
 (s (s (.ops [o 29 (.mv (t 0)), o 30 (.call (f 45) [(t 29), (c (u 2)), (c (.string (bstr [])))])])
 (.cond (t 30) (s (.ops [o 31 (.mv (t 0)), o 32 (.call (f 65) [(t 31)]), o 33 (.build [(u 0), (u 0), (i 0), (i 0), (i 0), (i 0), (i 0)] [(0, 1, (c (u 1))), (3, 1, (t 32))]), o 2 (.upd 7 0 (t 2) (t 33))])
 .ret) .skip))
 (s (.keep [0, 2])
 (s (.ops [o 34 (.mv (t 0)), o 35 (.call (f 64) [(t 34)]), o 3 (.mv (t 35))])
 (s (s (.ops [o 37 (.mv (t 3)), o 38 (.call (f 69) [(t 37)]), o 36 (.mv (t 38)), o 39 (.extract (t 36) 0), o 40 (.extract (t 36) 1), o 4 (.mv (t 39)), o 5 (.mv (t 40))])
 (s (.ops [o 41 (.mv (t 5))])
 (.cond (t 41) (s (.ops [o 42 (.mv (t 0)), o 43 (.nilc (t 42)), o 44 (.off 1 (t 43)), o 45 (.load none (t 44)), o 46 (.bin .add (t 45) (c (i 1))), o 47 (.nilc (t 42)), o 48 (.off 1 (t 47)), n (.store 1 (t 48) (t 46))])
 (s (.ops [o 49 (.mv (t 4)), o 50 (.mv (t 0)), o 51 (.call (f 65) [(t 50)]), o 52 (.build [(u 0), (u 0), (i 0), (i 0), (i 0), (i 0), (i 0)] [(0, 1, (c (u 2))), (1, 1, (t 49)), (3, 1, (t 51))]), o 6 (.lnew [(u 0), (u 0), (i 0), (i 0), (i 0), (i 0), (i 0)]), o 6 (.upd 7 0 (t 6) (t 52))])
 (s (.ops [o 53 (.mv (t 0)), o 54 (.call (f 47) [(t 53), (c (u 6)), (c (.string (bstr [44])))])])
 (s (.ops [o 55 (.mv (t 0)), o 56 (.call (f 65) [(t 55)]), o 57 (.lref (t 6)), o 6 (.upd 1 4 (t 6) (t 56))])
 (s (.ops [o 58 (.field (some 7) 0 (t 6)), o 2 (.upd 7 0 (t 2) (t 58))])
 .ret))))) .skip)))
 (s (.keep [0, 2, 3])
 (s (s (.ops [o 59 (.mv (t 3))])
 (.block 0 (s (.ops [o 61 (.bin .eql (t 59) (c (.string (bstr [105, 110])))), o 60 (.mv (t 61))])
 (.cond (t 60) (s (.ops [o 62 (.mv (t 0)), o 63 (.nilc (t 62)), o 64 (.off 1 (t 63)), o 65 (.load none (t 64)), o 66 (.bin .add (t 65) (c (i 1))), o 67 (.nilc (t 62)), o 68 (.off 1 (t 67)), n (.store 1 (t 68) (t 66))])
 (s (.ops [o 69 (.build [(u 0), (u 0), (i 0), (i 0), (i 0), (i 0), (i 0)] [(0, 1, (c (u 3)))]), o 2 (.upd 7 0 (t 2) (t 69))])
 .ret)) (s (.ops [o 71 (.bin .eql (t 59) (c (.string (bstr [108, 111, 97, 100])))), o 70 (.mv (t 71))])
 (.cond (t 70) (s (.ops [o 72 (.mv (t 0)), o 73 (.nilc (t 72)), o 74 (.off 1 (t 73)), o 75 (.load none (t 74)), o 76 (.bin .add (t 75) (c (i 1))), o 77 (.nilc (t 72)), o 78 (.off 1 (t 77)), n (.store 1 (t 78) (t 76))])
 (s (.ops [o 79 (.mv (t 0)), o 80 (.call (f 63) [(t 79), (c (u 4)), (c (i 16))]), o 81 (.build [(u 0), (u 0), (i 0), (i 0), (i 0), (i 0), (i 0)] [(0, 1, (c (u 5))), (6, 1, (t 80))]), o 2 (.upd 7 0 (t 2) (t 81))])
 .ret)) (s (.ops [o 83 (.bin .eql (t 59) (c (.string (bstr [103, 101, 116])))), o 82 (.mv (t 83))])
 (.cond (t 82) (s (.ops [o 84 (.mv (t 0)), o 85 (.nilc (t 84)), o 86 (.off 1 (t 85)), o 87 (.load none (t 86)), o 88 (.bin .add (t 87) (c (i 1))), o 89 (.nilc (t 84)), o 90 (.off 1 (t 89)), n (.store 1 (t 90) (t 88))])
 (s (.ops [o 91 (.mv (t 0)), o 92 (.call (f 65) [(t 91)]), o 93 (.build [(u 0), (u 0), (i 0), (i 0), (i 0), (i 0), (i 0)] [(0, 1, (c (u 7))), (3, 1, (t 92))]), o 2 (.upd 7 0 (t 2) (t 93))])
 .ret)) .skip))))))))
 (s (.keep [0, 2])
 (s (.ops [o 94 (.mv (t 0)), o 95 (.call (f 59) [(t 94), (c (i 5))])])
 (s (.ops [o 96 (.build [(u 0), (u 0), (i 0), (i 0), (i 0), (i 0), (i 0)] []), o 2 (.upd 7 0 (t 2) (t 96))])
 .ret))))))))))))⟩
theorem parse_reader_right_is : pgF n_parse_reader_right = some parse_reader_right_c := by kernel_rfl
def parse_reader_right_j0 (J : JT (Value × St)) (v0 v2 : Value) (st : St) := goX J parse_reader_right_c.body [1, 1, 1] (envT [(0, v0), (2, v2)]) st
def parse_reader_right_j1 (J : JT (Value × St)) (v0 v2 : Value) (st : St) := goX J parse_reader_right_c.body [1, 1, 1, 1, 1] (envT [(0, v0), (2, v2)]) st
def parse_reader_right_j2 (J : JT (Value × St)) (v0 v2 v3 : Value) (st : St) := goX J parse_reader_right_c.body [1, 1, 1, 1, 1, 1, 1, 1] (envT [(0, v0), (2, v2), (3, v3)]) st
def parse_reader_right_j3 (J : JT (Value × St)) (v0 v2 : Value) (st : St) := goX J parse_reader_right_c.body [1, 1, 1, 1, 1, 1, 1, 1, 1, 1] (envT [(0, v0), (2, v2)]) st
theorem parse_reader_right_eq (K : Ctx) (J : JT (Value × St)) (a0 : Value) (st : St) : atX K J parse_reader_right_c (AM.start [a0]) st =
 (.thn st (sLnew [(.int .u8 0), (.int .u8 0), (.int .i64 0), (.int .i64 0), (.int .i64 0), (.int .i64 0), (.int .i64 0)] st) fun p1 =>
 .thn p1.2 (K.go (.call n_parse_reader_is [a0, (.int .u8 5), (.string (bstr []))]) p1.2) fun p2 =>
 condX p2.1
 (.thn p2.2 (sNilc a0 p2.2) fun p3 =>
 .thn p3.2 (sOff 1 p3.1 p3.2) fun p4 =>
 .thn p4.2 (sLoad none p4.1 p4.2) fun p5 =>
 .thn p5.2 (sBin .add p5.1 (.int .i64 1) p5.2) fun p6 =>
 .thn p6.2 (sNilc a0 p6.2) fun p7 =>
 .thn p7.2 (sOff 1 p7.1 p7.2) fun p8 =>
 .thn p8.2 (sStore 1 p8.1 p6.1 p8.2) fun p9 =>
 .thn p9.2 (sNilc a0 p9.2) fun p10 =>
 .thn p10.2 (sOff 0 p10.1 p10.2) fun p11 =>
 .thn p11.2 (sLoad none p11.1 p11.2) fun p12 =>
 .thn p12.2 (sNilc a0 p12.2) fun p13 =>
 .thn p13.2 (sOff 1 p13.1 p13.2) fun p14 =>
 .thn p14.2 (sLoad none p14.1 p14.2) fun p15 =>
 .thn p15.2 (sBin .sub p15.1 (.int .i64 1) p15.2) fun p16 =>
 .thn p16.2 (sIxA 4 none p12.1 p16.1 p16.2) fun p17 =>
 .thn p17.2 (sOff 3 p17.1 p17.2) fun p18 =>
 .thn p18.2 (sLoad none p18.1 p18.2) fun p19 =>
 .thn p19.2 (sBuild [(.int .u8 0), (.int .u8 0), (.int .i64 0), (.int .i64 0), (.int .i64 0), (.int .i64 0), (.int .i64 0)] [(0, 1, (.int .u8 0)), (5, 1, p19.1)] p19.2) fun p20 =>
 .thn p20.2 (sUpd 7 0 p1.1 p20.1 p20.2) fun p21 =>
 (sField (some 7) 0 p21.1 p21.2 >>= fun p22 => .ok [p22.1]) >>= fun vs => .ok (oneOf vs, p21.2))
 (parse_reader_right_j0 J a0 p1.1 p2.2)) := by kernel_rfl
theorem parse_reader_right_of : Of1 n_parse_reader_right parse_reader_right_c := fun hF => call_of hF parse_reader_right_is rfl
theorem parse_reader_right_j0_eq (hJ : IsJ K (retK parse_reader_right_c.results) J) (v0 v2 : Value) (st : St) : parse_reader_right_j0 J v0 v2 st =
 (.thn st (K.go (.call n_parse_reader_is [v0, (.int .u8 2), (.string (bstr []))]) st) fun p1 =>
 condX p1.1
 (.thn p1.2 (K.go (.call n_parse_reader_reg [v0]) p1.2) fun p2 =>
 .thn p2.2 (sBuild [(.int .u8 0), (.int .u8 0), (.int .i64 0), (.int .i64 0), (.int .i64 0), (.int .i64 0), (.int .i64 0)] [(0, 1, (.int .u8 1)), (3, 1, p2.1)] p2.2) fun p3 =>
 .thn p3.2 (sUpd 7 0 v2 p3.1 p3.2) fun p4 =>
 (sField (some 7) 0 p4.1 p4.2 >>= fun p5 => .ok [p5.1]) >>= fun vs => .ok (oneOf vs, p4.2))
 (parse_reader_right_j1 J v0 v2 p1.2)) := gq hJ (by kernel_rfl)
theorem parse_reader_right_j1_eq (hJ : IsJ K (retK parse_reader_right_c.results) J) (v0 v2 : Value) (st : St) : parse_reader_right_j1 J v0 v2 st =
 (.thn st (K.go (.call n_parse_reader_word [v0]) st) fun p1 =>
 .thn p1.2 (K.go (.call n_word_Find [p1.1]) p1.2) fun p2 =>
 .thn p2.2 (sExtract p2.1 0 p2.2) fun p3 =>
 .thn p3.2 (sExtract p2.1 1 p3.2) fun p4 =>
 condX p4.1
 (.thn p4.2 (sNilc v0 p4.2) fun p5 =>
 .thn p5.2 (sOff 1 p5.1 p5.2) fun p6 =>
 .thn p6.2 (sLoad none p6.1 p6.2) fun p7 =>
 .thn p7.2 (sBin .add p7.1 (.int .i64 1) p7.2) fun p8 =>
 .thn p8.2 (sNilc v0 p8.2) fun p9 =>
 .thn p9.2 (sOff 1 p9.1 p9.2) fun p10 =>
 .thn p10.2 (sStore 1 p10.1 p8.1 p10.2) fun p11 =>
 .thn p11.2 (K.go (.call n_parse_reader_reg [v0]) p11.2) fun p12 =>
 .thn p12.2 (sBuild [(.int .u8 0), (.int .u8 0), (.int .i64 0), (.int .i64 0), (.int .i64 0), (.int .i64 0), (.int .i64 0)] [(0, 1, (.int .u8 2)), (1, 1, p3.1), (3, 1, p12.1)] p12.2) fun p13 =>
 .thn p13.2 (sLnew [(.int .u8 0), (.int .u8 0), (.int .i64 0), (.int .i64 0), (.int .i64 0), (.int .i64 0), (.int .i64 0)] p13.2) fun p14 =>
 .thn p14.2 (sUpd 7 0 p14.1 p13.1 p14.2) fun p15 =>
 .thn p15.2 (K.go (.call n_parse_reader_take [v0, (.int .u8 6), (.string (bstr [44]))]) p15.2) fun p16 =>
 .thn p16.2 (K.go (.call n_parse_reader_reg [v0]) p16.2) fun p17 =>
 .thn p17.2 (sLref p15.1 p17.2) fun p18 =>
 .thn p18.2 (sUpd 1 4 p15.1 p17.1 p18.2) fun p19 =>
 .thn p19.2 (sField (some 7) 0 p19.1 p19.2) fun p20 =>
 .thn p20.2 (sUpd 7 0 v2 p20.1 p20.2) fun p21 =>
 (sField (some 7) 0 p21.1 p21.2 >>= fun p22 => .ok [p22.1]) >>= fun vs => .ok (oneOf vs, p21.2))
 (parse_reader_right_j2 J v0 v2 p1.1 p4.2)) := gq hJ (by kernel_rfl)
theorem parse_reader_right_j2_eq (hJ : IsJ K (retK parse_reader_right_c.results) J) (v0 v2 v3 : Value) (st : St) : parse_reader_right_j2 J v0 v2 v3 st =
 (.thn st (sBin .eql v3 (.string (bstr [105, 110])) st) fun p1 =>
 condX p1.1
 (.thn p1.2 (sNilc v0 p1.2) fun p2 =>
 .thn p2.2 (sOff 1 p2.1 p2.2) fun p3 =>
 .thn p3.2 (sLoad none p3.1 p3.2) fun p4 =>
 .thn p4.2 (sBin .add p4.1 (.int .i64 1) p4.2) fun p5 =>
 .thn p5.2 (sNilc v0 p5.2) fun p6 =>
 .thn p6.2 (sOff 1 p6.1 p6.2) fun p7 =>
 .thn p7.2 (sStore 1 p7.1 p5.1 p7.2) fun p8 =>
 .thn p8.2 (sBuild [(.int .u8 0), (.int .u8 0), (.int .i64 0), (.int .i64 0), (.int .i64 0), (.int .i64 0), (.int .i64 0)] [(0, 1, (.int .u8 3))] p8.2) fun p9 =>
 .thn p9.2 (sUpd 7 0 v2 p9.1 p9.2) fun p10 =>
 (sField (some 7) 0 p10.1 p10.2 >>= fun p11 => .ok [p11.1]) >>= fun vs => .ok (oneOf vs, p10.2))
 (.thn p1.2 (sBin .eql v3 (.string (bstr [108, 111, 97, 100])) p1.2) fun p12 =>
 condX p12.1
 (.thn p12.2 (sNilc v0 p12.2) fun p13 =>
 .thn p13.2 (sOff 1 p13.1 p13.2) fun p14 =>
 .thn p14.2 (sLoad none p14.1 p14.2) fun p15 =>
 .thn p15.2 (sBin .add p15.1 (.int .i64 1) p15.2) fun p16 =>
 .thn p16.2 (sNilc v0 p16.2) fun p17 =>
 .thn p17.2 (sOff 1 p17.1 p17.2) fun p18 =>
 .thn p18.2 (sStore 1 p18.1 p16.1 p18.2) fun p19 =>
 .thn p19.2 (K.go (.call n_parse_reader_below [v0, (.int .u8 4), (.int .i64 16)]) p19.2) fun p20 =>
 .thn p20.2 (sBuild [(.int .u8 0), (.int .u8 0), (.int .i64 0), (.int .i64 0), (.int .i64 0), (.int .i64 0), (.int .i64 0)] [(0, 1, (.int .u8 5)), (6, 1, p20.1)] p20.2) fun p21 =>
 .thn p21.2 (sUpd 7 0 v2 p21.1 p21.2) fun p22 =>
 (sField (some 7) 0 p22.1 p22.2 >>= fun p23 => .ok [p23.1]) >>= fun vs => .ok (oneOf vs, p22.2))
 (.thn p12.2 (sBin .eql v3 (.string (bstr [103, 101, 116])) p12.2) fun p24 =>
 condX p24.1
 (.thn p24.2 (sNilc v0 p24.2) fun p25 =>
 .thn p25.2 (sOff 1 p25.1 p25.2) fun p26 =>
 .thn p26.2 (sLoad none p26.1 p26.2) fun p27 =>
 .thn p27.2 (sBin .add p27.1 (.int .i64 1) p27.2) fun p28 =>
 .thn p28.2 (sNilc v0 p28.2) fun p29 =>
 .thn p29.2 (sOff 1 p29.1 p29.2) fun p30 =>
 .thn p30.2 (sStore 1 p30.1 p28.1 p30.2) fun p31 =>
 .thn p31.2 (K.go (.call n_parse_reader_reg [v0]) p31.2) fun p32 =>
 .thn p32.2 (sBuild [(.int .u8 0), (.int .u8 0), (.int .i64 0), (.int .i64 0), (.int .i64 0), (.int .i64 0), (.int .i64 0)] [(0, 1, (.int .u8 7)), (3, 1, p32.1)] p32.2) fun p33 =>
 .thn p33.2 (sUpd 7 0 v2 p33.1 p33.2) fun p34 =>
 (sField (some 7) 0 p34.1 p34.2 >>= fun p35 => .ok [p35.1]) >>= fun vs => .ok (oneOf vs, p34.2))
 (parse_reader_right_j3 J v0 v2 p24.2)))) := gq hJ (by kernel_rfl)
theorem parse_reader_right_j3_eq (hJ : IsJ K (retK parse_reader_right_c.results) J) (v0 v2 : Value) (st : St) : parse_reader_right_j3 J v0 v2 st =
 (.thn st (K.go (.call n_parse_reader_fail [v0, (.int .i64 5)]) st) fun p1 =>
 .thn p1.2 (sBuild [(.int .u8 0), (.int .u8 0), (.int .i64 0), (.int .i64 0), (.int .i64 0), (.int .i64 0), (.int .i64 0)] [] p1.2) fun p2 =>
 .thn p2.2 (sUpd 7 0 v2 p2.1 p2.2) fun p3 =>
 (sField (some 7) 0 p3.1 p3.2 >>= fun p4 => .ok [p4.1]) >>= fun vs => .ok (oneOf vs, p3.2)) := gq hJ (by kernel_rfl)
open C in
def word_Find_c : AFun := ⟨17, [.tmp 2, .tmp 3],
 (s (.ops [o 2 (.mv (c (u 0))), o 3 (.mv (c (.bool false)))])
 (s (s (.ops [o 6 (.load (some 12) (.global 0)), o 7 (.mv (c (i 0)))])
 (.block 0 (s (.keep [0, 6, 7])
 (.loop (s (s (.ops [o 8 (.bin .lss (t 7) (c (i 12)))])
 (s (.cond (t 8) .skip (.exit 0))
 (s (.keep [0, 6, 7])
 (s (.block 1 (s (.ops [o 9 (.mv (t 7)), o 10 (.ixV none 1 12 (t 6) (t 7)), o 4 (.mv (t 9)), o 5 (.mv (t 10))])
 (s (.ops [o 11 (.mv (t 5)), o 12 (.mv (t 0)), o 13 (.bin .eql (t 11) (t 12))])
 (.cond (t 13) (s (.ops [o 14 (.mv (t 4)), o 15 (.conv (.int .u8) (t 14)), o 2 (.mv (t 15)), o 3 (.mv (c (.bool true)))])
 .ret) .skip))))
 (s (.keep [0, 6, 7])
 (.ops [o 16 (.bin .add (t 7) (c (i 1))), o 7 (.mv (t 16))]))))))
 (.keep [0, 6, 7]))))))
 (s (.keep [])
 (s (.ops [o 2 (.mv (c (u 0))), o 3 (.mv (c (.bool false)))])
 .ret))))⟩
theorem word_Find_is : pgF n_word_Find = some word_Find_c := by kernel_rfl
def word_Find_l0 (J : JT (Value × St)) (v0 v6 v7 : Value) (st : St) := lpX J word_Find_c.body [1, 0, 1, 0, 1] (envT [(0, v0), (6, v6), (7, v7)]) st
def word_Find_j0 (J : JT (Value × St)) (v0 v6 v7 : Value) (st : St) := goX J word_Find_c.body [1, 0, 1, 0, 1, 0, 0, 1, 1, 1] (envT [(0, v0), (6, v6), (7, v7)]) st
def word_Find_j1 (J : JT (Value × St)) (st : St) := goX J word_Find_c.body [1, 1, 1] (envT []) st
def word_Find_j2 (J : JT (Value × St)) (v0 v6 v7 : Value) (st : St) := goX J word_Find_c.body [1, 0, 1, 0, 1, 0, 0, 1, 1, 1, 1, 1] (envT [(0, v0), (6, v6), (7, v7)]) st
theorem word_Find_eq (K : Ctx) (J : JT (Value × St)) (a0 : Value) (st : St) : atX K J word_Find_c (AM.start [a0]) st =
 (.thn st (sLoad (some 12) (P 0 0) st) fun p1 =>
 word_Find_l0 J a0 p1.1 (.int .i64 0) p1.2) := by kernel_rfl
theorem word_Find_of : Of1 n_word_Find word_Find_c := fun hF => call_of hF word_Find_is rfl
theorem word_Find_l0_eq (K : Ctx) (J : JT (Value × St)) (v0 v6 v7 : Value) (st : St) : inX K J (retK word_Find_c.results) word_Find_c.body [1, 0, 1, 0, 1] (envT [(0, v0), (6, v6), (7, v7)]) st =
 (.thn st (sBin .lss v7 (.int .i64 12) st) fun p1 =>
 condX p1.1
 (word_Find_j0 J v0 v6 v7 p1.2)
 (word_Find_j1 J p1.2)) := by kernel_rfl
theorem word_Find_l0_of (hF : Fix pgF K) (hJ : IsJ K (retK word_Find_c.results) J) {v0 v6 v7 : Value} (h : Ok (inX K J (retK word_Find_c.results) word_Find_c.body [1, 0, 1, 0, 1] (envT [(0, v0), (6, v6), (7, v7)]) st) Q) : Ok (word_Find_l0 J v0 v6 v7 st) Q := loop_of hF hJ h
theorem word_Find_j0_eq (hJ : IsJ K (retK word_Find_c.results) J) (v0 v6 v7 : Value) (st : St) : word_Find_j0 J v0 v6 v7 st =
 (.thn st (sIxV none 1 12 v6 v7 st) fun p1 =>
 .thn p1.2 (sBin .eql p1.1 v0 p1.2) fun p2 =>
 condX p2.1
 (.thn p2.2 (sConv (.int .u8) v7 p2.2) fun p3 =>
 .ok (.tuple #[p3.1, (.bool true)], p3.2))
 (word_Find_j2 J v0 v6 v7 p2.2)) := gq hJ (by kernel_rfl)
theorem word_Find_j1_eq (hJ : IsJ K (retK word_Find_c.results) J) (st : St) : word_Find_j1 J st =
 (.ok (.tuple #[(.int .u8 0), (.bool false)], st)) := gq hJ (by kernel_rfl)
theorem word_Find_j2_eq (hJ : IsJ K (retK word_Find_c.results) J) (v0 v6 v7 : Value) (st : St) : word_Find_j2 J v0 v6 v7 st =
 (.thn st (sBin .add v7 (.int .i64 1) st) fun p1 =>
 word_Find_l0 J v0 v6 p1.1 p1.2) := gq hJ (by kernel_rfl)
end
end Go.Proofs.YtdjfndijbnpkpaaDoor.Sh
