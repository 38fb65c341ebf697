/-
 The functions of the program, operation by operation, as the abstract machine has them.
-/
import Derived.Test.YtlpdlohikfkjnaaDoorProg
import Derived.Test.YtlpdlohikfkjnaaDoorShN
set_option linter.unusedVariables false
set_option maxRecDepth 100000
namespace Go.Proofs.YtlpdlohikfkjnaaDoor.Sh
open Go Go.AM Go.Proofs
noncomputable section
variable {K : Ctx} {J : JT (Value × St)} {st : St} {Q : Value × St → Prop}
open C in
def refinerylaw06_ShowLines_c : AFun := ⟨5, [.tmp 10],
 (s (.ops [o 5 (.lbox (t 0)), o 6 (.lbox (t 1)), o 7 (.lbox (t 2)), o 8 (.lbox (t 3)), o 10 (.mv (c (.bool false)))])
 (s (s (.ops [o 15 (.call (f 6) []), o 16 (.un .not (t 15))])
 (.cond (t 16) (s (.ops [o 10 (.mv (c (.bool false)))])
 .ret) .skip))
 (s (.keep [4, 5, 6, 7, 8])
 (s (s (.ops [o 17 (.mv (t 4))])
 (.cond (t 17) (.draw [d 0 0 false (o 18 (.field (some 7) 0 (t 5))), d 2 0 true (o 6 (.upd 7 0 (t 6) (t 18))), d 1 1 false (o 19 (.field (some 5) 0 (t 7))), d 3 0 true (o 8 (.upd 5 0 (t 8) (t 19)))]) .skip))
 (s (.keep [5, 6, 7, 8])
 (s (.draw [d 0 0 false (o 20 (.field (some 7) 0 (t 5))), d 1 0 true (o 21 (.call (f 7) [(t 20), (c (i 6))])), d 2 1 false (o 22 (.field (some 7) 0 (t 6))), d 3 0 true (o 23 (.call (f 7) [(t 22), (c (i 6))])), d 4 0 false (o 11 (.lnew [(u 0), (u 0), (i 0), (i 0), (i 0), (i 0), (i 0)])), d 5 0 false (o 12 (.lnew [(u 0), (u 0), (i 0), (i 0), (i 0), (i 0), (i 0)])), d 6 0 true (o 11 (.upd 7 0 (t 11) (t 21))), d 7 0 true (o 12 (.upd 7 0 (t 12) (t 23)))])
 (s (.draw [d 0 0 false (o 24 (.field (some 5) 0 (t 7))), d 1 0 true (o 25 (.call (f 8) [(t 24), (c (i 6)), (c (i 8))])), d 2 1 false (o 26 (.field (some 5) 0 (t 8))), d 3 0 true (o 27 (.call (f 8) [(t 26), (c (i 6)), (c (i 8))])), d 4 0 false (o 13 (.lnew [(u 0), (i 0), (i 0), (i 0)])), d 5 0 false (o 14 (.lnew [(u 0), (i 0), (i 0), (i 0)])), d 6 0 true (o 13 (.upd 4 0 (t 13) (t 25))), d 7 0 true (o 14 (.upd 4 0 (t 14) (t 27)))])
 (s (.draw [d 0 0 false (o 28 (.field (some 7) 0 (t 11))), d 1 0 true (o 29 (.call (f 9) [(t 28)])), d 2 1 false (o 30 (.field (some 7) 0 (t 12))), d 3 0 true (o 31 (.call (f 9) [(t 30)])), d 4 0 false (o 32 (.bin .eql (t 29) (t 31))), d 5 2 false (o 33 (.field (some 7) 0 (t 11))), d 6 2 false (o 34 (.field (some 7) 0 (t 12))), d 7 0 false (o 35 (.eq false (.fields [(0, .int), (1, .int), (2, .int), (3, .int), (4, .int), (5, .int), (6, .int)]) (t 33) (t 34))), d 8 0 false (o 36 (.eq false .bools (t 32) (t 35))), d 9 0 false (o 37 (.mv (t 36))), d 10 0 false (g 38 true 37 (.field (some 4) 0 (t 13))), d 11 0 true (g 39 true 37 (.call (f 10) [(t 38)])), d 12 1 false (g 40 true 37 (.field (some 4) 0 (t 14))), d 13 0 true (g 41 true 37 (.call (f 10) [(t 40)])), d 14 0 false (g 42 true 37 (.bin .eql (t 39) (t 41))), d 15 2 false (g 43 true 37 (.field (some 4) 0 (t 13))), d 16 2 false (g 44 true 37 (.field (some 4) 0 (t 14))), d 17 0 false (g 45 true 37 (.eq false (.fields [(0, .int), (1, .int), (2, .int), (3, .int)]) (t 43) (t 44))), d 18 0 false (g 46 true 37 (.eq false .bools (t 42) (t 45))), d 19 0 false (o 47 (.pick (t 37) (t 46) (c (.bool false)))), d 20 0 false (o 48 (.mv (t 47))), d 21 0 false (g 49 true 48 (.field (some 7) 0 (t 11))), d 22 0 true (g 50 true 48 (.call (f 9) [(t 49)])), d 23 1 false (g 51 true 48 (.field (some 4) 0 (t 13))), d 24 0 true (g 52 true 48 (.call (f 10) [(t 51)])), d 25 0 false (g 53 true 48 (.bin .neq (t 50) (t 52))), d 26 0 false (o 54 (.pick (t 48) (t 53) (c (.bool false)))), d 27 0 false (o 10 (.mv (t 54)))])
 .ret))))))))⟩
theorem refinerylaw06_ShowLines_is : pgF n_refinerylaw06_ShowLines = some refinerylaw06_ShowLines_c := by kernel_rfl
def refinerylaw06_ShowLines_j0 (J : JT (Value × St)) (v4 v5 v6 v7 v8 : Value) (st : St) := goX J refinerylaw06_ShowLines_c.body [1, 1, 1] (envT [(4, v4), (5, v5), (6, v6), (7, v7), (8, v8)]) st
def refinerylaw06_ShowLines_j1 (J : JT (Value × St)) (v5 v6 v7 v8 : Value) (st : St) := goX J refinerylaw06_ShowLines_c.body [1, 1, 1, 1, 1] (envT [(5, v5), (6, v6), (7, v7), (8, v8)]) st
theorem refinerylaw06_ShowLines_eq (K : Ctx) (J : JT (Value × St)) (a0 a1 a2 a3 a4 : Value) (st : St) : atX K J refinerylaw06_ShowLines_c (AM.start [a0, a1, a2, a3, a4]) st =
 (.thn st (sLbox a0 st) fun p1 =>
 .thn p1.2 (sLbox a1 p1.2) fun p2 =>
 .thn p2.2 (sLbox a2 p2.2) fun p3 =>
 .thn p3.2 (sLbox a3 p3.2) fun p4 =>
 .thn p4.2 (K.go (.call n_refinerylaw06_Awake []) p4.2) fun p5 =>
 .thn p5.2 (sUn .not p5.1 p5.2) fun p6 =>
 condX p6.1
 (.ok ((.bool false), p6.2))
 (refinerylaw06_ShowLines_j0 J a4 p1.1 p2.1 p3.1 p4.1 p6.2)) := by kernel_rfl
theorem refinerylaw06_ShowLines_of : Of5 n_refinerylaw06_ShowLines refinerylaw06_ShowLines_c := fun hF => call_of hF refinerylaw06_ShowLines_is rfl
theorem refinerylaw06_ShowLines_j0_eq (hJ : IsJ K (retK refinerylaw06_ShowLines_c.results) J) (v4 v5 v6 v7 v8 : Value) (st : St) : refinerylaw06_ShowLines_j0 J v4 v5 v6 v7 v8 st =
 (condX v4
 (.thn st (sField (some 7) 0 v5 st) fun p1 =>
 .thn p1.2 (sUpd 7 0 v6 p1.1 p1.2) fun p2 =>
 .thn p2.2 (sField (some 5) 0 v7 p2.2) fun p3 =>
 Res.need (sStays (List.take 1 (p1.2 :: [])) p2.2.next nothing (fun s => sField (some 5) 0 v7 s) p3.1) "order" >>= fun _ =>
 .thn p3.2 (sUpd 5 0 v8 p3.1 p3.2) fun p4 =>
 refinerylaw06_ShowLines_j1 J v5 p2.1 v7 p4.1 p4.2)
 (refinerylaw06_ShowLines_j1 J v5 v6 v7 v8 st)) := gq hJ (by kernel_rfl)
theorem refinerylaw06_ShowLines_j1_eq (hJ : IsJ K (retK refinerylaw06_ShowLines_c.results) J) (v5 v6 v7 v8 : Value) (st : St) : refinerylaw06_ShowLines_j1 J v5 v6 v7 v8 st =
 (.thn st (sField (some 7) 0 v5 st) fun p1 =>
 .thn p1.2 (K.go (.call n_refinerylaw03_Line_Instr [p1.1, (.int .i64 6)]) p1.2) fun p2 =>
 .thn p2.2 (sField (some 7) 0 v6 p2.2) fun p3 =>
 Res.need (sStays (List.take 1 (p1.2 :: [])) p2.2.next nothing (fun s => sField (some 7) 0 v6 s) p3.1) "order" >>= fun _ =>
 .thn p3.2 (K.go (.call n_refinerylaw03_Line_Instr [p3.1, (.int .i64 6)]) p3.2) fun p4 =>
 .thn p4.2 (sLnew [(.int .u8 0), (.int .u8 0), (.int .i64 0), (.int .i64 0), (.int .i64 0), (.int .i64 0), (.int .i64 0)] p4.2) fun p5 =>
 .thn p5.2 (sLnew [(.int .u8 0), (.int .u8 0), (.int .i64 0), (.int .i64 0), (.int .i64 0), (.int .i64 0), (.int .i64 0)] p5.2) fun p6 =>
 .thn p6.2 (sUpd 7 0 p5.1 p2.1 p6.2) fun p7 =>
 .thn p7.2 (sUpd 7 0 p6.1 p4.1 p7.2) fun p8 =>
 .thn p8.2 (sField (some 5) 0 v7 p8.2) fun p9 =>
 .thn p9.2 (K.go (.call n_refinerylaw03_Block_Last [p9.1, (.int .i64 6), (.int .i64 8)]) p9.2) fun p10 =>
 .thn p10.2 (sField (some 5) 0 v8 p10.2) fun p11 =>
 Res.need (sStays (List.take 1 (p9.2 :: [])) p10.2.next nothing (fun s => sField (some 5) 0 v8 s) p11.1) "order" >>= fun _ =>
 .thn p11.2 (K.go (.call n_refinerylaw03_Block_Last [p11.1, (.int .i64 6), (.int .i64 8)]) p11.2) fun p12 =>
 .thn p12.2 (sLnew [(.int .u8 0), (.int .i64 0), (.int .i64 0), (.int .i64 0)] p12.2) fun p13 =>
 .thn p13.2 (sLnew [(.int .u8 0), (.int .i64 0), (.int .i64 0), (.int .i64 0)] p13.2) fun p14 =>
 .thn p14.2 (sUpd 4 0 p13.1 p10.1 p14.2) fun p15 =>
 .thn p15.2 (sUpd 4 0 p14.1 p12.1 p15.2) fun p16 =>
 .thn p16.2 (sField (some 7) 0 p7.1 p16.2) fun p17 =>
 .thn p17.2 (K.go (.call n_show_Instr [p17.1]) p17.2) fun p18 =>
 .thn p18.2 (sField (some 7) 0 p8.1 p18.2) fun p19 =>
 Res.need (sStays (List.take 1 (p17.2 :: [])) p18.2.next nothing (fun s => sField (some 7) 0 p8.1 s) p19.1) "order" >>= fun _ =>
 .thn p19.2 (K.go (.call n_show_Instr [p19.1]) p19.2) fun p20 =>
 .thn p20.2 (sBin .eql p18.1 p20.1 p20.2) fun p21 =>
 .thn p21.2 (sField (some 7) 0 p7.1 p21.2) fun p22 =>
 Res.need (sStays (List.take 2 (p19.2 :: (p17.2 :: []))) p20.2.next nothing (fun s => sField (some 7) 0 p7.1 s) p22.1) "order" >>= fun _ =>
 .thn p22.2 (sField (some 7) 0 p8.1 p22.2) fun p23 =>
 Res.need (sStays (List.take 2 (p19.2 :: (p17.2 :: []))) p20.2.next nothing (fun s => sField (some 7) 0 p8.1 s) p23.1) "order" >>= fun _ =>
 .thn p23.2 (sEq false (.fields [(0, .int), (1, .int), (2, .int), (3, .int), (4, .int), (5, .int), (6, .int)]) p22.1 p23.1 p23.2) fun p24 =>
 .thn p24.2 (sEq false .bools p21.1 p24.1 p24.2) fun p25 =>
 .thn p25.2 (sGo p25.1 true (sField (some 4) 0 p15.1 p25.2) p25.2) fun p26 =>
 .thn p26.2 (gd p25.1 true >>= fun b => bif b then (K.go (.call n_show_Last [p26.1]) p26.2 >>= fun p28 => Res.ok (p28.1, p28.2, p26.2 :: (p19.2 :: (p17.2 :: [])), p28.2.next)) else Res.ok (skipped, p26.2, (p19.2 :: (p17.2 :: [])), p20.2.next)) fun p29 =>
 .thn p29.2.1 (gd p25.1 true >>= fun b => bif b then (sField (some 4) 0 p16.1 p29.2.1 >>= fun p31 => Res.need (sStays (List.take 1 p29.2.2.1) p29.2.2.2 nothing (fun s => sField (some 4) 0 p16.1 s) p31.1) "order" >>= fun _ => .ok p31) else .ok (skipped, p29.2.1)) fun p30 =>
 .thn p30.2 (gd p25.1 true >>= fun b => bif b then (K.go (.call n_show_Last [p30.1]) p30.2 >>= fun p32 => Res.ok (p32.1, p32.2, p30.2 :: p29.2.2.1, p32.2.next)) else Res.ok (skipped, p30.2, p29.2.2.1, p29.2.2.2)) fun p33 =>
 .thn p33.2.1 (sGo p25.1 true (sBin .eql p29.1 p33.1 p33.2.1) p33.2.1) fun p34 =>
 .thn p34.2 (gd p25.1 true >>= fun b => bif b then (sField (some 4) 0 p15.1 p34.2 >>= fun p37 => Res.need (sStays (List.take 2 p33.2.2.1) p33.2.2.2 nothing (fun s => sField (some 4) 0 p15.1 s) p37.1) "order" >>= fun _ => .ok p37) else .ok (skipped, p34.2)) fun p36 =>
 .thn p36.2 (gd p25.1 true >>= fun b => bif b then (sField (some 4) 0 p16.1 p36.2 >>= fun p39 => Res.need (sStays (List.take 2 p33.2.2.1) p33.2.2.2 nothing (fun s => sField (some 4) 0 p16.1 s) p39.1) "order" >>= fun _ => .ok p39) else .ok (skipped, p36.2)) fun p38 =>
 .thn p38.2 (sGo p25.1 true (sEq false (.fields [(0, .int), (1, .int), (2, .int), (3, .int)]) p36.1 p38.1 p38.2) p38.2) fun p40 =>
 .thn p40.2 (sGo p25.1 true (sEq false .bools p34.1 p40.1 p40.2) p40.2) fun p42 =>
 .thn p42.2 (sPick p25.1 p42.1 (.bool false) p42.2) fun p44 =>
 .thn p44.2 (sGo p44.1 true (sField (some 7) 0 p7.1 p44.2) p44.2) fun p45 =>
 .thn p45.2 (gd p44.1 true >>= fun b => bif b then (K.go (.call n_show_Instr [p45.1]) p45.2 >>= fun p47 => Res.ok (p47.1, p47.2, p45.2 :: p33.2.2.1, p47.2.next)) else Res.ok (skipped, p45.2, p33.2.2.1, p33.2.2.2)) fun p48 =>
 .thn p48.2.1 (gd p44.1 true >>= fun b => bif b then (sField (some 4) 0 p15.1 p48.2.1 >>= fun p50 => Res.need (sStays (List.take 1 p48.2.2.1) p48.2.2.2 nothing (fun s => sField (some 4) 0 p15.1 s) p50.1) "order" >>= fun _ => .ok p50) else .ok (skipped, p48.2.1)) fun p49 =>
 .thn p49.2 (gd p44.1 true >>= fun b => bif b then (K.go (.call n_show_Last [p49.1]) p49.2 >>= fun p51 => Res.ok (p51.1, p51.2, p49.2 :: p48.2.2.1, p51.2.next)) else Res.ok (skipped, p49.2, p48.2.2.1, p48.2.2.2)) fun p52 =>
 .thn p52.2.1 (sGo p44.1 true (sBin .neq p48.1 p52.1 p52.2.1) p52.2.1) fun p53 =>
 .thn p53.2 (sPick p44.1 p53.1 (.bool false) p53.2) fun p55 =>
 .ok (p55.1, p55.2)) := gq hJ (by kernel_rfl)
end
end Go.Proofs.YtlpdlohikfkjnaaDoor.Sh
