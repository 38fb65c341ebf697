/-
  The functions of the program, operation by operation, as the abstract machine has them.
-/
import Derived.Test.YtfknooeebmdfoaaProg
import Derived.Test.YtfknooeebmdfoaaShN
set_option linter.unusedVariables false
set_option maxRecDepth 100000
namespace Go.Proofs.Ytfknooeebmdfoaa.Sh
open Go Go.AM Go.Proofs

/-! ### refinery/refinerylaw03.IrLasts -/
open C in
noncomputable def refinerylaw03_IrLasts_c : AFun := ⟨98, [.tmp 6],
 (s (.ops [o 3 (.box (t 0)), o 6 (.mv (c (.bool false)))])
 (s (s (.ops [o 11 (.call (f 13) []), o 12 (.un .not (t 11))])
 (.cond (t 12) (s (.ops [o 6 (.mv (c (.bool false)))])
 .ret) .skip))
 (s (.keep [1, 2, 3])
 (s (.ops [o 13 (.mv (t 1)), o 14 (.bin .rem (t 13) (c (u 6))), o 15 (.off 0 (t 3)), n (.store 1 (t 15) (t 14))])
 (s (s (.ops [o 16 (.mv (t 2))])
 (.cond (t 16) (.ops [o 17 (.off 2 (t 3)), o 18 (.load none (t 17)), o 19 (.off 3 (t 3)), n (.store 1 (t 19) (t 18))]) .skip))
 (s (.keep [3])
 (s (.ops [o 7 (.mv (c (.slice none 0 0)))])
 (s (.ops [o 20 (.off 0 (t 3)), o 21 (.load none (t 20)), o 22 (.build [(u 0), (i 0), (i 0), (i 0)] [(0, 1, (t 21))]), o 8 (.new [(u 0), (i 0), (i 0), (i 0)]), n (.store 4 (t 8) (t 22))])
 (s (s (.ops [o 23 (.off 0 (t 3)), o 24 (.load none (t 23))])
 (.block 0 (s (.ops [o 26 (.bin .eql (t 24) (c (u 0))), o 25 (.mv (t 26))])
 (.cond (t 25) (.draw [d 0 0 false (o 27 (.off 2 (t 3))), d 1 0 false (o 28 (.load none (t 27))), d 2 0 false (o 29 (.lit 1 1 [(i 0)] [(0, 1, (t 28))])), d 3 0 false (o 30 (.off 2 (t 3))), d 4 0 false (o 31 (.load none (t 30))), d 5 0 false (o 7 (.mv (t 29))), d 6 0 false (o 32 (.off 2 (t 8))), d 7 0 true (n (.store 1 (t 32) (t 31)))]) (s (.ops [o 34 (.bin .eql (t 24) (c (u 1))), o 33 (.mv (t 34))])
 (.cond (t 33) (s (.draw [d 0 0 false (o 35 (.off 2 (t 3))), d 1 0 false (o 36 (.load none (t 35))), d 2 0 false (o 37 (.off 3 (t 3))), d 3 0 false (o 38 (.load none (t 37))), d 4 0 false (o 39 (.lit 1 2 [(i 0), (i 0)] [(0, 1, (t 36)), (1, 1, (t 38))])), d 5 0 false (o 40 (.off 1 (t 3))), d 6 0 false (o 41 (.load none (t 40))), d 11 0 false (o 7 (.mv (t 39))), d 12 0 false (o 46 (.off 1 (t 8))), d 13 0 true (n (.store 1 (t 46) (t 41))), d 7 0 false (o 42 (.off 2 (t 3))), d 8 1 false (o 43 (.load none (t 42))), d 14 0 false (o 47 (.off 2 (t 8))), d 15 0 true (n (.store 1 (t 47) (t 43))), d 9 0 false (o 44 (.off 3 (t 3))), d 10 2 false (o 45 (.load none (t 44))), d 16 0 false (o 48 (.off 3 (t 8))), d 17 0 true (n (.store 1 (t 48) (t 45)))])
 (s (.ops [o 49 (.off 2 (t 3)), o 50 (.load none (t 49)), o 51 (.off 3 (t 3)), o 52 (.load none (t 51)), o 53 (.bin .eql (t 50) (t 52))])
 (.cond (t 53) (.ops [o 54 (.mv (t 7)), o 55 (.slice (.slice 1) (t 54) none (some (c (i 1))) none), o 7 (.mv (t 55))]) .skip))) (s (.ops [o 57 (.bin .eql (t 24) (c (u 2))), o 56 (.mv (t 57))])
 (.cond (t 56) (.ops [o 58 (.off 1 (t 3)), o 59 (.load none (t 58)), o 60 (.off 1 (t 8)), n (.store 1 (t 60) (t 59))]) .skip))))))))
 (s (.keep [3, 7, 8])
 (s (.ops [o 62 (.load (some 4) (t 3)), o 63 (.call (f 21) [(t 62)]), o 61 (.mv (t 63)), o 64 (.extract (t 61) 0), o 65 (.extract (t 61) 1), o 9 (.mv (t 64)), o 10 (.mv (t 65))])
 (s (.draw [d 0 0 false (o 66 (.mv (t 10))), d 1 0 false (o 67 (.off 0 (t 3))), d 2 0 false (o 68 (.load none (t 67))), d 3 0 false (o 69 (.bin .eql (t 68) (c (u 1)))), d 4 0 false (o 70 (.mv (t 69))), d 5 0 false (g 71 false 70 (.off 0 (t 3))), d 6 0 false (g 72 false 70 (.load none (t 71))), d 7 0 false (g 73 false 70 (.bin .eql (t 72) (c (u 2)))), d 8 0 false (o 74 (.pick (t 70) (c (.bool true)) (t 73))), d 9 0 false (o 75 (.eq false .bools (t 66) (t 74))), d 10 0 false (o 76 (.mv (t 75))), d 11 0 false (g 77 true 76 (.mv (t 10))), d 12 0 false (g 78 true 76 (.un .not (t 77))), d 13 0 false (g 79 true 76 (.mv (t 78))), d 14 0 false (g 80 false 79 (.mv (t 9))), d 15 0 false (g 81 false 79 (.off 1 (t 3))), d 16 0 false (g 82 false 79 (.load none (t 81))), d 17 0 false (g 83 false 79 (.bin .eql (t 80) (t 82))), d 18 0 false (g 84 true 76 (.pick (t 79) (c (.bool true)) (t 83))), d 19 0 false (o 85 (.pick (t 76) (t 84) (c (.bool false)))), d 20 0 false (o 86 (.mv (t 85))), d 21 0 false (g 87 true 86 (.load (some 4) (t 3))), d 22 0 true (g 88 true 86 (.call (f 23) [(t 87)])), d 23 0 false (g 89 true 86 (.mv (t 7))), d 24 0 true (g 90 true 86 (.call (f 22) [(t 88), (t 89)])), d 25 0 false (o 91 (.pick (t 86) (t 90) (c (.bool false)))), d 26 0 false (o 92 (.mv (t 91))), d 27 0 false (g 93 true 92 (.load (some 4) (t 3))), d 28 0 true (g 94 true 92 (.call (f 24) [(t 93)])), d 29 1 false (g 95 true 92 (.load (some 4) (t 8))), d 30 0 false (g 96 true 92 (.eq false (.fields [(0, .int), (1, .int), (2, .int), (3, .int)]) (t 94) (t 95))), d 31 0 false (o 97 (.pick (t 92) (t 96) (c (.bool false)))), d 32 0 false (o 6 (.mv (t 97)))])
 .ret))))))))))))⟩
theorem refinerylaw03_IrLasts_is : funs pg n_refinerylaw03_IrLasts = some refinerylaw03_IrLasts_c := by kernel_rfl
noncomputable def refinerylaw03_IrLasts_j0 (J : JT (Value × St)) (v1 : Value) (v2 : Value) (v3 : Value) (st : St) : Res (Value × St) := goX J refinerylaw03_IrLasts_c.body [1, 1, 1] (envT [(1, v1), (2, v2), (3, v3)]) st
noncomputable def refinerylaw03_IrLasts_j1 (J : JT (Value × St)) (v3 : Value) (st : St) : Res (Value × St) := goX J refinerylaw03_IrLasts_c.body [1, 1, 1, 1, 1, 1] (envT [(3, v3)]) st
noncomputable def refinerylaw03_IrLasts_j2 (J : JT (Value × St)) (v3 : Value) (v7 : Value) (v8 : Value) (st : St) : Res (Value × St) := goX J refinerylaw03_IrLasts_c.body [1, 1, 1, 1, 1, 1, 1, 1, 1, 1] (envT [(3, v3), (7, v7), (8, v8)]) st
theorem refinerylaw03_IrLasts_eq (K : Ctx) (J : JT (Value × St)) (a0 a1 a2 : Value) (st : St) : atX K J refinerylaw03_IrLasts_c (AM.start [a0, a1, a2]) st =
  (sBox a0 st >>= fun p1 =>
  K.go (.call n_refinerylaw03_Awake []) p1.2 >>= fun p2 =>
  sUn .not p2.1 p2.2 >>= fun p3 =>
  condX p3.1
  (.ok ((.bool false), p3.2))
  (refinerylaw03_IrLasts_j0 J a1 a2 p1.1 p3.2)) := by kernel_rfl
theorem refinerylaw03_IrLasts_of {K : Ctx} (hF : Fix (funs pg) K) {a0 a1 a2 : Value} {st : St} {Q : Value × St → Prop} (h : ∀ J, IsJ K (retK refinerylaw03_IrLasts_c.results) J → Ok (atX K J refinerylaw03_IrLasts_c (AM.start [a0, a1, a2]) st) Q) : Ok (K.go (.call n_refinerylaw03_IrLasts [a0, a1, a2]) st) Q := call_of hF refinerylaw03_IrLasts_is rfl h
theorem refinerylaw03_IrLasts_j0_eq {K : Ctx} {J : JT (Value × St)} (hJ : IsJ K (retK refinerylaw03_IrLasts_c.results) J) (v1 : Value) (v2 : Value) (v3 : Value) (st : St) : refinerylaw03_IrLasts_j0 J v1 v2 v3 st =
  (sBin .rem v1 (.int .u8 6) st >>= fun p1 =>
  sOff 0 v3 p1.2 >>= fun p2 =>
  sStore 1 p2.1 p1.1 p2.2 >>= fun p3 =>
  condX v2
  (sOff 2 v3 p3.2 >>= fun p4 =>
  sLoad none p4.1 p4.2 >>= fun p5 =>
  sOff 3 v3 p5.2 >>= fun p6 =>
  sStore 1 p6.1 p5.1 p6.2 >>= fun p7 =>
  refinerylaw03_IrLasts_j1 J v3 p7.2)
  (refinerylaw03_IrLasts_j1 J v3 p3.2)) := (go_eq hJ _ _ _ _).trans (by kernel_rfl)
theorem refinerylaw03_IrLasts_j1_eq {K : Ctx} {J : JT (Value × St)} (hJ : IsJ K (retK refinerylaw03_IrLasts_c.results) J) (v3 : Value) (st : St) : refinerylaw03_IrLasts_j1 J v3 st =
  (sOff 0 v3 st >>= fun p1 =>
  sLoad none p1.1 p1.2 >>= fun p2 =>
  sBuild [(.int .u8 0), (.int .i64 0), (.int .i64 0), (.int .i64 0)] [(0, 1, p2.1)] p2.2 >>= fun p3 =>
  sNew [(.int .u8 0), (.int .i64 0), (.int .i64 0), (.int .i64 0)] p3.2 >>= fun p4 =>
  sStore 4 p4.1 p3.1 p4.2 >>= fun p5 =>
  sOff 0 v3 p5.2 >>= fun p6 =>
  sLoad none p6.1 p6.2 >>= fun p7 =>
  sBin .eql p7.1 (.int .u8 0) p7.2 >>= fun p8 =>
  condX p8.1
  (sOff 2 v3 p8.2 >>= fun p9 =>
  sLoad none p9.1 p9.2 >>= fun p10 =>
  sLit 1 1 [(.int .i64 0)] [(0, 1, p10.1)] p10.2 >>= fun p11 =>
  sOff 2 v3 p11.2 >>= fun p12 =>
  sLoad none p12.1 p12.2 >>= fun p13 =>
  sOff 2 p4.1 p13.2 >>= fun p14 =>
  sStore 1 p14.1 p13.1 p14.2 >>= fun p15 =>
  refinerylaw03_IrLasts_j2 J v3 p11.1 p4.1 p15.2)
  (sBin .eql p7.1 (.int .u8 1) p8.2 >>= fun p16 =>
  condX p16.1
  (sOff 2 v3 p16.2 >>= fun p17 =>
  sLoad none p17.1 p17.2 >>= fun p18 =>
  sOff 3 v3 p18.2 >>= fun p19 =>
  sLoad none p19.1 p19.2 >>= fun p20 =>
  sLit 1 2 [(.int .i64 0), (.int .i64 0)] [(0, 1, p18.1), (1, 1, p20.1)] p20.2 >>= fun p21 =>
  sOff 1 v3 p21.2 >>= fun p22 =>
  sLoad none p22.1 p22.2 >>= fun p23 =>
  sOff 1 p4.1 p23.2 >>= fun p24 =>
  sStore 1 p24.1 p23.1 p24.2 >>= fun p25 =>
  sOff 2 v3 p25.2 >>= fun p26 =>
  sLoad none p26.1 p26.2 >>= fun p27 =>
  Res.need (sStays (List.take 1 (p24.2 :: [])) p25.2.next p26.1 (fun s => sLoad none p26.1 s) p27.1) "order" >>= fun _ =>
  sOff 2 p4.1 p27.2 >>= fun p28 =>
  sStore 1 p28.1 p27.1 p28.2 >>= fun p29 =>
  sOff 3 v3 p29.2 >>= fun p30 =>
  sLoad none p30.1 p30.2 >>= fun p31 =>
  Res.need (sStays (List.take 2 (p28.2 :: (p24.2 :: []))) p29.2.next p30.1 (fun s => sLoad none p30.1 s) p31.1) "order" >>= fun _ =>
  sOff 3 p4.1 p31.2 >>= fun p32 =>
  sStore 1 p32.1 p31.1 p32.2 >>= fun p33 =>
  sOff 2 v3 p33.2 >>= fun p34 =>
  sLoad none p34.1 p34.2 >>= fun p35 =>
  sOff 3 v3 p35.2 >>= fun p36 =>
  sLoad none p36.1 p36.2 >>= fun p37 =>
  sBin .eql p35.1 p37.1 p37.2 >>= fun p38 =>
  condX p38.1
  (sSlice (.slice 1) p21.1 none (some (.int .i64 1)) none p38.2 >>= fun p39 =>
  refinerylaw03_IrLasts_j2 J v3 p39.1 p4.1 p39.2)
  (refinerylaw03_IrLasts_j2 J v3 p21.1 p4.1 p38.2))
  (sBin .eql p7.1 (.int .u8 2) p16.2 >>= fun p40 =>
  condX p40.1
  (sOff 1 v3 p40.2 >>= fun p41 =>
  sLoad none p41.1 p41.2 >>= fun p42 =>
  sOff 1 p4.1 p42.2 >>= fun p43 =>
  sStore 1 p43.1 p42.1 p43.2 >>= fun p44 =>
  refinerylaw03_IrLasts_j2 J v3 (.slice none 0 0) p4.1 p44.2)
  (refinerylaw03_IrLasts_j2 J v3 (.slice none 0 0) p4.1 p40.2)))) := (go_eq hJ _ _ _ _).trans (by kernel_rfl)
theorem refinerylaw03_IrLasts_j2_eq {K : Ctx} {J : JT (Value × St)} (hJ : IsJ K (retK refinerylaw03_IrLasts_c.results) J) (v3 : Value) (v7 : Value) (v8 : Value) (st : St) : refinerylaw03_IrLasts_j2 J v3 v7 v8 st =
  (sLoad (some 4) v3 st >>= fun p1 =>
  K.go (.call n_ir_Last_Reads [p1.1]) p1.2 >>= fun p2 =>
  sExtract p2.1 0 p2.2 >>= fun p3 =>
  sExtract p2.1 1 p3.2 >>= fun p4 =>
  sOff 0 v3 p4.2 >>= fun p5 =>
  sLoad none p5.1 p5.2 >>= fun p6 =>
  sBin .eql p6.1 (.int .u8 1) p6.2 >>= fun p7 =>
  (gd p7.1 false >>= fun b => bif b then (sOff 0 v3 p7.2 >>= fun p9 => Res.need true "order" >>= fun _ => .ok p9) else .ok (skipped, p7.2)) >>= fun p8 =>
  (gd p7.1 false >>= fun b => bif b then (sLoad none p8.1 p8.2 >>= fun p11 => Res.need true "order" >>= fun _ => .ok p11) else .ok (skipped, p8.2)) >>= fun p10 =>
  (gd p7.1 false >>= fun b => bif b then (sBin .eql p10.1 (.int .u8 2) p10.2 >>= fun p13 => Res.need true "order" >>= fun _ => .ok p13) else .ok (skipped, p10.2)) >>= fun p12 =>
  sPick p7.1 (.bool true) p12.1 p12.2 >>= fun p14 =>
  sEq false .bools p4.1 p14.1 p14.2 >>= fun p15 =>
  (gd p15.1 true >>= fun b => bif b then (Res.ok (p4.1, p15.2) >>= fun p17 => Res.need true "order" >>= fun _ => .ok p17) else .ok (skipped, p15.2)) >>= fun p16 =>
  (gd p15.1 true >>= fun b => bif b then (sUn .not p16.1 p16.2 >>= fun p19 => Res.need true "order" >>= fun _ => .ok p19) else .ok (skipped, p16.2)) >>= fun p18 =>
  (gd p15.1 true >>= fun b => bif b then (Res.ok (p18.1, p18.2) >>= fun p21 => Res.need true "order" >>= fun _ => .ok p21) else .ok (skipped, p18.2)) >>= fun p20 =>
  (gd p20.1 false >>= fun b => bif b then (Res.ok (p3.1, p20.2) >>= fun p23 => Res.need true "order" >>= fun _ => .ok p23) else .ok (skipped, p20.2)) >>= fun p22 =>
  (gd p20.1 false >>= fun b => bif b then (sOff 1 v3 p22.2 >>= fun p25 => Res.need true "order" >>= fun _ => .ok p25) else .ok (skipped, p22.2)) >>= fun p24 =>
  (gd p20.1 false >>= fun b => bif b then (sLoad none p24.1 p24.2 >>= fun p27 => Res.need true "order" >>= fun _ => .ok p27) else .ok (skipped, p24.2)) >>= fun p26 =>
  (gd p20.1 false >>= fun b => bif b then (sBin .eql p22.1 p26.1 p26.2 >>= fun p29 => Res.need true "order" >>= fun _ => .ok p29) else .ok (skipped, p26.2)) >>= fun p28 =>
  (gd p15.1 true >>= fun b => bif b then (sPick p20.1 (.bool true) p28.1 p28.2 >>= fun p31 => Res.need true "order" >>= fun _ => .ok p31) else .ok (skipped, p28.2)) >>= fun p30 =>
  sPick p15.1 p30.1 (.bool false) p30.2 >>= fun p32 =>
  (gd p32.1 true >>= fun b => bif b then (sLoad (some 4) v3 p32.2 >>= fun p34 => Res.need true "order" >>= fun _ => .ok p34) else .ok (skipped, p32.2)) >>= fun p33 =>
  (gd p32.1 true >>= fun b => bif b then (K.go (.call n_ir_Last_Labels [p33.1]) p33.2 >>= fun p35 => Res.ok (p35.1, p35.2, p33.2 :: [], p35.2.next)) else Res.ok (skipped, p33.2, [], p4.2.next)) >>= fun p36 =>
  (gd p32.1 true >>= fun b => bif b then (Res.ok (v7, p36.2.1) >>= fun p38 => Res.need true "order" >>= fun _ => .ok p38) else .ok (skipped, p36.2.1)) >>= fun p37 =>
  (gd p32.1 true >>= fun b => bif b then (K.go (.call n_slices_Equal_int [p36.1, p37.1]) p37.2 >>= fun p39 => Res.ok (p39.1, p39.2, p37.2 :: p36.2.2.1, p39.2.next)) else Res.ok (skipped, p37.2, p36.2.2.1, p36.2.2.2)) >>= fun p40 =>
  sPick p32.1 p40.1 (.bool false) p40.2.1 >>= fun p41 =>
  (gd p41.1 true >>= fun b => bif b then (sLoad (some 4) v3 p41.2 >>= fun p43 => Res.need true "order" >>= fun _ => .ok p43) else .ok (skipped, p41.2)) >>= fun p42 =>
  (gd p41.1 true >>= fun b => bif b then (K.go (.call n_ir_Last_Only [p42.1]) p42.2 >>= fun p44 => Res.ok (p44.1, p44.2, p42.2 :: p40.2.2.1, p44.2.next)) else Res.ok (skipped, p42.2, p40.2.2.1, p40.2.2.2)) >>= fun p45 =>
  (gd p41.1 true >>= fun b => bif b then (sLoad (some 4) v8 p45.2.1 >>= fun p47 => Res.need (sStays (List.take 1 p45.2.2.1) p45.2.2.2 v8 (fun s => sLoad (some 4) v8 s) p47.1) "order" >>= fun _ => .ok p47) else .ok (skipped, p45.2.1)) >>= fun p46 =>
  (gd p41.1 true >>= fun b => bif b then (sEq false (.fields [(0, .int), (1, .int), (2, .int), (3, .int)]) p45.1 p46.1 p46.2 >>= fun p49 => Res.need true "order" >>= fun _ => .ok p49) else .ok (skipped, p46.2)) >>= fun p48 =>
  sPick p41.1 p48.1 (.bool false) p48.2 >>= fun p50 =>
  .ok (p50.1, p50.2)) := (go_eq hJ _ _ _ _).trans (by kernel_rfl)
end Go.Proofs.Ytfknooeebmdfoaa.Sh
