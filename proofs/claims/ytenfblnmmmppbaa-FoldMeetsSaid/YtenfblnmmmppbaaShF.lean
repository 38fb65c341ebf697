/-
  The functions of the program, operation by operation, as the abstract machine has them.
-/
import Derived.Test.YtenfblnmmmppbaaProg
import Derived.Test.YtenfblnmmmppbaaShN
set_option linter.unusedVariables false
set_option maxRecDepth 100000
namespace Go.Proofs.Ytenfblnmmmppbaa.Sh
open Go Go.AM Go.Proofs

/-! ### refinery/refinerylaw18.FoldMeets -/
open C in
noncomputable def refinerylaw18_FoldMeets_c : AFun := ⟨4, [.tmp 8],
 (s (.ops [o 4 (.lbox (t 0)), o 5 (.lbox (t 1)), o 6 (.lbox (t 2)), o 8 (.mv (c (.bool false)))])
 (s (s (.ops [o 11 (.call (f 17) []), o 12 (.un .not (t 11))])
 (.cond (t 12) (s (.ops [o 8 (.mv (c (.bool false)))])
 .ret) .skip))
 (s (.keep [3, 4, 5, 6])
 (s (.ops [o 9 (.mv (f 18))])
 (s (.draw [d 0 0 false (o 13 (.mv (t 9))), d 1 0 false (o 14 (.field (some 2) 0 (t 4))), d 2 0 true (o 15 (.call (t 13) [(t 14)])), d 3 0 false (o 16 (.mv (t 9))), d 4 1 false (o 17 (.field (some 2) 0 (t 5))), d 5 0 true (o 18 (.call (t 16) [(t 17)])), d 6 0 false (o 19 (.mv (t 9))), d 7 2 false (o 20 (.field (some 2) 0 (t 6))), d 8 0 true (o 21 (.call (t 19) [(t 20)])), d 9 0 true (o 4 (.upd 2 0 (t 4) (t 15))), d 10 0 true (o 5 (.upd 2 0 (t 5) (t 18))), d 11 0 true (o 6 (.upd 2 0 (t 6) (t 21)))])
 (s (s (.ops [o 22 (.mv (t 3))])
 (.cond (t 22) (s (.ops [o 23 (.lref (t 4)), o 24 (.field none 1 (t 4)), o 25 (.lref (t 5)), o 5 (.upd 1 1 (t 5) (t 24))])
 (.ops [o 26 (.mv (t 9)), o 27 (.field (some 2) 0 (t 5)), o 28 (.call (t 26) [(t 27)]), o 5 (.upd 2 0 (t 5) (t 28))])) .skip))
 (s (.keep [4, 5, 6])
 (s (.ops [o 29 (.build [(u 0), (i 0)] [(0, 1, (c (u 2)))]), o 10 (.lnew [(u 0), (i 0)]), o 10 (.upd 2 0 (t 10) (t 29))])
 (s (.block 0 (s (.ops [o 31 (.lref (t 4)), o 32 (.field none 0 (t 4)), o 33 (.bin .eql (t 32) (c (u 0))), o 30 (.mv (t 33))])
 (.cond (t 30) (.ops [o 34 (.field (some 2) 0 (t 5)), o 10 (.upd 2 0 (t 10) (t 34))]) (s (.ops [o 36 (.lref (t 5)), o 37 (.field none 0 (t 5)), o 38 (.bin .eql (t 37) (c (u 0))), o 39 (.mv (t 38)), g 40 false 39 (.field (some 2) 0 (t 4)), g 41 false 39 (.field (some 2) 0 (t 5)), g 42 false 39 (.eq false (.fields [(0, .int), (1, .int)]) (t 40) (t 41)), o 43 (.pick (t 39) (c (.bool true)) (t 42)), o 35 (.mv (t 43))])
 (.cond (t 35) (.ops [o 44 (.field (some 2) 0 (t 4)), o 10 (.upd 2 0 (t 10) (t 44))]) .skip)))))
 (s (.keep [4, 5, 6, 10])
 (s (.draw [d 0 0 false (o 45 (.field (some 2) 0 (t 4))), d 1 0 false (o 46 (.field (some 2) 0 (t 5))), d 2 0 true (o 47 (.call (f 19) [(t 45), (t 46)])), d 3 1 false (o 48 (.field (some 2) 0 (t 10))), d 4 0 false (o 49 (.eq false (.fields [(0, .int), (1, .int)]) (t 47) (t 48))), d 5 0 false (o 50 (.mv (t 49))), d 6 0 false (g 51 true 50 (.field (some 2) 0 (t 5))), d 7 0 false (g 52 true 50 (.field (some 2) 0 (t 4))), d 8 0 true (g 53 true 50 (.call (f 19) [(t 51), (t 52)])), d 9 1 false (g 54 true 50 (.field (some 2) 0 (t 10))), d 10 0 false (g 55 true 50 (.eq false (.fields [(0, .int), (1, .int)]) (t 53) (t 54))), d 11 0 false (o 56 (.pick (t 50) (t 55) (c (.bool false)))), d 12 0 false (o 57 (.mv (t 56))), d 13 0 false (g 58 true 57 (.field (some 2) 0 (t 4))), d 14 0 false (g 59 true 57 (.field (some 2) 0 (t 4))), d 15 0 true (g 60 true 57 (.call (f 19) [(t 58), (t 59)])), d 16 1 false (g 61 true 57 (.field (some 2) 0 (t 4))), d 17 0 false (g 62 true 57 (.eq false (.fields [(0, .int), (1, .int)]) (t 60) (t 61))), d 18 0 false (o 63 (.pick (t 57) (t 62) (c (.bool false)))), d 19 0 false (o 64 (.mv (t 63))), d 20 0 false (g 65 true 64 (.field (some 2) 0 (t 4))), d 21 0 false (g 66 true 64 (.field (some 2) 0 (t 5))), d 22 0 true (g 67 true 64 (.call (f 19) [(t 65), (t 66)])), d 23 1 false (g 68 true 64 (.field (some 2) 0 (t 6))), d 24 0 true (g 69 true 64 (.call (f 19) [(t 67), (t 68)])), d 26 2 false (g 71 true 64 (.field (some 2) 0 (t 5))), d 27 2 false (g 72 true 64 (.field (some 2) 0 (t 6))), d 28 0 true (g 73 true 64 (.call (f 19) [(t 71), (t 72)])), d 25 3 false (g 70 true 64 (.field (some 2) 0 (t 4))), d 29 0 true (g 74 true 64 (.call (f 19) [(t 70), (t 73)])), d 30 0 false (g 75 true 64 (.eq false (.fields [(0, .int), (1, .int)]) (t 69) (t 74))), d 31 0 false (o 76 (.pick (t 64) (t 75) (c (.bool false)))), d 32 0 false (o 8 (.mv (t 76)))])
 .ret)))))))))))⟩
theorem refinerylaw18_FoldMeets_is : pgF n_refinerylaw18_FoldMeets = some refinerylaw18_FoldMeets_c := by kernel_rfl
noncomputable def refinerylaw18_FoldMeets_j0 (J : JT (Value × St)) (v3 : Value) (v4 : Value) (v5 : Value) (v6 : Value) (st : St) : Res (Value × St) := goX J refinerylaw18_FoldMeets_c.body [1, 1, 1] (envT [(3, v3), (4, v4), (5, v5), (6, v6)]) st
noncomputable def refinerylaw18_FoldMeets_j1 (J : JT (Value × St)) (v4 : Value) (v5 : Value) (v6 : Value) (st : St) : Res (Value × St) := goX J refinerylaw18_FoldMeets_c.body [1, 1, 1, 1, 1, 1, 1] (envT [(4, v4), (5, v5), (6, v6)]) st
noncomputable def refinerylaw18_FoldMeets_j2 (J : JT (Value × St)) (v4 : Value) (v5 : Value) (v6 : Value) (v10 : Value) (st : St) : Res (Value × St) := goX J refinerylaw18_FoldMeets_c.body [1, 1, 1, 1, 1, 1, 1, 1, 1, 1] (envT [(4, v4), (5, v5), (6, v6), (10, v10)]) st
theorem refinerylaw18_FoldMeets_eq (K : Ctx) (J : JT (Value × St)) (a0 a1 a2 a3 : Value) (st : St) : atX K J refinerylaw18_FoldMeets_c (AM.start [a0, a1, a2, a3]) st =
  (.thn st (sLbox a0 st) fun p1 =>
  .thn p1.2 (sLbox a1 p1.2) fun p2 =>
  .thn p2.2 (sLbox a2 p2.2) fun p3 =>
  .thn p3.2 (K.go (.call n_refinerylaw18_Awake []) p3.2) fun p4 =>
  .thn p4.2 (sUn .not p4.1 p4.2) fun p5 =>
  condX p5.1
  (.ok ((.bool false), p5.2))
  (refinerylaw18_FoldMeets_j0 J a3 p1.1 p2.1 p3.1 p5.2)) := by kernel_rfl
theorem refinerylaw18_FoldMeets_of {K : Ctx} (hF : Fix pgF K) {a0 a1 a2 a3 : Value} {st : St} {Q : Value × St → Prop} (h : ∀ J, IsJ K (retK refinerylaw18_FoldMeets_c.results) J → Ok (atX K J refinerylaw18_FoldMeets_c (AM.start [a0, a1, a2, a3]) st) Q) : Ok (K.go (.call n_refinerylaw18_FoldMeets [a0, a1, a2, a3]) st) Q := call_of hF refinerylaw18_FoldMeets_is rfl h
theorem refinerylaw18_FoldMeets_j0_eq {K : Ctx} {J : JT (Value × St)} (hJ : IsJ K (retK refinerylaw18_FoldMeets_c.results) J) (v3 : Value) (v4 : Value) (v5 : Value) (v6 : Value) (st : St) : refinerylaw18_FoldMeets_j0 J v3 v4 v5 v6 st =
  (.thn st (sField (some 2) 0 v4 st) fun p1 =>
  .thn p1.2 (sCall K (.func (.func n_refinerylaw18_FoldMeets_1) #[] #[]) [p1.1] p1.2) fun p2 =>
  .thn p2.2 (sField (some 2) 0 v5 p2.2) fun p3 =>
  Res.need (sStays (List.take 1 (p1.2 :: [])) p2.2.next nothing (fun s => sField (some 2) 0 v5 s) p3.1) "order" >>= fun _ =>
  .thn p3.2 (sCall K (.func (.func n_refinerylaw18_FoldMeets_1) #[] #[]) [p3.1] p3.2) fun p4 =>
  .thn p4.2 (sField (some 2) 0 v6 p4.2) fun p5 =>
  Res.need (sStays (List.take 2 (p3.2 :: (p1.2 :: []))) p4.2.next nothing (fun s => sField (some 2) 0 v6 s) p5.1) "order" >>= fun _ =>
  .thn p5.2 (sCall K (.func (.func n_refinerylaw18_FoldMeets_1) #[] #[]) [p5.1] p5.2) fun p6 =>
  .thn p6.2 (sUpd 2 0 v4 p2.1 p6.2) fun p7 =>
  .thn p7.2 (sUpd 2 0 v5 p4.1 p7.2) fun p8 =>
  .thn p8.2 (sUpd 2 0 v6 p6.1 p8.2) fun p9 =>
  condX v3
  (.thn p9.2 (sLref p7.1 p9.2) fun p10 =>
  .thn p10.2 (sField none 1 p7.1 p10.2) fun p11 =>
  .thn p11.2 (sLref p8.1 p11.2) fun p12 =>
  .thn p12.2 (sUpd 1 1 p8.1 p11.1 p12.2) fun p13 =>
  .thn p13.2 (sField (some 2) 0 p13.1 p13.2) fun p14 =>
  .thn p14.2 (sCall K (.func (.func n_refinerylaw18_FoldMeets_1) #[] #[]) [p14.1] p14.2) fun p15 =>
  .thn p15.2 (sUpd 2 0 p13.1 p15.1 p15.2) fun p16 =>
  refinerylaw18_FoldMeets_j1 J p7.1 p16.1 p9.1 p16.2)
  (refinerylaw18_FoldMeets_j1 J p7.1 p8.1 p9.1 p9.2)) := (go_eq hJ _ _ _ _).trans (by kernel_rfl)
theorem refinerylaw18_FoldMeets_j1_eq {K : Ctx} {J : JT (Value × St)} (hJ : IsJ K (retK refinerylaw18_FoldMeets_c.results) J) (v4 : Value) (v5 : Value) (v6 : Value) (st : St) : refinerylaw18_FoldMeets_j1 J v4 v5 v6 st =
  (.thn st (sBuild [(.int .u8 0), (.int .i64 0)] [(0, 1, (.int .u8 2))] st) fun p1 =>
  .thn p1.2 (sLnew [(.int .u8 0), (.int .i64 0)] p1.2) fun p2 =>
  .thn p2.2 (sUpd 2 0 p2.1 p1.1 p2.2) fun p3 =>
  .thn p3.2 (sLref v4 p3.2) fun p4 =>
  .thn p4.2 (sField none 0 v4 p4.2) fun p5 =>
  .thn p5.2 (sBin .eql p5.1 (.int .u8 0) p5.2) fun p6 =>
  condX p6.1
  (.thn p6.2 (sField (some 2) 0 v5 p6.2) fun p7 =>
  .thn p7.2 (sUpd 2 0 p3.1 p7.1 p7.2) fun p8 =>
  refinerylaw18_FoldMeets_j2 J v4 v5 v6 p8.1 p8.2)
  (.thn p6.2 (sLref v5 p6.2) fun p9 =>
  .thn p9.2 (sField none 0 v5 p9.2) fun p10 =>
  .thn p10.2 (sBin .eql p10.1 (.int .u8 0) p10.2) fun p11 =>
  .thn p11.2 (sG p11.1 false (sField (some 2) 0 v4 p11.2) p11.2) fun p12 =>
  .thn p12.2 (sG p11.1 false (sField (some 2) 0 v5 p12.2) p12.2) fun p13 =>
  .thn p13.2 (sG p11.1 false (sEq false (.fields [(0, .int), (1, .int)]) p12.1 p13.1 p13.2) p13.2) fun p14 =>
  .thn p14.2 (sPick p11.1 (.bool true) p14.1 p14.2) fun p15 =>
  condX p15.1
  (.thn p15.2 (sField (some 2) 0 v4 p15.2) fun p16 =>
  .thn p16.2 (sUpd 2 0 p3.1 p16.1 p16.2) fun p17 =>
  refinerylaw18_FoldMeets_j2 J v4 v5 v6 p17.1 p17.2)
  (refinerylaw18_FoldMeets_j2 J v4 v5 v6 p3.1 p15.2))) := (go_eq hJ _ _ _ _).trans (by kernel_rfl)
theorem refinerylaw18_FoldMeets_j2_eq {K : Ctx} {J : JT (Value × St)} (hJ : IsJ K (retK refinerylaw18_FoldMeets_c.results) J) (v4 : Value) (v5 : Value) (v6 : Value) (v10 : Value) (st : St) : refinerylaw18_FoldMeets_j2 J v4 v5 v6 v10 st =
  (.thn st (sField (some 2) 0 v4 st) fun p1 =>
  .thn p1.2 (sField (some 2) 0 v5 p1.2) fun p2 =>
  .thn p2.2 (K.go (.call n_fold_Meet [p1.1, p2.1]) p2.2) fun p3 =>
  .thn p3.2 (sField (some 2) 0 v10 p3.2) fun p4 =>
  Res.need (sStays (List.take 1 (p2.2 :: [])) p3.2.next nothing (fun s => sField (some 2) 0 v10 s) p4.1) "order" >>= fun _ =>
  .thn p4.2 (sEq false (.fields [(0, .int), (1, .int)]) p3.1 p4.1 p4.2) fun p5 =>
  .thn p5.2 (sGo p5.1 true (sField (some 2) 0 v5 p5.2) p5.2) fun p6 =>
  .thn p6.2 (sGo p5.1 true (sField (some 2) 0 v4 p6.2) p6.2) fun p8 =>
  .thn p8.2 (gd p5.1 true >>= fun b => bif b then (K.go (.call n_fold_Meet [p6.1, p8.1]) p8.2 >>= fun p10 => Res.ok (p10.1, p10.2, p8.2 :: (p2.2 :: []), p10.2.next)) else Res.ok (skipped, p8.2, (p2.2 :: []), p3.2.next)) fun p11 =>
  .thn p11.2.1 (gd p5.1 true >>= fun b => bif b then (sField (some 2) 0 v10 p11.2.1 >>= fun p13 => Res.need (sStays (List.take 1 p11.2.2.1) p11.2.2.2 nothing (fun s => sField (some 2) 0 v10 s) p13.1) "order" >>= fun _ => .ok p13) else .ok (skipped, p11.2.1)) fun p12 =>
  .thn p12.2 (sGo p5.1 true (sEq false (.fields [(0, .int), (1, .int)]) p11.1 p12.1 p12.2) p12.2) fun p14 =>
  .thn p14.2 (sPick p5.1 p14.1 (.bool false) p14.2) fun p16 =>
  .thn p16.2 (sGo p16.1 true (sField (some 2) 0 v4 p16.2) p16.2) fun p17 =>
  .thn p17.2 (sGo p16.1 true (sField (some 2) 0 v4 p17.2) p17.2) fun p19 =>
  .thn p19.2 (gd p16.1 true >>= fun b => bif b then (K.go (.call n_fold_Meet [p17.1, p19.1]) p19.2 >>= fun p21 => Res.ok (p21.1, p21.2, p19.2 :: p11.2.2.1, p21.2.next)) else Res.ok (skipped, p19.2, p11.2.2.1, p11.2.2.2)) fun p22 =>
  .thn p22.2.1 (gd p16.1 true >>= fun b => bif b then (sField (some 2) 0 v4 p22.2.1 >>= fun p24 => Res.need (sStays (List.take 1 p22.2.2.1) p22.2.2.2 nothing (fun s => sField (some 2) 0 v4 s) p24.1) "order" >>= fun _ => .ok p24) else .ok (skipped, p22.2.1)) fun p23 =>
  .thn p23.2 (sGo p16.1 true (sEq false (.fields [(0, .int), (1, .int)]) p22.1 p23.1 p23.2) p23.2) fun p25 =>
  .thn p25.2 (sPick p16.1 p25.1 (.bool false) p25.2) fun p27 =>
  .thn p27.2 (sGo p27.1 true (sField (some 2) 0 v4 p27.2) p27.2) fun p28 =>
  .thn p28.2 (sGo p27.1 true (sField (some 2) 0 v5 p28.2) p28.2) fun p30 =>
  .thn p30.2 (gd p27.1 true >>= fun b => bif b then (K.go (.call n_fold_Meet [p28.1, p30.1]) p30.2 >>= fun p32 => Res.ok (p32.1, p32.2, p30.2 :: p22.2.2.1, p32.2.next)) else Res.ok (skipped, p30.2, p22.2.2.1, p22.2.2.2)) fun p33 =>
  .thn p33.2.1 (gd p27.1 true >>= fun b => bif b then (sField (some 2) 0 v6 p33.2.1 >>= fun p35 => Res.need (sStays (List.take 1 p33.2.2.1) p33.2.2.2 nothing (fun s => sField (some 2) 0 v6 s) p35.1) "order" >>= fun _ => .ok p35) else .ok (skipped, p33.2.1)) fun p34 =>
  .thn p34.2 (gd p27.1 true >>= fun b => bif b then (K.go (.call n_fold_Meet [p33.1, p34.1]) p34.2 >>= fun p36 => Res.ok (p36.1, p36.2, p34.2 :: p33.2.2.1, p36.2.next)) else Res.ok (skipped, p34.2, p33.2.2.1, p33.2.2.2)) fun p37 =>
  .thn p37.2.1 (gd p27.1 true >>= fun b => bif b then (sField (some 2) 0 v5 p37.2.1 >>= fun p39 => Res.need (sStays (List.take 2 p37.2.2.1) p37.2.2.2 nothing (fun s => sField (some 2) 0 v5 s) p39.1) "order" >>= fun _ => .ok p39) else .ok (skipped, p37.2.1)) fun p38 =>
  .thn p38.2 (gd p27.1 true >>= fun b => bif b then (sField (some 2) 0 v6 p38.2 >>= fun p41 => Res.need (sStays (List.take 2 p37.2.2.1) p37.2.2.2 nothing (fun s => sField (some 2) 0 v6 s) p41.1) "order" >>= fun _ => .ok p41) else .ok (skipped, p38.2)) fun p40 =>
  .thn p40.2 (gd p27.1 true >>= fun b => bif b then (K.go (.call n_fold_Meet [p38.1, p40.1]) p40.2 >>= fun p42 => Res.ok (p42.1, p42.2, p40.2 :: p37.2.2.1, p42.2.next)) else Res.ok (skipped, p40.2, p37.2.2.1, p37.2.2.2)) fun p43 =>
  .thn p43.2.1 (gd p27.1 true >>= fun b => bif b then (sField (some 2) 0 v4 p43.2.1 >>= fun p45 => Res.need (sStays (List.take 3 p43.2.2.1) p43.2.2.2 nothing (fun s => sField (some 2) 0 v4 s) p45.1) "order" >>= fun _ => .ok p45) else .ok (skipped, p43.2.1)) fun p44 =>
  .thn p44.2 (gd p27.1 true >>= fun b => bif b then (K.go (.call n_fold_Meet [p44.1, p43.1]) p44.2 >>= fun p46 => Res.ok (p46.1, p46.2, p44.2 :: p43.2.2.1, p46.2.next)) else Res.ok (skipped, p44.2, p43.2.2.1, p43.2.2.2)) fun p47 =>
  .thn p47.2.1 (sGo p27.1 true (sEq false (.fields [(0, .int), (1, .int)]) p37.1 p47.1 p47.2.1) p47.2.1) fun p48 =>
  .thn p48.2 (sPick p27.1 p48.1 (.bool false) p48.2) fun p50 =>
  .ok (p50.1, p50.2)) := (go_eq hJ _ _ _ _).trans (by kernel_rfl)

/-! ### refinery/refinerylaw18.FoldMeets$1 -/
open C in
noncomputable def refinerylaw18_FoldMeets_1_c : AFun := ⟨1, [.part 2 (some 2)],
 (s (.ops [o 1 (.lbox (t 0)), o 2 (.lnew [(u 0), (i 0)])])
 (s (.ops [o 3 (.lref (t 1)), o 4 (.field none 0 (t 1)), o 5 (.bin .rem (t 4) (c (u 3))), o 6 (.lref (t 1)), o 1 (.upd 1 0 (t 1) (t 5))])
 (s (s (.ops [o 7 (.lref (t 1)), o 8 (.field none 0 (t 1)), o 9 (.bin .neq (t 8) (c (u 1)))])
 (.cond (t 9) (.ops [o 10 (.lref (t 1)), o 1 (.upd 1 1 (t 1) (c (i 0)))]) .skip))
 (s (.keep [1, 2])
 (s (.ops [o 11 (.field (some 2) 0 (t 1)), o 2 (.upd 2 0 (t 2) (t 11))])
 .ret)))))⟩
theorem refinerylaw18_FoldMeets_1_is : pgF n_refinerylaw18_FoldMeets_1 = some refinerylaw18_FoldMeets_1_c := by kernel_rfl
noncomputable def refinerylaw18_FoldMeets_1_j0 (J : JT (Value × St)) (v1 : Value) (v2 : Value) (st : St) : Res (Value × St) := goX J refinerylaw18_FoldMeets_1_c.body [1, 1, 1, 1] (envT [(1, v1), (2, v2)]) st
theorem refinerylaw18_FoldMeets_1_eq (K : Ctx) (J : JT (Value × St)) (a0 : Value) (st : St) : atX K J refinerylaw18_FoldMeets_1_c (AM.start [a0]) st =
  (.thn st (sLbox a0 st) fun p1 =>
  .thn p1.2 (sLnew [(.int .u8 0), (.int .i64 0)] p1.2) fun p2 =>
  .thn p2.2 (sLref p1.1 p2.2) fun p3 =>
  .thn p3.2 (sField none 0 p1.1 p3.2) fun p4 =>
  .thn p4.2 (sBin .rem p4.1 (.int .u8 3) p4.2) fun p5 =>
  .thn p5.2 (sLref p1.1 p5.2) fun p6 =>
  .thn p6.2 (sUpd 1 0 p1.1 p5.1 p6.2) fun p7 =>
  .thn p7.2 (sLref p7.1 p7.2) fun p8 =>
  .thn p8.2 (sField none 0 p7.1 p8.2) fun p9 =>
  .thn p9.2 (sBin .neq p9.1 (.int .u8 1) p9.2) fun p10 =>
  condX p10.1
  (.thn p10.2 (sLref p7.1 p10.2) fun p11 =>
  .thn p11.2 (sUpd 1 1 p7.1 (.int .i64 0) p11.2) fun p12 =>
  refinerylaw18_FoldMeets_1_j0 J p12.1 p2.1 p12.2)
  (refinerylaw18_FoldMeets_1_j0 J p7.1 p2.1 p10.2)) := by kernel_rfl
theorem refinerylaw18_FoldMeets_1_of {K : Ctx} (hF : Fix pgF K) {a0 : Value} {st : St} {Q : Value × St → Prop} (h : ∀ J, IsJ K (retK refinerylaw18_FoldMeets_1_c.results) J → Ok (atX K J refinerylaw18_FoldMeets_1_c (AM.start [a0]) st) Q) : Ok (K.go (.call n_refinerylaw18_FoldMeets_1 [a0]) st) Q := call_of hF refinerylaw18_FoldMeets_1_is rfl h
theorem refinerylaw18_FoldMeets_1_j0_eq {K : Ctx} {J : JT (Value × St)} (hJ : IsJ K (retK refinerylaw18_FoldMeets_1_c.results) J) (v1 : Value) (v2 : Value) (st : St) : refinerylaw18_FoldMeets_1_j0 J v1 v2 st =
  (.thn st (sField (some 2) 0 v1 st) fun p1 =>
  .thn p1.2 (sUpd 2 0 v2 p1.1 p1.2) fun p2 =>
  (sField (some 2) 0 p2.1 p2.2 >>= fun p3 => .ok [p3.1]) >>= fun vs => .ok (oneOf vs, p2.2)) := (go_eq hJ _ _ _ _).trans (by kernel_rfl)

/-! ### refinery/fold.Meet -/
open C in
noncomputable def fold_Meet_c : AFun := ⟨2, [.part 4 (some 2)],
 (s (.ops [o 2 (.lbox (t 0)), o 3 (.lbox (t 1)), o 4 (.lnew [(u 0), (i 0)])])
 (s (.block 0 (s (.ops [o 6 (.lref (t 2)), o 7 (.field none 0 (t 2)), o 8 (.bin .eql (t 7) (c (u 0))), o 5 (.mv (t 8))])
 (.cond (t 5) (s (.ops [o 9 (.field (some 2) 0 (t 3)), o 4 (.upd 2 0 (t 4) (t 9))])
 .ret) (s (.ops [o 11 (.lref (t 3)), o 12 (.field none 0 (t 3)), o 13 (.bin .eql (t 12) (c (u 0))), o 14 (.mv (t 13)), g 15 false 14 (.field (some 2) 0 (t 2)), g 16 false 14 (.field (some 2) 0 (t 3)), g 17 false 14 (.eq false (.fields [(0, .int), (1, .int)]) (t 15) (t 16)), o 18 (.pick (t 14) (c (.bool true)) (t 17)), o 10 (.mv (t 18))])
 (.cond (t 10) (s (.ops [o 19 (.field (some 2) 0 (t 2)), o 4 (.upd 2 0 (t 4) (t 19))])
 .ret) .skip)))))
 (s (.keep [4])
 (s (.ops [o 20 (.build [(u 0), (i 0)] [(0, 1, (c (u 2)))]), o 4 (.upd 2 0 (t 4) (t 20))])
 .ret))))⟩
theorem fold_Meet_is : pgF n_fold_Meet = some fold_Meet_c := by kernel_rfl
noncomputable def fold_Meet_j0 (J : JT (Value × St)) (v4 : Value) (st : St) : Res (Value × St) := goX J fold_Meet_c.body [1, 1, 1] (envT [(4, v4)]) st
theorem fold_Meet_eq (K : Ctx) (J : JT (Value × St)) (a0 a1 : Value) (st : St) : atX K J fold_Meet_c (AM.start [a0, a1]) st =
  (.thn st (sLbox a0 st) fun p1 =>
  .thn p1.2 (sLbox a1 p1.2) fun p2 =>
  .thn p2.2 (sLnew [(.int .u8 0), (.int .i64 0)] p2.2) fun p3 =>
  .thn p3.2 (sLref p1.1 p3.2) fun p4 =>
  .thn p4.2 (sField none 0 p1.1 p4.2) fun p5 =>
  .thn p5.2 (sBin .eql p5.1 (.int .u8 0) p5.2) fun p6 =>
  condX p6.1
  (.thn p6.2 (sField (some 2) 0 p2.1 p6.2) fun p7 =>
  .thn p7.2 (sUpd 2 0 p3.1 p7.1 p7.2) fun p8 =>
  (sField (some 2) 0 p8.1 p8.2 >>= fun p9 => .ok [p9.1]) >>= fun vs => .ok (oneOf vs, p8.2))
  (.thn p6.2 (sLref p2.1 p6.2) fun p10 =>
  .thn p10.2 (sField none 0 p2.1 p10.2) fun p11 =>
  .thn p11.2 (sBin .eql p11.1 (.int .u8 0) p11.2) fun p12 =>
  .thn p12.2 (sG p12.1 false (sField (some 2) 0 p1.1 p12.2) p12.2) fun p13 =>
  .thn p13.2 (sG p12.1 false (sField (some 2) 0 p2.1 p13.2) p13.2) fun p14 =>
  .thn p14.2 (sG p12.1 false (sEq false (.fields [(0, .int), (1, .int)]) p13.1 p14.1 p14.2) p14.2) fun p15 =>
  .thn p15.2 (sPick p12.1 (.bool true) p15.1 p15.2) fun p16 =>
  condX p16.1
  (.thn p16.2 (sField (some 2) 0 p1.1 p16.2) fun p17 =>
  .thn p17.2 (sUpd 2 0 p3.1 p17.1 p17.2) fun p18 =>
  (sField (some 2) 0 p18.1 p18.2 >>= fun p19 => .ok [p19.1]) >>= fun vs => .ok (oneOf vs, p18.2))
  (fold_Meet_j0 J p3.1 p16.2))) := by kernel_rfl
theorem fold_Meet_of {K : Ctx} (hF : Fix pgF K) {a0 a1 : Value} {st : St} {Q : Value × St → Prop} (h : ∀ J, IsJ K (retK fold_Meet_c.results) J → Ok (atX K J fold_Meet_c (AM.start [a0, a1]) st) Q) : Ok (K.go (.call n_fold_Meet [a0, a1]) st) Q := call_of hF fold_Meet_is rfl h
theorem fold_Meet_j0_eq {K : Ctx} {J : JT (Value × St)} (hJ : IsJ K (retK fold_Meet_c.results) J) (v4 : Value) (st : St) : fold_Meet_j0 J v4 st =
  (.thn st (sBuild [(.int .u8 0), (.int .i64 0)] [(0, 1, (.int .u8 2))] st) fun p1 =>
  .thn p1.2 (sUpd 2 0 v4 p1.1 p1.2) fun p2 =>
  (sField (some 2) 0 p2.1 p2.2 >>= fun p3 => .ok [p3.1]) >>= fun vs => .ok (oneOf vs, p2.2)) := (go_eq hJ _ _ _ _).trans (by kernel_rfl)
end Go.Proofs.Ytenfblnmmmppbaa.Sh
