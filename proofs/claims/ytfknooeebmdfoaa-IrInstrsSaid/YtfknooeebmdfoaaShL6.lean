/-
  The functions of the program, operation by operation, as the abstract machine has them.
-/
import Derived.Test.YtfknooeebmdfoaaProg
import Derived.Test.YtfknooeebmdfoaaShN
set_option linter.unusedVariables false
set_option maxRecDepth 100000
namespace Go.Proofs.Ytfknooeebmdfoaa.Sh
open Go Go.AM Go.Proofs

/-! ### refinery/refinerylaw03.IrOnly -/
open C in
noncomputable def refinerylaw03_IrOnly_c : AFun := ⟨7, [.tmp 14],
 (s (.ops [o 7 (.lbox (t 0)), o 14 (.mv (c (.bool false)))])
 (s (s (.ops [o 17 (.call (f 13) []), o 18 (.un .not (t 17))])
 (.cond (t 18) (s (.ops [o 14 (.mv (c (.bool false)))])
 .ret) .skip))
 (s (.keep [1, 2, 3, 4, 5, 6, 7])
 (s (.ops [o 19 (.mv (t 1)), o 20 (.bin .rem (t 19) (c (u 9))), o 21 (.mv (t 2)), o 22 (.bin .rem (t 21) (c (u 12))), o 23 (.mv (t 3)), o 24 (.conv (.int .i64) (t 23)), o 25 (.mv (t 4)), o 26 (.conv (.int .i64) (t 25)), o 27 (.mv (t 5)), o 28 (.conv (.int .i64) (t 27)), o 29 (.lref (t 7)), o 30 (.field none 5 (t 7)), o 31 (.mv (t 6)), o 32 (.bin .rem (t 31) (c (u 16))), o 33 (.conv (.int .i64) (t 32)), o 34 (.build [(u 0), (u 0), (i 0), (i 0), (i 0), (i 0), (i 0)] [(0, 1, (t 20)), (1, 1, (t 22)), (2, 1, (t 24)), (3, 1, (t 26)), (4, 1, (t 28)), (5, 1, (t 30)), (6, 1, (t 33))]), o 7 (.upd 7 0 (t 7) (t 34))])
 (s (.ops [o 15 (.mv (f 19))])
 (s (.ops [o 35 (.mv (t 15)), o 36 (.field (some 7) 0 (t 7)), o 37 (.call (t 35) [(t 36)]), o 16 (.mv (t 37))])
 (s (.draw [d 1 0 false (o 39 (.field (some 7) 0 (t 7))), d 2 0 true (o 40 (.call (f 20) [(t 39)])), d 0 0 false (o 38 (.mv (t 15))), d 3 0 true (o 41 (.call (t 38) [(t 40)])), d 4 0 false (o 42 (.bin .eql (t 41) (c (i 0)))), d 5 0 false (o 43 (.mv (t 42))), d 9 0 false (g 47 true 43 (.field (some 7) 0 (t 7))), d 10 0 true (g 48 true 43 (.call (f 20) [(t 47)])), d 6 0 false (g 44 true 43 (.mv (t 16))), d 7 0 false (g 45 true 43 (.bin .eql (t 44) (c (i 0)))), d 8 1 false (g 46 true 43 (.field (some 7) 0 (t 7))), d 11 0 false (g 49 true 43 (.eq false (.fields [(0, .int), (1, .int), (2, .int), (3, .int), (4, .int), (5, .int), (6, .int)]) (t 46) (t 48))), d 12 0 false (g 50 true 43 (.eq false .bools (t 45) (t 49))), d 13 0 false (o 51 (.pick (t 43) (t 50) (c (.bool false)))), d 14 0 false (o 52 (.mv (t 51))), d 15 0 false (g 53 true 52 (.mv (t 16))), d 16 0 false (g 54 true 52 (.bin .eql (t 53) (c (i 0)))), d 17 0 false (g 55 true 52 (.mv (t 54))), d 18 0 false (g 56 false 55 (.mv (t 16))), d 19 0 false (g 57 false 55 (.bin .eql (t 56) (c (i 5)))), d 20 0 false (g 58 true 52 (.pick (t 55) (c (.bool true)) (t 57))), d 21 0 false (o 59 (.pick (t 52) (t 58) (c (.bool false)))), d 22 0 false (o 14 (.mv (t 59)))])
 .ret)))))))⟩
theorem refinerylaw03_IrOnly_is : pgF n_refinerylaw03_IrOnly = some refinerylaw03_IrOnly_c := by kernel_rfl
noncomputable def refinerylaw03_IrOnly_j0 (J : JT (Value × St)) (v1 : Value) (v2 : Value) (v3 : Value) (v4 : Value) (v5 : Value) (v6 : Value) (v7 : Value) (st : St) : Res (Value × St) := goX J refinerylaw03_IrOnly_c.body [1, 1, 1] (envT [(1, v1), (2, v2), (3, v3), (4, v4), (5, v5), (6, v6), (7, v7)]) st
theorem refinerylaw03_IrOnly_eq (K : Ctx) (J : JT (Value × St)) (a0 a1 a2 a3 a4 a5 a6 : Value) (st : St) : atX K J refinerylaw03_IrOnly_c (AM.start [a0, a1, a2, a3, a4, a5, a6]) st =
  (.thn st (sLbox a0 st) fun p1 =>
  .thn p1.2 (K.go (.call n_refinerylaw03_Awake []) p1.2) fun p2 =>
  .thn p2.2 (sUn .not p2.1 p2.2) fun p3 =>
  condX p3.1
  (.ok ((.bool false), p3.2))
  (refinerylaw03_IrOnly_j0 J a1 a2 a3 a4 a5 a6 p1.1 p3.2)) := by kernel_rfl
theorem refinerylaw03_IrOnly_of {K : Ctx} (hF : Fix pgF K) {a0 a1 a2 a3 a4 a5 a6 : Value} {st : St} {Q : Value × St → Prop} (h : ∀ J, IsJ K (retK refinerylaw03_IrOnly_c.results) J → Ok (atX K J refinerylaw03_IrOnly_c (AM.start [a0, a1, a2, a3, a4, a5, a6]) st) Q) : Ok (K.go (.call n_refinerylaw03_IrOnly [a0, a1, a2, a3, a4, a5, a6]) st) Q := call_of hF refinerylaw03_IrOnly_is rfl h
theorem refinerylaw03_IrOnly_j0_eq {K : Ctx} {J : JT (Value × St)} (hJ : IsJ K (retK refinerylaw03_IrOnly_c.results) J) (v1 : Value) (v2 : Value) (v3 : Value) (v4 : Value) (v5 : Value) (v6 : Value) (v7 : Value) (st : St) : refinerylaw03_IrOnly_j0 J v1 v2 v3 v4 v5 v6 v7 st =
  (.thn st (sBin .rem v1 (.int .u8 9) st) fun p1 =>
  .thn p1.2 (sBin .rem v2 (.int .u8 12) p1.2) fun p2 =>
  .thn p2.2 (sConv (.int .i64) v3 p2.2) fun p3 =>
  .thn p3.2 (sConv (.int .i64) v4 p3.2) fun p4 =>
  .thn p4.2 (sConv (.int .i64) v5 p4.2) fun p5 =>
  .thn p5.2 (sLref v7 p5.2) fun p6 =>
  .thn p6.2 (sField none 5 v7 p6.2) fun p7 =>
  .thn p7.2 (sBin .rem v6 (.int .u8 16) p7.2) fun p8 =>
  .thn p8.2 (sConv (.int .i64) p8.1 p8.2) fun p9 =>
  .thn p9.2 (sBuild [(.int .u8 0), (.int .u8 0), (.int .i64 0), (.int .i64 0), (.int .i64 0), (.int .i64 0), (.int .i64 0)] [(0, 1, p1.1), (1, 1, p2.1), (2, 1, p3.1), (3, 1, p4.1), (4, 1, p5.1), (5, 1, p7.1), (6, 1, p9.1)] p9.2) fun p10 =>
  .thn p10.2 (sUpd 7 0 v7 p10.1 p10.2) fun p11 =>
  .thn p11.2 (sField (some 7) 0 p11.1 p11.2) fun p12 =>
  .thn p12.2 (sCall K (.func (.func n_refinerylaw03_IrOnly_1) #[] #[]) [p12.1] p12.2) fun p13 =>
  .thn p13.2 (sField (some 7) 0 p11.1 p13.2) fun p14 =>
  .thn p14.2 (K.go (.call n_ir_Instr_Only [p14.1]) p14.2) fun p15 =>
  .thn p15.2 (sCall K (.func (.func n_refinerylaw03_IrOnly_1) #[] #[]) [p15.1] p15.2) fun p16 =>
  .thn p16.2 (sBin .eql p16.1 (.int .i64 0) p16.2) fun p17 =>
  .thn p17.2 (sGo p17.1 true (sField (some 7) 0 p11.1 p17.2) p17.2) fun p18 =>
  .thn p18.2 (gd p17.1 true >>= fun b => bif b then (K.go (.call n_ir_Instr_Only [p18.1]) p18.2 >>= fun p20 => Res.ok (p20.1, p20.2, p18.2 :: (p15.2 :: (p14.2 :: [])), p20.2.next)) else Res.ok (skipped, p18.2, (p15.2 :: (p14.2 :: [])), p16.2.next)) fun p21 =>
  .thn p21.2.1 (sGo p17.1 true (Res.ok (p13.1, p21.2.1)) p21.2.1) fun p22 =>
  .thn p22.2 (sGo p17.1 true (sBin .eql p22.1 (.int .i64 0) p22.2) p22.2) fun p24 =>
  .thn p24.2 (gd p17.1 true >>= fun b => bif b then (sField (some 7) 0 p11.1 p24.2 >>= fun p27 => Res.need (sStays (List.take 1 p21.2.2.1) p21.2.2.2 nothing (fun s => sField (some 7) 0 p11.1 s) p27.1) "order" >>= fun _ => .ok p27) else .ok (skipped, p24.2)) fun p26 =>
  .thn p26.2 (sGo p17.1 true (sEq false (.fields [(0, .int), (1, .int), (2, .int), (3, .int), (4, .int), (5, .int), (6, .int)]) p26.1 p21.1 p26.2) p26.2) fun p28 =>
  .thn p28.2 (sGo p17.1 true (sEq false .bools p24.1 p28.1 p28.2) p28.2) fun p30 =>
  .thn p30.2 (sPick p17.1 p30.1 (.bool false) p30.2) fun p32 =>
  .thn p32.2 (sGo p32.1 true (Res.ok (p13.1, p32.2)) p32.2) fun p33 =>
  .thn p33.2 (sGo p32.1 true (sBin .eql p33.1 (.int .i64 0) p33.2) p33.2) fun p35 =>
  .thn p35.2 (sGo p32.1 true (Res.ok (p35.1, p35.2)) p35.2) fun p37 =>
  .thn p37.2 (sGo p37.1 false (Res.ok (p13.1, p37.2)) p37.2) fun p39 =>
  .thn p39.2 (sGo p37.1 false (sBin .eql p39.1 (.int .i64 5) p39.2) p39.2) fun p41 =>
  .thn p41.2 (sGo p32.1 true (sPick p37.1 (.bool true) p41.1 p41.2) p41.2) fun p43 =>
  .thn p43.2 (sPick p32.1 p43.1 (.bool false) p43.2) fun p45 =>
  .ok (p45.1, p45.2)) := (go_eq hJ _ _ _ _).trans (by kernel_rfl)
end Go.Proofs.Ytfknooeebmdfoaa.Sh
