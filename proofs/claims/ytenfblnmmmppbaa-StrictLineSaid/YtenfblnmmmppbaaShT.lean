/-
  The functions of the program, operation by operation, as the abstract machine has them.
-/
import Derived.Test.YtenfblnmmmppbaaProg
import Derived.Test.YtenfblnmmmppbaaShN
set_option linter.unusedVariables false
set_option maxRecDepth 100000
namespace Go.Proofs.Ytenfblnmmmppbaa.Sh
open Go Go.AM Go.Proofs

/-! ### refinery/refinerylaw17.StrictLine -/
open C in
noncomputable def refinerylaw17_StrictLine_c : AFun := ⟨2, [.tmp 4],
 (s (.ops [o 4 (.mv (c (.bool false)))])
 (s (s (.ops [o 17 (.call (f 9) []), o 18 (.un .not (t 17))])
 (.cond (t 18) (s (.ops [o 4 (.mv (c (.bool false)))])
 .ret) .skip))
 (s (.keep [0, 1])
 (s (s (.ops [o 19 (.mv (t 0)), o 20 (.len .slice (t 19)), o 21 (.bin .gtr (t 20) (c (i 20)))])
 (.cond (t 21) (s (.ops [o 4 (.mv (c (.bool true)))])
 .ret) .skip))
 (s (.keep [0, 1])
 (s (.ops [o 22 (.mv (t 1)), o 23 (.bin .rem (t 22) (c (u 6))), o 24 (.conv (.int .i64) (t 23)), o 25 (.build [(u 0), (i 0), (i 0), (i 0)] [(0, 1, (c (u 2))), (1, 1, (t 24))]), o 26 (.build [(i 0), (.slice none 0 0), (.slice none 0 0), (u 0), (i 0), (i 0), (i 0)] [(3, 4, (t 25))]), o 5 (.lnew [(i 0), (.slice none 0 0), (.slice none 0 0), (u 0), (i 0), (i 0), (i 0)]), o 5 (.upd 7 0 (t 5) (t 26))])
 (s (.ops [o 27 .newMap, o 6 (.mv (t 27))])
 (s (.ops [o 7 (.mv (c (.bool false))), o 8 (.mv (c (.bool false)))])
 (s (s (.ops [o 28 (.mv (t 0)), o 29 (.len .slice (t 28)), o 30 (.mv (c (i 0)))])
 (.block 0 (s (.keep [1, 5, 6, 7, 8, 28, 29, 30])
 (.loop (s (s (.ops [o 31 (.bin .lss (t 30) (t 29))])
 (s (.cond (t 31) .skip (.exit 0))
 (s (.keep [1, 5, 6, 7, 8, 28, 29, 30])
 (s (.block 1 (s (.ops [o 32 (.ixA 7 none (t 28) (t 30)), o 33 (.load (some 7) (t 32)), o 10 (.lnew [(u 0), (u 0), (u 0), (u 0), (u 0), (u 0), (.int .i16 0)]), o 10 (.upd 7 0 (t 10) (t 33))])
 (s (.ops [o 34 (.field (some 7) 0 (t 10)), o 35 (.call (f 10) [(t 34), (c (i 6))]), o 11 (.lnew [(u 0), (u 0), (i 0), (i 0), (i 0), (i 0), (i 0)]), o 11 (.upd 7 0 (t 11) (t 35))])
 (s (s (.ops [o 36 (.field (some 7) 0 (t 11)), o 37 (.call (f 11) [(t 36)]), o 38 (.len .slice (t 37)), o 39 (.mv (c (i 0)))])
 (.block 2 (s (.keep [1, 5, 6, 7, 8, 11, 28, 29, 30, 37, 38, 39])
 (.loop (s (s (.ops [o 40 (.bin .lss (t 39) (t 38))])
 (s (.cond (t 40) .skip (.exit 2))
 (s (.keep [1, 5, 6, 7, 8, 11, 28, 29, 30, 37, 38, 39])
 (s (.block 3 (s (.ops [o 41 (.ixA 1 none (t 37) (t 39)), o 42 (.load none (t 41)), o 13 (.mv (t 42))])
 (.ops [o 43 (.mv (t 8)), o 44 (.mv (t 43)), g 45 false 44 (.mv (t 6)), g 46 false 44 (.mv (t 13)), g 47 false 44 (.look (.cell .int) (.bool false) false (t 45) (t 46)), g 48 false 44 (.un .not (t 47)), o 49 (.pick (t 44) (c (.bool true)) (t 48)), o 8 (.mv (t 49))])))
 (s (.keep [1, 5, 6, 7, 8, 11, 28, 29, 30, 37, 38, 39])
 (.ops [o 50 (.bin .add (t 39) (c (i 1))), o 39 (.mv (t 50))]))))))
 (.keep [1, 5, 6, 7, 8, 11, 28, 29, 30, 37, 38, 39]))))))
 (s (.keep [1, 5, 6, 7, 8, 11, 28, 29, 30])
 (s (s (.ops [o 52 (.field (some 7) 0 (t 11)), o 53 (.call (f 12) [(t 52)]), o 51 (.mv (t 53)), o 54 (.extract (t 51) 0), o 55 (.extract (t 51) 1), o 14 (.mv (t 54)), o 15 (.mv (t 55))])
 (s (.ops [o 56 (.mv (t 15))])
 (.cond (t 56) (s (.ops [o 57 (.mv (t 7)), o 58 (.mv (t 57)), g 59 false 58 (.mv (t 6)), g 60 false 58 (.mv (t 14)), g 61 false 58 (.look (.cell .int) (.bool false) false (t 59) (t 60)), o 62 (.pick (t 58) (c (.bool true)) (t 61)), o 7 (.mv (t 62))])
 (.ops [o 63 (.mv (t 6)), o 64 (.mv (t 14)), n (.mapSet (.cell .int) (t 63) (t 64) (c (.bool true)))])) .skip)))
 (s (.keep [1, 5, 6, 7, 8, 11, 28, 29, 30])
 (.ops [o 65 (.lref (t 5)), o 66 (.field none 2 (t 5)), o 67 (.field (some 7) 0 (t 11)), o 68 (.lit 7 1 [(u 0), (u 0), (i 0), (i 0), (i 0), (i 0), (i 0)] [(0, 7, (t 67))]), o 69 (.append 7 48 (t 66) (t 68)), o 70 (.lref (t 5)), o 5 (.upd 1 2 (t 5) (t 69))]))))))))
 (s (.keep [1, 5, 6, 7, 8, 28, 29, 30])
 (.ops [o 71 (.bin .add (t 30) (c (i 1))), o 30 (.mv (t 71))]))))))
 (.keep [1, 5, 6, 7, 8, 28, 29, 30]))))))
 (s (.keep [1, 5, 6, 7, 8])
 (s (.ops [o 72 (.mv (t 8)), o 73 (.mv (t 72)), g 74 false 73 (.mv (t 6)), g 75 false 73 (.mv (t 1)), g 76 false 73 (.bin .rem (t 75) (c (u 6))), g 77 false 73 (.conv (.int .i64) (t 76)), g 78 false 73 (.look (.cell .int) (.bool false) false (t 74) (t 77)), g 79 false 73 (.un .not (t 78)), o 80 (.pick (t 73) (c (.bool true)) (t 79)), o 8 (.mv (t 80))])
 (s (.ops [o 16 (.mv (c (i 0)))])
 (s (.block 4 (s (.ops [o 82 (.mv (t 7)), o 81 (.mv (t 82))])
 (.cond (t 81) (.ops [o 16 (.mv (c (i 8)))]) (s (.ops [o 84 (.mv (t 8)), o 83 (.mv (t 84))])
 (.cond (t 83) (.ops [o 16 (.mv (c (i 10)))]) .skip)))))
 (s (.keep [5, 16])
 (s (.ops [o 85 (.field (some 7) 0 (t 5)), o 86 (.lit 7 1 [(i 0), (.slice none 0 0), (.slice none 0 0), (u 0), (i 0), (i 0), (i 0)] [(0, 7, (t 85))]), o 87 (.build [(.slice none 0 0)] [(0, 1, (t 86))]), o 88 (.call (f 13) [(t 87)]), o 89 (.mv (t 16)), o 90 (.bin .eql (t 88) (t 89)), o 4 (.mv (t 90))])
 .ret)))))))))))))))⟩
theorem refinerylaw17_StrictLine_is : pgF n_refinerylaw17_StrictLine = some refinerylaw17_StrictLine_c := by kernel_rfl
noncomputable def refinerylaw17_StrictLine_j0 (J : JT (Value × St)) (v0 : Value) (v1 : Value) (st : St) : Res (Value × St) := goX J refinerylaw17_StrictLine_c.body [1, 1, 1] (envT [(0, v0), (1, v1)]) st
noncomputable def refinerylaw17_StrictLine_j1 (J : JT (Value × St)) (v0 : Value) (v1 : Value) (st : St) : Res (Value × St) := goX J refinerylaw17_StrictLine_c.body [1, 1, 1, 1, 1] (envT [(0, v0), (1, v1)]) st
noncomputable def refinerylaw17_StrictLine_l0 (J : JT (Value × St)) (v1 : Value) (v5 : Value) (v6 : Value) (v7 : Value) (v8 : Value) (v28 : Value) (v29 : Value) (v30 : Value) (st : St) : Res (Value × St) := lpX J refinerylaw17_StrictLine_c.body [1, 1, 1, 1, 1, 1, 1, 1, 0, 1, 0, 1] (envT [(1, v1), (5, v5), (6, v6), (7, v7), (8, v8), (28, v28), (29, v29), (30, v30)]) st
noncomputable def refinerylaw17_StrictLine_j2 (J : JT (Value × St)) (v1 : Value) (v5 : Value) (v6 : Value) (v7 : Value) (v8 : Value) (v28 : Value) (v29 : Value) (v30 : Value) (st : St) : Res (Value × St) := goX J refinerylaw17_StrictLine_c.body [1, 1, 1, 1, 1, 1, 1, 1, 0, 1, 0, 1, 0, 0, 1, 1, 1] (envT [(1, v1), (5, v5), (6, v6), (7, v7), (8, v8), (28, v28), (29, v29), (30, v30)]) st
noncomputable def refinerylaw17_StrictLine_j3 (J : JT (Value × St)) (v1 : Value) (v5 : Value) (v6 : Value) (v7 : Value) (v8 : Value) (st : St) : Res (Value × St) := goX J refinerylaw17_StrictLine_c.body [1, 1, 1, 1, 1, 1, 1, 1, 1, 1] (envT [(1, v1), (5, v5), (6, v6), (7, v7), (8, v8)]) st
noncomputable def refinerylaw17_StrictLine_l1 (J : JT (Value × St)) (v1 : Value) (v5 : Value) (v6 : Value) (v7 : Value) (v8 : Value) (v11 : Value) (v28 : Value) (v29 : Value) (v30 : Value) (v37 : Value) (v38 : Value) (v39 : Value) (st : St) : Res (Value × St) := lpX J refinerylaw17_StrictLine_c.body [1, 1, 1, 1, 1, 1, 1, 1, 0, 1, 0, 1, 0, 0, 1, 1, 1, 0, 0, 1, 1, 0, 1, 0, 1] (envT [(1, v1), (5, v5), (6, v6), (7, v7), (8, v8), (11, v11), (28, v28), (29, v29), (30, v30), (37, v37), (38, v38), (39, v39)]) st
noncomputable def refinerylaw17_StrictLine_j4 (J : JT (Value × St)) (v5 : Value) (v16 : Value) (st : St) : Res (Value × St) := goX J refinerylaw17_StrictLine_c.body [1, 1, 1, 1, 1, 1, 1, 1, 1, 1, 1, 1, 1, 1] (envT [(5, v5), (16, v16)]) st
noncomputable def refinerylaw17_StrictLine_j5 (J : JT (Value × St)) (v1 : Value) (v5 : Value) (v6 : Value) (v7 : Value) (v8 : Value) (v11 : Value) (v28 : Value) (v29 : Value) (v30 : Value) (v37 : Value) (v38 : Value) (v39 : Value) (st : St) : Res (Value × St) := goX J refinerylaw17_StrictLine_c.body [1, 1, 1, 1, 1, 1, 1, 1, 0, 1, 0, 1, 0, 0, 1, 1, 1, 0, 0, 1, 1, 0, 1, 0, 1, 0, 0, 1, 1, 1] (envT [(1, v1), (5, v5), (6, v6), (7, v7), (8, v8), (11, v11), (28, v28), (29, v29), (30, v30), (37, v37), (38, v38), (39, v39)]) st
noncomputable def refinerylaw17_StrictLine_j6 (J : JT (Value × St)) (v1 : Value) (v5 : Value) (v6 : Value) (v7 : Value) (v8 : Value) (v11 : Value) (v28 : Value) (v29 : Value) (v30 : Value) (st : St) : Res (Value × St) := goX J refinerylaw17_StrictLine_c.body [1, 1, 1, 1, 1, 1, 1, 1, 0, 1, 0, 1, 0, 0, 1, 1, 1, 0, 0, 1, 1, 1, 1] (envT [(1, v1), (5, v5), (6, v6), (7, v7), (8, v8), (11, v11), (28, v28), (29, v29), (30, v30)]) st
noncomputable def refinerylaw17_StrictLine_j7 (J : JT (Value × St)) (v1 : Value) (v5 : Value) (v6 : Value) (v7 : Value) (v8 : Value) (v11 : Value) (v28 : Value) (v29 : Value) (v30 : Value) (v37 : Value) (v38 : Value) (v39 : Value) (st : St) : Res (Value × St) := goX J refinerylaw17_StrictLine_c.body [1, 1, 1, 1, 1, 1, 1, 1, 0, 1, 0, 1, 0, 0, 1, 1, 1, 0, 0, 1, 1, 0, 1, 0, 1, 0, 0, 1, 1, 1, 1, 1] (envT [(1, v1), (5, v5), (6, v6), (7, v7), (8, v8), (11, v11), (28, v28), (29, v29), (30, v30), (37, v37), (38, v38), (39, v39)]) st
noncomputable def refinerylaw17_StrictLine_j8 (J : JT (Value × St)) (v1 : Value) (v5 : Value) (v6 : Value) (v7 : Value) (v8 : Value) (v11 : Value) (v28 : Value) (v29 : Value) (v30 : Value) (st : St) : Res (Value × St) := goX J refinerylaw17_StrictLine_c.body [1, 1, 1, 1, 1, 1, 1, 1, 0, 1, 0, 1, 0, 0, 1, 1, 1, 0, 0, 1, 1, 1, 1, 1, 1] (envT [(1, v1), (5, v5), (6, v6), (7, v7), (8, v8), (11, v11), (28, v28), (29, v29), (30, v30)]) st
noncomputable def refinerylaw17_StrictLine_j9 (J : JT (Value × St)) (v1 : Value) (v5 : Value) (v6 : Value) (v7 : Value) (v8 : Value) (v28 : Value) (v29 : Value) (v30 : Value) (st : St) : Res (Value × St) := goX J refinerylaw17_StrictLine_c.body [1, 1, 1, 1, 1, 1, 1, 1, 0, 1, 0, 1, 0, 0, 1, 1, 1, 1, 1] (envT [(1, v1), (5, v5), (6, v6), (7, v7), (8, v8), (28, v28), (29, v29), (30, v30)]) st
theorem refinerylaw17_StrictLine_eq (K : Ctx) (J : JT (Value × St)) (a0 a1 : Value) (st : St) : atX K J refinerylaw17_StrictLine_c (AM.start [a0, a1]) st =
  (.thn st (K.go (.call n_refinerylaw17_Awake []) st) fun p1 =>
  .thn p1.2 (sUn .not p1.1 p1.2) fun p2 =>
  condX p2.1
  (.ok ((.bool false), p2.2))
  (refinerylaw17_StrictLine_j0 J a0 a1 p2.2)) := by kernel_rfl
theorem refinerylaw17_StrictLine_of {K : Ctx} (hF : Fix pgF K) {a0 a1 : Value} {st : St} {Q : Value × St → Prop} (h : ∀ J, IsJ K (retK refinerylaw17_StrictLine_c.results) J → Ok (atX K J refinerylaw17_StrictLine_c (AM.start [a0, a1]) st) Q) : Ok (K.go (.call n_refinerylaw17_StrictLine [a0, a1]) st) Q := call_of hF refinerylaw17_StrictLine_is rfl h
theorem refinerylaw17_StrictLine_j0_eq {K : Ctx} {J : JT (Value × St)} (hJ : IsJ K (retK refinerylaw17_StrictLine_c.results) J) (v0 : Value) (v1 : Value) (st : St) : refinerylaw17_StrictLine_j0 J v0 v1 st =
  (.thn st (sLen .slice v0 st) fun p1 =>
  .thn p1.2 (sBin .gtr p1.1 (.int .i64 20) p1.2) fun p2 =>
  condX p2.1
  (.ok ((.bool true), p2.2))
  (refinerylaw17_StrictLine_j1 J v0 v1 p2.2)) := (go_eq hJ _ _ _ _).trans (by kernel_rfl)
theorem refinerylaw17_StrictLine_j1_eq {K : Ctx} {J : JT (Value × St)} (hJ : IsJ K (retK refinerylaw17_StrictLine_c.results) J) (v0 : Value) (v1 : Value) (st : St) : refinerylaw17_StrictLine_j1 J v0 v1 st =
  (.thn st (sBin .rem v1 (.int .u8 6) st) fun p1 =>
  .thn p1.2 (sConv (.int .i64) p1.1 p1.2) fun p2 =>
  .thn p2.2 (sBuild [(.int .u8 0), (.int .i64 0), (.int .i64 0), (.int .i64 0)] [(0, 1, (.int .u8 2)), (1, 1, p2.1)] p2.2) fun p3 =>
  .thn p3.2 (sBuild [(.int .i64 0), (.slice none 0 0), (.slice none 0 0), (.int .u8 0), (.int .i64 0), (.int .i64 0), (.int .i64 0)] [(3, 4, p3.1)] p3.2) fun p4 =>
  .thn p4.2 (sLnew [(.int .i64 0), (.slice none 0 0), (.slice none 0 0), (.int .u8 0), (.int .i64 0), (.int .i64 0), (.int .i64 0)] p4.2) fun p5 =>
  .thn p5.2 (sUpd 7 0 p5.1 p4.1 p5.2) fun p6 =>
  .thn p6.2 (sNewMap p6.2) fun p7 =>
  .thn p7.2 (sLen .slice v0 p7.2) fun p8 =>
  refinerylaw17_StrictLine_l0 J v1 p6.1 p7.1 (.bool false) (.bool false) v0 p8.1 (.int .i64 0) p8.2) := (go_eq hJ _ _ _ _).trans (by kernel_rfl)
theorem refinerylaw17_StrictLine_l0_eq (K : Ctx) (J : JT (Value × St)) (v1 : Value) (v5 : Value) (v6 : Value) (v7 : Value) (v8 : Value) (v28 : Value) (v29 : Value) (v30 : Value) (st : St) : inX K J (retK refinerylaw17_StrictLine_c.results) refinerylaw17_StrictLine_c.body [1, 1, 1, 1, 1, 1, 1, 1, 0, 1, 0, 1] (envT [(1, v1), (5, v5), (6, v6), (7, v7), (8, v8), (28, v28), (29, v29), (30, v30)]) st =
  (.thn st (sBin .lss v30 v29 st) fun p1 =>
  condX p1.1
  (refinerylaw17_StrictLine_j2 J v1 v5 v6 v7 v8 v28 v29 v30 p1.2)
  (refinerylaw17_StrictLine_j3 J v1 v5 v6 v7 v8 p1.2)) := by kernel_rfl
theorem refinerylaw17_StrictLine_l0_of {K : Ctx} (hF : Fix pgF K) {J : JT (Value × St)} (hJ : IsJ K (retK refinerylaw17_StrictLine_c.results) J) {v1 : Value} {v5 : Value} {v6 : Value} {v7 : Value} {v8 : Value} {v28 : Value} {v29 : Value} {v30 : Value} {st : St} {Q : Value × St → Prop} (h : Ok (inX K J (retK refinerylaw17_StrictLine_c.results) refinerylaw17_StrictLine_c.body [1, 1, 1, 1, 1, 1, 1, 1, 0, 1, 0, 1] (envT [(1, v1), (5, v5), (6, v6), (7, v7), (8, v8), (28, v28), (29, v29), (30, v30)]) st) Q) : Ok (refinerylaw17_StrictLine_l0 J v1 v5 v6 v7 v8 v28 v29 v30 st) Q := loop_of hF hJ h
theorem refinerylaw17_StrictLine_j2_eq {K : Ctx} {J : JT (Value × St)} (hJ : IsJ K (retK refinerylaw17_StrictLine_c.results) J) (v1 : Value) (v5 : Value) (v6 : Value) (v7 : Value) (v8 : Value) (v28 : Value) (v29 : Value) (v30 : Value) (st : St) : refinerylaw17_StrictLine_j2 J v1 v5 v6 v7 v8 v28 v29 v30 st =
  (.thn st (sIxA 7 none v28 v30 st) fun p1 =>
  .thn p1.2 (sLoad (some 7) p1.1 p1.2) fun p2 =>
  .thn p2.2 (sLnew [(.int .u8 0), (.int .u8 0), (.int .u8 0), (.int .u8 0), (.int .u8 0), (.int .u8 0), (.int .i16 0)] p2.2) fun p3 =>
  .thn p3.2 (sUpd 7 0 p3.1 p2.1 p3.2) fun p4 =>
  .thn p4.2 (sField (some 7) 0 p4.1 p4.2) fun p5 =>
  .thn p5.2 (K.go (.call n_refinerylaw03_Line_Instr [p5.1, (.int .i64 6)]) p5.2) fun p6 =>
  .thn p6.2 (sLnew [(.int .u8 0), (.int .u8 0), (.int .i64 0), (.int .i64 0), (.int .i64 0), (.int .i64 0), (.int .i64 0)] p6.2) fun p7 =>
  .thn p7.2 (sUpd 7 0 p7.1 p6.1 p7.2) fun p8 =>
  .thn p8.2 (sField (some 7) 0 p8.1 p8.2) fun p9 =>
  .thn p9.2 (K.go (.call n_ir_Instr_Reads [p9.1]) p9.2) fun p10 =>
  .thn p10.2 (sLen .slice p10.1 p10.2) fun p11 =>
  refinerylaw17_StrictLine_l1 J v1 v5 v6 v7 v8 p8.1 v28 v29 v30 p10.1 p11.1 (.int .i64 0) p11.2) := (go_eq hJ _ _ _ _).trans (by kernel_rfl)
theorem refinerylaw17_StrictLine_j3_eq {K : Ctx} {J : JT (Value × St)} (hJ : IsJ K (retK refinerylaw17_StrictLine_c.results) J) (v1 : Value) (v5 : Value) (v6 : Value) (v7 : Value) (v8 : Value) (st : St) : refinerylaw17_StrictLine_j3 J v1 v5 v6 v7 v8 st =
  (.thn st (sG v8 false (.ok (v6, st)) st) fun p1 =>
  .thn p1.2 (sG v8 false (.ok (v1, p1.2)) p1.2) fun p2 =>
  .thn p2.2 (sG v8 false (sBin .rem p2.1 (.int .u8 6) p2.2) p2.2) fun p3 =>
  .thn p3.2 (sG v8 false (sConv (.int .i64) p3.1 p3.2) p3.2) fun p4 =>
  .thn p4.2 (sG v8 false (sLook (.cell .int) (.bool false) false p1.1 p4.1 p4.2) p4.2) fun p5 =>
  .thn p5.2 (sG v8 false (sUn .not p5.1 p5.2) p5.2) fun p6 =>
  .thn p6.2 (sPick v8 (.bool true) p6.1 p6.2) fun p7 =>
  condX v7
  (refinerylaw17_StrictLine_j4 J v5 (.int .i64 8) p7.2)
  (condX p7.1
  (refinerylaw17_StrictLine_j4 J v5 (.int .i64 10) p7.2)
  (refinerylaw17_StrictLine_j4 J v5 (.int .i64 0) p7.2))) := (go_eq hJ _ _ _ _).trans (by kernel_rfl)
theorem refinerylaw17_StrictLine_l1_eq (K : Ctx) (J : JT (Value × St)) (v1 : Value) (v5 : Value) (v6 : Value) (v7 : Value) (v8 : Value) (v11 : Value) (v28 : Value) (v29 : Value) (v30 : Value) (v37 : Value) (v38 : Value) (v39 : Value) (st : St) : inX K J (retK refinerylaw17_StrictLine_c.results) refinerylaw17_StrictLine_c.body [1, 1, 1, 1, 1, 1, 1, 1, 0, 1, 0, 1, 0, 0, 1, 1, 1, 0, 0, 1, 1, 0, 1, 0, 1] (envT [(1, v1), (5, v5), (6, v6), (7, v7), (8, v8), (11, v11), (28, v28), (29, v29), (30, v30), (37, v37), (38, v38), (39, v39)]) st =
  (.thn st (sBin .lss v39 v38 st) fun p1 =>
  condX p1.1
  (refinerylaw17_StrictLine_j5 J v1 v5 v6 v7 v8 v11 v28 v29 v30 v37 v38 v39 p1.2)
  (refinerylaw17_StrictLine_j6 J v1 v5 v6 v7 v8 v11 v28 v29 v30 p1.2)) := by kernel_rfl
theorem refinerylaw17_StrictLine_l1_of {K : Ctx} (hF : Fix pgF K) {J : JT (Value × St)} (hJ : IsJ K (retK refinerylaw17_StrictLine_c.results) J) {v1 : Value} {v5 : Value} {v6 : Value} {v7 : Value} {v8 : Value} {v11 : Value} {v28 : Value} {v29 : Value} {v30 : Value} {v37 : Value} {v38 : Value} {v39 : Value} {st : St} {Q : Value × St → Prop} (h : Ok (inX K J (retK refinerylaw17_StrictLine_c.results) refinerylaw17_StrictLine_c.body [1, 1, 1, 1, 1, 1, 1, 1, 0, 1, 0, 1, 0, 0, 1, 1, 1, 0, 0, 1, 1, 0, 1, 0, 1] (envT [(1, v1), (5, v5), (6, v6), (7, v7), (8, v8), (11, v11), (28, v28), (29, v29), (30, v30), (37, v37), (38, v38), (39, v39)]) st) Q) : Ok (refinerylaw17_StrictLine_l1 J v1 v5 v6 v7 v8 v11 v28 v29 v30 v37 v38 v39 st) Q := loop_of hF hJ h
theorem refinerylaw17_StrictLine_j4_eq {K : Ctx} {J : JT (Value × St)} (hJ : IsJ K (retK refinerylaw17_StrictLine_c.results) J) (v5 : Value) (v16 : Value) (st : St) : refinerylaw17_StrictLine_j4 J v5 v16 st =
  (.thn st (sField (some 7) 0 v5 st) fun p1 =>
  .thn p1.2 (sLit 7 1 [(.int .i64 0), (.slice none 0 0), (.slice none 0 0), (.int .u8 0), (.int .i64 0), (.int .i64 0), (.int .i64 0)] [(0, 7, p1.1)] p1.2) fun p2 =>
  .thn p2.2 (sBuild [(.slice none 0 0)] [(0, 1, p2.1)] p2.2) fun p3 =>
  .thn p3.2 (K.go (.call n_strict_Check [p3.1]) p3.2) fun p4 =>
  .thn p4.2 (sBin .eql p4.1 v16 p4.2) fun p5 =>
  .ok (p5.1, p5.2)) := (go_eq hJ _ _ _ _).trans (by kernel_rfl)
theorem refinerylaw17_StrictLine_j5_eq {K : Ctx} {J : JT (Value × St)} (hJ : IsJ K (retK refinerylaw17_StrictLine_c.results) J) (v1 : Value) (v5 : Value) (v6 : Value) (v7 : Value) (v8 : Value) (v11 : Value) (v28 : Value) (v29 : Value) (v30 : Value) (v37 : Value) (v38 : Value) (v39 : Value) (st : St) : refinerylaw17_StrictLine_j5 J v1 v5 v6 v7 v8 v11 v28 v29 v30 v37 v38 v39 st =
  (.thn st (sIxA 1 none v37 v39 st) fun p1 =>
  .thn p1.2 (sLoad none p1.1 p1.2) fun p2 =>
  .thn p2.2 (sG v8 false (.ok (v6, p2.2)) p2.2) fun p3 =>
  .thn p3.2 (sG v8 false (.ok (p2.1, p3.2)) p3.2) fun p4 =>
  .thn p4.2 (sG v8 false (sLook (.cell .int) (.bool false) false p3.1 p4.1 p4.2) p4.2) fun p5 =>
  .thn p5.2 (sG v8 false (sUn .not p5.1 p5.2) p5.2) fun p6 =>
  .thn p6.2 (sPick v8 (.bool true) p6.1 p6.2) fun p7 =>
  refinerylaw17_StrictLine_j7 J v1 v5 v6 v7 p7.1 v11 v28 v29 v30 v37 v38 v39 p7.2) := (go_eq hJ _ _ _ _).trans (by kernel_rfl)
theorem refinerylaw17_StrictLine_j6_eq {K : Ctx} {J : JT (Value × St)} (hJ : IsJ K (retK refinerylaw17_StrictLine_c.results) J) (v1 : Value) (v5 : Value) (v6 : Value) (v7 : Value) (v8 : Value) (v11 : Value) (v28 : Value) (v29 : Value) (v30 : Value) (st : St) : refinerylaw17_StrictLine_j6 J v1 v5 v6 v7 v8 v11 v28 v29 v30 st =
  (.thn st (sField (some 7) 0 v11 st) fun p1 =>
  .thn p1.2 (K.go (.call n_ir_Instr_Sets [p1.1]) p1.2) fun p2 =>
  .thn p2.2 (sExtract p2.1 0 p2.2) fun p3 =>
  .thn p3.2 (sExtract p2.1 1 p3.2) fun p4 =>
  condX p4.1
  (.thn p4.2 (sG v7 false (.ok (v6, p4.2)) p4.2) fun p5 =>
  .thn p5.2 (sG v7 false (.ok (p3.1, p5.2)) p5.2) fun p6 =>
  .thn p6.2 (sG v7 false (sLook (.cell .int) (.bool false) false p5.1 p6.1 p6.2) p6.2) fun p7 =>
  .thn p7.2 (sPick v7 (.bool true) p7.1 p7.2) fun p8 =>
  .thn p8.2 (sMapSet (.cell .int) v6 p3.1 (.bool true) p8.2) fun p9 =>
  refinerylaw17_StrictLine_j8 J v1 v5 v6 p8.1 v8 v11 v28 v29 v30 p9.2)
  (refinerylaw17_StrictLine_j8 J v1 v5 v6 v7 v8 v11 v28 v29 v30 p4.2)) := (go_eq hJ _ _ _ _).trans (by kernel_rfl)
theorem refinerylaw17_StrictLine_j7_eq {K : Ctx} {J : JT (Value × St)} (hJ : IsJ K (retK refinerylaw17_StrictLine_c.results) J) (v1 : Value) (v5 : Value) (v6 : Value) (v7 : Value) (v8 : Value) (v11 : Value) (v28 : Value) (v29 : Value) (v30 : Value) (v37 : Value) (v38 : Value) (v39 : Value) (st : St) : refinerylaw17_StrictLine_j7 J v1 v5 v6 v7 v8 v11 v28 v29 v30 v37 v38 v39 st =
  (.thn st (sBin .add v39 (.int .i64 1) st) fun p1 =>
  refinerylaw17_StrictLine_l1 J v1 v5 v6 v7 v8 v11 v28 v29 v30 v37 v38 p1.1 p1.2) := (go_eq hJ _ _ _ _).trans (by kernel_rfl)
theorem refinerylaw17_StrictLine_j8_eq {K : Ctx} {J : JT (Value × St)} (hJ : IsJ K (retK refinerylaw17_StrictLine_c.results) J) (v1 : Value) (v5 : Value) (v6 : Value) (v7 : Value) (v8 : Value) (v11 : Value) (v28 : Value) (v29 : Value) (v30 : Value) (st : St) : refinerylaw17_StrictLine_j8 J v1 v5 v6 v7 v8 v11 v28 v29 v30 st =
  (.thn st (sLref v5 st) fun p1 =>
  .thn p1.2 (sField none 2 v5 p1.2) fun p2 =>
  .thn p2.2 (sField (some 7) 0 v11 p2.2) fun p3 =>
  .thn p3.2 (sLit 7 1 [(.int .u8 0), (.int .u8 0), (.int .i64 0), (.int .i64 0), (.int .i64 0), (.int .i64 0), (.int .i64 0)] [(0, 7, p3.1)] p3.2) fun p4 =>
  .thn p4.2 (sAppend 7 48 p2.1 p4.1 p4.2) fun p5 =>
  .thn p5.2 (sLref v5 p5.2) fun p6 =>
  .thn p6.2 (sUpd 1 2 v5 p5.1 p6.2) fun p7 =>
  refinerylaw17_StrictLine_j9 J v1 p7.1 v6 v7 v8 v28 v29 v30 p7.2) := (go_eq hJ _ _ _ _).trans (by kernel_rfl)
theorem refinerylaw17_StrictLine_j9_eq {K : Ctx} {J : JT (Value × St)} (hJ : IsJ K (retK refinerylaw17_StrictLine_c.results) J) (v1 : Value) (v5 : Value) (v6 : Value) (v7 : Value) (v8 : Value) (v28 : Value) (v29 : Value) (v30 : Value) (st : St) : refinerylaw17_StrictLine_j9 J v1 v5 v6 v7 v8 v28 v29 v30 st =
  (.thn st (sBin .add v30 (.int .i64 1) st) fun p1 =>
  refinerylaw17_StrictLine_l0 J v1 v5 v6 v7 v8 v28 v29 p1.1 p1.2) := (go_eq hJ _ _ _ _).trans (by kernel_rfl)

/-! ### refinery/refinerylaw17.Awake -/
open C in
noncomputable def refinerylaw17_Awake_c : AFun := ⟨0, [.tmp 0],
 (s (.ops [o 0 (.mv (c (.bool false)))])
 (s (.ops [o 2 (.build [(u 0), (u 0), (i 0), (i 0), (i 0), (i 0), (i 0)] [(2, 1, (c (i 1)))]), o 3 (.build [(u 0), (u 0), (i 0), (i 0), (i 0), (i 0), (i 0)] [(2, 1, (c (i 1)))]), o 4 (.lit 7 2 [(u 0), (u 0), (i 0), (i 0), (i 0), (i 0), (i 0), (u 0), (u 0), (i 0), (i 0), (i 0), (i 0), (i 0)] [(0, 7, (t 2)), (7, 7, (t 3))]), o 5 (.build [(u 0), (i 0), (i 0), (i 0)] [(0, 1, (c (u 2))), (1, 1, (c (i 1)))]), o 6 (.build [(i 0), (.slice none 0 0), (.slice none 0 0), (u 0), (i 0), (i 0), (i 0)] [(2, 1, (t 4)), (3, 4, (t 5))]), o 7 (.lit 7 1 [(i 0), (.slice none 0 0), (.slice none 0 0), (u 0), (i 0), (i 0), (i 0)] [(0, 7, (t 6))]), o 8 (.build [(.slice none 0 0)] [(0, 1, (t 7))]), o 1 (.lnew [(.slice none 0 0)]), o 1 (.upd 1 0 (t 1) (t 8))])
 (s (.ops [o 9 (.field (some 1) 0 (t 1)), o 10 (.call (f 13) [(t 9)]), o 11 (.bin .eql (t 10) (c (i 8))), o 12 (.mv (t 11)), g 13 true 12 (.build [(.slice none 0 0)] []), g 14 true 12 (.call (f 13) [(t 13)]), g 15 true 12 (.bin .eql (t 14) (c (i 7))), o 16 (.pick (t 12) (t 15) (c (.bool false))), o 0 (.mv (t 16))])
 .ret)))⟩
theorem refinerylaw17_Awake_is : pgF n_refinerylaw17_Awake = some refinerylaw17_Awake_c := by kernel_rfl
theorem refinerylaw17_Awake_eq (K : Ctx) (J : JT (Value × St)) (st : St) : atX K J refinerylaw17_Awake_c (AM.start []) st =
  (.thn st (sBuild [(.int .u8 0), (.int .u8 0), (.int .i64 0), (.int .i64 0), (.int .i64 0), (.int .i64 0), (.int .i64 0)] [(2, 1, (.int .i64 1))] st) fun p1 =>
  .thn p1.2 (sBuild [(.int .u8 0), (.int .u8 0), (.int .i64 0), (.int .i64 0), (.int .i64 0), (.int .i64 0), (.int .i64 0)] [(2, 1, (.int .i64 1))] p1.2) fun p2 =>
  .thn p2.2 (sLit 7 2 [(.int .u8 0), (.int .u8 0), (.int .i64 0), (.int .i64 0), (.int .i64 0), (.int .i64 0), (.int .i64 0), (.int .u8 0), (.int .u8 0), (.int .i64 0), (.int .i64 0), (.int .i64 0), (.int .i64 0), (.int .i64 0)] [(0, 7, p1.1), (7, 7, p2.1)] p2.2) fun p3 =>
  .thn p3.2 (sBuild [(.int .u8 0), (.int .i64 0), (.int .i64 0), (.int .i64 0)] [(0, 1, (.int .u8 2)), (1, 1, (.int .i64 1))] p3.2) fun p4 =>
  .thn p4.2 (sBuild [(.int .i64 0), (.slice none 0 0), (.slice none 0 0), (.int .u8 0), (.int .i64 0), (.int .i64 0), (.int .i64 0)] [(2, 1, p3.1), (3, 4, p4.1)] p4.2) fun p5 =>
  .thn p5.2 (sLit 7 1 [(.int .i64 0), (.slice none 0 0), (.slice none 0 0), (.int .u8 0), (.int .i64 0), (.int .i64 0), (.int .i64 0)] [(0, 7, p5.1)] p5.2) fun p6 =>
  .thn p6.2 (sBuild [(.slice none 0 0)] [(0, 1, p6.1)] p6.2) fun p7 =>
  .thn p7.2 (sLnew [(.slice none 0 0)] p7.2) fun p8 =>
  .thn p8.2 (sUpd 1 0 p8.1 p7.1 p8.2) fun p9 =>
  .thn p9.2 (sField (some 1) 0 p9.1 p9.2) fun p10 =>
  .thn p10.2 (K.go (.call n_strict_Check [p10.1]) p10.2) fun p11 =>
  .thn p11.2 (sBin .eql p11.1 (.int .i64 8) p11.2) fun p12 =>
  .thn p12.2 (sG p12.1 true (sBuild [(.slice none 0 0)] [] p12.2) p12.2) fun p13 =>
  .thn p13.2 (sG p12.1 true (K.go (.call n_strict_Check [p13.1]) p13.2) p13.2) fun p14 =>
  .thn p14.2 (sG p12.1 true (sBin .eql p14.1 (.int .i64 7) p14.2) p14.2) fun p15 =>
  .thn p15.2 (sPick p12.1 p15.1 (.bool false) p15.2) fun p16 =>
  .ok (p16.1, p16.2)) := by kernel_rfl
theorem refinerylaw17_Awake_of {K : Ctx} (hF : Fix pgF K) {st : St} {Q : Value × St → Prop} (h : ∀ J, IsJ K (retK refinerylaw17_Awake_c.results) J → Ok (atX K J refinerylaw17_Awake_c (AM.start []) st) Q) : Ok (K.go (.call n_refinerylaw17_Awake []) st) Q := call_of hF refinerylaw17_Awake_is rfl h

/-! ### refinery/strict.Check -/
open C in
noncomputable def strict_Check_c : AFun := ⟨1, [.tmp 2],
 (s (.ops [o 1 (.lbox (t 0)), o 2 (.mv (c (i 0)))])
 (s (s (.ops [o 14 (.field (some 1) 0 (t 1)), o 15 (.call (f 23) [(t 14)]), o 3 (.mv (t 15))])
 (s (.ops [o 16 (.mv (t 3)), o 17 (.bin .neq (t 16) (c (i 0)))])
 (.cond (t 17) (s (.ops [o 18 (.mv (t 3)), o 2 (.mv (t 18))])
 .ret) .skip)))
 (s (.keep [1])
 (s (.ops [o 19 (.field (some 1) 0 (t 1)), o 20 (.call (f 24) [(t 19)]), o 4 (.lnew [(.slice none 0 0), (.slice none 0 0)]), o 4 (.upd 2 0 (t 4) (t 20))])
 (s (s (.ops [o 21 (.field (some 2) 0 (t 4)), o 22 (.call (f 26) [(t 21)]), o 23 (.call (f 25) [(t 22), (c (.bool false))]), o 24 (.mv (t 23)), g 25 false 24 (.field (some 2) 0 (t 4)), g 26 false 24 (.call (f 27) [(t 25), (c (i 0))]), g 27 false 24 (.len .slice (t 26)), g 28 false 24 (.bin .gtr (t 27) (c (i 0))), o 29 (.pick (t 24) (c (.bool true)) (t 28))])
 (.cond (t 29) (s (.ops [o 2 (.mv (c (i 5)))])
 .ret) .skip))
 (s (.keep [1, 4])
 (s (.ops [o 31 (.field (some 1) 0 (t 1)), o 32 (.call (f 28) [(t 31)]), o 30 (.mv (t 32)), o 33 (.extract (t 30) 0), o 34 (.extract (t 30) 1), o 5 (.mv (t 33)), o 6 (.mv (t 34))])
 (s (s (.ops [o 35 (.mv (t 6)), o 36 (.un .not (t 35))])
 (.cond (t 36) (s (.ops [o 2 (.mv (c (i 8)))])
 .ret) .skip))
 (s (.keep [1, 4, 5])
 (s (s (.ops [o 37 (.lref (t 1)), o 38 (.field none 0 (t 1)), o 39 (.len .slice (t 38)), o 40 (.mv (c (i 0)))])
 (.block 0 (s (.keep [1, 4, 5, 38, 39, 40])
 (.loop (s (s (.ops [o 41 (.bin .lss (t 40) (t 39))])
 (s (.cond (t 41) .skip (.exit 0))
 (s (.keep [1, 4, 5, 38, 39, 40])
 (s (.block 1 (s (.ops [o 42 (.mv (t 40)), o 43 (.ixA 7 none (t 38) (t 40)), o 44 (.load (some 7) (t 43)), o 8 (.lnew [(i 0), (.slice none 0 0), (.slice none 0 0), (u 0), (i 0), (i 0), (i 0)]), o 7 (.mv (t 42)), o 8 (.upd 7 0 (t 8) (t 44))])
 (s (.ops [o 9 (.mv (c (.slice none 0 0)))])
 (s (s (.ops [o 45 (.field (some 2) 0 (t 4)), o 46 (.mv (t 7)), o 47 (.call (f 27) [(t 45), (t 46)]), o 48 (.len .slice (t 47)), o 49 (.mv (c (i 0)))])
 (.block 2 (s (.keep [1, 4, 5, 8, 9, 38, 39, 40, 47, 48, 49])
 (.loop (s (s (.ops [o 50 (.bin .lss (t 49) (t 48))])
 (s (.cond (t 50) .skip (.exit 2))
 (s (.keep [1, 4, 5, 8, 9, 38, 39, 40, 47, 48, 49])
 (s (.block 3 (s (.ops [o 51 (.ixA 1 none (t 47) (t 49)), o 52 (.load none (t 51)), o 11 (.mv (t 52))])
 (.ops [o 53 (.mv (t 9)), o 54 (.lref (t 1)), o 55 (.field none 0 (t 1)), o 56 (.mv (t 11)), o 57 (.ixA 7 none (t 55) (t 56)), o 58 (.off 0 (t 57)), o 59 (.load none (t 58)), o 60 (.lit 1 1 [(i 0)] [(0, 1, (t 59))]), o 61 (.append 1 8 (t 53) (t 60)), o 9 (.mv (t 61))])))
 (s (.keep [1, 4, 5, 8, 9, 38, 39, 40, 47, 48, 49])
 (.ops [o 62 (.bin .add (t 49) (c (i 1))), o 49 (.mv (t 62))]))))))
 (.keep [1, 4, 5, 8, 9, 38, 39, 40, 47, 48, 49]))))))
 (s (.keep [1, 4, 5, 8, 9, 38, 39, 40])
 (s (.ops [o 63 (.mv (t 9)), o 64 (.call (f 29) [(t 63)])])
 (s (.ops [o 65 (.lref (t 8)), o 66 (.field none 1 (t 8)), o 67 (.len .slice (t 66)), o 68 (.mv (c (i 0)))])
 (.block 4 (s (.keep [1, 4, 5, 9, 38, 39, 40, 66, 67, 68])
 (.loop (s (s (.ops [o 69 (.bin .lss (t 68) (t 67))])
 (s (.cond (t 69) .skip (.exit 4))
 (s (.keep [1, 4, 5, 9, 38, 39, 40, 66, 67, 68])
 (s (.block 5 (s (.ops [o 70 (.ixA 3 none (t 66) (t 68)), o 71 (.load (some 3) (t 70)), o 13 (.lnew [(i 0), (.slice none 0 0), (.slice none 0 0)]), o 13 (.upd 3 0 (t 13) (t 71))])
 (s (.ops [o 72 (.lref (t 13)), o 73 (.field none 1 (t 13)), o 74 (.mv (t 9)), o 75 (.call (f 30) [(t 73), (t 74)]), o 76 (.un .not (t 75))])
 (.cond (t 76) (s (.ops [o 2 (.mv (c (i 5)))])
 .ret) .skip))))
 (s (.keep [1, 4, 5, 9, 38, 39, 40, 66, 67, 68])
 (.ops [o 77 (.bin .add (t 68) (c (i 1))), o 68 (.mv (t 77))]))))))
 (.keep [1, 4, 5, 9, 38, 39, 40, 66, 67, 68]))))))))))))
 (s (.keep [1, 4, 5, 38, 39, 40])
 (.ops [o 78 (.bin .add (t 40) (c (i 1))), o 40 (.mv (t 78))]))))))
 (.keep [1, 4, 5, 38, 39, 40]))))))
 (s (.keep [1, 4, 5])
 (s (s (.draw [d 2 0 false (o 81 (.field (some 2) 0 (t 4))), d 3 0 true (o 82 (.call (f 32) [(t 81)])), d 0 1 false (o 79 (.field (some 1) 0 (t 1))), d 1 0 false (o 80 (.mv (t 5))), d 4 0 true (o 83 (.call (f 31) [(t 79), (t 80), (t 82)])), d 5 0 false (o 84 (.un .not (t 83)))])
 (.cond (t 84) (s (.ops [o 2 (.mv (c (i 10)))])
 .ret) .skip))
 (s (.keep [])
 (s (.ops [o 2 (.mv (c (i 0)))])
 .ret))))))))))))))⟩
theorem strict_Check_is : pgF n_strict_Check = some strict_Check_c := by kernel_rfl
noncomputable def strict_Check_j0 (J : JT (Value × St)) (v1 : Value) (st : St) : Res (Value × St) := goX J strict_Check_c.body [1, 1, 1] (envT [(1, v1)]) st
noncomputable def strict_Check_j1 (J : JT (Value × St)) (v1 : Value) (v4 : Value) (st : St) : Res (Value × St) := goX J strict_Check_c.body [1, 1, 1, 1, 1, 1] (envT [(1, v1), (4, v4)]) st
noncomputable def strict_Check_j2 (J : JT (Value × St)) (v1 : Value) (v4 : Value) (v5 : Value) (st : St) : Res (Value × St) := goX J strict_Check_c.body [1, 1, 1, 1, 1, 1, 1, 1, 1] (envT [(1, v1), (4, v4), (5, v5)]) st
noncomputable def strict_Check_l0 (J : JT (Value × St)) (v1 : Value) (v4 : Value) (v5 : Value) (v38 : Value) (v39 : Value) (v40 : Value) (st : St) : Res (Value × St) := lpX J strict_Check_c.body [1, 1, 1, 1, 1, 1, 1, 1, 1, 0, 1, 0, 1] (envT [(1, v1), (4, v4), (5, v5), (38, v38), (39, v39), (40, v40)]) st
noncomputable def strict_Check_j3 (J : JT (Value × St)) (v1 : Value) (v4 : Value) (v5 : Value) (v38 : Value) (v39 : Value) (v40 : Value) (st : St) : Res (Value × St) := goX J strict_Check_c.body [1, 1, 1, 1, 1, 1, 1, 1, 1, 0, 1, 0, 1, 0, 0, 1, 1, 1] (envT [(1, v1), (4, v4), (5, v5), (38, v38), (39, v39), (40, v40)]) st
noncomputable def strict_Check_j4 (J : JT (Value × St)) (v1 : Value) (v4 : Value) (v5 : Value) (st : St) : Res (Value × St) := goX J strict_Check_c.body [1, 1, 1, 1, 1, 1, 1, 1, 1, 1, 1] (envT [(1, v1), (4, v4), (5, v5)]) st
noncomputable def strict_Check_l1 (J : JT (Value × St)) (v1 : Value) (v4 : Value) (v5 : Value) (v8 : Value) (v9 : Value) (v38 : Value) (v39 : Value) (v40 : Value) (v47 : Value) (v48 : Value) (v49 : Value) (st : St) : Res (Value × St) := lpX J strict_Check_c.body [1, 1, 1, 1, 1, 1, 1, 1, 1, 0, 1, 0, 1, 0, 0, 1, 1, 1, 0, 0, 1, 1, 0, 1, 0, 1] (envT [(1, v1), (4, v4), (5, v5), (8, v8), (9, v9), (38, v38), (39, v39), (40, v40), (47, v47), (48, v48), (49, v49)]) st
noncomputable def strict_Check_j5 (J : JT (Value × St)) (st : St) : Res (Value × St) := goX J strict_Check_c.body [1, 1, 1, 1, 1, 1, 1, 1, 1, 1, 1, 1, 1] (envT []) st
noncomputable def strict_Check_j6 (J : JT (Value × St)) (v1 : Value) (v4 : Value) (v5 : Value) (v8 : Value) (v9 : Value) (v38 : Value) (v39 : Value) (v40 : Value) (v47 : Value) (v48 : Value) (v49 : Value) (st : St) : Res (Value × St) := goX J strict_Check_c.body [1, 1, 1, 1, 1, 1, 1, 1, 1, 0, 1, 0, 1, 0, 0, 1, 1, 1, 0, 0, 1, 1, 0, 1, 0, 1, 0, 0, 1, 1, 1] (envT [(1, v1), (4, v4), (5, v5), (8, v8), (9, v9), (38, v38), (39, v39), (40, v40), (47, v47), (48, v48), (49, v49)]) st
noncomputable def strict_Check_j7 (J : JT (Value × St)) (v1 : Value) (v4 : Value) (v5 : Value) (v8 : Value) (v9 : Value) (v38 : Value) (v39 : Value) (v40 : Value) (st : St) : Res (Value × St) := goX J strict_Check_c.body [1, 1, 1, 1, 1, 1, 1, 1, 1, 0, 1, 0, 1, 0, 0, 1, 1, 1, 0, 0, 1, 1, 1, 1] (envT [(1, v1), (4, v4), (5, v5), (8, v8), (9, v9), (38, v38), (39, v39), (40, v40)]) st
noncomputable def strict_Check_j8 (J : JT (Value × St)) (v1 : Value) (v4 : Value) (v5 : Value) (v8 : Value) (v9 : Value) (v38 : Value) (v39 : Value) (v40 : Value) (v47 : Value) (v48 : Value) (v49 : Value) (st : St) : Res (Value × St) := goX J strict_Check_c.body [1, 1, 1, 1, 1, 1, 1, 1, 1, 0, 1, 0, 1, 0, 0, 1, 1, 1, 0, 0, 1, 1, 0, 1, 0, 1, 0, 0, 1, 1, 1, 1, 1] (envT [(1, v1), (4, v4), (5, v5), (8, v8), (9, v9), (38, v38), (39, v39), (40, v40), (47, v47), (48, v48), (49, v49)]) st
noncomputable def strict_Check_l2 (J : JT (Value × St)) (v1 : Value) (v4 : Value) (v5 : Value) (v9 : Value) (v38 : Value) (v39 : Value) (v40 : Value) (v66 : Value) (v67 : Value) (v68 : Value) (st : St) : Res (Value × St) := lpX J strict_Check_c.body [1, 1, 1, 1, 1, 1, 1, 1, 1, 0, 1, 0, 1, 0, 0, 1, 1, 1, 0, 0, 1, 1, 1, 1, 1, 1, 0, 1] (envT [(1, v1), (4, v4), (5, v5), (9, v9), (38, v38), (39, v39), (40, v40), (66, v66), (67, v67), (68, v68)]) st
noncomputable def strict_Check_j9 (J : JT (Value × St)) (v1 : Value) (v4 : Value) (v5 : Value) (v9 : Value) (v38 : Value) (v39 : Value) (v40 : Value) (v66 : Value) (v67 : Value) (v68 : Value) (st : St) : Res (Value × St) := goX J strict_Check_c.body [1, 1, 1, 1, 1, 1, 1, 1, 1, 0, 1, 0, 1, 0, 0, 1, 1, 1, 0, 0, 1, 1, 1, 1, 1, 1, 0, 1, 0, 0, 1, 1, 1] (envT [(1, v1), (4, v4), (5, v5), (9, v9), (38, v38), (39, v39), (40, v40), (66, v66), (67, v67), (68, v68)]) st
noncomputable def strict_Check_j10 (J : JT (Value × St)) (v1 : Value) (v4 : Value) (v5 : Value) (v38 : Value) (v39 : Value) (v40 : Value) (st : St) : Res (Value × St) := goX J strict_Check_c.body [1, 1, 1, 1, 1, 1, 1, 1, 1, 0, 1, 0, 1, 0, 0, 1, 1, 1, 1, 1] (envT [(1, v1), (4, v4), (5, v5), (38, v38), (39, v39), (40, v40)]) st
noncomputable def strict_Check_j11 (J : JT (Value × St)) (v1 : Value) (v4 : Value) (v5 : Value) (v9 : Value) (v38 : Value) (v39 : Value) (v40 : Value) (v66 : Value) (v67 : Value) (v68 : Value) (st : St) : Res (Value × St) := goX J strict_Check_c.body [1, 1, 1, 1, 1, 1, 1, 1, 1, 0, 1, 0, 1, 0, 0, 1, 1, 1, 0, 0, 1, 1, 1, 1, 1, 1, 0, 1, 0, 0, 1, 1, 1, 1, 1] (envT [(1, v1), (4, v4), (5, v5), (9, v9), (38, v38), (39, v39), (40, v40), (66, v66), (67, v67), (68, v68)]) st
theorem strict_Check_eq (K : Ctx) (J : JT (Value × St)) (a0 : Value) (st : St) : atX K J strict_Check_c (AM.start [a0]) st =
  (.thn st (sLbox a0 st) fun p1 =>
  .thn p1.2 (sField (some 1) 0 p1.1 p1.2) fun p2 =>
  .thn p2.2 (K.go (.call n_ir_Program_Check [p2.1]) p2.2) fun p3 =>
  .thn p3.2 (sBin .neq p3.1 (.int .i64 0) p3.2) fun p4 =>
  condX p4.1
  (.ok (p3.1, p4.2))
  (strict_Check_j0 J p1.1 p4.2)) := by kernel_rfl
theorem strict_Check_of {K : Ctx} (hF : Fix pgF K) {a0 : Value} {st : St} {Q : Value × St → Prop} (h : ∀ J, IsJ K (retK strict_Check_c.results) J → Ok (atX K J strict_Check_c (AM.start [a0]) st) Q) : Ok (K.go (.call n_strict_Check [a0]) st) Q := call_of hF strict_Check_is rfl h
theorem strict_Check_j0_eq {K : Ctx} {J : JT (Value × St)} (hJ : IsJ K (retK strict_Check_c.results) J) (v1 : Value) (st : St) : strict_Check_j0 J v1 st =
  (.thn st (sField (some 1) 0 v1 st) fun p1 =>
  .thn p1.2 (K.go (.call n_graph_Of [p1.1]) p1.2) fun p2 =>
  .thn p2.2 (sLnew [(.slice none 0 0), (.slice none 0 0)] p2.2) fun p3 =>
  .thn p3.2 (sUpd 2 0 p3.1 p2.1 p3.2) fun p4 =>
  .thn p4.2 (sField (some 2) 0 p4.1 p4.2) fun p5 =>
  .thn p5.2 (K.go (.call n_graph_Graph_Reached [p5.1]) p5.2) fun p6 =>
  .thn p6.2 (K.go (.call n_slices_Contains_bool [p6.1, (.bool false)]) p6.2) fun p7 =>
  .thn p7.2 (sG p7.1 false (sField (some 2) 0 p4.1 p7.2) p7.2) fun p8 =>
  .thn p8.2 (sG p7.1 false (K.go (.call n_graph_Graph_Ahead [p8.1, (.int .i64 0)]) p8.2) p8.2) fun p9 =>
  .thn p9.2 (sG p7.1 false (sLen .slice p9.1 p9.2) p9.2) fun p10 =>
  .thn p10.2 (sG p7.1 false (sBin .gtr p10.1 (.int .i64 0) p10.2) p10.2) fun p11 =>
  .thn p11.2 (sPick p7.1 (.bool true) p11.1 p11.2) fun p12 =>
  condX p12.1
  (.ok ((.int .i64 5), p12.2))
  (strict_Check_j1 J v1 p4.1 p12.2)) := (go_eq hJ _ _ _ _).trans (by kernel_rfl)
theorem strict_Check_j1_eq {K : Ctx} {J : JT (Value × St)} (hJ : IsJ K (retK strict_Check_c.results) J) (v1 : Value) (v4 : Value) (st : St) : strict_Check_j1 J v1 v4 st =
  (.thn st (sField (some 1) 0 v1 st) fun p1 =>
  .thn p1.2 (K.go (.call n_strict_places [p1.1]) p1.2) fun p2 =>
  .thn p2.2 (sExtract p2.1 0 p2.2) fun p3 =>
  .thn p3.2 (sExtract p2.1 1 p3.2) fun p4 =>
  .thn p4.2 (sUn .not p4.1 p4.2) fun p5 =>
  condX p5.1
  (.ok ((.int .i64 8), p5.2))
  (strict_Check_j2 J v1 v4 p3.1 p5.2)) := (go_eq hJ _ _ _ _).trans (by kernel_rfl)
theorem strict_Check_j2_eq {K : Ctx} {J : JT (Value × St)} (hJ : IsJ K (retK strict_Check_c.results) J) (v1 : Value) (v4 : Value) (v5 : Value) (st : St) : strict_Check_j2 J v1 v4 v5 st =
  (.thn st (sLref v1 st) fun p1 =>
  .thn p1.2 (sField none 0 v1 p1.2) fun p2 =>
  .thn p2.2 (sLen .slice p2.1 p2.2) fun p3 =>
  strict_Check_l0 J v1 v4 v5 p2.1 p3.1 (.int .i64 0) p3.2) := (go_eq hJ _ _ _ _).trans (by kernel_rfl)
theorem strict_Check_l0_eq (K : Ctx) (J : JT (Value × St)) (v1 : Value) (v4 : Value) (v5 : Value) (v38 : Value) (v39 : Value) (v40 : Value) (st : St) : inX K J (retK strict_Check_c.results) strict_Check_c.body [1, 1, 1, 1, 1, 1, 1, 1, 1, 0, 1, 0, 1] (envT [(1, v1), (4, v4), (5, v5), (38, v38), (39, v39), (40, v40)]) st =
  (.thn st (sBin .lss v40 v39 st) fun p1 =>
  condX p1.1
  (strict_Check_j3 J v1 v4 v5 v38 v39 v40 p1.2)
  (strict_Check_j4 J v1 v4 v5 p1.2)) := by kernel_rfl
theorem strict_Check_l0_of {K : Ctx} (hF : Fix pgF K) {J : JT (Value × St)} (hJ : IsJ K (retK strict_Check_c.results) J) {v1 : Value} {v4 : Value} {v5 : Value} {v38 : Value} {v39 : Value} {v40 : Value} {st : St} {Q : Value × St → Prop} (h : Ok (inX K J (retK strict_Check_c.results) strict_Check_c.body [1, 1, 1, 1, 1, 1, 1, 1, 1, 0, 1, 0, 1] (envT [(1, v1), (4, v4), (5, v5), (38, v38), (39, v39), (40, v40)]) st) Q) : Ok (strict_Check_l0 J v1 v4 v5 v38 v39 v40 st) Q := loop_of hF hJ h
theorem strict_Check_j3_eq {K : Ctx} {J : JT (Value × St)} (hJ : IsJ K (retK strict_Check_c.results) J) (v1 : Value) (v4 : Value) (v5 : Value) (v38 : Value) (v39 : Value) (v40 : Value) (st : St) : strict_Check_j3 J v1 v4 v5 v38 v39 v40 st =
  (.thn st (sIxA 7 none v38 v40 st) fun p1 =>
  .thn p1.2 (sLoad (some 7) p1.1 p1.2) fun p2 =>
  .thn p2.2 (sLnew [(.int .i64 0), (.slice none 0 0), (.slice none 0 0), (.int .u8 0), (.int .i64 0), (.int .i64 0), (.int .i64 0)] p2.2) fun p3 =>
  .thn p3.2 (sUpd 7 0 p3.1 p2.1 p3.2) fun p4 =>
  .thn p4.2 (sField (some 2) 0 v4 p4.2) fun p5 =>
  .thn p5.2 (K.go (.call n_graph_Graph_Ahead [p5.1, v40]) p5.2) fun p6 =>
  .thn p6.2 (sLen .slice p6.1 p6.2) fun p7 =>
  strict_Check_l1 J v1 v4 v5 p4.1 (.slice none 0 0) v38 v39 v40 p6.1 p7.1 (.int .i64 0) p7.2) := (go_eq hJ _ _ _ _).trans (by kernel_rfl)
theorem strict_Check_j4_eq {K : Ctx} {J : JT (Value × St)} (hJ : IsJ K (retK strict_Check_c.results) J) (v1 : Value) (v4 : Value) (v5 : Value) (st : St) : strict_Check_j4 J v1 v4 v5 st =
  (.thn st (sField (some 2) 0 v4 st) fun p1 =>
  .thn p1.2 (K.go (.call n_dom_Of [p1.1]) p1.2) fun p2 =>
  .thn p2.2 (sField (some 1) 0 v1 p2.2) fun p3 =>
  Res.need (sStays (List.take 1 (p1.2 :: [])) p2.2.next nothing (fun s => sField (some 1) 0 v1 s) p3.1) "order" >>= fun _ =>
  .thn p3.2 (K.go (.call n_strict_reads [p3.1, v5, p2.1]) p3.2) fun p4 =>
  .thn p4.2 (sUn .not p4.1 p4.2) fun p5 =>
  condX p5.1
  (.ok ((.int .i64 10), p5.2))
  (strict_Check_j5 J p5.2)) := (go_eq hJ _ _ _ _).trans (by kernel_rfl)
theorem strict_Check_l1_eq (K : Ctx) (J : JT (Value × St)) (v1 : Value) (v4 : Value) (v5 : Value) (v8 : Value) (v9 : Value) (v38 : Value) (v39 : Value) (v40 : Value) (v47 : Value) (v48 : Value) (v49 : Value) (st : St) : inX K J (retK strict_Check_c.results) strict_Check_c.body [1, 1, 1, 1, 1, 1, 1, 1, 1, 0, 1, 0, 1, 0, 0, 1, 1, 1, 0, 0, 1, 1, 0, 1, 0, 1] (envT [(1, v1), (4, v4), (5, v5), (8, v8), (9, v9), (38, v38), (39, v39), (40, v40), (47, v47), (48, v48), (49, v49)]) st =
  (.thn st (sBin .lss v49 v48 st) fun p1 =>
  condX p1.1
  (strict_Check_j6 J v1 v4 v5 v8 v9 v38 v39 v40 v47 v48 v49 p1.2)
  (strict_Check_j7 J v1 v4 v5 v8 v9 v38 v39 v40 p1.2)) := by kernel_rfl
theorem strict_Check_l1_of {K : Ctx} (hF : Fix pgF K) {J : JT (Value × St)} (hJ : IsJ K (retK strict_Check_c.results) J) {v1 : Value} {v4 : Value} {v5 : Value} {v8 : Value} {v9 : Value} {v38 : Value} {v39 : Value} {v40 : Value} {v47 : Value} {v48 : Value} {v49 : Value} {st : St} {Q : Value × St → Prop} (h : Ok (inX K J (retK strict_Check_c.results) strict_Check_c.body [1, 1, 1, 1, 1, 1, 1, 1, 1, 0, 1, 0, 1, 0, 0, 1, 1, 1, 0, 0, 1, 1, 0, 1, 0, 1] (envT [(1, v1), (4, v4), (5, v5), (8, v8), (9, v9), (38, v38), (39, v39), (40, v40), (47, v47), (48, v48), (49, v49)]) st) Q) : Ok (strict_Check_l1 J v1 v4 v5 v8 v9 v38 v39 v40 v47 v48 v49 st) Q := loop_of hF hJ h
theorem strict_Check_j5_eq {K : Ctx} {J : JT (Value × St)} (hJ : IsJ K (retK strict_Check_c.results) J) (st : St) : strict_Check_j5 J st =
  (.ok ((.int .i64 0), st)) := (go_eq hJ _ _ _ _).trans (by kernel_rfl)
theorem strict_Check_j6_eq {K : Ctx} {J : JT (Value × St)} (hJ : IsJ K (retK strict_Check_c.results) J) (v1 : Value) (v4 : Value) (v5 : Value) (v8 : Value) (v9 : Value) (v38 : Value) (v39 : Value) (v40 : Value) (v47 : Value) (v48 : Value) (v49 : Value) (st : St) : strict_Check_j6 J v1 v4 v5 v8 v9 v38 v39 v40 v47 v48 v49 st =
  (.thn st (sIxA 1 none v47 v49 st) fun p1 =>
  .thn p1.2 (sLoad none p1.1 p1.2) fun p2 =>
  .thn p2.2 (sLref v1 p2.2) fun p3 =>
  .thn p3.2 (sField none 0 v1 p3.2) fun p4 =>
  .thn p4.2 (sIxA 7 none p4.1 p2.1 p4.2) fun p5 =>
  .thn p5.2 (sOff 0 p5.1 p5.2) fun p6 =>
  .thn p6.2 (sLoad none p6.1 p6.2) fun p7 =>
  .thn p7.2 (sLit 1 1 [(.int .i64 0)] [(0, 1, p7.1)] p7.2) fun p8 =>
  .thn p8.2 (sAppend 1 8 v9 p8.1 p8.2) fun p9 =>
  strict_Check_j8 J v1 v4 v5 v8 p9.1 v38 v39 v40 v47 v48 v49 p9.2) := (go_eq hJ _ _ _ _).trans (by kernel_rfl)
theorem strict_Check_j7_eq {K : Ctx} {J : JT (Value × St)} (hJ : IsJ K (retK strict_Check_c.results) J) (v1 : Value) (v4 : Value) (v5 : Value) (v8 : Value) (v9 : Value) (v38 : Value) (v39 : Value) (v40 : Value) (st : St) : strict_Check_j7 J v1 v4 v5 v8 v9 v38 v39 v40 st =
  (.thn st (K.go (.call n_slices_Sort_int [v9]) st) fun p1 =>
  .thn p1.2 (sLref v8 p1.2) fun p2 =>
  .thn p2.2 (sField none 1 v8 p2.2) fun p3 =>
  .thn p3.2 (sLen .slice p3.1 p3.2) fun p4 =>
  strict_Check_l2 J v1 v4 v5 v9 v38 v39 v40 p3.1 p4.1 (.int .i64 0) p4.2) := (go_eq hJ _ _ _ _).trans (by kernel_rfl)
theorem strict_Check_j8_eq {K : Ctx} {J : JT (Value × St)} (hJ : IsJ K (retK strict_Check_c.results) J) (v1 : Value) (v4 : Value) (v5 : Value) (v8 : Value) (v9 : Value) (v38 : Value) (v39 : Value) (v40 : Value) (v47 : Value) (v48 : Value) (v49 : Value) (st : St) : strict_Check_j8 J v1 v4 v5 v8 v9 v38 v39 v40 v47 v48 v49 st =
  (.thn st (sBin .add v49 (.int .i64 1) st) fun p1 =>
  strict_Check_l1 J v1 v4 v5 v8 v9 v38 v39 v40 v47 v48 p1.1 p1.2) := (go_eq hJ _ _ _ _).trans (by kernel_rfl)
theorem strict_Check_l2_eq (K : Ctx) (J : JT (Value × St)) (v1 : Value) (v4 : Value) (v5 : Value) (v9 : Value) (v38 : Value) (v39 : Value) (v40 : Value) (v66 : Value) (v67 : Value) (v68 : Value) (st : St) : inX K J (retK strict_Check_c.results) strict_Check_c.body [1, 1, 1, 1, 1, 1, 1, 1, 1, 0, 1, 0, 1, 0, 0, 1, 1, 1, 0, 0, 1, 1, 1, 1, 1, 1, 0, 1] (envT [(1, v1), (4, v4), (5, v5), (9, v9), (38, v38), (39, v39), (40, v40), (66, v66), (67, v67), (68, v68)]) st =
  (.thn st (sBin .lss v68 v67 st) fun p1 =>
  condX p1.1
  (strict_Check_j9 J v1 v4 v5 v9 v38 v39 v40 v66 v67 v68 p1.2)
  (strict_Check_j10 J v1 v4 v5 v38 v39 v40 p1.2)) := by kernel_rfl
theorem strict_Check_l2_of {K : Ctx} (hF : Fix pgF K) {J : JT (Value × St)} (hJ : IsJ K (retK strict_Check_c.results) J) {v1 : Value} {v4 : Value} {v5 : Value} {v9 : Value} {v38 : Value} {v39 : Value} {v40 : Value} {v66 : Value} {v67 : Value} {v68 : Value} {st : St} {Q : Value × St → Prop} (h : Ok (inX K J (retK strict_Check_c.results) strict_Check_c.body [1, 1, 1, 1, 1, 1, 1, 1, 1, 0, 1, 0, 1, 0, 0, 1, 1, 1, 0, 0, 1, 1, 1, 1, 1, 1, 0, 1] (envT [(1, v1), (4, v4), (5, v5), (9, v9), (38, v38), (39, v39), (40, v40), (66, v66), (67, v67), (68, v68)]) st) Q) : Ok (strict_Check_l2 J v1 v4 v5 v9 v38 v39 v40 v66 v67 v68 st) Q := loop_of hF hJ h
theorem strict_Check_j9_eq {K : Ctx} {J : JT (Value × St)} (hJ : IsJ K (retK strict_Check_c.results) J) (v1 : Value) (v4 : Value) (v5 : Value) (v9 : Value) (v38 : Value) (v39 : Value) (v40 : Value) (v66 : Value) (v67 : Value) (v68 : Value) (st : St) : strict_Check_j9 J v1 v4 v5 v9 v38 v39 v40 v66 v67 v68 st =
  (.thn st (sIxA 3 none v66 v68 st) fun p1 =>
  .thn p1.2 (sLoad (some 3) p1.1 p1.2) fun p2 =>
  .thn p2.2 (sLnew [(.int .i64 0), (.slice none 0 0), (.slice none 0 0)] p2.2) fun p3 =>
  .thn p3.2 (sUpd 3 0 p3.1 p2.1 p3.2) fun p4 =>
  .thn p4.2 (sLref p4.1 p4.2) fun p5 =>
  .thn p5.2 (sField none 1 p4.1 p5.2) fun p6 =>
  .thn p6.2 (K.go (.call n_slices_Equal_int [p6.1, v9]) p6.2) fun p7 =>
  .thn p7.2 (sUn .not p7.1 p7.2) fun p8 =>
  condX p8.1
  (.ok ((.int .i64 5), p8.2))
  (strict_Check_j11 J v1 v4 v5 v9 v38 v39 v40 v66 v67 v68 p8.2)) := (go_eq hJ _ _ _ _).trans (by kernel_rfl)
theorem strict_Check_j10_eq {K : Ctx} {J : JT (Value × St)} (hJ : IsJ K (retK strict_Check_c.results) J) (v1 : Value) (v4 : Value) (v5 : Value) (v38 : Value) (v39 : Value) (v40 : Value) (st : St) : strict_Check_j10 J v1 v4 v5 v38 v39 v40 st =
  (.thn st (sBin .add v40 (.int .i64 1) st) fun p1 =>
  strict_Check_l0 J v1 v4 v5 v38 v39 p1.1 p1.2) := (go_eq hJ _ _ _ _).trans (by kernel_rfl)
theorem strict_Check_j11_eq {K : Ctx} {J : JT (Value × St)} (hJ : IsJ K (retK strict_Check_c.results) J) (v1 : Value) (v4 : Value) (v5 : Value) (v9 : Value) (v38 : Value) (v39 : Value) (v40 : Value) (v66 : Value) (v67 : Value) (v68 : Value) (st : St) : strict_Check_j11 J v1 v4 v5 v9 v38 v39 v40 v66 v67 v68 st =
  (.thn st (sBin .add v68 (.int .i64 1) st) fun p1 =>
  strict_Check_l2 J v1 v4 v5 v9 v38 v39 v40 v66 v67 p1.1 p1.2) := (go_eq hJ _ _ _ _).trans (by kernel_rfl)

/-! ### slices.Contains[[]bool,bool] -/
open C in
noncomputable def slices_Contains_bool_c : AFun := ⟨9, [.tmp 4],
 (s (.ops [o 4 (.mv (c (.bool false)))])
 (s (.ops [o 5 (.mv (t 0)), o 6 (.mv (t 1)), o 7 (.call (f 54) [(t 5), (t 6)]), o 8 (.bin .geq (t 7) (c (i 0))), o 4 (.mv (t 8))])
 .ret))⟩
theorem slices_Contains_bool_is : pgF n_slices_Contains_bool = some slices_Contains_bool_c := by kernel_rfl
theorem slices_Contains_bool_eq (K : Ctx) (J : JT (Value × St)) (a0 a1 : Value) (st : St) : atX K J slices_Contains_bool_c (AM.start [a0, a1]) st =
  (.thn st (K.go (.call n_slices_Index_bool [a0, a1]) st) fun p1 =>
  .thn p1.2 (sBin .geq p1.1 (.int .i64 0) p1.2) fun p2 =>
  .ok (p2.1, p2.2)) := by kernel_rfl
theorem slices_Contains_bool_of {K : Ctx} (hF : Fix pgF K) {a0 a1 : Value} {st : St} {Q : Value × St → Prop} (h : ∀ J, IsJ K (retK slices_Contains_bool_c.results) J → Ok (atX K J slices_Contains_bool_c (AM.start [a0, a1]) st) Q) : Ok (K.go (.call n_slices_Contains_bool [a0, a1]) st) Q := call_of hF slices_Contains_bool_is rfl h

/-! ### (refinery/graph.Graph).Reached -/
open C in
noncomputable def graph_Graph_Reached_c : AFun := ⟨1, [.tmp 2],
 (s (.ops [o 1 (.lbox (t 0)), o 2 (.mv (c (.slice none 0 0)))])
 (s (.ops [o 4 (.field (some 2) 0 (t 1)), o 5 (.call (f 55) [(t 4)]), o 6 (.mkSlice 1 1 [(.bool false)] (t 5) (t 5)), o 3 (.mv (t 6))])
 (s (s (.ops [o 7 (.field (some 2) 0 (t 1)), o 8 (.call (f 55) [(t 7)]), o 9 (.bin .gtr (t 8) (c (i 0)))])
 (.cond (t 9) (.ops [o 10 (.field (some 2) 0 (t 1)), o 11 (.mv (t 3)), o 12 (.call (f 56) [(t 10), (c (i 0)), (t 11), (f 57), (f 58)])]) .skip))
 (s (.keep [3])
 (s (.ops [o 13 (.mv (t 3)), o 2 (.mv (t 13))])
 .ret)))))⟩
theorem graph_Graph_Reached_is : pgF n_graph_Graph_Reached = some graph_Graph_Reached_c := by kernel_rfl
noncomputable def graph_Graph_Reached_j0 (J : JT (Value × St)) (v3 : Value) (st : St) : Res (Value × St) := goX J graph_Graph_Reached_c.body [1, 1, 1, 1] (envT [(3, v3)]) st
theorem graph_Graph_Reached_eq (K : Ctx) (J : JT (Value × St)) (a0 : Value) (st : St) : atX K J graph_Graph_Reached_c (AM.start [a0]) st =
  (.thn st (sLbox a0 st) fun p1 =>
  .thn p1.2 (sField (some 2) 0 p1.1 p1.2) fun p2 =>
  .thn p2.2 (K.go (.call n_graph_Graph_Len [p2.1]) p2.2) fun p3 =>
  .thn p3.2 (sMkSlice 1 1 [(.bool false)] p3.1 p3.1 p3.2) fun p4 =>
  .thn p4.2 (sField (some 2) 0 p1.1 p4.2) fun p5 =>
  .thn p5.2 (K.go (.call n_graph_Graph_Len [p5.1]) p5.2) fun p6 =>
  .thn p6.2 (sBin .gtr p6.1 (.int .i64 0) p6.2) fun p7 =>
  condX p7.1
  (.thn p7.2 (sField (some 2) 0 p1.1 p7.2) fun p8 =>
  .thn p8.2 (K.go (.call n_graph_Graph_walk [p8.1, (.int .i64 0), p4.1, (.func (.func n_graph_Graph_Reached_1) #[] #[]), (.func (.func n_graph_Graph_Reached_2) #[] #[])]) p8.2) fun p9 =>
  graph_Graph_Reached_j0 J p4.1 p9.2)
  (graph_Graph_Reached_j0 J p4.1 p7.2)) := by kernel_rfl
theorem graph_Graph_Reached_of {K : Ctx} (hF : Fix pgF K) {a0 : Value} {st : St} {Q : Value × St → Prop} (h : ∀ J, IsJ K (retK graph_Graph_Reached_c.results) J → Ok (atX K J graph_Graph_Reached_c (AM.start [a0]) st) Q) : Ok (K.go (.call n_graph_Graph_Reached [a0]) st) Q := call_of hF graph_Graph_Reached_is rfl h
theorem graph_Graph_Reached_j0_eq {K : Ctx} {J : JT (Value × St)} (hJ : IsJ K (retK graph_Graph_Reached_c.results) J) (v3 : Value) (st : St) : graph_Graph_Reached_j0 J v3 st =
  (.ok (v3, st)) := (go_eq hJ _ _ _ _).trans (by kernel_rfl)

/-! ### (refinery/graph.Graph).Ahead -/
open C in
noncomputable def graph_Graph_Ahead_c : AFun := ⟨2, [.tmp 4],
 (s (.ops [o 2 (.lbox (t 0)), o 4 (.mv (c (.slice none 0 0)))])
 (s (s (.ops [o 5 (.mv (t 1)), o 6 (.bin .lss (t 5) (c (i 0))), o 7 (.mv (t 6)), g 8 false 7 (.mv (t 1)), g 9 false 7 (.field (some 2) 0 (t 2)), g 10 false 7 (.call (f 55) [(t 9)]), g 11 false 7 (.bin .geq (t 8) (t 10)), o 12 (.pick (t 7) (c (.bool true)) (t 11))])
 (.cond (t 12) (s (.ops [o 4 (.mv (c (.slice none 0 0)))])
 .ret) .skip))
 (s (.keep [1, 2])
 (s (.ops [o 13 (.lref (t 2)), o 14 (.field none 1 (t 2)), o 15 (.mv (t 1)), o 16 (.ixA 1 none (t 14) (t 15)), o 17 (.load none (t 16)), o 18 (.call (f 59) [(t 17)]), o 4 (.mv (t 18))])
 .ret))))⟩
theorem graph_Graph_Ahead_is : pgF n_graph_Graph_Ahead = some graph_Graph_Ahead_c := by kernel_rfl
noncomputable def graph_Graph_Ahead_j0 (J : JT (Value × St)) (v1 : Value) (v2 : Value) (st : St) : Res (Value × St) := goX J graph_Graph_Ahead_c.body [1, 1, 1] (envT [(1, v1), (2, v2)]) st
theorem graph_Graph_Ahead_eq (K : Ctx) (J : JT (Value × St)) (a0 a1 : Value) (st : St) : atX K J graph_Graph_Ahead_c (AM.start [a0, a1]) st =
  (.thn st (sLbox a0 st) fun p1 =>
  .thn p1.2 (sBin .lss a1 (.int .i64 0) p1.2) fun p2 =>
  .thn p2.2 (sG p2.1 false (.ok (a1, p2.2)) p2.2) fun p3 =>
  .thn p3.2 (sG p2.1 false (sField (some 2) 0 p1.1 p3.2) p3.2) fun p4 =>
  .thn p4.2 (sG p2.1 false (K.go (.call n_graph_Graph_Len [p4.1]) p4.2) p4.2) fun p5 =>
  .thn p5.2 (sG p2.1 false (sBin .geq p3.1 p5.1 p5.2) p5.2) fun p6 =>
  .thn p6.2 (sPick p2.1 (.bool true) p6.1 p6.2) fun p7 =>
  condX p7.1
  (.ok ((.slice none 0 0), p7.2))
  (graph_Graph_Ahead_j0 J a1 p1.1 p7.2)) := by kernel_rfl
theorem graph_Graph_Ahead_of {K : Ctx} (hF : Fix pgF K) {a0 a1 : Value} {st : St} {Q : Value × St → Prop} (h : ∀ J, IsJ K (retK graph_Graph_Ahead_c.results) J → Ok (atX K J graph_Graph_Ahead_c (AM.start [a0, a1]) st) Q) : Ok (K.go (.call n_graph_Graph_Ahead [a0, a1]) st) Q := call_of hF graph_Graph_Ahead_is rfl h
theorem graph_Graph_Ahead_j0_eq {K : Ctx} {J : JT (Value × St)} (hJ : IsJ K (retK graph_Graph_Ahead_c.results) J) (v1 : Value) (v2 : Value) (st : St) : graph_Graph_Ahead_j0 J v1 v2 st =
  (.thn st (sLref v2 st) fun p1 =>
  .thn p1.2 (sField none 1 v2 p1.2) fun p2 =>
  .thn p2.2 (sIxA 1 none p2.1 v1 p2.2) fun p3 =>
  .thn p3.2 (sLoad none p3.1 p3.2) fun p4 =>
  .thn p4.2 (K.go (.call n_slices_Clone_int [p4.1]) p4.2) fun p5 =>
  .ok (p5.1, p5.2)) := (go_eq hJ _ _ _ _).trans (by kernel_rfl)

/-! ### refinery/strict.places -/
open C in
noncomputable def strict_places_c : AFun := ⟨1, [.tmp 2, .tmp 3],
 (s (.ops [o 1 (.lbox (t 0)), o 2 (.mv (c (.map none))), o 3 (.mv (c (.bool false)))])
 (s (.ops [o 15 .newMap, o 4 (.new [(.map none)]), n (.store 1 (t 4) (t 15))])
 (s (.ops [o 5 (.new [(.bool false)]), n (.store 1 (t 5) (c (.bool true)))])
 (s (.ops [o 16 (.fn 60 [] [(t 4), (t 5)]), o 6 (.mv (t 16))])
 (s (s (.ops [o 17 (.lref (t 1)), o 18 (.field none 0 (t 1)), o 19 (.len .slice (t 18)), o 20 (.mv (c (i 0)))])
 (.block 0 (s (.keep [4, 5, 6, 18, 19, 20])
 (.loop (s (s (.ops [o 21 (.bin .lss (t 20) (t 19))])
 (s (.cond (t 21) .skip (.exit 0))
 (s (.keep [4, 5, 6, 18, 19, 20])
 (s (.block 1 (s (.ops [o 22 (.mv (t 20)), o 23 (.ixA 7 none (t 18) (t 20)), o 24 (.load (some 7) (t 23)), o 8 (.lnew [(i 0), (.slice none 0 0), (.slice none 0 0), (u 0), (i 0), (i 0), (i 0)]), o 7 (.mv (t 22)), o 8 (.upd 7 0 (t 8) (t 24))])
 (s (s (.ops [o 25 (.lref (t 8)), o 26 (.field none 1 (t 8)), o 27 (.len .slice (t 26)), o 28 (.mv (c (i 0)))])
 (.block 2 (s (.keep [4, 5, 6, 7, 8, 18, 19, 20, 26, 27, 28])
 (.loop (s (s (.ops [o 29 (.bin .lss (t 28) (t 27))])
 (s (.cond (t 29) .skip (.exit 2))
 (s (.keep [4, 5, 6, 7, 8, 18, 19, 20, 26, 27, 28])
 (s (.block 3 (s (.ops [o 30 (.ixA 3 none (t 26) (t 28)), o 31 (.load (some 3) (t 30)), o 10 (.lnew [(i 0), (.slice none 0 0), (.slice none 0 0)]), o 10 (.upd 3 0 (t 10) (t 31))])
 (.ops [o 32 (.mv (t 6)), o 33 (.lref (t 10)), o 34 (.field none 0 (t 10)), o 35 (.mv (t 7)), o 36 (.build [(i 0), (i 0)] [(0, 1, (t 35)), (1, 1, (c (i (-1))))]), o 37 (.call (t 32) [(t 34), (t 36)])])))
 (s (.keep [4, 5, 6, 7, 8, 18, 19, 20, 26, 27, 28])
 (.ops [o 38 (.bin .add (t 28) (c (i 1))), o 28 (.mv (t 38))]))))))
 (.keep [4, 5, 6, 7, 8, 18, 19, 20, 26, 27, 28]))))))
 (s (.keep [4, 5, 6, 7, 8, 18, 19, 20])
 (s (.ops [o 39 (.lref (t 8)), o 40 (.field none 2 (t 8)), o 41 (.len .slice (t 40)), o 42 (.mv (c (i 0)))])
 (.block 4 (s (.keep [4, 5, 6, 7, 18, 19, 20, 40, 41, 42])
 (.loop (s (s (.ops [o 43 (.bin .lss (t 42) (t 41))])
 (s (.cond (t 43) .skip (.exit 4))
 (s (.keep [4, 5, 6, 7, 18, 19, 20, 40, 41, 42])
 (s (.block 5 (s (.ops [o 44 (.mv (t 42)), o 45 (.ixA 7 none (t 40) (t 42)), o 46 (.load (some 7) (t 45)), o 12 (.lnew [(u 0), (u 0), (i 0), (i 0), (i 0), (i 0), (i 0)]), o 11 (.mv (t 44)), o 12 (.upd 7 0 (t 12) (t 46))])
 (s (.ops [o 48 (.field (some 7) 0 (t 12)), o 49 (.call (f 12) [(t 48)]), o 47 (.mv (t 49)), o 50 (.extract (t 47) 0), o 51 (.extract (t 47) 1), o 13 (.mv (t 50)), o 14 (.mv (t 51))])
 (s (.ops [o 52 (.mv (t 14))])
 (.cond (t 52) (.ops [o 53 (.mv (t 6)), o 54 (.mv (t 13)), o 55 (.mv (t 7)), o 56 (.mv (t 11)), o 57 (.build [(i 0), (i 0)] [(0, 1, (t 55)), (1, 1, (t 56))]), o 58 (.call (t 53) [(t 54), (t 57)])]) .skip)))))
 (s (.keep [4, 5, 6, 7, 18, 19, 20, 40, 41, 42])
 (.ops [o 59 (.bin .add (t 42) (c (i 1))), o 42 (.mv (t 59))]))))))
 (.keep [4, 5, 6, 7, 18, 19, 20, 40, 41, 42]))))))))))
 (s (.keep [4, 5, 6, 18, 19, 20])
 (.ops [o 60 (.bin .add (t 20) (c (i 1))), o 20 (.mv (t 60))]))))))
 (.keep [4, 5, 6, 18, 19, 20]))))))
 (s (.keep [4, 5])
 (s (.draw [d 0 0 false (o 61 (.load none (t 4))), d 1 0 false (o 62 (.load none (t 5))), d 2 0 false (o 2 (.mv (t 61))), d 3 0 false (o 3 (.mv (t 62)))])
 .ret)))))))⟩
theorem strict_places_is : pgF n_strict_places = some strict_places_c := by kernel_rfl
noncomputable def strict_places_l0 (J : JT (Value × St)) (v4 : Value) (v5 : Value) (v6 : Value) (v18 : Value) (v19 : Value) (v20 : Value) (st : St) : Res (Value × St) := lpX J strict_places_c.body [1, 1, 1, 1, 0, 1, 0, 1] (envT [(4, v4), (5, v5), (6, v6), (18, v18), (19, v19), (20, v20)]) st
noncomputable def strict_places_j0 (J : JT (Value × St)) (v4 : Value) (v5 : Value) (v6 : Value) (v18 : Value) (v19 : Value) (v20 : Value) (st : St) : Res (Value × St) := goX J strict_places_c.body [1, 1, 1, 1, 0, 1, 0, 1, 0, 0, 1, 1, 1] (envT [(4, v4), (5, v5), (6, v6), (18, v18), (19, v19), (20, v20)]) st
noncomputable def strict_places_j1 (J : JT (Value × St)) (v4 : Value) (v5 : Value) (st : St) : Res (Value × St) := goX J strict_places_c.body [1, 1, 1, 1, 1, 1] (envT [(4, v4), (5, v5)]) st
noncomputable def strict_places_l1 (J : JT (Value × St)) (v4 : Value) (v5 : Value) (v6 : Value) (v7 : Value) (v8 : Value) (v18 : Value) (v19 : Value) (v20 : Value) (v26 : Value) (v27 : Value) (v28 : Value) (st : St) : Res (Value × St) := lpX J strict_places_c.body [1, 1, 1, 1, 0, 1, 0, 1, 0, 0, 1, 1, 1, 0, 0, 1, 0, 1, 0, 1] (envT [(4, v4), (5, v5), (6, v6), (7, v7), (8, v8), (18, v18), (19, v19), (20, v20), (26, v26), (27, v27), (28, v28)]) st
noncomputable def strict_places_j2 (J : JT (Value × St)) (v4 : Value) (v5 : Value) (v6 : Value) (v7 : Value) (v8 : Value) (v18 : Value) (v19 : Value) (v20 : Value) (v26 : Value) (v27 : Value) (v28 : Value) (st : St) : Res (Value × St) := goX J strict_places_c.body [1, 1, 1, 1, 0, 1, 0, 1, 0, 0, 1, 1, 1, 0, 0, 1, 0, 1, 0, 1, 0, 0, 1, 1, 1] (envT [(4, v4), (5, v5), (6, v6), (7, v7), (8, v8), (18, v18), (19, v19), (20, v20), (26, v26), (27, v27), (28, v28)]) st
noncomputable def strict_places_j3 (J : JT (Value × St)) (v4 : Value) (v5 : Value) (v6 : Value) (v7 : Value) (v8 : Value) (v18 : Value) (v19 : Value) (v20 : Value) (st : St) : Res (Value × St) := goX J strict_places_c.body [1, 1, 1, 1, 0, 1, 0, 1, 0, 0, 1, 1, 1, 0, 0, 1, 1, 1] (envT [(4, v4), (5, v5), (6, v6), (7, v7), (8, v8), (18, v18), (19, v19), (20, v20)]) st
noncomputable def strict_places_j4 (J : JT (Value × St)) (v4 : Value) (v5 : Value) (v6 : Value) (v7 : Value) (v8 : Value) (v18 : Value) (v19 : Value) (v20 : Value) (v26 : Value) (v27 : Value) (v28 : Value) (st : St) : Res (Value × St) := goX J strict_places_c.body [1, 1, 1, 1, 0, 1, 0, 1, 0, 0, 1, 1, 1, 0, 0, 1, 0, 1, 0, 1, 0, 0, 1, 1, 1, 1, 1] (envT [(4, v4), (5, v5), (6, v6), (7, v7), (8, v8), (18, v18), (19, v19), (20, v20), (26, v26), (27, v27), (28, v28)]) st
noncomputable def strict_places_l2 (J : JT (Value × St)) (v4 : Value) (v5 : Value) (v6 : Value) (v7 : Value) (v18 : Value) (v19 : Value) (v20 : Value) (v40 : Value) (v41 : Value) (v42 : Value) (st : St) : Res (Value × St) := lpX J strict_places_c.body [1, 1, 1, 1, 0, 1, 0, 1, 0, 0, 1, 1, 1, 0, 0, 1, 1, 1, 1, 0, 1] (envT [(4, v4), (5, v5), (6, v6), (7, v7), (18, v18), (19, v19), (20, v20), (40, v40), (41, v41), (42, v42)]) st
noncomputable def strict_places_j5 (J : JT (Value × St)) (v4 : Value) (v5 : Value) (v6 : Value) (v7 : Value) (v18 : Value) (v19 : Value) (v20 : Value) (v40 : Value) (v41 : Value) (v42 : Value) (st : St) : Res (Value × St) := goX J strict_places_c.body [1, 1, 1, 1, 0, 1, 0, 1, 0, 0, 1, 1, 1, 0, 0, 1, 1, 1, 1, 0, 1, 0, 0, 1, 1, 1] (envT [(4, v4), (5, v5), (6, v6), (7, v7), (18, v18), (19, v19), (20, v20), (40, v40), (41, v41), (42, v42)]) st
noncomputable def strict_places_j6 (J : JT (Value × St)) (v4 : Value) (v5 : Value) (v6 : Value) (v18 : Value) (v19 : Value) (v20 : Value) (st : St) : Res (Value × St) := goX J strict_places_c.body [1, 1, 1, 1, 0, 1, 0, 1, 0, 0, 1, 1, 1, 1, 1] (envT [(4, v4), (5, v5), (6, v6), (18, v18), (19, v19), (20, v20)]) st
noncomputable def strict_places_j7 (J : JT (Value × St)) (v4 : Value) (v5 : Value) (v6 : Value) (v7 : Value) (v18 : Value) (v19 : Value) (v20 : Value) (v40 : Value) (v41 : Value) (v42 : Value) (st : St) : Res (Value × St) := goX J strict_places_c.body [1, 1, 1, 1, 0, 1, 0, 1, 0, 0, 1, 1, 1, 0, 0, 1, 1, 1, 1, 0, 1, 0, 0, 1, 1, 1, 1, 1] (envT [(4, v4), (5, v5), (6, v6), (7, v7), (18, v18), (19, v19), (20, v20), (40, v40), (41, v41), (42, v42)]) st
theorem strict_places_eq (K : Ctx) (J : JT (Value × St)) (a0 : Value) (st : St) : atX K J strict_places_c (AM.start [a0]) st =
  (.thn st (sLbox a0 st) fun p1 =>
  .thn p1.2 (sNewMap p1.2) fun p2 =>
  .thn p2.2 (sNew [(.map none)] p2.2) fun p3 =>
  .thn p3.2 (sStore 1 p3.1 p2.1 p3.2) fun p4 =>
  .thn p4.2 (sNew [(.bool false)] p4.2) fun p5 =>
  .thn p5.2 (sStore 1 p5.1 (.bool true) p5.2) fun p6 =>
  .thn p6.2 (sLref p1.1 p6.2) fun p7 =>
  .thn p7.2 (sField none 0 p1.1 p7.2) fun p8 =>
  .thn p8.2 (sLen .slice p8.1 p8.2) fun p9 =>
  strict_places_l0 J p3.1 p5.1 (.func (.func n_strict_places_1) #[] #[p3.1, p5.1]) p8.1 p9.1 (.int .i64 0) p9.2) := by kernel_rfl
theorem strict_places_of {K : Ctx} (hF : Fix pgF K) {a0 : Value} {st : St} {Q : Value × St → Prop} (h : ∀ J, IsJ K (retK strict_places_c.results) J → Ok (atX K J strict_places_c (AM.start [a0]) st) Q) : Ok (K.go (.call n_strict_places [a0]) st) Q := call_of hF strict_places_is rfl h
theorem strict_places_l0_eq (K : Ctx) (J : JT (Value × St)) (v4 : Value) (v5 : Value) (v6 : Value) (v18 : Value) (v19 : Value) (v20 : Value) (st : St) : inX K J (retK strict_places_c.results) strict_places_c.body [1, 1, 1, 1, 0, 1, 0, 1] (envT [(4, v4), (5, v5), (6, v6), (18, v18), (19, v19), (20, v20)]) st =
  (.thn st (sBin .lss v20 v19 st) fun p1 =>
  condX p1.1
  (strict_places_j0 J v4 v5 v6 v18 v19 v20 p1.2)
  (strict_places_j1 J v4 v5 p1.2)) := by kernel_rfl
theorem strict_places_l0_of {K : Ctx} (hF : Fix pgF K) {J : JT (Value × St)} (hJ : IsJ K (retK strict_places_c.results) J) {v4 : Value} {v5 : Value} {v6 : Value} {v18 : Value} {v19 : Value} {v20 : Value} {st : St} {Q : Value × St → Prop} (h : Ok (inX K J (retK strict_places_c.results) strict_places_c.body [1, 1, 1, 1, 0, 1, 0, 1] (envT [(4, v4), (5, v5), (6, v6), (18, v18), (19, v19), (20, v20)]) st) Q) : Ok (strict_places_l0 J v4 v5 v6 v18 v19 v20 st) Q := loop_of hF hJ h
theorem strict_places_j0_eq {K : Ctx} {J : JT (Value × St)} (hJ : IsJ K (retK strict_places_c.results) J) (v4 : Value) (v5 : Value) (v6 : Value) (v18 : Value) (v19 : Value) (v20 : Value) (st : St) : strict_places_j0 J v4 v5 v6 v18 v19 v20 st =
  (.thn st (sIxA 7 none v18 v20 st) fun p1 =>
  .thn p1.2 (sLoad (some 7) p1.1 p1.2) fun p2 =>
  .thn p2.2 (sLnew [(.int .i64 0), (.slice none 0 0), (.slice none 0 0), (.int .u8 0), (.int .i64 0), (.int .i64 0), (.int .i64 0)] p2.2) fun p3 =>
  .thn p3.2 (sUpd 7 0 p3.1 p2.1 p3.2) fun p4 =>
  .thn p4.2 (sLref p4.1 p4.2) fun p5 =>
  .thn p5.2 (sField none 1 p4.1 p5.2) fun p6 =>
  .thn p6.2 (sLen .slice p6.1 p6.2) fun p7 =>
  strict_places_l1 J v4 v5 v6 v20 p4.1 v18 v19 v20 p6.1 p7.1 (.int .i64 0) p7.2) := (go_eq hJ _ _ _ _).trans (by kernel_rfl)
theorem strict_places_j1_eq {K : Ctx} {J : JT (Value × St)} (hJ : IsJ K (retK strict_places_c.results) J) (v4 : Value) (v5 : Value) (st : St) : strict_places_j1 J v4 v5 st =
  (.thn st (sLoad none v4 st) fun p1 =>
  .thn p1.2 (sLoad none v5 p1.2) fun p2 =>
  .ok (.tuple #[p1.1, p2.1], p2.2)) := (go_eq hJ _ _ _ _).trans (by kernel_rfl)
theorem strict_places_l1_eq (K : Ctx) (J : JT (Value × St)) (v4 : Value) (v5 : Value) (v6 : Value) (v7 : Value) (v8 : Value) (v18 : Value) (v19 : Value) (v20 : Value) (v26 : Value) (v27 : Value) (v28 : Value) (st : St) : inX K J (retK strict_places_c.results) strict_places_c.body [1, 1, 1, 1, 0, 1, 0, 1, 0, 0, 1, 1, 1, 0, 0, 1, 0, 1, 0, 1] (envT [(4, v4), (5, v5), (6, v6), (7, v7), (8, v8), (18, v18), (19, v19), (20, v20), (26, v26), (27, v27), (28, v28)]) st =
  (.thn st (sBin .lss v28 v27 st) fun p1 =>
  condX p1.1
  (strict_places_j2 J v4 v5 v6 v7 v8 v18 v19 v20 v26 v27 v28 p1.2)
  (strict_places_j3 J v4 v5 v6 v7 v8 v18 v19 v20 p1.2)) := by kernel_rfl
theorem strict_places_l1_of {K : Ctx} (hF : Fix pgF K) {J : JT (Value × St)} (hJ : IsJ K (retK strict_places_c.results) J) {v4 : Value} {v5 : Value} {v6 : Value} {v7 : Value} {v8 : Value} {v18 : Value} {v19 : Value} {v20 : Value} {v26 : Value} {v27 : Value} {v28 : Value} {st : St} {Q : Value × St → Prop} (h : Ok (inX K J (retK strict_places_c.results) strict_places_c.body [1, 1, 1, 1, 0, 1, 0, 1, 0, 0, 1, 1, 1, 0, 0, 1, 0, 1, 0, 1] (envT [(4, v4), (5, v5), (6, v6), (7, v7), (8, v8), (18, v18), (19, v19), (20, v20), (26, v26), (27, v27), (28, v28)]) st) Q) : Ok (strict_places_l1 J v4 v5 v6 v7 v8 v18 v19 v20 v26 v27 v28 st) Q := loop_of hF hJ h
theorem strict_places_j2_eq {K : Ctx} {J : JT (Value × St)} (hJ : IsJ K (retK strict_places_c.results) J) (v4 : Value) (v5 : Value) (v6 : Value) (v7 : Value) (v8 : Value) (v18 : Value) (v19 : Value) (v20 : Value) (v26 : Value) (v27 : Value) (v28 : Value) (st : St) : strict_places_j2 J v4 v5 v6 v7 v8 v18 v19 v20 v26 v27 v28 st =
  (.thn st (sIxA 3 none v26 v28 st) fun p1 =>
  .thn p1.2 (sLoad (some 3) p1.1 p1.2) fun p2 =>
  .thn p2.2 (sLnew [(.int .i64 0), (.slice none 0 0), (.slice none 0 0)] p2.2) fun p3 =>
  .thn p3.2 (sUpd 3 0 p3.1 p2.1 p3.2) fun p4 =>
  .thn p4.2 (sLref p4.1 p4.2) fun p5 =>
  .thn p5.2 (sField none 0 p4.1 p5.2) fun p6 =>
  .thn p6.2 (sBuild [(.int .i64 0), (.int .i64 0)] [(0, 1, v7), (1, 1, (.int .i64 (-1)))] p6.2) fun p7 =>
  .thn p7.2 (sCall K v6 [p6.1, p7.1] p7.2) fun p8 =>
  strict_places_j4 J v4 v5 v6 v7 v8 v18 v19 v20 v26 v27 v28 p8.2) := (go_eq hJ _ _ _ _).trans (by kernel_rfl)
theorem strict_places_j3_eq {K : Ctx} {J : JT (Value × St)} (hJ : IsJ K (retK strict_places_c.results) J) (v4 : Value) (v5 : Value) (v6 : Value) (v7 : Value) (v8 : Value) (v18 : Value) (v19 : Value) (v20 : Value) (st : St) : strict_places_j3 J v4 v5 v6 v7 v8 v18 v19 v20 st =
  (.thn st (sLref v8 st) fun p1 =>
  .thn p1.2 (sField none 2 v8 p1.2) fun p2 =>
  .thn p2.2 (sLen .slice p2.1 p2.2) fun p3 =>
  strict_places_l2 J v4 v5 v6 v7 v18 v19 v20 p2.1 p3.1 (.int .i64 0) p3.2) := (go_eq hJ _ _ _ _).trans (by kernel_rfl)
theorem strict_places_j4_eq {K : Ctx} {J : JT (Value × St)} (hJ : IsJ K (retK strict_places_c.results) J) (v4 : Value) (v5 : Value) (v6 : Value) (v7 : Value) (v8 : Value) (v18 : Value) (v19 : Value) (v20 : Value) (v26 : Value) (v27 : Value) (v28 : Value) (st : St) : strict_places_j4 J v4 v5 v6 v7 v8 v18 v19 v20 v26 v27 v28 st =
  (.thn st (sBin .add v28 (.int .i64 1) st) fun p1 =>
  strict_places_l1 J v4 v5 v6 v7 v8 v18 v19 v20 v26 v27 p1.1 p1.2) := (go_eq hJ _ _ _ _).trans (by kernel_rfl)
theorem strict_places_l2_eq (K : Ctx) (J : JT (Value × St)) (v4 : Value) (v5 : Value) (v6 : Value) (v7 : Value) (v18 : Value) (v19 : Value) (v20 : Value) (v40 : Value) (v41 : Value) (v42 : Value) (st : St) : inX K J (retK strict_places_c.results) strict_places_c.body [1, 1, 1, 1, 0, 1, 0, 1, 0, 0, 1, 1, 1, 0, 0, 1, 1, 1, 1, 0, 1] (envT [(4, v4), (5, v5), (6, v6), (7, v7), (18, v18), (19, v19), (20, v20), (40, v40), (41, v41), (42, v42)]) st =
  (.thn st (sBin .lss v42 v41 st) fun p1 =>
  condX p1.1
  (strict_places_j5 J v4 v5 v6 v7 v18 v19 v20 v40 v41 v42 p1.2)
  (strict_places_j6 J v4 v5 v6 v18 v19 v20 p1.2)) := by kernel_rfl
theorem strict_places_l2_of {K : Ctx} (hF : Fix pgF K) {J : JT (Value × St)} (hJ : IsJ K (retK strict_places_c.results) J) {v4 : Value} {v5 : Value} {v6 : Value} {v7 : Value} {v18 : Value} {v19 : Value} {v20 : Value} {v40 : Value} {v41 : Value} {v42 : Value} {st : St} {Q : Value × St → Prop} (h : Ok (inX K J (retK strict_places_c.results) strict_places_c.body [1, 1, 1, 1, 0, 1, 0, 1, 0, 0, 1, 1, 1, 0, 0, 1, 1, 1, 1, 0, 1] (envT [(4, v4), (5, v5), (6, v6), (7, v7), (18, v18), (19, v19), (20, v20), (40, v40), (41, v41), (42, v42)]) st) Q) : Ok (strict_places_l2 J v4 v5 v6 v7 v18 v19 v20 v40 v41 v42 st) Q := loop_of hF hJ h
theorem strict_places_j5_eq {K : Ctx} {J : JT (Value × St)} (hJ : IsJ K (retK strict_places_c.results) J) (v4 : Value) (v5 : Value) (v6 : Value) (v7 : Value) (v18 : Value) (v19 : Value) (v20 : Value) (v40 : Value) (v41 : Value) (v42 : Value) (st : St) : strict_places_j5 J v4 v5 v6 v7 v18 v19 v20 v40 v41 v42 st =
  (.thn st (sIxA 7 none v40 v42 st) fun p1 =>
  .thn p1.2 (sLoad (some 7) p1.1 p1.2) fun p2 =>
  .thn p2.2 (sLnew [(.int .u8 0), (.int .u8 0), (.int .i64 0), (.int .i64 0), (.int .i64 0), (.int .i64 0), (.int .i64 0)] p2.2) fun p3 =>
  .thn p3.2 (sUpd 7 0 p3.1 p2.1 p3.2) fun p4 =>
  .thn p4.2 (sField (some 7) 0 p4.1 p4.2) fun p5 =>
  .thn p5.2 (K.go (.call n_ir_Instr_Sets [p5.1]) p5.2) fun p6 =>
  .thn p6.2 (sExtract p6.1 0 p6.2) fun p7 =>
  .thn p7.2 (sExtract p6.1 1 p7.2) fun p8 =>
  condX p8.1
  (.thn p8.2 (sBuild [(.int .i64 0), (.int .i64 0)] [(0, 1, v7), (1, 1, v42)] p8.2) fun p9 =>
  .thn p9.2 (sCall K v6 [p7.1, p9.1] p9.2) fun p10 =>
  strict_places_j7 J v4 v5 v6 v7 v18 v19 v20 v40 v41 v42 p10.2)
  (strict_places_j7 J v4 v5 v6 v7 v18 v19 v20 v40 v41 v42 p8.2)) := (go_eq hJ _ _ _ _).trans (by kernel_rfl)
theorem strict_places_j6_eq {K : Ctx} {J : JT (Value × St)} (hJ : IsJ K (retK strict_places_c.results) J) (v4 : Value) (v5 : Value) (v6 : Value) (v18 : Value) (v19 : Value) (v20 : Value) (st : St) : strict_places_j6 J v4 v5 v6 v18 v19 v20 st =
  (.thn st (sBin .add v20 (.int .i64 1) st) fun p1 =>
  strict_places_l0 J v4 v5 v6 v18 v19 p1.1 p1.2) := (go_eq hJ _ _ _ _).trans (by kernel_rfl)
theorem strict_places_j7_eq {K : Ctx} {J : JT (Value × St)} (hJ : IsJ K (retK strict_places_c.results) J) (v4 : Value) (v5 : Value) (v6 : Value) (v7 : Value) (v18 : Value) (v19 : Value) (v20 : Value) (v40 : Value) (v41 : Value) (v42 : Value) (st : St) : strict_places_j7 J v4 v5 v6 v7 v18 v19 v20 v40 v41 v42 st =
  (.thn st (sBin .add v42 (.int .i64 1) st) fun p1 =>
  strict_places_l2 J v4 v5 v6 v7 v18 v19 v20 v40 v41 p1.1 p1.2) := (go_eq hJ _ _ _ _).trans (by kernel_rfl)

/-! ### slices.Sort[[]int,int] -/
open C in
noncomputable def slices_Sort_int_c : AFun := ⟨11, [],
 (s (.ops [o 3 (.mv (t 0)), o 4 (.len .slice (t 3)), o 2 (.mv (t 4))])
 (.ops [o 5 (.mv (t 0)), o 6 (.mv (t 2)), o 7 (.mv (t 2)), o 8 (.conv (.int .u64) (t 7)), o 9 (.call (f 62) [(t 8)]), o 10 (.call (f 61) [(t 5), (c (i 0)), (t 6), (t 9)])]))⟩
theorem slices_Sort_int_is : pgF n_slices_Sort_int = some slices_Sort_int_c := by kernel_rfl
theorem slices_Sort_int_eq (K : Ctx) (J : JT (Value × St)) (a0 : Value) (st : St) : atX K J slices_Sort_int_c (AM.start [a0]) st =
  (.thn st (sLen .slice a0 st) fun p1 =>
  .thn p1.2 (sConv (.int .u64) p1.1 p1.2) fun p2 =>
  .thn p2.2 (K.go (.call n_math_bits_Len [p2.1]) p2.2) fun p3 =>
  .thn p3.2 (K.go (.call n_slices_pdqsortOrdered_int [a0, (.int .i64 0), p1.1, p3.1]) p3.2) fun p4 =>
  .ok (.tuple #[], p4.2)) := by kernel_rfl
theorem slices_Sort_int_of {K : Ctx} (hF : Fix pgF K) {a0 : Value} {st : St} {Q : Value × St → Prop} (h : ∀ J, IsJ K (retK slices_Sort_int_c.results) J → Ok (atX K J slices_Sort_int_c (AM.start [a0]) st) Q) : Ok (K.go (.call n_slices_Sort_int [a0]) st) Q := call_of hF slices_Sort_int_is rfl h

/-! ### refinery/strict.reads -/
open C in
noncomputable def strict_reads_c : AFun := ⟨3, [.tmp 6],
 (s (.ops [o 3 (.lbox (t 0)), o 4 (.box (t 1)), o 5 (.box (t 2)), o 6 (.mv (c (.bool false)))])
 (s (.ops [o 24 .newMap, o 7 (.mv (t 24))])
 (s (s (.ops [o 25 (.lref (t 3)), o 26 (.field none 0 (t 3)), o 27 (.len .slice (t 26)), o 28 (.mv (c (i 0)))])
 (.block 0 (s (.keep [3, 4, 5, 7, 26, 27, 28])
 (.loop (s (s (.ops [o 29 (.bin .lss (t 28) (t 27))])
 (s (.cond (t 29) .skip (.exit 0))
 (s (.keep [3, 4, 5, 7, 26, 27, 28])
 (s (.block 1 (s (.ops [o 30 (.mv (t 28)), o 31 (.ixA 7 none (t 26) (t 28)), o 32 (.load (some 7) (t 31)), o 9 (.lnew [(i 0), (.slice none 0 0), (.slice none 0 0), (u 0), (i 0), (i 0), (i 0)]), o 8 (.mv (t 30)), o 9 (.upd 7 0 (t 9) (t 32))])
 (.ops [o 33 (.mv (t 7)), o 34 (.lref (t 9)), o 35 (.field none 0 (t 9)), o 36 (.mv (t 8)), n (.mapSet (.cell .int) (t 33) (t 35) (t 36))])))
 (s (.keep [3, 4, 5, 7, 26, 27, 28])
 (.ops [o 37 (.bin .add (t 28) (c (i 1))), o 28 (.mv (t 37))]))))))
 (.keep [3, 4, 5, 7, 26, 27, 28]))))))
 (s (.keep [3, 4, 5, 7])
 (s (.ops [o 38 (.fn 63 [] [(t 4), (t 5)]), o 10 (.mv (t 38))])
 (s (s (.ops [o 39 (.lref (t 3)), o 40 (.field none 0 (t 3)), o 41 (.len .slice (t 40)), o 42 (.mv (c (i 0)))])
 (.block 2 (s (.keep [3, 7, 10, 40, 41, 42])
 (.loop (s (s (.ops [o 43 (.bin .lss (t 42) (t 41))])
 (s (.cond (t 43) .skip (.exit 2))
 (s (.keep [3, 7, 10, 40, 41, 42])
 (s (.block 3 (s (.ops [o 44 (.mv (t 42)), o 45 (.ixA 7 none (t 40) (t 42)), o 46 (.load (some 7) (t 45)), o 12 (.lnew [(i 0), (.slice none 0 0), (.slice none 0 0), (u 0), (i 0), (i 0), (i 0)]), o 11 (.mv (t 44)), o 12 (.upd 7 0 (t 12) (t 46))])
 (s (s (.ops [o 47 (.lref (t 12)), o 48 (.field none 1 (t 12)), o 49 (.len .slice (t 48)), o 50 (.mv (c (i 0)))])
 (.block 4 (s (.keep [3, 7, 10, 11, 12, 40, 41, 42, 48, 49, 50])
 (.loop (s (s (.ops [o 51 (.bin .lss (t 50) (t 49))])
 (s (.cond (t 51) .skip (.exit 4))
 (s (.keep [3, 7, 10, 11, 12, 40, 41, 42, 48, 49, 50])
 (s (.block 5 (s (.ops [o 52 (.ixA 3 none (t 48) (t 50)), o 53 (.load (some 3) (t 52)), o 14 (.lnew [(i 0), (.slice none 0 0), (.slice none 0 0)]), o 14 (.upd 3 0 (t 14) (t 53))])
 (s (.ops [o 54 (.lref (t 14)), o 55 (.field none 2 (t 14)), o 56 (.len .slice (t 55)), o 57 (.mv (c (i 0)))])
 (.block 6 (s (.keep [3, 7, 10, 11, 12, 14, 40, 41, 42, 48, 49, 50, 55, 56, 57])
 (.loop (s (s (.ops [o 58 (.bin .lss (t 57) (t 56))])
 (s (.cond (t 58) .skip (.exit 6))
 (s (.keep [3, 7, 10, 11, 12, 14, 40, 41, 42, 48, 49, 50, 55, 56, 57])
 (s (.block 7 (s (.ops [o 59 (.mv (t 57)), o 60 (.ixA 1 none (t 55) (t 57)), o 61 (.load none (t 60)), o 15 (.mv (t 59)), o 16 (.mv (t 61))])
 (s (.ops [o 62 (.mv (t 7)), o 63 (.lref (t 14)), o 64 (.field none 1 (t 14)), o 65 (.mv (t 15)), o 66 (.ixA 1 none (t 64) (t 65)), o 67 (.load none (t 66)), o 68 (.look (.cell .int) (i 0) false (t 62) (t 67)), o 17 (.mv (t 68))])
 (s (.ops [o 69 (.mv (t 10)), o 70 (.mv (t 16)), o 71 (.mv (t 17)), o 72 (.lref (t 3)), o 73 (.field none 0 (t 3)), o 74 (.mv (t 17)), o 75 (.ixA 7 none (t 73) (t 74)), o 76 (.off 2 (t 75)), o 77 (.load none (t 76)), o 78 (.len .slice (t 77)), o 79 (.call (t 69) [(t 70), (t 71), (t 78)]), o 80 (.un .not (t 79))])
 (.cond (t 80) (s (.ops [o 6 (.mv (c (.bool false)))])
 .ret) .skip)))))
 (s (.keep [3, 7, 10, 11, 12, 14, 40, 41, 42, 48, 49, 50, 55, 56, 57])
 (.ops [o 81 (.bin .add (t 57) (c (i 1))), o 57 (.mv (t 81))]))))))
 (.keep [3, 7, 10, 11, 12, 14, 40, 41, 42, 48, 49, 50, 55, 56, 57]))))))))
 (s (.keep [3, 7, 10, 11, 12, 40, 41, 42, 48, 49, 50])
 (.ops [o 82 (.bin .add (t 50) (c (i 1))), o 50 (.mv (t 82))]))))))
 (.keep [3, 7, 10, 11, 12, 40, 41, 42, 48, 49, 50]))))))
 (s (.keep [3, 7, 10, 11, 12, 40, 41, 42])
 (s (s (.ops [o 83 (.lref (t 12)), o 84 (.field none 2 (t 12)), o 85 (.len .slice (t 84)), o 86 (.mv (c (i 0)))])
 (.block 8 (s (.keep [3, 7, 10, 11, 12, 40, 41, 42, 84, 85, 86])
 (.loop (s (s (.ops [o 87 (.bin .lss (t 86) (t 85))])
 (s (.cond (t 87) .skip (.exit 8))
 (s (.keep [3, 7, 10, 11, 12, 40, 41, 42, 84, 85, 86])
 (s (.block 9 (s (.ops [o 88 (.mv (t 86)), o 89 (.ixA 7 none (t 84) (t 86)), o 90 (.load (some 7) (t 89)), o 19 (.lnew [(u 0), (u 0), (i 0), (i 0), (i 0), (i 0), (i 0)]), o 18 (.mv (t 88)), o 19 (.upd 7 0 (t 19) (t 90))])
 (s (.ops [o 91 (.field (some 7) 0 (t 19)), o 92 (.call (f 11) [(t 91)]), o 93 (.len .slice (t 92)), o 94 (.mv (c (i 0)))])
 (.block 10 (s (.keep [3, 7, 10, 11, 12, 18, 40, 41, 42, 84, 85, 86, 92, 93, 94])
 (.loop (s (s (.ops [o 95 (.bin .lss (t 94) (t 93))])
 (s (.cond (t 95) .skip (.exit 10))
 (s (.keep [3, 7, 10, 11, 12, 18, 40, 41, 42, 84, 85, 86, 92, 93, 94])
 (s (.block 11 (s (.ops [o 96 (.ixA 1 none (t 92) (t 94)), o 97 (.load none (t 96)), o 21 (.mv (t 97))])
 (s (.ops [o 98 (.mv (t 10)), o 99 (.mv (t 21)), o 100 (.mv (t 11)), o 101 (.mv (t 18)), o 102 (.call (t 98) [(t 99), (t 100), (t 101)]), o 103 (.un .not (t 102))])
 (.cond (t 103) (s (.ops [o 6 (.mv (c (.bool false)))])
 .ret) .skip))))
 (s (.keep [3, 7, 10, 11, 12, 18, 40, 41, 42, 84, 85, 86, 92, 93, 94])
 (.ops [o 104 (.bin .add (t 94) (c (i 1))), o 94 (.mv (t 104))]))))))
 (.keep [3, 7, 10, 11, 12, 18, 40, 41, 42, 84, 85, 86, 92, 93, 94]))))))))
 (s (.keep [3, 7, 10, 11, 12, 40, 41, 42, 84, 85, 86])
 (.ops [o 105 (.bin .add (t 86) (c (i 1))), o 86 (.mv (t 105))]))))))
 (.keep [3, 7, 10, 11, 12, 40, 41, 42, 84, 85, 86]))))))
 (s (.keep [3, 7, 10, 11, 12, 40, 41, 42])
 (s (.ops [o 107 (.lref (t 12)), o 108 (.field (some 4) 3 (t 12)), o 109 (.call (f 37) [(t 108)]), o 106 (.mv (t 109)), o 110 (.extract (t 106) 0), o 111 (.extract (t 106) 1), o 22 (.mv (t 110)), o 23 (.mv (t 111))])
 (s (.ops [o 112 (.mv (t 23)), o 113 (.mv (t 112)), g 114 true 113 (.mv (t 10)), g 115 true 113 (.mv (t 22)), g 116 true 113 (.mv (t 11)), g 117 true 113 (.lref (t 12)), g 118 true 113 (.field none 2 (t 12)), g 119 true 113 (.len .slice (t 118)), g 120 true 113 (.call (t 114) [(t 115), (t 116), (t 119)]), g 121 true 113 (.un .not (t 120)), o 122 (.pick (t 113) (t 121) (c (.bool false)))])
 (.cond (t 122) (s (.ops [o 6 (.mv (c (.bool false)))])
 .ret) .skip)))))))))
 (s (.keep [3, 7, 10, 40, 41, 42])
 (.ops [o 123 (.bin .add (t 42) (c (i 1))), o 42 (.mv (t 123))]))))))
 (.keep [3, 7, 10, 40, 41, 42]))))))
 (s (.keep [])
 (s (.ops [o 6 (.mv (c (.bool true)))])
 .ret))))))))⟩
theorem strict_reads_is : pgF n_strict_reads = some strict_reads_c := by kernel_rfl
noncomputable def strict_reads_l0 (J : JT (Value × St)) (v3 : Value) (v4 : Value) (v5 : Value) (v7 : Value) (v26 : Value) (v27 : Value) (v28 : Value) (st : St) : Res (Value × St) := lpX J strict_reads_c.body [1, 1, 0, 1, 0, 1] (envT [(3, v3), (4, v4), (5, v5), (7, v7), (26, v26), (27, v27), (28, v28)]) st
noncomputable def strict_reads_j0 (J : JT (Value × St)) (v3 : Value) (v4 : Value) (v5 : Value) (v7 : Value) (v26 : Value) (v27 : Value) (v28 : Value) (st : St) : Res (Value × St) := goX J strict_reads_c.body [1, 1, 0, 1, 0, 1, 0, 0, 1, 1, 1] (envT [(3, v3), (4, v4), (5, v5), (7, v7), (26, v26), (27, v27), (28, v28)]) st
noncomputable def strict_reads_j1 (J : JT (Value × St)) (v3 : Value) (v4 : Value) (v5 : Value) (v7 : Value) (st : St) : Res (Value × St) := goX J strict_reads_c.body [1, 1, 1, 1] (envT [(3, v3), (4, v4), (5, v5), (7, v7)]) st
noncomputable def strict_reads_j2 (J : JT (Value × St)) (v3 : Value) (v4 : Value) (v5 : Value) (v7 : Value) (v26 : Value) (v27 : Value) (v28 : Value) (st : St) : Res (Value × St) := goX J strict_reads_c.body [1, 1, 0, 1, 0, 1, 0, 0, 1, 1, 1, 1, 1] (envT [(3, v3), (4, v4), (5, v5), (7, v7), (26, v26), (27, v27), (28, v28)]) st
noncomputable def strict_reads_l1 (J : JT (Value × St)) (v3 : Value) (v7 : Value) (v10 : Value) (v40 : Value) (v41 : Value) (v42 : Value) (st : St) : Res (Value × St) := lpX J strict_reads_c.body [1, 1, 1, 1, 1, 0, 1, 0, 1] (envT [(3, v3), (7, v7), (10, v10), (40, v40), (41, v41), (42, v42)]) st
noncomputable def strict_reads_j3 (J : JT (Value × St)) (v3 : Value) (v7 : Value) (v10 : Value) (v40 : Value) (v41 : Value) (v42 : Value) (st : St) : Res (Value × St) := goX J strict_reads_c.body [1, 1, 1, 1, 1, 0, 1, 0, 1, 0, 0, 1, 1, 1] (envT [(3, v3), (7, v7), (10, v10), (40, v40), (41, v41), (42, v42)]) st
noncomputable def strict_reads_j4 (J : JT (Value × St)) (st : St) : Res (Value × St) := goX J strict_reads_c.body [1, 1, 1, 1, 1, 1, 1] (envT []) st
noncomputable def strict_reads_l2 (J : JT (Value × St)) (v3 : Value) (v7 : Value) (v10 : Value) (v11 : Value) (v12 : Value) (v40 : Value) (v41 : Value) (v42 : Value) (v48 : Value) (v49 : Value) (v50 : Value) (st : St) : Res (Value × St) := lpX J strict_reads_c.body [1, 1, 1, 1, 1, 0, 1, 0, 1, 0, 0, 1, 1, 1, 0, 0, 1, 0, 1, 0, 1] (envT [(3, v3), (7, v7), (10, v10), (11, v11), (12, v12), (40, v40), (41, v41), (42, v42), (48, v48), (49, v49), (50, v50)]) st
noncomputable def strict_reads_j5 (J : JT (Value × St)) (v3 : Value) (v7 : Value) (v10 : Value) (v11 : Value) (v12 : Value) (v40 : Value) (v41 : Value) (v42 : Value) (v48 : Value) (v49 : Value) (v50 : Value) (st : St) : Res (Value × St) := goX J strict_reads_c.body [1, 1, 1, 1, 1, 0, 1, 0, 1, 0, 0, 1, 1, 1, 0, 0, 1, 0, 1, 0, 1, 0, 0, 1, 1, 1] (envT [(3, v3), (7, v7), (10, v10), (11, v11), (12, v12), (40, v40), (41, v41), (42, v42), (48, v48), (49, v49), (50, v50)]) st
noncomputable def strict_reads_j6 (J : JT (Value × St)) (v3 : Value) (v7 : Value) (v10 : Value) (v11 : Value) (v12 : Value) (v40 : Value) (v41 : Value) (v42 : Value) (st : St) : Res (Value × St) := goX J strict_reads_c.body [1, 1, 1, 1, 1, 0, 1, 0, 1, 0, 0, 1, 1, 1, 0, 0, 1, 1, 1] (envT [(3, v3), (7, v7), (10, v10), (11, v11), (12, v12), (40, v40), (41, v41), (42, v42)]) st
noncomputable def strict_reads_l3 (J : JT (Value × St)) (v3 : Value) (v7 : Value) (v10 : Value) (v11 : Value) (v12 : Value) (v14 : Value) (v40 : Value) (v41 : Value) (v42 : Value) (v48 : Value) (v49 : Value) (v50 : Value) (v55 : Value) (v56 : Value) (v57 : Value) (st : St) : Res (Value × St) := lpX J strict_reads_c.body [1, 1, 1, 1, 1, 0, 1, 0, 1, 0, 0, 1, 1, 1, 0, 0, 1, 0, 1, 0, 1, 0, 0, 1, 1, 1, 0, 0, 1, 1, 0, 1] (envT [(3, v3), (7, v7), (10, v10), (11, v11), (12, v12), (14, v14), (40, v40), (41, v41), (42, v42), (48, v48), (49, v49), (50, v50), (55, v55), (56, v56), (57, v57)]) st
noncomputable def strict_reads_l4 (J : JT (Value × St)) (v3 : Value) (v7 : Value) (v10 : Value) (v11 : Value) (v12 : Value) (v40 : Value) (v41 : Value) (v42 : Value) (v84 : Value) (v85 : Value) (v86 : Value) (st : St) : Res (Value × St) := lpX J strict_reads_c.body [1, 1, 1, 1, 1, 0, 1, 0, 1, 0, 0, 1, 1, 1, 0, 0, 1, 1, 1, 0, 1, 0, 1] (envT [(3, v3), (7, v7), (10, v10), (11, v11), (12, v12), (40, v40), (41, v41), (42, v42), (84, v84), (85, v85), (86, v86)]) st
noncomputable def strict_reads_j7 (J : JT (Value × St)) (v3 : Value) (v7 : Value) (v10 : Value) (v11 : Value) (v12 : Value) (v14 : Value) (v40 : Value) (v41 : Value) (v42 : Value) (v48 : Value) (v49 : Value) (v50 : Value) (v55 : Value) (v56 : Value) (v57 : Value) (st : St) : Res (Value × St) := goX J strict_reads_c.body [1, 1, 1, 1, 1, 0, 1, 0, 1, 0, 0, 1, 1, 1, 0, 0, 1, 0, 1, 0, 1, 0, 0, 1, 1, 1, 0, 0, 1, 1, 0, 1, 0, 0, 1, 1, 1] (envT [(3, v3), (7, v7), (10, v10), (11, v11), (12, v12), (14, v14), (40, v40), (41, v41), (42, v42), (48, v48), (49, v49), (50, v50), (55, v55), (56, v56), (57, v57)]) st
noncomputable def strict_reads_j8 (J : JT (Value × St)) (v3 : Value) (v7 : Value) (v10 : Value) (v11 : Value) (v12 : Value) (v40 : Value) (v41 : Value) (v42 : Value) (v48 : Value) (v49 : Value) (v50 : Value) (st : St) : Res (Value × St) := goX J strict_reads_c.body [1, 1, 1, 1, 1, 0, 1, 0, 1, 0, 0, 1, 1, 1, 0, 0, 1, 0, 1, 0, 1, 0, 0, 1, 1, 1, 1, 1] (envT [(3, v3), (7, v7), (10, v10), (11, v11), (12, v12), (40, v40), (41, v41), (42, v42), (48, v48), (49, v49), (50, v50)]) st
noncomputable def strict_reads_j9 (J : JT (Value × St)) (v3 : Value) (v7 : Value) (v10 : Value) (v11 : Value) (v12 : Value) (v40 : Value) (v41 : Value) (v42 : Value) (v84 : Value) (v85 : Value) (v86 : Value) (st : St) : Res (Value × St) := goX J strict_reads_c.body [1, 1, 1, 1, 1, 0, 1, 0, 1, 0, 0, 1, 1, 1, 0, 0, 1, 1, 1, 0, 1, 0, 1, 0, 0, 1, 1, 1] (envT [(3, v3), (7, v7), (10, v10), (11, v11), (12, v12), (40, v40), (41, v41), (42, v42), (84, v84), (85, v85), (86, v86)]) st
noncomputable def strict_reads_j10 (J : JT (Value × St)) (v3 : Value) (v7 : Value) (v10 : Value) (v11 : Value) (v12 : Value) (v40 : Value) (v41 : Value) (v42 : Value) (st : St) : Res (Value × St) := goX J strict_reads_c.body [1, 1, 1, 1, 1, 0, 1, 0, 1, 0, 0, 1, 1, 1, 0, 0, 1, 1, 1, 1, 1] (envT [(3, v3), (7, v7), (10, v10), (11, v11), (12, v12), (40, v40), (41, v41), (42, v42)]) st
noncomputable def strict_reads_j11 (J : JT (Value × St)) (v3 : Value) (v7 : Value) (v10 : Value) (v11 : Value) (v12 : Value) (v14 : Value) (v40 : Value) (v41 : Value) (v42 : Value) (v48 : Value) (v49 : Value) (v50 : Value) (v55 : Value) (v56 : Value) (v57 : Value) (st : St) : Res (Value × St) := goX J strict_reads_c.body [1, 1, 1, 1, 1, 0, 1, 0, 1, 0, 0, 1, 1, 1, 0, 0, 1, 0, 1, 0, 1, 0, 0, 1, 1, 1, 0, 0, 1, 1, 0, 1, 0, 0, 1, 1, 1, 1, 1] (envT [(3, v3), (7, v7), (10, v10), (11, v11), (12, v12), (14, v14), (40, v40), (41, v41), (42, v42), (48, v48), (49, v49), (50, v50), (55, v55), (56, v56), (57, v57)]) st
noncomputable def strict_reads_l5 (J : JT (Value × St)) (v3 : Value) (v7 : Value) (v10 : Value) (v11 : Value) (v12 : Value) (v18 : Value) (v40 : Value) (v41 : Value) (v42 : Value) (v84 : Value) (v85 : Value) (v86 : Value) (v92 : Value) (v93 : Value) (v94 : Value) (st : St) : Res (Value × St) := lpX J strict_reads_c.body [1, 1, 1, 1, 1, 0, 1, 0, 1, 0, 0, 1, 1, 1, 0, 0, 1, 1, 1, 0, 1, 0, 1, 0, 0, 1, 1, 1, 0, 0, 1, 1, 0, 1] (envT [(3, v3), (7, v7), (10, v10), (11, v11), (12, v12), (18, v18), (40, v40), (41, v41), (42, v42), (84, v84), (85, v85), (86, v86), (92, v92), (93, v93), (94, v94)]) st
noncomputable def strict_reads_j12 (J : JT (Value × St)) (v3 : Value) (v7 : Value) (v10 : Value) (v40 : Value) (v41 : Value) (v42 : Value) (st : St) : Res (Value × St) := goX J strict_reads_c.body [1, 1, 1, 1, 1, 0, 1, 0, 1, 0, 0, 1, 1, 1, 1, 1] (envT [(3, v3), (7, v7), (10, v10), (40, v40), (41, v41), (42, v42)]) st
noncomputable def strict_reads_j13 (J : JT (Value × St)) (v3 : Value) (v7 : Value) (v10 : Value) (v11 : Value) (v12 : Value) (v18 : Value) (v40 : Value) (v41 : Value) (v42 : Value) (v84 : Value) (v85 : Value) (v86 : Value) (v92 : Value) (v93 : Value) (v94 : Value) (st : St) : Res (Value × St) := goX J strict_reads_c.body [1, 1, 1, 1, 1, 0, 1, 0, 1, 0, 0, 1, 1, 1, 0, 0, 1, 1, 1, 0, 1, 0, 1, 0, 0, 1, 1, 1, 0, 0, 1, 1, 0, 1, 0, 0, 1, 1, 1] (envT [(3, v3), (7, v7), (10, v10), (11, v11), (12, v12), (18, v18), (40, v40), (41, v41), (42, v42), (84, v84), (85, v85), (86, v86), (92, v92), (93, v93), (94, v94)]) st
noncomputable def strict_reads_j14 (J : JT (Value × St)) (v3 : Value) (v7 : Value) (v10 : Value) (v11 : Value) (v12 : Value) (v40 : Value) (v41 : Value) (v42 : Value) (v84 : Value) (v85 : Value) (v86 : Value) (st : St) : Res (Value × St) := goX J strict_reads_c.body [1, 1, 1, 1, 1, 0, 1, 0, 1, 0, 0, 1, 1, 1, 0, 0, 1, 1, 1, 0, 1, 0, 1, 0, 0, 1, 1, 1, 1, 1] (envT [(3, v3), (7, v7), (10, v10), (11, v11), (12, v12), (40, v40), (41, v41), (42, v42), (84, v84), (85, v85), (86, v86)]) st
noncomputable def strict_reads_j15 (J : JT (Value × St)) (v3 : Value) (v7 : Value) (v10 : Value) (v11 : Value) (v12 : Value) (v18 : Value) (v40 : Value) (v41 : Value) (v42 : Value) (v84 : Value) (v85 : Value) (v86 : Value) (v92 : Value) (v93 : Value) (v94 : Value) (st : St) : Res (Value × St) := goX J strict_reads_c.body [1, 1, 1, 1, 1, 0, 1, 0, 1, 0, 0, 1, 1, 1, 0, 0, 1, 1, 1, 0, 1, 0, 1, 0, 0, 1, 1, 1, 0, 0, 1, 1, 0, 1, 0, 0, 1, 1, 1, 1, 1] (envT [(3, v3), (7, v7), (10, v10), (11, v11), (12, v12), (18, v18), (40, v40), (41, v41), (42, v42), (84, v84), (85, v85), (86, v86), (92, v92), (93, v93), (94, v94)]) st
theorem strict_reads_eq (K : Ctx) (J : JT (Value × St)) (a0 a1 a2 : Value) (st : St) : atX K J strict_reads_c (AM.start [a0, a1, a2]) st =
  (.thn st (sLbox a0 st) fun p1 =>
  .thn p1.2 (sBox a1 p1.2) fun p2 =>
  .thn p2.2 (sBox a2 p2.2) fun p3 =>
  .thn p3.2 (sNewMap p3.2) fun p4 =>
  .thn p4.2 (sLref p1.1 p4.2) fun p5 =>
  .thn p5.2 (sField none 0 p1.1 p5.2) fun p6 =>
  .thn p6.2 (sLen .slice p6.1 p6.2) fun p7 =>
  strict_reads_l0 J p1.1 p2.1 p3.1 p4.1 p6.1 p7.1 (.int .i64 0) p7.2) := by kernel_rfl
theorem strict_reads_of {K : Ctx} (hF : Fix pgF K) {a0 a1 a2 : Value} {st : St} {Q : Value × St → Prop} (h : ∀ J, IsJ K (retK strict_reads_c.results) J → Ok (atX K J strict_reads_c (AM.start [a0, a1, a2]) st) Q) : Ok (K.go (.call n_strict_reads [a0, a1, a2]) st) Q := call_of hF strict_reads_is rfl h
theorem strict_reads_l0_eq (K : Ctx) (J : JT (Value × St)) (v3 : Value) (v4 : Value) (v5 : Value) (v7 : Value) (v26 : Value) (v27 : Value) (v28 : Value) (st : St) : inX K J (retK strict_reads_c.results) strict_reads_c.body [1, 1, 0, 1, 0, 1] (envT [(3, v3), (4, v4), (5, v5), (7, v7), (26, v26), (27, v27), (28, v28)]) st =
  (.thn st (sBin .lss v28 v27 st) fun p1 =>
  condX p1.1
  (strict_reads_j0 J v3 v4 v5 v7 v26 v27 v28 p1.2)
  (strict_reads_j1 J v3 v4 v5 v7 p1.2)) := by kernel_rfl
theorem strict_reads_l0_of {K : Ctx} (hF : Fix pgF K) {J : JT (Value × St)} (hJ : IsJ K (retK strict_reads_c.results) J) {v3 : Value} {v4 : Value} {v5 : Value} {v7 : Value} {v26 : Value} {v27 : Value} {v28 : Value} {st : St} {Q : Value × St → Prop} (h : Ok (inX K J (retK strict_reads_c.results) strict_reads_c.body [1, 1, 0, 1, 0, 1] (envT [(3, v3), (4, v4), (5, v5), (7, v7), (26, v26), (27, v27), (28, v28)]) st) Q) : Ok (strict_reads_l0 J v3 v4 v5 v7 v26 v27 v28 st) Q := loop_of hF hJ h
theorem strict_reads_j0_eq {K : Ctx} {J : JT (Value × St)} (hJ : IsJ K (retK strict_reads_c.results) J) (v3 : Value) (v4 : Value) (v5 : Value) (v7 : Value) (v26 : Value) (v27 : Value) (v28 : Value) (st : St) : strict_reads_j0 J v3 v4 v5 v7 v26 v27 v28 st =
  (.thn st (sIxA 7 none v26 v28 st) fun p1 =>
  .thn p1.2 (sLoad (some 7) p1.1 p1.2) fun p2 =>
  .thn p2.2 (sLnew [(.int .i64 0), (.slice none 0 0), (.slice none 0 0), (.int .u8 0), (.int .i64 0), (.int .i64 0), (.int .i64 0)] p2.2) fun p3 =>
  .thn p3.2 (sUpd 7 0 p3.1 p2.1 p3.2) fun p4 =>
  .thn p4.2 (sLref p4.1 p4.2) fun p5 =>
  .thn p5.2 (sField none 0 p4.1 p5.2) fun p6 =>
  .thn p6.2 (sMapSet (.cell .int) v7 p6.1 v28 p6.2) fun p7 =>
  strict_reads_j2 J v3 v4 v5 v7 v26 v27 v28 p7.2) := (go_eq hJ _ _ _ _).trans (by kernel_rfl)
theorem strict_reads_j1_eq {K : Ctx} {J : JT (Value × St)} (hJ : IsJ K (retK strict_reads_c.results) J) (v3 : Value) (v4 : Value) (v5 : Value) (v7 : Value) (st : St) : strict_reads_j1 J v3 v4 v5 v7 st =
  (.thn st (sLref v3 st) fun p1 =>
  .thn p1.2 (sField none 0 v3 p1.2) fun p2 =>
  .thn p2.2 (sLen .slice p2.1 p2.2) fun p3 =>
  strict_reads_l1 J v3 v7 (.func (.func n_strict_reads_1) #[] #[v4, v5]) p2.1 p3.1 (.int .i64 0) p3.2) := (go_eq hJ _ _ _ _).trans (by kernel_rfl)
theorem strict_reads_j2_eq {K : Ctx} {J : JT (Value × St)} (hJ : IsJ K (retK strict_reads_c.results) J) (v3 : Value) (v4 : Value) (v5 : Value) (v7 : Value) (v26 : Value) (v27 : Value) (v28 : Value) (st : St) : strict_reads_j2 J v3 v4 v5 v7 v26 v27 v28 st =
  (.thn st (sBin .add v28 (.int .i64 1) st) fun p1 =>
  strict_reads_l0 J v3 v4 v5 v7 v26 v27 p1.1 p1.2) := (go_eq hJ _ _ _ _).trans (by kernel_rfl)
theorem strict_reads_l1_eq (K : Ctx) (J : JT (Value × St)) (v3 : Value) (v7 : Value) (v10 : Value) (v40 : Value) (v41 : Value) (v42 : Value) (st : St) : inX K J (retK strict_reads_c.results) strict_reads_c.body [1, 1, 1, 1, 1, 0, 1, 0, 1] (envT [(3, v3), (7, v7), (10, v10), (40, v40), (41, v41), (42, v42)]) st =
  (.thn st (sBin .lss v42 v41 st) fun p1 =>
  condX p1.1
  (strict_reads_j3 J v3 v7 v10 v40 v41 v42 p1.2)
  (strict_reads_j4 J p1.2)) := by kernel_rfl
theorem strict_reads_l1_of {K : Ctx} (hF : Fix pgF K) {J : JT (Value × St)} (hJ : IsJ K (retK strict_reads_c.results) J) {v3 : Value} {v7 : Value} {v10 : Value} {v40 : Value} {v41 : Value} {v42 : Value} {st : St} {Q : Value × St → Prop} (h : Ok (inX K J (retK strict_reads_c.results) strict_reads_c.body [1, 1, 1, 1, 1, 0, 1, 0, 1] (envT [(3, v3), (7, v7), (10, v10), (40, v40), (41, v41), (42, v42)]) st) Q) : Ok (strict_reads_l1 J v3 v7 v10 v40 v41 v42 st) Q := loop_of hF hJ h
theorem strict_reads_j3_eq {K : Ctx} {J : JT (Value × St)} (hJ : IsJ K (retK strict_reads_c.results) J) (v3 : Value) (v7 : Value) (v10 : Value) (v40 : Value) (v41 : Value) (v42 : Value) (st : St) : strict_reads_j3 J v3 v7 v10 v40 v41 v42 st =
  (.thn st (sIxA 7 none v40 v42 st) fun p1 =>
  .thn p1.2 (sLoad (some 7) p1.1 p1.2) fun p2 =>
  .thn p2.2 (sLnew [(.int .i64 0), (.slice none 0 0), (.slice none 0 0), (.int .u8 0), (.int .i64 0), (.int .i64 0), (.int .i64 0)] p2.2) fun p3 =>
  .thn p3.2 (sUpd 7 0 p3.1 p2.1 p3.2) fun p4 =>
  .thn p4.2 (sLref p4.1 p4.2) fun p5 =>
  .thn p5.2 (sField none 1 p4.1 p5.2) fun p6 =>
  .thn p6.2 (sLen .slice p6.1 p6.2) fun p7 =>
  strict_reads_l2 J v3 v7 v10 v42 p4.1 v40 v41 v42 p6.1 p7.1 (.int .i64 0) p7.2) := (go_eq hJ _ _ _ _).trans (by kernel_rfl)
theorem strict_reads_j4_eq {K : Ctx} {J : JT (Value × St)} (hJ : IsJ K (retK strict_reads_c.results) J) (st : St) : strict_reads_j4 J st =
  (.ok ((.bool true), st)) := (go_eq hJ _ _ _ _).trans (by kernel_rfl)
theorem strict_reads_l2_eq (K : Ctx) (J : JT (Value × St)) (v3 : Value) (v7 : Value) (v10 : Value) (v11 : Value) (v12 : Value) (v40 : Value) (v41 : Value) (v42 : Value) (v48 : Value) (v49 : Value) (v50 : Value) (st : St) : inX K J (retK strict_reads_c.results) strict_reads_c.body [1, 1, 1, 1, 1, 0, 1, 0, 1, 0, 0, 1, 1, 1, 0, 0, 1, 0, 1, 0, 1] (envT [(3, v3), (7, v7), (10, v10), (11, v11), (12, v12), (40, v40), (41, v41), (42, v42), (48, v48), (49, v49), (50, v50)]) st =
  (.thn st (sBin .lss v50 v49 st) fun p1 =>
  condX p1.1
  (strict_reads_j5 J v3 v7 v10 v11 v12 v40 v41 v42 v48 v49 v50 p1.2)
  (strict_reads_j6 J v3 v7 v10 v11 v12 v40 v41 v42 p1.2)) := by kernel_rfl
theorem strict_reads_l2_of {K : Ctx} (hF : Fix pgF K) {J : JT (Value × St)} (hJ : IsJ K (retK strict_reads_c.results) J) {v3 : Value} {v7 : Value} {v10 : Value} {v11 : Value} {v12 : Value} {v40 : Value} {v41 : Value} {v42 : Value} {v48 : Value} {v49 : Value} {v50 : Value} {st : St} {Q : Value × St → Prop} (h : Ok (inX K J (retK strict_reads_c.results) strict_reads_c.body [1, 1, 1, 1, 1, 0, 1, 0, 1, 0, 0, 1, 1, 1, 0, 0, 1, 0, 1, 0, 1] (envT [(3, v3), (7, v7), (10, v10), (11, v11), (12, v12), (40, v40), (41, v41), (42, v42), (48, v48), (49, v49), (50, v50)]) st) Q) : Ok (strict_reads_l2 J v3 v7 v10 v11 v12 v40 v41 v42 v48 v49 v50 st) Q := loop_of hF hJ h
theorem strict_reads_j5_eq {K : Ctx} {J : JT (Value × St)} (hJ : IsJ K (retK strict_reads_c.results) J) (v3 : Value) (v7 : Value) (v10 : Value) (v11 : Value) (v12 : Value) (v40 : Value) (v41 : Value) (v42 : Value) (v48 : Value) (v49 : Value) (v50 : Value) (st : St) : strict_reads_j5 J v3 v7 v10 v11 v12 v40 v41 v42 v48 v49 v50 st =
  (.thn st (sIxA 3 none v48 v50 st) fun p1 =>
  .thn p1.2 (sLoad (some 3) p1.1 p1.2) fun p2 =>
  .thn p2.2 (sLnew [(.int .i64 0), (.slice none 0 0), (.slice none 0 0)] p2.2) fun p3 =>
  .thn p3.2 (sUpd 3 0 p3.1 p2.1 p3.2) fun p4 =>
  .thn p4.2 (sLref p4.1 p4.2) fun p5 =>
  .thn p5.2 (sField none 2 p4.1 p5.2) fun p6 =>
  .thn p6.2 (sLen .slice p6.1 p6.2) fun p7 =>
  strict_reads_l3 J v3 v7 v10 v11 v12 p4.1 v40 v41 v42 v48 v49 v50 p6.1 p7.1 (.int .i64 0) p7.2) := (go_eq hJ _ _ _ _).trans (by kernel_rfl)
theorem strict_reads_j6_eq {K : Ctx} {J : JT (Value × St)} (hJ : IsJ K (retK strict_reads_c.results) J) (v3 : Value) (v7 : Value) (v10 : Value) (v11 : Value) (v12 : Value) (v40 : Value) (v41 : Value) (v42 : Value) (st : St) : strict_reads_j6 J v3 v7 v10 v11 v12 v40 v41 v42 st =
  (.thn st (sLref v12 st) fun p1 =>
  .thn p1.2 (sField none 2 v12 p1.2) fun p2 =>
  .thn p2.2 (sLen .slice p2.1 p2.2) fun p3 =>
  strict_reads_l4 J v3 v7 v10 v11 v12 v40 v41 v42 p2.1 p3.1 (.int .i64 0) p3.2) := (go_eq hJ _ _ _ _).trans (by kernel_rfl)
theorem strict_reads_l3_eq (K : Ctx) (J : JT (Value × St)) (v3 : Value) (v7 : Value) (v10 : Value) (v11 : Value) (v12 : Value) (v14 : Value) (v40 : Value) (v41 : Value) (v42 : Value) (v48 : Value) (v49 : Value) (v50 : Value) (v55 : Value) (v56 : Value) (v57 : Value) (st : St) : inX K J (retK strict_reads_c.results) strict_reads_c.body [1, 1, 1, 1, 1, 0, 1, 0, 1, 0, 0, 1, 1, 1, 0, 0, 1, 0, 1, 0, 1, 0, 0, 1, 1, 1, 0, 0, 1, 1, 0, 1] (envT [(3, v3), (7, v7), (10, v10), (11, v11), (12, v12), (14, v14), (40, v40), (41, v41), (42, v42), (48, v48), (49, v49), (50, v50), (55, v55), (56, v56), (57, v57)]) st =
  (.thn st (sBin .lss v57 v56 st) fun p1 =>
  condX p1.1
  (strict_reads_j7 J v3 v7 v10 v11 v12 v14 v40 v41 v42 v48 v49 v50 v55 v56 v57 p1.2)
  (strict_reads_j8 J v3 v7 v10 v11 v12 v40 v41 v42 v48 v49 v50 p1.2)) := by kernel_rfl
theorem strict_reads_l3_of {K : Ctx} (hF : Fix pgF K) {J : JT (Value × St)} (hJ : IsJ K (retK strict_reads_c.results) J) {v3 : Value} {v7 : Value} {v10 : Value} {v11 : Value} {v12 : Value} {v14 : Value} {v40 : Value} {v41 : Value} {v42 : Value} {v48 : Value} {v49 : Value} {v50 : Value} {v55 : Value} {v56 : Value} {v57 : Value} {st : St} {Q : Value × St → Prop} (h : Ok (inX K J (retK strict_reads_c.results) strict_reads_c.body [1, 1, 1, 1, 1, 0, 1, 0, 1, 0, 0, 1, 1, 1, 0, 0, 1, 0, 1, 0, 1, 0, 0, 1, 1, 1, 0, 0, 1, 1, 0, 1] (envT [(3, v3), (7, v7), (10, v10), (11, v11), (12, v12), (14, v14), (40, v40), (41, v41), (42, v42), (48, v48), (49, v49), (50, v50), (55, v55), (56, v56), (57, v57)]) st) Q) : Ok (strict_reads_l3 J v3 v7 v10 v11 v12 v14 v40 v41 v42 v48 v49 v50 v55 v56 v57 st) Q := loop_of hF hJ h
theorem strict_reads_l4_eq (K : Ctx) (J : JT (Value × St)) (v3 : Value) (v7 : Value) (v10 : Value) (v11 : Value) (v12 : Value) (v40 : Value) (v41 : Value) (v42 : Value) (v84 : Value) (v85 : Value) (v86 : Value) (st : St) : inX K J (retK strict_reads_c.results) strict_reads_c.body [1, 1, 1, 1, 1, 0, 1, 0, 1, 0, 0, 1, 1, 1, 0, 0, 1, 1, 1, 0, 1, 0, 1] (envT [(3, v3), (7, v7), (10, v10), (11, v11), (12, v12), (40, v40), (41, v41), (42, v42), (84, v84), (85, v85), (86, v86)]) st =
  (.thn st (sBin .lss v86 v85 st) fun p1 =>
  condX p1.1
  (strict_reads_j9 J v3 v7 v10 v11 v12 v40 v41 v42 v84 v85 v86 p1.2)
  (strict_reads_j10 J v3 v7 v10 v11 v12 v40 v41 v42 p1.2)) := by kernel_rfl
theorem strict_reads_l4_of {K : Ctx} (hF : Fix pgF K) {J : JT (Value × St)} (hJ : IsJ K (retK strict_reads_c.results) J) {v3 : Value} {v7 : Value} {v10 : Value} {v11 : Value} {v12 : Value} {v40 : Value} {v41 : Value} {v42 : Value} {v84 : Value} {v85 : Value} {v86 : Value} {st : St} {Q : Value × St → Prop} (h : Ok (inX K J (retK strict_reads_c.results) strict_reads_c.body [1, 1, 1, 1, 1, 0, 1, 0, 1, 0, 0, 1, 1, 1, 0, 0, 1, 1, 1, 0, 1, 0, 1] (envT [(3, v3), (7, v7), (10, v10), (11, v11), (12, v12), (40, v40), (41, v41), (42, v42), (84, v84), (85, v85), (86, v86)]) st) Q) : Ok (strict_reads_l4 J v3 v7 v10 v11 v12 v40 v41 v42 v84 v85 v86 st) Q := loop_of hF hJ h
theorem strict_reads_j7_eq {K : Ctx} {J : JT (Value × St)} (hJ : IsJ K (retK strict_reads_c.results) J) (v3 : Value) (v7 : Value) (v10 : Value) (v11 : Value) (v12 : Value) (v14 : Value) (v40 : Value) (v41 : Value) (v42 : Value) (v48 : Value) (v49 : Value) (v50 : Value) (v55 : Value) (v56 : Value) (v57 : Value) (st : St) : strict_reads_j7 J v3 v7 v10 v11 v12 v14 v40 v41 v42 v48 v49 v50 v55 v56 v57 st =
  (.thn st (sIxA 1 none v55 v57 st) fun p1 =>
  .thn p1.2 (sLoad none p1.1 p1.2) fun p2 =>
  .thn p2.2 (sLref v14 p2.2) fun p3 =>
  .thn p3.2 (sField none 1 v14 p3.2) fun p4 =>
  .thn p4.2 (sIxA 1 none p4.1 v57 p4.2) fun p5 =>
  .thn p5.2 (sLoad none p5.1 p5.2) fun p6 =>
  .thn p6.2 (sLook (.cell .int) (.int .i64 0) false v7 p6.1 p6.2) fun p7 =>
  .thn p7.2 (sLref v3 p7.2) fun p8 =>
  .thn p8.2 (sField none 0 v3 p8.2) fun p9 =>
  .thn p9.2 (sIxA 7 none p9.1 p7.1 p9.2) fun p10 =>
  .thn p10.2 (sOff 2 p10.1 p10.2) fun p11 =>
  .thn p11.2 (sLoad none p11.1 p11.2) fun p12 =>
  .thn p12.2 (sLen .slice p12.1 p12.2) fun p13 =>
  .thn p13.2 (sCall K v10 [p2.1, p7.1, p13.1] p13.2) fun p14 =>
  .thn p14.2 (sUn .not p14.1 p14.2) fun p15 =>
  condX p15.1
  (.ok ((.bool false), p15.2))
  (strict_reads_j11 J v3 v7 v10 v11 v12 v14 v40 v41 v42 v48 v49 v50 v55 v56 v57 p15.2)) := (go_eq hJ _ _ _ _).trans (by kernel_rfl)
theorem strict_reads_j8_eq {K : Ctx} {J : JT (Value × St)} (hJ : IsJ K (retK strict_reads_c.results) J) (v3 : Value) (v7 : Value) (v10 : Value) (v11 : Value) (v12 : Value) (v40 : Value) (v41 : Value) (v42 : Value) (v48 : Value) (v49 : Value) (v50 : Value) (st : St) : strict_reads_j8 J v3 v7 v10 v11 v12 v40 v41 v42 v48 v49 v50 st =
  (.thn st (sBin .add v50 (.int .i64 1) st) fun p1 =>
  strict_reads_l2 J v3 v7 v10 v11 v12 v40 v41 v42 v48 v49 p1.1 p1.2) := (go_eq hJ _ _ _ _).trans (by kernel_rfl)
theorem strict_reads_j9_eq {K : Ctx} {J : JT (Value × St)} (hJ : IsJ K (retK strict_reads_c.results) J) (v3 : Value) (v7 : Value) (v10 : Value) (v11 : Value) (v12 : Value) (v40 : Value) (v41 : Value) (v42 : Value) (v84 : Value) (v85 : Value) (v86 : Value) (st : St) : strict_reads_j9 J v3 v7 v10 v11 v12 v40 v41 v42 v84 v85 v86 st =
  (.thn st (sIxA 7 none v84 v86 st) fun p1 =>
  .thn p1.2 (sLoad (some 7) p1.1 p1.2) fun p2 =>
  .thn p2.2 (sLnew [(.int .u8 0), (.int .u8 0), (.int .i64 0), (.int .i64 0), (.int .i64 0), (.int .i64 0), (.int .i64 0)] p2.2) fun p3 =>
  .thn p3.2 (sUpd 7 0 p3.1 p2.1 p3.2) fun p4 =>
  .thn p4.2 (sField (some 7) 0 p4.1 p4.2) fun p5 =>
  .thn p5.2 (K.go (.call n_ir_Instr_Reads [p5.1]) p5.2) fun p6 =>
  .thn p6.2 (sLen .slice p6.1 p6.2) fun p7 =>
  strict_reads_l5 J v3 v7 v10 v11 v12 v86 v40 v41 v42 v84 v85 v86 p6.1 p7.1 (.int .i64 0) p7.2) := (go_eq hJ _ _ _ _).trans (by kernel_rfl)
theorem strict_reads_j10_eq {K : Ctx} {J : JT (Value × St)} (hJ : IsJ K (retK strict_reads_c.results) J) (v3 : Value) (v7 : Value) (v10 : Value) (v11 : Value) (v12 : Value) (v40 : Value) (v41 : Value) (v42 : Value) (st : St) : strict_reads_j10 J v3 v7 v10 v11 v12 v40 v41 v42 st =
  (.thn st (sLref v12 st) fun p1 =>
  .thn p1.2 (sField (some 4) 3 v12 p1.2) fun p2 =>
  .thn p2.2 (K.go (.call n_ir_Last_Reads [p2.1]) p2.2) fun p3 =>
  .thn p3.2 (sExtract p3.1 0 p3.2) fun p4 =>
  .thn p4.2 (sExtract p3.1 1 p4.2) fun p5 =>
  .thn p5.2 (sG p5.1 true (.ok (v10, p5.2)) p5.2) fun p6 =>
  .thn p6.2 (sG p5.1 true (.ok (p4.1, p6.2)) p6.2) fun p7 =>
  .thn p7.2 (sG p5.1 true (.ok (v11, p7.2)) p7.2) fun p8 =>
  .thn p8.2 (sG p5.1 true (sLref v12 p8.2) p8.2) fun p9 =>
  .thn p9.2 (sG p5.1 true (sField none 2 v12 p9.2) p9.2) fun p10 =>
  .thn p10.2 (sG p5.1 true (sLen .slice p10.1 p10.2) p10.2) fun p11 =>
  .thn p11.2 (sG p5.1 true (sCall K p6.1 [p7.1, p8.1, p11.1] p11.2) p11.2) fun p12 =>
  .thn p12.2 (sG p5.1 true (sUn .not p12.1 p12.2) p12.2) fun p13 =>
  .thn p13.2 (sPick p5.1 p13.1 (.bool false) p13.2) fun p14 =>
  condX p14.1
  (.ok ((.bool false), p14.2))
  (strict_reads_j12 J v3 v7 v10 v40 v41 v42 p14.2)) := (go_eq hJ _ _ _ _).trans (by kernel_rfl)
theorem strict_reads_j11_eq {K : Ctx} {J : JT (Value × St)} (hJ : IsJ K (retK strict_reads_c.results) J) (v3 : Value) (v7 : Value) (v10 : Value) (v11 : Value) (v12 : Value) (v14 : Value) (v40 : Value) (v41 : Value) (v42 : Value) (v48 : Value) (v49 : Value) (v50 : Value) (v55 : Value) (v56 : Value) (v57 : Value) (st : St) : strict_reads_j11 J v3 v7 v10 v11 v12 v14 v40 v41 v42 v48 v49 v50 v55 v56 v57 st =
  (.thn st (sBin .add v57 (.int .i64 1) st) fun p1 =>
  strict_reads_l3 J v3 v7 v10 v11 v12 v14 v40 v41 v42 v48 v49 v50 v55 v56 p1.1 p1.2) := (go_eq hJ _ _ _ _).trans (by kernel_rfl)
theorem strict_reads_l5_eq (K : Ctx) (J : JT (Value × St)) (v3 : Value) (v7 : Value) (v10 : Value) (v11 : Value) (v12 : Value) (v18 : Value) (v40 : Value) (v41 : Value) (v42 : Value) (v84 : Value) (v85 : Value) (v86 : Value) (v92 : Value) (v93 : Value) (v94 : Value) (st : St) : inX K J (retK strict_reads_c.results) strict_reads_c.body [1, 1, 1, 1, 1, 0, 1, 0, 1, 0, 0, 1, 1, 1, 0, 0, 1, 1, 1, 0, 1, 0, 1, 0, 0, 1, 1, 1, 0, 0, 1, 1, 0, 1] (envT [(3, v3), (7, v7), (10, v10), (11, v11), (12, v12), (18, v18), (40, v40), (41, v41), (42, v42), (84, v84), (85, v85), (86, v86), (92, v92), (93, v93), (94, v94)]) st =
  (.thn st (sBin .lss v94 v93 st) fun p1 =>
  condX p1.1
  (strict_reads_j13 J v3 v7 v10 v11 v12 v18 v40 v41 v42 v84 v85 v86 v92 v93 v94 p1.2)
  (strict_reads_j14 J v3 v7 v10 v11 v12 v40 v41 v42 v84 v85 v86 p1.2)) := by kernel_rfl
theorem strict_reads_l5_of {K : Ctx} (hF : Fix pgF K) {J : JT (Value × St)} (hJ : IsJ K (retK strict_reads_c.results) J) {v3 : Value} {v7 : Value} {v10 : Value} {v11 : Value} {v12 : Value} {v18 : Value} {v40 : Value} {v41 : Value} {v42 : Value} {v84 : Value} {v85 : Value} {v86 : Value} {v92 : Value} {v93 : Value} {v94 : Value} {st : St} {Q : Value × St → Prop} (h : Ok (inX K J (retK strict_reads_c.results) strict_reads_c.body [1, 1, 1, 1, 1, 0, 1, 0, 1, 0, 0, 1, 1, 1, 0, 0, 1, 1, 1, 0, 1, 0, 1, 0, 0, 1, 1, 1, 0, 0, 1, 1, 0, 1] (envT [(3, v3), (7, v7), (10, v10), (11, v11), (12, v12), (18, v18), (40, v40), (41, v41), (42, v42), (84, v84), (85, v85), (86, v86), (92, v92), (93, v93), (94, v94)]) st) Q) : Ok (strict_reads_l5 J v3 v7 v10 v11 v12 v18 v40 v41 v42 v84 v85 v86 v92 v93 v94 st) Q := loop_of hF hJ h
theorem strict_reads_j12_eq {K : Ctx} {J : JT (Value × St)} (hJ : IsJ K (retK strict_reads_c.results) J) (v3 : Value) (v7 : Value) (v10 : Value) (v40 : Value) (v41 : Value) (v42 : Value) (st : St) : strict_reads_j12 J v3 v7 v10 v40 v41 v42 st =
  (.thn st (sBin .add v42 (.int .i64 1) st) fun p1 =>
  strict_reads_l1 J v3 v7 v10 v40 v41 p1.1 p1.2) := (go_eq hJ _ _ _ _).trans (by kernel_rfl)
theorem strict_reads_j13_eq {K : Ctx} {J : JT (Value × St)} (hJ : IsJ K (retK strict_reads_c.results) J) (v3 : Value) (v7 : Value) (v10 : Value) (v11 : Value) (v12 : Value) (v18 : Value) (v40 : Value) (v41 : Value) (v42 : Value) (v84 : Value) (v85 : Value) (v86 : Value) (v92 : Value) (v93 : Value) (v94 : Value) (st : St) : strict_reads_j13 J v3 v7 v10 v11 v12 v18 v40 v41 v42 v84 v85 v86 v92 v93 v94 st =
  (.thn st (sIxA 1 none v92 v94 st) fun p1 =>
  .thn p1.2 (sLoad none p1.1 p1.2) fun p2 =>
  .thn p2.2 (sCall K v10 [p2.1, v11, v18] p2.2) fun p3 =>
  .thn p3.2 (sUn .not p3.1 p3.2) fun p4 =>
  condX p4.1
  (.ok ((.bool false), p4.2))
  (strict_reads_j15 J v3 v7 v10 v11 v12 v18 v40 v41 v42 v84 v85 v86 v92 v93 v94 p4.2)) := (go_eq hJ _ _ _ _).trans (by kernel_rfl)
theorem strict_reads_j14_eq {K : Ctx} {J : JT (Value × St)} (hJ : IsJ K (retK strict_reads_c.results) J) (v3 : Value) (v7 : Value) (v10 : Value) (v11 : Value) (v12 : Value) (v40 : Value) (v41 : Value) (v42 : Value) (v84 : Value) (v85 : Value) (v86 : Value) (st : St) : strict_reads_j14 J v3 v7 v10 v11 v12 v40 v41 v42 v84 v85 v86 st =
  (.thn st (sBin .add v86 (.int .i64 1) st) fun p1 =>
  strict_reads_l4 J v3 v7 v10 v11 v12 v40 v41 v42 v84 v85 p1.1 p1.2) := (go_eq hJ _ _ _ _).trans (by kernel_rfl)
theorem strict_reads_j15_eq {K : Ctx} {J : JT (Value × St)} (hJ : IsJ K (retK strict_reads_c.results) J) (v3 : Value) (v7 : Value) (v10 : Value) (v11 : Value) (v12 : Value) (v18 : Value) (v40 : Value) (v41 : Value) (v42 : Value) (v84 : Value) (v85 : Value) (v86 : Value) (v92 : Value) (v93 : Value) (v94 : Value) (st : St) : strict_reads_j15 J v3 v7 v10 v11 v12 v18 v40 v41 v42 v84 v85 v86 v92 v93 v94 st =
  (.thn st (sBin .add v94 (.int .i64 1) st) fun p1 =>
  strict_reads_l5 J v3 v7 v10 v11 v12 v18 v40 v41 v42 v84 v85 v86 v92 v93 p1.1 p1.2) := (go_eq hJ _ _ _ _).trans (by kernel_rfl)

/-! ### slices.Index[[]bool,bool] -/
open C in
noncomputable def slices_Index_bool_c : AFun := ⟨19, [.tmp 4],
 (s (.ops [o 4 (.mv (c (i 0)))])
 (s (s (.ops [o 6 (.mv (t 0)), o 7 (.len .slice (t 6)), o 8 (.mv (c (i 0)))])
 (.block 0 (s (.keep [0, 1, 7, 8])
 (.loop (s (s (.ops [o 9 (.bin .lss (t 8) (t 7))])
 (s (.cond (t 9) .skip (.exit 0))
 (s (.keep [0, 1, 7, 8])
 (s (.block 1 (s (.ops [o 10 (.mv (t 8)), o 5 (.mv (t 10))])
 (s (.ops [o 11 (.mv (t 1)), o 12 (.mv (t 0)), o 13 (.mv (t 5)), o 14 (.ixA 1 none (t 12) (t 13)), o 15 (.load none (t 14)), o 16 (.eq false .bools (t 11) (t 15))])
 (.cond (t 16) (s (.ops [o 17 (.mv (t 5)), o 4 (.mv (t 17))])
 .ret) .skip))))
 (s (.keep [0, 1, 7, 8])
 (.ops [o 18 (.bin .add (t 8) (c (i 1))), o 8 (.mv (t 18))]))))))
 (.keep [0, 1, 7, 8]))))))
 (s (.keep [])
 (s (.ops [o 4 (.mv (c (i (-1))))])
 .ret))))⟩
theorem slices_Index_bool_is : pgF n_slices_Index_bool = some slices_Index_bool_c := by kernel_rfl
noncomputable def slices_Index_bool_l0 (J : JT (Value × St)) (v0 : Value) (v1 : Value) (v7 : Value) (v8 : Value) (st : St) : Res (Value × St) := lpX J slices_Index_bool_c.body [1, 0, 1, 0, 1] (envT [(0, v0), (1, v1), (7, v7), (8, v8)]) st
noncomputable def slices_Index_bool_j0 (J : JT (Value × St)) (v0 : Value) (v1 : Value) (v7 : Value) (v8 : Value) (st : St) : Res (Value × St) := goX J slices_Index_bool_c.body [1, 0, 1, 0, 1, 0, 0, 1, 1, 1] (envT [(0, v0), (1, v1), (7, v7), (8, v8)]) st
noncomputable def slices_Index_bool_j1 (J : JT (Value × St)) (st : St) : Res (Value × St) := goX J slices_Index_bool_c.body [1, 1, 1] (envT []) st
noncomputable def slices_Index_bool_j2 (J : JT (Value × St)) (v0 : Value) (v1 : Value) (v7 : Value) (v8 : Value) (st : St) : Res (Value × St) := goX J slices_Index_bool_c.body [1, 0, 1, 0, 1, 0, 0, 1, 1, 1, 1, 1] (envT [(0, v0), (1, v1), (7, v7), (8, v8)]) st
theorem slices_Index_bool_eq (K : Ctx) (J : JT (Value × St)) (a0 a1 : Value) (st : St) : atX K J slices_Index_bool_c (AM.start [a0, a1]) st =
  (.thn st (sLen .slice a0 st) fun p1 =>
  slices_Index_bool_l0 J a0 a1 p1.1 (.int .i64 0) p1.2) := by kernel_rfl
theorem slices_Index_bool_of {K : Ctx} (hF : Fix pgF K) {a0 a1 : Value} {st : St} {Q : Value × St → Prop} (h : ∀ J, IsJ K (retK slices_Index_bool_c.results) J → Ok (atX K J slices_Index_bool_c (AM.start [a0, a1]) st) Q) : Ok (K.go (.call n_slices_Index_bool [a0, a1]) st) Q := call_of hF slices_Index_bool_is rfl h
theorem slices_Index_bool_l0_eq (K : Ctx) (J : JT (Value × St)) (v0 : Value) (v1 : Value) (v7 : Value) (v8 : Value) (st : St) : inX K J (retK slices_Index_bool_c.results) slices_Index_bool_c.body [1, 0, 1, 0, 1] (envT [(0, v0), (1, v1), (7, v7), (8, v8)]) st =
  (.thn st (sBin .lss v8 v7 st) fun p1 =>
  condX p1.1
  (slices_Index_bool_j0 J v0 v1 v7 v8 p1.2)
  (slices_Index_bool_j1 J p1.2)) := by kernel_rfl
theorem slices_Index_bool_l0_of {K : Ctx} (hF : Fix pgF K) {J : JT (Value × St)} (hJ : IsJ K (retK slices_Index_bool_c.results) J) {v0 : Value} {v1 : Value} {v7 : Value} {v8 : Value} {st : St} {Q : Value × St → Prop} (h : Ok (inX K J (retK slices_Index_bool_c.results) slices_Index_bool_c.body [1, 0, 1, 0, 1] (envT [(0, v0), (1, v1), (7, v7), (8, v8)]) st) Q) : Ok (slices_Index_bool_l0 J v0 v1 v7 v8 st) Q := loop_of hF hJ h
theorem slices_Index_bool_j0_eq {K : Ctx} {J : JT (Value × St)} (hJ : IsJ K (retK slices_Index_bool_c.results) J) (v0 : Value) (v1 : Value) (v7 : Value) (v8 : Value) (st : St) : slices_Index_bool_j0 J v0 v1 v7 v8 st =
  (.thn st (sIxA 1 none v0 v8 st) fun p1 =>
  .thn p1.2 (sLoad none p1.1 p1.2) fun p2 =>
  .thn p2.2 (sEq false .bools v1 p2.1 p2.2) fun p3 =>
  condX p3.1
  (.ok (v8, p3.2))
  (slices_Index_bool_j2 J v0 v1 v7 v8 p3.2)) := (go_eq hJ _ _ _ _).trans (by kernel_rfl)
theorem slices_Index_bool_j1_eq {K : Ctx} {J : JT (Value × St)} (hJ : IsJ K (retK slices_Index_bool_c.results) J) (st : St) : slices_Index_bool_j1 J st =
  (.ok ((.int .i64 (-1)), st)) := (go_eq hJ _ _ _ _).trans (by kernel_rfl)
theorem slices_Index_bool_j2_eq {K : Ctx} {J : JT (Value × St)} (hJ : IsJ K (retK slices_Index_bool_c.results) J) (v0 : Value) (v1 : Value) (v7 : Value) (v8 : Value) (st : St) : slices_Index_bool_j2 J v0 v1 v7 v8 st =
  (.thn st (sBin .add v8 (.int .i64 1) st) fun p1 =>
  slices_Index_bool_l0 J v0 v1 v7 p1.1 p1.2) := (go_eq hJ _ _ _ _).trans (by kernel_rfl)

/-! ### (refinery/graph.Graph).walk -/
open C in
noncomputable def graph_Graph_walk_c : AFun := ⟨5, [],
 (s (.ops [o 5 (.lbox (t 0))])
 (s (.ops [o 12 (.mv (t 2)), o 13 (.mv (t 1)), o 14 (.ixA 1 none (t 12) (t 13)), n (.store 1 (t 14) (c (.bool true)))])
 (s (.ops [o 15 (.mv (t 3)), o 16 (.mv (t 1)), o 17 (.call (t 15) [(t 16)])])
 (s (s (.ops [o 18 (.lref (t 5)), o 19 (.field none 0 (t 5)), o 20 (.mv (t 1)), o 21 (.ixA 1 none (t 19) (t 20)), o 22 (.load none (t 21)), o 23 (.len .slice (t 22)), o 24 (.mv (c (i 0)))])
 (.block 0 (s (.keep [1, 2, 3, 4, 5, 22, 23, 24])
 (.loop (s (s (.ops [o 25 (.bin .lss (t 24) (t 23))])
 (s (.cond (t 25) .skip (.exit 0))
 (s (.keep [1, 2, 3, 4, 5, 22, 23, 24])
 (s (.block 1 (s (.ops [o 26 (.ixA 1 none (t 22) (t 24)), o 27 (.load none (t 26)), o 11 (.mv (t 27))])
 (s (.ops [o 28 (.mv (t 2)), o 29 (.mv (t 11)), o 30 (.ixA 1 none (t 28) (t 29)), o 31 (.load none (t 30)), o 32 (.un .not (t 31))])
 (.cond (t 32) (.ops [o 33 (.field (some 2) 0 (t 5)), o 34 (.mv (t 11)), o 35 (.mv (t 2)), o 36 (.mv (t 3)), o 37 (.mv (t 4)), o 38 (.call (f 56) [(t 33), (t 34), (t 35), (t 36), (t 37)])]) .skip))))
 (s (.keep [1, 2, 3, 4, 5, 22, 23, 24])
 (.ops [o 39 (.bin .add (t 24) (c (i 1))), o 24 (.mv (t 39))]))))))
 (.keep [1, 2, 3, 4, 5, 22, 23, 24]))))))
 (s (.keep [1, 4])
 (.ops [o 40 (.mv (t 4)), o 41 (.mv (t 1)), o 42 (.call (t 40) [(t 41)])]))))))⟩
theorem graph_Graph_walk_is : pgF n_graph_Graph_walk = some graph_Graph_walk_c := by kernel_rfl
noncomputable def graph_Graph_walk_l0 (J : JT (Value × St)) (v1 : Value) (v2 : Value) (v3 : Value) (v4 : Value) (v5 : Value) (v22 : Value) (v23 : Value) (v24 : Value) (st : St) : Res (Value × St) := lpX J graph_Graph_walk_c.body [1, 1, 1, 0, 1, 0, 1] (envT [(1, v1), (2, v2), (3, v3), (4, v4), (5, v5), (22, v22), (23, v23), (24, v24)]) st
noncomputable def graph_Graph_walk_j0 (J : JT (Value × St)) (v1 : Value) (v2 : Value) (v3 : Value) (v4 : Value) (v5 : Value) (v22 : Value) (v23 : Value) (v24 : Value) (st : St) : Res (Value × St) := goX J graph_Graph_walk_c.body [1, 1, 1, 0, 1, 0, 1, 0, 0, 1, 1, 1] (envT [(1, v1), (2, v2), (3, v3), (4, v4), (5, v5), (22, v22), (23, v23), (24, v24)]) st
noncomputable def graph_Graph_walk_j1 (J : JT (Value × St)) (v1 : Value) (v4 : Value) (st : St) : Res (Value × St) := goX J graph_Graph_walk_c.body [1, 1, 1, 1, 1] (envT [(1, v1), (4, v4)]) st
noncomputable def graph_Graph_walk_j2 (J : JT (Value × St)) (v1 : Value) (v2 : Value) (v3 : Value) (v4 : Value) (v5 : Value) (v22 : Value) (v23 : Value) (v24 : Value) (st : St) : Res (Value × St) := goX J graph_Graph_walk_c.body [1, 1, 1, 0, 1, 0, 1, 0, 0, 1, 1, 1, 1, 1] (envT [(1, v1), (2, v2), (3, v3), (4, v4), (5, v5), (22, v22), (23, v23), (24, v24)]) st
theorem graph_Graph_walk_eq (K : Ctx) (J : JT (Value × St)) (a0 a1 a2 a3 a4 : Value) (st : St) : atX K J graph_Graph_walk_c (AM.start [a0, a1, a2, a3, a4]) st =
  (.thn st (sLbox a0 st) fun p1 =>
  .thn p1.2 (sIxA 1 none a2 a1 p1.2) fun p2 =>
  .thn p2.2 (sStore 1 p2.1 (.bool true) p2.2) fun p3 =>
  .thn p3.2 (sCall K a3 [a1] p3.2) fun p4 =>
  .thn p4.2 (sLref p1.1 p4.2) fun p5 =>
  .thn p5.2 (sField none 0 p1.1 p5.2) fun p6 =>
  .thn p6.2 (sIxA 1 none p6.1 a1 p6.2) fun p7 =>
  .thn p7.2 (sLoad none p7.1 p7.2) fun p8 =>
  .thn p8.2 (sLen .slice p8.1 p8.2) fun p9 =>
  graph_Graph_walk_l0 J a1 a2 a3 a4 p1.1 p8.1 p9.1 (.int .i64 0) p9.2) := by kernel_rfl
theorem graph_Graph_walk_of {K : Ctx} (hF : Fix pgF K) {a0 a1 a2 a3 a4 : Value} {st : St} {Q : Value × St → Prop} (h : ∀ J, IsJ K (retK graph_Graph_walk_c.results) J → Ok (atX K J graph_Graph_walk_c (AM.start [a0, a1, a2, a3, a4]) st) Q) : Ok (K.go (.call n_graph_Graph_walk [a0, a1, a2, a3, a4]) st) Q := call_of hF graph_Graph_walk_is rfl h
theorem graph_Graph_walk_l0_eq (K : Ctx) (J : JT (Value × St)) (v1 : Value) (v2 : Value) (v3 : Value) (v4 : Value) (v5 : Value) (v22 : Value) (v23 : Value) (v24 : Value) (st : St) : inX K J (retK graph_Graph_walk_c.results) graph_Graph_walk_c.body [1, 1, 1, 0, 1, 0, 1] (envT [(1, v1), (2, v2), (3, v3), (4, v4), (5, v5), (22, v22), (23, v23), (24, v24)]) st =
  (.thn st (sBin .lss v24 v23 st) fun p1 =>
  condX p1.1
  (graph_Graph_walk_j0 J v1 v2 v3 v4 v5 v22 v23 v24 p1.2)
  (graph_Graph_walk_j1 J v1 v4 p1.2)) := by kernel_rfl
theorem graph_Graph_walk_l0_of {K : Ctx} (hF : Fix pgF K) {J : JT (Value × St)} (hJ : IsJ K (retK graph_Graph_walk_c.results) J) {v1 : Value} {v2 : Value} {v3 : Value} {v4 : Value} {v5 : Value} {v22 : Value} {v23 : Value} {v24 : Value} {st : St} {Q : Value × St → Prop} (h : Ok (inX K J (retK graph_Graph_walk_c.results) graph_Graph_walk_c.body [1, 1, 1, 0, 1, 0, 1] (envT [(1, v1), (2, v2), (3, v3), (4, v4), (5, v5), (22, v22), (23, v23), (24, v24)]) st) Q) : Ok (graph_Graph_walk_l0 J v1 v2 v3 v4 v5 v22 v23 v24 st) Q := loop_of hF hJ h
theorem graph_Graph_walk_j0_eq {K : Ctx} {J : JT (Value × St)} (hJ : IsJ K (retK graph_Graph_walk_c.results) J) (v1 : Value) (v2 : Value) (v3 : Value) (v4 : Value) (v5 : Value) (v22 : Value) (v23 : Value) (v24 : Value) (st : St) : graph_Graph_walk_j0 J v1 v2 v3 v4 v5 v22 v23 v24 st =
  (.thn st (sIxA 1 none v22 v24 st) fun p1 =>
  .thn p1.2 (sLoad none p1.1 p1.2) fun p2 =>
  .thn p2.2 (sIxA 1 none v2 p2.1 p2.2) fun p3 =>
  .thn p3.2 (sLoad none p3.1 p3.2) fun p4 =>
  .thn p4.2 (sUn .not p4.1 p4.2) fun p5 =>
  condX p5.1
  (.thn p5.2 (sField (some 2) 0 v5 p5.2) fun p6 =>
  .thn p6.2 (K.go (.call n_graph_Graph_walk [p6.1, p2.1, v2, v3, v4]) p6.2) fun p7 =>
  graph_Graph_walk_j2 J v1 v2 v3 v4 v5 v22 v23 v24 p7.2)
  (graph_Graph_walk_j2 J v1 v2 v3 v4 v5 v22 v23 v24 p5.2)) := (go_eq hJ _ _ _ _).trans (by kernel_rfl)
theorem graph_Graph_walk_j1_eq {K : Ctx} {J : JT (Value × St)} (hJ : IsJ K (retK graph_Graph_walk_c.results) J) (v1 : Value) (v4 : Value) (st : St) : graph_Graph_walk_j1 J v1 v4 st =
  (.thn st (sCall K v4 [v1] st) fun p1 =>
  .ok (.tuple #[], p1.2)) := (go_eq hJ _ _ _ _).trans (by kernel_rfl)
theorem graph_Graph_walk_j2_eq {K : Ctx} {J : JT (Value × St)} (hJ : IsJ K (retK graph_Graph_walk_c.results) J) (v1 : Value) (v2 : Value) (v3 : Value) (v4 : Value) (v5 : Value) (v22 : Value) (v23 : Value) (v24 : Value) (st : St) : graph_Graph_walk_j2 J v1 v2 v3 v4 v5 v22 v23 v24 st =
  (.thn st (sBin .add v24 (.int .i64 1) st) fun p1 =>
  graph_Graph_walk_l0 J v1 v2 v3 v4 v5 v22 v23 p1.1 p1.2) := (go_eq hJ _ _ _ _).trans (by kernel_rfl)

/-! ### (refinery/graph.Graph).Reached$1 -/
open C in
noncomputable def graph_Graph_Reached_1_c : AFun := ⟨2, [],
 .skip⟩
theorem graph_Graph_Reached_1_is : pgF n_graph_Graph_Reached_1 = some graph_Graph_Reached_1_c := by kernel_rfl
theorem graph_Graph_Reached_1_eq (K : Ctx) (J : JT (Value × St)) (a0 : Value) (st : St) : atX K J graph_Graph_Reached_1_c (AM.start [a0]) st =
  (.ok (.tuple #[], st)) := by kernel_rfl
theorem graph_Graph_Reached_1_of {K : Ctx} (hF : Fix pgF K) {a0 : Value} {st : St} {Q : Value × St → Prop} (h : ∀ J, IsJ K (retK graph_Graph_Reached_1_c.results) J → Ok (atX K J graph_Graph_Reached_1_c (AM.start [a0]) st) Q) : Ok (K.go (.call n_graph_Graph_Reached_1 [a0]) st) Q := call_of hF graph_Graph_Reached_1_is rfl h

/-! ### (refinery/graph.Graph).Reached$2 -/
open C in
noncomputable def graph_Graph_Reached_2_c : AFun := ⟨2, [],
 .skip⟩
theorem graph_Graph_Reached_2_is : pgF n_graph_Graph_Reached_2 = some graph_Graph_Reached_2_c := by kernel_rfl
theorem graph_Graph_Reached_2_eq (K : Ctx) (J : JT (Value × St)) (a0 : Value) (st : St) : atX K J graph_Graph_Reached_2_c (AM.start [a0]) st =
  (.ok (.tuple #[], st)) := by kernel_rfl
theorem graph_Graph_Reached_2_of {K : Ctx} (hF : Fix pgF K) {a0 : Value} {st : St} {Q : Value × St → Prop} (h : ∀ J, IsJ K (retK graph_Graph_Reached_2_c.results) J → Ok (atX K J graph_Graph_Reached_2_c (AM.start [a0]) st) Q) : Ok (K.go (.call n_graph_Graph_Reached_2 [a0]) st) Q := call_of hF graph_Graph_Reached_2_is rfl h

/-! ### refinery/strict.places$1 -/
open C in
noncomputable def strict_places_1_c : AFun := ⟨4, [],
 (s (.ops [o 5 (.lbox (t 1))])
 (s (.ops [o 9 (.load none (t 2)), o 10 (.mv (t 0)), o 11 (.look (.cell .int) (.agg #[(i 0), (i 0)]) true (t 9) (t 10)), o 8 (.mv (t 11)), o 12 (.extract (t 8) 0), o 13 (.extract (t 8) 1), o 6 (.lnew [(i 0), (i 0)]), o 6 (.upd 2 0 (t 6) (t 12)), o 7 (.mv (t 13))])
 (s (.ops [o 14 (.load none (t 3)), o 15 (.mv (t 14)), g 16 true 15 (.mv (t 7)), g 17 true 15 (.un .not (t 16)), o 18 (.pick (t 15) (t 17) (c (.bool false))), n (.store 1 (t 3) (t 18))])
 (.ops [o 19 (.load none (t 2)), o 20 (.mv (t 0)), o 21 (.field (some 2) 0 (t 5)), n (.mapSet (.cell .int) (t 19) (t 20) (t 21))]))))⟩
theorem strict_places_1_is : pgF n_strict_places_1 = some strict_places_1_c := by kernel_rfl
theorem strict_places_1_eq (K : Ctx) (J : JT (Value × St)) (a0 a1 a2 a3 : Value) (st : St) : atX K J strict_places_1_c (AM.start [a0, a1, a2, a3]) st =
  (.thn st (sLbox a1 st) fun p1 =>
  .thn p1.2 (sLoad none a2 p1.2) fun p2 =>
  .thn p2.2 (sLook (.cell .int) (.agg #[(.int .i64 0), (.int .i64 0)]) true p2.1 a0 p2.2) fun p3 =>
  .thn p3.2 (sExtract p3.1 0 p3.2) fun p4 =>
  .thn p4.2 (sExtract p3.1 1 p4.2) fun p5 =>
  .thn p5.2 (sLnew [(.int .i64 0), (.int .i64 0)] p5.2) fun p6 =>
  .thn p6.2 (sUpd 2 0 p6.1 p4.1 p6.2) fun p7 =>
  .thn p7.2 (sLoad none a3 p7.2) fun p8 =>
  .thn p8.2 (sG p8.1 true (.ok (p5.1, p8.2)) p8.2) fun p9 =>
  .thn p9.2 (sG p8.1 true (sUn .not p9.1 p9.2) p9.2) fun p10 =>
  .thn p10.2 (sPick p8.1 p10.1 (.bool false) p10.2) fun p11 =>
  .thn p11.2 (sStore 1 a3 p11.1 p11.2) fun p12 =>
  .thn p12.2 (sLoad none a2 p12.2) fun p13 =>
  .thn p13.2 (sField (some 2) 0 p1.1 p13.2) fun p14 =>
  .thn p14.2 (sMapSet (.cell .int) p13.1 a0 p14.1 p14.2) fun p15 =>
  .ok (.tuple #[], p15.2)) := by kernel_rfl
theorem strict_places_1_of {K : Ctx} (hF : Fix pgF K) {a0 a1 a2 a3 : Value} {st : St} {Q : Value × St → Prop} (h : ∀ J, IsJ K (retK strict_places_1_c.results) J → Ok (atX K J strict_places_1_c (AM.start [a0, a1, a2, a3]) st) Q) : Ok (K.go (.call n_strict_places_1 [a0, a1, a2, a3]) st) Q := call_of hF strict_places_1_is rfl h

/-! ### slices.pdqsortOrdered[int] -/
open C in
noncomputable def slices_pdqsortOrdered_int_c : AFun := ⟨134, [],
 (s (.ops [o 8 (.mv (c (.bool true)))])
 (s (.ops [o 9 (.mv (c (.bool true)))])
 (.block 0 (s (.keep [0, 1, 2, 3, 8, 9])
 (.loop (s (.block 1 (s (.ops [o 19 (.mv (t 2)), o 20 (.mv (t 1)), o 21 (.bin .sub (t 19) (t 20)), o 10 (.mv (t 21))])
 (s (s (.ops [o 22 (.mv (t 10)), o 23 (.bin .leq (t 22) (c (i 12)))])
 (.cond (t 23) (s (.ops [o 24 (.mv (t 0)), o 25 (.mv (t 1)), o 26 (.mv (t 2)), o 27 (.call (f 85) [(t 24), (t 25), (t 26)])])
 .ret) .skip))
 (s (.keep [0, 1, 2, 3, 8, 9, 10])
 (s (s (.ops [o 28 (.mv (t 3)), o 29 (.bin .eql (t 28) (c (i 0)))])
 (.cond (t 29) (s (.ops [o 30 (.mv (t 0)), o 31 (.mv (t 1)), o 32 (.mv (t 2)), o 33 (.call (f 86) [(t 30), (t 31), (t 32)])])
 .ret) .skip))
 (s (.keep [0, 1, 2, 3, 8, 9, 10])
 (s (s (.ops [o 34 (.mv (t 8)), o 35 (.un .not (t 34))])
 (.cond (t 35) (s (.ops [o 36 (.mv (t 0)), o 37 (.mv (t 1)), o 38 (.mv (t 2)), o 39 (.call (f 87) [(t 36), (t 37), (t 38)])])
 (.ops [o 40 (.mv (t 3)), o 41 (.bin .sub (t 40) (c (i 1))), o 3 (.mv (t 41))])) .skip))
 (s (.keep [0, 1, 2, 3, 8, 9, 10])
 (s (.ops [o 43 (.mv (t 0)), o 44 (.mv (t 1)), o 45 (.mv (t 2)), o 46 (.call (f 88) [(t 43), (t 44), (t 45)]), o 42 (.mv (t 46)), o 47 (.extract (t 42) 0), o 48 (.extract (t 42) 1), o 11 (.mv (t 47)), o 12 (.mv (t 48))])
 (s (s (.ops [o 49 (.mv (t 12)), o 50 (.bin .eql (t 49) (c (i 2)))])
 (.cond (t 50) (s (.ops [o 51 (.mv (t 0)), o 52 (.mv (t 1)), o 53 (.mv (t 2)), o 54 (.call (f 89) [(t 51), (t 52), (t 53)])])
 (s (.ops [o 55 (.mv (t 2)), o 56 (.bin .sub (t 55) (c (i 1))), o 57 (.mv (t 11)), o 58 (.mv (t 1)), o 59 (.bin .sub (t 57) (t 58)), o 60 (.bin .sub (t 56) (t 59)), o 11 (.mv (t 60))])
 (.ops [o 12 (.mv (c (i 1)))]))) .skip))
 (s (.keep [0, 1, 2, 3, 8, 9, 10, 11, 12])
 (s (s (.ops [o 61 (.mv (t 8)), o 62 (.mv (t 61)), g 63 true 62 (.mv (t 9)), o 64 (.pick (t 62) (t 63) (c (.bool false))), o 65 (.mv (t 64)), g 66 true 65 (.mv (t 12)), g 67 true 65 (.bin .eql (t 66) (c (i 1))), o 68 (.pick (t 65) (t 67) (c (.bool false)))])
 (.cond (t 68) (s (.ops [o 69 (.mv (t 0)), o 70 (.mv (t 1)), o 71 (.mv (t 2)), o 72 (.call (f 90) [(t 69), (t 70), (t 71)])])
 (.cond (t 72) .ret .skip)) .skip))
 (s (.keep [0, 1, 2, 3, 8, 9, 10, 11])
 (s (s (.draw [d 0 0 false (o 73 (.mv (t 1))), d 1 0 false (o 74 (.bin .gtr (t 73) (c (i 0)))), d 2 0 false (o 75 (.mv (t 74))), d 3 0 false (g 76 true 75 (.mv (t 0))), d 4 0 false (g 77 true 75 (.mv (t 1))), d 5 0 false (g 78 true 75 (.bin .sub (t 77) (c (i 1)))), d 6 0 false (g 79 true 75 (.ixA 1 none (t 76) (t 78))), d 7 0 false (g 80 true 75 (.load none (t 79))), d 8 0 false (g 81 true 75 (.mv (t 0))), d 9 0 false (g 82 true 75 (.mv (t 11))), d 10 0 false (g 83 true 75 (.ixA 1 none (t 81) (t 82))), d 11 0 false (g 84 true 75 (.load none (t 83))), d 12 0 true (g 85 true 75 (.call (f 91) [(t 80), (t 84)])), d 13 0 false (g 86 true 75 (.un .not (t 85))), d 14 0 false (o 87 (.pick (t 75) (t 86) (c (.bool false))))])
 (.cond (t 87) (s (.ops [o 88 (.mv (t 0)), o 89 (.mv (t 1)), o 90 (.mv (t 2)), o 91 (.mv (t 11)), o 92 (.call (f 92) [(t 88), (t 89), (t 90), (t 91)]), o 13 (.mv (t 92))])
 (s (.ops [o 93 (.mv (t 13)), o 1 (.mv (t 93))])
 (.exit 1))) .skip))
 (s (.keep [0, 1, 2, 3, 10, 11])
 (s (.ops [o 95 (.mv (t 0)), o 96 (.mv (t 1)), o 97 (.mv (t 2)), o 98 (.mv (t 11)), o 99 (.call (f 93) [(t 95), (t 96), (t 97), (t 98)]), o 94 (.mv (t 99)), o 100 (.extract (t 94) 0), o 101 (.extract (t 94) 1), o 14 (.mv (t 100)), o 15 (.mv (t 101))])
 (s (.ops [o 102 (.mv (t 15)), o 9 (.mv (t 102))])
 (s (.ops [o 103 (.mv (t 14)), o 104 (.mv (t 1)), o 105 (.bin .sub (t 103) (t 104)), o 106 (.mv (t 2)), o 107 (.mv (t 14)), o 108 (.bin .sub (t 106) (t 107)), o 16 (.mv (t 105)), o 17 (.mv (t 108))])
 (s (.ops [o 109 (.mv (t 10)), o 110 (.bin .quo (t 109) (c (i 8))), o 18 (.mv (t 110))])
 (s (.ops [o 111 (.mv (t 16)), o 112 (.mv (t 17)), o 113 (.bin .lss (t 111) (t 112))])
 (.cond (t 113) (s (.ops [o 114 (.mv (t 16)), o 115 (.mv (t 18)), o 116 (.bin .geq (t 114) (t 115)), o 8 (.mv (t 116))])
 (s (.ops [o 117 (.mv (t 0)), o 118 (.mv (t 1)), o 119 (.mv (t 14)), o 120 (.mv (t 3)), o 121 (.call (f 61) [(t 117), (t 118), (t 119), (t 120)])])
 (.ops [o 122 (.mv (t 14)), o 123 (.bin .add (t 122) (c (i 1))), o 1 (.mv (t 123))]))) (s (.ops [o 124 (.mv (t 17)), o 125 (.mv (t 18)), o 126 (.bin .geq (t 124) (t 125)), o 8 (.mv (t 126))])
 (s (.ops [o 127 (.mv (t 0)), o 128 (.mv (t 14)), o 129 (.bin .add (t 128) (c (i 1))), o 130 (.mv (t 2)), o 131 (.mv (t 3)), o 132 (.call (f 61) [(t 127), (t 129), (t 130), (t 131)])])
 (.ops [o 133 (.mv (t 14)), o 2 (.mv (t 133))]))))))))))))))))))))))))
 (.keep [0, 1, 2, 3, 8, 9])))))))⟩
theorem slices_pdqsortOrdered_int_is : pgF n_slices_pdqsortOrdered_int = some slices_pdqsortOrdered_int_c := by kernel_rfl
noncomputable def slices_pdqsortOrdered_int_l0 (J : JT (Value × St)) (v0 : Value) (v1 : Value) (v2 : Value) (v3 : Value) (v8 : Value) (v9 : Value) (st : St) : Res (Value × St) := lpX J slices_pdqsortOrdered_int_c.body [1, 1, 0, 1] (envT [(0, v0), (1, v1), (2, v2), (3, v3), (8, v8), (9, v9)]) st
noncomputable def slices_pdqsortOrdered_int_j0 (J : JT (Value × St)) (v0 : Value) (v1 : Value) (v2 : Value) (v3 : Value) (v8 : Value) (v9 : Value) (v10 : Value) (st : St) : Res (Value × St) := goX J slices_pdqsortOrdered_int_c.body [1, 1, 0, 1, 0, 0, 0, 1, 1, 1] (envT [(0, v0), (1, v1), (2, v2), (3, v3), (8, v8), (9, v9), (10, v10)]) st
noncomputable def slices_pdqsortOrdered_int_j1 (J : JT (Value × St)) (v0 : Value) (v1 : Value) (v2 : Value) (v3 : Value) (v8 : Value) (v9 : Value) (v10 : Value) (st : St) : Res (Value × St) := goX J slices_pdqsortOrdered_int_c.body [1, 1, 0, 1, 0, 0, 0, 1, 1, 1, 1, 1] (envT [(0, v0), (1, v1), (2, v2), (3, v3), (8, v8), (9, v9), (10, v10)]) st
noncomputable def slices_pdqsortOrdered_int_j2 (J : JT (Value × St)) (v0 : Value) (v1 : Value) (v2 : Value) (v3 : Value) (v8 : Value) (v9 : Value) (v10 : Value) (st : St) : Res (Value × St) := goX J slices_pdqsortOrdered_int_c.body [1, 1, 0, 1, 0, 0, 0, 1, 1, 1, 1, 1, 1, 1] (envT [(0, v0), (1, v1), (2, v2), (3, v3), (8, v8), (9, v9), (10, v10)]) st
noncomputable def slices_pdqsortOrdered_int_j3 (J : JT (Value × St)) (v0 : Value) (v1 : Value) (v2 : Value) (v3 : Value) (v8 : Value) (v9 : Value) (v10 : Value) (v11 : Value) (v12 : Value) (st : St) : Res (Value × St) := goX J slices_pdqsortOrdered_int_c.body [1, 1, 0, 1, 0, 0, 0, 1, 1, 1, 1, 1, 1, 1, 1, 1, 1] (envT [(0, v0), (1, v1), (2, v2), (3, v3), (8, v8), (9, v9), (10, v10), (11, v11), (12, v12)]) st
noncomputable def slices_pdqsortOrdered_int_j4 (J : JT (Value × St)) (v0 : Value) (v1 : Value) (v2 : Value) (v3 : Value) (v8 : Value) (v9 : Value) (v10 : Value) (v11 : Value) (st : St) : Res (Value × St) := goX J slices_pdqsortOrdered_int_c.body [1, 1, 0, 1, 0, 0, 0, 1, 1, 1, 1, 1, 1, 1, 1, 1, 1, 1, 1] (envT [(0, v0), (1, v1), (2, v2), (3, v3), (8, v8), (9, v9), (10, v10), (11, v11)]) st
noncomputable def slices_pdqsortOrdered_int_j5 (J : JT (Value × St)) (v0 : Value) (v1 : Value) (v2 : Value) (v3 : Value) (v10 : Value) (v11 : Value) (st : St) : Res (Value × St) := goX J slices_pdqsortOrdered_int_c.body [1, 1, 0, 1, 0, 0, 0, 1, 1, 1, 1, 1, 1, 1, 1, 1, 1, 1, 1, 1, 1] (envT [(0, v0), (1, v1), (2, v2), (3, v3), (10, v10), (11, v11)]) st
theorem slices_pdqsortOrdered_int_eq (K : Ctx) (J : JT (Value × St)) (a0 a1 a2 a3 : Value) (st : St) : atX K J slices_pdqsortOrdered_int_c (AM.start [a0, a1, a2, a3]) st =
  (slices_pdqsortOrdered_int_l0 J a0 a1 a2 a3 (.bool true) (.bool true) st) := by kernel_rfl
theorem slices_pdqsortOrdered_int_of {K : Ctx} (hF : Fix pgF K) {a0 a1 a2 a3 : Value} {st : St} {Q : Value × St → Prop} (h : ∀ J, IsJ K (retK slices_pdqsortOrdered_int_c.results) J → Ok (atX K J slices_pdqsortOrdered_int_c (AM.start [a0, a1, a2, a3]) st) Q) : Ok (K.go (.call n_slices_pdqsortOrdered_int [a0, a1, a2, a3]) st) Q := call_of hF slices_pdqsortOrdered_int_is rfl h
theorem slices_pdqsortOrdered_int_l0_eq (K : Ctx) (J : JT (Value × St)) (v0 : Value) (v1 : Value) (v2 : Value) (v3 : Value) (v8 : Value) (v9 : Value) (st : St) : inX K J (retK slices_pdqsortOrdered_int_c.results) slices_pdqsortOrdered_int_c.body [1, 1, 0, 1] (envT [(0, v0), (1, v1), (2, v2), (3, v3), (8, v8), (9, v9)]) st =
  (.thn st (sBin .sub v2 v1 st) fun p1 =>
  .thn p1.2 (sBin .leq p1.1 (.int .i64 12) p1.2) fun p2 =>
  condX p2.1
  (.thn p2.2 (K.go (.call n_slices_insertionSortOrdered_int [v0, v1, v2]) p2.2) fun p3 =>
  .ok (.tuple #[], p3.2))
  (slices_pdqsortOrdered_int_j0 J v0 v1 v2 v3 v8 v9 p1.1 p2.2)) := by kernel_rfl
theorem slices_pdqsortOrdered_int_l0_of {K : Ctx} (hF : Fix pgF K) {J : JT (Value × St)} (hJ : IsJ K (retK slices_pdqsortOrdered_int_c.results) J) {v0 : Value} {v1 : Value} {v2 : Value} {v3 : Value} {v8 : Value} {v9 : Value} {st : St} {Q : Value × St → Prop} (h : Ok (inX K J (retK slices_pdqsortOrdered_int_c.results) slices_pdqsortOrdered_int_c.body [1, 1, 0, 1] (envT [(0, v0), (1, v1), (2, v2), (3, v3), (8, v8), (9, v9)]) st) Q) : Ok (slices_pdqsortOrdered_int_l0 J v0 v1 v2 v3 v8 v9 st) Q := loop_of hF hJ h
theorem slices_pdqsortOrdered_int_j0_eq {K : Ctx} {J : JT (Value × St)} (hJ : IsJ K (retK slices_pdqsortOrdered_int_c.results) J) (v0 : Value) (v1 : Value) (v2 : Value) (v3 : Value) (v8 : Value) (v9 : Value) (v10 : Value) (st : St) : slices_pdqsortOrdered_int_j0 J v0 v1 v2 v3 v8 v9 v10 st =
  (.thn st (sBin .eql v3 (.int .i64 0) st) fun p1 =>
  condX p1.1
  (.thn p1.2 (K.go (.call n_slices_heapSortOrdered_int [v0, v1, v2]) p1.2) fun p2 =>
  .ok (.tuple #[], p2.2))
  (slices_pdqsortOrdered_int_j1 J v0 v1 v2 v3 v8 v9 v10 p1.2)) := (go_eq hJ _ _ _ _).trans (by kernel_rfl)
theorem slices_pdqsortOrdered_int_j1_eq {K : Ctx} {J : JT (Value × St)} (hJ : IsJ K (retK slices_pdqsortOrdered_int_c.results) J) (v0 : Value) (v1 : Value) (v2 : Value) (v3 : Value) (v8 : Value) (v9 : Value) (v10 : Value) (st : St) : slices_pdqsortOrdered_int_j1 J v0 v1 v2 v3 v8 v9 v10 st =
  (.thn st (sUn .not v8 st) fun p1 =>
  condX p1.1
  (.thn p1.2 (K.go (.call n_slices_breakPatternsOrdered_int [v0, v1, v2]) p1.2) fun p2 =>
  .thn p2.2 (sBin .sub v3 (.int .i64 1) p2.2) fun p3 =>
  slices_pdqsortOrdered_int_j2 J v0 v1 v2 p3.1 v8 v9 v10 p3.2)
  (slices_pdqsortOrdered_int_j2 J v0 v1 v2 v3 v8 v9 v10 p1.2)) := (go_eq hJ _ _ _ _).trans (by kernel_rfl)
theorem slices_pdqsortOrdered_int_j2_eq {K : Ctx} {J : JT (Value × St)} (hJ : IsJ K (retK slices_pdqsortOrdered_int_c.results) J) (v0 : Value) (v1 : Value) (v2 : Value) (v3 : Value) (v8 : Value) (v9 : Value) (v10 : Value) (st : St) : slices_pdqsortOrdered_int_j2 J v0 v1 v2 v3 v8 v9 v10 st =
  (.thn st (K.go (.call n_slices_choosePivotOrdered_int [v0, v1, v2]) st) fun p1 =>
  .thn p1.2 (sExtract p1.1 0 p1.2) fun p2 =>
  .thn p2.2 (sExtract p1.1 1 p2.2) fun p3 =>
  .thn p3.2 (sBin .eql p3.1 (.int .i64 2) p3.2) fun p4 =>
  condX p4.1
  (.thn p4.2 (K.go (.call n_slices_reverseRangeOrdered_int [v0, v1, v2]) p4.2) fun p5 =>
  .thn p5.2 (sBin .sub v2 (.int .i64 1) p5.2) fun p6 =>
  .thn p6.2 (sBin .sub p2.1 v1 p6.2) fun p7 =>
  .thn p7.2 (sBin .sub p6.1 p7.1 p7.2) fun p8 =>
  slices_pdqsortOrdered_int_j3 J v0 v1 v2 v3 v8 v9 v10 p8.1 (.int .i64 1) p8.2)
  (slices_pdqsortOrdered_int_j3 J v0 v1 v2 v3 v8 v9 v10 p2.1 p3.1 p4.2)) := (go_eq hJ _ _ _ _).trans (by kernel_rfl)
theorem slices_pdqsortOrdered_int_j3_eq {K : Ctx} {J : JT (Value × St)} (hJ : IsJ K (retK slices_pdqsortOrdered_int_c.results) J) (v0 : Value) (v1 : Value) (v2 : Value) (v3 : Value) (v8 : Value) (v9 : Value) (v10 : Value) (v11 : Value) (v12 : Value) (st : St) : slices_pdqsortOrdered_int_j3 J v0 v1 v2 v3 v8 v9 v10 v11 v12 st =
  (.thn st (sG v8 true (.ok (v9, st)) st) fun p1 =>
  .thn p1.2 (sPick v8 p1.1 (.bool false) p1.2) fun p2 =>
  .thn p2.2 (sG p2.1 true (.ok (v12, p2.2)) p2.2) fun p3 =>
  .thn p3.2 (sG p2.1 true (sBin .eql p3.1 (.int .i64 1) p3.2) p3.2) fun p4 =>
  .thn p4.2 (sPick p2.1 p4.1 (.bool false) p4.2) fun p5 =>
  condX p5.1
  (.thn p5.2 (K.go (.call n_slices_partialInsertionSortOrdered_int [v0, v1, v2]) p5.2) fun p6 =>
  condX p6.1
  (.ok (.tuple #[], p6.2))
  (slices_pdqsortOrdered_int_j4 J v0 v1 v2 v3 v8 v9 v10 v11 p6.2))
  (slices_pdqsortOrdered_int_j4 J v0 v1 v2 v3 v8 v9 v10 v11 p5.2)) := (go_eq hJ _ _ _ _).trans (by kernel_rfl)
theorem slices_pdqsortOrdered_int_j4_eq {K : Ctx} {J : JT (Value × St)} (hJ : IsJ K (retK slices_pdqsortOrdered_int_c.results) J) (v0 : Value) (v1 : Value) (v2 : Value) (v3 : Value) (v8 : Value) (v9 : Value) (v10 : Value) (v11 : Value) (st : St) : slices_pdqsortOrdered_int_j4 J v0 v1 v2 v3 v8 v9 v10 v11 st =
  (.thn st (sBin .gtr v1 (.int .i64 0) st) fun p1 =>
  .thn p1.2 (sGo p1.1 true (Res.ok (v0, p1.2)) p1.2) fun p2 =>
  .thn p2.2 (sGo p1.1 true (Res.ok (v1, p2.2)) p2.2) fun p4 =>
  .thn p4.2 (sGo p1.1 true (sBin .sub p4.1 (.int .i64 1) p4.2) p4.2) fun p6 =>
  .thn p6.2 (sGo p1.1 true (sIxA 1 none p2.1 p6.1 p6.2) p6.2) fun p8 =>
  .thn p8.2 (sGo p1.1 true (sLoad none p8.1 p8.2) p8.2) fun p10 =>
  .thn p10.2 (sGo p1.1 true (Res.ok (v0, p10.2)) p10.2) fun p12 =>
  .thn p12.2 (sGo p1.1 true (Res.ok (v11, p12.2)) p12.2) fun p14 =>
  .thn p14.2 (sGo p1.1 true (sIxA 1 none p12.1 p14.1 p14.2) p14.2) fun p16 =>
  .thn p16.2 (sGo p1.1 true (sLoad none p16.1 p16.2) p16.2) fun p18 =>
  .thn p18.2 (gd p1.1 true >>= fun b => bif b then (K.go (.call n_cmp_Less_int [p10.1, p18.1]) p18.2 >>= fun p20 => Res.ok (p20.1, p20.2, p18.2 :: [], p20.2.next)) else Res.ok (skipped, p18.2, [], st.next)) fun p21 =>
  .thn p21.2.1 (sGo p1.1 true (sUn .not p21.1 p21.2.1) p21.2.1) fun p22 =>
  .thn p22.2 (sPick p1.1 p22.1 (.bool false) p22.2) fun p24 =>
  condX p24.1
  (.thn p24.2 (K.go (.call n_slices_partitionEqualOrdered_int [v0, v1, v2, v11]) p24.2) fun p25 =>
  slices_pdqsortOrdered_int_l0 J v0 p25.1 v2 v3 v8 v9 p25.2)
  (slices_pdqsortOrdered_int_j5 J v0 v1 v2 v3 v10 v11 p24.2)) := (go_eq hJ _ _ _ _).trans (by kernel_rfl)
theorem slices_pdqsortOrdered_int_j5_eq {K : Ctx} {J : JT (Value × St)} (hJ : IsJ K (retK slices_pdqsortOrdered_int_c.results) J) (v0 : Value) (v1 : Value) (v2 : Value) (v3 : Value) (v10 : Value) (v11 : Value) (st : St) : slices_pdqsortOrdered_int_j5 J v0 v1 v2 v3 v10 v11 st =
  (.thn st (K.go (.call n_slices_partitionOrdered_int [v0, v1, v2, v11]) st) fun p1 =>
  .thn p1.2 (sExtract p1.1 0 p1.2) fun p2 =>
  .thn p2.2 (sExtract p1.1 1 p2.2) fun p3 =>
  .thn p3.2 (sBin .sub p2.1 v1 p3.2) fun p4 =>
  .thn p4.2 (sBin .sub v2 p2.1 p4.2) fun p5 =>
  .thn p5.2 (sBin .quo v10 (.int .i64 8) p5.2) fun p6 =>
  .thn p6.2 (sBin .lss p4.1 p5.1 p6.2) fun p7 =>
  condX p7.1
  (.thn p7.2 (sBin .geq p4.1 p6.1 p7.2) fun p8 =>
  .thn p8.2 (K.go (.call n_slices_pdqsortOrdered_int [v0, v1, p2.1, v3]) p8.2) fun p9 =>
  .thn p9.2 (sBin .add p2.1 (.int .i64 1) p9.2) fun p10 =>
  slices_pdqsortOrdered_int_l0 J v0 p10.1 v2 v3 p8.1 p3.1 p10.2)
  (.thn p7.2 (sBin .geq p5.1 p6.1 p7.2) fun p11 =>
  .thn p11.2 (sBin .add p2.1 (.int .i64 1) p11.2) fun p12 =>
  .thn p12.2 (K.go (.call n_slices_pdqsortOrdered_int [v0, p12.1, v2, v3]) p12.2) fun p13 =>
  slices_pdqsortOrdered_int_l0 J v0 v1 p2.1 v3 p11.1 p3.1 p13.2)) := (go_eq hJ _ _ _ _).trans (by kernel_rfl)

/-! ### math/bits.Len -/
open C in
noncomputable def math_bits_Len_c : AFun := ⟨8, [.tmp 2],
 (s (.ops [o 2 (.mv (c (i 0)))])
 (s (.cond (c (.bool false)) (s (.ops [o 3 (.mv (t 0)), o 4 (.conv (.int .u32) (t 3)), o 5 (.call (f 94) [(t 4)]), o 2 (.mv (t 5))])
 .ret) .skip)
 (s (.keep [0])
 (s (.ops [o 6 (.mv (t 0)), o 7 (.call (f 95) [(t 6)]), o 2 (.mv (t 7))])
 .ret))))⟩
theorem math_bits_Len_is : pgF n_math_bits_Len = some math_bits_Len_c := by kernel_rfl
noncomputable def math_bits_Len_j0 (J : JT (Value × St)) (v0 : Value) (st : St) : Res (Value × St) := goX J math_bits_Len_c.body [1, 1, 1] (envT [(0, v0)]) st
theorem math_bits_Len_eq (K : Ctx) (J : JT (Value × St)) (a0 : Value) (st : St) : atX K J math_bits_Len_c (AM.start [a0]) st =
  (math_bits_Len_j0 J a0 st) := by kernel_rfl
theorem math_bits_Len_of {K : Ctx} (hF : Fix pgF K) {a0 : Value} {st : St} {Q : Value × St → Prop} (h : ∀ J, IsJ K (retK math_bits_Len_c.results) J → Ok (atX K J math_bits_Len_c (AM.start [a0]) st) Q) : Ok (K.go (.call n_math_bits_Len [a0]) st) Q := call_of hF math_bits_Len_is rfl h
theorem math_bits_Len_j0_eq {K : Ctx} {J : JT (Value × St)} (hJ : IsJ K (retK math_bits_Len_c.results) J) (v0 : Value) (st : St) : math_bits_Len_j0 J v0 st =
  (.thn st (K.go (.call n_math_bits_Len64 [v0]) st) fun p1 =>
  .ok (p1.1, p1.2)) := (go_eq hJ _ _ _ _).trans (by kernel_rfl)

/-! ### refinery/strict.reads$1 -/
open C in
noncomputable def strict_reads_1_c : AFun := ⟨5, [.tmp 8],
 (s (.ops [o 8 (.mv (c (.bool false)))])
 (s (.ops [o 12 (.load none (t 3)), o 13 (.mv (t 0)), o 14 (.look (.cell .int) (.agg #[(i 0), (i 0)]) true (t 12) (t 13)), o 11 (.mv (t 14)), o 15 (.extract (t 11) 0), o 16 (.extract (t 11) 1), o 9 (.lnew [(i 0), (i 0)]), o 9 (.upd 2 0 (t 9) (t 15)), o 10 (.mv (t 16))])
 (s (.ops [o 17 (.mv (t 10)), o 18 (.mv (t 17)), g 19 true 18 (.lref (t 9)), g 20 true 18 (.field none 0 (t 9)), g 21 true 18 (.mv (t 1)), g 22 true 18 (.bin .eql (t 20) (t 21)), g 23 true 18 (.mv (t 22)), g 24 true 23 (.lref (t 9)), g 25 true 23 (.field none 1 (t 9)), g 26 true 23 (.mv (t 2)), g 27 true 23 (.bin .lss (t 25) (t 26)), g 28 true 18 (.pick (t 23) (t 27) (c (.bool false))), g 29 true 18 (.mv (t 28)), g 30 false 29 (.lref (t 9)), g 31 false 29 (.field none 0 (t 9)), g 32 false 29 (.mv (t 1)), g 33 false 29 (.bin .neq (t 31) (t 32)), g 34 false 29 (.mv (t 33)), g 35 true 34 (.load (some 3) (t 4)), g 36 true 34 (.lref (t 9)), g 37 true 34 (.field none 0 (t 9)), g 38 true 34 (.mv (t 1)), g 39 true 34 (.call (f 64) [(t 35), (t 37), (t 38)]), g 40 false 29 (.pick (t 34) (t 39) (c (.bool false))), g 41 true 18 (.pick (t 29) (c (.bool true)) (t 40)), o 42 (.pick (t 18) (t 41) (c (.bool false))), o 8 (.mv (t 42))])
 .ret)))⟩
theorem strict_reads_1_is : pgF n_strict_reads_1 = some strict_reads_1_c := by kernel_rfl
theorem strict_reads_1_eq (K : Ctx) (J : JT (Value × St)) (a0 a1 a2 a3 a4 : Value) (st : St) : atX K J strict_reads_1_c (AM.start [a0, a1, a2, a3, a4]) st =
  (.thn st (sLoad none a3 st) fun p1 =>
  .thn p1.2 (sLook (.cell .int) (.agg #[(.int .i64 0), (.int .i64 0)]) true p1.1 a0 p1.2) fun p2 =>
  .thn p2.2 (sExtract p2.1 0 p2.2) fun p3 =>
  .thn p3.2 (sExtract p2.1 1 p3.2) fun p4 =>
  .thn p4.2 (sLnew [(.int .i64 0), (.int .i64 0)] p4.2) fun p5 =>
  .thn p5.2 (sUpd 2 0 p5.1 p3.1 p5.2) fun p6 =>
  .thn p6.2 (sG p4.1 true (sLref p6.1 p6.2) p6.2) fun p7 =>
  .thn p7.2 (sG p4.1 true (sField none 0 p6.1 p7.2) p7.2) fun p8 =>
  .thn p8.2 (sG p4.1 true (.ok (a1, p8.2)) p8.2) fun p9 =>
  .thn p9.2 (sG p4.1 true (sBin .eql p8.1 p9.1 p9.2) p9.2) fun p10 =>
  .thn p10.2 (sG p4.1 true (.ok (p10.1, p10.2)) p10.2) fun p11 =>
  .thn p11.2 (sG p11.1 true (sLref p6.1 p11.2) p11.2) fun p12 =>
  .thn p12.2 (sG p11.1 true (sField none 1 p6.1 p12.2) p12.2) fun p13 =>
  .thn p13.2 (sG p11.1 true (.ok (a2, p13.2)) p13.2) fun p14 =>
  .thn p14.2 (sG p11.1 true (sBin .lss p13.1 p14.1 p14.2) p14.2) fun p15 =>
  .thn p15.2 (sG p4.1 true (sPick p11.1 p15.1 (.bool false) p15.2) p15.2) fun p16 =>
  .thn p16.2 (sG p4.1 true (.ok (p16.1, p16.2)) p16.2) fun p17 =>
  .thn p17.2 (sG p17.1 false (sLref p6.1 p17.2) p17.2) fun p18 =>
  .thn p18.2 (sG p17.1 false (sField none 0 p6.1 p18.2) p18.2) fun p19 =>
  .thn p19.2 (sG p17.1 false (.ok (a1, p19.2)) p19.2) fun p20 =>
  .thn p20.2 (sG p17.1 false (sBin .neq p19.1 p20.1 p20.2) p20.2) fun p21 =>
  .thn p21.2 (sG p17.1 false (.ok (p21.1, p21.2)) p21.2) fun p22 =>
  .thn p22.2 (sG p22.1 true (sLoad (some 3) a4 p22.2) p22.2) fun p23 =>
  .thn p23.2 (sG p22.1 true (sLref p6.1 p23.2) p23.2) fun p24 =>
  .thn p24.2 (sG p22.1 true (sField none 0 p6.1 p24.2) p24.2) fun p25 =>
  .thn p25.2 (sG p22.1 true (.ok (a1, p25.2)) p25.2) fun p26 =>
  .thn p26.2 (sG p22.1 true (K.go (.call n_dom_Tree_Over [p23.1, p25.1, p26.1]) p26.2) p26.2) fun p27 =>
  .thn p27.2 (sG p17.1 false (sPick p22.1 p27.1 (.bool false) p27.2) p27.2) fun p28 =>
  .thn p28.2 (sG p4.1 true (sPick p17.1 (.bool true) p28.1 p28.2) p28.2) fun p29 =>
  .thn p29.2 (sPick p4.1 p29.1 (.bool false) p29.2) fun p30 =>
  .ok (p30.1, p30.2)) := by kernel_rfl
theorem strict_reads_1_of {K : Ctx} (hF : Fix pgF K) {a0 a1 a2 a3 a4 : Value} {st : St} {Q : Value × St → Prop} (h : ∀ J, IsJ K (retK strict_reads_1_c.results) J → Ok (atX K J strict_reads_1_c (AM.start [a0, a1, a2, a3, a4]) st) Q) : Ok (K.go (.call n_strict_reads_1 [a0, a1, a2, a3, a4]) st) Q := call_of hF strict_reads_1_is rfl h

/-! ### slices.insertionSortOrdered[int] -/
open C in
noncomputable def slices_insertionSortOrdered_int_c : AFun := ⟨49, [],
 (s (.ops [o 8 (.mv (t 1)), o 9 (.bin .add (t 8) (c (i 1))), o 6 (.mv (t 9))])
 (.block 0 (s (.keep [0, 1, 2, 6])
 (.loop (s (s (s (.ops [o 10 (.mv (t 6)), o 11 (.mv (t 2)), o 12 (.bin .lss (t 10) (t 11))])
 (.cond (t 12) .skip (.exit 0)))
 (s (.keep [0, 1, 2, 6])
 (s (.block 1 (s (.ops [o 15 (.mv (t 6)), o 7 (.mv (t 15))])
 (.block 2 (s (.keep [0, 1, 2, 6, 7])
 (.loop (s (s (s (.draw [d 0 0 false (o 16 (.mv (t 7))), d 1 0 false (o 17 (.mv (t 1))), d 2 0 false (o 18 (.bin .gtr (t 16) (t 17))), d 3 0 false (o 19 (.mv (t 18))), d 4 0 false (g 20 true 19 (.mv (t 0))), d 5 0 false (g 21 true 19 (.mv (t 7))), d 6 0 false (g 22 true 19 (.ixA 1 none (t 20) (t 21))), d 7 0 false (g 23 true 19 (.load none (t 22))), d 8 0 false (g 24 true 19 (.mv (t 0))), d 9 0 false (g 25 true 19 (.mv (t 7))), d 10 0 false (g 26 true 19 (.bin .sub (t 25) (c (i 1)))), d 11 0 false (g 27 true 19 (.ixA 1 none (t 24) (t 26))), d 12 0 false (g 28 true 19 (.load none (t 27))), d 13 0 true (g 29 true 19 (.call (f 91) [(t 23), (t 28)])), d 14 0 false (o 30 (.pick (t 19) (t 29) (c (.bool false))))])
 (.cond (t 30) .skip (.exit 2)))
 (s (.keep [0, 1, 2, 6, 7])
 (s (.block 3 (.draw [d 0 0 false (o 33 (.mv (t 0))), d 1 0 false (o 34 (.mv (t 7))), d 5 0 false (o 38 (.mv (t 0))), d 6 0 false (o 39 (.mv (t 7))), d 7 0 false (o 40 (.bin .sub (t 39) (c (i 1)))), d 8 0 false (o 41 (.ixA 1 none (t 38) (t 40))), d 9 0 false (o 42 (.load none (t 41))), d 10 0 false (o 43 (.mv (t 0))), d 11 0 false (o 44 (.mv (t 7))), d 12 0 false (o 45 (.ixA 1 none (t 43) (t 44))), d 13 0 false (o 46 (.load none (t 45))), d 14 0 false (o 47 (.ixA 1 none (t 33) (t 34))), d 15 0 true (n (.store 1 (t 47) (t 42))), d 2 0 false (o 35 (.mv (t 0))), d 3 0 false (o 36 (.mv (t 7))), d 4 0 false (o 37 (.bin .sub (t 36) (c (i 1)))), d 16 0 false (o 48 (.ixA 1 none (t 35) (t 37))), d 17 0 true (n (.store 1 (t 48) (t 46)))]))
 (s (.keep [0, 1, 2, 6, 7])
 (.ops [o 31 (.mv (t 7)), o 32 (.bin .sub (t 31) (c (i 1))), o 7 (.mv (t 32))])))))
 (.keep [0, 1, 2, 6, 7])))))))
 (s (.keep [0, 1, 2, 6])
 (.ops [o 13 (.mv (t 6)), o 14 (.bin .add (t 13) (c (i 1))), o 6 (.mv (t 14))])))))
 (.keep [0, 1, 2, 6]))))))⟩
theorem slices_insertionSortOrdered_int_is : pgF n_slices_insertionSortOrdered_int = some slices_insertionSortOrdered_int_c := by kernel_rfl
noncomputable def slices_insertionSortOrdered_int_l0 (J : JT (Value × St)) (v0 : Value) (v1 : Value) (v2 : Value) (v6 : Value) (st : St) : Res (Value × St) := lpX J slices_insertionSortOrdered_int_c.body [1, 0, 1] (envT [(0, v0), (1, v1), (2, v2), (6, v6)]) st
noncomputable def slices_insertionSortOrdered_int_j0 (J : JT (Value × St)) (v0 : Value) (v1 : Value) (v2 : Value) (v6 : Value) (st : St) : Res (Value × St) := goX J slices_insertionSortOrdered_int_c.body [1, 0, 1, 0, 0, 1, 1] (envT [(0, v0), (1, v1), (2, v2), (6, v6)]) st
noncomputable def slices_insertionSortOrdered_int_l1 (J : JT (Value × St)) (v0 : Value) (v1 : Value) (v2 : Value) (v6 : Value) (v7 : Value) (st : St) : Res (Value × St) := lpX J slices_insertionSortOrdered_int_c.body [1, 0, 1, 0, 0, 1, 1, 0, 0, 1, 0, 1] (envT [(0, v0), (1, v1), (2, v2), (6, v6), (7, v7)]) st
noncomputable def slices_insertionSortOrdered_int_j1 (J : JT (Value × St)) (v0 : Value) (v1 : Value) (v2 : Value) (v6 : Value) (v7 : Value) (st : St) : Res (Value × St) := goX J slices_insertionSortOrdered_int_c.body [1, 0, 1, 0, 0, 1, 1, 0, 0, 1, 0, 1, 0, 0, 1, 1] (envT [(0, v0), (1, v1), (2, v2), (6, v6), (7, v7)]) st
noncomputable def slices_insertionSortOrdered_int_j2 (J : JT (Value × St)) (v0 : Value) (v1 : Value) (v2 : Value) (v6 : Value) (st : St) : Res (Value × St) := goX J slices_insertionSortOrdered_int_c.body [1, 0, 1, 0, 0, 1, 1, 1, 1] (envT [(0, v0), (1, v1), (2, v2), (6, v6)]) st
noncomputable def slices_insertionSortOrdered_int_j3 (J : JT (Value × St)) (v0 : Value) (v1 : Value) (v2 : Value) (v6 : Value) (v7 : Value) (st : St) : Res (Value × St) := goX J slices_insertionSortOrdered_int_c.body [1, 0, 1, 0, 0, 1, 1, 0, 0, 1, 0, 1, 0, 0, 1, 1, 1, 1] (envT [(0, v0), (1, v1), (2, v2), (6, v6), (7, v7)]) st
theorem slices_insertionSortOrdered_int_eq (K : Ctx) (J : JT (Value × St)) (a0 a1 a2 : Value) (st : St) : atX K J slices_insertionSortOrdered_int_c (AM.start [a0, a1, a2]) st =
  (.thn st (sBin .add a1 (.int .i64 1) st) fun p1 =>
  slices_insertionSortOrdered_int_l0 J a0 a1 a2 p1.1 p1.2) := by kernel_rfl
theorem slices_insertionSortOrdered_int_of {K : Ctx} (hF : Fix pgF K) {a0 a1 a2 : Value} {st : St} {Q : Value × St → Prop} (h : ∀ J, IsJ K (retK slices_insertionSortOrdered_int_c.results) J → Ok (atX K J slices_insertionSortOrdered_int_c (AM.start [a0, a1, a2]) st) Q) : Ok (K.go (.call n_slices_insertionSortOrdered_int [a0, a1, a2]) st) Q := call_of hF slices_insertionSortOrdered_int_is rfl h
theorem slices_insertionSortOrdered_int_l0_eq (K : Ctx) (J : JT (Value × St)) (v0 : Value) (v1 : Value) (v2 : Value) (v6 : Value) (st : St) : inX K J (retK slices_insertionSortOrdered_int_c.results) slices_insertionSortOrdered_int_c.body [1, 0, 1] (envT [(0, v0), (1, v1), (2, v2), (6, v6)]) st =
  (.thn st (sBin .lss v6 v2 st) fun p1 =>
  condX p1.1
  (slices_insertionSortOrdered_int_j0 J v0 v1 v2 v6 p1.2)
  (.ok (.tuple #[], p1.2))) := by kernel_rfl
theorem slices_insertionSortOrdered_int_l0_of {K : Ctx} (hF : Fix pgF K) {J : JT (Value × St)} (hJ : IsJ K (retK slices_insertionSortOrdered_int_c.results) J) {v0 : Value} {v1 : Value} {v2 : Value} {v6 : Value} {st : St} {Q : Value × St → Prop} (h : Ok (inX K J (retK slices_insertionSortOrdered_int_c.results) slices_insertionSortOrdered_int_c.body [1, 0, 1] (envT [(0, v0), (1, v1), (2, v2), (6, v6)]) st) Q) : Ok (slices_insertionSortOrdered_int_l0 J v0 v1 v2 v6 st) Q := loop_of hF hJ h
theorem slices_insertionSortOrdered_int_j0_eq {K : Ctx} {J : JT (Value × St)} (hJ : IsJ K (retK slices_insertionSortOrdered_int_c.results) J) (v0 : Value) (v1 : Value) (v2 : Value) (v6 : Value) (st : St) : slices_insertionSortOrdered_int_j0 J v0 v1 v2 v6 st =
  (slices_insertionSortOrdered_int_l1 J v0 v1 v2 v6 v6 st) := (go_eq hJ _ _ _ _).trans (by kernel_rfl)
theorem slices_insertionSortOrdered_int_l1_eq (K : Ctx) (J : JT (Value × St)) (v0 : Value) (v1 : Value) (v2 : Value) (v6 : Value) (v7 : Value) (st : St) : inX K J (retK slices_insertionSortOrdered_int_c.results) slices_insertionSortOrdered_int_c.body [1, 0, 1, 0, 0, 1, 1, 0, 0, 1, 0, 1] (envT [(0, v0), (1, v1), (2, v2), (6, v6), (7, v7)]) st =
  (.thn st (sBin .gtr v7 v1 st) fun p1 =>
  .thn p1.2 (sGo p1.1 true (Res.ok (v0, p1.2)) p1.2) fun p2 =>
  .thn p2.2 (sGo p1.1 true (Res.ok (v7, p2.2)) p2.2) fun p4 =>
  .thn p4.2 (sGo p1.1 true (sIxA 1 none p2.1 p4.1 p4.2) p4.2) fun p6 =>
  .thn p6.2 (sGo p1.1 true (sLoad none p6.1 p6.2) p6.2) fun p8 =>
  .thn p8.2 (sGo p1.1 true (Res.ok (v0, p8.2)) p8.2) fun p10 =>
  .thn p10.2 (sGo p1.1 true (Res.ok (v7, p10.2)) p10.2) fun p12 =>
  .thn p12.2 (sGo p1.1 true (sBin .sub p12.1 (.int .i64 1) p12.2) p12.2) fun p14 =>
  .thn p14.2 (sGo p1.1 true (sIxA 1 none p10.1 p14.1 p14.2) p14.2) fun p16 =>
  .thn p16.2 (sGo p1.1 true (sLoad none p16.1 p16.2) p16.2) fun p18 =>
  .thn p18.2 (gd p1.1 true >>= fun b => bif b then (K.go (.call n_cmp_Less_int [p8.1, p18.1]) p18.2 >>= fun p20 => Res.ok (p20.1, p20.2, p18.2 :: [], p20.2.next)) else Res.ok (skipped, p18.2, [], st.next)) fun p21 =>
  .thn p21.2.1 (sPick p1.1 p21.1 (.bool false) p21.2.1) fun p22 =>
  condX p22.1
  (slices_insertionSortOrdered_int_j1 J v0 v1 v2 v6 v7 p22.2)
  (slices_insertionSortOrdered_int_j2 J v0 v1 v2 v6 p22.2)) := by kernel_rfl
theorem slices_insertionSortOrdered_int_l1_of {K : Ctx} (hF : Fix pgF K) {J : JT (Value × St)} (hJ : IsJ K (retK slices_insertionSortOrdered_int_c.results) J) {v0 : Value} {v1 : Value} {v2 : Value} {v6 : Value} {v7 : Value} {st : St} {Q : Value × St → Prop} (h : Ok (inX K J (retK slices_insertionSortOrdered_int_c.results) slices_insertionSortOrdered_int_c.body [1, 0, 1, 0, 0, 1, 1, 0, 0, 1, 0, 1] (envT [(0, v0), (1, v1), (2, v2), (6, v6), (7, v7)]) st) Q) : Ok (slices_insertionSortOrdered_int_l1 J v0 v1 v2 v6 v7 st) Q := loop_of hF hJ h
theorem slices_insertionSortOrdered_int_j1_eq {K : Ctx} {J : JT (Value × St)} (hJ : IsJ K (retK slices_insertionSortOrdered_int_c.results) J) (v0 : Value) (v1 : Value) (v2 : Value) (v6 : Value) (v7 : Value) (st : St) : slices_insertionSortOrdered_int_j1 J v0 v1 v2 v6 v7 st =
  (.thn st (sBin .sub v7 (.int .i64 1) st) fun p1 =>
  .thn p1.2 (sIxA 1 none v0 p1.1 p1.2) fun p2 =>
  .thn p2.2 (sLoad none p2.1 p2.2) fun p3 =>
  .thn p3.2 (sIxA 1 none v0 v7 p3.2) fun p4 =>
  .thn p4.2 (sLoad none p4.1 p4.2) fun p5 =>
  .thn p5.2 (sIxA 1 none v0 v7 p5.2) fun p6 =>
  .thn p6.2 (sStore 1 p6.1 p3.1 p6.2) fun p7 =>
  .thn p7.2 (sBin .sub v7 (.int .i64 1) p7.2) fun p8 =>
  .thn p8.2 (sIxA 1 none v0 p8.1 p8.2) fun p9 =>
  .thn p9.2 (sStore 1 p9.1 p5.1 p9.2) fun p10 =>
  slices_insertionSortOrdered_int_j3 J v0 v1 v2 v6 v7 p10.2) := (go_eq hJ _ _ _ _).trans (by kernel_rfl)
theorem slices_insertionSortOrdered_int_j2_eq {K : Ctx} {J : JT (Value × St)} (hJ : IsJ K (retK slices_insertionSortOrdered_int_c.results) J) (v0 : Value) (v1 : Value) (v2 : Value) (v6 : Value) (st : St) : slices_insertionSortOrdered_int_j2 J v0 v1 v2 v6 st =
  (.thn st (sBin .add v6 (.int .i64 1) st) fun p1 =>
  slices_insertionSortOrdered_int_l0 J v0 v1 v2 p1.1 p1.2) := (go_eq hJ _ _ _ _).trans (by kernel_rfl)
theorem slices_insertionSortOrdered_int_j3_eq {K : Ctx} {J : JT (Value × St)} (hJ : IsJ K (retK slices_insertionSortOrdered_int_c.results) J) (v0 : Value) (v1 : Value) (v2 : Value) (v6 : Value) (v7 : Value) (st : St) : slices_insertionSortOrdered_int_j3 J v0 v1 v2 v6 v7 st =
  (.thn st (sBin .sub v7 (.int .i64 1) st) fun p1 =>
  slices_insertionSortOrdered_int_l1 J v0 v1 v2 v6 p1.1 p1.2) := (go_eq hJ _ _ _ _).trans (by kernel_rfl)

/-! ### math/bits.Len64 -/
open C in
noncomputable def math_bits_Len64_c : AFun := ⟨25, [.tmp 2],
 (s (.ops [o 2 (.mv (c (i 0)))])
 (s (s (.ops [o 3 (.mv (t 0)), o 4 (.bin .geq (t 3) (c (.int .u64 4294967296)))])
 (.cond (t 4) (s (.ops [o 5 (.mv (t 0)), o 6 (.bin .shr (t 5) (c (.int .u64 32))), o 0 (.mv (t 6))])
 (.ops [o 2 (.mv (c (i 32)))])) .skip))
 (s (.keep [0, 2])
 (s (s (.ops [o 7 (.mv (t 0)), o 8 (.bin .geq (t 7) (c (.int .u64 65536)))])
 (.cond (t 8) (s (.ops [o 9 (.mv (t 0)), o 10 (.bin .shr (t 9) (c (.int .u64 16))), o 0 (.mv (t 10))])
 (.ops [o 11 (.mv (t 2)), o 12 (.bin .add (t 11) (c (i 16))), o 2 (.mv (t 12))])) .skip))
 (s (.keep [0, 2])
 (s (s (.ops [o 13 (.mv (t 0)), o 14 (.bin .geq (t 13) (c (.int .u64 256)))])
 (.cond (t 14) (s (.ops [o 15 (.mv (t 0)), o 16 (.bin .shr (t 15) (c (.int .u64 8))), o 0 (.mv (t 16))])
 (.ops [o 17 (.mv (t 2)), o 18 (.bin .add (t 17) (c (i 8))), o 2 (.mv (t 18))])) .skip))
 (s (.keep [0, 2])
 (s (.ops [o 19 (.mv (t 2)), o 20 (.mv (t 0)), o 21 (.conv (.int .u8) (t 20)), o 22 (.ixS (c (.string (bstr [0, 1, 2, 2, 3, 3, 3, 3, 4, 4, 4, 4, 4, 4, 4, 4, 5, 5, 5, 5, 5, 5, 5, 5, 5, 5, 5, 5, 5, 5, 5, 5, 6, 6, 6, 6, 6, 6, 6, 6, 6, 6, 6, 6, 6, 6, 6, 6, 6, 6, 6, 6, 6, 6, 6, 6, 6, 6, 6, 6, 6, 6, 6, 6, 7, 7, 7, 7, 7, 7, 7, 7, 7, 7, 7, 7, 7, 7, 7, 7, 7, 7, 7, 7, 7, 7, 7, 7, 7, 7, 7, 7, 7, 7, 7, 7, 7, 7, 7, 7, 7, 7, 7, 7, 7, 7, 7, 7, 7, 7, 7, 7, 7, 7, 7, 7, 7, 7, 7, 7, 7, 7, 7, 7, 7, 7, 7, 7, 8, 8, 8, 8, 8, 8, 8, 8, 8, 8, 8, 8, 8, 8, 8, 8, 8, 8, 8, 8, 8, 8, 8, 8, 8, 8, 8, 8, 8, 8, 8, 8, 8, 8, 8, 8, 8, 8, 8, 8, 8, 8, 8, 8, 8, 8, 8, 8, 8, 8, 8, 8, 8, 8, 8, 8, 8, 8, 8, 8, 8, 8, 8, 8, 8, 8, 8, 8, 8, 8, 8, 8, 8, 8, 8, 8, 8, 8, 8, 8, 8, 8, 8, 8, 8, 8, 8, 8, 8, 8, 8, 8, 8, 8, 8, 8, 8, 8, 8, 8, 8, 8, 8, 8, 8, 8, 8, 8, 8, 8, 8, 8, 8, 8, 8, 8, 8, 8, 8, 8, 8, 8, 8, 8, 8, 8, 8, 8]))) (t 21)), o 23 (.conv (.int .i64) (t 22)), o 24 (.bin .add (t 19) (t 23)), o 2 (.mv (t 24))])
 .ret))))))))⟩
theorem math_bits_Len64_is : pgF n_math_bits_Len64 = some math_bits_Len64_c := by kernel_rfl
noncomputable def math_bits_Len64_j0 (J : JT (Value × St)) (v0 : Value) (v2 : Value) (st : St) : Res (Value × St) := goX J math_bits_Len64_c.body [1, 1, 1] (envT [(0, v0), (2, v2)]) st
noncomputable def math_bits_Len64_j1 (J : JT (Value × St)) (v0 : Value) (v2 : Value) (st : St) : Res (Value × St) := goX J math_bits_Len64_c.body [1, 1, 1, 1, 1] (envT [(0, v0), (2, v2)]) st
noncomputable def math_bits_Len64_j2 (J : JT (Value × St)) (v0 : Value) (v2 : Value) (st : St) : Res (Value × St) := goX J math_bits_Len64_c.body [1, 1, 1, 1, 1, 1, 1] (envT [(0, v0), (2, v2)]) st
theorem math_bits_Len64_eq (K : Ctx) (J : JT (Value × St)) (a0 : Value) (st : St) : atX K J math_bits_Len64_c (AM.start [a0]) st =
  (.thn st (sBin .geq a0 (.int .u64 4294967296) st) fun p1 =>
  condX p1.1
  (.thn p1.2 (sBin .shr a0 (.int .u64 32) p1.2) fun p2 =>
  math_bits_Len64_j0 J p2.1 (.int .i64 32) p2.2)
  (math_bits_Len64_j0 J a0 (.int .i64 0) p1.2)) := by kernel_rfl
theorem math_bits_Len64_of {K : Ctx} (hF : Fix pgF K) {a0 : Value} {st : St} {Q : Value × St → Prop} (h : ∀ J, IsJ K (retK math_bits_Len64_c.results) J → Ok (atX K J math_bits_Len64_c (AM.start [a0]) st) Q) : Ok (K.go (.call n_math_bits_Len64 [a0]) st) Q := call_of hF math_bits_Len64_is rfl h
theorem math_bits_Len64_j0_eq {K : Ctx} {J : JT (Value × St)} (hJ : IsJ K (retK math_bits_Len64_c.results) J) (v0 : Value) (v2 : Value) (st : St) : math_bits_Len64_j0 J v0 v2 st =
  (.thn st (sBin .geq v0 (.int .u64 65536) st) fun p1 =>
  condX p1.1
  (.thn p1.2 (sBin .shr v0 (.int .u64 16) p1.2) fun p2 =>
  .thn p2.2 (sBin .add v2 (.int .i64 16) p2.2) fun p3 =>
  math_bits_Len64_j1 J p2.1 p3.1 p3.2)
  (math_bits_Len64_j1 J v0 v2 p1.2)) := (go_eq hJ _ _ _ _).trans (by kernel_rfl)
theorem math_bits_Len64_j1_eq {K : Ctx} {J : JT (Value × St)} (hJ : IsJ K (retK math_bits_Len64_c.results) J) (v0 : Value) (v2 : Value) (st : St) : math_bits_Len64_j1 J v0 v2 st =
  (.thn st (sBin .geq v0 (.int .u64 256) st) fun p1 =>
  condX p1.1
  (.thn p1.2 (sBin .shr v0 (.int .u64 8) p1.2) fun p2 =>
  .thn p2.2 (sBin .add v2 (.int .i64 8) p2.2) fun p3 =>
  math_bits_Len64_j2 J p2.1 p3.1 p3.2)
  (math_bits_Len64_j2 J v0 v2 p1.2)) := (go_eq hJ _ _ _ _).trans (by kernel_rfl)
theorem math_bits_Len64_j2_eq {K : Ctx} {J : JT (Value × St)} (hJ : IsJ K (retK math_bits_Len64_c.results) J) (v0 : Value) (v2 : Value) (st : St) : math_bits_Len64_j2 J v0 v2 st =
  (.thn st (sConv (.int .u8) v0 st) fun p1 =>
  .thn p1.2 (sIxS (.string (bstr [0, 1, 2, 2, 3, 3, 3, 3, 4, 4, 4, 4, 4, 4, 4, 4, 5, 5, 5, 5, 5, 5, 5, 5, 5, 5, 5, 5, 5, 5, 5, 5, 6, 6, 6, 6, 6, 6, 6, 6, 6, 6, 6, 6, 6, 6, 6, 6, 6, 6, 6, 6, 6, 6, 6, 6, 6, 6, 6, 6, 6, 6, 6, 6, 7, 7, 7, 7, 7, 7, 7, 7, 7, 7, 7, 7, 7, 7, 7, 7, 7, 7, 7, 7, 7, 7, 7, 7, 7, 7, 7, 7, 7, 7, 7, 7, 7, 7, 7, 7, 7, 7, 7, 7, 7, 7, 7, 7, 7, 7, 7, 7, 7, 7, 7, 7, 7, 7, 7, 7, 7, 7, 7, 7, 7, 7, 7, 7, 8, 8, 8, 8, 8, 8, 8, 8, 8, 8, 8, 8, 8, 8, 8, 8, 8, 8, 8, 8, 8, 8, 8, 8, 8, 8, 8, 8, 8, 8, 8, 8, 8, 8, 8, 8, 8, 8, 8, 8, 8, 8, 8, 8, 8, 8, 8, 8, 8, 8, 8, 8, 8, 8, 8, 8, 8, 8, 8, 8, 8, 8, 8, 8, 8, 8, 8, 8, 8, 8, 8, 8, 8, 8, 8, 8, 8, 8, 8, 8, 8, 8, 8, 8, 8, 8, 8, 8, 8, 8, 8, 8, 8, 8, 8, 8, 8, 8, 8, 8, 8, 8, 8, 8, 8, 8, 8, 8, 8, 8, 8, 8, 8, 8, 8, 8, 8, 8, 8, 8, 8, 8, 8, 8, 8, 8, 8, 8])) p1.1 p1.2) fun p2 =>
  .thn p2.2 (sConv (.int .i64) p2.1 p2.2) fun p3 =>
  .thn p3.2 (sBin .add v2 p3.1 p3.2) fun p4 =>
  .ok (p4.1, p4.2)) := (go_eq hJ _ _ _ _).trans (by kernel_rfl)
end Go.Proofs.Ytenfblnmmmppbaa.Sh
