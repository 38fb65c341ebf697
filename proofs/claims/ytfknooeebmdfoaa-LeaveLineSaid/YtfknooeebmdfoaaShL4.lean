/-
  The functions of the program, operation by operation, as the abstract machine has them.
-/
import Derived.Test.YtfknooeebmdfoaaProg
import Derived.Test.YtfknooeebmdfoaaShN
set_option linter.unusedVariables false
set_option maxRecDepth 100000
namespace Go.Proofs.Ytfknooeebmdfoaa.Sh
open Go Go.AM Go.Proofs

/-! ### refinery/refinerylaw22.LeaveLine -/
open C in
noncomputable def refinerylaw22_LeaveLine_c : AFun := ⟨2, [.tmp 4],
 (s (.ops [o 4 (.mv (c (.bool false)))])
 (s (s (.ops [o 12 (.call (f 11) []), o 13 (.un .not (t 12))])
 (.cond (t 13) (s (.ops [o 4 (.mv (c (.bool false)))])
 .ret) .skip))
 (s (.keep [0, 1])
 (s (.ops [o 14 (.mv (t 0)), o 15 (.bin .rem (t 14) (c (u 20))), o 16 (.conv (.int .i64) (t 15)), o 17 (.bin .add (c (i 1)) (t 16)), o 5 (.mv (t 17))])
 (s (.ops [o 6 (.mv (c (.slice none 0 0)))])
 (s (s (.ops [o 18 (.mv (t 5)), o 19 (.mv (c (i 0)))])
 (.block 0 (s (.keep [1, 5, 6, 18, 19])
 (.loop (s (s (.ops [o 20 (.bin .lss (t 19) (t 18))])
 (s (.cond (t 20) .skip (.exit 0))
 (s (.keep [1, 5, 6, 18, 19])
 (s (.block 1 (s (.ops [o 21 (.mv (t 19)), o 7 (.mv (t 21))])
 (s (.ops [o 22 (.mv (t 7)), o 23 (.bin .add (t 22) (c (i 1))), o 24 (.mv (t 7)), o 25 (.build [(i 0), (i 0)] [(0, 1, (t 23)), (1, 1, (t 24))]), o 8 (.lnew [(i 0), (i 0)]), o 8 (.upd 2 0 (t 8) (t 25))])
 (s (.ops [o 26 (.mv (t 1))])
 (.cond (t 26) (.ops [o 27 (.field (some 2) 0 (t 8)), o 28 (.lit 2 1 [(i 0), (i 0)] [(0, 2, (t 27))]), o 29 (.mv (t 6)), o 30 (.append 2 16 (t 28) (t 29)), o 6 (.mv (t 30))]) (.ops [o 31 (.mv (t 6)), o 32 (.field (some 2) 0 (t 8)), o 33 (.lit 2 1 [(i 0), (i 0)] [(0, 2, (t 32))]), o 34 (.append 2 16 (t 31) (t 33)), o 6 (.mv (t 34))]))))))
 (s (.keep [1, 5, 6, 18, 19])
 (.ops [o 35 (.bin .add (t 19) (c (i 1))), o 19 (.mv (t 35))]))))))
 (.keep [1, 5, 6, 18, 19]))))))
 (s (.keep [5, 6])
 (s (.ops [o 36 (.mv (t 6)), o 37 (.call (f 12) [(t 36), (c (i 99))]), o 9 (.mv (t 37))])
 (s (s (.ops [o 38 (.mv (t 9)), o 39 (.len .slice (t 38)), o 40 (.mv (t 5)), o 41 (.bin .neq (t 39) (t 40)), o 42 (.mv (t 41)), g 43 false 42 (.call (f 12) [(c (.slice none 0 0)), (c (i 99))]), g 44 false 42 (.len .slice (t 43)), g 45 false 42 (.bin .neq (t 44) (c (i 0))), o 46 (.pick (t 42) (c (.bool true)) (t 45))])
 (.cond (t 46) (s (.ops [o 4 (.mv (c (.bool false)))])
 .ret) .skip))
 (s (.keep [5, 9])
 (s (s (.ops [o 47 (.mv (t 9)), o 48 (.len .slice (t 47)), o 49 (.mv (c (i 0)))])
 (.block 2 (s (.keep [5, 47, 48, 49])
 (.loop (s (s (.ops [o 50 (.bin .lss (t 49) (t 48))])
 (s (.cond (t 50) .skip (.exit 2))
 (s (.keep [5, 47, 48, 49])
 (s (.block 3 (s (.ops [o 51 (.mv (t 49)), o 52 (.ixA 7 none (t 47) (t 49)), o 53 (.load (some 7) (t 52)), o 11 (.lnew [(u 0), (u 0), (i 0), (i 0), (i 0), (i 0), (i 0)]), o 10 (.mv (t 51)), o 11 (.upd 7 0 (t 11) (t 53))])
 (s (.ops [o 54 (.field (some 7) 0 (t 11)), o 55 (.mv (t 5)), o 56 (.mv (t 10)), o 57 (.bin .sub (t 55) (t 56)), o 58 (.mv (t 5)), o 59 (.mv (t 10)), o 60 (.bin .sub (t 58) (t 59)), o 61 (.bin .sub (t 60) (c (i 1))), o 62 (.build [(u 0), (u 0), (i 0), (i 0), (i 0), (i 0), (i 0)] [(0, 1, (c (u 1))), (2, 1, (t 57)), (3, 1, (t 61))]), o 63 (.eq true (.fields [(0, .int), (1, .int), (2, .int), (3, .int), (4, .int), (5, .int), (6, .int)]) (t 54) (t 62))])
 (.cond (t 63) (s (.ops [o 4 (.mv (c (.bool false)))])
 .ret) .skip))))
 (s (.keep [5, 47, 48, 49])
 (.ops [o 64 (.bin .add (t 49) (c (i 1))), o 49 (.mv (t 64))]))))))
 (.keep [5, 47, 48, 49]))))))
 (s (.keep [])
 (s (.ops [o 4 (.mv (c (.bool true)))])
 .ret)))))))))))))⟩
theorem refinerylaw22_LeaveLine_is : pgF n_refinerylaw22_LeaveLine = some refinerylaw22_LeaveLine_c := by kernel_rfl
noncomputable def refinerylaw22_LeaveLine_j0 (J : JT (Value × St)) (v0 : Value) (v1 : Value) (st : St) : Res (Value × St) := goX J refinerylaw22_LeaveLine_c.body [1, 1, 1] (envT [(0, v0), (1, v1)]) st
noncomputable def refinerylaw22_LeaveLine_l0 (J : JT (Value × St)) (v1 : Value) (v5 : Value) (v6 : Value) (v18 : Value) (v19 : Value) (st : St) : Res (Value × St) := lpX J refinerylaw22_LeaveLine_c.body [1, 1, 1, 1, 1, 0, 1, 0, 1] (envT [(1, v1), (5, v5), (6, v6), (18, v18), (19, v19)]) st
noncomputable def refinerylaw22_LeaveLine_j1 (J : JT (Value × St)) (v1 : Value) (v5 : Value) (v6 : Value) (v18 : Value) (v19 : Value) (st : St) : Res (Value × St) := goX J refinerylaw22_LeaveLine_c.body [1, 1, 1, 1, 1, 0, 1, 0, 1, 0, 0, 1, 1, 1] (envT [(1, v1), (5, v5), (6, v6), (18, v18), (19, v19)]) st
noncomputable def refinerylaw22_LeaveLine_j2 (J : JT (Value × St)) (v5 : Value) (v6 : Value) (st : St) : Res (Value × St) := goX J refinerylaw22_LeaveLine_c.body [1, 1, 1, 1, 1, 1, 1] (envT [(5, v5), (6, v6)]) st
noncomputable def refinerylaw22_LeaveLine_j3 (J : JT (Value × St)) (v1 : Value) (v5 : Value) (v6 : Value) (v18 : Value) (v19 : Value) (st : St) : Res (Value × St) := goX J refinerylaw22_LeaveLine_c.body [1, 1, 1, 1, 1, 0, 1, 0, 1, 0, 0, 1, 1, 1, 1, 1] (envT [(1, v1), (5, v5), (6, v6), (18, v18), (19, v19)]) st
noncomputable def refinerylaw22_LeaveLine_j4 (J : JT (Value × St)) (v5 : Value) (v9 : Value) (st : St) : Res (Value × St) := goX J refinerylaw22_LeaveLine_c.body [1, 1, 1, 1, 1, 1, 1, 1, 1, 1] (envT [(5, v5), (9, v9)]) st
noncomputable def refinerylaw22_LeaveLine_l1 (J : JT (Value × St)) (v5 : Value) (v47 : Value) (v48 : Value) (v49 : Value) (st : St) : Res (Value × St) := lpX J refinerylaw22_LeaveLine_c.body [1, 1, 1, 1, 1, 1, 1, 1, 1, 1, 0, 1, 0, 1] (envT [(5, v5), (47, v47), (48, v48), (49, v49)]) st
noncomputable def refinerylaw22_LeaveLine_j5 (J : JT (Value × St)) (v5 : Value) (v47 : Value) (v48 : Value) (v49 : Value) (st : St) : Res (Value × St) := goX J refinerylaw22_LeaveLine_c.body [1, 1, 1, 1, 1, 1, 1, 1, 1, 1, 0, 1, 0, 1, 0, 0, 1, 1, 1] (envT [(5, v5), (47, v47), (48, v48), (49, v49)]) st
noncomputable def refinerylaw22_LeaveLine_j6 (J : JT (Value × St)) (st : St) : Res (Value × St) := goX J refinerylaw22_LeaveLine_c.body [1, 1, 1, 1, 1, 1, 1, 1, 1, 1, 1, 1] (envT []) st
noncomputable def refinerylaw22_LeaveLine_j7 (J : JT (Value × St)) (v5 : Value) (v47 : Value) (v48 : Value) (v49 : Value) (st : St) : Res (Value × St) := goX J refinerylaw22_LeaveLine_c.body [1, 1, 1, 1, 1, 1, 1, 1, 1, 1, 0, 1, 0, 1, 0, 0, 1, 1, 1, 1, 1] (envT [(5, v5), (47, v47), (48, v48), (49, v49)]) st
theorem refinerylaw22_LeaveLine_eq (K : Ctx) (J : JT (Value × St)) (a0 a1 : Value) (st : St) : atX K J refinerylaw22_LeaveLine_c (AM.start [a0, a1]) st =
  (.thn st (K.go (.call n_refinerylaw22_Awake []) st) fun p1 =>
  .thn p1.2 (sUn .not p1.1 p1.2) fun p2 =>
  condX p2.1
  (.ok ((.bool false), p2.2))
  (refinerylaw22_LeaveLine_j0 J a0 a1 p2.2)) := by kernel_rfl
theorem refinerylaw22_LeaveLine_of {K : Ctx} (hF : Fix pgF K) {a0 a1 : Value} {st : St} {Q : Value × St → Prop} (h : ∀ J, IsJ K (retK refinerylaw22_LeaveLine_c.results) J → Ok (atX K J refinerylaw22_LeaveLine_c (AM.start [a0, a1]) st) Q) : Ok (K.go (.call n_refinerylaw22_LeaveLine [a0, a1]) st) Q := call_of hF refinerylaw22_LeaveLine_is rfl h
theorem refinerylaw22_LeaveLine_j0_eq {K : Ctx} {J : JT (Value × St)} (hJ : IsJ K (retK refinerylaw22_LeaveLine_c.results) J) (v0 : Value) (v1 : Value) (st : St) : refinerylaw22_LeaveLine_j0 J v0 v1 st =
  (.thn st (sBin .rem v0 (.int .u8 20) st) fun p1 =>
  .thn p1.2 (sConv (.int .i64) p1.1 p1.2) fun p2 =>
  .thn p2.2 (sBin .add (.int .i64 1) p2.1 p2.2) fun p3 =>
  refinerylaw22_LeaveLine_l0 J v1 p3.1 (.slice none 0 0) p3.1 (.int .i64 0) p3.2) := (go_eq hJ _ _ _ _).trans (by kernel_rfl)
theorem refinerylaw22_LeaveLine_l0_eq (K : Ctx) (J : JT (Value × St)) (v1 : Value) (v5 : Value) (v6 : Value) (v18 : Value) (v19 : Value) (st : St) : inX K J (retK refinerylaw22_LeaveLine_c.results) refinerylaw22_LeaveLine_c.body [1, 1, 1, 1, 1, 0, 1, 0, 1] (envT [(1, v1), (5, v5), (6, v6), (18, v18), (19, v19)]) st =
  (.thn st (sBin .lss v19 v18 st) fun p1 =>
  condX p1.1
  (refinerylaw22_LeaveLine_j1 J v1 v5 v6 v18 v19 p1.2)
  (refinerylaw22_LeaveLine_j2 J v5 v6 p1.2)) := by kernel_rfl
theorem refinerylaw22_LeaveLine_l0_of {K : Ctx} (hF : Fix pgF K) {J : JT (Value × St)} (hJ : IsJ K (retK refinerylaw22_LeaveLine_c.results) J) {v1 : Value} {v5 : Value} {v6 : Value} {v18 : Value} {v19 : Value} {st : St} {Q : Value × St → Prop} (h : Ok (inX K J (retK refinerylaw22_LeaveLine_c.results) refinerylaw22_LeaveLine_c.body [1, 1, 1, 1, 1, 0, 1, 0, 1] (envT [(1, v1), (5, v5), (6, v6), (18, v18), (19, v19)]) st) Q) : Ok (refinerylaw22_LeaveLine_l0 J v1 v5 v6 v18 v19 st) Q := loop_of hF hJ h
theorem refinerylaw22_LeaveLine_j1_eq {K : Ctx} {J : JT (Value × St)} (hJ : IsJ K (retK refinerylaw22_LeaveLine_c.results) J) (v1 : Value) (v5 : Value) (v6 : Value) (v18 : Value) (v19 : Value) (st : St) : refinerylaw22_LeaveLine_j1 J v1 v5 v6 v18 v19 st =
  (.thn st (sBin .add v19 (.int .i64 1) st) fun p1 =>
  .thn p1.2 (sBuild [(.int .i64 0), (.int .i64 0)] [(0, 1, p1.1), (1, 1, v19)] p1.2) fun p2 =>
  .thn p2.2 (sLnew [(.int .i64 0), (.int .i64 0)] p2.2) fun p3 =>
  .thn p3.2 (sUpd 2 0 p3.1 p2.1 p3.2) fun p4 =>
  condX v1
  (.thn p4.2 (sField (some 2) 0 p4.1 p4.2) fun p5 =>
  .thn p5.2 (sLit 2 1 [(.int .i64 0), (.int .i64 0)] [(0, 2, p5.1)] p5.2) fun p6 =>
  .thn p6.2 (sAppend 2 16 p6.1 v6 p6.2) fun p7 =>
  refinerylaw22_LeaveLine_j3 J v1 v5 p7.1 v18 v19 p7.2)
  (.thn p4.2 (sField (some 2) 0 p4.1 p4.2) fun p8 =>
  .thn p8.2 (sLit 2 1 [(.int .i64 0), (.int .i64 0)] [(0, 2, p8.1)] p8.2) fun p9 =>
  .thn p9.2 (sAppend 2 16 v6 p9.1 p9.2) fun p10 =>
  refinerylaw22_LeaveLine_j3 J v1 v5 p10.1 v18 v19 p10.2)) := (go_eq hJ _ _ _ _).trans (by kernel_rfl)
theorem refinerylaw22_LeaveLine_j2_eq {K : Ctx} {J : JT (Value × St)} (hJ : IsJ K (retK refinerylaw22_LeaveLine_c.results) J) (v5 : Value) (v6 : Value) (st : St) : refinerylaw22_LeaveLine_j2 J v5 v6 st =
  (.thn st (K.go (.call n_leave_Row [v6, (.int .i64 99)]) st) fun p1 =>
  .thn p1.2 (sLen .slice p1.1 p1.2) fun p2 =>
  .thn p2.2 (sBin .neq p2.1 v5 p2.2) fun p3 =>
  .thn p3.2 (sG p3.1 false (K.go (.call n_leave_Row [(.slice none 0 0), (.int .i64 99)]) p3.2) p3.2) fun p4 =>
  .thn p4.2 (sG p3.1 false (sLen .slice p4.1 p4.2) p4.2) fun p5 =>
  .thn p5.2 (sG p3.1 false (sBin .neq p5.1 (.int .i64 0) p5.2) p5.2) fun p6 =>
  .thn p6.2 (sPick p3.1 (.bool true) p6.1 p6.2) fun p7 =>
  condX p7.1
  (.ok ((.bool false), p7.2))
  (refinerylaw22_LeaveLine_j4 J v5 p1.1 p7.2)) := (go_eq hJ _ _ _ _).trans (by kernel_rfl)
theorem refinerylaw22_LeaveLine_j3_eq {K : Ctx} {J : JT (Value × St)} (hJ : IsJ K (retK refinerylaw22_LeaveLine_c.results) J) (v1 : Value) (v5 : Value) (v6 : Value) (v18 : Value) (v19 : Value) (st : St) : refinerylaw22_LeaveLine_j3 J v1 v5 v6 v18 v19 st =
  (.thn st (sBin .add v19 (.int .i64 1) st) fun p1 =>
  refinerylaw22_LeaveLine_l0 J v1 v5 v6 v18 p1.1 p1.2) := (go_eq hJ _ _ _ _).trans (by kernel_rfl)
theorem refinerylaw22_LeaveLine_j4_eq {K : Ctx} {J : JT (Value × St)} (hJ : IsJ K (retK refinerylaw22_LeaveLine_c.results) J) (v5 : Value) (v9 : Value) (st : St) : refinerylaw22_LeaveLine_j4 J v5 v9 st =
  (.thn st (sLen .slice v9 st) fun p1 =>
  refinerylaw22_LeaveLine_l1 J v5 v9 p1.1 (.int .i64 0) p1.2) := (go_eq hJ _ _ _ _).trans (by kernel_rfl)
theorem refinerylaw22_LeaveLine_l1_eq (K : Ctx) (J : JT (Value × St)) (v5 : Value) (v47 : Value) (v48 : Value) (v49 : Value) (st : St) : inX K J (retK refinerylaw22_LeaveLine_c.results) refinerylaw22_LeaveLine_c.body [1, 1, 1, 1, 1, 1, 1, 1, 1, 1, 0, 1, 0, 1] (envT [(5, v5), (47, v47), (48, v48), (49, v49)]) st =
  (.thn st (sBin .lss v49 v48 st) fun p1 =>
  condX p1.1
  (refinerylaw22_LeaveLine_j5 J v5 v47 v48 v49 p1.2)
  (refinerylaw22_LeaveLine_j6 J p1.2)) := by kernel_rfl
theorem refinerylaw22_LeaveLine_l1_of {K : Ctx} (hF : Fix pgF K) {J : JT (Value × St)} (hJ : IsJ K (retK refinerylaw22_LeaveLine_c.results) J) {v5 : Value} {v47 : Value} {v48 : Value} {v49 : Value} {st : St} {Q : Value × St → Prop} (h : Ok (inX K J (retK refinerylaw22_LeaveLine_c.results) refinerylaw22_LeaveLine_c.body [1, 1, 1, 1, 1, 1, 1, 1, 1, 1, 0, 1, 0, 1] (envT [(5, v5), (47, v47), (48, v48), (49, v49)]) st) Q) : Ok (refinerylaw22_LeaveLine_l1 J v5 v47 v48 v49 st) Q := loop_of hF hJ h
theorem refinerylaw22_LeaveLine_j5_eq {K : Ctx} {J : JT (Value × St)} (hJ : IsJ K (retK refinerylaw22_LeaveLine_c.results) J) (v5 : Value) (v47 : Value) (v48 : Value) (v49 : Value) (st : St) : refinerylaw22_LeaveLine_j5 J v5 v47 v48 v49 st =
  (.thn st (sIxA 7 none v47 v49 st) fun p1 =>
  .thn p1.2 (sLoad (some 7) p1.1 p1.2) fun p2 =>
  .thn p2.2 (sLnew [(.int .u8 0), (.int .u8 0), (.int .i64 0), (.int .i64 0), (.int .i64 0), (.int .i64 0), (.int .i64 0)] p2.2) fun p3 =>
  .thn p3.2 (sUpd 7 0 p3.1 p2.1 p3.2) fun p4 =>
  .thn p4.2 (sField (some 7) 0 p4.1 p4.2) fun p5 =>
  .thn p5.2 (sBin .sub v5 v49 p5.2) fun p6 =>
  .thn p6.2 (sBin .sub v5 v49 p6.2) fun p7 =>
  .thn p7.2 (sBin .sub p7.1 (.int .i64 1) p7.2) fun p8 =>
  .thn p8.2 (sBuild [(.int .u8 0), (.int .u8 0), (.int .i64 0), (.int .i64 0), (.int .i64 0), (.int .i64 0), (.int .i64 0)] [(0, 1, (.int .u8 1)), (2, 1, p6.1), (3, 1, p8.1)] p8.2) fun p9 =>
  .thn p9.2 (sEq true (.fields [(0, .int), (1, .int), (2, .int), (3, .int), (4, .int), (5, .int), (6, .int)]) p5.1 p9.1 p9.2) fun p10 =>
  condX p10.1
  (.ok ((.bool false), p10.2))
  (refinerylaw22_LeaveLine_j7 J v5 v47 v48 v49 p10.2)) := (go_eq hJ _ _ _ _).trans (by kernel_rfl)
theorem refinerylaw22_LeaveLine_j6_eq {K : Ctx} {J : JT (Value × St)} (hJ : IsJ K (retK refinerylaw22_LeaveLine_c.results) J) (st : St) : refinerylaw22_LeaveLine_j6 J st =
  (.ok ((.bool true), st)) := (go_eq hJ _ _ _ _).trans (by kernel_rfl)
theorem refinerylaw22_LeaveLine_j7_eq {K : Ctx} {J : JT (Value × St)} (hJ : IsJ K (retK refinerylaw22_LeaveLine_c.results) J) (v5 : Value) (v47 : Value) (v48 : Value) (v49 : Value) (st : St) : refinerylaw22_LeaveLine_j7 J v5 v47 v48 v49 st =
  (.thn st (sBin .add v49 (.int .i64 1) st) fun p1 =>
  refinerylaw22_LeaveLine_l1 J v5 v47 v48 p1.1 p1.2) := (go_eq hJ _ _ _ _).trans (by kernel_rfl)
end Go.Proofs.Ytfknooeebmdfoaa.Sh
