/-
  The functions of the program, operation by operation, as the abstract machine has them.
-/
import Derived.Test.YtenfblnmmmppbaaProg
import Derived.Test.YtenfblnmmmppbaaShN
set_option linter.unusedVariables false
set_option maxRecDepth 100000
namespace Go.Proofs.Ytenfblnmmmppbaa.Sh
open Go Go.AM Go.Proofs

/-! ### refinery/refinerylaw21.SweepDoes -/
open C in
noncomputable def refinerylaw21_SweepDoes_c : AFun := ⟨3, [.tmp 6],
 (s (.ops [o 3 (.lbox (t 0)), o 6 (.mv (c (.bool false)))])
 (s (s (.ops [o 8 (.call (f 7) []), o 9 (.un .not (t 8))])
 (.cond (t 9) (s (.ops [o 6 (.mv (c (.bool false)))])
 .ret) .skip))
 (s (.keep [1, 2, 3])
 (s (.ops [o 10 (.mv (t 1)), o 11 (.bin .rem (t 10) (c (u 9))), o 12 (.mv (t 2)), o 13 (.bin .rem (t 12) (c (u 12))), o 14 (.lref (t 3)), o 3 (.upd 1 0 (t 3) (t 11)), o 15 (.lref (t 3)), o 3 (.upd 1 1 (t 3) (t 13))])
 (s (.ops [o 7 (.mv (c (.bool true)))])
 (s (s (.ops [o 16 (.lref (t 3)), o 17 (.field none 0 (t 3))])
 (.block 0 (s (s (.ops [o 19 (.bin .eql (t 17) (c (u 0))), o 18 (.mv (t 19))])
 (.cond (t 18) .skip (s (.ops [o 20 (.bin .eql (t 17) (c (u 1))), o 18 (.mv (t 20))])
 (.cond (t 18) .skip (.ops [o 21 (.bin .eql (t 17) (c (u 5))), o 18 (.mv (t 21))])))))
 (s (.keep [3, 7, 17, 18])
 (.cond (t 18) (.ops [o 7 (.mv (c (.bool false)))]) (s (.ops [o 23 (.bin .eql (t 17) (c (u 2))), o 22 (.mv (t 23))])
 (.cond (t 22) (.ops [o 24 (.lref (t 3)), o 25 (.field none 1 (t 3)), o 26 (.bin .eql (t 25) (c (u 3))), o 27 (.mv (t 26)), g 28 false 27 (.lref (t 3)), g 29 false 27 (.field none 1 (t 3)), g 30 false 27 (.bin .eql (t 29) (c (u 4))), o 31 (.pick (t 27) (c (.bool true)) (t 30)), o 7 (.mv (t 31))]) .skip)))))))
 (s (.keep [3, 7])
 (s (.ops [o 32 (.field (some 7) 0 (t 3)), o 33 (.call (f 8) [(t 32)]), o 34 (.mv (t 7)), o 35 (.eq false .bools (t 33) (t 34)), o 6 (.mv (t 35))])
 .ret))))))))⟩
theorem refinerylaw21_SweepDoes_is : pgF n_refinerylaw21_SweepDoes = some refinerylaw21_SweepDoes_c := by kernel_rfl
noncomputable def refinerylaw21_SweepDoes_j0 (J : JT (Value × St)) (v1 : Value) (v2 : Value) (v3 : Value) (st : St) : Res (Value × St) := goX J refinerylaw21_SweepDoes_c.body [1, 1, 1] (envT [(1, v1), (2, v2), (3, v3)]) st
noncomputable def refinerylaw21_SweepDoes_j1 (J : JT (Value × St)) (v3 : Value) (v7 : Value) (v17 : Value) (v18 : Value) (st : St) : Res (Value × St) := goX J refinerylaw21_SweepDoes_c.body [1, 1, 1, 1, 1, 0, 1, 0, 1, 1] (envT [(3, v3), (7, v7), (17, v17), (18, v18)]) st
noncomputable def refinerylaw21_SweepDoes_j2 (J : JT (Value × St)) (v3 : Value) (v7 : Value) (st : St) : Res (Value × St) := goX J refinerylaw21_SweepDoes_c.body [1, 1, 1, 1, 1, 1, 1] (envT [(3, v3), (7, v7)]) st
theorem refinerylaw21_SweepDoes_eq (K : Ctx) (J : JT (Value × St)) (a0 a1 a2 : Value) (st : St) : atX K J refinerylaw21_SweepDoes_c (AM.start [a0, a1, a2]) st =
  (.thn st (sLbox a0 st) fun p1 =>
  .thn p1.2 (K.go (.call n_refinerylaw21_Awake []) p1.2) fun p2 =>
  .thn p2.2 (sUn .not p2.1 p2.2) fun p3 =>
  condX p3.1
  (.ok ((.bool false), p3.2))
  (refinerylaw21_SweepDoes_j0 J a1 a2 p1.1 p3.2)) := by kernel_rfl
theorem refinerylaw21_SweepDoes_of {K : Ctx} (hF : Fix pgF K) {a0 a1 a2 : Value} {st : St} {Q : Value × St → Prop} (h : ∀ J, IsJ K (retK refinerylaw21_SweepDoes_c.results) J → Ok (atX K J refinerylaw21_SweepDoes_c (AM.start [a0, a1, a2]) st) Q) : Ok (K.go (.call n_refinerylaw21_SweepDoes [a0, a1, a2]) st) Q := call_of hF refinerylaw21_SweepDoes_is rfl h
theorem refinerylaw21_SweepDoes_j0_eq {K : Ctx} {J : JT (Value × St)} (hJ : IsJ K (retK refinerylaw21_SweepDoes_c.results) J) (v1 : Value) (v2 : Value) (v3 : Value) (st : St) : refinerylaw21_SweepDoes_j0 J v1 v2 v3 st =
  (.thn st (sBin .rem v1 (.int .u8 9) st) fun p1 =>
  .thn p1.2 (sBin .rem v2 (.int .u8 12) p1.2) fun p2 =>
  .thn p2.2 (sLref v3 p2.2) fun p3 =>
  .thn p3.2 (sUpd 1 0 v3 p1.1 p3.2) fun p4 =>
  .thn p4.2 (sLref p4.1 p4.2) fun p5 =>
  .thn p5.2 (sUpd 1 1 p4.1 p2.1 p5.2) fun p6 =>
  .thn p6.2 (sLref p6.1 p6.2) fun p7 =>
  .thn p7.2 (sField none 0 p6.1 p7.2) fun p8 =>
  .thn p8.2 (sBin .eql p8.1 (.int .u8 0) p8.2) fun p9 =>
  condX p9.1
  (refinerylaw21_SweepDoes_j1 J p6.1 (.bool true) p8.1 p9.1 p9.2)
  (.thn p9.2 (sBin .eql p8.1 (.int .u8 1) p9.2) fun p10 =>
  condX p10.1
  (refinerylaw21_SweepDoes_j1 J p6.1 (.bool true) p8.1 p10.1 p10.2)
  (.thn p10.2 (sBin .eql p8.1 (.int .u8 5) p10.2) fun p11 =>
  refinerylaw21_SweepDoes_j1 J p6.1 (.bool true) p8.1 p11.1 p11.2))) := (go_eq hJ _ _ _ _).trans (by kernel_rfl)
theorem refinerylaw21_SweepDoes_j1_eq {K : Ctx} {J : JT (Value × St)} (hJ : IsJ K (retK refinerylaw21_SweepDoes_c.results) J) (v3 : Value) (v7 : Value) (v17 : Value) (v18 : Value) (st : St) : refinerylaw21_SweepDoes_j1 J v3 v7 v17 v18 st =
  (condX v18
  (refinerylaw21_SweepDoes_j2 J v3 (.bool false) st)
  (.thn st (sBin .eql v17 (.int .u8 2) st) fun p1 =>
  condX p1.1
  (.thn p1.2 (sLref v3 p1.2) fun p2 =>
  .thn p2.2 (sField none 1 v3 p2.2) fun p3 =>
  .thn p3.2 (sBin .eql p3.1 (.int .u8 3) p3.2) fun p4 =>
  .thn p4.2 (sG p4.1 false (sLref v3 p4.2) p4.2) fun p5 =>
  .thn p5.2 (sG p4.1 false (sField none 1 v3 p5.2) p5.2) fun p6 =>
  .thn p6.2 (sG p4.1 false (sBin .eql p6.1 (.int .u8 4) p6.2) p6.2) fun p7 =>
  .thn p7.2 (sPick p4.1 (.bool true) p7.1 p7.2) fun p8 =>
  refinerylaw21_SweepDoes_j2 J v3 p8.1 p8.2)
  (refinerylaw21_SweepDoes_j2 J v3 v7 p1.2))) := (go_eq hJ _ _ _ _).trans (by kernel_rfl)
theorem refinerylaw21_SweepDoes_j2_eq {K : Ctx} {J : JT (Value × St)} (hJ : IsJ K (retK refinerylaw21_SweepDoes_c.results) J) (v3 : Value) (v7 : Value) (st : St) : refinerylaw21_SweepDoes_j2 J v3 v7 st =
  (.thn st (sField (some 7) 0 v3 st) fun p1 =>
  .thn p1.2 (K.go (.call n_sweep_Does [p1.1]) p1.2) fun p2 =>
  .thn p2.2 (sEq false .bools p2.1 v7 p2.2) fun p3 =>
  .ok (p3.1, p3.2)) := (go_eq hJ _ _ _ _).trans (by kernel_rfl)
end Go.Proofs.Ytenfblnmmmppbaa.Sh
