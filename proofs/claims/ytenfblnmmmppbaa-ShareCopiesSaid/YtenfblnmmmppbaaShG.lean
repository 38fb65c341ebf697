/-
  The functions of the program, operation by operation, as the abstract machine has them.
-/
import Derived.Test.YtenfblnmmmppbaaProg
import Derived.Test.YtenfblnmmmppbaaShN
set_option linter.unusedVariables false
set_option maxRecDepth 100000
namespace Go.Proofs.Ytenfblnmmmppbaa.Sh
open Go Go.AM Go.Proofs

/-! ### refinery/graph.Of -/
open C in
noncomputable def graph_Of_c : AFun := ⟨1, [.part 2 (some 2)],
 (s (.ops [o 1 (.lbox (t 0)), o 2 (.lnew [(.slice none 0 0), (.slice none 0 0)])])
 (s (.ops [o 13 .newMap, o 3 (.mv (t 13))])
 (s (s (.ops [o 14 (.lref (t 1)), o 15 (.field none 0 (t 1)), o 16 (.len .slice (t 15)), o 17 (.mv (c (i 0)))])
 (.block 0 (s (.keep [1, 2, 3, 15, 16, 17])
 (.loop (s (s (.ops [o 18 (.bin .lss (t 17) (t 16))])
 (s (.cond (t 18) .skip (.exit 0))
 (s (.keep [1, 2, 3, 15, 16, 17])
 (s (.block 1 (s (.ops [o 19 (.mv (t 17)), o 20 (.ixA 7 none (t 15) (t 17)), o 21 (.load (some 7) (t 20)), o 5 (.lnew [(i 0), (.slice none 0 0), (.slice none 0 0), (u 0), (i 0), (i 0), (i 0)]), o 4 (.mv (t 19)), o 5 (.upd 7 0 (t 5) (t 21))])
 (.ops [o 22 (.mv (t 3)), o 23 (.lref (t 5)), o 24 (.field none 0 (t 5)), o 25 (.mv (t 4)), n (.mapSet (.cell .int) (t 22) (t 24) (t 25))])))
 (s (.keep [1, 2, 3, 15, 16, 17])
 (.ops [o 26 (.bin .add (t 17) (c (i 1))), o 17 (.mv (t 26))]))))))
 (.keep [1, 2, 3, 15, 16, 17]))))))
 (s (.keep [1, 2, 3])
 (s (.ops [o 27 (.lref (t 1)), o 28 (.field none 0 (t 1)), o 29 (.len .slice (t 28)), o 30 (.call (f 51) [(t 29)]), o 6 (.lnew [(.slice none 0 0), (.slice none 0 0)]), o 6 (.upd 2 0 (t 6) (t 30))])
 (s (s (.ops [o 31 (.lref (t 1)), o 32 (.field none 0 (t 1)), o 33 (.len .slice (t 32)), o 34 (.mv (c (i 0)))])
 (.block 2 (s (.keep [2, 3, 6, 32, 33, 34])
 (.loop (s (s (.ops [o 35 (.bin .lss (t 34) (t 33))])
 (s (.cond (t 35) .skip (.exit 2))
 (s (.keep [2, 3, 6, 32, 33, 34])
 (s (.block 3 (s (.ops [o 36 (.mv (t 34)), o 37 (.ixA 7 none (t 32) (t 34)), o 38 (.load (some 7) (t 37)), o 8 (.lnew [(i 0), (.slice none 0 0), (.slice none 0 0), (u 0), (i 0), (i 0), (i 0)]), o 7 (.mv (t 36)), o 8 (.upd 7 0 (t 8) (t 38))])
 (s (.ops [o 39 (.lref (t 8)), o 40 (.field (some 4) 3 (t 8)), o 41 (.call (f 52) [(t 40)]), o 42 (.len .slice (t 41)), o 43 (.mv (c (i 0)))])
 (.block 4 (s (.keep [2, 3, 6, 7, 32, 33, 34, 41, 42, 43])
 (.loop (s (s (.ops [o 44 (.bin .lss (t 43) (t 42))])
 (s (.cond (t 44) .skip (.exit 4))
 (s (.keep [2, 3, 6, 7, 32, 33, 34, 41, 42, 43])
 (s (.block 5 (s (.ops [o 45 (.ixA 1 none (t 41) (t 43)), o 46 (.load none (t 45)), o 10 (.mv (t 46))])
 (s (.ops [o 48 (.mv (t 3)), o 49 (.mv (t 10)), o 50 (.look (.cell .int) (i 0) true (t 48) (t 49)), o 47 (.mv (t 50)), o 51 (.extract (t 47) 0), o 52 (.extract (t 47) 1), o 11 (.mv (t 51)), o 12 (.mv (t 52))])
 (s (.ops [o 53 (.mv (t 12))])
 (.cond (t 53) (.ops [o 54 (.field (some 2) 0 (t 6)), o 55 (.mv (t 7)), o 56 (.mv (t 11)), o 57 (.call (f 53) [(t 54), (t 55), (t 56)])]) .skip)))))
 (s (.keep [2, 3, 6, 7, 32, 33, 34, 41, 42, 43])
 (.ops [o 58 (.bin .add (t 43) (c (i 1))), o 43 (.mv (t 58))]))))))
 (.keep [2, 3, 6, 7, 32, 33, 34, 41, 42, 43]))))))))
 (s (.keep [2, 3, 6, 32, 33, 34])
 (.ops [o 59 (.bin .add (t 34) (c (i 1))), o 34 (.mv (t 59))]))))))
 (.keep [2, 3, 6, 32, 33, 34]))))))
 (s (.keep [2, 6])
 (s (.ops [o 60 (.field (some 2) 0 (t 6)), o 2 (.upd 2 0 (t 2) (t 60))])
 .ret))))))))⟩
theorem graph_Of_is : pgF n_graph_Of = some graph_Of_c := by kernel_rfl
noncomputable def graph_Of_l0 (J : JT (Value × St)) (v1 : Value) (v2 : Value) (v3 : Value) (v15 : Value) (v16 : Value) (v17 : Value) (st : St) : Res (Value × St) := lpX J graph_Of_c.body [1, 1, 0, 1, 0, 1] (envT [(1, v1), (2, v2), (3, v3), (15, v15), (16, v16), (17, v17)]) st
noncomputable def graph_Of_j0 (J : JT (Value × St)) (v1 : Value) (v2 : Value) (v3 : Value) (v15 : Value) (v16 : Value) (v17 : Value) (st : St) : Res (Value × St) := goX J graph_Of_c.body [1, 1, 0, 1, 0, 1, 0, 0, 1, 1, 1] (envT [(1, v1), (2, v2), (3, v3), (15, v15), (16, v16), (17, v17)]) st
noncomputable def graph_Of_j1 (J : JT (Value × St)) (v1 : Value) (v2 : Value) (v3 : Value) (st : St) : Res (Value × St) := goX J graph_Of_c.body [1, 1, 1, 1] (envT [(1, v1), (2, v2), (3, v3)]) st
noncomputable def graph_Of_j2 (J : JT (Value × St)) (v1 : Value) (v2 : Value) (v3 : Value) (v15 : Value) (v16 : Value) (v17 : Value) (st : St) : Res (Value × St) := goX J graph_Of_c.body [1, 1, 0, 1, 0, 1, 0, 0, 1, 1, 1, 1, 1] (envT [(1, v1), (2, v2), (3, v3), (15, v15), (16, v16), (17, v17)]) st
noncomputable def graph_Of_l1 (J : JT (Value × St)) (v2 : Value) (v3 : Value) (v6 : Value) (v32 : Value) (v33 : Value) (v34 : Value) (st : St) : Res (Value × St) := lpX J graph_Of_c.body [1, 1, 1, 1, 1, 0, 1, 0, 1] (envT [(2, v2), (3, v3), (6, v6), (32, v32), (33, v33), (34, v34)]) st
noncomputable def graph_Of_j3 (J : JT (Value × St)) (v2 : Value) (v3 : Value) (v6 : Value) (v32 : Value) (v33 : Value) (v34 : Value) (st : St) : Res (Value × St) := goX J graph_Of_c.body [1, 1, 1, 1, 1, 0, 1, 0, 1, 0, 0, 1, 1, 1] (envT [(2, v2), (3, v3), (6, v6), (32, v32), (33, v33), (34, v34)]) st
noncomputable def graph_Of_j4 (J : JT (Value × St)) (v2 : Value) (v6 : Value) (st : St) : Res (Value × St) := goX J graph_Of_c.body [1, 1, 1, 1, 1, 1, 1] (envT [(2, v2), (6, v6)]) st
noncomputable def graph_Of_l2 (J : JT (Value × St)) (v2 : Value) (v3 : Value) (v6 : Value) (v7 : Value) (v32 : Value) (v33 : Value) (v34 : Value) (v41 : Value) (v42 : Value) (v43 : Value) (st : St) : Res (Value × St) := lpX J graph_Of_c.body [1, 1, 1, 1, 1, 0, 1, 0, 1, 0, 0, 1, 1, 1, 0, 0, 1, 1, 0, 1] (envT [(2, v2), (3, v3), (6, v6), (7, v7), (32, v32), (33, v33), (34, v34), (41, v41), (42, v42), (43, v43)]) st
noncomputable def graph_Of_j5 (J : JT (Value × St)) (v2 : Value) (v3 : Value) (v6 : Value) (v7 : Value) (v32 : Value) (v33 : Value) (v34 : Value) (v41 : Value) (v42 : Value) (v43 : Value) (st : St) : Res (Value × St) := goX J graph_Of_c.body [1, 1, 1, 1, 1, 0, 1, 0, 1, 0, 0, 1, 1, 1, 0, 0, 1, 1, 0, 1, 0, 0, 1, 1, 1] (envT [(2, v2), (3, v3), (6, v6), (7, v7), (32, v32), (33, v33), (34, v34), (41, v41), (42, v42), (43, v43)]) st
noncomputable def graph_Of_j6 (J : JT (Value × St)) (v2 : Value) (v3 : Value) (v6 : Value) (v32 : Value) (v33 : Value) (v34 : Value) (st : St) : Res (Value × St) := goX J graph_Of_c.body [1, 1, 1, 1, 1, 0, 1, 0, 1, 0, 0, 1, 1, 1, 1, 1] (envT [(2, v2), (3, v3), (6, v6), (32, v32), (33, v33), (34, v34)]) st
noncomputable def graph_Of_j7 (J : JT (Value × St)) (v2 : Value) (v3 : Value) (v6 : Value) (v7 : Value) (v32 : Value) (v33 : Value) (v34 : Value) (v41 : Value) (v42 : Value) (v43 : Value) (st : St) : Res (Value × St) := goX J graph_Of_c.body [1, 1, 1, 1, 1, 0, 1, 0, 1, 0, 0, 1, 1, 1, 0, 0, 1, 1, 0, 1, 0, 0, 1, 1, 1, 1, 1] (envT [(2, v2), (3, v3), (6, v6), (7, v7), (32, v32), (33, v33), (34, v34), (41, v41), (42, v42), (43, v43)]) st
theorem graph_Of_eq (K : Ctx) (J : JT (Value × St)) (a0 : Value) (st : St) : atX K J graph_Of_c (AM.start [a0]) st =
  (.thn st (sLbox a0 st) fun p1 =>
  .thn p1.2 (sLnew [(.slice none 0 0), (.slice none 0 0)] p1.2) fun p2 =>
  .thn p2.2 (sNewMap p2.2) fun p3 =>
  .thn p3.2 (sLref p1.1 p3.2) fun p4 =>
  .thn p4.2 (sField none 0 p1.1 p4.2) fun p5 =>
  .thn p5.2 (sLen .slice p5.1 p5.2) fun p6 =>
  graph_Of_l0 J p1.1 p2.1 p3.1 p5.1 p6.1 (.int .i64 0) p6.2) := by kernel_rfl
theorem graph_Of_of {K : Ctx} (hF : Fix pgF K) {a0 : Value} {st : St} {Q : Value × St → Prop} (h : ∀ J, IsJ K (retK graph_Of_c.results) J → Ok (atX K J graph_Of_c (AM.start [a0]) st) Q) : Ok (K.go (.call n_graph_Of [a0]) st) Q := call_of hF graph_Of_is rfl h
theorem graph_Of_l0_eq (K : Ctx) (J : JT (Value × St)) (v1 : Value) (v2 : Value) (v3 : Value) (v15 : Value) (v16 : Value) (v17 : Value) (st : St) : inX K J (retK graph_Of_c.results) graph_Of_c.body [1, 1, 0, 1, 0, 1] (envT [(1, v1), (2, v2), (3, v3), (15, v15), (16, v16), (17, v17)]) st =
  (.thn st (sBin .lss v17 v16 st) fun p1 =>
  condX p1.1
  (graph_Of_j0 J v1 v2 v3 v15 v16 v17 p1.2)
  (graph_Of_j1 J v1 v2 v3 p1.2)) := by kernel_rfl
theorem graph_Of_l0_of {K : Ctx} (hF : Fix pgF K) {J : JT (Value × St)} (hJ : IsJ K (retK graph_Of_c.results) J) {v1 : Value} {v2 : Value} {v3 : Value} {v15 : Value} {v16 : Value} {v17 : Value} {st : St} {Q : Value × St → Prop} (h : Ok (inX K J (retK graph_Of_c.results) graph_Of_c.body [1, 1, 0, 1, 0, 1] (envT [(1, v1), (2, v2), (3, v3), (15, v15), (16, v16), (17, v17)]) st) Q) : Ok (graph_Of_l0 J v1 v2 v3 v15 v16 v17 st) Q := loop_of hF hJ h
theorem graph_Of_j0_eq {K : Ctx} {J : JT (Value × St)} (hJ : IsJ K (retK graph_Of_c.results) J) (v1 : Value) (v2 : Value) (v3 : Value) (v15 : Value) (v16 : Value) (v17 : Value) (st : St) : graph_Of_j0 J v1 v2 v3 v15 v16 v17 st =
  (.thn st (sIxA 7 none v15 v17 st) fun p1 =>
  .thn p1.2 (sLoad (some 7) p1.1 p1.2) fun p2 =>
  .thn p2.2 (sLnew [(.int .i64 0), (.slice none 0 0), (.slice none 0 0), (.int .u8 0), (.int .i64 0), (.int .i64 0), (.int .i64 0)] p2.2) fun p3 =>
  .thn p3.2 (sUpd 7 0 p3.1 p2.1 p3.2) fun p4 =>
  .thn p4.2 (sLref p4.1 p4.2) fun p5 =>
  .thn p5.2 (sField none 0 p4.1 p5.2) fun p6 =>
  .thn p6.2 (sMapSet (.cell .int) v3 p6.1 v17 p6.2) fun p7 =>
  graph_Of_j2 J v1 v2 v3 v15 v16 v17 p7.2) := (go_eq hJ _ _ _ _).trans (by kernel_rfl)
theorem graph_Of_j1_eq {K : Ctx} {J : JT (Value × St)} (hJ : IsJ K (retK graph_Of_c.results) J) (v1 : Value) (v2 : Value) (v3 : Value) (st : St) : graph_Of_j1 J v1 v2 v3 st =
  (.thn st (sLref v1 st) fun p1 =>
  .thn p1.2 (sField none 0 v1 p1.2) fun p2 =>
  .thn p2.2 (sLen .slice p2.1 p2.2) fun p3 =>
  .thn p3.2 (K.go (.call n_graph_New [p3.1]) p3.2) fun p4 =>
  .thn p4.2 (sLnew [(.slice none 0 0), (.slice none 0 0)] p4.2) fun p5 =>
  .thn p5.2 (sUpd 2 0 p5.1 p4.1 p5.2) fun p6 =>
  .thn p6.2 (sLref v1 p6.2) fun p7 =>
  .thn p7.2 (sField none 0 v1 p7.2) fun p8 =>
  .thn p8.2 (sLen .slice p8.1 p8.2) fun p9 =>
  graph_Of_l1 J v2 v3 p6.1 p8.1 p9.1 (.int .i64 0) p9.2) := (go_eq hJ _ _ _ _).trans (by kernel_rfl)
theorem graph_Of_j2_eq {K : Ctx} {J : JT (Value × St)} (hJ : IsJ K (retK graph_Of_c.results) J) (v1 : Value) (v2 : Value) (v3 : Value) (v15 : Value) (v16 : Value) (v17 : Value) (st : St) : graph_Of_j2 J v1 v2 v3 v15 v16 v17 st =
  (.thn st (sBin .add v17 (.int .i64 1) st) fun p1 =>
  graph_Of_l0 J v1 v2 v3 v15 v16 p1.1 p1.2) := (go_eq hJ _ _ _ _).trans (by kernel_rfl)
theorem graph_Of_l1_eq (K : Ctx) (J : JT (Value × St)) (v2 : Value) (v3 : Value) (v6 : Value) (v32 : Value) (v33 : Value) (v34 : Value) (st : St) : inX K J (retK graph_Of_c.results) graph_Of_c.body [1, 1, 1, 1, 1, 0, 1, 0, 1] (envT [(2, v2), (3, v3), (6, v6), (32, v32), (33, v33), (34, v34)]) st =
  (.thn st (sBin .lss v34 v33 st) fun p1 =>
  condX p1.1
  (graph_Of_j3 J v2 v3 v6 v32 v33 v34 p1.2)
  (graph_Of_j4 J v2 v6 p1.2)) := by kernel_rfl
theorem graph_Of_l1_of {K : Ctx} (hF : Fix pgF K) {J : JT (Value × St)} (hJ : IsJ K (retK graph_Of_c.results) J) {v2 : Value} {v3 : Value} {v6 : Value} {v32 : Value} {v33 : Value} {v34 : Value} {st : St} {Q : Value × St → Prop} (h : Ok (inX K J (retK graph_Of_c.results) graph_Of_c.body [1, 1, 1, 1, 1, 0, 1, 0, 1] (envT [(2, v2), (3, v3), (6, v6), (32, v32), (33, v33), (34, v34)]) st) Q) : Ok (graph_Of_l1 J v2 v3 v6 v32 v33 v34 st) Q := loop_of hF hJ h
theorem graph_Of_j3_eq {K : Ctx} {J : JT (Value × St)} (hJ : IsJ K (retK graph_Of_c.results) J) (v2 : Value) (v3 : Value) (v6 : Value) (v32 : Value) (v33 : Value) (v34 : Value) (st : St) : graph_Of_j3 J v2 v3 v6 v32 v33 v34 st =
  (.thn st (sIxA 7 none v32 v34 st) fun p1 =>
  .thn p1.2 (sLoad (some 7) p1.1 p1.2) fun p2 =>
  .thn p2.2 (sLnew [(.int .i64 0), (.slice none 0 0), (.slice none 0 0), (.int .u8 0), (.int .i64 0), (.int .i64 0), (.int .i64 0)] p2.2) fun p3 =>
  .thn p3.2 (sUpd 7 0 p3.1 p2.1 p3.2) fun p4 =>
  .thn p4.2 (sLref p4.1 p4.2) fun p5 =>
  .thn p5.2 (sField (some 4) 3 p4.1 p5.2) fun p6 =>
  .thn p6.2 (K.go (.call n_ir_Last_Labels [p6.1]) p6.2) fun p7 =>
  .thn p7.2 (sLen .slice p7.1 p7.2) fun p8 =>
  graph_Of_l2 J v2 v3 v6 v34 v32 v33 v34 p7.1 p8.1 (.int .i64 0) p8.2) := (go_eq hJ _ _ _ _).trans (by kernel_rfl)
theorem graph_Of_j4_eq {K : Ctx} {J : JT (Value × St)} (hJ : IsJ K (retK graph_Of_c.results) J) (v2 : Value) (v6 : Value) (st : St) : graph_Of_j4 J v2 v6 st =
  (.thn st (sField (some 2) 0 v6 st) fun p1 =>
  .thn p1.2 (sUpd 2 0 v2 p1.1 p1.2) fun p2 =>
  (sField (some 2) 0 p2.1 p2.2 >>= fun p3 => .ok [p3.1]) >>= fun vs => .ok (oneOf vs, p2.2)) := (go_eq hJ _ _ _ _).trans (by kernel_rfl)
theorem graph_Of_l2_eq (K : Ctx) (J : JT (Value × St)) (v2 : Value) (v3 : Value) (v6 : Value) (v7 : Value) (v32 : Value) (v33 : Value) (v34 : Value) (v41 : Value) (v42 : Value) (v43 : Value) (st : St) : inX K J (retK graph_Of_c.results) graph_Of_c.body [1, 1, 1, 1, 1, 0, 1, 0, 1, 0, 0, 1, 1, 1, 0, 0, 1, 1, 0, 1] (envT [(2, v2), (3, v3), (6, v6), (7, v7), (32, v32), (33, v33), (34, v34), (41, v41), (42, v42), (43, v43)]) st =
  (.thn st (sBin .lss v43 v42 st) fun p1 =>
  condX p1.1
  (graph_Of_j5 J v2 v3 v6 v7 v32 v33 v34 v41 v42 v43 p1.2)
  (graph_Of_j6 J v2 v3 v6 v32 v33 v34 p1.2)) := by kernel_rfl
theorem graph_Of_l2_of {K : Ctx} (hF : Fix pgF K) {J : JT (Value × St)} (hJ : IsJ K (retK graph_Of_c.results) J) {v2 : Value} {v3 : Value} {v6 : Value} {v7 : Value} {v32 : Value} {v33 : Value} {v34 : Value} {v41 : Value} {v42 : Value} {v43 : Value} {st : St} {Q : Value × St → Prop} (h : Ok (inX K J (retK graph_Of_c.results) graph_Of_c.body [1, 1, 1, 1, 1, 0, 1, 0, 1, 0, 0, 1, 1, 1, 0, 0, 1, 1, 0, 1] (envT [(2, v2), (3, v3), (6, v6), (7, v7), (32, v32), (33, v33), (34, v34), (41, v41), (42, v42), (43, v43)]) st) Q) : Ok (graph_Of_l2 J v2 v3 v6 v7 v32 v33 v34 v41 v42 v43 st) Q := loop_of hF hJ h
theorem graph_Of_j5_eq {K : Ctx} {J : JT (Value × St)} (hJ : IsJ K (retK graph_Of_c.results) J) (v2 : Value) (v3 : Value) (v6 : Value) (v7 : Value) (v32 : Value) (v33 : Value) (v34 : Value) (v41 : Value) (v42 : Value) (v43 : Value) (st : St) : graph_Of_j5 J v2 v3 v6 v7 v32 v33 v34 v41 v42 v43 st =
  (.thn st (sIxA 1 none v41 v43 st) fun p1 =>
  .thn p1.2 (sLoad none p1.1 p1.2) fun p2 =>
  .thn p2.2 (sLook (.cell .int) (.int .i64 0) true v3 p2.1 p2.2) fun p3 =>
  .thn p3.2 (sExtract p3.1 0 p3.2) fun p4 =>
  .thn p4.2 (sExtract p3.1 1 p4.2) fun p5 =>
  condX p5.1
  (.thn p5.2 (sField (some 2) 0 v6 p5.2) fun p6 =>
  .thn p6.2 (K.go (.call n_graph_Graph_Join [p6.1, v7, p4.1]) p6.2) fun p7 =>
  graph_Of_j7 J v2 v3 v6 v7 v32 v33 v34 v41 v42 v43 p7.2)
  (graph_Of_j7 J v2 v3 v6 v7 v32 v33 v34 v41 v42 v43 p5.2)) := (go_eq hJ _ _ _ _).trans (by kernel_rfl)
theorem graph_Of_j6_eq {K : Ctx} {J : JT (Value × St)} (hJ : IsJ K (retK graph_Of_c.results) J) (v2 : Value) (v3 : Value) (v6 : Value) (v32 : Value) (v33 : Value) (v34 : Value) (st : St) : graph_Of_j6 J v2 v3 v6 v32 v33 v34 st =
  (.thn st (sBin .add v34 (.int .i64 1) st) fun p1 =>
  graph_Of_l1 J v2 v3 v6 v32 v33 p1.1 p1.2) := (go_eq hJ _ _ _ _).trans (by kernel_rfl)
theorem graph_Of_j7_eq {K : Ctx} {J : JT (Value × St)} (hJ : IsJ K (retK graph_Of_c.results) J) (v2 : Value) (v3 : Value) (v6 : Value) (v7 : Value) (v32 : Value) (v33 : Value) (v34 : Value) (v41 : Value) (v42 : Value) (v43 : Value) (st : St) : graph_Of_j7 J v2 v3 v6 v7 v32 v33 v34 v41 v42 v43 st =
  (.thn st (sBin .add v43 (.int .i64 1) st) fun p1 =>
  graph_Of_l2 J v2 v3 v6 v7 v32 v33 v34 v41 v42 p1.1 p1.2) := (go_eq hJ _ _ _ _).trans (by kernel_rfl)

/-! ### refinery/graph.New -/
open C in
noncomputable def graph_New_c : AFun := ⟨1, [.part 2 (some 2)],
 (s (.ops [o 2 (.lnew [(.slice none 0 0), (.slice none 0 0)])])
 (s (.draw [d 0 0 false (o 3 (.mv (t 0))), d 1 0 false (o 4 (.minmax true (t 3) [(c (i 0))])), d 2 0 false (o 5 (.mkSlice 1 24 [(.slice none 0 0)] (t 4) (t 4))), d 3 0 false (o 6 (.mv (t 0))), d 4 0 false (o 7 (.minmax true (t 6) [(c (i 0))])), d 5 0 false (o 8 (.mkSlice 1 24 [(.slice none 0 0)] (t 7) (t 7))), d 6 0 false (o 9 (.build [(.slice none 0 0), (.slice none 0 0)] [(0, 1, (t 5)), (1, 1, (t 8))])), d 7 0 true (o 2 (.upd 2 0 (t 2) (t 9)))])
 .ret))⟩
theorem graph_New_is : pgF n_graph_New = some graph_New_c := by kernel_rfl
theorem graph_New_eq (K : Ctx) (J : JT (Value × St)) (a0 : Value) (st : St) : atX K J graph_New_c (AM.start [a0]) st =
  (.thn st (sLnew [(.slice none 0 0), (.slice none 0 0)] st) fun p1 =>
  .thn p1.2 (sMinmax true a0 [(.int .i64 0)] p1.2) fun p2 =>
  .thn p2.2 (sMkSlice 1 24 [(.slice none 0 0)] p2.1 p2.1 p2.2) fun p3 =>
  .thn p3.2 (sMinmax true a0 [(.int .i64 0)] p3.2) fun p4 =>
  .thn p4.2 (sMkSlice 1 24 [(.slice none 0 0)] p4.1 p4.1 p4.2) fun p5 =>
  .thn p5.2 (sBuild [(.slice none 0 0), (.slice none 0 0)] [(0, 1, p3.1), (1, 1, p5.1)] p5.2) fun p6 =>
  .thn p6.2 (sUpd 2 0 p1.1 p6.1 p6.2) fun p7 =>
  (sField (some 2) 0 p7.1 p7.2 >>= fun p8 => .ok [p8.1]) >>= fun vs => .ok (oneOf vs, p7.2)) := by kernel_rfl
theorem graph_New_of {K : Ctx} (hF : Fix pgF K) {a0 : Value} {st : St} {Q : Value × St → Prop} (h : ∀ J, IsJ K (retK graph_New_c.results) J → Ok (atX K J graph_New_c (AM.start [a0]) st) Q) : Ok (K.go (.call n_graph_New [a0]) st) Q := call_of hF graph_New_is rfl h

/-! ### (refinery/graph.Graph).Len -/
open C in
noncomputable def graph_Graph_Len_c : AFun := ⟨1, [.tmp 2],
 (s (.ops [o 1 (.lbox (t 0)), o 2 (.mv (c (i 0)))])
 (s (.ops [o 3 (.lref (t 1)), o 4 (.field none 0 (t 1)), o 5 (.len .slice (t 4)), o 2 (.mv (t 5))])
 .ret))⟩
theorem graph_Graph_Len_is : pgF n_graph_Graph_Len = some graph_Graph_Len_c := by kernel_rfl
theorem graph_Graph_Len_eq (K : Ctx) (J : JT (Value × St)) (a0 : Value) (st : St) : atX K J graph_Graph_Len_c (AM.start [a0]) st =
  (.thn st (sLbox a0 st) fun p1 =>
  .thn p1.2 (sLref p1.1 p1.2) fun p2 =>
  .thn p2.2 (sField none 0 p1.1 p2.2) fun p3 =>
  .thn p3.2 (sLen .slice p3.1 p3.2) fun p4 =>
  .ok (p4.1, p4.2)) := by kernel_rfl
theorem graph_Graph_Len_of {K : Ctx} (hF : Fix pgF K) {a0 : Value} {st : St} {Q : Value × St → Prop} (h : ∀ J, IsJ K (retK graph_Graph_Len_c.results) J → Ok (atX K J graph_Graph_Len_c (AM.start [a0]) st) Q) : Ok (K.go (.call n_graph_Graph_Len [a0]) st) Q := call_of hF graph_Graph_Len_is rfl h

/-! ### refinery/dom.Of -/
open C in
noncomputable def dom_Of_c : AFun := ⟨1, [.part 2 (some 3)],
 (s (.ops [o 1 (.lbox (t 0)), o 2 (.lnew [(.slice none 0 0), (.slice none 0 0), (.slice none 0 0)])])
 (s (.ops [o 19 (.field (some 2) 0 (t 1)), o 20 (.call (f 55) [(t 19)]), o 3 (.new [(i 0)]), n (.store 1 (t 3) (t 20))])
 (s (.ops [o 21 (.fn 65 [] [(t 3)]), o 4 (.mv (t 21))])
 (s (.ops [o 22 (.mv (t 4)), o 23 (.call (t 22) []), o 24 (.mv (t 4)), o 25 (.call (t 24) []), o 26 (.mv (t 4)), o 27 (.call (t 26) []), o 28 (.mv (t 4)), o 29 (.call (t 28) []), o 30 (.build [(.slice none 0 0), (.slice none 0 0), (.slice none 0 0), (.slice none 0 0), (.slice none 0 0)] [(1, 1, (t 23)), (2, 1, (t 25)), (3, 1, (t 27)), (4, 1, (t 29))]), o 31 (.box (t 30)), o 5 (.mv (t 31))])
 (s (.ops [o 32 (.mv (t 4)), o 33 (.call (t 32) []), o 6 (.mv (t 33))])
 (s (.ops [o 34 (.load none (t 3)), o 35 (.mkSlice 1 24 [(.slice none 0 0)] (t 34) (t 34)), o 7 (.mv (t 35))])
 (s (s (.ops [o 36 (.load none (t 3)), o 37 (.bin .gtr (t 36) (c (i 0)))])
 (.cond (t 37) (.ops [o 38 (.mv (t 5)), o 39 (.field (some 2) 0 (t 1)), o 40 (.call (f 67) [(t 38), (t 39), (c (i 0))])]) .skip))
 (s (.keep [1, 2, 3, 5, 6, 7])
 (s (s (.ops [o 41 (.load none (t 3)), o 42 (.mv (c (i 0)))])
 (.block 0 (s (.keep [1, 2, 5, 6, 7, 41, 42])
 (.loop (s (s (.ops [o 43 (.bin .lss (t 42) (t 41))])
 (s (.cond (t 43) .skip (.exit 0))
 (s (.keep [1, 2, 5, 6, 7, 41, 42])
 (s (.block 1 (s (.ops [o 44 (.mv (t 42)), o 8 (.mv (t 44))])
 (.ops [o 45 (.mv (t 5)), o 46 (.nilc (t 45)), o 47 (.off 4 (t 46)), o 48 (.load none (t 47)), o 49 (.mv (t 8)), o 50 (.mv (t 8)), o 51 (.ixA 1 none (t 48) (t 49)), n (.store 1 (t 51) (t 50))])))
 (s (.keep [1, 2, 5, 6, 7, 41, 42])
 (.ops [o 52 (.bin .add (t 42) (c (i 1))), o 42 (.mv (t 52))]))))))
 (.keep [1, 2, 5, 6, 7, 41, 42]))))))
 (s (.keep [1, 2, 5, 6, 7])
 (s (s (.ops [o 53 (.mv (t 5)), o 54 (.nilc (t 53)), o 55 (.off 0 (t 54)), o 56 (.load none (t 55)), o 57 (.len .slice (t 56)), o 58 (.bin .sub (t 57) (c (i 1))), o 9 (.mv (t 58))])
 (.block 2 (s (.keep [1, 2, 5, 6, 7, 9])
 (.loop (s (s (s (.ops [o 59 (.mv (t 9)), o 60 (.bin .gtr (t 59) (c (i 0)))])
 (.cond (t 60) .skip (.exit 2)))
 (s (.keep [1, 2, 5, 6, 7, 9])
 (s (.block 3 (s (.ops [o 63 (.mv (t 5)), o 64 (.nilc (t 63)), o 65 (.off 0 (t 64)), o 66 (.load none (t 65)), o 67 (.mv (t 9)), o 68 (.ixA 1 none (t 66) (t 67)), o 69 (.load none (t 68)), o 10 (.mv (t 69))])
 (s (s (.ops [o 70 (.field (some 2) 0 (t 1)), o 71 (.mv (t 10)), o 72 (.call (f 27) [(t 70), (t 71)]), o 73 (.len .slice (t 72)), o 74 (.mv (c (i 0)))])
 (.block 4 (s (.keep [1, 2, 5, 6, 7, 9, 10, 72, 73, 74])
 (.loop (s (s (.ops [o 75 (.bin .lss (t 74) (t 73))])
 (s (.cond (t 75) .skip (.exit 4))
 (s (.keep [1, 2, 5, 6, 7, 9, 10, 72, 73, 74])
 (s (.block 5 (s (.ops [o 76 (.ixA 1 none (t 72) (t 74)), o 77 (.load none (t 76)), o 12 (.mv (t 77))])
 (s (.ops [o 78 (.mv (t 5)), o 79 (.nilc (t 78)), o 80 (.off 2 (t 79)), o 81 (.load none (t 80)), o 82 (.mv (t 12)), o 83 (.ixA 1 none (t 81) (t 82)), o 84 (.load none (t 83)), o 85 (.bin .geq (t 84) (c (i 0)))])
 (.cond (t 85) (.draw [d 16 0 false (o 102 (.mv (t 5))), d 17 0 false (o 103 (.mv (t 12))), d 18 0 true (o 104 (.call (f 68) [(t 102), (t 103)])), d 0 0 false (o 86 (.mv (t 5))), d 1 0 false (o 87 (.nilc (t 86))), d 2 0 false (o 88 (.off 2 (t 87))), d 3 1 false (o 89 (.load none (t 88))), d 4 0 false (o 90 (.mv (t 10))), d 5 0 false (o 91 (.mv (t 5))), d 6 0 false (o 92 (.nilc (t 91))), d 7 0 false (o 93 (.off 2 (t 92))), d 8 1 false (o 94 (.load none (t 93))), d 9 0 false (o 95 (.mv (t 10))), d 10 0 false (o 96 (.ixA 1 none (t 94) (t 95))), d 11 1 false (o 97 (.load none (t 96))), d 12 0 false (o 98 (.mv (t 5))), d 13 0 false (o 99 (.nilc (t 98))), d 14 0 false (o 100 (.off 2 (t 99))), d 15 1 false (o 101 (.load none (t 100))), d 19 0 false (o 105 (.ixA 1 none (t 101) (t 104))), d 20 0 false (o 106 (.load none (t 105))), d 21 0 false (o 107 (.minmax false (t 97) [(t 106)])), d 22 0 false (o 108 (.ixA 1 none (t 89) (t 90))), d 23 0 true (n (.store 1 (t 108) (t 107)))]) .skip))))
 (s (.keep [1, 2, 5, 6, 7, 9, 10, 72, 73, 74])
 (.ops [o 109 (.bin .add (t 74) (c (i 1))), o 74 (.mv (t 109))]))))))
 (.keep [1, 2, 5, 6, 7, 9, 10, 72, 73, 74]))))))
 (s (.keep [1, 2, 5, 6, 7, 9, 10])
 (s (.draw [d 0 0 false (o 110 (.mv (t 5))), d 1 0 false (o 111 (.nilc (t 110))), d 2 0 false (o 112 (.off 0 (t 111))), d 3 0 false (o 113 (.load none (t 112))), d 4 0 false (o 114 (.mv (t 5))), d 5 0 false (o 115 (.nilc (t 114))), d 6 0 false (o 116 (.off 2 (t 115))), d 7 0 false (o 117 (.load none (t 116))), d 8 0 false (o 118 (.mv (t 10))), d 9 0 false (o 119 (.ixA 1 none (t 117) (t 118))), d 10 0 false (o 120 (.load none (t 119))), d 11 0 false (o 121 (.ixA 1 none (t 113) (t 120))), d 12 0 false (o 122 (.load none (t 121))), d 13 0 false (o 13 (.mv (t 122)))])
 (s (.ops [o 123 (.mv (t 7)), o 124 (.mv (t 13)), o 125 (.mv (t 7)), o 126 (.mv (t 13)), o 127 (.ixA 1 none (t 125) (t 126)), o 128 (.load none (t 127)), o 129 (.mv (t 10)), o 130 (.lit 1 1 [(i 0)] [(0, 1, (t 129))]), o 131 (.append 1 8 (t 128) (t 130)), o 132 (.ixA 1 none (t 123) (t 124)), n (.store 1 (t 132) (t 131))])
 (s (.draw [d 0 0 false (o 133 (.mv (t 5))), d 1 0 false (o 134 (.nilc (t 133))), d 2 0 false (o 135 (.off 3 (t 134))), d 3 0 false (o 136 (.load none (t 135))), d 4 0 false (o 137 (.mv (t 10))), d 5 0 false (o 138 (.mv (t 5))), d 6 0 false (o 139 (.nilc (t 138))), d 7 0 false (o 140 (.off 1 (t 139))), d 8 0 false (o 141 (.load none (t 140))), d 9 0 false (o 142 (.mv (t 10))), d 10 0 false (o 143 (.ixA 1 none (t 141) (t 142))), d 11 0 false (o 144 (.load none (t 143))), d 12 0 false (o 145 (.ixA 1 none (t 136) (t 137))), d 13 0 true (n (.store 1 (t 145) (t 144)))])
 (s (s (.ops [o 146 (.mv (t 7)), o 147 (.mv (t 5)), o 148 (.nilc (t 147)), o 149 (.off 1 (t 148)), o 150 (.load none (t 149)), o 151 (.mv (t 10)), o 152 (.ixA 1 none (t 150) (t 151)), o 153 (.load none (t 152)), o 154 (.ixA 1 none (t 146) (t 153)), o 155 (.load none (t 154)), o 156 (.len .slice (t 155)), o 157 (.mv (c (i 0)))])
 (.block 6 (s (.keep [1, 2, 5, 6, 7, 9, 10, 155, 156, 157])
 (.loop (s (s (.ops [o 158 (.bin .lss (t 157) (t 156))])
 (s (.cond (t 158) .skip (.exit 6))
 (s (.keep [1, 2, 5, 6, 7, 9, 10, 155, 156, 157])
 (s (.block 7 (s (.ops [o 159 (.ixA 1 none (t 155) (t 157)), o 160 (.load none (t 159)), o 15 (.mv (t 160))])
 (s (.ops [o 161 (.mv (t 6)), o 162 (.mv (t 15)), o 163 (.mv (t 5)), o 164 (.nilc (t 163)), o 165 (.off 1 (t 164)), o 166 (.load none (t 165)), o 167 (.mv (t 10)), o 168 (.ixA 1 none (t 166) (t 167)), o 169 (.load none (t 168)), o 170 (.ixA 1 none (t 161) (t 162)), n (.store 1 (t 170) (t 169))])
 (s (.ops [o 171 (.mv (t 5)), o 172 (.mv (t 15)), o 173 (.call (f 68) [(t 171), (t 172)]), o 16 (.mv (t 173))])
 (s (.draw [d 0 0 false (o 174 (.mv (t 5))), d 1 0 false (o 175 (.nilc (t 174))), d 2 0 false (o 176 (.off 2 (t 175))), d 3 0 false (o 177 (.load none (t 176))), d 4 0 false (o 178 (.mv (t 16))), d 5 0 false (o 179 (.ixA 1 none (t 177) (t 178))), d 6 0 false (o 180 (.load none (t 179))), d 7 0 false (o 181 (.mv (t 5))), d 8 0 false (o 182 (.nilc (t 181))), d 9 0 false (o 183 (.off 2 (t 182))), d 10 0 false (o 184 (.load none (t 183))), d 11 0 false (o 185 (.mv (t 15))), d 12 0 false (o 186 (.ixA 1 none (t 184) (t 185))), d 13 0 false (o 187 (.load none (t 186))), d 14 0 false (o 188 (.bin .lss (t 180) (t 187)))])
 (.cond (t 188) (.ops [o 189 (.mv (t 6)), o 190 (.mv (t 15)), o 191 (.mv (t 16)), o 192 (.ixA 1 none (t 189) (t 190)), n (.store 1 (t 192) (t 191))]) .skip))))))
 (s (.keep [1, 2, 5, 6, 7, 9, 10, 155, 156, 157])
 (.ops [o 193 (.bin .add (t 157) (c (i 1))), o 157 (.mv (t 193))]))))))
 (.keep [1, 2, 5, 6, 7, 9, 10, 155, 156, 157]))))))
 (s (.keep [1, 2, 5, 6, 7, 9, 10])
 (.ops [o 194 (.mv (t 7)), o 195 (.mv (t 5)), o 196 (.nilc (t 195)), o 197 (.off 1 (t 196)), o 198 (.load none (t 197)), o 199 (.mv (t 10)), o 200 (.ixA 1 none (t 198) (t 199)), o 201 (.load none (t 200)), o 202 (.ixA 1 none (t 194) (t 201)), n (.store 1 (t 202) (c (.slice none 0 0)))]))))))))))
 (s (.keep [1, 2, 5, 6, 7, 9])
 (.ops [o 61 (.mv (t 9)), o 62 (.bin .sub (t 61) (c (i 1))), o 9 (.mv (t 62))])))))
 (.keep [1, 2, 5, 6, 7, 9]))))))
 (s (.keep [2, 5, 6])
 (s (s (.ops [o 17 (.mv (c (i 1)))])
 (.block 8 (s (.keep [2, 5, 6, 17])
 (.loop (s (s (s (.ops [o 203 (.mv (t 17)), o 204 (.mv (t 5)), o 205 (.nilc (t 204)), o 206 (.off 0 (t 205)), o 207 (.load none (t 206)), o 208 (.len .slice (t 207)), o 209 (.bin .lss (t 203) (t 208))])
 (.cond (t 209) .skip (.exit 8)))
 (s (.keep [2, 5, 6, 17])
 (s (.block 9 (s (.ops [o 212 (.mv (t 5)), o 213 (.nilc (t 212)), o 214 (.off 0 (t 213)), o 215 (.load none (t 214)), o 216 (.mv (t 17)), o 217 (.ixA 1 none (t 215) (t 216)), o 218 (.load none (t 217)), o 18 (.mv (t 218))])
 (s (.draw [d 0 0 false (o 219 (.mv (t 6))), d 1 0 false (o 220 (.mv (t 18))), d 2 0 false (o 221 (.ixA 1 none (t 219) (t 220))), d 3 0 false (o 222 (.load none (t 221))), d 4 0 false (o 223 (.mv (t 5))), d 5 0 false (o 224 (.nilc (t 223))), d 6 0 false (o 225 (.off 0 (t 224))), d 7 0 false (o 226 (.load none (t 225))), d 8 0 false (o 227 (.mv (t 5))), d 9 0 false (o 228 (.nilc (t 227))), d 10 0 false (o 229 (.off 2 (t 228))), d 11 0 false (o 230 (.load none (t 229))), d 12 0 false (o 231 (.mv (t 18))), d 13 0 false (o 232 (.ixA 1 none (t 230) (t 231))), d 14 0 false (o 233 (.load none (t 232))), d 15 0 false (o 234 (.ixA 1 none (t 226) (t 233))), d 16 0 false (o 235 (.load none (t 234))), d 17 0 false (o 236 (.bin .neq (t 222) (t 235)))])
 (.cond (t 236) (.ops [o 237 (.mv (t 6)), o 238 (.mv (t 18)), o 239 (.mv (t 6)), o 240 (.mv (t 6)), o 241 (.mv (t 18)), o 242 (.ixA 1 none (t 240) (t 241)), o 243 (.load none (t 242)), o 244 (.ixA 1 none (t 239) (t 243)), o 245 (.load none (t 244)), o 246 (.ixA 1 none (t 237) (t 238)), n (.store 1 (t 246) (t 245))]) .skip))))
 (s (.keep [2, 5, 6, 17])
 (.ops [o 210 (.mv (t 17)), o 211 (.bin .add (t 210) (c (i 1))), o 17 (.mv (t 211))])))))
 (.keep [2, 5, 6, 17]))))))
 (s (.keep [2, 5, 6])
 (s (.ops [o 247 (.mv (t 6)), o 248 (.mv (t 5)), o 249 (.nilc (t 248)), o 250 (.off 0 (t 249)), o 251 (.load none (t 250)), o 252 (.call (f 69) [(t 247), (t 251)]), o 2 (.upd 3 0 (t 2) (t 252))])
 .ret)))))))))))))))⟩
theorem dom_Of_is : pgF n_dom_Of = some dom_Of_c := by kernel_rfl
noncomputable def dom_Of_j0 (J : JT (Value × St)) (v1 : Value) (v2 : Value) (v3 : Value) (v5 : Value) (v6 : Value) (v7 : Value) (st : St) : Res (Value × St) := goX J dom_Of_c.body [1, 1, 1, 1, 1, 1, 1, 1] (envT [(1, v1), (2, v2), (3, v3), (5, v5), (6, v6), (7, v7)]) st
noncomputable def dom_Of_l0 (J : JT (Value × St)) (v1 : Value) (v2 : Value) (v5 : Value) (v6 : Value) (v7 : Value) (v41 : Value) (v42 : Value) (st : St) : Res (Value × St) := lpX J dom_Of_c.body [1, 1, 1, 1, 1, 1, 1, 1, 0, 1, 0, 1] (envT [(1, v1), (2, v2), (5, v5), (6, v6), (7, v7), (41, v41), (42, v42)]) st
noncomputable def dom_Of_j1 (J : JT (Value × St)) (v1 : Value) (v2 : Value) (v5 : Value) (v6 : Value) (v7 : Value) (v41 : Value) (v42 : Value) (st : St) : Res (Value × St) := goX J dom_Of_c.body [1, 1, 1, 1, 1, 1, 1, 1, 0, 1, 0, 1, 0, 0, 1, 1, 1] (envT [(1, v1), (2, v2), (5, v5), (6, v6), (7, v7), (41, v41), (42, v42)]) st
noncomputable def dom_Of_j2 (J : JT (Value × St)) (v1 : Value) (v2 : Value) (v5 : Value) (v6 : Value) (v7 : Value) (st : St) : Res (Value × St) := goX J dom_Of_c.body [1, 1, 1, 1, 1, 1, 1, 1, 1, 1] (envT [(1, v1), (2, v2), (5, v5), (6, v6), (7, v7)]) st
noncomputable def dom_Of_j3 (J : JT (Value × St)) (v1 : Value) (v2 : Value) (v5 : Value) (v6 : Value) (v7 : Value) (v41 : Value) (v42 : Value) (st : St) : Res (Value × St) := goX J dom_Of_c.body [1, 1, 1, 1, 1, 1, 1, 1, 0, 1, 0, 1, 0, 0, 1, 1, 1, 1, 1] (envT [(1, v1), (2, v2), (5, v5), (6, v6), (7, v7), (41, v41), (42, v42)]) st
noncomputable def dom_Of_l1 (J : JT (Value × St)) (v1 : Value) (v2 : Value) (v5 : Value) (v6 : Value) (v7 : Value) (v9 : Value) (st : St) : Res (Value × St) := lpX J dom_Of_c.body [1, 1, 1, 1, 1, 1, 1, 1, 1, 1, 0, 1, 0, 1] (envT [(1, v1), (2, v2), (5, v5), (6, v6), (7, v7), (9, v9)]) st
noncomputable def dom_Of_j4 (J : JT (Value × St)) (v1 : Value) (v2 : Value) (v5 : Value) (v6 : Value) (v7 : Value) (v9 : Value) (st : St) : Res (Value × St) := goX J dom_Of_c.body [1, 1, 1, 1, 1, 1, 1, 1, 1, 1, 0, 1, 0, 1, 0, 0, 1, 1] (envT [(1, v1), (2, v2), (5, v5), (6, v6), (7, v7), (9, v9)]) st
noncomputable def dom_Of_j5 (J : JT (Value × St)) (v2 : Value) (v5 : Value) (v6 : Value) (st : St) : Res (Value × St) := goX J dom_Of_c.body [1, 1, 1, 1, 1, 1, 1, 1, 1, 1, 1, 1] (envT [(2, v2), (5, v5), (6, v6)]) st
noncomputable def dom_Of_l2 (J : JT (Value × St)) (v1 : Value) (v2 : Value) (v5 : Value) (v6 : Value) (v7 : Value) (v9 : Value) (v10 : Value) (v72 : Value) (v73 : Value) (v74 : Value) (st : St) : Res (Value × St) := lpX J dom_Of_c.body [1, 1, 1, 1, 1, 1, 1, 1, 1, 1, 0, 1, 0, 1, 0, 0, 1, 1, 0, 0, 1, 0, 1, 0, 1] (envT [(1, v1), (2, v2), (5, v5), (6, v6), (7, v7), (9, v9), (10, v10), (72, v72), (73, v73), (74, v74)]) st
noncomputable def dom_Of_l3 (J : JT (Value × St)) (v2 : Value) (v5 : Value) (v6 : Value) (v17 : Value) (st : St) : Res (Value × St) := lpX J dom_Of_c.body [1, 1, 1, 1, 1, 1, 1, 1, 1, 1, 1, 1, 0, 1, 0, 1] (envT [(2, v2), (5, v5), (6, v6), (17, v17)]) st
noncomputable def dom_Of_j6 (J : JT (Value × St)) (v1 : Value) (v2 : Value) (v5 : Value) (v6 : Value) (v7 : Value) (v9 : Value) (v10 : Value) (v72 : Value) (v73 : Value) (v74 : Value) (st : St) : Res (Value × St) := goX J dom_Of_c.body [1, 1, 1, 1, 1, 1, 1, 1, 1, 1, 0, 1, 0, 1, 0, 0, 1, 1, 0, 0, 1, 0, 1, 0, 1, 0, 0, 1, 1, 1] (envT [(1, v1), (2, v2), (5, v5), (6, v6), (7, v7), (9, v9), (10, v10), (72, v72), (73, v73), (74, v74)]) st
noncomputable def dom_Of_j7 (J : JT (Value × St)) (v1 : Value) (v2 : Value) (v5 : Value) (v6 : Value) (v7 : Value) (v9 : Value) (v10 : Value) (st : St) : Res (Value × St) := goX J dom_Of_c.body [1, 1, 1, 1, 1, 1, 1, 1, 1, 1, 0, 1, 0, 1, 0, 0, 1, 1, 0, 0, 1, 1, 1] (envT [(1, v1), (2, v2), (5, v5), (6, v6), (7, v7), (9, v9), (10, v10)]) st
noncomputable def dom_Of_j8 (J : JT (Value × St)) (v2 : Value) (v5 : Value) (v6 : Value) (v17 : Value) (st : St) : Res (Value × St) := goX J dom_Of_c.body [1, 1, 1, 1, 1, 1, 1, 1, 1, 1, 1, 1, 0, 1, 0, 1, 0, 0, 1, 1] (envT [(2, v2), (5, v5), (6, v6), (17, v17)]) st
noncomputable def dom_Of_j9 (J : JT (Value × St)) (v2 : Value) (v5 : Value) (v6 : Value) (st : St) : Res (Value × St) := goX J dom_Of_c.body [1, 1, 1, 1, 1, 1, 1, 1, 1, 1, 1, 1, 1, 1] (envT [(2, v2), (5, v5), (6, v6)]) st
noncomputable def dom_Of_j10 (J : JT (Value × St)) (v1 : Value) (v2 : Value) (v5 : Value) (v6 : Value) (v7 : Value) (v9 : Value) (v10 : Value) (v72 : Value) (v73 : Value) (v74 : Value) (st : St) : Res (Value × St) := goX J dom_Of_c.body [1, 1, 1, 1, 1, 1, 1, 1, 1, 1, 0, 1, 0, 1, 0, 0, 1, 1, 0, 0, 1, 0, 1, 0, 1, 0, 0, 1, 1, 1, 1, 1] (envT [(1, v1), (2, v2), (5, v5), (6, v6), (7, v7), (9, v9), (10, v10), (72, v72), (73, v73), (74, v74)]) st
noncomputable def dom_Of_l4 (J : JT (Value × St)) (v1 : Value) (v2 : Value) (v5 : Value) (v6 : Value) (v7 : Value) (v9 : Value) (v10 : Value) (v155 : Value) (v156 : Value) (v157 : Value) (st : St) : Res (Value × St) := lpX J dom_Of_c.body [1, 1, 1, 1, 1, 1, 1, 1, 1, 1, 0, 1, 0, 1, 0, 0, 1, 1, 0, 0, 1, 1, 1, 1, 1, 1, 0, 1, 0, 1] (envT [(1, v1), (2, v2), (5, v5), (6, v6), (7, v7), (9, v9), (10, v10), (155, v155), (156, v156), (157, v157)]) st
noncomputable def dom_Of_j11 (J : JT (Value × St)) (v2 : Value) (v5 : Value) (v6 : Value) (v17 : Value) (st : St) : Res (Value × St) := goX J dom_Of_c.body [1, 1, 1, 1, 1, 1, 1, 1, 1, 1, 1, 1, 0, 1, 0, 1, 0, 0, 1, 1, 1, 1] (envT [(2, v2), (5, v5), (6, v6), (17, v17)]) st
noncomputable def dom_Of_j12 (J : JT (Value × St)) (v1 : Value) (v2 : Value) (v5 : Value) (v6 : Value) (v7 : Value) (v9 : Value) (v10 : Value) (v155 : Value) (v156 : Value) (v157 : Value) (st : St) : Res (Value × St) := goX J dom_Of_c.body [1, 1, 1, 1, 1, 1, 1, 1, 1, 1, 0, 1, 0, 1, 0, 0, 1, 1, 0, 0, 1, 1, 1, 1, 1, 1, 0, 1, 0, 1, 0, 0, 1, 1, 1] (envT [(1, v1), (2, v2), (5, v5), (6, v6), (7, v7), (9, v9), (10, v10), (155, v155), (156, v156), (157, v157)]) st
noncomputable def dom_Of_j13 (J : JT (Value × St)) (v1 : Value) (v2 : Value) (v5 : Value) (v6 : Value) (v7 : Value) (v9 : Value) (v10 : Value) (st : St) : Res (Value × St) := goX J dom_Of_c.body [1, 1, 1, 1, 1, 1, 1, 1, 1, 1, 0, 1, 0, 1, 0, 0, 1, 1, 0, 0, 1, 1, 1, 1, 1, 1, 1, 1] (envT [(1, v1), (2, v2), (5, v5), (6, v6), (7, v7), (9, v9), (10, v10)]) st
noncomputable def dom_Of_j14 (J : JT (Value × St)) (v1 : Value) (v2 : Value) (v5 : Value) (v6 : Value) (v7 : Value) (v9 : Value) (v10 : Value) (v155 : Value) (v156 : Value) (v157 : Value) (st : St) : Res (Value × St) := goX J dom_Of_c.body [1, 1, 1, 1, 1, 1, 1, 1, 1, 1, 0, 1, 0, 1, 0, 0, 1, 1, 0, 0, 1, 1, 1, 1, 1, 1, 0, 1, 0, 1, 0, 0, 1, 1, 1, 1, 1] (envT [(1, v1), (2, v2), (5, v5), (6, v6), (7, v7), (9, v9), (10, v10), (155, v155), (156, v156), (157, v157)]) st
noncomputable def dom_Of_j15 (J : JT (Value × St)) (v1 : Value) (v2 : Value) (v5 : Value) (v6 : Value) (v7 : Value) (v9 : Value) (st : St) : Res (Value × St) := goX J dom_Of_c.body [1, 1, 1, 1, 1, 1, 1, 1, 1, 1, 0, 1, 0, 1, 0, 0, 1, 1, 1, 1] (envT [(1, v1), (2, v2), (5, v5), (6, v6), (7, v7), (9, v9)]) st
theorem dom_Of_eq (K : Ctx) (J : JT (Value × St)) (a0 : Value) (st : St) : atX K J dom_Of_c (AM.start [a0]) st =
  (.thn st (sLbox a0 st) fun p1 =>
  .thn p1.2 (sLnew [(.slice none 0 0), (.slice none 0 0), (.slice none 0 0)] p1.2) fun p2 =>
  .thn p2.2 (sField (some 2) 0 p1.1 p2.2) fun p3 =>
  .thn p3.2 (K.go (.call n_graph_Graph_Len [p3.1]) p3.2) fun p4 =>
  .thn p4.2 (sNew [(.int .i64 0)] p4.2) fun p5 =>
  .thn p5.2 (sStore 1 p5.1 p4.1 p5.2) fun p6 =>
  .thn p6.2 (sCall K (.func (.func n_dom_Of_1) #[] #[p5.1]) [] p6.2) fun p7 =>
  .thn p7.2 (sCall K (.func (.func n_dom_Of_1) #[] #[p5.1]) [] p7.2) fun p8 =>
  .thn p8.2 (sCall K (.func (.func n_dom_Of_1) #[] #[p5.1]) [] p8.2) fun p9 =>
  .thn p9.2 (sCall K (.func (.func n_dom_Of_1) #[] #[p5.1]) [] p9.2) fun p10 =>
  .thn p10.2 (sBuild [(.slice none 0 0), (.slice none 0 0), (.slice none 0 0), (.slice none 0 0), (.slice none 0 0)] [(1, 1, p7.1), (2, 1, p8.1), (3, 1, p9.1), (4, 1, p10.1)] p10.2) fun p11 =>
  .thn p11.2 (sBox p11.1 p11.2) fun p12 =>
  .thn p12.2 (sCall K (.func (.func n_dom_Of_1) #[] #[p5.1]) [] p12.2) fun p13 =>
  .thn p13.2 (sLoad none p5.1 p13.2) fun p14 =>
  .thn p14.2 (sMkSlice 1 24 [(.slice none 0 0)] p14.1 p14.1 p14.2) fun p15 =>
  .thn p15.2 (sLoad none p5.1 p15.2) fun p16 =>
  .thn p16.2 (sBin .gtr p16.1 (.int .i64 0) p16.2) fun p17 =>
  condX p17.1
  (.thn p17.2 (sField (some 2) 0 p1.1 p17.2) fun p18 =>
  .thn p18.2 (K.go (.call n_dom_finder_visit [p12.1, p18.1, (.int .i64 0)]) p18.2) fun p19 =>
  dom_Of_j0 J p1.1 p2.1 p5.1 p12.1 p13.1 p15.1 p19.2)
  (dom_Of_j0 J p1.1 p2.1 p5.1 p12.1 p13.1 p15.1 p17.2)) := by kernel_rfl
theorem dom_Of_of {K : Ctx} (hF : Fix pgF K) {a0 : Value} {st : St} {Q : Value × St → Prop} (h : ∀ J, IsJ K (retK dom_Of_c.results) J → Ok (atX K J dom_Of_c (AM.start [a0]) st) Q) : Ok (K.go (.call n_dom_Of [a0]) st) Q := call_of hF dom_Of_is rfl h
theorem dom_Of_j0_eq {K : Ctx} {J : JT (Value × St)} (hJ : IsJ K (retK dom_Of_c.results) J) (v1 : Value) (v2 : Value) (v3 : Value) (v5 : Value) (v6 : Value) (v7 : Value) (st : St) : dom_Of_j0 J v1 v2 v3 v5 v6 v7 st =
  (.thn st (sLoad none v3 st) fun p1 =>
  dom_Of_l0 J v1 v2 v5 v6 v7 p1.1 (.int .i64 0) p1.2) := (go_eq hJ _ _ _ _).trans (by kernel_rfl)
theorem dom_Of_l0_eq (K : Ctx) (J : JT (Value × St)) (v1 : Value) (v2 : Value) (v5 : Value) (v6 : Value) (v7 : Value) (v41 : Value) (v42 : Value) (st : St) : inX K J (retK dom_Of_c.results) dom_Of_c.body [1, 1, 1, 1, 1, 1, 1, 1, 0, 1, 0, 1] (envT [(1, v1), (2, v2), (5, v5), (6, v6), (7, v7), (41, v41), (42, v42)]) st =
  (.thn st (sBin .lss v42 v41 st) fun p1 =>
  condX p1.1
  (dom_Of_j1 J v1 v2 v5 v6 v7 v41 v42 p1.2)
  (dom_Of_j2 J v1 v2 v5 v6 v7 p1.2)) := by kernel_rfl
theorem dom_Of_l0_of {K : Ctx} (hF : Fix pgF K) {J : JT (Value × St)} (hJ : IsJ K (retK dom_Of_c.results) J) {v1 : Value} {v2 : Value} {v5 : Value} {v6 : Value} {v7 : Value} {v41 : Value} {v42 : Value} {st : St} {Q : Value × St → Prop} (h : Ok (inX K J (retK dom_Of_c.results) dom_Of_c.body [1, 1, 1, 1, 1, 1, 1, 1, 0, 1, 0, 1] (envT [(1, v1), (2, v2), (5, v5), (6, v6), (7, v7), (41, v41), (42, v42)]) st) Q) : Ok (dom_Of_l0 J v1 v2 v5 v6 v7 v41 v42 st) Q := loop_of hF hJ h
theorem dom_Of_j1_eq {K : Ctx} {J : JT (Value × St)} (hJ : IsJ K (retK dom_Of_c.results) J) (v1 : Value) (v2 : Value) (v5 : Value) (v6 : Value) (v7 : Value) (v41 : Value) (v42 : Value) (st : St) : dom_Of_j1 J v1 v2 v5 v6 v7 v41 v42 st =
  (.thn st (sNilc v5 st) fun p1 =>
  .thn p1.2 (sOff 4 p1.1 p1.2) fun p2 =>
  .thn p2.2 (sLoad none p2.1 p2.2) fun p3 =>
  .thn p3.2 (sIxA 1 none p3.1 v42 p3.2) fun p4 =>
  .thn p4.2 (sStore 1 p4.1 v42 p4.2) fun p5 =>
  dom_Of_j3 J v1 v2 v5 v6 v7 v41 v42 p5.2) := (go_eq hJ _ _ _ _).trans (by kernel_rfl)
theorem dom_Of_j2_eq {K : Ctx} {J : JT (Value × St)} (hJ : IsJ K (retK dom_Of_c.results) J) (v1 : Value) (v2 : Value) (v5 : Value) (v6 : Value) (v7 : Value) (st : St) : dom_Of_j2 J v1 v2 v5 v6 v7 st =
  (.thn st (sNilc v5 st) fun p1 =>
  .thn p1.2 (sOff 0 p1.1 p1.2) fun p2 =>
  .thn p2.2 (sLoad none p2.1 p2.2) fun p3 =>
  .thn p3.2 (sLen .slice p3.1 p3.2) fun p4 =>
  .thn p4.2 (sBin .sub p4.1 (.int .i64 1) p4.2) fun p5 =>
  dom_Of_l1 J v1 v2 v5 v6 v7 p5.1 p5.2) := (go_eq hJ _ _ _ _).trans (by kernel_rfl)
theorem dom_Of_j3_eq {K : Ctx} {J : JT (Value × St)} (hJ : IsJ K (retK dom_Of_c.results) J) (v1 : Value) (v2 : Value) (v5 : Value) (v6 : Value) (v7 : Value) (v41 : Value) (v42 : Value) (st : St) : dom_Of_j3 J v1 v2 v5 v6 v7 v41 v42 st =
  (.thn st (sBin .add v42 (.int .i64 1) st) fun p1 =>
  dom_Of_l0 J v1 v2 v5 v6 v7 v41 p1.1 p1.2) := (go_eq hJ _ _ _ _).trans (by kernel_rfl)
theorem dom_Of_l1_eq (K : Ctx) (J : JT (Value × St)) (v1 : Value) (v2 : Value) (v5 : Value) (v6 : Value) (v7 : Value) (v9 : Value) (st : St) : inX K J (retK dom_Of_c.results) dom_Of_c.body [1, 1, 1, 1, 1, 1, 1, 1, 1, 1, 0, 1, 0, 1] (envT [(1, v1), (2, v2), (5, v5), (6, v6), (7, v7), (9, v9)]) st =
  (.thn st (sBin .gtr v9 (.int .i64 0) st) fun p1 =>
  condX p1.1
  (dom_Of_j4 J v1 v2 v5 v6 v7 v9 p1.2)
  (dom_Of_j5 J v2 v5 v6 p1.2)) := by kernel_rfl
theorem dom_Of_l1_of {K : Ctx} (hF : Fix pgF K) {J : JT (Value × St)} (hJ : IsJ K (retK dom_Of_c.results) J) {v1 : Value} {v2 : Value} {v5 : Value} {v6 : Value} {v7 : Value} {v9 : Value} {st : St} {Q : Value × St → Prop} (h : Ok (inX K J (retK dom_Of_c.results) dom_Of_c.body [1, 1, 1, 1, 1, 1, 1, 1, 1, 1, 0, 1, 0, 1] (envT [(1, v1), (2, v2), (5, v5), (6, v6), (7, v7), (9, v9)]) st) Q) : Ok (dom_Of_l1 J v1 v2 v5 v6 v7 v9 st) Q := loop_of hF hJ h
theorem dom_Of_j4_eq {K : Ctx} {J : JT (Value × St)} (hJ : IsJ K (retK dom_Of_c.results) J) (v1 : Value) (v2 : Value) (v5 : Value) (v6 : Value) (v7 : Value) (v9 : Value) (st : St) : dom_Of_j4 J v1 v2 v5 v6 v7 v9 st =
  (.thn st (sNilc v5 st) fun p1 =>
  .thn p1.2 (sOff 0 p1.1 p1.2) fun p2 =>
  .thn p2.2 (sLoad none p2.1 p2.2) fun p3 =>
  .thn p3.2 (sIxA 1 none p3.1 v9 p3.2) fun p4 =>
  .thn p4.2 (sLoad none p4.1 p4.2) fun p5 =>
  .thn p5.2 (sField (some 2) 0 v1 p5.2) fun p6 =>
  .thn p6.2 (K.go (.call n_graph_Graph_Ahead [p6.1, p5.1]) p6.2) fun p7 =>
  .thn p7.2 (sLen .slice p7.1 p7.2) fun p8 =>
  dom_Of_l2 J v1 v2 v5 v6 v7 v9 p5.1 p7.1 p8.1 (.int .i64 0) p8.2) := (go_eq hJ _ _ _ _).trans (by kernel_rfl)
theorem dom_Of_j5_eq {K : Ctx} {J : JT (Value × St)} (hJ : IsJ K (retK dom_Of_c.results) J) (v2 : Value) (v5 : Value) (v6 : Value) (st : St) : dom_Of_j5 J v2 v5 v6 st =
  (dom_Of_l3 J v2 v5 v6 (.int .i64 1) st) := (go_eq hJ _ _ _ _).trans (by kernel_rfl)
theorem dom_Of_l2_eq (K : Ctx) (J : JT (Value × St)) (v1 : Value) (v2 : Value) (v5 : Value) (v6 : Value) (v7 : Value) (v9 : Value) (v10 : Value) (v72 : Value) (v73 : Value) (v74 : Value) (st : St) : inX K J (retK dom_Of_c.results) dom_Of_c.body [1, 1, 1, 1, 1, 1, 1, 1, 1, 1, 0, 1, 0, 1, 0, 0, 1, 1, 0, 0, 1, 0, 1, 0, 1] (envT [(1, v1), (2, v2), (5, v5), (6, v6), (7, v7), (9, v9), (10, v10), (72, v72), (73, v73), (74, v74)]) st =
  (.thn st (sBin .lss v74 v73 st) fun p1 =>
  condX p1.1
  (dom_Of_j6 J v1 v2 v5 v6 v7 v9 v10 v72 v73 v74 p1.2)
  (dom_Of_j7 J v1 v2 v5 v6 v7 v9 v10 p1.2)) := by kernel_rfl
theorem dom_Of_l2_of {K : Ctx} (hF : Fix pgF K) {J : JT (Value × St)} (hJ : IsJ K (retK dom_Of_c.results) J) {v1 : Value} {v2 : Value} {v5 : Value} {v6 : Value} {v7 : Value} {v9 : Value} {v10 : Value} {v72 : Value} {v73 : Value} {v74 : Value} {st : St} {Q : Value × St → Prop} (h : Ok (inX K J (retK dom_Of_c.results) dom_Of_c.body [1, 1, 1, 1, 1, 1, 1, 1, 1, 1, 0, 1, 0, 1, 0, 0, 1, 1, 0, 0, 1, 0, 1, 0, 1] (envT [(1, v1), (2, v2), (5, v5), (6, v6), (7, v7), (9, v9), (10, v10), (72, v72), (73, v73), (74, v74)]) st) Q) : Ok (dom_Of_l2 J v1 v2 v5 v6 v7 v9 v10 v72 v73 v74 st) Q := loop_of hF hJ h
theorem dom_Of_l3_eq (K : Ctx) (J : JT (Value × St)) (v2 : Value) (v5 : Value) (v6 : Value) (v17 : Value) (st : St) : inX K J (retK dom_Of_c.results) dom_Of_c.body [1, 1, 1, 1, 1, 1, 1, 1, 1, 1, 1, 1, 0, 1, 0, 1] (envT [(2, v2), (5, v5), (6, v6), (17, v17)]) st =
  (.thn st (sNilc v5 st) fun p1 =>
  .thn p1.2 (sOff 0 p1.1 p1.2) fun p2 =>
  .thn p2.2 (sLoad none p2.1 p2.2) fun p3 =>
  .thn p3.2 (sLen .slice p3.1 p3.2) fun p4 =>
  .thn p4.2 (sBin .lss v17 p4.1 p4.2) fun p5 =>
  condX p5.1
  (dom_Of_j8 J v2 v5 v6 v17 p5.2)
  (dom_Of_j9 J v2 v5 v6 p5.2)) := by kernel_rfl
theorem dom_Of_l3_of {K : Ctx} (hF : Fix pgF K) {J : JT (Value × St)} (hJ : IsJ K (retK dom_Of_c.results) J) {v2 : Value} {v5 : Value} {v6 : Value} {v17 : Value} {st : St} {Q : Value × St → Prop} (h : Ok (inX K J (retK dom_Of_c.results) dom_Of_c.body [1, 1, 1, 1, 1, 1, 1, 1, 1, 1, 1, 1, 0, 1, 0, 1] (envT [(2, v2), (5, v5), (6, v6), (17, v17)]) st) Q) : Ok (dom_Of_l3 J v2 v5 v6 v17 st) Q := loop_of hF hJ h
theorem dom_Of_j6_eq {K : Ctx} {J : JT (Value × St)} (hJ : IsJ K (retK dom_Of_c.results) J) (v1 : Value) (v2 : Value) (v5 : Value) (v6 : Value) (v7 : Value) (v9 : Value) (v10 : Value) (v72 : Value) (v73 : Value) (v74 : Value) (st : St) : dom_Of_j6 J v1 v2 v5 v6 v7 v9 v10 v72 v73 v74 st =
  (.thn st (sIxA 1 none v72 v74 st) fun p1 =>
  .thn p1.2 (sLoad none p1.1 p1.2) fun p2 =>
  .thn p2.2 (sNilc v5 p2.2) fun p3 =>
  .thn p3.2 (sOff 2 p3.1 p3.2) fun p4 =>
  .thn p4.2 (sLoad none p4.1 p4.2) fun p5 =>
  .thn p5.2 (sIxA 1 none p5.1 p2.1 p5.2) fun p6 =>
  .thn p6.2 (sLoad none p6.1 p6.2) fun p7 =>
  .thn p7.2 (sBin .geq p7.1 (.int .i64 0) p7.2) fun p8 =>
  condX p8.1
  (.thn p8.2 (K.go (.call n_dom_finder_eval [v5, p2.1]) p8.2) fun p9 =>
  .thn p9.2 (sNilc v5 p9.2) fun p10 =>
  .thn p10.2 (sOff 2 p10.1 p10.2) fun p11 =>
  .thn p11.2 (sLoad none p11.1 p11.2) fun p12 =>
  Res.need (sStays (List.take 1 (p8.2 :: [])) p9.2.next p11.1 (fun s => sLoad none p11.1 s) p12.1) "order" >>= fun _ =>
  .thn p12.2 (sNilc v5 p12.2) fun p13 =>
  .thn p13.2 (sOff 2 p13.1 p13.2) fun p14 =>
  .thn p14.2 (sLoad none p14.1 p14.2) fun p15 =>
  Res.need (sStays (List.take 1 (p8.2 :: [])) p9.2.next p14.1 (fun s => sLoad none p14.1 s) p15.1) "order" >>= fun _ =>
  .thn p15.2 (sIxA 1 none p15.1 v10 p15.2) fun p16 =>
  .thn p16.2 (sLoad none p16.1 p16.2) fun p17 =>
  Res.need (sStays (List.take 1 (p8.2 :: [])) p9.2.next p16.1 (fun s => sLoad none p16.1 s) p17.1) "order" >>= fun _ =>
  .thn p17.2 (sNilc v5 p17.2) fun p18 =>
  .thn p18.2 (sOff 2 p18.1 p18.2) fun p19 =>
  .thn p19.2 (sLoad none p19.1 p19.2) fun p20 =>
  Res.need (sStays (List.take 1 (p8.2 :: [])) p9.2.next p19.1 (fun s => sLoad none p19.1 s) p20.1) "order" >>= fun _ =>
  .thn p20.2 (sIxA 1 none p20.1 p9.1 p20.2) fun p21 =>
  .thn p21.2 (sLoad none p21.1 p21.2) fun p22 =>
  .thn p22.2 (sMinmax false p17.1 [p22.1] p22.2) fun p23 =>
  .thn p23.2 (sIxA 1 none p12.1 v10 p23.2) fun p24 =>
  .thn p24.2 (sStore 1 p24.1 p23.1 p24.2) fun p25 =>
  dom_Of_j10 J v1 v2 v5 v6 v7 v9 v10 v72 v73 v74 p25.2)
  (dom_Of_j10 J v1 v2 v5 v6 v7 v9 v10 v72 v73 v74 p8.2)) := (go_eq hJ _ _ _ _).trans (by kernel_rfl)
theorem dom_Of_j7_eq {K : Ctx} {J : JT (Value × St)} (hJ : IsJ K (retK dom_Of_c.results) J) (v1 : Value) (v2 : Value) (v5 : Value) (v6 : Value) (v7 : Value) (v9 : Value) (v10 : Value) (st : St) : dom_Of_j7 J v1 v2 v5 v6 v7 v9 v10 st =
  (.thn st (sNilc v5 st) fun p1 =>
  .thn p1.2 (sOff 0 p1.1 p1.2) fun p2 =>
  .thn p2.2 (sLoad none p2.1 p2.2) fun p3 =>
  .thn p3.2 (sNilc v5 p3.2) fun p4 =>
  .thn p4.2 (sOff 2 p4.1 p4.2) fun p5 =>
  .thn p5.2 (sLoad none p5.1 p5.2) fun p6 =>
  .thn p6.2 (sIxA 1 none p6.1 v10 p6.2) fun p7 =>
  .thn p7.2 (sLoad none p7.1 p7.2) fun p8 =>
  .thn p8.2 (sIxA 1 none p3.1 p8.1 p8.2) fun p9 =>
  .thn p9.2 (sLoad none p9.1 p9.2) fun p10 =>
  .thn p10.2 (sIxA 1 none v7 p10.1 p10.2) fun p11 =>
  .thn p11.2 (sLoad none p11.1 p11.2) fun p12 =>
  .thn p12.2 (sLit 1 1 [(.int .i64 0)] [(0, 1, v10)] p12.2) fun p13 =>
  .thn p13.2 (sAppend 1 8 p12.1 p13.1 p13.2) fun p14 =>
  .thn p14.2 (sIxA 1 none v7 p10.1 p14.2) fun p15 =>
  .thn p15.2 (sStore 1 p15.1 p14.1 p15.2) fun p16 =>
  .thn p16.2 (sNilc v5 p16.2) fun p17 =>
  .thn p17.2 (sOff 3 p17.1 p17.2) fun p18 =>
  .thn p18.2 (sLoad none p18.1 p18.2) fun p19 =>
  .thn p19.2 (sNilc v5 p19.2) fun p20 =>
  .thn p20.2 (sOff 1 p20.1 p20.2) fun p21 =>
  .thn p21.2 (sLoad none p21.1 p21.2) fun p22 =>
  .thn p22.2 (sIxA 1 none p22.1 v10 p22.2) fun p23 =>
  .thn p23.2 (sLoad none p23.1 p23.2) fun p24 =>
  .thn p24.2 (sIxA 1 none p19.1 v10 p24.2) fun p25 =>
  .thn p25.2 (sStore 1 p25.1 p24.1 p25.2) fun p26 =>
  .thn p26.2 (sNilc v5 p26.2) fun p27 =>
  .thn p27.2 (sOff 1 p27.1 p27.2) fun p28 =>
  .thn p28.2 (sLoad none p28.1 p28.2) fun p29 =>
  .thn p29.2 (sIxA 1 none p29.1 v10 p29.2) fun p30 =>
  .thn p30.2 (sLoad none p30.1 p30.2) fun p31 =>
  .thn p31.2 (sIxA 1 none v7 p31.1 p31.2) fun p32 =>
  .thn p32.2 (sLoad none p32.1 p32.2) fun p33 =>
  .thn p33.2 (sLen .slice p33.1 p33.2) fun p34 =>
  dom_Of_l4 J v1 v2 v5 v6 v7 v9 v10 p33.1 p34.1 (.int .i64 0) p34.2) := (go_eq hJ _ _ _ _).trans (by kernel_rfl)
theorem dom_Of_j8_eq {K : Ctx} {J : JT (Value × St)} (hJ : IsJ K (retK dom_Of_c.results) J) (v2 : Value) (v5 : Value) (v6 : Value) (v17 : Value) (st : St) : dom_Of_j8 J v2 v5 v6 v17 st =
  (.thn st (sNilc v5 st) fun p1 =>
  .thn p1.2 (sOff 0 p1.1 p1.2) fun p2 =>
  .thn p2.2 (sLoad none p2.1 p2.2) fun p3 =>
  .thn p3.2 (sIxA 1 none p3.1 v17 p3.2) fun p4 =>
  .thn p4.2 (sLoad none p4.1 p4.2) fun p5 =>
  .thn p5.2 (sIxA 1 none v6 p5.1 p5.2) fun p6 =>
  .thn p6.2 (sLoad none p6.1 p6.2) fun p7 =>
  .thn p7.2 (sNilc v5 p7.2) fun p8 =>
  .thn p8.2 (sOff 0 p8.1 p8.2) fun p9 =>
  .thn p9.2 (sLoad none p9.1 p9.2) fun p10 =>
  .thn p10.2 (sNilc v5 p10.2) fun p11 =>
  .thn p11.2 (sOff 2 p11.1 p11.2) fun p12 =>
  .thn p12.2 (sLoad none p12.1 p12.2) fun p13 =>
  .thn p13.2 (sIxA 1 none p13.1 p5.1 p13.2) fun p14 =>
  .thn p14.2 (sLoad none p14.1 p14.2) fun p15 =>
  .thn p15.2 (sIxA 1 none p10.1 p15.1 p15.2) fun p16 =>
  .thn p16.2 (sLoad none p16.1 p16.2) fun p17 =>
  .thn p17.2 (sBin .neq p7.1 p17.1 p17.2) fun p18 =>
  condX p18.1
  (.thn p18.2 (sIxA 1 none v6 p5.1 p18.2) fun p19 =>
  .thn p19.2 (sLoad none p19.1 p19.2) fun p20 =>
  .thn p20.2 (sIxA 1 none v6 p20.1 p20.2) fun p21 =>
  .thn p21.2 (sLoad none p21.1 p21.2) fun p22 =>
  .thn p22.2 (sIxA 1 none v6 p5.1 p22.2) fun p23 =>
  .thn p23.2 (sStore 1 p23.1 p22.1 p23.2) fun p24 =>
  dom_Of_j11 J v2 v5 v6 v17 p24.2)
  (dom_Of_j11 J v2 v5 v6 v17 p18.2)) := (go_eq hJ _ _ _ _).trans (by kernel_rfl)
theorem dom_Of_j9_eq {K : Ctx} {J : JT (Value × St)} (hJ : IsJ K (retK dom_Of_c.results) J) (v2 : Value) (v5 : Value) (v6 : Value) (st : St) : dom_Of_j9 J v2 v5 v6 st =
  (.thn st (sNilc v5 st) fun p1 =>
  .thn p1.2 (sOff 0 p1.1 p1.2) fun p2 =>
  .thn p2.2 (sLoad none p2.1 p2.2) fun p3 =>
  .thn p3.2 (K.go (.call n_dom_tree [v6, p3.1]) p3.2) fun p4 =>
  .thn p4.2 (sUpd 3 0 v2 p4.1 p4.2) fun p5 =>
  (sField (some 3) 0 p5.1 p5.2 >>= fun p6 => .ok [p6.1]) >>= fun vs => .ok (oneOf vs, p5.2)) := (go_eq hJ _ _ _ _).trans (by kernel_rfl)
theorem dom_Of_j10_eq {K : Ctx} {J : JT (Value × St)} (hJ : IsJ K (retK dom_Of_c.results) J) (v1 : Value) (v2 : Value) (v5 : Value) (v6 : Value) (v7 : Value) (v9 : Value) (v10 : Value) (v72 : Value) (v73 : Value) (v74 : Value) (st : St) : dom_Of_j10 J v1 v2 v5 v6 v7 v9 v10 v72 v73 v74 st =
  (.thn st (sBin .add v74 (.int .i64 1) st) fun p1 =>
  dom_Of_l2 J v1 v2 v5 v6 v7 v9 v10 v72 v73 p1.1 p1.2) := (go_eq hJ _ _ _ _).trans (by kernel_rfl)
theorem dom_Of_l4_eq (K : Ctx) (J : JT (Value × St)) (v1 : Value) (v2 : Value) (v5 : Value) (v6 : Value) (v7 : Value) (v9 : Value) (v10 : Value) (v155 : Value) (v156 : Value) (v157 : Value) (st : St) : inX K J (retK dom_Of_c.results) dom_Of_c.body [1, 1, 1, 1, 1, 1, 1, 1, 1, 1, 0, 1, 0, 1, 0, 0, 1, 1, 0, 0, 1, 1, 1, 1, 1, 1, 0, 1, 0, 1] (envT [(1, v1), (2, v2), (5, v5), (6, v6), (7, v7), (9, v9), (10, v10), (155, v155), (156, v156), (157, v157)]) st =
  (.thn st (sBin .lss v157 v156 st) fun p1 =>
  condX p1.1
  (dom_Of_j12 J v1 v2 v5 v6 v7 v9 v10 v155 v156 v157 p1.2)
  (dom_Of_j13 J v1 v2 v5 v6 v7 v9 v10 p1.2)) := by kernel_rfl
theorem dom_Of_l4_of {K : Ctx} (hF : Fix pgF K) {J : JT (Value × St)} (hJ : IsJ K (retK dom_Of_c.results) J) {v1 : Value} {v2 : Value} {v5 : Value} {v6 : Value} {v7 : Value} {v9 : Value} {v10 : Value} {v155 : Value} {v156 : Value} {v157 : Value} {st : St} {Q : Value × St → Prop} (h : Ok (inX K J (retK dom_Of_c.results) dom_Of_c.body [1, 1, 1, 1, 1, 1, 1, 1, 1, 1, 0, 1, 0, 1, 0, 0, 1, 1, 0, 0, 1, 1, 1, 1, 1, 1, 0, 1, 0, 1] (envT [(1, v1), (2, v2), (5, v5), (6, v6), (7, v7), (9, v9), (10, v10), (155, v155), (156, v156), (157, v157)]) st) Q) : Ok (dom_Of_l4 J v1 v2 v5 v6 v7 v9 v10 v155 v156 v157 st) Q := loop_of hF hJ h
theorem dom_Of_j11_eq {K : Ctx} {J : JT (Value × St)} (hJ : IsJ K (retK dom_Of_c.results) J) (v2 : Value) (v5 : Value) (v6 : Value) (v17 : Value) (st : St) : dom_Of_j11 J v2 v5 v6 v17 st =
  (.thn st (sBin .add v17 (.int .i64 1) st) fun p1 =>
  dom_Of_l3 J v2 v5 v6 p1.1 p1.2) := (go_eq hJ _ _ _ _).trans (by kernel_rfl)
theorem dom_Of_j12_eq {K : Ctx} {J : JT (Value × St)} (hJ : IsJ K (retK dom_Of_c.results) J) (v1 : Value) (v2 : Value) (v5 : Value) (v6 : Value) (v7 : Value) (v9 : Value) (v10 : Value) (v155 : Value) (v156 : Value) (v157 : Value) (st : St) : dom_Of_j12 J v1 v2 v5 v6 v7 v9 v10 v155 v156 v157 st =
  (.thn st (sIxA 1 none v155 v157 st) fun p1 =>
  .thn p1.2 (sLoad none p1.1 p1.2) fun p2 =>
  .thn p2.2 (sNilc v5 p2.2) fun p3 =>
  .thn p3.2 (sOff 1 p3.1 p3.2) fun p4 =>
  .thn p4.2 (sLoad none p4.1 p4.2) fun p5 =>
  .thn p5.2 (sIxA 1 none p5.1 v10 p5.2) fun p6 =>
  .thn p6.2 (sLoad none p6.1 p6.2) fun p7 =>
  .thn p7.2 (sIxA 1 none v6 p2.1 p7.2) fun p8 =>
  .thn p8.2 (sStore 1 p8.1 p7.1 p8.2) fun p9 =>
  .thn p9.2 (K.go (.call n_dom_finder_eval [v5, p2.1]) p9.2) fun p10 =>
  .thn p10.2 (sNilc v5 p10.2) fun p11 =>
  .thn p11.2 (sOff 2 p11.1 p11.2) fun p12 =>
  .thn p12.2 (sLoad none p12.1 p12.2) fun p13 =>
  .thn p13.2 (sIxA 1 none p13.1 p10.1 p13.2) fun p14 =>
  .thn p14.2 (sLoad none p14.1 p14.2) fun p15 =>
  .thn p15.2 (sNilc v5 p15.2) fun p16 =>
  .thn p16.2 (sOff 2 p16.1 p16.2) fun p17 =>
  .thn p17.2 (sLoad none p17.1 p17.2) fun p18 =>
  .thn p18.2 (sIxA 1 none p18.1 p2.1 p18.2) fun p19 =>
  .thn p19.2 (sLoad none p19.1 p19.2) fun p20 =>
  .thn p20.2 (sBin .lss p15.1 p20.1 p20.2) fun p21 =>
  condX p21.1
  (.thn p21.2 (sIxA 1 none v6 p2.1 p21.2) fun p22 =>
  .thn p22.2 (sStore 1 p22.1 p10.1 p22.2) fun p23 =>
  dom_Of_j14 J v1 v2 v5 v6 v7 v9 v10 v155 v156 v157 p23.2)
  (dom_Of_j14 J v1 v2 v5 v6 v7 v9 v10 v155 v156 v157 p21.2)) := (go_eq hJ _ _ _ _).trans (by kernel_rfl)
theorem dom_Of_j13_eq {K : Ctx} {J : JT (Value × St)} (hJ : IsJ K (retK dom_Of_c.results) J) (v1 : Value) (v2 : Value) (v5 : Value) (v6 : Value) (v7 : Value) (v9 : Value) (v10 : Value) (st : St) : dom_Of_j13 J v1 v2 v5 v6 v7 v9 v10 st =
  (.thn st (sNilc v5 st) fun p1 =>
  .thn p1.2 (sOff 1 p1.1 p1.2) fun p2 =>
  .thn p2.2 (sLoad none p2.1 p2.2) fun p3 =>
  .thn p3.2 (sIxA 1 none p3.1 v10 p3.2) fun p4 =>
  .thn p4.2 (sLoad none p4.1 p4.2) fun p5 =>
  .thn p5.2 (sIxA 1 none v7 p5.1 p5.2) fun p6 =>
  .thn p6.2 (sStore 1 p6.1 (.slice none 0 0) p6.2) fun p7 =>
  dom_Of_j15 J v1 v2 v5 v6 v7 v9 p7.2) := (go_eq hJ _ _ _ _).trans (by kernel_rfl)
theorem dom_Of_j14_eq {K : Ctx} {J : JT (Value × St)} (hJ : IsJ K (retK dom_Of_c.results) J) (v1 : Value) (v2 : Value) (v5 : Value) (v6 : Value) (v7 : Value) (v9 : Value) (v10 : Value) (v155 : Value) (v156 : Value) (v157 : Value) (st : St) : dom_Of_j14 J v1 v2 v5 v6 v7 v9 v10 v155 v156 v157 st =
  (.thn st (sBin .add v157 (.int .i64 1) st) fun p1 =>
  dom_Of_l4 J v1 v2 v5 v6 v7 v9 v10 v155 v156 p1.1 p1.2) := (go_eq hJ _ _ _ _).trans (by kernel_rfl)
theorem dom_Of_j15_eq {K : Ctx} {J : JT (Value × St)} (hJ : IsJ K (retK dom_Of_c.results) J) (v1 : Value) (v2 : Value) (v5 : Value) (v6 : Value) (v7 : Value) (v9 : Value) (st : St) : dom_Of_j15 J v1 v2 v5 v6 v7 v9 st =
  (.thn st (sBin .sub v9 (.int .i64 1) st) fun p1 =>
  dom_Of_l1 J v1 v2 v5 v6 v7 p1.1 p1.2) := (go_eq hJ _ _ _ _).trans (by kernel_rfl)

/-! ### refinery/dom.Of$1 -/
open C in
noncomputable def dom_Of_1_c : AFun := ⟨5, [.tmp 1],
 (s (.ops [o 1 (.mv (c (.slice none 0 0)))])
 (s (.ops [o 2 (.lit 1 1 [(i 0)] [(0, 1, (c (i (-1))))]), o 3 (.load none (t 0)), o 4 (.call (f 66) [(t 2), (t 3)]), o 1 (.mv (t 4))])
 .ret))⟩
theorem dom_Of_1_is : pgF n_dom_Of_1 = some dom_Of_1_c := by kernel_rfl
theorem dom_Of_1_eq (K : Ctx) (J : JT (Value × St)) (a0 : Value) (st : St) : atX K J dom_Of_1_c (AM.start [a0]) st =
  (.thn st (sLit 1 1 [(.int .i64 0)] [(0, 1, (.int .i64 (-1)))] st) fun p1 =>
  .thn p1.2 (sLoad none a0 p1.2) fun p2 =>
  .thn p2.2 (K.go (.call n_slices_Repeat_int [p1.1, p2.1]) p2.2) fun p3 =>
  .ok (p3.1, p3.2)) := by kernel_rfl
theorem dom_Of_1_of {K : Ctx} (hF : Fix pgF K) {a0 : Value} {st : St} {Q : Value × St → Prop} (h : ∀ J, IsJ K (retK dom_Of_1_c.results) J → Ok (atX K J dom_Of_1_c (AM.start [a0]) st) Q) : Ok (K.go (.call n_dom_Of_1 [a0]) st) Q := call_of hF dom_Of_1_is rfl h

/-! ### slices.Repeat[[]int,int] -/
open C in
noncomputable def slices_Repeat_int_c : AFun := ⟨48, [.tmp 4],
 (s (.ops [o 4 (.mv (c (.slice none 0 0)))])
 (s (s (.ops [o 9 (.mv (t 1)), o 10 (.bin .lss (t 9) (c (i 0)))])
 (.cond (t 10) (.ops [o 11 (.iface 9 (c (.string (bstr [99, 97, 110, 110, 111, 116, 32, 98, 101, 32, 110, 101, 103, 97, 116, 105, 118, 101])))), n (.call (c .nilIface) [])]) .skip))
 (s (.keep [0, 1])
 (s (.ops [o 13 (.mv (t 0)), o 14 (.len .slice (t 13)), o 15 (.conv (.int .u64) (t 14)), o 16 (.mv (t 1)), o 17 (.conv (.int .u64) (t 16)), o 18 (.call (f 96) [(t 15), (t 17)]), o 12 (.mv (t 18)), o 19 (.extract (t 12) 0), o 20 (.extract (t 12) 1), o 5 (.mv (t 19)), o 6 (.mv (t 20))])
 (s (s (.ops [o 21 (.mv (t 5)), o 22 (.bin .gtr (t 21) (c (.int .u64 0))), o 23 (.mv (t 22)), g 24 false 23 (.mv (t 6)), g 25 false 23 (.bin .gtr (t 24) (c (.int .u64 9223372036854775807))), o 26 (.pick (t 23) (c (.bool true)) (t 25))])
 (.cond (t 26) (.ops [o 27 (.iface 9 (c (.string (bstr [116, 104, 101, 32, 114, 101, 115, 117, 108, 116, 32, 111, 102, 32, 40, 108, 101, 110, 40, 120, 41, 32, 42, 32, 99, 111, 117, 110, 116, 41, 32, 111, 118, 101, 114, 102, 108, 111, 119, 115])))), n (.call (c .nilIface) [])]) .skip))
 (s (.keep [0, 6])
 (s (.ops [o 28 (.mv (t 6)), o 29 (.conv (.int .i64) (t 28)), o 30 (.mkSlice 1 8 [(i 0)] (t 29) (t 29)), o 7 (.mv (t 30))])
 (s (.ops [o 31 (.mv (t 7)), o 32 (.mv (t 0)), o 33 (.copy 1 (t 31) (t 32)), o 8 (.mv (t 33))])
 (s (.block 0 (s (.keep [7, 8])
 (.loop (s (s (s (.ops [o 34 (.mv (t 8)), o 35 (.mv (t 7)), o 36 (.len .slice (t 35)), o 37 (.bin .lss (t 34) (t 36))])
 (.cond (t 37) .skip (.exit 0)))
 (s (.keep [7, 8])
 (.block 1 (.draw [d 1 0 false (o 39 (.mv (t 7))), d 2 0 false (o 40 (.mv (t 8))), d 3 0 false (o 41 (.slice (.slice 1) (t 39) (some (t 40)) none none)), d 4 0 false (o 42 (.mv (t 7))), d 5 0 false (o 43 (.mv (t 8))), d 6 0 false (o 44 (.slice (.slice 1) (t 42) none (some (t 43)) none)), d 7 0 true (o 45 (.copy 1 (t 41) (t 44))), d 0 0 false (o 38 (.mv (t 8))), d 8 0 false (o 46 (.bin .add (t 38) (t 45))), d 9 0 false (o 8 (.mv (t 46)))]))))
 (.keep [7, 8])))))
 (s (.keep [7])
 (s (.ops [o 47 (.mv (t 7)), o 4 (.mv (t 47))])
 .ret)))))))))))⟩
theorem slices_Repeat_int_is : pgF n_slices_Repeat_int = some slices_Repeat_int_c := by kernel_rfl
noncomputable def slices_Repeat_int_j0 (J : JT (Value × St)) (v0 : Value) (v1 : Value) (st : St) : Res (Value × St) := goX J slices_Repeat_int_c.body [1, 1, 1] (envT [(0, v0), (1, v1)]) st
noncomputable def slices_Repeat_int_j1 (J : JT (Value × St)) (v0 : Value) (v6 : Value) (st : St) : Res (Value × St) := goX J slices_Repeat_int_c.body [1, 1, 1, 1, 1, 1] (envT [(0, v0), (6, v6)]) st
noncomputable def slices_Repeat_int_l0 (J : JT (Value × St)) (v7 : Value) (v8 : Value) (st : St) : Res (Value × St) := lpX J slices_Repeat_int_c.body [1, 1, 1, 1, 1, 1, 1, 1, 0, 0, 1] (envT [(7, v7), (8, v8)]) st
noncomputable def slices_Repeat_int_j2 (J : JT (Value × St)) (v7 : Value) (v8 : Value) (st : St) : Res (Value × St) := goX J slices_Repeat_int_c.body [1, 1, 1, 1, 1, 1, 1, 1, 0, 0, 1, 0, 0, 1, 1] (envT [(7, v7), (8, v8)]) st
noncomputable def slices_Repeat_int_j3 (J : JT (Value × St)) (v7 : Value) (st : St) : Res (Value × St) := goX J slices_Repeat_int_c.body [1, 1, 1, 1, 1, 1, 1, 1, 1, 1] (envT [(7, v7)]) st
theorem slices_Repeat_int_eq (K : Ctx) (J : JT (Value × St)) (a0 a1 : Value) (st : St) : atX K J slices_Repeat_int_c (AM.start [a0, a1]) st =
  (.thn st (sBin .lss a1 (.int .i64 0) st) fun p1 =>
  condX p1.1
  (.thn p1.2 (sCall K .nilIface [] p1.2) fun p2 =>
  slices_Repeat_int_j0 J a0 a1 p2.2)
  (slices_Repeat_int_j0 J a0 a1 p1.2)) := by kernel_rfl
theorem slices_Repeat_int_of {K : Ctx} (hF : Fix pgF K) {a0 a1 : Value} {st : St} {Q : Value × St → Prop} (h : ∀ J, IsJ K (retK slices_Repeat_int_c.results) J → Ok (atX K J slices_Repeat_int_c (AM.start [a0, a1]) st) Q) : Ok (K.go (.call n_slices_Repeat_int [a0, a1]) st) Q := call_of hF slices_Repeat_int_is rfl h
theorem slices_Repeat_int_j0_eq {K : Ctx} {J : JT (Value × St)} (hJ : IsJ K (retK slices_Repeat_int_c.results) J) (v0 : Value) (v1 : Value) (st : St) : slices_Repeat_int_j0 J v0 v1 st =
  (.thn st (sLen .slice v0 st) fun p1 =>
  .thn p1.2 (sConv (.int .u64) p1.1 p1.2) fun p2 =>
  .thn p2.2 (sConv (.int .u64) v1 p2.2) fun p3 =>
  .thn p3.2 (K.go (.call n_math_bits_Mul [p2.1, p3.1]) p3.2) fun p4 =>
  .thn p4.2 (sExtract p4.1 0 p4.2) fun p5 =>
  .thn p5.2 (sExtract p4.1 1 p5.2) fun p6 =>
  .thn p6.2 (sBin .gtr p5.1 (.int .u64 0) p6.2) fun p7 =>
  .thn p7.2 (sG p7.1 false (.ok (p6.1, p7.2)) p7.2) fun p8 =>
  .thn p8.2 (sG p7.1 false (sBin .gtr p8.1 (.int .u64 9223372036854775807) p8.2) p8.2) fun p9 =>
  .thn p9.2 (sPick p7.1 (.bool true) p9.1 p9.2) fun p10 =>
  condX p10.1
  (.thn p10.2 (sCall K .nilIface [] p10.2) fun p11 =>
  slices_Repeat_int_j1 J v0 p6.1 p11.2)
  (slices_Repeat_int_j1 J v0 p6.1 p10.2)) := (go_eq hJ _ _ _ _).trans (by kernel_rfl)
theorem slices_Repeat_int_j1_eq {K : Ctx} {J : JT (Value × St)} (hJ : IsJ K (retK slices_Repeat_int_c.results) J) (v0 : Value) (v6 : Value) (st : St) : slices_Repeat_int_j1 J v0 v6 st =
  (.thn st (sConv (.int .i64) v6 st) fun p1 =>
  .thn p1.2 (sMkSlice 1 8 [(.int .i64 0)] p1.1 p1.1 p1.2) fun p2 =>
  .thn p2.2 (sCopy 1 p2.1 v0 p2.2) fun p3 =>
  slices_Repeat_int_l0 J p2.1 p3.1 p3.2) := (go_eq hJ _ _ _ _).trans (by kernel_rfl)
theorem slices_Repeat_int_l0_eq (K : Ctx) (J : JT (Value × St)) (v7 : Value) (v8 : Value) (st : St) : inX K J (retK slices_Repeat_int_c.results) slices_Repeat_int_c.body [1, 1, 1, 1, 1, 1, 1, 1, 0, 0, 1] (envT [(7, v7), (8, v8)]) st =
  (.thn st (sLen .slice v7 st) fun p1 =>
  .thn p1.2 (sBin .lss v8 p1.1 p1.2) fun p2 =>
  condX p2.1
  (slices_Repeat_int_j2 J v7 v8 p2.2)
  (slices_Repeat_int_j3 J v7 p2.2)) := by kernel_rfl
theorem slices_Repeat_int_l0_of {K : Ctx} (hF : Fix pgF K) {J : JT (Value × St)} (hJ : IsJ K (retK slices_Repeat_int_c.results) J) {v7 : Value} {v8 : Value} {st : St} {Q : Value × St → Prop} (h : Ok (inX K J (retK slices_Repeat_int_c.results) slices_Repeat_int_c.body [1, 1, 1, 1, 1, 1, 1, 1, 0, 0, 1] (envT [(7, v7), (8, v8)]) st) Q) : Ok (slices_Repeat_int_l0 J v7 v8 st) Q := loop_of hF hJ h
theorem slices_Repeat_int_j2_eq {K : Ctx} {J : JT (Value × St)} (hJ : IsJ K (retK slices_Repeat_int_c.results) J) (v7 : Value) (v8 : Value) (st : St) : slices_Repeat_int_j2 J v7 v8 st =
  (.thn st (sSlice (.slice 1) v7 (some v8) none none st) fun p1 =>
  .thn p1.2 (sSlice (.slice 1) v7 none (some v8) none p1.2) fun p2 =>
  .thn p2.2 (sCopy 1 p1.1 p2.1 p2.2) fun p3 =>
  .thn p3.2 (sBin .add v8 p3.1 p3.2) fun p4 =>
  slices_Repeat_int_l0 J v7 p4.1 p4.2) := (go_eq hJ _ _ _ _).trans (by kernel_rfl)
theorem slices_Repeat_int_j3_eq {K : Ctx} {J : JT (Value × St)} (hJ : IsJ K (retK slices_Repeat_int_c.results) J) (v7 : Value) (st : St) : slices_Repeat_int_j3 J v7 st =
  (.ok (v7, st)) := (go_eq hJ _ _ _ _).trans (by kernel_rfl)

/-! ### (*refinery/dom.finder).visit -/
open C in
noncomputable def dom_finder_visit_c : AFun := ⟨3, [],
 (s (.ops [o 4 (.lbox (t 1))])
 (s (.draw [d 0 0 false (o 8 (.mv (t 0))), d 1 0 false (o 9 (.nilc (t 8))), d 2 0 false (o 10 (.off 2 (t 9))), d 3 0 false (o 11 (.load none (t 10))), d 4 0 false (o 12 (.mv (t 2))), d 5 0 false (o 13 (.mv (t 0))), d 6 0 false (o 14 (.nilc (t 13))), d 7 0 false (o 15 (.off 0 (t 14))), d 8 0 false (o 16 (.load none (t 15))), d 9 0 false (o 17 (.len .slice (t 16))), d 10 0 false (o 18 (.ixA 1 none (t 11) (t 12))), d 11 0 true (n (.store 1 (t 18) (t 17)))])
 (s (.ops [o 19 (.mv (t 0)), o 20 (.mv (t 0)), o 21 (.nilc (t 20)), o 22 (.off 0 (t 21)), o 23 (.load none (t 22)), o 24 (.mv (t 2)), o 25 (.lit 1 1 [(i 0)] [(0, 1, (t 24))]), o 26 (.append 1 8 (t 23) (t 25)), o 27 (.nilc (t 19)), o 28 (.off 0 (t 27)), n (.store 1 (t 28) (t 26))])
 (s (.ops [o 29 (.field (some 2) 0 (t 4)), o 30 (.mv (t 2)), o 31 (.call (f 97) [(t 29), (t 30)]), o 32 (.len .slice (t 31)), o 33 (.mv (c (i 0)))])
 (.block 0 (s (.keep [0, 2, 4, 31, 32, 33])
 (.loop (s (s (.ops [o 34 (.bin .lss (t 33) (t 32))])
 (s (.cond (t 34) .skip (.exit 0))
 (s (.keep [0, 2, 4, 31, 32, 33])
 (s (.block 1 (s (.ops [o 35 (.ixA 1 none (t 31) (t 33)), o 36 (.load none (t 35)), o 7 (.mv (t 36))])
 (s (.ops [o 37 (.mv (t 0)), o 38 (.nilc (t 37)), o 39 (.off 2 (t 38)), o 40 (.load none (t 39)), o 41 (.mv (t 7)), o 42 (.ixA 1 none (t 40) (t 41)), o 43 (.load none (t 42)), o 44 (.bin .lss (t 43) (c (i 0)))])
 (.cond (t 44) (s (.ops [o 45 (.mv (t 0)), o 46 (.nilc (t 45)), o 47 (.off 1 (t 46)), o 48 (.load none (t 47)), o 49 (.mv (t 7)), o 50 (.mv (t 2)), o 51 (.ixA 1 none (t 48) (t 49)), n (.store 1 (t 51) (t 50))])
 (.ops [o 52 (.mv (t 0)), o 53 (.field (some 2) 0 (t 4)), o 54 (.mv (t 7)), o 55 (.call (f 67) [(t 52), (t 53), (t 54)])])) .skip))))
 (s (.keep [0, 2, 4, 31, 32, 33])
 (.ops [o 56 (.bin .add (t 33) (c (i 1))), o 33 (.mv (t 56))]))))))
 (.keep [0, 2, 4, 31, 32, 33])))))))))⟩
theorem dom_finder_visit_is : pgF n_dom_finder_visit = some dom_finder_visit_c := by kernel_rfl
noncomputable def dom_finder_visit_l0 (J : JT (Value × St)) (v0 : Value) (v2 : Value) (v4 : Value) (v31 : Value) (v32 : Value) (v33 : Value) (st : St) : Res (Value × St) := lpX J dom_finder_visit_c.body [1, 1, 1, 1, 0, 1] (envT [(0, v0), (2, v2), (4, v4), (31, v31), (32, v32), (33, v33)]) st
noncomputable def dom_finder_visit_j0 (J : JT (Value × St)) (v0 : Value) (v2 : Value) (v4 : Value) (v31 : Value) (v32 : Value) (v33 : Value) (st : St) : Res (Value × St) := goX J dom_finder_visit_c.body [1, 1, 1, 1, 0, 1, 0, 0, 1, 1, 1] (envT [(0, v0), (2, v2), (4, v4), (31, v31), (32, v32), (33, v33)]) st
noncomputable def dom_finder_visit_j1 (J : JT (Value × St)) (v0 : Value) (v2 : Value) (v4 : Value) (v31 : Value) (v32 : Value) (v33 : Value) (st : St) : Res (Value × St) := goX J dom_finder_visit_c.body [1, 1, 1, 1, 0, 1, 0, 0, 1, 1, 1, 1, 1] (envT [(0, v0), (2, v2), (4, v4), (31, v31), (32, v32), (33, v33)]) st
theorem dom_finder_visit_eq (K : Ctx) (J : JT (Value × St)) (a0 a1 a2 : Value) (st : St) : atX K J dom_finder_visit_c (AM.start [a0, a1, a2]) st =
  (.thn st (sLbox a1 st) fun p1 =>
  .thn p1.2 (sNilc a0 p1.2) fun p2 =>
  .thn p2.2 (sOff 2 p2.1 p2.2) fun p3 =>
  .thn p3.2 (sLoad none p3.1 p3.2) fun p4 =>
  .thn p4.2 (sNilc a0 p4.2) fun p5 =>
  .thn p5.2 (sOff 0 p5.1 p5.2) fun p6 =>
  .thn p6.2 (sLoad none p6.1 p6.2) fun p7 =>
  .thn p7.2 (sLen .slice p7.1 p7.2) fun p8 =>
  .thn p8.2 (sIxA 1 none p4.1 a2 p8.2) fun p9 =>
  .thn p9.2 (sStore 1 p9.1 p8.1 p9.2) fun p10 =>
  .thn p10.2 (sNilc a0 p10.2) fun p11 =>
  .thn p11.2 (sOff 0 p11.1 p11.2) fun p12 =>
  .thn p12.2 (sLoad none p12.1 p12.2) fun p13 =>
  .thn p13.2 (sLit 1 1 [(.int .i64 0)] [(0, 1, a2)] p13.2) fun p14 =>
  .thn p14.2 (sAppend 1 8 p13.1 p14.1 p14.2) fun p15 =>
  .thn p15.2 (sNilc a0 p15.2) fun p16 =>
  .thn p16.2 (sOff 0 p16.1 p16.2) fun p17 =>
  .thn p17.2 (sStore 1 p17.1 p15.1 p17.2) fun p18 =>
  .thn p18.2 (sField (some 2) 0 p1.1 p18.2) fun p19 =>
  .thn p19.2 (K.go (.call n_graph_Graph_Behind [p19.1, a2]) p19.2) fun p20 =>
  .thn p20.2 (sLen .slice p20.1 p20.2) fun p21 =>
  dom_finder_visit_l0 J a0 a2 p1.1 p20.1 p21.1 (.int .i64 0) p21.2) := by kernel_rfl
theorem dom_finder_visit_of {K : Ctx} (hF : Fix pgF K) {a0 a1 a2 : Value} {st : St} {Q : Value × St → Prop} (h : ∀ J, IsJ K (retK dom_finder_visit_c.results) J → Ok (atX K J dom_finder_visit_c (AM.start [a0, a1, a2]) st) Q) : Ok (K.go (.call n_dom_finder_visit [a0, a1, a2]) st) Q := call_of hF dom_finder_visit_is rfl h
theorem dom_finder_visit_l0_eq (K : Ctx) (J : JT (Value × St)) (v0 : Value) (v2 : Value) (v4 : Value) (v31 : Value) (v32 : Value) (v33 : Value) (st : St) : inX K J (retK dom_finder_visit_c.results) dom_finder_visit_c.body [1, 1, 1, 1, 0, 1] (envT [(0, v0), (2, v2), (4, v4), (31, v31), (32, v32), (33, v33)]) st =
  (.thn st (sBin .lss v33 v32 st) fun p1 =>
  condX p1.1
  (dom_finder_visit_j0 J v0 v2 v4 v31 v32 v33 p1.2)
  (.ok (.tuple #[], p1.2))) := by kernel_rfl
theorem dom_finder_visit_l0_of {K : Ctx} (hF : Fix pgF K) {J : JT (Value × St)} (hJ : IsJ K (retK dom_finder_visit_c.results) J) {v0 : Value} {v2 : Value} {v4 : Value} {v31 : Value} {v32 : Value} {v33 : Value} {st : St} {Q : Value × St → Prop} (h : Ok (inX K J (retK dom_finder_visit_c.results) dom_finder_visit_c.body [1, 1, 1, 1, 0, 1] (envT [(0, v0), (2, v2), (4, v4), (31, v31), (32, v32), (33, v33)]) st) Q) : Ok (dom_finder_visit_l0 J v0 v2 v4 v31 v32 v33 st) Q := loop_of hF hJ h
theorem dom_finder_visit_j0_eq {K : Ctx} {J : JT (Value × St)} (hJ : IsJ K (retK dom_finder_visit_c.results) J) (v0 : Value) (v2 : Value) (v4 : Value) (v31 : Value) (v32 : Value) (v33 : Value) (st : St) : dom_finder_visit_j0 J v0 v2 v4 v31 v32 v33 st =
  (.thn st (sIxA 1 none v31 v33 st) fun p1 =>
  .thn p1.2 (sLoad none p1.1 p1.2) fun p2 =>
  .thn p2.2 (sNilc v0 p2.2) fun p3 =>
  .thn p3.2 (sOff 2 p3.1 p3.2) fun p4 =>
  .thn p4.2 (sLoad none p4.1 p4.2) fun p5 =>
  .thn p5.2 (sIxA 1 none p5.1 p2.1 p5.2) fun p6 =>
  .thn p6.2 (sLoad none p6.1 p6.2) fun p7 =>
  .thn p7.2 (sBin .lss p7.1 (.int .i64 0) p7.2) fun p8 =>
  condX p8.1
  (.thn p8.2 (sNilc v0 p8.2) fun p9 =>
  .thn p9.2 (sOff 1 p9.1 p9.2) fun p10 =>
  .thn p10.2 (sLoad none p10.1 p10.2) fun p11 =>
  .thn p11.2 (sIxA 1 none p11.1 p2.1 p11.2) fun p12 =>
  .thn p12.2 (sStore 1 p12.1 v2 p12.2) fun p13 =>
  .thn p13.2 (sField (some 2) 0 v4 p13.2) fun p14 =>
  .thn p14.2 (K.go (.call n_dom_finder_visit [v0, p14.1, p2.1]) p14.2) fun p15 =>
  dom_finder_visit_j1 J v0 v2 v4 v31 v32 v33 p15.2)
  (dom_finder_visit_j1 J v0 v2 v4 v31 v32 v33 p8.2)) := (go_eq hJ _ _ _ _).trans (by kernel_rfl)
theorem dom_finder_visit_j1_eq {K : Ctx} {J : JT (Value × St)} (hJ : IsJ K (retK dom_finder_visit_c.results) J) (v0 : Value) (v2 : Value) (v4 : Value) (v31 : Value) (v32 : Value) (v33 : Value) (st : St) : dom_finder_visit_j1 J v0 v2 v4 v31 v32 v33 st =
  (.thn st (sBin .add v33 (.int .i64 1) st) fun p1 =>
  dom_finder_visit_l0 J v0 v2 v4 v31 v32 p1.1 p1.2) := (go_eq hJ _ _ _ _).trans (by kernel_rfl)

/-! ### refinery/dom.tree -/
open C in
noncomputable def dom_tree_c : AFun := ⟨2, [.part 4 (some 3)],
 (s (.ops [o 4 (.lnew [(.slice none 0 0), (.slice none 0 0), (.slice none 0 0)])])
 (s (.draw [d 4 0 false (o 14 (.lit 1 1 [(i 0)] [(0, 1, (c (i (-1))))])), d 5 0 false (o 15 (.mv (t 0))), d 6 0 false (o 16 (.len .slice (t 15))), d 7 0 true (o 17 (.call (f 66) [(t 14), (t 16)])), d 0 0 false (o 10 (.mv (t 0))), d 1 0 false (o 11 (.mv (t 0))), d 2 0 false (o 12 (.len .slice (t 11))), d 3 0 false (o 13 (.mkSlice 1 24 [(.slice none 0 0)] (t 12) (t 12))), d 8 0 false (o 18 (.build [(.slice none 0 0), (.slice none 0 0), (.slice none 0 0)] [(0, 1, (t 10)), (1, 1, (t 13)), (2, 1, (t 17))])), d 9 0 false (o 5 (.lnew [(.slice none 0 0), (.slice none 0 0), (.slice none 0 0)])), d 10 0 true (o 5 (.upd 3 0 (t 5) (t 18)))])
 (s (s (.ops [o 19 (.mv (t 1)), o 20 (.len .slice (t 19)), o 21 (.mv (c (i 0)))])
 (.block 0 (s (.keep [0, 4, 5, 19, 20, 21])
 (.loop (s (s (.ops [o 22 (.bin .lss (t 21) (t 20))])
 (s (.cond (t 22) .skip (.exit 0))
 (s (.keep [0, 4, 5, 19, 20, 21])
 (s (.block 1 (s (.ops [o 23 (.mv (t 21)), o 24 (.ixA 1 none (t 19) (t 21)), o 25 (.load none (t 24)), o 6 (.mv (t 23)), o 7 (.mv (t 25))])
 (s (s (.ops [o 26 (.mv (t 6)), o 27 (.bin .eql (t 26) (c (i 0)))])
 (.cond (t 27) (s (.ops [o 28 (.lref (t 5)), o 29 (.field none 2 (t 5)), o 30 (.mv (t 7)), o 31 (.ixA 1 none (t 29) (t 30)), n (.store 1 (t 31) (c (i 0)))])
 (.exit 1)) .skip))
 (s (.keep [0, 4, 5, 7, 19, 20, 21])
 (.draw [d 0 0 false (o 32 (.lref (t 5))), d 1 0 false (o 33 (.field none 2 (t 5))), d 2 0 false (o 34 (.mv (t 7))), d 3 0 false (o 35 (.lref (t 5))), d 4 0 false (o 36 (.field none 2 (t 5))), d 5 0 false (o 37 (.mv (t 0))), d 6 0 false (o 38 (.mv (t 7))), d 7 0 false (o 39 (.ixA 1 none (t 37) (t 38))), d 8 0 false (o 40 (.load none (t 39))), d 9 0 false (o 41 (.ixA 1 none (t 36) (t 40))), d 10 0 false (o 42 (.load none (t 41))), d 11 0 false (o 43 (.bin .add (t 42) (c (i 1)))), d 12 0 false (o 44 (.ixA 1 none (t 33) (t 34))), d 13 0 true (n (.store 1 (t 44) (t 43)))])))))
 (s (.keep [0, 4, 5, 19, 20, 21])
 (.ops [o 45 (.bin .add (t 21) (c (i 1))), o 21 (.mv (t 45))]))))))
 (.keep [0, 4, 5, 19, 20, 21]))))))
 (s (.keep [0, 4, 5])
 (s (s (.ops [o 46 (.mv (t 0)), o 47 (.len .slice (t 46)), o 48 (.mv (c (i 0)))])
 (.block 2 (s (.keep [4, 5, 46, 47, 48])
 (.loop (s (s (.ops [o 49 (.bin .lss (t 48) (t 47))])
 (s (.cond (t 49) .skip (.exit 2))
 (s (.keep [4, 5, 46, 47, 48])
 (s (.block 3 (s (.ops [o 50 (.mv (t 48)), o 51 (.ixA 1 none (t 46) (t 48)), o 52 (.load none (t 51)), o 8 (.mv (t 50)), o 9 (.mv (t 52))])
 (s (.ops [o 53 (.mv (t 9)), o 54 (.bin .geq (t 53) (c (i 0)))])
 (.cond (t 54) (.draw [d 3 0 false (o 58 (.lref (t 5))), d 4 0 false (o 59 (.field none 1 (t 5))), d 5 0 false (o 60 (.mv (t 9))), d 6 0 false (o 61 (.ixA 1 none (t 59) (t 60))), d 7 0 false (o 62 (.load none (t 61))), d 8 0 false (o 63 (.mv (t 8))), d 9 0 false (o 64 (.lit 1 1 [(i 0)] [(0, 1, (t 63))])), d 10 0 true (o 65 (.append 1 8 (t 62) (t 64))), d 0 0 false (o 55 (.lref (t 5))), d 1 1 false (o 56 (.field none 1 (t 5))), d 2 0 false (o 57 (.mv (t 9))), d 11 0 false (o 66 (.ixA 1 none (t 56) (t 57))), d 12 0 true (n (.store 1 (t 66) (t 65)))]) .skip))))
 (s (.keep [4, 5, 46, 47, 48])
 (.ops [o 67 (.bin .add (t 48) (c (i 1))), o 48 (.mv (t 67))]))))))
 (.keep [4, 5, 46, 47, 48]))))))
 (s (.keep [4, 5])
 (s (.ops [o 68 (.field (some 3) 0 (t 5)), o 4 (.upd 3 0 (t 4) (t 68))])
 .ret)))))))⟩
theorem dom_tree_is : pgF n_dom_tree = some dom_tree_c := by kernel_rfl
noncomputable def dom_tree_l0 (J : JT (Value × St)) (v0 : Value) (v4 : Value) (v5 : Value) (v19 : Value) (v20 : Value) (v21 : Value) (st : St) : Res (Value × St) := lpX J dom_tree_c.body [1, 1, 0, 1, 0, 1] (envT [(0, v0), (4, v4), (5, v5), (19, v19), (20, v20), (21, v21)]) st
noncomputable def dom_tree_j0 (J : JT (Value × St)) (v0 : Value) (v4 : Value) (v5 : Value) (v19 : Value) (v20 : Value) (v21 : Value) (st : St) : Res (Value × St) := goX J dom_tree_c.body [1, 1, 0, 1, 0, 1, 0, 0, 1, 1, 1] (envT [(0, v0), (4, v4), (5, v5), (19, v19), (20, v20), (21, v21)]) st
noncomputable def dom_tree_j1 (J : JT (Value × St)) (v0 : Value) (v4 : Value) (v5 : Value) (st : St) : Res (Value × St) := goX J dom_tree_c.body [1, 1, 1, 1] (envT [(0, v0), (4, v4), (5, v5)]) st
noncomputable def dom_tree_j2 (J : JT (Value × St)) (v0 : Value) (v4 : Value) (v5 : Value) (v19 : Value) (v20 : Value) (v21 : Value) (st : St) : Res (Value × St) := goX J dom_tree_c.body [1, 1, 0, 1, 0, 1, 0, 0, 1, 1, 1, 1, 1] (envT [(0, v0), (4, v4), (5, v5), (19, v19), (20, v20), (21, v21)]) st
noncomputable def dom_tree_j3 (J : JT (Value × St)) (v0 : Value) (v4 : Value) (v5 : Value) (v7 : Value) (v19 : Value) (v20 : Value) (v21 : Value) (st : St) : Res (Value × St) := goX J dom_tree_c.body [1, 1, 0, 1, 0, 1, 0, 0, 1, 1, 1, 0, 0, 1, 1, 1] (envT [(0, v0), (4, v4), (5, v5), (7, v7), (19, v19), (20, v20), (21, v21)]) st
noncomputable def dom_tree_l1 (J : JT (Value × St)) (v4 : Value) (v5 : Value) (v46 : Value) (v47 : Value) (v48 : Value) (st : St) : Res (Value × St) := lpX J dom_tree_c.body [1, 1, 1, 1, 0, 1, 0, 1] (envT [(4, v4), (5, v5), (46, v46), (47, v47), (48, v48)]) st
noncomputable def dom_tree_j4 (J : JT (Value × St)) (v4 : Value) (v5 : Value) (v46 : Value) (v47 : Value) (v48 : Value) (st : St) : Res (Value × St) := goX J dom_tree_c.body [1, 1, 1, 1, 0, 1, 0, 1, 0, 0, 1, 1, 1] (envT [(4, v4), (5, v5), (46, v46), (47, v47), (48, v48)]) st
noncomputable def dom_tree_j5 (J : JT (Value × St)) (v4 : Value) (v5 : Value) (st : St) : Res (Value × St) := goX J dom_tree_c.body [1, 1, 1, 1, 1, 1] (envT [(4, v4), (5, v5)]) st
noncomputable def dom_tree_j6 (J : JT (Value × St)) (v4 : Value) (v5 : Value) (v46 : Value) (v47 : Value) (v48 : Value) (st : St) : Res (Value × St) := goX J dom_tree_c.body [1, 1, 1, 1, 0, 1, 0, 1, 0, 0, 1, 1, 1, 1, 1] (envT [(4, v4), (5, v5), (46, v46), (47, v47), (48, v48)]) st
theorem dom_tree_eq (K : Ctx) (J : JT (Value × St)) (a0 a1 : Value) (st : St) : atX K J dom_tree_c (AM.start [a0, a1]) st =
  (.thn st (sLnew [(.slice none 0 0), (.slice none 0 0), (.slice none 0 0)] st) fun p1 =>
  .thn p1.2 (sLit 1 1 [(.int .i64 0)] [(0, 1, (.int .i64 (-1)))] p1.2) fun p2 =>
  .thn p2.2 (sLen .slice a0 p2.2) fun p3 =>
  .thn p3.2 (K.go (.call n_slices_Repeat_int [p2.1, p3.1]) p3.2) fun p4 =>
  .thn p4.2 (sLen .slice a0 p4.2) fun p5 =>
  .thn p5.2 (sMkSlice 1 24 [(.slice none 0 0)] p5.1 p5.1 p5.2) fun p6 =>
  .thn p6.2 (sBuild [(.slice none 0 0), (.slice none 0 0), (.slice none 0 0)] [(0, 1, a0), (1, 1, p6.1), (2, 1, p4.1)] p6.2) fun p7 =>
  .thn p7.2 (sLnew [(.slice none 0 0), (.slice none 0 0), (.slice none 0 0)] p7.2) fun p8 =>
  .thn p8.2 (sUpd 3 0 p8.1 p7.1 p8.2) fun p9 =>
  .thn p9.2 (sLen .slice a1 p9.2) fun p10 =>
  dom_tree_l0 J a0 p1.1 p9.1 a1 p10.1 (.int .i64 0) p10.2) := by kernel_rfl
theorem dom_tree_of {K : Ctx} (hF : Fix pgF K) {a0 a1 : Value} {st : St} {Q : Value × St → Prop} (h : ∀ J, IsJ K (retK dom_tree_c.results) J → Ok (atX K J dom_tree_c (AM.start [a0, a1]) st) Q) : Ok (K.go (.call n_dom_tree [a0, a1]) st) Q := call_of hF dom_tree_is rfl h
theorem dom_tree_l0_eq (K : Ctx) (J : JT (Value × St)) (v0 : Value) (v4 : Value) (v5 : Value) (v19 : Value) (v20 : Value) (v21 : Value) (st : St) : inX K J (retK dom_tree_c.results) dom_tree_c.body [1, 1, 0, 1, 0, 1] (envT [(0, v0), (4, v4), (5, v5), (19, v19), (20, v20), (21, v21)]) st =
  (.thn st (sBin .lss v21 v20 st) fun p1 =>
  condX p1.1
  (dom_tree_j0 J v0 v4 v5 v19 v20 v21 p1.2)
  (dom_tree_j1 J v0 v4 v5 p1.2)) := by kernel_rfl
theorem dom_tree_l0_of {K : Ctx} (hF : Fix pgF K) {J : JT (Value × St)} (hJ : IsJ K (retK dom_tree_c.results) J) {v0 : Value} {v4 : Value} {v5 : Value} {v19 : Value} {v20 : Value} {v21 : Value} {st : St} {Q : Value × St → Prop} (h : Ok (inX K J (retK dom_tree_c.results) dom_tree_c.body [1, 1, 0, 1, 0, 1] (envT [(0, v0), (4, v4), (5, v5), (19, v19), (20, v20), (21, v21)]) st) Q) : Ok (dom_tree_l0 J v0 v4 v5 v19 v20 v21 st) Q := loop_of hF hJ h
theorem dom_tree_j0_eq {K : Ctx} {J : JT (Value × St)} (hJ : IsJ K (retK dom_tree_c.results) J) (v0 : Value) (v4 : Value) (v5 : Value) (v19 : Value) (v20 : Value) (v21 : Value) (st : St) : dom_tree_j0 J v0 v4 v5 v19 v20 v21 st =
  (.thn st (sIxA 1 none v19 v21 st) fun p1 =>
  .thn p1.2 (sLoad none p1.1 p1.2) fun p2 =>
  .thn p2.2 (sBin .eql v21 (.int .i64 0) p2.2) fun p3 =>
  condX p3.1
  (.thn p3.2 (sLref v5 p3.2) fun p4 =>
  .thn p4.2 (sField none 2 v5 p4.2) fun p5 =>
  .thn p5.2 (sIxA 1 none p5.1 p2.1 p5.2) fun p6 =>
  .thn p6.2 (sStore 1 p6.1 (.int .i64 0) p6.2) fun p7 =>
  dom_tree_j2 J v0 v4 v5 v19 v20 v21 p7.2)
  (dom_tree_j3 J v0 v4 v5 p2.1 v19 v20 v21 p3.2)) := (go_eq hJ _ _ _ _).trans (by kernel_rfl)
theorem dom_tree_j1_eq {K : Ctx} {J : JT (Value × St)} (hJ : IsJ K (retK dom_tree_c.results) J) (v0 : Value) (v4 : Value) (v5 : Value) (st : St) : dom_tree_j1 J v0 v4 v5 st =
  (.thn st (sLen .slice v0 st) fun p1 =>
  dom_tree_l1 J v4 v5 v0 p1.1 (.int .i64 0) p1.2) := (go_eq hJ _ _ _ _).trans (by kernel_rfl)
theorem dom_tree_j2_eq {K : Ctx} {J : JT (Value × St)} (hJ : IsJ K (retK dom_tree_c.results) J) (v0 : Value) (v4 : Value) (v5 : Value) (v19 : Value) (v20 : Value) (v21 : Value) (st : St) : dom_tree_j2 J v0 v4 v5 v19 v20 v21 st =
  (.thn st (sBin .add v21 (.int .i64 1) st) fun p1 =>
  dom_tree_l0 J v0 v4 v5 v19 v20 p1.1 p1.2) := (go_eq hJ _ _ _ _).trans (by kernel_rfl)
theorem dom_tree_j3_eq {K : Ctx} {J : JT (Value × St)} (hJ : IsJ K (retK dom_tree_c.results) J) (v0 : Value) (v4 : Value) (v5 : Value) (v7 : Value) (v19 : Value) (v20 : Value) (v21 : Value) (st : St) : dom_tree_j3 J v0 v4 v5 v7 v19 v20 v21 st =
  (.thn st (sLref v5 st) fun p1 =>
  .thn p1.2 (sField none 2 v5 p1.2) fun p2 =>
  .thn p2.2 (sLref v5 p2.2) fun p3 =>
  .thn p3.2 (sField none 2 v5 p3.2) fun p4 =>
  .thn p4.2 (sIxA 1 none v0 v7 p4.2) fun p5 =>
  .thn p5.2 (sLoad none p5.1 p5.2) fun p6 =>
  .thn p6.2 (sIxA 1 none p4.1 p6.1 p6.2) fun p7 =>
  .thn p7.2 (sLoad none p7.1 p7.2) fun p8 =>
  .thn p8.2 (sBin .add p8.1 (.int .i64 1) p8.2) fun p9 =>
  .thn p9.2 (sIxA 1 none p2.1 v7 p9.2) fun p10 =>
  .thn p10.2 (sStore 1 p10.1 p9.1 p10.2) fun p11 =>
  dom_tree_j2 J v0 v4 v5 v19 v20 v21 p11.2) := (go_eq hJ _ _ _ _).trans (by kernel_rfl)
theorem dom_tree_l1_eq (K : Ctx) (J : JT (Value × St)) (v4 : Value) (v5 : Value) (v46 : Value) (v47 : Value) (v48 : Value) (st : St) : inX K J (retK dom_tree_c.results) dom_tree_c.body [1, 1, 1, 1, 0, 1, 0, 1] (envT [(4, v4), (5, v5), (46, v46), (47, v47), (48, v48)]) st =
  (.thn st (sBin .lss v48 v47 st) fun p1 =>
  condX p1.1
  (dom_tree_j4 J v4 v5 v46 v47 v48 p1.2)
  (dom_tree_j5 J v4 v5 p1.2)) := by kernel_rfl
theorem dom_tree_l1_of {K : Ctx} (hF : Fix pgF K) {J : JT (Value × St)} (hJ : IsJ K (retK dom_tree_c.results) J) {v4 : Value} {v5 : Value} {v46 : Value} {v47 : Value} {v48 : Value} {st : St} {Q : Value × St → Prop} (h : Ok (inX K J (retK dom_tree_c.results) dom_tree_c.body [1, 1, 1, 1, 0, 1, 0, 1] (envT [(4, v4), (5, v5), (46, v46), (47, v47), (48, v48)]) st) Q) : Ok (dom_tree_l1 J v4 v5 v46 v47 v48 st) Q := loop_of hF hJ h
theorem dom_tree_j4_eq {K : Ctx} {J : JT (Value × St)} (hJ : IsJ K (retK dom_tree_c.results) J) (v4 : Value) (v5 : Value) (v46 : Value) (v47 : Value) (v48 : Value) (st : St) : dom_tree_j4 J v4 v5 v46 v47 v48 st =
  (.thn st (sIxA 1 none v46 v48 st) fun p1 =>
  .thn p1.2 (sLoad none p1.1 p1.2) fun p2 =>
  .thn p2.2 (sBin .geq p2.1 (.int .i64 0) p2.2) fun p3 =>
  condX p3.1
  (.thn p3.2 (sLref v5 p3.2) fun p4 =>
  .thn p4.2 (sField none 1 v5 p4.2) fun p5 =>
  .thn p5.2 (sIxA 1 none p5.1 p2.1 p5.2) fun p6 =>
  .thn p6.2 (sLoad none p6.1 p6.2) fun p7 =>
  .thn p7.2 (sLit 1 1 [(.int .i64 0)] [(0, 1, v48)] p7.2) fun p8 =>
  .thn p8.2 (sAppend 1 8 p7.1 p8.1 p8.2) fun p9 =>
  .thn p9.2 (sLref v5 p9.2) fun p10 =>
  .thn p10.2 (sField none 1 v5 p10.2) fun p11 =>
  Res.need (sStays (List.take 1 (p8.2 :: [])) p9.2.next nothing (fun s => sField none 1 v5 s) p11.1) "order" >>= fun _ =>
  .thn p11.2 (sIxA 1 none p11.1 p2.1 p11.2) fun p12 =>
  .thn p12.2 (sStore 1 p12.1 p9.1 p12.2) fun p13 =>
  dom_tree_j6 J v4 v5 v46 v47 v48 p13.2)
  (dom_tree_j6 J v4 v5 v46 v47 v48 p3.2)) := (go_eq hJ _ _ _ _).trans (by kernel_rfl)
theorem dom_tree_j5_eq {K : Ctx} {J : JT (Value × St)} (hJ : IsJ K (retK dom_tree_c.results) J) (v4 : Value) (v5 : Value) (st : St) : dom_tree_j5 J v4 v5 st =
  (.thn st (sField (some 3) 0 v5 st) fun p1 =>
  .thn p1.2 (sUpd 3 0 v4 p1.1 p1.2) fun p2 =>
  (sField (some 3) 0 p2.1 p2.2 >>= fun p3 => .ok [p3.1]) >>= fun vs => .ok (oneOf vs, p2.2)) := (go_eq hJ _ _ _ _).trans (by kernel_rfl)
theorem dom_tree_j6_eq {K : Ctx} {J : JT (Value × St)} (hJ : IsJ K (retK dom_tree_c.results) J) (v4 : Value) (v5 : Value) (v46 : Value) (v47 : Value) (v48 : Value) (st : St) : dom_tree_j6 J v4 v5 v46 v47 v48 st =
  (.thn st (sBin .add v48 (.int .i64 1) st) fun p1 =>
  dom_tree_l1 J v4 v5 v46 v47 p1.1 p1.2) := (go_eq hJ _ _ _ _).trans (by kernel_rfl)

/-! ### math/bits.Mul -/
open C in
noncomputable def math_bits_Mul_c : AFun := ⟨30, [.tmp 4, .tmp 5],
 (s (.ops [o 4 (.mv (c (.int .u64 0))), o 5 (.mv (c (.int .u64 0)))])
 (s (.cond (c (.bool false)) (s (.ops [o 11 (.mv (t 0)), o 12 (.conv (.int .u32) (t 11)), o 13 (.mv (t 1)), o 14 (.conv (.int .u32) (t 13)), o 15 (.call (f 119) [(t 12), (t 14)]), o 10 (.mv (t 15)), o 16 (.extract (t 10) 0), o 17 (.extract (t 10) 1), o 6 (.mv (t 16)), o 7 (.mv (t 17))])
 (s (.ops [o 18 (.mv (t 6)), o 19 (.conv (.int .u64) (t 18)), o 20 (.mv (t 7)), o 21 (.conv (.int .u64) (t 20)), o 4 (.mv (t 19)), o 5 (.mv (t 21))])
 .ret)) .skip)
 (s (.keep [0, 1])
 (s (.ops [o 23 (.mv (t 0)), o 24 (.mv (t 1)), o 25 (.call (f 120) [(t 23), (t 24)]), o 22 (.mv (t 25)), o 26 (.extract (t 22) 0), o 27 (.extract (t 22) 1), o 8 (.mv (t 26)), o 9 (.mv (t 27))])
 (s (.ops [o 28 (.mv (t 8)), o 29 (.mv (t 9)), o 4 (.mv (t 28)), o 5 (.mv (t 29))])
 .ret)))))⟩
theorem math_bits_Mul_is : pgF n_math_bits_Mul = some math_bits_Mul_c := by kernel_rfl
noncomputable def math_bits_Mul_j0 (J : JT (Value × St)) (v0 : Value) (v1 : Value) (st : St) : Res (Value × St) := goX J math_bits_Mul_c.body [1, 1, 1] (envT [(0, v0), (1, v1)]) st
theorem math_bits_Mul_eq (K : Ctx) (J : JT (Value × St)) (a0 a1 : Value) (st : St) : atX K J math_bits_Mul_c (AM.start [a0, a1]) st =
  (math_bits_Mul_j0 J a0 a1 st) := by kernel_rfl
theorem math_bits_Mul_of {K : Ctx} (hF : Fix pgF K) {a0 a1 : Value} {st : St} {Q : Value × St → Prop} (h : ∀ J, IsJ K (retK math_bits_Mul_c.results) J → Ok (atX K J math_bits_Mul_c (AM.start [a0, a1]) st) Q) : Ok (K.go (.call n_math_bits_Mul [a0, a1]) st) Q := call_of hF math_bits_Mul_is rfl h
theorem math_bits_Mul_j0_eq {K : Ctx} {J : JT (Value × St)} (hJ : IsJ K (retK math_bits_Mul_c.results) J) (v0 : Value) (v1 : Value) (st : St) : math_bits_Mul_j0 J v0 v1 st =
  (.thn st (K.go (.call n_math_bits_Mul64 [v0, v1]) st) fun p1 =>
  .thn p1.2 (sExtract p1.1 0 p1.2) fun p2 =>
  .thn p2.2 (sExtract p1.1 1 p2.2) fun p3 =>
  .ok (.tuple #[p2.1, p3.1], p3.2)) := (go_eq hJ _ _ _ _).trans (by kernel_rfl)

/-! ### (refinery/graph.Graph).Behind -/
open C in
noncomputable def graph_Graph_Behind_c : AFun := ⟨2, [.tmp 4],
 (s (.ops [o 2 (.lbox (t 0)), o 4 (.mv (c (.slice none 0 0)))])
 (s (s (.ops [o 5 (.mv (t 1)), o 6 (.bin .lss (t 5) (c (i 0))), o 7 (.mv (t 6)), g 8 false 7 (.mv (t 1)), g 9 false 7 (.field (some 2) 0 (t 2)), g 10 false 7 (.call (f 55) [(t 9)]), g 11 false 7 (.bin .geq (t 8) (t 10)), o 12 (.pick (t 7) (c (.bool true)) (t 11))])
 (.cond (t 12) (s (.ops [o 4 (.mv (c (.slice none 0 0)))])
 .ret) .skip))
 (s (.keep [1, 2])
 (s (.ops [o 13 (.lref (t 2)), o 14 (.field none 0 (t 2)), o 15 (.mv (t 1)), o 16 (.ixA 1 none (t 14) (t 15)), o 17 (.load none (t 16)), o 18 (.call (f 59) [(t 17)]), o 4 (.mv (t 18))])
 .ret))))⟩
theorem graph_Graph_Behind_is : pgF n_graph_Graph_Behind = some graph_Graph_Behind_c := by kernel_rfl
noncomputable def graph_Graph_Behind_j0 (J : JT (Value × St)) (v1 : Value) (v2 : Value) (st : St) : Res (Value × St) := goX J graph_Graph_Behind_c.body [1, 1, 1] (envT [(1, v1), (2, v2)]) st
theorem graph_Graph_Behind_eq (K : Ctx) (J : JT (Value × St)) (a0 a1 : Value) (st : St) : atX K J graph_Graph_Behind_c (AM.start [a0, a1]) st =
  (.thn st (sLbox a0 st) fun p1 =>
  .thn p1.2 (sBin .lss a1 (.int .i64 0) p1.2) fun p2 =>
  .thn p2.2 (sG p2.1 false (.ok (a1, p2.2)) p2.2) fun p3 =>
  .thn p3.2 (sG p2.1 false (sField (some 2) 0 p1.1 p3.2) p3.2) fun p4 =>
  .thn p4.2 (sG p2.1 false (K.go (.call n_graph_Graph_Len [p4.1]) p4.2) p4.2) fun p5 =>
  .thn p5.2 (sG p2.1 false (sBin .geq p3.1 p5.1 p5.2) p5.2) fun p6 =>
  .thn p6.2 (sPick p2.1 (.bool true) p6.1 p6.2) fun p7 =>
  condX p7.1
  (.ok ((.slice none 0 0), p7.2))
  (graph_Graph_Behind_j0 J a1 p1.1 p7.2)) := by kernel_rfl
theorem graph_Graph_Behind_of {K : Ctx} (hF : Fix pgF K) {a0 a1 : Value} {st : St} {Q : Value × St → Prop} (h : ∀ J, IsJ K (retK graph_Graph_Behind_c.results) J → Ok (atX K J graph_Graph_Behind_c (AM.start [a0, a1]) st) Q) : Ok (K.go (.call n_graph_Graph_Behind [a0, a1]) st) Q := call_of hF graph_Graph_Behind_is rfl h
theorem graph_Graph_Behind_j0_eq {K : Ctx} {J : JT (Value × St)} (hJ : IsJ K (retK graph_Graph_Behind_c.results) J) (v1 : Value) (v2 : Value) (st : St) : graph_Graph_Behind_j0 J v1 v2 st =
  (.thn st (sLref v2 st) fun p1 =>
  .thn p1.2 (sField none 0 v2 p1.2) fun p2 =>
  .thn p2.2 (sIxA 1 none p2.1 v1 p2.2) fun p3 =>
  .thn p3.2 (sLoad none p3.1 p3.2) fun p4 =>
  .thn p4.2 (K.go (.call n_slices_Clone_int [p4.1]) p4.2) fun p5 =>
  .ok (p5.1, p5.2)) := (go_eq hJ _ _ _ _).trans (by kernel_rfl)

/-! ### math/bits.Mul64 -/
open C in
noncomputable def math_bits_Mul64_c : AFun := ⟨51, [.tmp 4, .tmp 5],
 (s (.ops [o 4 (.mv (c (.int .u64 0))), o 5 (.mv (c (.int .u64 0)))])
 (s (.ops [o 14 (.mv (t 0)), o 15 (.bin .and (t 14) (c (.int .u64 4294967295))), o 6 (.mv (t 15))])
 (s (.ops [o 16 (.mv (t 0)), o 17 (.bin .shr (t 16) (c (.int .u64 32))), o 7 (.mv (t 17))])
 (s (.ops [o 18 (.mv (t 1)), o 19 (.bin .and (t 18) (c (.int .u64 4294967295))), o 8 (.mv (t 19))])
 (s (.ops [o 20 (.mv (t 1)), o 21 (.bin .shr (t 20) (c (.int .u64 32))), o 9 (.mv (t 21))])
 (s (.ops [o 22 (.mv (t 6)), o 23 (.mv (t 8)), o 24 (.bin .mul (t 22) (t 23)), o 10 (.mv (t 24))])
 (s (.ops [o 25 (.mv (t 7)), o 26 (.mv (t 8)), o 27 (.bin .mul (t 25) (t 26)), o 28 (.mv (t 10)), o 29 (.bin .shr (t 28) (c (.int .u64 32))), o 30 (.bin .add (t 27) (t 29)), o 11 (.mv (t 30))])
 (s (.ops [o 31 (.mv (t 11)), o 32 (.bin .and (t 31) (c (.int .u64 4294967295))), o 12 (.mv (t 32))])
 (s (.ops [o 33 (.mv (t 11)), o 34 (.bin .shr (t 33) (c (.int .u64 32))), o 13 (.mv (t 34))])
 (s (.ops [o 35 (.mv (t 12)), o 36 (.mv (t 6)), o 37 (.mv (t 9)), o 38 (.bin .mul (t 36) (t 37)), o 39 (.bin .add (t 35) (t 38)), o 12 (.mv (t 39))])
 (s (.ops [o 40 (.mv (t 7)), o 41 (.mv (t 9)), o 42 (.bin .mul (t 40) (t 41)), o 43 (.mv (t 13)), o 44 (.bin .add (t 42) (t 43)), o 45 (.mv (t 12)), o 46 (.bin .shr (t 45) (c (.int .u64 32))), o 47 (.bin .add (t 44) (t 46)), o 4 (.mv (t 47))])
 (s (.ops [o 48 (.mv (t 0)), o 49 (.mv (t 1)), o 50 (.bin .mul (t 48) (t 49)), o 5 (.mv (t 50))])
 .ret))))))))))))⟩
theorem math_bits_Mul64_is : pgF n_math_bits_Mul64 = some math_bits_Mul64_c := by kernel_rfl
theorem math_bits_Mul64_eq (K : Ctx) (J : JT (Value × St)) (a0 a1 : Value) (st : St) : atX K J math_bits_Mul64_c (AM.start [a0, a1]) st =
  (.thn st (sBin .and a0 (.int .u64 4294967295) st) fun p1 =>
  .thn p1.2 (sBin .shr a0 (.int .u64 32) p1.2) fun p2 =>
  .thn p2.2 (sBin .and a1 (.int .u64 4294967295) p2.2) fun p3 =>
  .thn p3.2 (sBin .shr a1 (.int .u64 32) p3.2) fun p4 =>
  .thn p4.2 (sBin .mul p1.1 p3.1 p4.2) fun p5 =>
  .thn p5.2 (sBin .mul p2.1 p3.1 p5.2) fun p6 =>
  .thn p6.2 (sBin .shr p5.1 (.int .u64 32) p6.2) fun p7 =>
  .thn p7.2 (sBin .add p6.1 p7.1 p7.2) fun p8 =>
  .thn p8.2 (sBin .and p8.1 (.int .u64 4294967295) p8.2) fun p9 =>
  .thn p9.2 (sBin .shr p8.1 (.int .u64 32) p9.2) fun p10 =>
  .thn p10.2 (sBin .mul p1.1 p4.1 p10.2) fun p11 =>
  .thn p11.2 (sBin .add p9.1 p11.1 p11.2) fun p12 =>
  .thn p12.2 (sBin .mul p2.1 p4.1 p12.2) fun p13 =>
  .thn p13.2 (sBin .add p13.1 p10.1 p13.2) fun p14 =>
  .thn p14.2 (sBin .shr p12.1 (.int .u64 32) p14.2) fun p15 =>
  .thn p15.2 (sBin .add p14.1 p15.1 p15.2) fun p16 =>
  .thn p16.2 (sBin .mul a0 a1 p16.2) fun p17 =>
  .ok (.tuple #[p16.1, p17.1], p17.2)) := by kernel_rfl
theorem math_bits_Mul64_of {K : Ctx} (hF : Fix pgF K) {a0 a1 : Value} {st : St} {Q : Value × St → Prop} (h : ∀ J, IsJ K (retK math_bits_Mul64_c.results) J → Ok (atX K J math_bits_Mul64_c (AM.start [a0, a1]) st) Q) : Ok (K.go (.call n_math_bits_Mul64 [a0, a1]) st) Q := call_of hF math_bits_Mul64_is rfl h
end Go.Proofs.Ytenfblnmmmppbaa.Sh
