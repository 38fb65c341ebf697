/-
  The functions of the program, operation by operation, as the abstract machine has them.
-/
import Derived.Test.YtenfblnmmmppbaaProg
import Derived.Test.YtenfblnmmmppbaaShN
set_option linter.unusedVariables false
set_option maxRecDepth 100000
namespace Go.Proofs.Ytenfblnmmmppbaa.Sh
open Go Go.AM Go.Proofs

/-! ### refinery/refinerylaw19.ShareCopies -/
open C in
noncomputable def refinerylaw19_ShareCopies_c : AFun := ⟨2, [.tmp 4],
 (s (.ops [o 4 (.mv (c (.bool false)))])
 (s (s (.ops [o 9 (.call (f 14) []), o 10 (.un .not (t 9))])
 (.cond (t 10) (s (.ops [o 4 (.mv (c (.bool false)))])
 .ret) .skip))
 (s (.keep [0, 1])
 (s (.ops [o 11 (.mv (t 0)), o 12 (.bin .rem (t 11) (c (u 20))), o 13 (.conv (.int .i64) (t 12)), o 14 (.bin .add (c (i 1)) (t 13)), o 5 (.mv (t 14))])
 (s (.ops [o 15 (.build [(u 0), (u 0), (i 0), (i 0), (i 0), (i 0), (i 0)] [(0, 1, (c (u 3)))]), o 16 (.lit 7 1 [(u 0), (u 0), (i 0), (i 0), (i 0), (i 0), (i 0)] [(0, 7, (t 15))]), o 17 (.mv (t 5)), o 18 (.build [(u 0), (i 0), (i 0), (i 0)] [(0, 1, (c (u 2))), (1, 1, (t 17))]), o 19 (.build [(i 0), (.slice none 0 0), (.slice none 0 0), (u 0), (i 0), (i 0), (i 0)] [(2, 1, (t 16)), (3, 4, (t 18))]), o 6 (.lnew [(i 0), (.slice none 0 0), (.slice none 0 0), (u 0), (i 0), (i 0), (i 0)]), o 6 (.upd 7 0 (t 6) (t 19))])
 (s (s (.ops [o 20 (.mv (t 5)), o 21 (.mv (c (i 0)))])
 (.block 0 (s (.keep [1, 5, 6, 20, 21])
 (.loop (s (s (.ops [o 22 (.bin .lss (t 21) (t 20))])
 (s (.cond (t 22) .skip (.exit 0))
 (s (.keep [1, 5, 6, 20, 21])
 (s (.block 1 (s (.ops [o 23 (.mv (t 21)), o 7 (.mv (t 23))])
 (.ops [o 24 (.lref (t 6)), o 25 (.field none 2 (t 6)), o 26 (.mv (t 7)), o 27 (.bin .add (t 26) (c (i 1))), o 28 (.mv (t 7)), o 29 (.build [(u 0), (u 0), (i 0), (i 0), (i 0), (i 0), (i 0)] [(0, 1, (c (u 1))), (2, 1, (t 27)), (3, 1, (t 28))]), o 30 (.lit 7 1 [(u 0), (u 0), (i 0), (i 0), (i 0), (i 0), (i 0)] [(0, 7, (t 29))]), o 31 (.append 7 48 (t 25) (t 30)), o 32 (.lref (t 6)), o 6 (.upd 1 2 (t 6) (t 31))])))
 (s (.keep [1, 5, 6, 20, 21])
 (.ops [o 33 (.bin .add (t 21) (c (i 1))), o 21 (.mv (t 33))]))))))
 (.keep [1, 5, 6, 20, 21]))))))
 (s (.keep [1, 5, 6])
 (s (.draw [d 0 0 false (o 34 (.lref (t 6))), d 1 0 false (o 35 (.field none 2 (t 6))), d 2 0 false (o 36 (.mv (t 1))), d 3 0 false (o 37 (.conv (.int .i64) (t 36))), d 4 0 false (o 38 (.mv (t 5))), d 5 0 false (o 39 (.bin .add (t 38) (c (i 1)))), d 6 0 false (o 40 (.bin .rem (t 37) (t 39))), d 7 0 false (o 41 (.build [(u 0), (u 0), (i 0), (i 0), (i 0), (i 0), (i 0)] [(0, 1, (c (u 4))), (3, 1, (t 40))])), d 8 0 false (o 42 (.lit 7 1 [(u 0), (u 0), (i 0), (i 0), (i 0), (i 0), (i 0)] [(0, 7, (t 41))])), d 9 0 true (o 43 (.append 7 48 (t 35) (t 42))), d 10 0 false (o 44 (.lref (t 6))), d 11 0 true (o 6 (.upd 1 2 (t 6) (t 43)))])
 (s (.ops [o 45 (.field (some 7) 0 (t 6)), o 46 (.lit 7 1 [(i 0), (.slice none 0 0), (.slice none 0 0), (u 0), (i 0), (i 0), (i 0)] [(0, 7, (t 45))]), o 47 (.build [(.slice none 0 0)] [(0, 1, (t 46))]), o 48 (.call (f 15) [(t 47)]), o 8 (.lnew [(.slice none 0 0)]), o 8 (.upd 1 0 (t 8) (t 48))])
 (s (.ops [o 49 (.field (some 1) 0 (t 8)), o 50 (.build [(u 0), (u 0), (i 0), (i 0), (i 0), (i 0), (i 0)] [(0, 1, (c (u 3)))]), o 51 (.build [(u 0), (u 0), (i 0), (i 0), (i 0), (i 0), (i 0)] [(0, 1, (c (u 4)))]), o 52 (.lit 7 2 [(u 0), (u 0), (i 0), (i 0), (i 0), (i 0), (i 0), (u 0), (u 0), (i 0), (i 0), (i 0), (i 0), (i 0)] [(0, 7, (t 50)), (7, 7, (t 51))]), o 53 (.build [(u 0), (i 0), (i 0), (i 0)] [(0, 1, (c (u 2)))]), o 54 (.build [(i 0), (.slice none 0 0), (.slice none 0 0), (u 0), (i 0), (i 0), (i 0)] [(2, 1, (t 52)), (3, 4, (t 53))]), o 55 (.lit 7 1 [(i 0), (.slice none 0 0), (.slice none 0 0), (u 0), (i 0), (i 0), (i 0)] [(0, 7, (t 54))]), o 56 (.build [(.slice none 0 0)] [(0, 1, (t 55))]), o 57 (.call (f 16) [(t 49), (t 56)]), o 4 (.mv (t 57))])
 .ret))))))))))⟩
theorem refinerylaw19_ShareCopies_is : pgF n_refinerylaw19_ShareCopies = some refinerylaw19_ShareCopies_c := by kernel_rfl
noncomputable def refinerylaw19_ShareCopies_j0 (J : JT (Value × St)) (v0 : Value) (v1 : Value) (st : St) : Res (Value × St) := goX J refinerylaw19_ShareCopies_c.body [1, 1, 1] (envT [(0, v0), (1, v1)]) st
noncomputable def refinerylaw19_ShareCopies_l0 (J : JT (Value × St)) (v1 : Value) (v5 : Value) (v6 : Value) (v20 : Value) (v21 : Value) (st : St) : Res (Value × St) := lpX J refinerylaw19_ShareCopies_c.body [1, 1, 1, 1, 1, 0, 1, 0, 1] (envT [(1, v1), (5, v5), (6, v6), (20, v20), (21, v21)]) st
noncomputable def refinerylaw19_ShareCopies_j1 (J : JT (Value × St)) (v1 : Value) (v5 : Value) (v6 : Value) (v20 : Value) (v21 : Value) (st : St) : Res (Value × St) := goX J refinerylaw19_ShareCopies_c.body [1, 1, 1, 1, 1, 0, 1, 0, 1, 0, 0, 1, 1, 1] (envT [(1, v1), (5, v5), (6, v6), (20, v20), (21, v21)]) st
noncomputable def refinerylaw19_ShareCopies_j2 (J : JT (Value × St)) (v1 : Value) (v5 : Value) (v6 : Value) (st : St) : Res (Value × St) := goX J refinerylaw19_ShareCopies_c.body [1, 1, 1, 1, 1, 1, 1] (envT [(1, v1), (5, v5), (6, v6)]) st
noncomputable def refinerylaw19_ShareCopies_j3 (J : JT (Value × St)) (v1 : Value) (v5 : Value) (v6 : Value) (v20 : Value) (v21 : Value) (st : St) : Res (Value × St) := goX J refinerylaw19_ShareCopies_c.body [1, 1, 1, 1, 1, 0, 1, 0, 1, 0, 0, 1, 1, 1, 1, 1] (envT [(1, v1), (5, v5), (6, v6), (20, v20), (21, v21)]) st
theorem refinerylaw19_ShareCopies_eq (K : Ctx) (J : JT (Value × St)) (a0 a1 : Value) (st : St) : atX K J refinerylaw19_ShareCopies_c (AM.start [a0, a1]) st =
  (.thn st (K.go (.call n_refinerylaw19_Awake []) st) fun p1 =>
  .thn p1.2 (sUn .not p1.1 p1.2) fun p2 =>
  condX p2.1
  (.ok ((.bool false), p2.2))
  (refinerylaw19_ShareCopies_j0 J a0 a1 p2.2)) := by kernel_rfl
theorem refinerylaw19_ShareCopies_of {K : Ctx} (hF : Fix pgF K) {a0 a1 : Value} {st : St} {Q : Value × St → Prop} (h : ∀ J, IsJ K (retK refinerylaw19_ShareCopies_c.results) J → Ok (atX K J refinerylaw19_ShareCopies_c (AM.start [a0, a1]) st) Q) : Ok (K.go (.call n_refinerylaw19_ShareCopies [a0, a1]) st) Q := call_of hF refinerylaw19_ShareCopies_is rfl h
theorem refinerylaw19_ShareCopies_j0_eq {K : Ctx} {J : JT (Value × St)} (hJ : IsJ K (retK refinerylaw19_ShareCopies_c.results) J) (v0 : Value) (v1 : Value) (st : St) : refinerylaw19_ShareCopies_j0 J v0 v1 st =
  (.thn st (sBin .rem v0 (.int .u8 20) st) fun p1 =>
  .thn p1.2 (sConv (.int .i64) p1.1 p1.2) fun p2 =>
  .thn p2.2 (sBin .add (.int .i64 1) p2.1 p2.2) fun p3 =>
  .thn p3.2 (sBuild [(.int .u8 0), (.int .u8 0), (.int .i64 0), (.int .i64 0), (.int .i64 0), (.int .i64 0), (.int .i64 0)] [(0, 1, (.int .u8 3))] p3.2) fun p4 =>
  .thn p4.2 (sLit 7 1 [(.int .u8 0), (.int .u8 0), (.int .i64 0), (.int .i64 0), (.int .i64 0), (.int .i64 0), (.int .i64 0)] [(0, 7, p4.1)] p4.2) fun p5 =>
  .thn p5.2 (sBuild [(.int .u8 0), (.int .i64 0), (.int .i64 0), (.int .i64 0)] [(0, 1, (.int .u8 2)), (1, 1, p3.1)] p5.2) fun p6 =>
  .thn p6.2 (sBuild [(.int .i64 0), (.slice none 0 0), (.slice none 0 0), (.int .u8 0), (.int .i64 0), (.int .i64 0), (.int .i64 0)] [(2, 1, p5.1), (3, 4, p6.1)] p6.2) fun p7 =>
  .thn p7.2 (sLnew [(.int .i64 0), (.slice none 0 0), (.slice none 0 0), (.int .u8 0), (.int .i64 0), (.int .i64 0), (.int .i64 0)] p7.2) fun p8 =>
  .thn p8.2 (sUpd 7 0 p8.1 p7.1 p8.2) fun p9 =>
  refinerylaw19_ShareCopies_l0 J v1 p3.1 p9.1 p3.1 (.int .i64 0) p9.2) := (go_eq hJ _ _ _ _).trans (by kernel_rfl)
theorem refinerylaw19_ShareCopies_l0_eq (K : Ctx) (J : JT (Value × St)) (v1 : Value) (v5 : Value) (v6 : Value) (v20 : Value) (v21 : Value) (st : St) : inX K J (retK refinerylaw19_ShareCopies_c.results) refinerylaw19_ShareCopies_c.body [1, 1, 1, 1, 1, 0, 1, 0, 1] (envT [(1, v1), (5, v5), (6, v6), (20, v20), (21, v21)]) st =
  (.thn st (sBin .lss v21 v20 st) fun p1 =>
  condX p1.1
  (refinerylaw19_ShareCopies_j1 J v1 v5 v6 v20 v21 p1.2)
  (refinerylaw19_ShareCopies_j2 J v1 v5 v6 p1.2)) := by kernel_rfl
theorem refinerylaw19_ShareCopies_l0_of {K : Ctx} (hF : Fix pgF K) {J : JT (Value × St)} (hJ : IsJ K (retK refinerylaw19_ShareCopies_c.results) J) {v1 : Value} {v5 : Value} {v6 : Value} {v20 : Value} {v21 : Value} {st : St} {Q : Value × St → Prop} (h : Ok (inX K J (retK refinerylaw19_ShareCopies_c.results) refinerylaw19_ShareCopies_c.body [1, 1, 1, 1, 1, 0, 1, 0, 1] (envT [(1, v1), (5, v5), (6, v6), (20, v20), (21, v21)]) st) Q) : Ok (refinerylaw19_ShareCopies_l0 J v1 v5 v6 v20 v21 st) Q := loop_of hF hJ h
theorem refinerylaw19_ShareCopies_j1_eq {K : Ctx} {J : JT (Value × St)} (hJ : IsJ K (retK refinerylaw19_ShareCopies_c.results) J) (v1 : Value) (v5 : Value) (v6 : Value) (v20 : Value) (v21 : Value) (st : St) : refinerylaw19_ShareCopies_j1 J v1 v5 v6 v20 v21 st =
  (.thn st (sLref v6 st) fun p1 =>
  .thn p1.2 (sField none 2 v6 p1.2) fun p2 =>
  .thn p2.2 (sBin .add v21 (.int .i64 1) p2.2) fun p3 =>
  .thn p3.2 (sBuild [(.int .u8 0), (.int .u8 0), (.int .i64 0), (.int .i64 0), (.int .i64 0), (.int .i64 0), (.int .i64 0)] [(0, 1, (.int .u8 1)), (2, 1, p3.1), (3, 1, v21)] p3.2) fun p4 =>
  .thn p4.2 (sLit 7 1 [(.int .u8 0), (.int .u8 0), (.int .i64 0), (.int .i64 0), (.int .i64 0), (.int .i64 0), (.int .i64 0)] [(0, 7, p4.1)] p4.2) fun p5 =>
  .thn p5.2 (sAppend 7 48 p2.1 p5.1 p5.2) fun p6 =>
  .thn p6.2 (sLref v6 p6.2) fun p7 =>
  .thn p7.2 (sUpd 1 2 v6 p6.1 p7.2) fun p8 =>
  refinerylaw19_ShareCopies_j3 J v1 v5 p8.1 v20 v21 p8.2) := (go_eq hJ _ _ _ _).trans (by kernel_rfl)
theorem refinerylaw19_ShareCopies_j2_eq {K : Ctx} {J : JT (Value × St)} (hJ : IsJ K (retK refinerylaw19_ShareCopies_c.results) J) (v1 : Value) (v5 : Value) (v6 : Value) (st : St) : refinerylaw19_ShareCopies_j2 J v1 v5 v6 st =
  (.thn st (sLref v6 st) fun p1 =>
  .thn p1.2 (sField none 2 v6 p1.2) fun p2 =>
  .thn p2.2 (sConv (.int .i64) v1 p2.2) fun p3 =>
  .thn p3.2 (sBin .add v5 (.int .i64 1) p3.2) fun p4 =>
  .thn p4.2 (sBin .rem p3.1 p4.1 p4.2) fun p5 =>
  .thn p5.2 (sBuild [(.int .u8 0), (.int .u8 0), (.int .i64 0), (.int .i64 0), (.int .i64 0), (.int .i64 0), (.int .i64 0)] [(0, 1, (.int .u8 4)), (3, 1, p5.1)] p5.2) fun p6 =>
  .thn p6.2 (sLit 7 1 [(.int .u8 0), (.int .u8 0), (.int .i64 0), (.int .i64 0), (.int .i64 0), (.int .i64 0), (.int .i64 0)] [(0, 7, p6.1)] p6.2) fun p7 =>
  .thn p7.2 (sAppend 7 48 p2.1 p7.1 p7.2) fun p8 =>
  .thn p8.2 (sLref v6 p8.2) fun p9 =>
  .thn p9.2 (sUpd 1 2 v6 p8.1 p9.2) fun p10 =>
  .thn p10.2 (sField (some 7) 0 p10.1 p10.2) fun p11 =>
  .thn p11.2 (sLit 7 1 [(.int .i64 0), (.slice none 0 0), (.slice none 0 0), (.int .u8 0), (.int .i64 0), (.int .i64 0), (.int .i64 0)] [(0, 7, p11.1)] p11.2) fun p12 =>
  .thn p12.2 (sBuild [(.slice none 0 0)] [(0, 1, p12.1)] p12.2) fun p13 =>
  .thn p13.2 (K.go (.call n_share_Share [p13.1]) p13.2) fun p14 =>
  .thn p14.2 (sLnew [(.slice none 0 0)] p14.2) fun p15 =>
  .thn p15.2 (sUpd 1 0 p15.1 p14.1 p15.2) fun p16 =>
  .thn p16.2 (sField (some 1) 0 p16.1 p16.2) fun p17 =>
  .thn p17.2 (sBuild [(.int .u8 0), (.int .u8 0), (.int .i64 0), (.int .i64 0), (.int .i64 0), (.int .i64 0), (.int .i64 0)] [(0, 1, (.int .u8 3))] p17.2) fun p18 =>
  .thn p18.2 (sBuild [(.int .u8 0), (.int .u8 0), (.int .i64 0), (.int .i64 0), (.int .i64 0), (.int .i64 0), (.int .i64 0)] [(0, 1, (.int .u8 4))] p18.2) fun p19 =>
  .thn p19.2 (sLit 7 2 [(.int .u8 0), (.int .u8 0), (.int .i64 0), (.int .i64 0), (.int .i64 0), (.int .i64 0), (.int .i64 0), (.int .u8 0), (.int .u8 0), (.int .i64 0), (.int .i64 0), (.int .i64 0), (.int .i64 0), (.int .i64 0)] [(0, 7, p18.1), (7, 7, p19.1)] p19.2) fun p20 =>
  .thn p20.2 (sBuild [(.int .u8 0), (.int .i64 0), (.int .i64 0), (.int .i64 0)] [(0, 1, (.int .u8 2))] p20.2) fun p21 =>
  .thn p21.2 (sBuild [(.int .i64 0), (.slice none 0 0), (.slice none 0 0), (.int .u8 0), (.int .i64 0), (.int .i64 0), (.int .i64 0)] [(2, 1, p20.1), (3, 4, p21.1)] p21.2) fun p22 =>
  .thn p22.2 (sLit 7 1 [(.int .i64 0), (.slice none 0 0), (.slice none 0 0), (.int .u8 0), (.int .i64 0), (.int .i64 0), (.int .i64 0)] [(0, 7, p22.1)] p22.2) fun p23 =>
  .thn p23.2 (sBuild [(.slice none 0 0)] [(0, 1, p23.1)] p23.2) fun p24 =>
  .thn p24.2 (K.go (.call n_ir_Same [p17.1, p24.1]) p24.2) fun p25 =>
  .ok (p25.1, p25.2)) := (go_eq hJ _ _ _ _).trans (by kernel_rfl)
theorem refinerylaw19_ShareCopies_j3_eq {K : Ctx} {J : JT (Value × St)} (hJ : IsJ K (retK refinerylaw19_ShareCopies_c.results) J) (v1 : Value) (v5 : Value) (v6 : Value) (v20 : Value) (v21 : Value) (st : St) : refinerylaw19_ShareCopies_j3 J v1 v5 v6 v20 v21 st =
  (.thn st (sBin .add v21 (.int .i64 1) st) fun p1 =>
  refinerylaw19_ShareCopies_l0 J v1 v5 v6 v20 p1.1 p1.2) := (go_eq hJ _ _ _ _).trans (by kernel_rfl)

/-! ### refinery/refinerylaw19.Awake -/
open C in
noncomputable def refinerylaw19_Awake_c : AFun := ⟨0, [.tmp 0],
 (s (.ops [o 0 (.mv (c (.bool false)))])
 (s (.ops [o 3 (.build [(u 0), (u 0), (i 0), (i 0), (i 0), (i 0), (i 0)] [(0, 1, (c (u 3)))]), o 4 (.build [(u 0), (u 0), (i 0), (i 0), (i 0), (i 0), (i 0)] [(0, 1, (c (u 3))), (2, 1, (c (i 1)))]), o 5 (.build [(u 0), (u 0), (i 0), (i 0), (i 0), (i 0), (i 0)] [(0, 1, (c (u 2))), (2, 1, (c (i 2))), (4, 1, (c (i 1)))]), o 6 (.build [(u 0), (u 0), (i 0), (i 0), (i 0), (i 0), (i 0)] [(0, 1, (c (u 2))), (2, 1, (c (i 3))), (3, 1, (c (i 1)))]), o 7 (.lit 7 4 [(u 0), (u 0), (i 0), (i 0), (i 0), (i 0), (i 0), (u 0), (u 0), (i 0), (i 0), (i 0), (i 0), (i 0), (u 0), (u 0), (i 0), (i 0), (i 0), (i 0), (i 0), (u 0), (u 0), (i 0), (i 0), (i 0), (i 0), (i 0)] [(0, 7, (t 3)), (7, 7, (t 4)), (14, 7, (t 5)), (21, 7, (t 6))]), o 8 (.build [(u 0), (i 0), (i 0), (i 0)] [(0, 1, (c (u 2))), (1, 1, (c (i 3)))]), o 9 (.build [(i 0), (.slice none 0 0), (.slice none 0 0), (u 0), (i 0), (i 0), (i 0)] [(2, 1, (t 7)), (3, 4, (t 8))]), o 10 (.lit 7 1 [(i 0), (.slice none 0 0), (.slice none 0 0), (u 0), (i 0), (i 0), (i 0)] [(0, 7, (t 9))]), o 11 (.build [(.slice none 0 0)] [(0, 1, (t 10))]), o 1 (.lnew [(.slice none 0 0)]), o 1 (.upd 1 0 (t 1) (t 11))])
 (s (.ops [o 12 (.field (some 1) 0 (t 1)), o 13 (.call (f 15) [(t 12)]), o 2 (.lnew [(.slice none 0 0)]), o 2 (.upd 1 0 (t 2) (t 13))])
 (s (.ops [o 14 (.lref (t 2)), o 15 (.field none 0 (t 2)), o 16 (.len .slice (t 15)), o 17 (.bin .eql (t 16) (c (i 1))), o 18 (.mv (t 17)), g 19 true 18 (.lref (t 2)), g 20 true 18 (.field none 0 (t 2)), g 21 true 18 (.ixA 7 none (t 20) (c (i 0))), g 22 true 18 (.off 2 (t 21)), g 23 true 18 (.load none (t 22)), g 24 true 18 (.len .slice (t 23)), g 25 true 18 (.bin .eql (t 24) (c (i 3))), o 26 (.pick (t 18) (t 25) (c (.bool false))), o 27 (.mv (t 26)), g 28 true 27 (.lref (t 2)), g 29 true 27 (.field none 0 (t 2)), g 30 true 27 (.ixA 7 none (t 29) (c (i 0))), g 31 true 27 (.off 3 (t 30)), g 32 true 27 (.off 1 (t 31)), g 33 true 27 (.load none (t 32)), g 34 true 27 (.bin .eql (t 33) (c (i 2))), o 35 (.pick (t 27) (t 34) (c (.bool false))), o 0 (.mv (t 35))])
 .ret))))⟩
theorem refinerylaw19_Awake_is : pgF n_refinerylaw19_Awake = some refinerylaw19_Awake_c := by kernel_rfl
theorem refinerylaw19_Awake_eq (K : Ctx) (J : JT (Value × St)) (st : St) : atX K J refinerylaw19_Awake_c (AM.start []) st =
  (.thn st (sBuild [(.int .u8 0), (.int .u8 0), (.int .i64 0), (.int .i64 0), (.int .i64 0), (.int .i64 0), (.int .i64 0)] [(0, 1, (.int .u8 3))] st) fun p1 =>
  .thn p1.2 (sBuild [(.int .u8 0), (.int .u8 0), (.int .i64 0), (.int .i64 0), (.int .i64 0), (.int .i64 0), (.int .i64 0)] [(0, 1, (.int .u8 3)), (2, 1, (.int .i64 1))] p1.2) fun p2 =>
  .thn p2.2 (sBuild [(.int .u8 0), (.int .u8 0), (.int .i64 0), (.int .i64 0), (.int .i64 0), (.int .i64 0), (.int .i64 0)] [(0, 1, (.int .u8 2)), (2, 1, (.int .i64 2)), (4, 1, (.int .i64 1))] p2.2) fun p3 =>
  .thn p3.2 (sBuild [(.int .u8 0), (.int .u8 0), (.int .i64 0), (.int .i64 0), (.int .i64 0), (.int .i64 0), (.int .i64 0)] [(0, 1, (.int .u8 2)), (2, 1, (.int .i64 3)), (3, 1, (.int .i64 1))] p3.2) fun p4 =>
  .thn p4.2 (sLit 7 4 [(.int .u8 0), (.int .u8 0), (.int .i64 0), (.int .i64 0), (.int .i64 0), (.int .i64 0), (.int .i64 0), (.int .u8 0), (.int .u8 0), (.int .i64 0), (.int .i64 0), (.int .i64 0), (.int .i64 0), (.int .i64 0), (.int .u8 0), (.int .u8 0), (.int .i64 0), (.int .i64 0), (.int .i64 0), (.int .i64 0), (.int .i64 0), (.int .u8 0), (.int .u8 0), (.int .i64 0), (.int .i64 0), (.int .i64 0), (.int .i64 0), (.int .i64 0)] [(0, 7, p1.1), (7, 7, p2.1), (14, 7, p3.1), (21, 7, p4.1)] p4.2) fun p5 =>
  .thn p5.2 (sBuild [(.int .u8 0), (.int .i64 0), (.int .i64 0), (.int .i64 0)] [(0, 1, (.int .u8 2)), (1, 1, (.int .i64 3))] p5.2) fun p6 =>
  .thn p6.2 (sBuild [(.int .i64 0), (.slice none 0 0), (.slice none 0 0), (.int .u8 0), (.int .i64 0), (.int .i64 0), (.int .i64 0)] [(2, 1, p5.1), (3, 4, p6.1)] p6.2) fun p7 =>
  .thn p7.2 (sLit 7 1 [(.int .i64 0), (.slice none 0 0), (.slice none 0 0), (.int .u8 0), (.int .i64 0), (.int .i64 0), (.int .i64 0)] [(0, 7, p7.1)] p7.2) fun p8 =>
  .thn p8.2 (sBuild [(.slice none 0 0)] [(0, 1, p8.1)] p8.2) fun p9 =>
  .thn p9.2 (sLnew [(.slice none 0 0)] p9.2) fun p10 =>
  .thn p10.2 (sUpd 1 0 p10.1 p9.1 p10.2) fun p11 =>
  .thn p11.2 (sField (some 1) 0 p11.1 p11.2) fun p12 =>
  .thn p12.2 (K.go (.call n_share_Share [p12.1]) p12.2) fun p13 =>
  .thn p13.2 (sLnew [(.slice none 0 0)] p13.2) fun p14 =>
  .thn p14.2 (sUpd 1 0 p14.1 p13.1 p14.2) fun p15 =>
  .thn p15.2 (sLref p15.1 p15.2) fun p16 =>
  .thn p16.2 (sField none 0 p15.1 p16.2) fun p17 =>
  .thn p17.2 (sLen .slice p17.1 p17.2) fun p18 =>
  .thn p18.2 (sBin .eql p18.1 (.int .i64 1) p18.2) fun p19 =>
  .thn p19.2 (sG p19.1 true (sLref p15.1 p19.2) p19.2) fun p20 =>
  .thn p20.2 (sG p19.1 true (sField none 0 p15.1 p20.2) p20.2) fun p21 =>
  .thn p21.2 (sG p19.1 true (sIxA 7 none p21.1 (.int .i64 0) p21.2) p21.2) fun p22 =>
  .thn p22.2 (sG p19.1 true (sOff 2 p22.1 p22.2) p22.2) fun p23 =>
  .thn p23.2 (sG p19.1 true (sLoad none p23.1 p23.2) p23.2) fun p24 =>
  .thn p24.2 (sG p19.1 true (sLen .slice p24.1 p24.2) p24.2) fun p25 =>
  .thn p25.2 (sG p19.1 true (sBin .eql p25.1 (.int .i64 3) p25.2) p25.2) fun p26 =>
  .thn p26.2 (sPick p19.1 p26.1 (.bool false) p26.2) fun p27 =>
  .thn p27.2 (sG p27.1 true (sLref p15.1 p27.2) p27.2) fun p28 =>
  .thn p28.2 (sG p27.1 true (sField none 0 p15.1 p28.2) p28.2) fun p29 =>
  .thn p29.2 (sG p27.1 true (sIxA 7 none p29.1 (.int .i64 0) p29.2) p29.2) fun p30 =>
  .thn p30.2 (sG p27.1 true (sOff 3 p30.1 p30.2) p30.2) fun p31 =>
  .thn p31.2 (sG p27.1 true (sOff 1 p31.1 p31.2) p31.2) fun p32 =>
  .thn p32.2 (sG p27.1 true (sLoad none p32.1 p32.2) p32.2) fun p33 =>
  .thn p33.2 (sG p27.1 true (sBin .eql p33.1 (.int .i64 2) p33.2) p33.2) fun p34 =>
  .thn p34.2 (sPick p27.1 p34.1 (.bool false) p34.2) fun p35 =>
  .ok (p35.1, p35.2)) := by kernel_rfl
theorem refinerylaw19_Awake_of {K : Ctx} (hF : Fix pgF K) {st : St} {Q : Value × St → Prop} (h : ∀ J, IsJ K (retK refinerylaw19_Awake_c.results) J → Ok (atX K J refinerylaw19_Awake_c (AM.start []) st) Q) : Ok (K.go (.call n_refinerylaw19_Awake []) st) Q := call_of hF refinerylaw19_Awake_is rfl h

/-! ### refinery/share.Share -/
open C in
noncomputable def share_Share_c : AFun := ⟨1, [.part 2 (some 1)],
 (s (.ops [o 1 (.lbox (t 0)), o 2 (.lnew [(.slice none 0 0)])])
 (s (s (.ops [o 14 (.field (some 1) 0 (t 1)), o 15 (.call (f 23) [(t 14)]), o 16 (.bin .neq (t 15) (c (i 0)))])
 (.cond (t 16) (s (.ops [o 17 (.field (some 1) 0 (t 1)), o 18 (.call (f 33) [(t 17)]), o 2 (.upd 1 0 (t 2) (t 18))])
 .ret) .skip))
 (s (.keep [1, 2])
 (s (.ops [o 19 (.field (some 1) 0 (t 1)), o 20 (.call (f 33) [(t 19)]), o 21 .newMap, o 22 (.build [(.slice none 0 0), (.slice none 0 0), (.slice none 0 0), (.slice none 0 0), (.map none)] [(0, 1, (t 20)), (4, 1, (t 21))]), o 23 (.box (t 22)), o 3 (.mv (t 23))])
 (s (.ops [o 24 (.mv (t 3)), o 25 (.field (some 1) 0 (t 1)), o 26 (.call (f 24) [(t 25)]), o 27 (.call (f 32) [(t 26)]), o 28 (.nilc (t 24)), o 29 (.off 1 (t 28)), n (.store 3 (t 29) (t 27))])
 (s (s (.ops [o 30 (.lref (t 1)), o 31 (.field none 0 (t 1)), o 32 (.len .slice (t 31)), o 33 (.bin .gtr (t 32) (c (i 0)))])
 (.cond (t 33) (.ops [o 34 (.mv (t 3)), o 35 (.call (f 34) [(t 34), (c (i 0)), (c (.pointer none))])]) .skip))
 (s (.keep [2, 3])
 (s (s (.ops [o 36 (.mv (t 3)), o 37 (.nilc (t 36)), o 38 (.off 0 (t 37)), o 39 (.off 0 (t 38)), o 40 (.load none (t 39)), o 41 (.len .slice (t 40)), o 42 (.mv (c (i 0)))])
 (.block 0 (s (.keep [2, 3, 41, 42])
 (.loop (s (s (.ops [o 43 (.bin .lss (t 42) (t 41))])
 (s (.cond (t 43) .skip (.exit 0))
 (s (.keep [2, 3, 41, 42])
 (s (.block 1 (s (.ops [o 44 (.mv (t 42)), o 4 (.mv (t 44))])
 (s (.ops [o 45 (.mv (t 3)), o 46 (.nilc (t 45)), o 47 (.off 0 (t 46)), o 48 (.off 0 (t 47)), o 49 (.load none (t 48)), o 50 (.mv (t 4)), o 51 (.ixA 7 none (t 49) (t 50)), o 5 (.mv (t 51))])
 (s (s (.ops [o 52 (.mv (t 5)), o 53 (.nilc (t 52)), o 54 (.off 1 (t 53)), o 55 (.load none (t 54)), o 56 (.len .slice (t 55)), o 57 (.mv (c (i 0)))])
 (.block 2 (s (.keep [2, 3, 5, 41, 42, 55, 56, 57])
 (.loop (s (s (.ops [o 58 (.bin .lss (t 57) (t 56))])
 (s (.cond (t 58) .skip (.exit 2))
 (s (.keep [2, 3, 5, 41, 42, 55, 56, 57])
 (s (.block 3 (s (.ops [o 59 (.ixA 3 none (t 55) (t 57)), o 60 (.load (some 3) (t 59)), o 7 (.lnew [(i 0), (.slice none 0 0), (.slice none 0 0)]), o 7 (.upd 3 0 (t 7) (t 60))])
 (s (.ops [o 61 (.lref (t 7)), o 62 (.field none 2 (t 7)), o 63 (.len .slice (t 62)), o 64 (.mv (c (i 0)))])
 (.block 4 (s (.keep [2, 3, 5, 7, 41, 42, 55, 56, 57, 62, 63, 64])
 (.loop (s (s (.ops [o 65 (.bin .lss (t 64) (t 63))])
 (s (.cond (t 65) .skip (.exit 4))
 (s (.keep [2, 3, 5, 7, 41, 42, 55, 56, 57, 62, 63, 64])
 (s (.block 5 (s (.ops [o 66 (.mv (t 64)), o 67 (.ixA 1 none (t 62) (t 64)), o 68 (.load none (t 67)), o 8 (.mv (t 66)), o 9 (.mv (t 68))])
 (.draw [d 3 0 false (o 72 (.mv (t 3))), d 4 0 false (o 73 (.mv (t 9))), d 5 0 true (o 74 (.call (f 35) [(t 72), (t 73)])), d 0 0 false (o 69 (.lref (t 7))), d 1 1 false (o 70 (.field none 2 (t 7))), d 2 0 false (o 71 (.mv (t 8))), d 6 0 false (o 75 (.ixA 1 none (t 70) (t 71))), d 7 0 true (n (.store 1 (t 75) (t 74)))])))
 (s (.keep [2, 3, 5, 7, 41, 42, 55, 56, 57, 62, 63, 64])
 (.ops [o 76 (.bin .add (t 64) (c (i 1))), o 64 (.mv (t 76))]))))))
 (.keep [2, 3, 5, 7, 41, 42, 55, 56, 57, 62, 63, 64]))))))))
 (s (.keep [2, 3, 5, 41, 42, 55, 56, 57])
 (.ops [o 77 (.bin .add (t 57) (c (i 1))), o 57 (.mv (t 77))]))))))
 (.keep [2, 3, 5, 41, 42, 55, 56, 57]))))))
 (s (.keep [2, 3, 5, 41, 42])
 (s (s (.ops [o 78 (.mv (t 5)), o 79 (.nilc (t 78)), o 80 (.off 2 (t 79)), o 81 (.load none (t 80)), o 82 (.len .slice (t 81)), o 83 (.mv (c (i 0)))])
 (.block 6 (s (.keep [2, 3, 5, 41, 42, 81, 82, 83])
 (.loop (s (s (.ops [o 84 (.bin .lss (t 83) (t 82))])
 (s (.cond (t 84) .skip (.exit 6))
 (s (.keep [2, 3, 5, 41, 42, 81, 82, 83])
 (s (.block 7 (s (.ops [o 85 (.mv (t 83)), o 86 (.ixA 7 none (t 81) (t 83)), o 87 (.load (some 7) (t 86)), o 11 (.lnew [(u 0), (u 0), (i 0), (i 0), (i 0), (i 0), (i 0)]), o 10 (.mv (t 85)), o 11 (.upd 7 0 (t 11) (t 87))])
 (.draw [d 5 0 false (o 93 (.field (some 7) 0 (t 11))), d 6 0 false (o 94 (.mv (t 3))), d 7 0 false (o 95 (.fn 35 [(t 94)] [])), d 8 0 true (o 96 (.call (f 36) [(t 93), (t 95)])), d 0 0 false (o 88 (.mv (t 5))), d 1 0 false (o 89 (.nilc (t 88))), d 2 0 false (o 90 (.off 2 (t 89))), d 3 1 false (o 91 (.load none (t 90))), d 4 0 false (o 92 (.mv (t 10))), d 9 0 false (o 97 (.ixA 7 none (t 91) (t 92))), d 10 0 true (n (.store 7 (t 97) (t 96)))])))
 (s (.keep [2, 3, 5, 41, 42, 81, 82, 83])
 (.ops [o 98 (.bin .add (t 83) (c (i 1))), o 83 (.mv (t 98))]))))))
 (.keep [2, 3, 5, 41, 42, 81, 82, 83]))))))
 (s (.keep [2, 3, 5, 41, 42])
 (s (.ops [o 100 (.mv (t 5)), o 101 (.nilc (t 100)), o 102 (.off 3 (t 101)), o 103 (.load (some 4) (t 102)), o 104 (.call (f 37) [(t 103)]), o 99 (.mv (t 104)), o 105 (.extract (t 99) 0), o 106 (.extract (t 99) 1), o 12 (.mv (t 105)), o 13 (.mv (t 106))])
 (s (.ops [o 107 (.mv (t 13))])
 (.cond (t 107) (.ops [o 108 (.mv (t 5)), o 109 (.mv (t 3)), o 110 (.mv (t 12)), o 111 (.call (f 35) [(t 109), (t 110)]), o 112 (.nilc (t 108)), o 113 (.off 3 (t 112)), o 114 (.off 1 (t 113)), n (.store 1 (t 114) (t 111))]) .skip))))))))))
 (s (.keep [2, 3, 41, 42])
 (.ops [o 115 (.bin .add (t 42) (c (i 1))), o 42 (.mv (t 115))]))))))
 (.keep [2, 3, 41, 42]))))))
 (s (.keep [2, 3])
 (s (.ops [o 116 (.mv (t 3)), o 117 (.nilc (t 116)), o 118 (.off 0 (t 117)), o 119 (.load (some 1) (t 118)), o 2 (.upd 1 0 (t 2) (t 119))])
 .ret))))))))))⟩
theorem share_Share_is : pgF n_share_Share = some share_Share_c := by kernel_rfl
noncomputable def share_Share_j0 (J : JT (Value × St)) (v1 : Value) (v2 : Value) (st : St) : Res (Value × St) := goX J share_Share_c.body [1, 1, 1] (envT [(1, v1), (2, v2)]) st
noncomputable def share_Share_j1 (J : JT (Value × St)) (v2 : Value) (v3 : Value) (st : St) : Res (Value × St) := goX J share_Share_c.body [1, 1, 1, 1, 1, 1, 1] (envT [(2, v2), (3, v3)]) st
noncomputable def share_Share_l0 (J : JT (Value × St)) (v2 : Value) (v3 : Value) (v41 : Value) (v42 : Value) (st : St) : Res (Value × St) := lpX J share_Share_c.body [1, 1, 1, 1, 1, 1, 1, 0, 1, 0, 1] (envT [(2, v2), (3, v3), (41, v41), (42, v42)]) st
noncomputable def share_Share_j2 (J : JT (Value × St)) (v2 : Value) (v3 : Value) (v41 : Value) (v42 : Value) (st : St) : Res (Value × St) := goX J share_Share_c.body [1, 1, 1, 1, 1, 1, 1, 0, 1, 0, 1, 0, 0, 1, 1, 1] (envT [(2, v2), (3, v3), (41, v41), (42, v42)]) st
noncomputable def share_Share_j3 (J : JT (Value × St)) (v2 : Value) (v3 : Value) (st : St) : Res (Value × St) := goX J share_Share_c.body [1, 1, 1, 1, 1, 1, 1, 1, 1] (envT [(2, v2), (3, v3)]) st
noncomputable def share_Share_l1 (J : JT (Value × St)) (v2 : Value) (v3 : Value) (v5 : Value) (v41 : Value) (v42 : Value) (v55 : Value) (v56 : Value) (v57 : Value) (st : St) : Res (Value × St) := lpX J share_Share_c.body [1, 1, 1, 1, 1, 1, 1, 0, 1, 0, 1, 0, 0, 1, 1, 1, 0, 0, 1, 1, 0, 1, 0, 1] (envT [(2, v2), (3, v3), (5, v5), (41, v41), (42, v42), (55, v55), (56, v56), (57, v57)]) st
noncomputable def share_Share_j4 (J : JT (Value × St)) (v2 : Value) (v3 : Value) (v5 : Value) (v41 : Value) (v42 : Value) (v55 : Value) (v56 : Value) (v57 : Value) (st : St) : Res (Value × St) := goX J share_Share_c.body [1, 1, 1, 1, 1, 1, 1, 0, 1, 0, 1, 0, 0, 1, 1, 1, 0, 0, 1, 1, 0, 1, 0, 1, 0, 0, 1, 1, 1] (envT [(2, v2), (3, v3), (5, v5), (41, v41), (42, v42), (55, v55), (56, v56), (57, v57)]) st
noncomputable def share_Share_j5 (J : JT (Value × St)) (v2 : Value) (v3 : Value) (v5 : Value) (v41 : Value) (v42 : Value) (st : St) : Res (Value × St) := goX J share_Share_c.body [1, 1, 1, 1, 1, 1, 1, 0, 1, 0, 1, 0, 0, 1, 1, 1, 0, 0, 1, 1, 1, 1] (envT [(2, v2), (3, v3), (5, v5), (41, v41), (42, v42)]) st
noncomputable def share_Share_l2 (J : JT (Value × St)) (v2 : Value) (v3 : Value) (v5 : Value) (v7 : Value) (v41 : Value) (v42 : Value) (v55 : Value) (v56 : Value) (v57 : Value) (v62 : Value) (v63 : Value) (v64 : Value) (st : St) : Res (Value × St) := lpX J share_Share_c.body [1, 1, 1, 1, 1, 1, 1, 0, 1, 0, 1, 0, 0, 1, 1, 1, 0, 0, 1, 1, 0, 1, 0, 1, 0, 0, 1, 1, 1, 0, 0, 1, 1, 0, 1] (envT [(2, v2), (3, v3), (5, v5), (7, v7), (41, v41), (42, v42), (55, v55), (56, v56), (57, v57), (62, v62), (63, v63), (64, v64)]) st
noncomputable def share_Share_l3 (J : JT (Value × St)) (v2 : Value) (v3 : Value) (v5 : Value) (v41 : Value) (v42 : Value) (v81 : Value) (v82 : Value) (v83 : Value) (st : St) : Res (Value × St) := lpX J share_Share_c.body [1, 1, 1, 1, 1, 1, 1, 0, 1, 0, 1, 0, 0, 1, 1, 1, 0, 0, 1, 1, 1, 1, 0, 1, 0, 1] (envT [(2, v2), (3, v3), (5, v5), (41, v41), (42, v42), (81, v81), (82, v82), (83, v83)]) st
noncomputable def share_Share_j6 (J : JT (Value × St)) (v2 : Value) (v3 : Value) (v5 : Value) (v7 : Value) (v41 : Value) (v42 : Value) (v55 : Value) (v56 : Value) (v57 : Value) (v62 : Value) (v63 : Value) (v64 : Value) (st : St) : Res (Value × St) := goX J share_Share_c.body [1, 1, 1, 1, 1, 1, 1, 0, 1, 0, 1, 0, 0, 1, 1, 1, 0, 0, 1, 1, 0, 1, 0, 1, 0, 0, 1, 1, 1, 0, 0, 1, 1, 0, 1, 0, 0, 1, 1, 1] (envT [(2, v2), (3, v3), (5, v5), (7, v7), (41, v41), (42, v42), (55, v55), (56, v56), (57, v57), (62, v62), (63, v63), (64, v64)]) st
noncomputable def share_Share_j7 (J : JT (Value × St)) (v2 : Value) (v3 : Value) (v5 : Value) (v41 : Value) (v42 : Value) (v55 : Value) (v56 : Value) (v57 : Value) (st : St) : Res (Value × St) := goX J share_Share_c.body [1, 1, 1, 1, 1, 1, 1, 0, 1, 0, 1, 0, 0, 1, 1, 1, 0, 0, 1, 1, 0, 1, 0, 1, 0, 0, 1, 1, 1, 1, 1] (envT [(2, v2), (3, v3), (5, v5), (41, v41), (42, v42), (55, v55), (56, v56), (57, v57)]) st
noncomputable def share_Share_j8 (J : JT (Value × St)) (v2 : Value) (v3 : Value) (v5 : Value) (v41 : Value) (v42 : Value) (v81 : Value) (v82 : Value) (v83 : Value) (st : St) : Res (Value × St) := goX J share_Share_c.body [1, 1, 1, 1, 1, 1, 1, 0, 1, 0, 1, 0, 0, 1, 1, 1, 0, 0, 1, 1, 1, 1, 0, 1, 0, 1, 0, 0, 1, 1, 1] (envT [(2, v2), (3, v3), (5, v5), (41, v41), (42, v42), (81, v81), (82, v82), (83, v83)]) st
noncomputable def share_Share_j9 (J : JT (Value × St)) (v2 : Value) (v3 : Value) (v5 : Value) (v41 : Value) (v42 : Value) (st : St) : Res (Value × St) := goX J share_Share_c.body [1, 1, 1, 1, 1, 1, 1, 0, 1, 0, 1, 0, 0, 1, 1, 1, 0, 0, 1, 1, 1, 1, 1, 1] (envT [(2, v2), (3, v3), (5, v5), (41, v41), (42, v42)]) st
noncomputable def share_Share_j10 (J : JT (Value × St)) (v2 : Value) (v3 : Value) (v5 : Value) (v7 : Value) (v41 : Value) (v42 : Value) (v55 : Value) (v56 : Value) (v57 : Value) (v62 : Value) (v63 : Value) (v64 : Value) (st : St) : Res (Value × St) := goX J share_Share_c.body [1, 1, 1, 1, 1, 1, 1, 0, 1, 0, 1, 0, 0, 1, 1, 1, 0, 0, 1, 1, 0, 1, 0, 1, 0, 0, 1, 1, 1, 0, 0, 1, 1, 0, 1, 0, 0, 1, 1, 1, 1, 1] (envT [(2, v2), (3, v3), (5, v5), (7, v7), (41, v41), (42, v42), (55, v55), (56, v56), (57, v57), (62, v62), (63, v63), (64, v64)]) st
noncomputable def share_Share_j11 (J : JT (Value × St)) (v2 : Value) (v3 : Value) (v5 : Value) (v41 : Value) (v42 : Value) (v81 : Value) (v82 : Value) (v83 : Value) (st : St) : Res (Value × St) := goX J share_Share_c.body [1, 1, 1, 1, 1, 1, 1, 0, 1, 0, 1, 0, 0, 1, 1, 1, 0, 0, 1, 1, 1, 1, 0, 1, 0, 1, 0, 0, 1, 1, 1, 1, 1] (envT [(2, v2), (3, v3), (5, v5), (41, v41), (42, v42), (81, v81), (82, v82), (83, v83)]) st
noncomputable def share_Share_j12 (J : JT (Value × St)) (v2 : Value) (v3 : Value) (v41 : Value) (v42 : Value) (st : St) : Res (Value × St) := goX J share_Share_c.body [1, 1, 1, 1, 1, 1, 1, 0, 1, 0, 1, 0, 0, 1, 1, 1, 1, 1] (envT [(2, v2), (3, v3), (41, v41), (42, v42)]) st
theorem share_Share_eq (K : Ctx) (J : JT (Value × St)) (a0 : Value) (st : St) : atX K J share_Share_c (AM.start [a0]) st =
  (.thn st (sLbox a0 st) fun p1 =>
  .thn p1.2 (sLnew [(.slice none 0 0)] p1.2) fun p2 =>
  .thn p2.2 (sField (some 1) 0 p1.1 p2.2) fun p3 =>
  .thn p3.2 (K.go (.call n_ir_Program_Check [p3.1]) p3.2) fun p4 =>
  .thn p4.2 (sBin .neq p4.1 (.int .i64 0) p4.2) fun p5 =>
  condX p5.1
  (.thn p5.2 (sField (some 1) 0 p1.1 p5.2) fun p6 =>
  .thn p6.2 (K.go (.call n_ir_Program_Clone [p6.1]) p6.2) fun p7 =>
  .thn p7.2 (sUpd 1 0 p2.1 p7.1 p7.2) fun p8 =>
  (sField (some 1) 0 p8.1 p8.2 >>= fun p9 => .ok [p9.1]) >>= fun vs => .ok (oneOf vs, p8.2))
  (share_Share_j0 J p1.1 p2.1 p5.2)) := by kernel_rfl
theorem share_Share_of {K : Ctx} (hF : Fix pgF K) {a0 : Value} {st : St} {Q : Value × St → Prop} (h : ∀ J, IsJ K (retK share_Share_c.results) J → Ok (atX K J share_Share_c (AM.start [a0]) st) Q) : Ok (K.go (.call n_share_Share [a0]) st) Q := call_of hF share_Share_is rfl h
theorem share_Share_j0_eq {K : Ctx} {J : JT (Value × St)} (hJ : IsJ K (retK share_Share_c.results) J) (v1 : Value) (v2 : Value) (st : St) : share_Share_j0 J v1 v2 st =
  (.thn st (sField (some 1) 0 v1 st) fun p1 =>
  .thn p1.2 (K.go (.call n_ir_Program_Clone [p1.1]) p1.2) fun p2 =>
  .thn p2.2 (sNewMap p2.2) fun p3 =>
  .thn p3.2 (sBuild [(.slice none 0 0), (.slice none 0 0), (.slice none 0 0), (.slice none 0 0), (.map none)] [(0, 1, p2.1), (4, 1, p3.1)] p3.2) fun p4 =>
  .thn p4.2 (sBox p4.1 p4.2) fun p5 =>
  .thn p5.2 (sField (some 1) 0 v1 p5.2) fun p6 =>
  .thn p6.2 (K.go (.call n_graph_Of [p6.1]) p6.2) fun p7 =>
  .thn p7.2 (K.go (.call n_dom_Of [p7.1]) p7.2) fun p8 =>
  .thn p8.2 (sNilc p5.1 p8.2) fun p9 =>
  .thn p9.2 (sOff 1 p9.1 p9.2) fun p10 =>
  .thn p10.2 (sStore 3 p10.1 p8.1 p10.2) fun p11 =>
  .thn p11.2 (sLref v1 p11.2) fun p12 =>
  .thn p12.2 (sField none 0 v1 p12.2) fun p13 =>
  .thn p13.2 (sLen .slice p13.1 p13.2) fun p14 =>
  .thn p14.2 (sBin .gtr p14.1 (.int .i64 0) p14.2) fun p15 =>
  condX p15.1
  (.thn p15.2 (K.go (.call n_share_sharer_block [p5.1, (.int .i64 0), (.pointer none)]) p15.2) fun p16 =>
  share_Share_j1 J v2 p5.1 p16.2)
  (share_Share_j1 J v2 p5.1 p15.2)) := (go_eq hJ _ _ _ _).trans (by kernel_rfl)
theorem share_Share_j1_eq {K : Ctx} {J : JT (Value × St)} (hJ : IsJ K (retK share_Share_c.results) J) (v2 : Value) (v3 : Value) (st : St) : share_Share_j1 J v2 v3 st =
  (.thn st (sNilc v3 st) fun p1 =>
  .thn p1.2 (sOff 0 p1.1 p1.2) fun p2 =>
  .thn p2.2 (sOff 0 p2.1 p2.2) fun p3 =>
  .thn p3.2 (sLoad none p3.1 p3.2) fun p4 =>
  .thn p4.2 (sLen .slice p4.1 p4.2) fun p5 =>
  share_Share_l0 J v2 v3 p5.1 (.int .i64 0) p5.2) := (go_eq hJ _ _ _ _).trans (by kernel_rfl)
theorem share_Share_l0_eq (K : Ctx) (J : JT (Value × St)) (v2 : Value) (v3 : Value) (v41 : Value) (v42 : Value) (st : St) : inX K J (retK share_Share_c.results) share_Share_c.body [1, 1, 1, 1, 1, 1, 1, 0, 1, 0, 1] (envT [(2, v2), (3, v3), (41, v41), (42, v42)]) st =
  (.thn st (sBin .lss v42 v41 st) fun p1 =>
  condX p1.1
  (share_Share_j2 J v2 v3 v41 v42 p1.2)
  (share_Share_j3 J v2 v3 p1.2)) := by kernel_rfl
theorem share_Share_l0_of {K : Ctx} (hF : Fix pgF K) {J : JT (Value × St)} (hJ : IsJ K (retK share_Share_c.results) J) {v2 : Value} {v3 : Value} {v41 : Value} {v42 : Value} {st : St} {Q : Value × St → Prop} (h : Ok (inX K J (retK share_Share_c.results) share_Share_c.body [1, 1, 1, 1, 1, 1, 1, 0, 1, 0, 1] (envT [(2, v2), (3, v3), (41, v41), (42, v42)]) st) Q) : Ok (share_Share_l0 J v2 v3 v41 v42 st) Q := loop_of hF hJ h
theorem share_Share_j2_eq {K : Ctx} {J : JT (Value × St)} (hJ : IsJ K (retK share_Share_c.results) J) (v2 : Value) (v3 : Value) (v41 : Value) (v42 : Value) (st : St) : share_Share_j2 J v2 v3 v41 v42 st =
  (.thn st (sNilc v3 st) fun p1 =>
  .thn p1.2 (sOff 0 p1.1 p1.2) fun p2 =>
  .thn p2.2 (sOff 0 p2.1 p2.2) fun p3 =>
  .thn p3.2 (sLoad none p3.1 p3.2) fun p4 =>
  .thn p4.2 (sIxA 7 none p4.1 v42 p4.2) fun p5 =>
  .thn p5.2 (sNilc p5.1 p5.2) fun p6 =>
  .thn p6.2 (sOff 1 p6.1 p6.2) fun p7 =>
  .thn p7.2 (sLoad none p7.1 p7.2) fun p8 =>
  .thn p8.2 (sLen .slice p8.1 p8.2) fun p9 =>
  share_Share_l1 J v2 v3 p5.1 v41 v42 p8.1 p9.1 (.int .i64 0) p9.2) := (go_eq hJ _ _ _ _).trans (by kernel_rfl)
theorem share_Share_j3_eq {K : Ctx} {J : JT (Value × St)} (hJ : IsJ K (retK share_Share_c.results) J) (v2 : Value) (v3 : Value) (st : St) : share_Share_j3 J v2 v3 st =
  (.thn st (sNilc v3 st) fun p1 =>
  .thn p1.2 (sOff 0 p1.1 p1.2) fun p2 =>
  .thn p2.2 (sLoad (some 1) p2.1 p2.2) fun p3 =>
  .thn p3.2 (sUpd 1 0 v2 p3.1 p3.2) fun p4 =>
  (sField (some 1) 0 p4.1 p4.2 >>= fun p5 => .ok [p5.1]) >>= fun vs => .ok (oneOf vs, p4.2)) := (go_eq hJ _ _ _ _).trans (by kernel_rfl)
theorem share_Share_l1_eq (K : Ctx) (J : JT (Value × St)) (v2 : Value) (v3 : Value) (v5 : Value) (v41 : Value) (v42 : Value) (v55 : Value) (v56 : Value) (v57 : Value) (st : St) : inX K J (retK share_Share_c.results) share_Share_c.body [1, 1, 1, 1, 1, 1, 1, 0, 1, 0, 1, 0, 0, 1, 1, 1, 0, 0, 1, 1, 0, 1, 0, 1] (envT [(2, v2), (3, v3), (5, v5), (41, v41), (42, v42), (55, v55), (56, v56), (57, v57)]) st =
  (.thn st (sBin .lss v57 v56 st) fun p1 =>
  condX p1.1
  (share_Share_j4 J v2 v3 v5 v41 v42 v55 v56 v57 p1.2)
  (share_Share_j5 J v2 v3 v5 v41 v42 p1.2)) := by kernel_rfl
theorem share_Share_l1_of {K : Ctx} (hF : Fix pgF K) {J : JT (Value × St)} (hJ : IsJ K (retK share_Share_c.results) J) {v2 : Value} {v3 : Value} {v5 : Value} {v41 : Value} {v42 : Value} {v55 : Value} {v56 : Value} {v57 : Value} {st : St} {Q : Value × St → Prop} (h : Ok (inX K J (retK share_Share_c.results) share_Share_c.body [1, 1, 1, 1, 1, 1, 1, 0, 1, 0, 1, 0, 0, 1, 1, 1, 0, 0, 1, 1, 0, 1, 0, 1] (envT [(2, v2), (3, v3), (5, v5), (41, v41), (42, v42), (55, v55), (56, v56), (57, v57)]) st) Q) : Ok (share_Share_l1 J v2 v3 v5 v41 v42 v55 v56 v57 st) Q := loop_of hF hJ h
theorem share_Share_j4_eq {K : Ctx} {J : JT (Value × St)} (hJ : IsJ K (retK share_Share_c.results) J) (v2 : Value) (v3 : Value) (v5 : Value) (v41 : Value) (v42 : Value) (v55 : Value) (v56 : Value) (v57 : Value) (st : St) : share_Share_j4 J v2 v3 v5 v41 v42 v55 v56 v57 st =
  (.thn st (sIxA 3 none v55 v57 st) fun p1 =>
  .thn p1.2 (sLoad (some 3) p1.1 p1.2) fun p2 =>
  .thn p2.2 (sLnew [(.int .i64 0), (.slice none 0 0), (.slice none 0 0)] p2.2) fun p3 =>
  .thn p3.2 (sUpd 3 0 p3.1 p2.1 p3.2) fun p4 =>
  .thn p4.2 (sLref p4.1 p4.2) fun p5 =>
  .thn p5.2 (sField none 2 p4.1 p5.2) fun p6 =>
  .thn p6.2 (sLen .slice p6.1 p6.2) fun p7 =>
  share_Share_l2 J v2 v3 v5 p4.1 v41 v42 v55 v56 v57 p6.1 p7.1 (.int .i64 0) p7.2) := (go_eq hJ _ _ _ _).trans (by kernel_rfl)
theorem share_Share_j5_eq {K : Ctx} {J : JT (Value × St)} (hJ : IsJ K (retK share_Share_c.results) J) (v2 : Value) (v3 : Value) (v5 : Value) (v41 : Value) (v42 : Value) (st : St) : share_Share_j5 J v2 v3 v5 v41 v42 st =
  (.thn st (sNilc v5 st) fun p1 =>
  .thn p1.2 (sOff 2 p1.1 p1.2) fun p2 =>
  .thn p2.2 (sLoad none p2.1 p2.2) fun p3 =>
  .thn p3.2 (sLen .slice p3.1 p3.2) fun p4 =>
  share_Share_l3 J v2 v3 v5 v41 v42 p3.1 p4.1 (.int .i64 0) p4.2) := (go_eq hJ _ _ _ _).trans (by kernel_rfl)
theorem share_Share_l2_eq (K : Ctx) (J : JT (Value × St)) (v2 : Value) (v3 : Value) (v5 : Value) (v7 : Value) (v41 : Value) (v42 : Value) (v55 : Value) (v56 : Value) (v57 : Value) (v62 : Value) (v63 : Value) (v64 : Value) (st : St) : inX K J (retK share_Share_c.results) share_Share_c.body [1, 1, 1, 1, 1, 1, 1, 0, 1, 0, 1, 0, 0, 1, 1, 1, 0, 0, 1, 1, 0, 1, 0, 1, 0, 0, 1, 1, 1, 0, 0, 1, 1, 0, 1] (envT [(2, v2), (3, v3), (5, v5), (7, v7), (41, v41), (42, v42), (55, v55), (56, v56), (57, v57), (62, v62), (63, v63), (64, v64)]) st =
  (.thn st (sBin .lss v64 v63 st) fun p1 =>
  condX p1.1
  (share_Share_j6 J v2 v3 v5 v7 v41 v42 v55 v56 v57 v62 v63 v64 p1.2)
  (share_Share_j7 J v2 v3 v5 v41 v42 v55 v56 v57 p1.2)) := by kernel_rfl
theorem share_Share_l2_of {K : Ctx} (hF : Fix pgF K) {J : JT (Value × St)} (hJ : IsJ K (retK share_Share_c.results) J) {v2 : Value} {v3 : Value} {v5 : Value} {v7 : Value} {v41 : Value} {v42 : Value} {v55 : Value} {v56 : Value} {v57 : Value} {v62 : Value} {v63 : Value} {v64 : Value} {st : St} {Q : Value × St → Prop} (h : Ok (inX K J (retK share_Share_c.results) share_Share_c.body [1, 1, 1, 1, 1, 1, 1, 0, 1, 0, 1, 0, 0, 1, 1, 1, 0, 0, 1, 1, 0, 1, 0, 1, 0, 0, 1, 1, 1, 0, 0, 1, 1, 0, 1] (envT [(2, v2), (3, v3), (5, v5), (7, v7), (41, v41), (42, v42), (55, v55), (56, v56), (57, v57), (62, v62), (63, v63), (64, v64)]) st) Q) : Ok (share_Share_l2 J v2 v3 v5 v7 v41 v42 v55 v56 v57 v62 v63 v64 st) Q := loop_of hF hJ h
theorem share_Share_l3_eq (K : Ctx) (J : JT (Value × St)) (v2 : Value) (v3 : Value) (v5 : Value) (v41 : Value) (v42 : Value) (v81 : Value) (v82 : Value) (v83 : Value) (st : St) : inX K J (retK share_Share_c.results) share_Share_c.body [1, 1, 1, 1, 1, 1, 1, 0, 1, 0, 1, 0, 0, 1, 1, 1, 0, 0, 1, 1, 1, 1, 0, 1, 0, 1] (envT [(2, v2), (3, v3), (5, v5), (41, v41), (42, v42), (81, v81), (82, v82), (83, v83)]) st =
  (.thn st (sBin .lss v83 v82 st) fun p1 =>
  condX p1.1
  (share_Share_j8 J v2 v3 v5 v41 v42 v81 v82 v83 p1.2)
  (share_Share_j9 J v2 v3 v5 v41 v42 p1.2)) := by kernel_rfl
theorem share_Share_l3_of {K : Ctx} (hF : Fix pgF K) {J : JT (Value × St)} (hJ : IsJ K (retK share_Share_c.results) J) {v2 : Value} {v3 : Value} {v5 : Value} {v41 : Value} {v42 : Value} {v81 : Value} {v82 : Value} {v83 : Value} {st : St} {Q : Value × St → Prop} (h : Ok (inX K J (retK share_Share_c.results) share_Share_c.body [1, 1, 1, 1, 1, 1, 1, 0, 1, 0, 1, 0, 0, 1, 1, 1, 0, 0, 1, 1, 1, 1, 0, 1, 0, 1] (envT [(2, v2), (3, v3), (5, v5), (41, v41), (42, v42), (81, v81), (82, v82), (83, v83)]) st) Q) : Ok (share_Share_l3 J v2 v3 v5 v41 v42 v81 v82 v83 st) Q := loop_of hF hJ h
theorem share_Share_j6_eq {K : Ctx} {J : JT (Value × St)} (hJ : IsJ K (retK share_Share_c.results) J) (v2 : Value) (v3 : Value) (v5 : Value) (v7 : Value) (v41 : Value) (v42 : Value) (v55 : Value) (v56 : Value) (v57 : Value) (v62 : Value) (v63 : Value) (v64 : Value) (st : St) : share_Share_j6 J v2 v3 v5 v7 v41 v42 v55 v56 v57 v62 v63 v64 st =
  (.thn st (sIxA 1 none v62 v64 st) fun p1 =>
  .thn p1.2 (sLoad none p1.1 p1.2) fun p2 =>
  .thn p2.2 (K.go (.call n_share_sharer_of [v3, p2.1]) p2.2) fun p3 =>
  .thn p3.2 (sLref v7 p3.2) fun p4 =>
  .thn p4.2 (sField none 2 v7 p4.2) fun p5 =>
  Res.need (sStays (List.take 1 (p2.2 :: [])) p3.2.next nothing (fun s => sField none 2 v7 s) p5.1) "order" >>= fun _ =>
  .thn p5.2 (sIxA 1 none p5.1 v64 p5.2) fun p6 =>
  .thn p6.2 (sStore 1 p6.1 p3.1 p6.2) fun p7 =>
  share_Share_j10 J v2 v3 v5 v7 v41 v42 v55 v56 v57 v62 v63 v64 p7.2) := (go_eq hJ _ _ _ _).trans (by kernel_rfl)
theorem share_Share_j7_eq {K : Ctx} {J : JT (Value × St)} (hJ : IsJ K (retK share_Share_c.results) J) (v2 : Value) (v3 : Value) (v5 : Value) (v41 : Value) (v42 : Value) (v55 : Value) (v56 : Value) (v57 : Value) (st : St) : share_Share_j7 J v2 v3 v5 v41 v42 v55 v56 v57 st =
  (.thn st (sBin .add v57 (.int .i64 1) st) fun p1 =>
  share_Share_l1 J v2 v3 v5 v41 v42 v55 v56 p1.1 p1.2) := (go_eq hJ _ _ _ _).trans (by kernel_rfl)
theorem share_Share_j8_eq {K : Ctx} {J : JT (Value × St)} (hJ : IsJ K (retK share_Share_c.results) J) (v2 : Value) (v3 : Value) (v5 : Value) (v41 : Value) (v42 : Value) (v81 : Value) (v82 : Value) (v83 : Value) (st : St) : share_Share_j8 J v2 v3 v5 v41 v42 v81 v82 v83 st =
  (.thn st (sIxA 7 none v81 v83 st) fun p1 =>
  .thn p1.2 (sLoad (some 7) p1.1 p1.2) fun p2 =>
  .thn p2.2 (sLnew [(.int .u8 0), (.int .u8 0), (.int .i64 0), (.int .i64 0), (.int .i64 0), (.int .i64 0), (.int .i64 0)] p2.2) fun p3 =>
  .thn p3.2 (sUpd 7 0 p3.1 p2.1 p3.2) fun p4 =>
  .thn p4.2 (sField (some 7) 0 p4.1 p4.2) fun p5 =>
  .thn p5.2 (K.go (.call n_ir_Instr_Turned [p5.1, (.func (.func n_share_sharer_of) #[v3] #[])]) p5.2) fun p6 =>
  .thn p6.2 (sNilc v5 p6.2) fun p7 =>
  .thn p7.2 (sOff 2 p7.1 p7.2) fun p8 =>
  .thn p8.2 (sLoad none p8.1 p8.2) fun p9 =>
  Res.need (sStays (List.take 1 (p5.2 :: [])) p6.2.next p8.1 (fun s => sLoad none p8.1 s) p9.1) "order" >>= fun _ =>
  .thn p9.2 (sIxA 7 none p9.1 v83 p9.2) fun p10 =>
  .thn p10.2 (sStore 7 p10.1 p6.1 p10.2) fun p11 =>
  share_Share_j11 J v2 v3 v5 v41 v42 v81 v82 v83 p11.2) := (go_eq hJ _ _ _ _).trans (by kernel_rfl)
theorem share_Share_j9_eq {K : Ctx} {J : JT (Value × St)} (hJ : IsJ K (retK share_Share_c.results) J) (v2 : Value) (v3 : Value) (v5 : Value) (v41 : Value) (v42 : Value) (st : St) : share_Share_j9 J v2 v3 v5 v41 v42 st =
  (.thn st (sNilc v5 st) fun p1 =>
  .thn p1.2 (sOff 3 p1.1 p1.2) fun p2 =>
  .thn p2.2 (sLoad (some 4) p2.1 p2.2) fun p3 =>
  .thn p3.2 (K.go (.call n_ir_Last_Reads [p3.1]) p3.2) fun p4 =>
  .thn p4.2 (sExtract p4.1 0 p4.2) fun p5 =>
  .thn p5.2 (sExtract p4.1 1 p5.2) fun p6 =>
  condX p6.1
  (.thn p6.2 (K.go (.call n_share_sharer_of [v3, p5.1]) p6.2) fun p7 =>
  .thn p7.2 (sNilc v5 p7.2) fun p8 =>
  .thn p8.2 (sOff 3 p8.1 p8.2) fun p9 =>
  .thn p9.2 (sOff 1 p9.1 p9.2) fun p10 =>
  .thn p10.2 (sStore 1 p10.1 p7.1 p10.2) fun p11 =>
  share_Share_j12 J v2 v3 v41 v42 p11.2)
  (share_Share_j12 J v2 v3 v41 v42 p6.2)) := (go_eq hJ _ _ _ _).trans (by kernel_rfl)
theorem share_Share_j10_eq {K : Ctx} {J : JT (Value × St)} (hJ : IsJ K (retK share_Share_c.results) J) (v2 : Value) (v3 : Value) (v5 : Value) (v7 : Value) (v41 : Value) (v42 : Value) (v55 : Value) (v56 : Value) (v57 : Value) (v62 : Value) (v63 : Value) (v64 : Value) (st : St) : share_Share_j10 J v2 v3 v5 v7 v41 v42 v55 v56 v57 v62 v63 v64 st =
  (.thn st (sBin .add v64 (.int .i64 1) st) fun p1 =>
  share_Share_l2 J v2 v3 v5 v7 v41 v42 v55 v56 v57 v62 v63 p1.1 p1.2) := (go_eq hJ _ _ _ _).trans (by kernel_rfl)
theorem share_Share_j11_eq {K : Ctx} {J : JT (Value × St)} (hJ : IsJ K (retK share_Share_c.results) J) (v2 : Value) (v3 : Value) (v5 : Value) (v41 : Value) (v42 : Value) (v81 : Value) (v82 : Value) (v83 : Value) (st : St) : share_Share_j11 J v2 v3 v5 v41 v42 v81 v82 v83 st =
  (.thn st (sBin .add v83 (.int .i64 1) st) fun p1 =>
  share_Share_l3 J v2 v3 v5 v41 v42 v81 v82 p1.1 p1.2) := (go_eq hJ _ _ _ _).trans (by kernel_rfl)
theorem share_Share_j12_eq {K : Ctx} {J : JT (Value × St)} (hJ : IsJ K (retK share_Share_c.results) J) (v2 : Value) (v3 : Value) (v41 : Value) (v42 : Value) (st : St) : share_Share_j12 J v2 v3 v41 v42 st =
  (.thn st (sBin .add v42 (.int .i64 1) st) fun p1 =>
  share_Share_l0 J v2 v3 v41 p1.1 p1.2) := (go_eq hJ _ _ _ _).trans (by kernel_rfl)

/-! ### (*refinery/share.sharer).block -/
open C in
noncomputable def share_sharer_block_c : AFun := ⟨3, [],
 (s (.ops [o 22 (.mv (t 2)), o 23 .newMap, o 24 (.build [(.pointer none), (.map none)] [(0, 1, (t 22)), (1, 1, (t 23))]), o 25 (.box (t 24)), o 6 (.mv (t 25))])
 (s (.ops [o 26 (.mv (t 0)), o 27 (.nilc (t 26)), o 28 (.off 0 (t 27)), o 29 (.off 0 (t 28)), o 30 (.load none (t 29)), o 31 (.mv (t 1)), o 32 (.ixA 7 none (t 30) (t 31)), o 7 (.mv (t 32))])
 (s (.ops [o 8 (.mv (c (.slice none 0 0)))])
 (s (s (.ops [o 33 (.mv (t 7)), o 34 (.nilc (t 33)), o 35 (.off 1 (t 34)), o 36 (.load none (t 35)), o 37 (.len .slice (t 36)), o 38 (.mv (c (i 0)))])
 (.block 0 (s (.keep [0, 1, 6, 7, 8, 36, 37, 38])
 (.loop (s (s (.ops [o 39 (.bin .lss (t 38) (t 37))])
 (s (.cond (t 39) .skip (.exit 0))
 (s (.keep [0, 1, 6, 7, 8, 36, 37, 38])
 (s (.block 1 (s (.ops [o 40 (.ixA 3 none (t 36) (t 38)), o 41 (.load (some 3) (t 40)), o 10 (.lnew [(i 0), (.slice none 0 0), (.slice none 0 0)]), o 10 (.upd 3 0 (t 10) (t 41))])
 (s (.ops [o 43 (.mv (t 0)), o 44 (.field (some 3) 0 (t 10)), o 45 (.call (f 71) [(t 43), (t 44)]), o 42 (.mv (t 45)), o 46 (.extract (t 42) 0), o 47 (.extract (t 42) 1), o 11 (.mv (t 46)), o 12 (.mv (t 47))])
 (s (.ops [o 48 (.mv (t 12))])
 (.cond (t 48) (.draw [d 0 0 false (o 49 (.mv (t 0))), d 1 0 false (o 50 (.nilc (t 49))), d 2 0 false (o 51 (.off 4 (t 50))), d 3 0 false (o 52 (.load none (t 51))), d 4 0 false (o 53 (.lref (t 10))), d 5 0 false (o 54 (.field none 0 (t 10))), d 6 0 false (o 55 (.mv (t 11))), d 7 0 true (n (.mapSet (.cell .int) (t 52) (t 54) (t 55)))]) (.ops [o 56 (.mv (t 8)), o 57 (.field (some 3) 0 (t 10)), o 58 (.lit 3 1 [(i 0), (.slice none 0 0), (.slice none 0 0)] [(0, 3, (t 57))]), o 59 (.append 3 56 (t 56) (t 58)), o 8 (.mv (t 59))]))))))
 (s (.keep [0, 1, 6, 7, 8, 36, 37, 38])
 (.ops [o 60 (.bin .add (t 38) (c (i 1))), o 38 (.mv (t 60))]))))))
 (.keep [0, 1, 6, 7, 8, 36, 37, 38]))))))
 (s (.keep [0, 1, 6, 7, 8])
 (s (.ops [o 13 (.mv (c (.slice none 0 0)))])
 (s (s (.ops [o 61 (.mv (t 7)), o 62 (.nilc (t 61)), o 63 (.off 2 (t 62)), o 64 (.load none (t 63)), o 65 (.len .slice (t 64)), o 66 (.mv (c (i 0)))])
 (.block 2 (s (.keep [0, 1, 6, 7, 8, 13, 64, 65, 66])
 (.loop (s (s (.ops [o 67 (.bin .lss (t 66) (t 65))])
 (s (.cond (t 67) .skip (.exit 2))
 (s (.keep [0, 1, 6, 7, 8, 13, 64, 65, 66])
 (s (.block 3 (s (.ops [o 68 (.ixA 7 none (t 64) (t 66)), o 69 (.load (some 7) (t 68)), o 15 (.lnew [(u 0), (u 0), (i 0), (i 0), (i 0), (i 0), (i 0)]), o 15 (.upd 7 0 (t 15) (t 69))])
 (s (.ops [o 70 (.field (some 7) 0 (t 15)), o 71 (.mv (t 0)), o 72 (.fn 35 [(t 71)] []), o 73 (.call (f 36) [(t 70), (t 72)]), o 15 (.upd 7 0 (t 15) (t 73))])
 (s (s (.ops [o 74 (.lref (t 15)), o 75 (.field none 0 (t 15)), o 76 (.bin .eql (t 75) (c (u 1)))])
 (.cond (t 76) (s (.draw [d 0 0 false (o 77 (.mv (t 0))), d 1 0 false (o 78 (.nilc (t 77))), d 2 0 false (o 79 (.off 4 (t 78))), d 3 0 false (o 80 (.load none (t 79))), d 4 0 false (o 81 (.lref (t 15))), d 5 0 false (o 82 (.field none 2 (t 15))), d 6 0 false (o 83 (.lref (t 15))), d 7 0 false (o 84 (.field none 3 (t 15))), d 8 0 true (n (.mapSet (.cell .int) (t 80) (t 82) (t 84)))])
 (.exit 3)) .skip))
 (s (.keep [0, 1, 6, 7, 8, 13, 15, 64, 65, 66])
 (s (.ops [o 86 (.mv (t 0)), o 87 (.field (some 7) 0 (t 15)), o 88 (.call (f 72) [(t 86), (t 87)]), o 85 (.mv (t 88)), o 89 (.extract (t 85) 0), o 90 (.extract (t 85) 1), o 16 (.lnew [(u 0), (u 0), (i 0), (i 0), (i 0)]), o 16 (.upd 5 0 (t 16) (t 89)), o 17 (.mv (t 90))])
 (s (s (.ops [o 91 (.mv (t 17)), o 92 (.un .not (t 91))])
 (.cond (t 92) (s (.ops [o 93 (.mv (t 13)), o 94 (.field (some 7) 0 (t 15)), o 95 (.lit 7 1 [(u 0), (u 0), (i 0), (i 0), (i 0), (i 0), (i 0)] [(0, 7, (t 94))]), o 96 (.append 7 48 (t 93) (t 95)), o 13 (.mv (t 96))])
 (.exit 3)) .skip))
 (s (.keep [0, 1, 6, 7, 8, 13, 15, 16, 64, 65, 66])
 (s (s (.ops [o 98 (.mv (t 6)), o 99 (.field (some 5) 0 (t 16)), o 100 (.call (f 73) [(t 98), (t 99)]), o 97 (.mv (t 100)), o 101 (.extract (t 97) 0), o 102 (.extract (t 97) 1), o 18 (.mv (t 101)), o 19 (.mv (t 102))])
 (s (.ops [o 103 (.mv (t 19))])
 (.cond (t 103) (s (.draw [d 0 0 false (o 104 (.mv (t 0))), d 1 0 false (o 105 (.nilc (t 104))), d 2 0 false (o 106 (.off 4 (t 105))), d 3 0 false (o 107 (.load none (t 106))), d 4 0 false (o 108 (.lref (t 15))), d 5 0 false (o 109 (.field none 2 (t 15))), d 6 0 false (o 110 (.mv (t 18))), d 7 0 true (n (.mapSet (.cell .int) (t 107) (t 109) (t 110)))])
 (.exit 3)) .skip)))
 (s (.keep [0, 1, 6, 7, 8, 13, 15, 16, 64, 65, 66])
 (s (.draw [d 0 0 false (o 111 (.mv (t 6))), d 1 0 false (o 112 (.nilc (t 111))), d 2 0 false (o 113 (.off 1 (t 112))), d 3 0 false (o 114 (.load none (t 113))), d 4 0 false (o 115 (.field (some 5) 0 (t 16))), d 5 0 false (o 116 (.lref (t 15))), d 6 0 false (o 117 (.field none 2 (t 15))), d 7 0 true (n (.mapSet (.struct [(0, .int), (1, .int), (2, .int), (3, .int), (4, .int)]) (t 114) (t 115) (t 117)))])
 (.ops [o 118 (.mv (t 13)), o 119 (.field (some 7) 0 (t 15)), o 120 (.lit 7 1 [(u 0), (u 0), (i 0), (i 0), (i 0), (i 0), (i 0)] [(0, 7, (t 119))]), o 121 (.append 7 48 (t 118) (t 120)), o 13 (.mv (t 121))]))))))))))))
 (s (.keep [0, 1, 6, 7, 8, 13, 64, 65, 66])
 (.ops [o 122 (.bin .add (t 66) (c (i 1))), o 66 (.mv (t 122))]))))))
 (.keep [0, 1, 6, 7, 8, 13, 64, 65, 66]))))))
 (s (.keep [0, 1, 6, 7, 8, 13])
 (s (.ops [o 123 (.mv (t 7)), o 124 (.mv (t 7)), o 125 (.mv (t 8)), o 126 (.mv (t 13)), o 127 (.nilc (t 123)), o 128 (.off 1 (t 127)), n (.store 1 (t 128) (t 125)), o 129 (.nilc (t 124)), o 130 (.off 2 (t 129)), n (.store 1 (t 130) (t 126))])
 (s (.ops [o 131 (.mv (t 0)), o 132 (.nilc (t 131)), o 133 (.off 1 (t 132)), o 134 (.load (some 3) (t 133)), o 135 (.mv (t 1)), o 136 (.call (f 74) [(t 134), (t 135)]), o 137 (.len .slice (t 136)), o 138 (.mv (c (i 0)))])
 (.block 4 (s (.keep [0, 6, 136, 137, 138])
 (.loop (s (s (.ops [o 139 (.bin .lss (t 138) (t 137))])
 (s (.cond (t 139) .skip (.exit 4))
 (s (.keep [0, 6, 136, 137, 138])
 (s (.block 5 (s (.ops [o 140 (.ixA 1 none (t 136) (t 138)), o 141 (.load none (t 140)), o 21 (.mv (t 141))])
 (.ops [o 142 (.mv (t 0)), o 143 (.mv (t 21)), o 144 (.mv (t 6)), o 145 (.call (f 34) [(t 142), (t 143), (t 144)])])))
 (s (.keep [0, 6, 136, 137, 138])
 (.ops [o 146 (.bin .add (t 138) (c (i 1))), o 138 (.mv (t 146))]))))))
 (.keep [0, 6, 136, 137, 138])))))))))))))))⟩
theorem share_sharer_block_is : pgF n_share_sharer_block = some share_sharer_block_c := by kernel_rfl
noncomputable def share_sharer_block_l0 (J : JT (Value × St)) (v0 : Value) (v1 : Value) (v6 : Value) (v7 : Value) (v8 : Value) (v36 : Value) (v37 : Value) (v38 : Value) (st : St) : Res (Value × St) := lpX J share_sharer_block_c.body [1, 1, 1, 0, 1, 0, 1] (envT [(0, v0), (1, v1), (6, v6), (7, v7), (8, v8), (36, v36), (37, v37), (38, v38)]) st
noncomputable def share_sharer_block_j0 (J : JT (Value × St)) (v0 : Value) (v1 : Value) (v6 : Value) (v7 : Value) (v8 : Value) (v36 : Value) (v37 : Value) (v38 : Value) (st : St) : Res (Value × St) := goX J share_sharer_block_c.body [1, 1, 1, 0, 1, 0, 1, 0, 0, 1, 1, 1] (envT [(0, v0), (1, v1), (6, v6), (7, v7), (8, v8), (36, v36), (37, v37), (38, v38)]) st
noncomputable def share_sharer_block_j1 (J : JT (Value × St)) (v0 : Value) (v1 : Value) (v6 : Value) (v7 : Value) (v8 : Value) (st : St) : Res (Value × St) := goX J share_sharer_block_c.body [1, 1, 1, 1, 1] (envT [(0, v0), (1, v1), (6, v6), (7, v7), (8, v8)]) st
noncomputable def share_sharer_block_j2 (J : JT (Value × St)) (v0 : Value) (v1 : Value) (v6 : Value) (v7 : Value) (v8 : Value) (v36 : Value) (v37 : Value) (v38 : Value) (st : St) : Res (Value × St) := goX J share_sharer_block_c.body [1, 1, 1, 0, 1, 0, 1, 0, 0, 1, 1, 1, 1, 1] (envT [(0, v0), (1, v1), (6, v6), (7, v7), (8, v8), (36, v36), (37, v37), (38, v38)]) st
noncomputable def share_sharer_block_l1 (J : JT (Value × St)) (v0 : Value) (v1 : Value) (v6 : Value) (v7 : Value) (v8 : Value) (v13 : Value) (v64 : Value) (v65 : Value) (v66 : Value) (st : St) : Res (Value × St) := lpX J share_sharer_block_c.body [1, 1, 1, 1, 1, 1, 0, 1, 0, 1] (envT [(0, v0), (1, v1), (6, v6), (7, v7), (8, v8), (13, v13), (64, v64), (65, v65), (66, v66)]) st
noncomputable def share_sharer_block_j3 (J : JT (Value × St)) (v0 : Value) (v1 : Value) (v6 : Value) (v7 : Value) (v8 : Value) (v13 : Value) (v64 : Value) (v65 : Value) (v66 : Value) (st : St) : Res (Value × St) := goX J share_sharer_block_c.body [1, 1, 1, 1, 1, 1, 0, 1, 0, 1, 0, 0, 1, 1, 1] (envT [(0, v0), (1, v1), (6, v6), (7, v7), (8, v8), (13, v13), (64, v64), (65, v65), (66, v66)]) st
noncomputable def share_sharer_block_j4 (J : JT (Value × St)) (v0 : Value) (v1 : Value) (v6 : Value) (v7 : Value) (v8 : Value) (v13 : Value) (st : St) : Res (Value × St) := goX J share_sharer_block_c.body [1, 1, 1, 1, 1, 1, 1, 1] (envT [(0, v0), (1, v1), (6, v6), (7, v7), (8, v8), (13, v13)]) st
noncomputable def share_sharer_block_j5 (J : JT (Value × St)) (v0 : Value) (v1 : Value) (v6 : Value) (v7 : Value) (v8 : Value) (v13 : Value) (v64 : Value) (v65 : Value) (v66 : Value) (st : St) : Res (Value × St) := goX J share_sharer_block_c.body [1, 1, 1, 1, 1, 1, 0, 1, 0, 1, 0, 0, 1, 1, 1, 1, 1] (envT [(0, v0), (1, v1), (6, v6), (7, v7), (8, v8), (13, v13), (64, v64), (65, v65), (66, v66)]) st
noncomputable def share_sharer_block_j6 (J : JT (Value × St)) (v0 : Value) (v1 : Value) (v6 : Value) (v7 : Value) (v8 : Value) (v13 : Value) (v15 : Value) (v64 : Value) (v65 : Value) (v66 : Value) (st : St) : Res (Value × St) := goX J share_sharer_block_c.body [1, 1, 1, 1, 1, 1, 0, 1, 0, 1, 0, 0, 1, 1, 1, 0, 0, 1, 1, 1, 1] (envT [(0, v0), (1, v1), (6, v6), (7, v7), (8, v8), (13, v13), (15, v15), (64, v64), (65, v65), (66, v66)]) st
noncomputable def share_sharer_block_l2 (J : JT (Value × St)) (v0 : Value) (v6 : Value) (v136 : Value) (v137 : Value) (v138 : Value) (st : St) : Res (Value × St) := lpX J share_sharer_block_c.body [1, 1, 1, 1, 1, 1, 1, 1, 1, 1, 0, 1] (envT [(0, v0), (6, v6), (136, v136), (137, v137), (138, v138)]) st
noncomputable def share_sharer_block_j7 (J : JT (Value × St)) (v0 : Value) (v1 : Value) (v6 : Value) (v7 : Value) (v8 : Value) (v13 : Value) (v15 : Value) (v16 : Value) (v64 : Value) (v65 : Value) (v66 : Value) (st : St) : Res (Value × St) := goX J share_sharer_block_c.body [1, 1, 1, 1, 1, 1, 0, 1, 0, 1, 0, 0, 1, 1, 1, 0, 0, 1, 1, 1, 1, 1, 1, 1] (envT [(0, v0), (1, v1), (6, v6), (7, v7), (8, v8), (13, v13), (15, v15), (16, v16), (64, v64), (65, v65), (66, v66)]) st
noncomputable def share_sharer_block_j8 (J : JT (Value × St)) (v0 : Value) (v6 : Value) (v136 : Value) (v137 : Value) (v138 : Value) (st : St) : Res (Value × St) := goX J share_sharer_block_c.body [1, 1, 1, 1, 1, 1, 1, 1, 1, 1, 0, 1, 0, 0, 1, 1, 1] (envT [(0, v0), (6, v6), (136, v136), (137, v137), (138, v138)]) st
noncomputable def share_sharer_block_j9 (J : JT (Value × St)) (v0 : Value) (v1 : Value) (v6 : Value) (v7 : Value) (v8 : Value) (v13 : Value) (v15 : Value) (v16 : Value) (v64 : Value) (v65 : Value) (v66 : Value) (st : St) : Res (Value × St) := goX J share_sharer_block_c.body [1, 1, 1, 1, 1, 1, 0, 1, 0, 1, 0, 0, 1, 1, 1, 0, 0, 1, 1, 1, 1, 1, 1, 1, 1, 1] (envT [(0, v0), (1, v1), (6, v6), (7, v7), (8, v8), (13, v13), (15, v15), (16, v16), (64, v64), (65, v65), (66, v66)]) st
noncomputable def share_sharer_block_j10 (J : JT (Value × St)) (v0 : Value) (v6 : Value) (v136 : Value) (v137 : Value) (v138 : Value) (st : St) : Res (Value × St) := goX J share_sharer_block_c.body [1, 1, 1, 1, 1, 1, 1, 1, 1, 1, 0, 1, 0, 0, 1, 1, 1, 1, 1] (envT [(0, v0), (6, v6), (136, v136), (137, v137), (138, v138)]) st
theorem share_sharer_block_eq (K : Ctx) (J : JT (Value × St)) (a0 a1 a2 : Value) (st : St) : atX K J share_sharer_block_c (AM.start [a0, a1, a2]) st =
  (.thn st (sNewMap st) fun p1 =>
  .thn p1.2 (sBuild [(.pointer none), (.map none)] [(0, 1, a2), (1, 1, p1.1)] p1.2) fun p2 =>
  .thn p2.2 (sBox p2.1 p2.2) fun p3 =>
  .thn p3.2 (sNilc a0 p3.2) fun p4 =>
  .thn p4.2 (sOff 0 p4.1 p4.2) fun p5 =>
  .thn p5.2 (sOff 0 p5.1 p5.2) fun p6 =>
  .thn p6.2 (sLoad none p6.1 p6.2) fun p7 =>
  .thn p7.2 (sIxA 7 none p7.1 a1 p7.2) fun p8 =>
  .thn p8.2 (sNilc p8.1 p8.2) fun p9 =>
  .thn p9.2 (sOff 1 p9.1 p9.2) fun p10 =>
  .thn p10.2 (sLoad none p10.1 p10.2) fun p11 =>
  .thn p11.2 (sLen .slice p11.1 p11.2) fun p12 =>
  share_sharer_block_l0 J a0 a1 p3.1 p8.1 (.slice none 0 0) p11.1 p12.1 (.int .i64 0) p12.2) := by kernel_rfl
theorem share_sharer_block_of {K : Ctx} (hF : Fix pgF K) {a0 a1 a2 : Value} {st : St} {Q : Value × St → Prop} (h : ∀ J, IsJ K (retK share_sharer_block_c.results) J → Ok (atX K J share_sharer_block_c (AM.start [a0, a1, a2]) st) Q) : Ok (K.go (.call n_share_sharer_block [a0, a1, a2]) st) Q := call_of hF share_sharer_block_is rfl h
theorem share_sharer_block_l0_eq (K : Ctx) (J : JT (Value × St)) (v0 : Value) (v1 : Value) (v6 : Value) (v7 : Value) (v8 : Value) (v36 : Value) (v37 : Value) (v38 : Value) (st : St) : inX K J (retK share_sharer_block_c.results) share_sharer_block_c.body [1, 1, 1, 0, 1, 0, 1] (envT [(0, v0), (1, v1), (6, v6), (7, v7), (8, v8), (36, v36), (37, v37), (38, v38)]) st =
  (.thn st (sBin .lss v38 v37 st) fun p1 =>
  condX p1.1
  (share_sharer_block_j0 J v0 v1 v6 v7 v8 v36 v37 v38 p1.2)
  (share_sharer_block_j1 J v0 v1 v6 v7 v8 p1.2)) := by kernel_rfl
theorem share_sharer_block_l0_of {K : Ctx} (hF : Fix pgF K) {J : JT (Value × St)} (hJ : IsJ K (retK share_sharer_block_c.results) J) {v0 : Value} {v1 : Value} {v6 : Value} {v7 : Value} {v8 : Value} {v36 : Value} {v37 : Value} {v38 : Value} {st : St} {Q : Value × St → Prop} (h : Ok (inX K J (retK share_sharer_block_c.results) share_sharer_block_c.body [1, 1, 1, 0, 1, 0, 1] (envT [(0, v0), (1, v1), (6, v6), (7, v7), (8, v8), (36, v36), (37, v37), (38, v38)]) st) Q) : Ok (share_sharer_block_l0 J v0 v1 v6 v7 v8 v36 v37 v38 st) Q := loop_of hF hJ h
theorem share_sharer_block_j0_eq {K : Ctx} {J : JT (Value × St)} (hJ : IsJ K (retK share_sharer_block_c.results) J) (v0 : Value) (v1 : Value) (v6 : Value) (v7 : Value) (v8 : Value) (v36 : Value) (v37 : Value) (v38 : Value) (st : St) : share_sharer_block_j0 J v0 v1 v6 v7 v8 v36 v37 v38 st =
  (.thn st (sIxA 3 none v36 v38 st) fun p1 =>
  .thn p1.2 (sLoad (some 3) p1.1 p1.2) fun p2 =>
  .thn p2.2 (sLnew [(.int .i64 0), (.slice none 0 0), (.slice none 0 0)] p2.2) fun p3 =>
  .thn p3.2 (sUpd 3 0 p3.1 p2.1 p3.2) fun p4 =>
  .thn p4.2 (sField (some 3) 0 p4.1 p4.2) fun p5 =>
  .thn p5.2 (K.go (.call n_share_sharer_one [v0, p5.1]) p5.2) fun p6 =>
  .thn p6.2 (sExtract p6.1 0 p6.2) fun p7 =>
  .thn p7.2 (sExtract p6.1 1 p7.2) fun p8 =>
  condX p8.1
  (.thn p8.2 (sNilc v0 p8.2) fun p9 =>
  .thn p9.2 (sOff 4 p9.1 p9.2) fun p10 =>
  .thn p10.2 (sLoad none p10.1 p10.2) fun p11 =>
  .thn p11.2 (sLref p4.1 p11.2) fun p12 =>
  .thn p12.2 (sField none 0 p4.1 p12.2) fun p13 =>
  .thn p13.2 (sMapSet (.cell .int) p11.1 p13.1 p7.1 p13.2) fun p14 =>
  share_sharer_block_j2 J v0 v1 v6 v7 v8 v36 v37 v38 p14.2)
  (.thn p8.2 (sField (some 3) 0 p4.1 p8.2) fun p15 =>
  .thn p15.2 (sLit 3 1 [(.int .i64 0), (.slice none 0 0), (.slice none 0 0)] [(0, 3, p15.1)] p15.2) fun p16 =>
  .thn p16.2 (sAppend 3 56 v8 p16.1 p16.2) fun p17 =>
  share_sharer_block_j2 J v0 v1 v6 v7 p17.1 v36 v37 v38 p17.2)) := (go_eq hJ _ _ _ _).trans (by kernel_rfl)
theorem share_sharer_block_j1_eq {K : Ctx} {J : JT (Value × St)} (hJ : IsJ K (retK share_sharer_block_c.results) J) (v0 : Value) (v1 : Value) (v6 : Value) (v7 : Value) (v8 : Value) (st : St) : share_sharer_block_j1 J v0 v1 v6 v7 v8 st =
  (.thn st (sNilc v7 st) fun p1 =>
  .thn p1.2 (sOff 2 p1.1 p1.2) fun p2 =>
  .thn p2.2 (sLoad none p2.1 p2.2) fun p3 =>
  .thn p3.2 (sLen .slice p3.1 p3.2) fun p4 =>
  share_sharer_block_l1 J v0 v1 v6 v7 v8 (.slice none 0 0) p3.1 p4.1 (.int .i64 0) p4.2) := (go_eq hJ _ _ _ _).trans (by kernel_rfl)
theorem share_sharer_block_j2_eq {K : Ctx} {J : JT (Value × St)} (hJ : IsJ K (retK share_sharer_block_c.results) J) (v0 : Value) (v1 : Value) (v6 : Value) (v7 : Value) (v8 : Value) (v36 : Value) (v37 : Value) (v38 : Value) (st : St) : share_sharer_block_j2 J v0 v1 v6 v7 v8 v36 v37 v38 st =
  (.thn st (sBin .add v38 (.int .i64 1) st) fun p1 =>
  share_sharer_block_l0 J v0 v1 v6 v7 v8 v36 v37 p1.1 p1.2) := (go_eq hJ _ _ _ _).trans (by kernel_rfl)
theorem share_sharer_block_l1_eq (K : Ctx) (J : JT (Value × St)) (v0 : Value) (v1 : Value) (v6 : Value) (v7 : Value) (v8 : Value) (v13 : Value) (v64 : Value) (v65 : Value) (v66 : Value) (st : St) : inX K J (retK share_sharer_block_c.results) share_sharer_block_c.body [1, 1, 1, 1, 1, 1, 0, 1, 0, 1] (envT [(0, v0), (1, v1), (6, v6), (7, v7), (8, v8), (13, v13), (64, v64), (65, v65), (66, v66)]) st =
  (.thn st (sBin .lss v66 v65 st) fun p1 =>
  condX p1.1
  (share_sharer_block_j3 J v0 v1 v6 v7 v8 v13 v64 v65 v66 p1.2)
  (share_sharer_block_j4 J v0 v1 v6 v7 v8 v13 p1.2)) := by kernel_rfl
theorem share_sharer_block_l1_of {K : Ctx} (hF : Fix pgF K) {J : JT (Value × St)} (hJ : IsJ K (retK share_sharer_block_c.results) J) {v0 : Value} {v1 : Value} {v6 : Value} {v7 : Value} {v8 : Value} {v13 : Value} {v64 : Value} {v65 : Value} {v66 : Value} {st : St} {Q : Value × St → Prop} (h : Ok (inX K J (retK share_sharer_block_c.results) share_sharer_block_c.body [1, 1, 1, 1, 1, 1, 0, 1, 0, 1] (envT [(0, v0), (1, v1), (6, v6), (7, v7), (8, v8), (13, v13), (64, v64), (65, v65), (66, v66)]) st) Q) : Ok (share_sharer_block_l1 J v0 v1 v6 v7 v8 v13 v64 v65 v66 st) Q := loop_of hF hJ h
theorem share_sharer_block_j3_eq {K : Ctx} {J : JT (Value × St)} (hJ : IsJ K (retK share_sharer_block_c.results) J) (v0 : Value) (v1 : Value) (v6 : Value) (v7 : Value) (v8 : Value) (v13 : Value) (v64 : Value) (v65 : Value) (v66 : Value) (st : St) : share_sharer_block_j3 J v0 v1 v6 v7 v8 v13 v64 v65 v66 st =
  (.thn st (sIxA 7 none v64 v66 st) fun p1 =>
  .thn p1.2 (sLoad (some 7) p1.1 p1.2) fun p2 =>
  .thn p2.2 (sLnew [(.int .u8 0), (.int .u8 0), (.int .i64 0), (.int .i64 0), (.int .i64 0), (.int .i64 0), (.int .i64 0)] p2.2) fun p3 =>
  .thn p3.2 (sUpd 7 0 p3.1 p2.1 p3.2) fun p4 =>
  .thn p4.2 (sField (some 7) 0 p4.1 p4.2) fun p5 =>
  .thn p5.2 (K.go (.call n_ir_Instr_Turned [p5.1, (.func (.func n_share_sharer_of) #[v0] #[])]) p5.2) fun p6 =>
  .thn p6.2 (sUpd 7 0 p4.1 p6.1 p6.2) fun p7 =>
  .thn p7.2 (sLref p7.1 p7.2) fun p8 =>
  .thn p8.2 (sField none 0 p7.1 p8.2) fun p9 =>
  .thn p9.2 (sBin .eql p9.1 (.int .u8 1) p9.2) fun p10 =>
  condX p10.1
  (.thn p10.2 (sNilc v0 p10.2) fun p11 =>
  .thn p11.2 (sOff 4 p11.1 p11.2) fun p12 =>
  .thn p12.2 (sLoad none p12.1 p12.2) fun p13 =>
  .thn p13.2 (sLref p7.1 p13.2) fun p14 =>
  .thn p14.2 (sField none 2 p7.1 p14.2) fun p15 =>
  .thn p15.2 (sLref p7.1 p15.2) fun p16 =>
  .thn p16.2 (sField none 3 p7.1 p16.2) fun p17 =>
  .thn p17.2 (sMapSet (.cell .int) p13.1 p15.1 p17.1 p17.2) fun p18 =>
  share_sharer_block_j5 J v0 v1 v6 v7 v8 v13 v64 v65 v66 p18.2)
  (share_sharer_block_j6 J v0 v1 v6 v7 v8 v13 p7.1 v64 v65 v66 p10.2)) := (go_eq hJ _ _ _ _).trans (by kernel_rfl)
theorem share_sharer_block_j4_eq {K : Ctx} {J : JT (Value × St)} (hJ : IsJ K (retK share_sharer_block_c.results) J) (v0 : Value) (v1 : Value) (v6 : Value) (v7 : Value) (v8 : Value) (v13 : Value) (st : St) : share_sharer_block_j4 J v0 v1 v6 v7 v8 v13 st =
  (.thn st (sNilc v7 st) fun p1 =>
  .thn p1.2 (sOff 1 p1.1 p1.2) fun p2 =>
  .thn p2.2 (sStore 1 p2.1 v8 p2.2) fun p3 =>
  .thn p3.2 (sNilc v7 p3.2) fun p4 =>
  .thn p4.2 (sOff 2 p4.1 p4.2) fun p5 =>
  .thn p5.2 (sStore 1 p5.1 v13 p5.2) fun p6 =>
  .thn p6.2 (sNilc v0 p6.2) fun p7 =>
  .thn p7.2 (sOff 1 p7.1 p7.2) fun p8 =>
  .thn p8.2 (sLoad (some 3) p8.1 p8.2) fun p9 =>
  .thn p9.2 (K.go (.call n_dom_Tree_Below [p9.1, v1]) p9.2) fun p10 =>
  .thn p10.2 (sLen .slice p10.1 p10.2) fun p11 =>
  share_sharer_block_l2 J v0 v6 p10.1 p11.1 (.int .i64 0) p11.2) := (go_eq hJ _ _ _ _).trans (by kernel_rfl)
theorem share_sharer_block_j5_eq {K : Ctx} {J : JT (Value × St)} (hJ : IsJ K (retK share_sharer_block_c.results) J) (v0 : Value) (v1 : Value) (v6 : Value) (v7 : Value) (v8 : Value) (v13 : Value) (v64 : Value) (v65 : Value) (v66 : Value) (st : St) : share_sharer_block_j5 J v0 v1 v6 v7 v8 v13 v64 v65 v66 st =
  (.thn st (sBin .add v66 (.int .i64 1) st) fun p1 =>
  share_sharer_block_l1 J v0 v1 v6 v7 v8 v13 v64 v65 p1.1 p1.2) := (go_eq hJ _ _ _ _).trans (by kernel_rfl)
theorem share_sharer_block_j6_eq {K : Ctx} {J : JT (Value × St)} (hJ : IsJ K (retK share_sharer_block_c.results) J) (v0 : Value) (v1 : Value) (v6 : Value) (v7 : Value) (v8 : Value) (v13 : Value) (v15 : Value) (v64 : Value) (v65 : Value) (v66 : Value) (st : St) : share_sharer_block_j6 J v0 v1 v6 v7 v8 v13 v15 v64 v65 v66 st =
  (.thn st (sField (some 7) 0 v15 st) fun p1 =>
  .thn p1.2 (K.go (.call n_share_sharer_reckons [v0, p1.1]) p1.2) fun p2 =>
  .thn p2.2 (sExtract p2.1 0 p2.2) fun p3 =>
  .thn p3.2 (sExtract p2.1 1 p3.2) fun p4 =>
  .thn p4.2 (sLnew [(.int .u8 0), (.int .u8 0), (.int .i64 0), (.int .i64 0), (.int .i64 0)] p4.2) fun p5 =>
  .thn p5.2 (sUpd 5 0 p5.1 p3.1 p5.2) fun p6 =>
  .thn p6.2 (sUn .not p4.1 p6.2) fun p7 =>
  condX p7.1
  (.thn p7.2 (sField (some 7) 0 v15 p7.2) fun p8 =>
  .thn p8.2 (sLit 7 1 [(.int .u8 0), (.int .u8 0), (.int .i64 0), (.int .i64 0), (.int .i64 0), (.int .i64 0), (.int .i64 0)] [(0, 7, p8.1)] p8.2) fun p9 =>
  .thn p9.2 (sAppend 7 48 v13 p9.1 p9.2) fun p10 =>
  share_sharer_block_j5 J v0 v1 v6 v7 v8 p10.1 v64 v65 v66 p10.2)
  (share_sharer_block_j7 J v0 v1 v6 v7 v8 v13 v15 p6.1 v64 v65 v66 p7.2)) := (go_eq hJ _ _ _ _).trans (by kernel_rfl)
theorem share_sharer_block_l2_eq (K : Ctx) (J : JT (Value × St)) (v0 : Value) (v6 : Value) (v136 : Value) (v137 : Value) (v138 : Value) (st : St) : inX K J (retK share_sharer_block_c.results) share_sharer_block_c.body [1, 1, 1, 1, 1, 1, 1, 1, 1, 1, 0, 1] (envT [(0, v0), (6, v6), (136, v136), (137, v137), (138, v138)]) st =
  (.thn st (sBin .lss v138 v137 st) fun p1 =>
  condX p1.1
  (share_sharer_block_j8 J v0 v6 v136 v137 v138 p1.2)
  (.ok (.tuple #[], p1.2))) := by kernel_rfl
theorem share_sharer_block_l2_of {K : Ctx} (hF : Fix pgF K) {J : JT (Value × St)} (hJ : IsJ K (retK share_sharer_block_c.results) J) {v0 : Value} {v6 : Value} {v136 : Value} {v137 : Value} {v138 : Value} {st : St} {Q : Value × St → Prop} (h : Ok (inX K J (retK share_sharer_block_c.results) share_sharer_block_c.body [1, 1, 1, 1, 1, 1, 1, 1, 1, 1, 0, 1] (envT [(0, v0), (6, v6), (136, v136), (137, v137), (138, v138)]) st) Q) : Ok (share_sharer_block_l2 J v0 v6 v136 v137 v138 st) Q := loop_of hF hJ h
theorem share_sharer_block_j7_eq {K : Ctx} {J : JT (Value × St)} (hJ : IsJ K (retK share_sharer_block_c.results) J) (v0 : Value) (v1 : Value) (v6 : Value) (v7 : Value) (v8 : Value) (v13 : Value) (v15 : Value) (v16 : Value) (v64 : Value) (v65 : Value) (v66 : Value) (st : St) : share_sharer_block_j7 J v0 v1 v6 v7 v8 v13 v15 v16 v64 v65 v66 st =
  (.thn st (sField (some 5) 0 v16 st) fun p1 =>
  .thn p1.2 (K.go (.call n_share_scope_find [v6, p1.1]) p1.2) fun p2 =>
  .thn p2.2 (sExtract p2.1 0 p2.2) fun p3 =>
  .thn p3.2 (sExtract p2.1 1 p3.2) fun p4 =>
  condX p4.1
  (.thn p4.2 (sNilc v0 p4.2) fun p5 =>
  .thn p5.2 (sOff 4 p5.1 p5.2) fun p6 =>
  .thn p6.2 (sLoad none p6.1 p6.2) fun p7 =>
  .thn p7.2 (sLref v15 p7.2) fun p8 =>
  .thn p8.2 (sField none 2 v15 p8.2) fun p9 =>
  .thn p9.2 (sMapSet (.cell .int) p7.1 p9.1 p3.1 p9.2) fun p10 =>
  share_sharer_block_j5 J v0 v1 v6 v7 v8 v13 v64 v65 v66 p10.2)
  (share_sharer_block_j9 J v0 v1 v6 v7 v8 v13 v15 v16 v64 v65 v66 p4.2)) := (go_eq hJ _ _ _ _).trans (by kernel_rfl)
theorem share_sharer_block_j8_eq {K : Ctx} {J : JT (Value × St)} (hJ : IsJ K (retK share_sharer_block_c.results) J) (v0 : Value) (v6 : Value) (v136 : Value) (v137 : Value) (v138 : Value) (st : St) : share_sharer_block_j8 J v0 v6 v136 v137 v138 st =
  (.thn st (sIxA 1 none v136 v138 st) fun p1 =>
  .thn p1.2 (sLoad none p1.1 p1.2) fun p2 =>
  .thn p2.2 (K.go (.call n_share_sharer_block [v0, p2.1, v6]) p2.2) fun p3 =>
  share_sharer_block_j10 J v0 v6 v136 v137 v138 p3.2) := (go_eq hJ _ _ _ _).trans (by kernel_rfl)
theorem share_sharer_block_j9_eq {K : Ctx} {J : JT (Value × St)} (hJ : IsJ K (retK share_sharer_block_c.results) J) (v0 : Value) (v1 : Value) (v6 : Value) (v7 : Value) (v8 : Value) (v13 : Value) (v15 : Value) (v16 : Value) (v64 : Value) (v65 : Value) (v66 : Value) (st : St) : share_sharer_block_j9 J v0 v1 v6 v7 v8 v13 v15 v16 v64 v65 v66 st =
  (.thn st (sNilc v6 st) fun p1 =>
  .thn p1.2 (sOff 1 p1.1 p1.2) fun p2 =>
  .thn p2.2 (sLoad none p2.1 p2.2) fun p3 =>
  .thn p3.2 (sField (some 5) 0 v16 p3.2) fun p4 =>
  .thn p4.2 (sLref v15 p4.2) fun p5 =>
  .thn p5.2 (sField none 2 v15 p5.2) fun p6 =>
  .thn p6.2 (sMapSet (.struct [(0, .int), (1, .int), (2, .int), (3, .int), (4, .int)]) p3.1 p4.1 p6.1 p6.2) fun p7 =>
  .thn p7.2 (sField (some 7) 0 v15 p7.2) fun p8 =>
  .thn p8.2 (sLit 7 1 [(.int .u8 0), (.int .u8 0), (.int .i64 0), (.int .i64 0), (.int .i64 0), (.int .i64 0), (.int .i64 0)] [(0, 7, p8.1)] p8.2) fun p9 =>
  .thn p9.2 (sAppend 7 48 v13 p9.1 p9.2) fun p10 =>
  share_sharer_block_j5 J v0 v1 v6 v7 v8 p10.1 v64 v65 v66 p10.2) := (go_eq hJ _ _ _ _).trans (by kernel_rfl)
theorem share_sharer_block_j10_eq {K : Ctx} {J : JT (Value × St)} (hJ : IsJ K (retK share_sharer_block_c.results) J) (v0 : Value) (v6 : Value) (v136 : Value) (v137 : Value) (v138 : Value) (st : St) : share_sharer_block_j10 J v0 v6 v136 v137 v138 st =
  (.thn st (sBin .add v138 (.int .i64 1) st) fun p1 =>
  share_sharer_block_l2 J v0 v6 v136 v137 p1.1 p1.2) := (go_eq hJ _ _ _ _).trans (by kernel_rfl)

/-! ### (*refinery/share.sharer).of -/
open C in
noncomputable def share_sharer_of_c : AFun := ⟨20, [.tmp 4],
 (s (.ops [o 4 (.mv (c (i 0)))])
 (.block 0 (s (.keep [0, 1])
 (.loop (s (.block 1 (s (.ops [o 8 (.mv (t 0)), o 9 (.nilc (t 8)), o 10 (.off 4 (t 9)), o 11 (.load none (t 10)), o 12 (.mv (t 1)), o 13 (.look (.cell .int) (i 0) true (t 11) (t 12)), o 7 (.mv (t 13)), o 14 (.extract (t 7) 0), o 15 (.extract (t 7) 1), o 5 (.mv (t 14)), o 6 (.mv (t 15))])
 (s (s (.ops [o 16 (.mv (t 6)), o 17 (.un .not (t 16))])
 (.cond (t 17) (s (.ops [o 18 (.mv (t 1)), o 4 (.mv (t 18))])
 .ret) .skip))
 (s (.keep [0, 5])
 (.ops [o 19 (.mv (t 5)), o 1 (.mv (t 19))])))))
 (.keep [0, 1]))))))⟩
theorem share_sharer_of_is : pgF n_share_sharer_of = some share_sharer_of_c := by kernel_rfl
noncomputable def share_sharer_of_l0 (J : JT (Value × St)) (v0 : Value) (v1 : Value) (st : St) : Res (Value × St) := lpX J share_sharer_of_c.body [1, 0, 1] (envT [(0, v0), (1, v1)]) st
noncomputable def share_sharer_of_j0 (J : JT (Value × St)) (v0 : Value) (v5 : Value) (st : St) : Res (Value × St) := goX J share_sharer_of_c.body [1, 0, 1, 0, 0, 0, 1, 1, 1] (envT [(0, v0), (5, v5)]) st
theorem share_sharer_of_eq (K : Ctx) (J : JT (Value × St)) (a0 a1 : Value) (st : St) : atX K J share_sharer_of_c (AM.start [a0, a1]) st =
  (share_sharer_of_l0 J a0 a1 st) := by kernel_rfl
theorem share_sharer_of_of {K : Ctx} (hF : Fix pgF K) {a0 a1 : Value} {st : St} {Q : Value × St → Prop} (h : ∀ J, IsJ K (retK share_sharer_of_c.results) J → Ok (atX K J share_sharer_of_c (AM.start [a0, a1]) st) Q) : Ok (K.go (.call n_share_sharer_of [a0, a1]) st) Q := call_of hF share_sharer_of_is rfl h
theorem share_sharer_of_l0_eq (K : Ctx) (J : JT (Value × St)) (v0 : Value) (v1 : Value) (st : St) : inX K J (retK share_sharer_of_c.results) share_sharer_of_c.body [1, 0, 1] (envT [(0, v0), (1, v1)]) st =
  (.thn st (sNilc v0 st) fun p1 =>
  .thn p1.2 (sOff 4 p1.1 p1.2) fun p2 =>
  .thn p2.2 (sLoad none p2.1 p2.2) fun p3 =>
  .thn p3.2 (sLook (.cell .int) (.int .i64 0) true p3.1 v1 p3.2) fun p4 =>
  .thn p4.2 (sExtract p4.1 0 p4.2) fun p5 =>
  .thn p5.2 (sExtract p4.1 1 p5.2) fun p6 =>
  .thn p6.2 (sUn .not p6.1 p6.2) fun p7 =>
  condX p7.1
  (.ok (v1, p7.2))
  (share_sharer_of_j0 J v0 p5.1 p7.2)) := by kernel_rfl
theorem share_sharer_of_l0_of {K : Ctx} (hF : Fix pgF K) {J : JT (Value × St)} (hJ : IsJ K (retK share_sharer_of_c.results) J) {v0 : Value} {v1 : Value} {st : St} {Q : Value × St → Prop} (h : Ok (inX K J (retK share_sharer_of_c.results) share_sharer_of_c.body [1, 0, 1] (envT [(0, v0), (1, v1)]) st) Q) : Ok (share_sharer_of_l0 J v0 v1 st) Q := loop_of hF hJ h
theorem share_sharer_of_j0_eq {K : Ctx} {J : JT (Value × St)} (hJ : IsJ K (retK share_sharer_of_c.results) J) (v0 : Value) (v5 : Value) (st : St) : share_sharer_of_j0 J v0 v5 st =
  (share_sharer_of_l0 J v0 v5 st) := (go_eq hJ _ _ _ _).trans (by kernel_rfl)

/-! ### (*refinery/share.sharer).one -/
open C in
noncomputable def share_sharer_one_c : AFun := ⟨2, [.tmp 4, .tmp 5],
 (s (.ops [o 3 (.lbox (t 1)), o 4 (.mv (c (i 0))), o 5 (.mv (c (.bool false)))])
 (s (.ops [o 6 (.mv (c (i 0))), o 7 (.mv (c (.bool false)))])
 (s (s (.ops [o 10 (.lref (t 3)), o 11 (.field none 2 (t 3)), o 12 (.len .slice (t 11)), o 13 (.mv (c (i 0)))])
 (.block 0 (s (.keep [0, 3, 6, 7, 11, 12, 13])
 (.loop (s (s (.ops [o 14 (.bin .lss (t 13) (t 12))])
 (s (.cond (t 14) .skip (.exit 0))
 (s (.keep [0, 3, 6, 7, 11, 12, 13])
 (s (.block 1 (s (.ops [o 15 (.ixA 1 none (t 11) (t 13)), o 16 (.load none (t 15)), o 9 (.mv (t 16))])
 (s (.ops [o 17 (.mv (t 0)), o 18 (.mv (t 9)), o 19 (.call (f 35) [(t 17), (t 18)]), o 9 (.mv (t 19))])
 (s (s (.ops [o 20 (.mv (t 9)), o 21 (.lref (t 3)), o 22 (.field none 0 (t 3)), o 23 (.bin .eql (t 20) (t 22)), o 24 (.mv (t 23)), g 25 false 24 (.mv (t 7)), g 26 false 24 (.mv (t 25)), g 27 true 26 (.mv (t 9)), g 28 true 26 (.mv (t 6)), g 29 true 26 (.bin .eql (t 27) (t 28)), g 30 false 24 (.pick (t 26) (t 29) (c (.bool false))), o 31 (.pick (t 24) (c (.bool true)) (t 30))])
 (.cond (t 31) (.exit 1) .skip))
 (s (.keep [0, 3, 7, 9, 11, 12, 13])
 (s (s (.ops [o 32 (.mv (t 7))])
 (.cond (t 32) (s (.ops [o 4 (.mv (c (i 0))), o 5 (.mv (c (.bool false)))])
 .ret) .skip))
 (s (.keep [0, 3, 9, 11, 12, 13])
 (.ops [o 33 (.mv (t 9)), o 6 (.mv (t 33)), o 7 (.mv (c (.bool true)))]))))))))
 (s (.keep [0, 3, 6, 7, 11, 12, 13])
 (.ops [o 34 (.bin .add (t 13) (c (i 1))), o 13 (.mv (t 34))]))))))
 (.keep [0, 3, 6, 7, 11, 12, 13]))))))
 (s (.keep [6, 7])
 (s (.ops [o 35 (.mv (t 6)), o 36 (.mv (t 7)), o 4 (.mv (t 35)), o 5 (.mv (t 36))])
 .ret)))))⟩
theorem share_sharer_one_is : pgF n_share_sharer_one = some share_sharer_one_c := by kernel_rfl
noncomputable def share_sharer_one_l0 (J : JT (Value × St)) (v0 : Value) (v3 : Value) (v6 : Value) (v7 : Value) (v11 : Value) (v12 : Value) (v13 : Value) (st : St) : Res (Value × St) := lpX J share_sharer_one_c.body [1, 1, 0, 1, 0, 1] (envT [(0, v0), (3, v3), (6, v6), (7, v7), (11, v11), (12, v12), (13, v13)]) st
noncomputable def share_sharer_one_j0 (J : JT (Value × St)) (v0 : Value) (v3 : Value) (v6 : Value) (v7 : Value) (v11 : Value) (v12 : Value) (v13 : Value) (st : St) : Res (Value × St) := goX J share_sharer_one_c.body [1, 1, 0, 1, 0, 1, 0, 0, 1, 1, 1] (envT [(0, v0), (3, v3), (6, v6), (7, v7), (11, v11), (12, v12), (13, v13)]) st
noncomputable def share_sharer_one_j1 (J : JT (Value × St)) (v6 : Value) (v7 : Value) (st : St) : Res (Value × St) := goX J share_sharer_one_c.body [1, 1, 1, 1] (envT [(6, v6), (7, v7)]) st
noncomputable def share_sharer_one_j2 (J : JT (Value × St)) (v0 : Value) (v3 : Value) (v6 : Value) (v7 : Value) (v11 : Value) (v12 : Value) (v13 : Value) (st : St) : Res (Value × St) := goX J share_sharer_one_c.body [1, 1, 0, 1, 0, 1, 0, 0, 1, 1, 1, 1, 1] (envT [(0, v0), (3, v3), (6, v6), (7, v7), (11, v11), (12, v12), (13, v13)]) st
noncomputable def share_sharer_one_j3 (J : JT (Value × St)) (v0 : Value) (v3 : Value) (v7 : Value) (v9 : Value) (v11 : Value) (v12 : Value) (v13 : Value) (st : St) : Res (Value × St) := goX J share_sharer_one_c.body [1, 1, 0, 1, 0, 1, 0, 0, 1, 1, 1, 0, 0, 1, 1, 1, 1] (envT [(0, v0), (3, v3), (7, v7), (9, v9), (11, v11), (12, v12), (13, v13)]) st
noncomputable def share_sharer_one_j4 (J : JT (Value × St)) (v0 : Value) (v3 : Value) (v9 : Value) (v11 : Value) (v12 : Value) (v13 : Value) (st : St) : Res (Value × St) := goX J share_sharer_one_c.body [1, 1, 0, 1, 0, 1, 0, 0, 1, 1, 1, 0, 0, 1, 1, 1, 1, 1, 1] (envT [(0, v0), (3, v3), (9, v9), (11, v11), (12, v12), (13, v13)]) st
theorem share_sharer_one_eq (K : Ctx) (J : JT (Value × St)) (a0 a1 : Value) (st : St) : atX K J share_sharer_one_c (AM.start [a0, a1]) st =
  (.thn st (sLbox a1 st) fun p1 =>
  .thn p1.2 (sLref p1.1 p1.2) fun p2 =>
  .thn p2.2 (sField none 2 p1.1 p2.2) fun p3 =>
  .thn p3.2 (sLen .slice p3.1 p3.2) fun p4 =>
  share_sharer_one_l0 J a0 p1.1 (.int .i64 0) (.bool false) p3.1 p4.1 (.int .i64 0) p4.2) := by kernel_rfl
theorem share_sharer_one_of {K : Ctx} (hF : Fix pgF K) {a0 a1 : Value} {st : St} {Q : Value × St → Prop} (h : ∀ J, IsJ K (retK share_sharer_one_c.results) J → Ok (atX K J share_sharer_one_c (AM.start [a0, a1]) st) Q) : Ok (K.go (.call n_share_sharer_one [a0, a1]) st) Q := call_of hF share_sharer_one_is rfl h
theorem share_sharer_one_l0_eq (K : Ctx) (J : JT (Value × St)) (v0 : Value) (v3 : Value) (v6 : Value) (v7 : Value) (v11 : Value) (v12 : Value) (v13 : Value) (st : St) : inX K J (retK share_sharer_one_c.results) share_sharer_one_c.body [1, 1, 0, 1, 0, 1] (envT [(0, v0), (3, v3), (6, v6), (7, v7), (11, v11), (12, v12), (13, v13)]) st =
  (.thn st (sBin .lss v13 v12 st) fun p1 =>
  condX p1.1
  (share_sharer_one_j0 J v0 v3 v6 v7 v11 v12 v13 p1.2)
  (share_sharer_one_j1 J v6 v7 p1.2)) := by kernel_rfl
theorem share_sharer_one_l0_of {K : Ctx} (hF : Fix pgF K) {J : JT (Value × St)} (hJ : IsJ K (retK share_sharer_one_c.results) J) {v0 : Value} {v3 : Value} {v6 : Value} {v7 : Value} {v11 : Value} {v12 : Value} {v13 : Value} {st : St} {Q : Value × St → Prop} (h : Ok (inX K J (retK share_sharer_one_c.results) share_sharer_one_c.body [1, 1, 0, 1, 0, 1] (envT [(0, v0), (3, v3), (6, v6), (7, v7), (11, v11), (12, v12), (13, v13)]) st) Q) : Ok (share_sharer_one_l0 J v0 v3 v6 v7 v11 v12 v13 st) Q := loop_of hF hJ h
theorem share_sharer_one_j0_eq {K : Ctx} {J : JT (Value × St)} (hJ : IsJ K (retK share_sharer_one_c.results) J) (v0 : Value) (v3 : Value) (v6 : Value) (v7 : Value) (v11 : Value) (v12 : Value) (v13 : Value) (st : St) : share_sharer_one_j0 J v0 v3 v6 v7 v11 v12 v13 st =
  (.thn st (sIxA 1 none v11 v13 st) fun p1 =>
  .thn p1.2 (sLoad none p1.1 p1.2) fun p2 =>
  .thn p2.2 (K.go (.call n_share_sharer_of [v0, p2.1]) p2.2) fun p3 =>
  .thn p3.2 (sLref v3 p3.2) fun p4 =>
  .thn p4.2 (sField none 0 v3 p4.2) fun p5 =>
  .thn p5.2 (sBin .eql p3.1 p5.1 p5.2) fun p6 =>
  .thn p6.2 (sG p6.1 false (.ok (v7, p6.2)) p6.2) fun p7 =>
  .thn p7.2 (sG p6.1 false (.ok (p7.1, p7.2)) p7.2) fun p8 =>
  .thn p8.2 (sG p8.1 true (.ok (p3.1, p8.2)) p8.2) fun p9 =>
  .thn p9.2 (sG p8.1 true (.ok (v6, p9.2)) p9.2) fun p10 =>
  .thn p10.2 (sG p8.1 true (sBin .eql p9.1 p10.1 p10.2) p10.2) fun p11 =>
  .thn p11.2 (sG p6.1 false (sPick p8.1 p11.1 (.bool false) p11.2) p11.2) fun p12 =>
  .thn p12.2 (sPick p6.1 (.bool true) p12.1 p12.2) fun p13 =>
  condX p13.1
  (share_sharer_one_j2 J v0 v3 v6 v7 v11 v12 v13 p13.2)
  (share_sharer_one_j3 J v0 v3 v7 p3.1 v11 v12 v13 p13.2)) := (go_eq hJ _ _ _ _).trans (by kernel_rfl)
theorem share_sharer_one_j1_eq {K : Ctx} {J : JT (Value × St)} (hJ : IsJ K (retK share_sharer_one_c.results) J) (v6 : Value) (v7 : Value) (st : St) : share_sharer_one_j1 J v6 v7 st =
  (.ok (.tuple #[v6, v7], st)) := (go_eq hJ _ _ _ _).trans (by kernel_rfl)
theorem share_sharer_one_j2_eq {K : Ctx} {J : JT (Value × St)} (hJ : IsJ K (retK share_sharer_one_c.results) J) (v0 : Value) (v3 : Value) (v6 : Value) (v7 : Value) (v11 : Value) (v12 : Value) (v13 : Value) (st : St) : share_sharer_one_j2 J v0 v3 v6 v7 v11 v12 v13 st =
  (.thn st (sBin .add v13 (.int .i64 1) st) fun p1 =>
  share_sharer_one_l0 J v0 v3 v6 v7 v11 v12 p1.1 p1.2) := (go_eq hJ _ _ _ _).trans (by kernel_rfl)
theorem share_sharer_one_j3_eq {K : Ctx} {J : JT (Value × St)} (hJ : IsJ K (retK share_sharer_one_c.results) J) (v0 : Value) (v3 : Value) (v7 : Value) (v9 : Value) (v11 : Value) (v12 : Value) (v13 : Value) (st : St) : share_sharer_one_j3 J v0 v3 v7 v9 v11 v12 v13 st =
  (condX v7
  (.ok (.tuple #[(.int .i64 0), (.bool false)], st))
  (share_sharer_one_j4 J v0 v3 v9 v11 v12 v13 st)) := (go_eq hJ _ _ _ _).trans (by kernel_rfl)
theorem share_sharer_one_j4_eq {K : Ctx} {J : JT (Value × St)} (hJ : IsJ K (retK share_sharer_one_c.results) J) (v0 : Value) (v3 : Value) (v9 : Value) (v11 : Value) (v12 : Value) (v13 : Value) (st : St) : share_sharer_one_j4 J v0 v3 v9 v11 v12 v13 st =
  (share_sharer_one_j2 J v0 v3 v9 (.bool true) v11 v12 v13 st) := (go_eq hJ _ _ _ _).trans (by kernel_rfl)

/-! ### (*refinery/share.sharer).reckons -/
open C in
noncomputable def share_sharer_reckons_c : AFun := ⟨2, [.part 4 (some 5), .tmp 5],
 (s (.ops [o 3 (.lbox (t 1)), o 4 (.lnew [(u 0), (u 0), (i 0), (i 0), (i 0)]), o 5 (.mv (c (.bool false)))])
 (s (.ops [o 7 (.lref (t 3)), o 8 (.field none 0 (t 3)), o 9 (.lref (t 3)), o 10 (.field none 1 (t 3)), o 11 (.lref (t 3)), o 12 (.field none 3 (t 3)), o 13 (.lref (t 3)), o 14 (.field none 4 (t 3)), o 15 (.lref (t 3)), o 16 (.field none 5 (t 3)), o 17 (.build [(u 0), (u 0), (i 0), (i 0), (i 0)] [(0, 1, (t 8)), (1, 1, (t 10)), (2, 1, (t 12)), (3, 1, (t 14)), (4, 1, (t 16))]), o 6 (.lnew [(u 0), (u 0), (i 0), (i 0), (i 0)]), o 6 (.upd 5 0 (t 6) (t 17))])
 (s (s (.ops [o 18 (.lref (t 3)), o 19 (.field none 0 (t 3)), o 20 (.bin .eql (t 19) (c (u 2))), o 21 (.mv (t 20)), g 22 true 21 (.lref (t 3)), g 23 true 21 (.field none 1 (t 3)), g 24 true 21 (.call (f 99) [(t 23)]), o 25 (.pick (t 21) (t 24) (c (.bool false))), o 26 (.mv (t 25)), g 27 true 26 (.lref (t 6)), g 28 true 26 (.field none 2 (t 6)), g 29 true 26 (.lref (t 6)), g 30 true 26 (.field none 3 (t 6)), g 31 true 26 (.bin .gtr (t 28) (t 30)), o 32 (.pick (t 26) (t 31) (c (.bool false)))])
 (.cond (t 32) (.ops [o 33 (.lref (t 6)), o 34 (.field none 3 (t 6)), o 35 (.lref (t 6)), o 36 (.field none 2 (t 6)), o 37 (.lref (t 6)), o 6 (.upd 1 2 (t 6) (t 34)), o 38 (.lref (t 6)), o 6 (.upd 1 3 (t 6) (t 36))]) .skip))
 (s (.keep [3, 4, 6])
 (s (.draw [d 0 0 false (o 39 (.field (some 5) 0 (t 6))), d 1 0 false (o 40 (.lref (t 3))), d 2 0 false (o 41 (.field none 0 (t 3))), d 3 0 false (o 42 (.bin .eql (t 41) (c (u 0)))), d 4 0 false (o 43 (.mv (t 42))), d 9 0 true (o 4 (.upd 5 0 (t 4) (t 39))), d 5 0 false (g 44 false 43 (.lref (t 3))), d 6 1 false (g 45 false 43 (.field none 0 (t 3))), d 7 0 false (g 46 false 43 (.bin .eql (t 45) (c (u 2)))), d 8 0 false (o 47 (.pick (t 43) (c (.bool true)) (t 46))), d 10 0 false (o 5 (.mv (t 47)))])
 .ret)))))⟩
theorem share_sharer_reckons_is : pgF n_share_sharer_reckons = some share_sharer_reckons_c := by kernel_rfl
noncomputable def share_sharer_reckons_j0 (J : JT (Value × St)) (v3 : Value) (v4 : Value) (v6 : Value) (st : St) : Res (Value × St) := goX J share_sharer_reckons_c.body [1, 1, 1, 1] (envT [(3, v3), (4, v4), (6, v6)]) st
theorem share_sharer_reckons_eq (K : Ctx) (J : JT (Value × St)) (a0 a1 : Value) (st : St) : atX K J share_sharer_reckons_c (AM.start [a0, a1]) st =
  (.thn st (sLbox a1 st) fun p1 =>
  .thn p1.2 (sLnew [(.int .u8 0), (.int .u8 0), (.int .i64 0), (.int .i64 0), (.int .i64 0)] p1.2) fun p2 =>
  .thn p2.2 (sLref p1.1 p2.2) fun p3 =>
  .thn p3.2 (sField none 0 p1.1 p3.2) fun p4 =>
  .thn p4.2 (sLref p1.1 p4.2) fun p5 =>
  .thn p5.2 (sField none 1 p1.1 p5.2) fun p6 =>
  .thn p6.2 (sLref p1.1 p6.2) fun p7 =>
  .thn p7.2 (sField none 3 p1.1 p7.2) fun p8 =>
  .thn p8.2 (sLref p1.1 p8.2) fun p9 =>
  .thn p9.2 (sField none 4 p1.1 p9.2) fun p10 =>
  .thn p10.2 (sLref p1.1 p10.2) fun p11 =>
  .thn p11.2 (sField none 5 p1.1 p11.2) fun p12 =>
  .thn p12.2 (sBuild [(.int .u8 0), (.int .u8 0), (.int .i64 0), (.int .i64 0), (.int .i64 0)] [(0, 1, p4.1), (1, 1, p6.1), (2, 1, p8.1), (3, 1, p10.1), (4, 1, p12.1)] p12.2) fun p13 =>
  .thn p13.2 (sLnew [(.int .u8 0), (.int .u8 0), (.int .i64 0), (.int .i64 0), (.int .i64 0)] p13.2) fun p14 =>
  .thn p14.2 (sUpd 5 0 p14.1 p13.1 p14.2) fun p15 =>
  .thn p15.2 (sLref p1.1 p15.2) fun p16 =>
  .thn p16.2 (sField none 0 p1.1 p16.2) fun p17 =>
  .thn p17.2 (sBin .eql p17.1 (.int .u8 2) p17.2) fun p18 =>
  .thn p18.2 (sG p18.1 true (sLref p1.1 p18.2) p18.2) fun p19 =>
  .thn p19.2 (sG p18.1 true (sField none 1 p1.1 p19.2) p19.2) fun p20 =>
  .thn p20.2 (sG p18.1 true (K.go (.call n_word_Op_Turns [p20.1]) p20.2) p20.2) fun p21 =>
  .thn p21.2 (sPick p18.1 p21.1 (.bool false) p21.2) fun p22 =>
  .thn p22.2 (sG p22.1 true (sLref p15.1 p22.2) p22.2) fun p23 =>
  .thn p23.2 (sG p22.1 true (sField none 2 p15.1 p23.2) p23.2) fun p24 =>
  .thn p24.2 (sG p22.1 true (sLref p15.1 p24.2) p24.2) fun p25 =>
  .thn p25.2 (sG p22.1 true (sField none 3 p15.1 p25.2) p25.2) fun p26 =>
  .thn p26.2 (sG p22.1 true (sBin .gtr p24.1 p26.1 p26.2) p26.2) fun p27 =>
  .thn p27.2 (sPick p22.1 p27.1 (.bool false) p27.2) fun p28 =>
  condX p28.1
  (.thn p28.2 (sLref p15.1 p28.2) fun p29 =>
  .thn p29.2 (sField none 3 p15.1 p29.2) fun p30 =>
  .thn p30.2 (sLref p15.1 p30.2) fun p31 =>
  .thn p31.2 (sField none 2 p15.1 p31.2) fun p32 =>
  .thn p32.2 (sLref p15.1 p32.2) fun p33 =>
  .thn p33.2 (sUpd 1 2 p15.1 p30.1 p33.2) fun p34 =>
  .thn p34.2 (sLref p34.1 p34.2) fun p35 =>
  .thn p35.2 (sUpd 1 3 p34.1 p32.1 p35.2) fun p36 =>
  share_sharer_reckons_j0 J p1.1 p2.1 p36.1 p36.2)
  (share_sharer_reckons_j0 J p1.1 p2.1 p15.1 p28.2)) := by kernel_rfl
theorem share_sharer_reckons_of {K : Ctx} (hF : Fix pgF K) {a0 a1 : Value} {st : St} {Q : Value × St → Prop} (h : ∀ J, IsJ K (retK share_sharer_reckons_c.results) J → Ok (atX K J share_sharer_reckons_c (AM.start [a0, a1]) st) Q) : Ok (K.go (.call n_share_sharer_reckons [a0, a1]) st) Q := call_of hF share_sharer_reckons_is rfl h
theorem share_sharer_reckons_j0_eq {K : Ctx} {J : JT (Value × St)} (hJ : IsJ K (retK share_sharer_reckons_c.results) J) (v3 : Value) (v4 : Value) (v6 : Value) (st : St) : share_sharer_reckons_j0 J v3 v4 v6 st =
  (.thn st (sField (some 5) 0 v6 st) fun p1 =>
  .thn p1.2 (sLref v3 p1.2) fun p2 =>
  .thn p2.2 (sField none 0 v3 p2.2) fun p3 =>
  .thn p3.2 (sBin .eql p3.1 (.int .u8 0) p3.2) fun p4 =>
  .thn p4.2 (sUpd 5 0 v4 p1.1 p4.2) fun p5 =>
  .thn p5.2 (sGo p4.1 false (sLref v3 p5.2) p5.2) fun p6 =>
  .thn p6.2 (gd p4.1 false >>= fun b => bif b then (sField none 0 v3 p6.2 >>= fun p9 => Res.need (sStays (List.take 1 (p4.2 :: [])) p5.2.next nothing (fun s => sField none 0 v3 s) p9.1) "order" >>= fun _ => .ok p9) else .ok (skipped, p6.2)) fun p8 =>
  .thn p8.2 (sGo p4.1 false (sBin .eql p8.1 (.int .u8 2) p8.2) p8.2) fun p10 =>
  .thn p10.2 (sPick p4.1 (.bool true) p10.1 p10.2) fun p12 =>
  (sField (some 5) 0 p5.1 p12.2 >>= fun p13 => .ok [p13.1, p12.1]) >>= fun vs => .ok (oneOf vs, p12.2)) := (go_eq hJ _ _ _ _).trans (by kernel_rfl)

/-! ### (*refinery/share.scope).find -/
open C in
noncomputable def share_scope_find_c : AFun := ⟨2, [.tmp 4, .tmp 5],
 (s (.ops [o 3 (.lbox (t 1)), o 4 (.mv (c (i 0))), o 5 (.mv (c (.bool false)))])
 (s (.block 0 (s (.keep [0, 3])
 (.loop (s (s (s (.ops [o 8 (.mv (t 0)), o 9 (.eq true (.nilOf .ptr) (t 8) (c (.pointer none)))])
 (.cond (t 9) .skip (.exit 0)))
 (s (.keep [0, 3])
 (s (.block 1 (s (.draw [d 0 0 false (o 15 (.mv (t 0))), d 1 0 false (o 16 (.nilc (t 15))), d 2 0 false (o 17 (.off 1 (t 16))), d 3 0 false (o 18 (.load none (t 17))), d 4 0 false (o 19 (.field (some 5) 0 (t 3))), d 5 0 false (o 20 (.look (.struct [(0, .int), (1, .int), (2, .int), (3, .int), (4, .int)]) (i 0) true (t 18) (t 19))), d 6 0 false (o 14 (.mv (t 20))), d 7 0 false (o 21 (.extract (t 14) 0)), d 8 0 false (o 22 (.extract (t 14) 1)), d 9 0 false (o 6 (.mv (t 21))), d 10 0 false (o 7 (.mv (t 22)))])
 (s (.ops [o 23 (.mv (t 7))])
 (.cond (t 23) (s (.ops [o 24 (.mv (t 6)), o 4 (.mv (t 24)), o 5 (.mv (c (.bool true)))])
 .ret) .skip))))
 (s (.keep [0, 3])
 (.ops [o 10 (.mv (t 0)), o 11 (.nilc (t 10)), o 12 (.off 0 (t 11)), o 13 (.load none (t 12)), o 0 (.mv (t 13))])))))
 (.keep [0, 3])))))
 (s (.keep [])
 (s (.ops [o 4 (.mv (c (i 0))), o 5 (.mv (c (.bool false)))])
 .ret))))⟩
theorem share_scope_find_is : pgF n_share_scope_find = some share_scope_find_c := by kernel_rfl
noncomputable def share_scope_find_l0 (J : JT (Value × St)) (v0 : Value) (v3 : Value) (st : St) : Res (Value × St) := lpX J share_scope_find_c.body [1, 0, 0, 1] (envT [(0, v0), (3, v3)]) st
noncomputable def share_scope_find_j0 (J : JT (Value × St)) (v0 : Value) (v3 : Value) (st : St) : Res (Value × St) := goX J share_scope_find_c.body [1, 0, 0, 1, 0, 0, 1, 1] (envT [(0, v0), (3, v3)]) st
noncomputable def share_scope_find_j1 (J : JT (Value × St)) (st : St) : Res (Value × St) := goX J share_scope_find_c.body [1, 1, 1] (envT []) st
noncomputable def share_scope_find_j2 (J : JT (Value × St)) (v0 : Value) (v3 : Value) (st : St) : Res (Value × St) := goX J share_scope_find_c.body [1, 0, 0, 1, 0, 0, 1, 1, 1, 1] (envT [(0, v0), (3, v3)]) st
theorem share_scope_find_eq (K : Ctx) (J : JT (Value × St)) (a0 a1 : Value) (st : St) : atX K J share_scope_find_c (AM.start [a0, a1]) st =
  (.thn st (sLbox a1 st) fun p1 =>
  share_scope_find_l0 J a0 p1.1 p1.2) := by kernel_rfl
theorem share_scope_find_of {K : Ctx} (hF : Fix pgF K) {a0 a1 : Value} {st : St} {Q : Value × St → Prop} (h : ∀ J, IsJ K (retK share_scope_find_c.results) J → Ok (atX K J share_scope_find_c (AM.start [a0, a1]) st) Q) : Ok (K.go (.call n_share_scope_find [a0, a1]) st) Q := call_of hF share_scope_find_is rfl h
theorem share_scope_find_l0_eq (K : Ctx) (J : JT (Value × St)) (v0 : Value) (v3 : Value) (st : St) : inX K J (retK share_scope_find_c.results) share_scope_find_c.body [1, 0, 0, 1] (envT [(0, v0), (3, v3)]) st =
  (.thn st (sEq true (.nilOf .ptr) v0 (.pointer none) st) fun p1 =>
  condX p1.1
  (share_scope_find_j0 J v0 v3 p1.2)
  (share_scope_find_j1 J p1.2)) := by kernel_rfl
theorem share_scope_find_l0_of {K : Ctx} (hF : Fix pgF K) {J : JT (Value × St)} (hJ : IsJ K (retK share_scope_find_c.results) J) {v0 : Value} {v3 : Value} {st : St} {Q : Value × St → Prop} (h : Ok (inX K J (retK share_scope_find_c.results) share_scope_find_c.body [1, 0, 0, 1] (envT [(0, v0), (3, v3)]) st) Q) : Ok (share_scope_find_l0 J v0 v3 st) Q := loop_of hF hJ h
theorem share_scope_find_j0_eq {K : Ctx} {J : JT (Value × St)} (hJ : IsJ K (retK share_scope_find_c.results) J) (v0 : Value) (v3 : Value) (st : St) : share_scope_find_j0 J v0 v3 st =
  (.thn st (sNilc v0 st) fun p1 =>
  .thn p1.2 (sOff 1 p1.1 p1.2) fun p2 =>
  .thn p2.2 (sLoad none p2.1 p2.2) fun p3 =>
  .thn p3.2 (sField (some 5) 0 v3 p3.2) fun p4 =>
  .thn p4.2 (sLook (.struct [(0, .int), (1, .int), (2, .int), (3, .int), (4, .int)]) (.int .i64 0) true p3.1 p4.1 p4.2) fun p5 =>
  .thn p5.2 (sExtract p5.1 0 p5.2) fun p6 =>
  .thn p6.2 (sExtract p5.1 1 p6.2) fun p7 =>
  condX p7.1
  (.ok (.tuple #[p6.1, (.bool true)], p7.2))
  (share_scope_find_j2 J v0 v3 p7.2)) := (go_eq hJ _ _ _ _).trans (by kernel_rfl)
theorem share_scope_find_j1_eq {K : Ctx} {J : JT (Value × St)} (hJ : IsJ K (retK share_scope_find_c.results) J) (st : St) : share_scope_find_j1 J st =
  (.ok (.tuple #[(.int .i64 0), (.bool false)], st)) := (go_eq hJ _ _ _ _).trans (by kernel_rfl)
theorem share_scope_find_j2_eq {K : Ctx} {J : JT (Value × St)} (hJ : IsJ K (retK share_scope_find_c.results) J) (v0 : Value) (v3 : Value) (st : St) : share_scope_find_j2 J v0 v3 st =
  (.thn st (sNilc v0 st) fun p1 =>
  .thn p1.2 (sOff 0 p1.1 p1.2) fun p2 =>
  .thn p2.2 (sLoad none p2.1 p2.2) fun p3 =>
  share_scope_find_l0 J p3.1 v3 p3.2) := (go_eq hJ _ _ _ _).trans (by kernel_rfl)

/-! ### (refinery/dom.Tree).Below -/
open C in
noncomputable def dom_Tree_Below_c : AFun := ⟨2, [.tmp 4],
 (s (.ops [o 2 (.lbox (t 0)), o 4 (.mv (c (.slice none 0 0)))])
 (s (s (.ops [o 5 (.mv (t 1)), o 6 (.bin .lss (t 5) (c (i 0))), o 7 (.mv (t 6)), g 8 false 7 (.mv (t 1)), g 9 false 7 (.lref (t 2)), g 10 false 7 (.field none 1 (t 2)), g 11 false 7 (.len .slice (t 10)), g 12 false 7 (.bin .geq (t 8) (t 11)), o 13 (.pick (t 7) (c (.bool true)) (t 12))])
 (.cond (t 13) (s (.ops [o 4 (.mv (c (.slice none 0 0)))])
 .ret) .skip))
 (s (.keep [1, 2])
 (s (.ops [o 14 (.lref (t 2)), o 15 (.field none 1 (t 2)), o 16 (.mv (t 1)), o 17 (.ixA 1 none (t 15) (t 16)), o 18 (.load none (t 17)), o 19 (.call (f 59) [(t 18)]), o 4 (.mv (t 19))])
 .ret))))⟩
theorem dom_Tree_Below_is : pgF n_dom_Tree_Below = some dom_Tree_Below_c := by kernel_rfl
noncomputable def dom_Tree_Below_j0 (J : JT (Value × St)) (v1 : Value) (v2 : Value) (st : St) : Res (Value × St) := goX J dom_Tree_Below_c.body [1, 1, 1] (envT [(1, v1), (2, v2)]) st
theorem dom_Tree_Below_eq (K : Ctx) (J : JT (Value × St)) (a0 a1 : Value) (st : St) : atX K J dom_Tree_Below_c (AM.start [a0, a1]) st =
  (.thn st (sLbox a0 st) fun p1 =>
  .thn p1.2 (sBin .lss a1 (.int .i64 0) p1.2) fun p2 =>
  .thn p2.2 (sG p2.1 false (.ok (a1, p2.2)) p2.2) fun p3 =>
  .thn p3.2 (sG p2.1 false (sLref p1.1 p3.2) p3.2) fun p4 =>
  .thn p4.2 (sG p2.1 false (sField none 1 p1.1 p4.2) p4.2) fun p5 =>
  .thn p5.2 (sG p2.1 false (sLen .slice p5.1 p5.2) p5.2) fun p6 =>
  .thn p6.2 (sG p2.1 false (sBin .geq p3.1 p6.1 p6.2) p6.2) fun p7 =>
  .thn p7.2 (sPick p2.1 (.bool true) p7.1 p7.2) fun p8 =>
  condX p8.1
  (.ok ((.slice none 0 0), p8.2))
  (dom_Tree_Below_j0 J a1 p1.1 p8.2)) := by kernel_rfl
theorem dom_Tree_Below_of {K : Ctx} (hF : Fix pgF K) {a0 a1 : Value} {st : St} {Q : Value × St → Prop} (h : ∀ J, IsJ K (retK dom_Tree_Below_c.results) J → Ok (atX K J dom_Tree_Below_c (AM.start [a0, a1]) st) Q) : Ok (K.go (.call n_dom_Tree_Below [a0, a1]) st) Q := call_of hF dom_Tree_Below_is rfl h
theorem dom_Tree_Below_j0_eq {K : Ctx} {J : JT (Value × St)} (hJ : IsJ K (retK dom_Tree_Below_c.results) J) (v1 : Value) (v2 : Value) (st : St) : dom_Tree_Below_j0 J v1 v2 st =
  (.thn st (sLref v2 st) fun p1 =>
  .thn p1.2 (sField none 1 v2 p1.2) fun p2 =>
  .thn p2.2 (sIxA 1 none p2.1 v1 p2.2) fun p3 =>
  .thn p3.2 (sLoad none p3.1 p3.2) fun p4 =>
  .thn p4.2 (K.go (.call n_slices_Clone_int [p4.1]) p4.2) fun p5 =>
  .ok (p5.1, p5.2)) := (go_eq hJ _ _ _ _).trans (by kernel_rfl)

/-! ### (refinery/word.Op).Turns -/
open C in
noncomputable def word_Op_Turns_c : AFun := ⟨11, [.tmp 2],
 (s (.ops [o 2 (.mv (c (.bool false)))])
 (s (s (.ops [o 3 (.mv (t 0))])
 (.block 0 (s (s (.ops [o 5 (.bin .eql (t 3) (c (u 0))), o 4 (.mv (t 5))])
 (.cond (t 4) .skip (s (.ops [o 6 (.bin .eql (t 3) (c (u 2))), o 4 (.mv (t 6))])
 (.cond (t 4) .skip (s (.ops [o 7 (.bin .eql (t 3) (c (u 5))), o 4 (.mv (t 7))])
 (.cond (t 4) .skip (s (.ops [o 8 (.bin .eql (t 3) (c (u 6))), o 4 (.mv (t 8))])
 (.cond (t 4) .skip (s (.ops [o 9 (.bin .eql (t 3) (c (u 7))), o 4 (.mv (t 9))])
 (.cond (t 4) .skip (.ops [o 10 (.bin .eql (t 3) (c (u 10))), o 4 (.mv (t 10))])))))))))))
 (s (.keep [4])
 (.cond (t 4) (s (.ops [o 2 (.mv (c (.bool true)))])
 .ret) .skip)))))
 (s (.keep [])
 (s (.ops [o 2 (.mv (c (.bool false)))])
 .ret))))⟩
theorem word_Op_Turns_is : pgF n_word_Op_Turns = some word_Op_Turns_c := by kernel_rfl
noncomputable def word_Op_Turns_j0 (J : JT (Value × St)) (v4 : Value) (st : St) : Res (Value × St) := goX J word_Op_Turns_c.body [1, 0, 1, 0, 1, 1] (envT [(4, v4)]) st
noncomputable def word_Op_Turns_j1 (J : JT (Value × St)) (st : St) : Res (Value × St) := goX J word_Op_Turns_c.body [1, 1, 1] (envT []) st
theorem word_Op_Turns_eq (K : Ctx) (J : JT (Value × St)) (a0 : Value) (st : St) : atX K J word_Op_Turns_c (AM.start [a0]) st =
  (.thn st (sBin .eql a0 (.int .u8 0) st) fun p1 =>
  condX p1.1
  (word_Op_Turns_j0 J p1.1 p1.2)
  (.thn p1.2 (sBin .eql a0 (.int .u8 2) p1.2) fun p2 =>
  condX p2.1
  (word_Op_Turns_j0 J p2.1 p2.2)
  (.thn p2.2 (sBin .eql a0 (.int .u8 5) p2.2) fun p3 =>
  condX p3.1
  (word_Op_Turns_j0 J p3.1 p3.2)
  (.thn p3.2 (sBin .eql a0 (.int .u8 6) p3.2) fun p4 =>
  condX p4.1
  (word_Op_Turns_j0 J p4.1 p4.2)
  (.thn p4.2 (sBin .eql a0 (.int .u8 7) p4.2) fun p5 =>
  condX p5.1
  (word_Op_Turns_j0 J p5.1 p5.2)
  (.thn p5.2 (sBin .eql a0 (.int .u8 10) p5.2) fun p6 =>
  word_Op_Turns_j0 J p6.1 p6.2)))))) := by kernel_rfl
theorem word_Op_Turns_of {K : Ctx} (hF : Fix pgF K) {a0 : Value} {st : St} {Q : Value × St → Prop} (h : ∀ J, IsJ K (retK word_Op_Turns_c.results) J → Ok (atX K J word_Op_Turns_c (AM.start [a0]) st) Q) : Ok (K.go (.call n_word_Op_Turns [a0]) st) Q := call_of hF word_Op_Turns_is rfl h
theorem word_Op_Turns_j0_eq {K : Ctx} {J : JT (Value × St)} (hJ : IsJ K (retK word_Op_Turns_c.results) J) (v4 : Value) (st : St) : word_Op_Turns_j0 J v4 st =
  (condX v4
  (.ok ((.bool true), st))
  (word_Op_Turns_j1 J st)) := (go_eq hJ _ _ _ _).trans (by kernel_rfl)
theorem word_Op_Turns_j1_eq {K : Ctx} {J : JT (Value × St)} (hJ : IsJ K (retK word_Op_Turns_c.results) J) (st : St) : word_Op_Turns_j1 J st =
  (.ok ((.bool false), st)) := (go_eq hJ _ _ _ _).trans (by kernel_rfl)
end Go.Proofs.Ytenfblnmmmppbaa.Sh
