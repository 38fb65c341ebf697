/-
 The functions of the program, operation by operation, as the abstract machine has them.
-/
import Derived.Test.YtdjfndijbnpkpaaDoorProg
import Derived.Test.YtdjfndijbnpkpaaDoorShN
set_option linter.unusedVariables false
set_option maxRecDepth 100000
namespace Go.Proofs.YtdjfndijbnpkpaaDoor.Sh
open Go Go.AM Go.Proofs
noncomputable section
variable {K : Ctx} {J : JT (Value × St)} {st : St} {Q : Value × St → Prop}
open C in
def refinerylaw03_Small_Light_c : AFun := ⟨1, [.tmp 2],
 (s (.ops [o 1 (.lbox (t 0)), o 2 (.mv (c (.bool false)))])
 (s (s (.ops [o 5 (.lref (t 1)), o 6 (.field none 2 (t 1)), o 7 (.len .slice (t 6)), o 8 (.mv (c (i 0)))])
 (.block 0 (s (.keep [1, 6, 7, 8])
 (.loop (s (s (.ops [o 9 (.bin .lss (t 8) (t 7))])
 (s (.cond (t 9) .skip (.exit 0))
 (s (.keep [1, 6, 7, 8])
 (s (.block 1 (s (.ops [o 10 (.ixA 5 none (t 6) (t 8)), o 11 (.load (some 5) (t 10)), o 4 (.lnew [(.slice none 0 0), (u 0), (u 0), (u 0), (u 0)]), o 4 (.upd 5 0 (t 4) (t 11))])
 (s (.ops [o 12 (.lref (t 4)), o 13 (.field none 0 (t 4)), o 14 (.len .slice (t 13)), o 15 (.bin .gtr (t 14) (c (i 10)))])
 (.cond (t 15) (s (.ops [o 2 (.mv (c (.bool false)))])
 .ret) .skip))))
 (s (.keep [1, 6, 7, 8])
 (.ops [o 16 (.bin .add (t 8) (c (i 1))), o 8 (.mv (t 16))]))))))
 (.keep [1, 6, 7, 8]))))))
 (s (.keep [1])
 (s (.ops [o 17 (.lref (t 1)), o 18 (.field none 2 (t 1)), o 19 (.len .slice (t 18)), o 20 (.bin .leq (t 19) (c (i 8))), o 2 (.mv (t 20))])
 .ret))))⟩
theorem refinerylaw03_Small_Light_is : pgF n_refinerylaw03_Small_Light = some refinerylaw03_Small_Light_c := by kernel_rfl
def refinerylaw03_Small_Light_l0 (J : JT (Value × St)) (v1 v6 v7 v8 : Value) (st : St) := lpX J refinerylaw03_Small_Light_c.body [1, 0, 1, 0, 1] (envT [(1, v1), (6, v6), (7, v7), (8, v8)]) st
def refinerylaw03_Small_Light_j0 (J : JT (Value × St)) (v1 v6 v7 v8 : Value) (st : St) := goX J refinerylaw03_Small_Light_c.body [1, 0, 1, 0, 1, 0, 0, 1, 1, 1] (envT [(1, v1), (6, v6), (7, v7), (8, v8)]) st
def refinerylaw03_Small_Light_j1 (J : JT (Value × St)) (v1 : Value) (st : St) := goX J refinerylaw03_Small_Light_c.body [1, 1, 1] (envT [(1, v1)]) st
def refinerylaw03_Small_Light_j2 (J : JT (Value × St)) (v1 v6 v7 v8 : Value) (st : St) := goX J refinerylaw03_Small_Light_c.body [1, 0, 1, 0, 1, 0, 0, 1, 1, 1, 1, 1] (envT [(1, v1), (6, v6), (7, v7), (8, v8)]) st
theorem refinerylaw03_Small_Light_eq (K : Ctx) (J : JT (Value × St)) (a0 : Value) (st : St) : atX K J refinerylaw03_Small_Light_c (AM.start [a0]) st =
 (.thn st (sLbox a0 st) fun p1 =>
 .thn p1.2 (sLref p1.1 p1.2) fun p2 =>
 .thn p2.2 (sField none 2 p1.1 p2.2) fun p3 =>
 .thn p3.2 (sLen .slice p3.1 p3.2) fun p4 =>
 refinerylaw03_Small_Light_l0 J p1.1 p3.1 p4.1 (.int .i64 0) p4.2) := by kernel_rfl
theorem refinerylaw03_Small_Light_of : Of1 n_refinerylaw03_Small_Light refinerylaw03_Small_Light_c := fun hF => call_of hF refinerylaw03_Small_Light_is rfl
theorem refinerylaw03_Small_Light_l0_eq (K : Ctx) (J : JT (Value × St)) (v1 v6 v7 v8 : Value) (st : St) : inX K J (retK refinerylaw03_Small_Light_c.results) refinerylaw03_Small_Light_c.body [1, 0, 1, 0, 1] (envT [(1, v1), (6, v6), (7, v7), (8, v8)]) st =
 (.thn st (sBin .lss v8 v7 st) fun p1 =>
 condX p1.1
 (refinerylaw03_Small_Light_j0 J v1 v6 v7 v8 p1.2)
 (refinerylaw03_Small_Light_j1 J v1 p1.2)) := by kernel_rfl
theorem refinerylaw03_Small_Light_l0_of (hF : Fix pgF K) (hJ : IsJ K (retK refinerylaw03_Small_Light_c.results) J) {v1 v6 v7 v8 : Value} (h : Ok (inX K J (retK refinerylaw03_Small_Light_c.results) refinerylaw03_Small_Light_c.body [1, 0, 1, 0, 1] (envT [(1, v1), (6, v6), (7, v7), (8, v8)]) st) Q) : Ok (refinerylaw03_Small_Light_l0 J v1 v6 v7 v8 st) Q := loop_of hF hJ h
theorem refinerylaw03_Small_Light_j0_eq (hJ : IsJ K (retK refinerylaw03_Small_Light_c.results) J) (v1 v6 v7 v8 : Value) (st : St) : refinerylaw03_Small_Light_j0 J v1 v6 v7 v8 st =
 (.thn st (sIxA 5 none v6 v8 st) fun p1 =>
 .thn p1.2 (sLoad (some 5) p1.1 p1.2) fun p2 =>
 .thn p2.2 (sLnew [(.slice none 0 0), (.int .u8 0), (.int .u8 0), (.int .u8 0), (.int .u8 0)] p2.2) fun p3 =>
 .thn p3.2 (sUpd 5 0 p3.1 p2.1 p3.2) fun p4 =>
 .thn p4.2 (sLref p4.1 p4.2) fun p5 =>
 .thn p5.2 (sField none 0 p4.1 p5.2) fun p6 =>
 .thn p6.2 (sLen .slice p6.1 p6.2) fun p7 =>
 .thn p7.2 (sBin .gtr p7.1 (.int .i64 10) p7.2) fun p8 =>
 condX p8.1
 (.ok ((.bool false), p8.2))
 (refinerylaw03_Small_Light_j2 J v1 v6 v7 v8 p8.2)) := gq hJ (by kernel_rfl)
theorem refinerylaw03_Small_Light_j1_eq (hJ : IsJ K (retK refinerylaw03_Small_Light_c.results) J) (v1 : Value) (st : St) : refinerylaw03_Small_Light_j1 J v1 st =
 (.thn st (sLref v1 st) fun p1 =>
 .thn p1.2 (sField none 2 v1 p1.2) fun p2 =>
 .thn p2.2 (sLen .slice p2.1 p2.2) fun p3 =>
 .thn p3.2 (sBin .leq p3.1 (.int .i64 8) p3.2) fun p4 =>
 .ok (p4.1, p4.2)) := gq hJ (by kernel_rfl)
theorem refinerylaw03_Small_Light_j2_eq (hJ : IsJ K (retK refinerylaw03_Small_Light_c.results) J) (v1 v6 v7 v8 : Value) (st : St) : refinerylaw03_Small_Light_j2 J v1 v6 v7 v8 st =
 (.thn st (sBin .add v8 (.int .i64 1) st) fun p1 =>
 refinerylaw03_Small_Light_l0 J v1 v6 v7 p1.1 p1.2) := gq hJ (by kernel_rfl)
open C in
def refinerylaw05_Tokens_c : AFun := ⟨1, [.tmp 2],
 (s (.ops [o 1 (.lbox (t 0)), o 2 (.mv (c (.slice none 0 0)))])
 (s (.ops [o 3 (.mv (c (.slice none 0 0)))])
 (s (s (.ops [o 8 (.lref (t 1)), o 9 (.field none 0 (t 1)), o 10 (.len .slice (t 9)), o 11 (.mv (c (i 0)))])
 (.block 0 (s (.keep [3, 9, 10, 11])
 (.loop (s (s (.ops [o 12 (.bin .lss (t 11) (t 10))])
 (s (.cond (t 12) .skip (.exit 0))
 (s (.keep [3, 9, 10, 11])
 (s (.block 1 (s (.ops [o 13 (.ixA 7 none (t 9) (t 11)), o 14 (.load (some 7) (t 13)), o 5 (.lnew [(i 0), (.slice none 0 0), (.slice none 0 0), (u 0), (i 0), (i 0), (i 0)]), o 5 (.upd 7 0 (t 5) (t 14))])
 (s (.ops [o 15 (.mv (t 3)), o 16 (.lref (t 5)), o 17 (.field none 0 (t 5)), o 18 (.call (f 20) [(t 17)]), o 19 (.bin .add (c (.string (bstr [64]))) (t 18)), o 20 (.lit 1 3 [(.string (bstr [])), (.string (bstr [])), (.string (bstr []))] [(0, 1, (t 19)), (1, 1, (c (.string (bstr [58])))), (2, 1, (c (.string (bstr [10]))))]), o 21 (.append 1 16 (t 15) (t 20)), o 3 (.mv (t 21))])
 (s (s (.ops [o 22 (.lref (t 5)), o 23 (.field none 2 (t 5)), o 24 (.len .slice (t 23)), o 25 (.mv (c (i 0)))])
 (.block 2 (s (.keep [3, 5, 9, 10, 11, 23, 24, 25])
 (.loop (s (s (.ops [o 26 (.bin .lss (t 25) (t 24))])
 (s (.cond (t 26) .skip (.exit 2))
 (s (.keep [3, 5, 9, 10, 11, 23, 24, 25])
 (s (.block 3 (s (.ops [o 27 (.ixA 7 none (t 23) (t 25)), o 28 (.load (some 7) (t 27)), o 7 (.lnew [(u 0), (u 0), (i 0), (i 0), (i 0), (i 0), (i 0)]), o 7 (.upd 7 0 (t 7) (t 28))])
 (.ops [o 29 (.mv (t 3)), o 30 (.field (some 7) 0 (t 7)), o 31 (.call (f 24) [(t 30)]), o 32 (.append 1 16 (t 29) (t 31)), o 33 (.lit 1 1 [(.string (bstr []))] [(0, 1, (c (.string (bstr [10]))))]), o 34 (.append 1 16 (t 32) (t 33)), o 3 (.mv (t 34))])))
 (s (.keep [3, 5, 9, 10, 11, 23, 24, 25])
 (.ops [o 35 (.bin .add (t 25) (c (i 1))), o 25 (.mv (t 35))]))))))
 (.keep [3, 5, 9, 10, 11, 23, 24, 25]))))))
 (s (.keep [3, 5, 9, 10, 11])
 (.ops [o 36 (.mv (t 3)), o 37 (.lref (t 5)), o 38 (.field (some 4) 3 (t 5)), o 39 (.call (f 25) [(t 38)]), o 40 (.append 1 16 (t 36) (t 39)), o 41 (.lit 1 1 [(.string (bstr []))] [(0, 1, (c (.string (bstr [10]))))]), o 42 (.append 1 16 (t 40) (t 41)), o 3 (.mv (t 42))]))))))
 (s (.keep [3, 9, 10, 11])
 (.ops [o 43 (.bin .add (t 11) (c (i 1))), o 11 (.mv (t 43))]))))))
 (.keep [3, 9, 10, 11]))))))
 (s (.keep [3])
 (s (.ops [o 44 (.mv (t 3)), o 2 (.mv (t 44))])
 .ret)))))⟩
theorem refinerylaw05_Tokens_is : pgF n_refinerylaw05_Tokens = some refinerylaw05_Tokens_c := by kernel_rfl
def refinerylaw05_Tokens_l0 (J : JT (Value × St)) (v3 v9 v10 v11 : Value) (st : St) := lpX J refinerylaw05_Tokens_c.body [1, 1, 0, 1, 0, 1] (envT [(3, v3), (9, v9), (10, v10), (11, v11)]) st
def refinerylaw05_Tokens_j0 (J : JT (Value × St)) (v3 v9 v10 v11 : Value) (st : St) := goX J refinerylaw05_Tokens_c.body [1, 1, 0, 1, 0, 1, 0, 0, 1, 1, 1] (envT [(3, v3), (9, v9), (10, v10), (11, v11)]) st
def refinerylaw05_Tokens_j1 (J : JT (Value × St)) (v3 : Value) (st : St) := goX J refinerylaw05_Tokens_c.body [1, 1, 1, 1] (envT [(3, v3)]) st
def refinerylaw05_Tokens_l1 (J : JT (Value × St)) (v3 v5 v9 v10 v11 v23 v24 v25 : Value) (st : St) := lpX J refinerylaw05_Tokens_c.body [1, 1, 0, 1, 0, 1, 0, 0, 1, 1, 1, 0, 0, 1, 1, 0, 1, 0, 1] (envT [(3, v3), (5, v5), (9, v9), (10, v10), (11, v11), (23, v23), (24, v24), (25, v25)]) st
def refinerylaw05_Tokens_j2 (J : JT (Value × St)) (v3 v5 v9 v10 v11 v23 v24 v25 : Value) (st : St) := goX J refinerylaw05_Tokens_c.body [1, 1, 0, 1, 0, 1, 0, 0, 1, 1, 1, 0, 0, 1, 1, 0, 1, 0, 1, 0, 0, 1, 1, 1] (envT [(3, v3), (5, v5), (9, v9), (10, v10), (11, v11), (23, v23), (24, v24), (25, v25)]) st
def refinerylaw05_Tokens_j3 (J : JT (Value × St)) (v3 v5 v9 v10 v11 : Value) (st : St) := goX J refinerylaw05_Tokens_c.body [1, 1, 0, 1, 0, 1, 0, 0, 1, 1, 1, 0, 0, 1, 1, 1, 1] (envT [(3, v3), (5, v5), (9, v9), (10, v10), (11, v11)]) st
def refinerylaw05_Tokens_j4 (J : JT (Value × St)) (v3 v5 v9 v10 v11 v23 v24 v25 : Value) (st : St) := goX J refinerylaw05_Tokens_c.body [1, 1, 0, 1, 0, 1, 0, 0, 1, 1, 1, 0, 0, 1, 1, 0, 1, 0, 1, 0, 0, 1, 1, 1, 1, 1] (envT [(3, v3), (5, v5), (9, v9), (10, v10), (11, v11), (23, v23), (24, v24), (25, v25)]) st
def refinerylaw05_Tokens_j5 (J : JT (Value × St)) (v3 v9 v10 v11 : Value) (st : St) := goX J refinerylaw05_Tokens_c.body [1, 1, 0, 1, 0, 1, 0, 0, 1, 1, 1, 1, 1] (envT [(3, v3), (9, v9), (10, v10), (11, v11)]) st
theorem refinerylaw05_Tokens_eq (K : Ctx) (J : JT (Value × St)) (a0 : Value) (st : St) : atX K J refinerylaw05_Tokens_c (AM.start [a0]) st =
 (.thn st (sLbox a0 st) fun p1 =>
 .thn p1.2 (sLref p1.1 p1.2) fun p2 =>
 .thn p2.2 (sField none 0 p1.1 p2.2) fun p3 =>
 .thn p3.2 (sLen .slice p3.1 p3.2) fun p4 =>
 refinerylaw05_Tokens_l0 J (.slice none 0 0) p3.1 p4.1 (.int .i64 0) p4.2) := by kernel_rfl
theorem refinerylaw05_Tokens_of : Of1 n_refinerylaw05_Tokens refinerylaw05_Tokens_c := fun hF => call_of hF refinerylaw05_Tokens_is rfl
theorem refinerylaw05_Tokens_l0_eq (K : Ctx) (J : JT (Value × St)) (v3 v9 v10 v11 : Value) (st : St) : inX K J (retK refinerylaw05_Tokens_c.results) refinerylaw05_Tokens_c.body [1, 1, 0, 1, 0, 1] (envT [(3, v3), (9, v9), (10, v10), (11, v11)]) st =
 (.thn st (sBin .lss v11 v10 st) fun p1 =>
 condX p1.1
 (refinerylaw05_Tokens_j0 J v3 v9 v10 v11 p1.2)
 (refinerylaw05_Tokens_j1 J v3 p1.2)) := by kernel_rfl
theorem refinerylaw05_Tokens_l0_of (hF : Fix pgF K) (hJ : IsJ K (retK refinerylaw05_Tokens_c.results) J) {v3 v9 v10 v11 : Value} (h : Ok (inX K J (retK refinerylaw05_Tokens_c.results) refinerylaw05_Tokens_c.body [1, 1, 0, 1, 0, 1] (envT [(3, v3), (9, v9), (10, v10), (11, v11)]) st) Q) : Ok (refinerylaw05_Tokens_l0 J v3 v9 v10 v11 st) Q := loop_of hF hJ h
theorem refinerylaw05_Tokens_j0_eq (hJ : IsJ K (retK refinerylaw05_Tokens_c.results) J) (v3 v9 v10 v11 : Value) (st : St) : refinerylaw05_Tokens_j0 J v3 v9 v10 v11 st =
 (.thn st (sIxA 7 none v9 v11 st) fun p1 =>
 .thn p1.2 (sLoad (some 7) p1.1 p1.2) fun p2 =>
 .thn p2.2 (sLnew [(.int .i64 0), (.slice none 0 0), (.slice none 0 0), (.int .u8 0), (.int .i64 0), (.int .i64 0), (.int .i64 0)] p2.2) fun p3 =>
 .thn p3.2 (sUpd 7 0 p3.1 p2.1 p3.2) fun p4 =>
 .thn p4.2 (sLref p4.1 p4.2) fun p5 =>
 .thn p5.2 (sField none 0 p4.1 p5.2) fun p6 =>
 .thn p6.2 (K.go (.call n_refinerylaw05_number [p6.1]) p6.2) fun p7 =>
 .thn p7.2 (sBin .add (.string (bstr [64])) p7.1 p7.2) fun p8 =>
 .thn p8.2 (sLit 1 3 [(.string (bstr [])), (.string (bstr [])), (.string (bstr []))] [(0, 1, p8.1), (1, 1, (.string (bstr [58]))), (2, 1, (.string (bstr [10])))] p8.2) fun p9 =>
 .thn p9.2 (sAppend 1 16 v3 p9.1 p9.2) fun p10 =>
 .thn p10.2 (sLref p4.1 p10.2) fun p11 =>
 .thn p11.2 (sField none 2 p4.1 p11.2) fun p12 =>
 .thn p12.2 (sLen .slice p12.1 p12.2) fun p13 =>
 refinerylaw05_Tokens_l1 J p10.1 p4.1 v9 v10 v11 p12.1 p13.1 (.int .i64 0) p13.2) := gq hJ (by kernel_rfl)
theorem refinerylaw05_Tokens_j1_eq (hJ : IsJ K (retK refinerylaw05_Tokens_c.results) J) (v3 : Value) (st : St) : refinerylaw05_Tokens_j1 J v3 st =
 (.ok (v3, st)) := gq hJ (by kernel_rfl)
theorem refinerylaw05_Tokens_l1_eq (K : Ctx) (J : JT (Value × St)) (v3 v5 v9 v10 v11 v23 v24 v25 : Value) (st : St) : inX K J (retK refinerylaw05_Tokens_c.results) refinerylaw05_Tokens_c.body [1, 1, 0, 1, 0, 1, 0, 0, 1, 1, 1, 0, 0, 1, 1, 0, 1, 0, 1] (envT [(3, v3), (5, v5), (9, v9), (10, v10), (11, v11), (23, v23), (24, v24), (25, v25)]) st =
 (.thn st (sBin .lss v25 v24 st) fun p1 =>
 condX p1.1
 (refinerylaw05_Tokens_j2 J v3 v5 v9 v10 v11 v23 v24 v25 p1.2)
 (refinerylaw05_Tokens_j3 J v3 v5 v9 v10 v11 p1.2)) := by kernel_rfl
theorem refinerylaw05_Tokens_l1_of (hF : Fix pgF K) (hJ : IsJ K (retK refinerylaw05_Tokens_c.results) J) {v3 v5 v9 v10 v11 v23 v24 v25 : Value} (h : Ok (inX K J (retK refinerylaw05_Tokens_c.results) refinerylaw05_Tokens_c.body [1, 1, 0, 1, 0, 1, 0, 0, 1, 1, 1, 0, 0, 1, 1, 0, 1, 0, 1] (envT [(3, v3), (5, v5), (9, v9), (10, v10), (11, v11), (23, v23), (24, v24), (25, v25)]) st) Q) : Ok (refinerylaw05_Tokens_l1 J v3 v5 v9 v10 v11 v23 v24 v25 st) Q := loop_of hF hJ h
theorem refinerylaw05_Tokens_j2_eq (hJ : IsJ K (retK refinerylaw05_Tokens_c.results) J) (v3 v5 v9 v10 v11 v23 v24 v25 : Value) (st : St) : refinerylaw05_Tokens_j2 J v3 v5 v9 v10 v11 v23 v24 v25 st =
 (.thn st (sIxA 7 none v23 v25 st) fun p1 =>
 .thn p1.2 (sLoad (some 7) p1.1 p1.2) fun p2 =>
 .thn p2.2 (sLnew [(.int .u8 0), (.int .u8 0), (.int .i64 0), (.int .i64 0), (.int .i64 0), (.int .i64 0), (.int .i64 0)] p2.2) fun p3 =>
 .thn p3.2 (sUpd 7 0 p3.1 p2.1 p3.2) fun p4 =>
 .thn p4.2 (sField (some 7) 0 p4.1 p4.2) fun p5 =>
 .thn p5.2 (K.go (.call n_refinerylaw05_Instr [p5.1]) p5.2) fun p6 =>
 .thn p6.2 (sAppend 1 16 v3 p6.1 p6.2) fun p7 =>
 .thn p7.2 (sLit 1 1 [(.string (bstr []))] [(0, 1, (.string (bstr [10])))] p7.2) fun p8 =>
 .thn p8.2 (sAppend 1 16 p7.1 p8.1 p8.2) fun p9 =>
 refinerylaw05_Tokens_j4 J p9.1 v5 v9 v10 v11 v23 v24 v25 p9.2) := gq hJ (by kernel_rfl)
theorem refinerylaw05_Tokens_j3_eq (hJ : IsJ K (retK refinerylaw05_Tokens_c.results) J) (v3 v5 v9 v10 v11 : Value) (st : St) : refinerylaw05_Tokens_j3 J v3 v5 v9 v10 v11 st =
 (.thn st (sLref v5 st) fun p1 =>
 .thn p1.2 (sField (some 4) 3 v5 p1.2) fun p2 =>
 .thn p2.2 (K.go (.call n_refinerylaw05_Last [p2.1]) p2.2) fun p3 =>
 .thn p3.2 (sAppend 1 16 v3 p3.1 p3.2) fun p4 =>
 .thn p4.2 (sLit 1 1 [(.string (bstr []))] [(0, 1, (.string (bstr [10])))] p4.2) fun p5 =>
 .thn p5.2 (sAppend 1 16 p4.1 p5.1 p5.2) fun p6 =>
 refinerylaw05_Tokens_j5 J p6.1 v9 v10 v11 p6.2) := gq hJ (by kernel_rfl)
theorem refinerylaw05_Tokens_j4_eq (hJ : IsJ K (retK refinerylaw05_Tokens_c.results) J) (v3 v5 v9 v10 v11 v23 v24 v25 : Value) (st : St) : refinerylaw05_Tokens_j4 J v3 v5 v9 v10 v11 v23 v24 v25 st =
 (.thn st (sBin .add v25 (.int .i64 1) st) fun p1 =>
 refinerylaw05_Tokens_l1 J v3 v5 v9 v10 v11 v23 v24 p1.1 p1.2) := gq hJ (by kernel_rfl)
theorem refinerylaw05_Tokens_j5_eq (hJ : IsJ K (retK refinerylaw05_Tokens_c.results) J) (v3 v9 v10 v11 : Value) (st : St) : refinerylaw05_Tokens_j5 J v3 v9 v10 v11 st =
 (.thn st (sBin .add v11 (.int .i64 1) st) fun p1 =>
 refinerylaw05_Tokens_l0 J v3 v9 v10 p1.1 p1.2) := gq hJ (by kernel_rfl)
open C in
def refinerylaw03_Small_Program_c : AFun := ⟨1, [.part 2 (some 1)],
 (s (.ops [o 1 (.lbox (t 0)), o 2 (.lnew [(.slice none 0 0)])])
 (s (.draw [d 0 0 false (o 11 (.lref (t 1))), d 1 0 false (o 12 (.field none 0 (t 1))), d 2 0 false (o 13 (.bin .rem (t 12) (c (u 6)))), d 3 0 false (o 14 (.conv (.int .i64) (t 13))), d 4 0 false (o 15 (.bin .add (c (i 1)) (t 14))), d 5 0 false (o 16 (.lref (t 1))), d 6 0 false (o 17 (.field none 2 (t 1))), d 7 0 false (o 18 (.len .slice (t 17))), d 8 0 false (o 19 (.minmax true (t 18) [(c (i 1))])), d 9 0 false (o 3 (.mv (t 15))), d 10 0 false (o 4 (.mv (t 19)))])
 (s (.ops [o 5 (.lnew [(.slice none 0 0)])])
 (s (s (.ops [o 20 (.mv (t 4)), o 21 (.mv (c (i 0)))])
 (.block 0 (s (.keep [1, 2, 3, 4, 5, 20, 21])
 (.loop (s (s (.ops [o 22 (.bin .lss (t 21) (t 20))])
 (s (.cond (t 22) .skip (.exit 0))
 (s (.keep [1, 2, 3, 4, 5, 20, 21])
 (s (.block 1 (s (.ops [o 23 (.mv (t 21)), o 6 (.mv (t 23))])
 (s (.ops [o 24 (.mv (t 6)), o 25 (.call (f 26) [(t 24)]), o 26 (.build [(u 0), (i 0), (i 0), (i 0)] [(0, 1, (c (u 2)))]), o 27 (.build [(i 0), (.slice none 0 0), (.slice none 0 0), (u 0), (i 0), (i 0), (i 0)] [(0, 1, (t 25)), (3, 4, (t 26))]), o 7 (.lnew [(i 0), (.slice none 0 0), (.slice none 0 0), (u 0), (i 0), (i 0), (i 0)]), o 7 (.upd 7 0 (t 7) (t 27))])
 (s (s (.ops [o 28 (.mv (t 6)), o 29 (.bin .eql (t 28) (c (i 0))), o 30 (.mv (t 29)), g 31 true 30 (.lref (t 1)), g 32 true 30 (.field none 1 (t 1)), g 33 true 30 (.un .not (t 32)), o 34 (.pick (t 30) (t 33) (c (.bool false)))])
 (.cond (t 34) (s (.ops [o 35 (.mv (t 3)), o 36 (.mv (c (i 0)))])
 (.block 2 (s (.keep [1, 2, 3, 4, 5, 6, 7, 20, 21, 35, 36])
 (.loop (s (s (.ops [o 37 (.bin .lss (t 36) (t 35))])
 (s (.cond (t 37) .skip (.exit 2))
 (s (.keep [1, 2, 3, 4, 5, 6, 7, 20, 21, 35, 36])
 (s (.block 3 (s (.ops [o 38 (.mv (t 36)), o 8 (.mv (t 38))])
 (.ops [o 39 (.lref (t 7)), o 40 (.field none 2 (t 7)), o 41 (.mv (t 8)), o 42 (.mv (t 8)), o 43 (.mv (t 8)), o 44 (.bin .mul (t 42) (t 43)), o 45 (.build [(u 0), (u 0), (i 0), (i 0), (i 0), (i 0), (i 0)] [(2, 1, (t 41)), (5, 1, (t 44))]), o 46 (.lit 7 1 [(u 0), (u 0), (i 0), (i 0), (i 0), (i 0), (i 0)] [(0, 7, (t 45))]), o 47 (.append 7 48 (t 40) (t 46)), o 48 (.lref (t 7)), o 7 (.upd 1 2 (t 7) (t 47))])))
 (s (.keep [1, 2, 3, 4, 5, 6, 7, 20, 21, 35, 36])
 (.ops [o 49 (.bin .add (t 36) (c (i 1))), o 36 (.mv (t 49))]))))))
 (.keep [1, 2, 3, 4, 5, 6, 7, 20, 21, 35, 36])))))) .skip))
 (s (.keep [1, 2, 3, 4, 5, 6, 7, 20, 21])
 (s (s (.ops [o 50 (.mv (t 6)), o 51 (.lref (t 1)), o 52 (.field none 2 (t 1)), o 53 (.len .slice (t 52)), o 54 (.bin .lss (t 50) (t 53))])
 (.cond (t 54) (s (s (.ops [o 55 (.lref (t 1)), o 56 (.field none 2 (t 1)), o 57 (.mv (t 6)), o 58 (.ixA 5 none (t 56) (t 57)), o 59 (.off 0 (t 58)), o 60 (.load none (t 59)), o 61 (.len .slice (t 60)), o 62 (.mv (c (i 0)))])
 (.block 4 (s (.keep [1, 2, 3, 4, 5, 6, 7, 20, 21, 60, 61, 62])
 (.loop (s (s (.ops [o 63 (.bin .lss (t 62) (t 61))])
 (s (.cond (t 63) .skip (.exit 4))
 (s (.keep [1, 2, 3, 4, 5, 6, 7, 20, 21, 60, 61, 62])
 (s (.block 5 (s (.ops [o 64 (.ixA 7 none (t 60) (t 62)), o 65 (.load (some 7) (t 64)), o 10 (.lnew [(u 0), (u 0), (u 0), (u 0), (u 0), (u 0), (.int .i16 0)]), o 10 (.upd 7 0 (t 10) (t 65))])
 (.draw [d 2 0 false (o 68 (.field (some 7) 0 (t 10))), d 3 0 false (o 69 (.mv (t 3))), d 4 0 true (o 70 (.call (f 17) [(t 68), (t 69)])), d 0 0 false (o 66 (.lref (t 7))), d 1 1 false (o 67 (.field none 2 (t 7))), d 5 0 false (o 71 (.lit 7 1 [(u 0), (u 0), (i 0), (i 0), (i 0), (i 0), (i 0)] [(0, 7, (t 70))])), d 6 0 true (o 72 (.append 7 48 (t 67) (t 71))), d 7 0 false (o 73 (.lref (t 7))), d 8 0 true (o 7 (.upd 1 2 (t 7) (t 72)))])))
 (s (.keep [1, 2, 3, 4, 5, 6, 7, 20, 21, 60, 61, 62])
 (.ops [o 74 (.bin .add (t 62) (c (i 1))), o 62 (.mv (t 74))]))))))
 (.keep [1, 2, 3, 4, 5, 6, 7, 20, 21, 60, 61, 62]))))))
 (s (.keep [1, 2, 3, 4, 5, 6, 7, 20, 21])
 (.ops [o 75 (.lref (t 1)), o 76 (.field none 2 (t 1)), o 77 (.mv (t 6)), o 78 (.ixA 5 none (t 76) (t 77)), o 79 (.load (some 5) (t 78)), o 80 (.mv (t 3)), o 81 (.mv (t 4)), o 82 (.call (f 27) [(t 79), (t 80), (t 81)]), o 83 (.lref (t 7)), o 7 (.upd 4 3 (t 7) (t 82))]))) (s (.ops [o 84 (.lref (t 1)), o 85 (.field none 1 (t 1))])
 (.cond (t 85) (.ops [o 86 (.build [(u 0), (i 0), (i 0), (i 0)] [(0, 1, (c (u 3)))]), o 87 (.lref (t 7)), o 7 (.upd 4 3 (t 7) (t 86))]) .skip))))
 (s (.keep [1, 2, 3, 4, 5, 7, 20, 21])
 (.ops [o 88 (.lref (t 5)), o 89 (.field none 0 (t 5)), o 90 (.field (some 7) 0 (t 7)), o 91 (.lit 7 1 [(i 0), (.slice none 0 0), (.slice none 0 0), (u 0), (i 0), (i 0), (i 0)] [(0, 7, (t 90))]), o 92 (.append 7 88 (t 89) (t 91)), o 93 (.lref (t 5)), o 5 (.upd 1 0 (t 5) (t 92))]))))))))
 (s (.keep [1, 2, 3, 4, 5, 20, 21])
 (.ops [o 94 (.bin .add (t 21) (c (i 1))), o 21 (.mv (t 94))]))))))
 (.keep [1, 2, 3, 4, 5, 20, 21]))))))
 (s (.keep [2, 5])
 (s (.ops [o 95 (.field (some 1) 0 (t 5)), o 2 (.upd 1 0 (t 2) (t 95))])
 .ret))))))⟩
theorem refinerylaw03_Small_Program_is : pgF n_refinerylaw03_Small_Program = some refinerylaw03_Small_Program_c := by kernel_rfl
def refinerylaw03_Small_Program_l0 (J : JT (Value × St)) (v1 v2 v3 v4 v5 v20 v21 : Value) (st : St) := lpX J refinerylaw03_Small_Program_c.body [1, 1, 1, 0, 1, 0, 1] (envT [(1, v1), (2, v2), (3, v3), (4, v4), (5, v5), (20, v20), (21, v21)]) st
def refinerylaw03_Small_Program_j0 (J : JT (Value × St)) (v1 v2 v3 v4 v5 v20 v21 : Value) (st : St) := goX J refinerylaw03_Small_Program_c.body [1, 1, 1, 0, 1, 0, 1, 0, 0, 1, 1, 1] (envT [(1, v1), (2, v2), (3, v3), (4, v4), (5, v5), (20, v20), (21, v21)]) st
def refinerylaw03_Small_Program_j1 (J : JT (Value × St)) (v2 v5 : Value) (st : St) := goX J refinerylaw03_Small_Program_c.body [1, 1, 1, 1, 1] (envT [(2, v2), (5, v5)]) st
def refinerylaw03_Small_Program_l1 (J : JT (Value × St)) (v1 v2 v3 v4 v5 v6 v7 v20 v21 v35 v36 : Value) (st : St) := lpX J refinerylaw03_Small_Program_c.body [1, 1, 1, 0, 1, 0, 1, 0, 0, 1, 1, 1, 0, 0, 1, 1, 0, 1, 0, 1, 0, 1] (envT [(1, v1), (2, v2), (3, v3), (4, v4), (5, v5), (6, v6), (7, v7), (20, v20), (21, v21), (35, v35), (36, v36)]) st
def refinerylaw03_Small_Program_j2 (J : JT (Value × St)) (v1 v2 v3 v4 v5 v6 v7 v20 v21 : Value) (st : St) := goX J refinerylaw03_Small_Program_c.body [1, 1, 1, 0, 1, 0, 1, 0, 0, 1, 1, 1, 0, 0, 1, 1, 1, 1] (envT [(1, v1), (2, v2), (3, v3), (4, v4), (5, v5), (6, v6), (7, v7), (20, v20), (21, v21)]) st
def refinerylaw03_Small_Program_j3 (J : JT (Value × St)) (v1 v2 v3 v4 v5 v6 v7 v20 v21 v35 v36 : Value) (st : St) := goX J refinerylaw03_Small_Program_c.body [1, 1, 1, 0, 1, 0, 1, 0, 0, 1, 1, 1, 0, 0, 1, 1, 0, 1, 0, 1, 0, 1, 0, 0, 1, 1, 1] (envT [(1, v1), (2, v2), (3, v3), (4, v4), (5, v5), (6, v6), (7, v7), (20, v20), (21, v21), (35, v35), (36, v36)]) st
def refinerylaw03_Small_Program_l2 (J : JT (Value × St)) (v1 v2 v3 v4 v5 v6 v7 v20 v21 v60 v61 v62 : Value) (st : St) := lpX J refinerylaw03_Small_Program_c.body [1, 1, 1, 0, 1, 0, 1, 0, 0, 1, 1, 1, 0, 0, 1, 1, 1, 1, 0, 1, 0, 0, 1, 0, 1] (envT [(1, v1), (2, v2), (3, v3), (4, v4), (5, v5), (6, v6), (7, v7), (20, v20), (21, v21), (60, v60), (61, v61), (62, v62)]) st
def refinerylaw03_Small_Program_j4 (J : JT (Value × St)) (v1 v2 v3 v4 v5 v7 v20 v21 : Value) (st : St) := goX J refinerylaw03_Small_Program_c.body [1, 1, 1, 0, 1, 0, 1, 0, 0, 1, 1, 1, 0, 0, 1, 1, 1, 1, 1, 1] (envT [(1, v1), (2, v2), (3, v3), (4, v4), (5, v5), (7, v7), (20, v20), (21, v21)]) st
def refinerylaw03_Small_Program_j5 (J : JT (Value × St)) (v1 v2 v3 v4 v5 v6 v7 v20 v21 v35 v36 : Value) (st : St) := goX J refinerylaw03_Small_Program_c.body [1, 1, 1, 0, 1, 0, 1, 0, 0, 1, 1, 1, 0, 0, 1, 1, 0, 1, 0, 1, 0, 1, 0, 0, 1, 1, 1, 1, 1] (envT [(1, v1), (2, v2), (3, v3), (4, v4), (5, v5), (6, v6), (7, v7), (20, v20), (21, v21), (35, v35), (36, v36)]) st
def refinerylaw03_Small_Program_j6 (J : JT (Value × St)) (v1 v2 v3 v4 v5 v6 v7 v20 v21 v60 v61 v62 : Value) (st : St) := goX J refinerylaw03_Small_Program_c.body [1, 1, 1, 0, 1, 0, 1, 0, 0, 1, 1, 1, 0, 0, 1, 1, 1, 1, 0, 1, 0, 0, 1, 0, 1, 0, 0, 1, 1, 1] (envT [(1, v1), (2, v2), (3, v3), (4, v4), (5, v5), (6, v6), (7, v7), (20, v20), (21, v21), (60, v60), (61, v61), (62, v62)]) st
def refinerylaw03_Small_Program_j7 (J : JT (Value × St)) (v1 v2 v3 v4 v5 v6 v7 v20 v21 : Value) (st : St) := goX J refinerylaw03_Small_Program_c.body [1, 1, 1, 0, 1, 0, 1, 0, 0, 1, 1, 1, 0, 0, 1, 1, 1, 1, 0, 1, 0, 1, 1] (envT [(1, v1), (2, v2), (3, v3), (4, v4), (5, v5), (6, v6), (7, v7), (20, v20), (21, v21)]) st
def refinerylaw03_Small_Program_j8 (J : JT (Value × St)) (v1 v2 v3 v4 v5 v20 v21 : Value) (st : St) := goX J refinerylaw03_Small_Program_c.body [1, 1, 1, 0, 1, 0, 1, 0, 0, 1, 1, 1, 1, 1] (envT [(1, v1), (2, v2), (3, v3), (4, v4), (5, v5), (20, v20), (21, v21)]) st
def refinerylaw03_Small_Program_j9 (J : JT (Value × St)) (v1 v2 v3 v4 v5 v6 v7 v20 v21 v60 v61 v62 : Value) (st : St) := goX J refinerylaw03_Small_Program_c.body [1, 1, 1, 0, 1, 0, 1, 0, 0, 1, 1, 1, 0, 0, 1, 1, 1, 1, 0, 1, 0, 0, 1, 0, 1, 0, 0, 1, 1, 1, 1, 1] (envT [(1, v1), (2, v2), (3, v3), (4, v4), (5, v5), (6, v6), (7, v7), (20, v20), (21, v21), (60, v60), (61, v61), (62, v62)]) st
theorem refinerylaw03_Small_Program_eq (K : Ctx) (J : JT (Value × St)) (a0 : Value) (st : St) : atX K J refinerylaw03_Small_Program_c (AM.start [a0]) st =
 (.thn st (sLbox a0 st) fun p1 =>
 .thn p1.2 (sLnew [(.slice none 0 0)] p1.2) fun p2 =>
 .thn p2.2 (sLref p1.1 p2.2) fun p3 =>
 .thn p3.2 (sField none 0 p1.1 p3.2) fun p4 =>
 .thn p4.2 (sBin .rem p4.1 (.int .u8 6) p4.2) fun p5 =>
 .thn p5.2 (sConv (.int .i64) p5.1 p5.2) fun p6 =>
 .thn p6.2 (sBin .add (.int .i64 1) p6.1 p6.2) fun p7 =>
 .thn p7.2 (sLref p1.1 p7.2) fun p8 =>
 .thn p8.2 (sField none 2 p1.1 p8.2) fun p9 =>
 .thn p9.2 (sLen .slice p9.1 p9.2) fun p10 =>
 .thn p10.2 (sMinmax true p10.1 [(.int .i64 1)] p10.2) fun p11 =>
 .thn p11.2 (sLnew [(.slice none 0 0)] p11.2) fun p12 =>
 refinerylaw03_Small_Program_l0 J p1.1 p2.1 p7.1 p11.1 p12.1 p11.1 (.int .i64 0) p12.2) := by kernel_rfl
theorem refinerylaw03_Small_Program_of : Of1 n_refinerylaw03_Small_Program refinerylaw03_Small_Program_c := fun hF => call_of hF refinerylaw03_Small_Program_is rfl
theorem refinerylaw03_Small_Program_l0_eq (K : Ctx) (J : JT (Value × St)) (v1 v2 v3 v4 v5 v20 v21 : Value) (st : St) : inX K J (retK refinerylaw03_Small_Program_c.results) refinerylaw03_Small_Program_c.body [1, 1, 1, 0, 1, 0, 1] (envT [(1, v1), (2, v2), (3, v3), (4, v4), (5, v5), (20, v20), (21, v21)]) st =
 (.thn st (sBin .lss v21 v20 st) fun p1 =>
 condX p1.1
 (refinerylaw03_Small_Program_j0 J v1 v2 v3 v4 v5 v20 v21 p1.2)
 (refinerylaw03_Small_Program_j1 J v2 v5 p1.2)) := by kernel_rfl
theorem refinerylaw03_Small_Program_l0_of (hF : Fix pgF K) (hJ : IsJ K (retK refinerylaw03_Small_Program_c.results) J) {v1 v2 v3 v4 v5 v20 v21 : Value} (h : Ok (inX K J (retK refinerylaw03_Small_Program_c.results) refinerylaw03_Small_Program_c.body [1, 1, 1, 0, 1, 0, 1] (envT [(1, v1), (2, v2), (3, v3), (4, v4), (5, v5), (20, v20), (21, v21)]) st) Q) : Ok (refinerylaw03_Small_Program_l0 J v1 v2 v3 v4 v5 v20 v21 st) Q := loop_of hF hJ h
theorem refinerylaw03_Small_Program_j0_eq (hJ : IsJ K (retK refinerylaw03_Small_Program_c.results) J) (v1 v2 v3 v4 v5 v20 v21 : Value) (st : St) : refinerylaw03_Small_Program_j0 J v1 v2 v3 v4 v5 v20 v21 st =
 (.thn st (K.go (.call n_refinerylaw03_Label [v21]) st) fun p1 =>
 .thn p1.2 (sBuild [(.int .u8 0), (.int .i64 0), (.int .i64 0), (.int .i64 0)] [(0, 1, (.int .u8 2))] p1.2) fun p2 =>
 .thn p2.2 (sBuild [(.int .i64 0), (.slice none 0 0), (.slice none 0 0), (.int .u8 0), (.int .i64 0), (.int .i64 0), (.int .i64 0)] [(0, 1, p1.1), (3, 4, p2.1)] p2.2) fun p3 =>
 .thn p3.2 (sLnew [(.int .i64 0), (.slice none 0 0), (.slice none 0 0), (.int .u8 0), (.int .i64 0), (.int .i64 0), (.int .i64 0)] p3.2) fun p4 =>
 .thn p4.2 (sUpd 7 0 p4.1 p3.1 p4.2) fun p5 =>
 .thn p5.2 (sBin .eql v21 (.int .i64 0) p5.2) fun p6 =>
 .thn p6.2 (sG p6.1 true (sLref v1 p6.2) p6.2) fun p7 =>
 .thn p7.2 (sG p6.1 true (sField none 1 v1 p7.2) p7.2) fun p8 =>
 .thn p8.2 (sG p6.1 true (sUn .not p8.1 p8.2) p8.2) fun p9 =>
 .thn p9.2 (sPick p6.1 p9.1 (.bool false) p9.2) fun p10 =>
 condX p10.1
 (refinerylaw03_Small_Program_l1 J v1 v2 v3 v4 v5 v21 p5.1 v20 v21 v3 (.int .i64 0) p10.2)
 (refinerylaw03_Small_Program_j2 J v1 v2 v3 v4 v5 v21 p5.1 v20 v21 p10.2)) := gq hJ (by kernel_rfl)
theorem refinerylaw03_Small_Program_j1_eq (hJ : IsJ K (retK refinerylaw03_Small_Program_c.results) J) (v2 v5 : Value) (st : St) : refinerylaw03_Small_Program_j1 J v2 v5 st =
 (.thn st (sField (some 1) 0 v5 st) fun p1 =>
 .thn p1.2 (sUpd 1 0 v2 p1.1 p1.2) fun p2 =>
 (sField (some 1) 0 p2.1 p2.2 >>= fun p3 => .ok [p3.1]) >>= fun vs => .ok (oneOf vs, p2.2)) := gq hJ (by kernel_rfl)
theorem refinerylaw03_Small_Program_l1_eq (K : Ctx) (J : JT (Value × St)) (v1 v2 v3 v4 v5 v6 v7 v20 v21 v35 v36 : Value) (st : St) : inX K J (retK refinerylaw03_Small_Program_c.results) refinerylaw03_Small_Program_c.body [1, 1, 1, 0, 1, 0, 1, 0, 0, 1, 1, 1, 0, 0, 1, 1, 0, 1, 0, 1, 0, 1] (envT [(1, v1), (2, v2), (3, v3), (4, v4), (5, v5), (6, v6), (7, v7), (20, v20), (21, v21), (35, v35), (36, v36)]) st =
 (.thn st (sBin .lss v36 v35 st) fun p1 =>
 condX p1.1
 (refinerylaw03_Small_Program_j3 J v1 v2 v3 v4 v5 v6 v7 v20 v21 v35 v36 p1.2)
 (refinerylaw03_Small_Program_j2 J v1 v2 v3 v4 v5 v6 v7 v20 v21 p1.2)) := by kernel_rfl
theorem refinerylaw03_Small_Program_l1_of (hF : Fix pgF K) (hJ : IsJ K (retK refinerylaw03_Small_Program_c.results) J) {v1 v2 v3 v4 v5 v6 v7 v20 v21 v35 v36 : Value} (h : Ok (inX K J (retK refinerylaw03_Small_Program_c.results) refinerylaw03_Small_Program_c.body [1, 1, 1, 0, 1, 0, 1, 0, 0, 1, 1, 1, 0, 0, 1, 1, 0, 1, 0, 1, 0, 1] (envT [(1, v1), (2, v2), (3, v3), (4, v4), (5, v5), (6, v6), (7, v7), (20, v20), (21, v21), (35, v35), (36, v36)]) st) Q) : Ok (refinerylaw03_Small_Program_l1 J v1 v2 v3 v4 v5 v6 v7 v20 v21 v35 v36 st) Q := loop_of hF hJ h
theorem refinerylaw03_Small_Program_j2_eq (hJ : IsJ K (retK refinerylaw03_Small_Program_c.results) J) (v1 v2 v3 v4 v5 v6 v7 v20 v21 : Value) (st : St) : refinerylaw03_Small_Program_j2 J v1 v2 v3 v4 v5 v6 v7 v20 v21 st =
 (.thn st (sLref v1 st) fun p1 =>
 .thn p1.2 (sField none 2 v1 p1.2) fun p2 =>
 .thn p2.2 (sLen .slice p2.1 p2.2) fun p3 =>
 .thn p3.2 (sBin .lss v6 p3.1 p3.2) fun p4 =>
 condX p4.1
 (.thn p4.2 (sLref v1 p4.2) fun p5 =>
 .thn p5.2 (sField none 2 v1 p5.2) fun p6 =>
 .thn p6.2 (sIxA 5 none p6.1 v6 p6.2) fun p7 =>
 .thn p7.2 (sOff 0 p7.1 p7.2) fun p8 =>
 .thn p8.2 (sLoad none p8.1 p8.2) fun p9 =>
 .thn p9.2 (sLen .slice p9.1 p9.2) fun p10 =>
 refinerylaw03_Small_Program_l2 J v1 v2 v3 v4 v5 v6 v7 v20 v21 p9.1 p10.1 (.int .i64 0) p10.2)
 (.thn p4.2 (sLref v1 p4.2) fun p11 =>
 .thn p11.2 (sField none 1 v1 p11.2) fun p12 =>
 condX p12.1
 (.thn p12.2 (sBuild [(.int .u8 0), (.int .i64 0), (.int .i64 0), (.int .i64 0)] [(0, 1, (.int .u8 3))] p12.2) fun p13 =>
 .thn p13.2 (sLref v7 p13.2) fun p14 =>
 .thn p14.2 (sUpd 4 3 v7 p13.1 p14.2) fun p15 =>
 refinerylaw03_Small_Program_j4 J v1 v2 v3 v4 v5 p15.1 v20 v21 p15.2)
 (refinerylaw03_Small_Program_j4 J v1 v2 v3 v4 v5 v7 v20 v21 p12.2))) := gq hJ (by kernel_rfl)
theorem refinerylaw03_Small_Program_j3_eq (hJ : IsJ K (retK refinerylaw03_Small_Program_c.results) J) (v1 v2 v3 v4 v5 v6 v7 v20 v21 v35 v36 : Value) (st : St) : refinerylaw03_Small_Program_j3 J v1 v2 v3 v4 v5 v6 v7 v20 v21 v35 v36 st =
 (.thn st (sLref v7 st) fun p1 =>
 .thn p1.2 (sField none 2 v7 p1.2) fun p2 =>
 .thn p2.2 (sBin .mul v36 v36 p2.2) fun p3 =>
 .thn p3.2 (sBuild [(.int .u8 0), (.int .u8 0), (.int .i64 0), (.int .i64 0), (.int .i64 0), (.int .i64 0), (.int .i64 0)] [(2, 1, v36), (5, 1, p3.1)] p3.2) fun p4 =>
 .thn p4.2 (sLit 7 1 [(.int .u8 0), (.int .u8 0), (.int .i64 0), (.int .i64 0), (.int .i64 0), (.int .i64 0), (.int .i64 0)] [(0, 7, p4.1)] p4.2) fun p5 =>
 .thn p5.2 (sAppend 7 48 p2.1 p5.1 p5.2) fun p6 =>
 .thn p6.2 (sLref v7 p6.2) fun p7 =>
 .thn p7.2 (sUpd 1 2 v7 p6.1 p7.2) fun p8 =>
 refinerylaw03_Small_Program_j5 J v1 v2 v3 v4 v5 v6 p8.1 v20 v21 v35 v36 p8.2) := gq hJ (by kernel_rfl)
theorem refinerylaw03_Small_Program_l2_eq (K : Ctx) (J : JT (Value × St)) (v1 v2 v3 v4 v5 v6 v7 v20 v21 v60 v61 v62 : Value) (st : St) : inX K J (retK refinerylaw03_Small_Program_c.results) refinerylaw03_Small_Program_c.body [1, 1, 1, 0, 1, 0, 1, 0, 0, 1, 1, 1, 0, 0, 1, 1, 1, 1, 0, 1, 0, 0, 1, 0, 1] (envT [(1, v1), (2, v2), (3, v3), (4, v4), (5, v5), (6, v6), (7, v7), (20, v20), (21, v21), (60, v60), (61, v61), (62, v62)]) st =
 (.thn st (sBin .lss v62 v61 st) fun p1 =>
 condX p1.1
 (refinerylaw03_Small_Program_j6 J v1 v2 v3 v4 v5 v6 v7 v20 v21 v60 v61 v62 p1.2)
 (refinerylaw03_Small_Program_j7 J v1 v2 v3 v4 v5 v6 v7 v20 v21 p1.2)) := by kernel_rfl
theorem refinerylaw03_Small_Program_l2_of (hF : Fix pgF K) (hJ : IsJ K (retK refinerylaw03_Small_Program_c.results) J) {v1 v2 v3 v4 v5 v6 v7 v20 v21 v60 v61 v62 : Value} (h : Ok (inX K J (retK refinerylaw03_Small_Program_c.results) refinerylaw03_Small_Program_c.body [1, 1, 1, 0, 1, 0, 1, 0, 0, 1, 1, 1, 0, 0, 1, 1, 1, 1, 0, 1, 0, 0, 1, 0, 1] (envT [(1, v1), (2, v2), (3, v3), (4, v4), (5, v5), (6, v6), (7, v7), (20, v20), (21, v21), (60, v60), (61, v61), (62, v62)]) st) Q) : Ok (refinerylaw03_Small_Program_l2 J v1 v2 v3 v4 v5 v6 v7 v20 v21 v60 v61 v62 st) Q := loop_of hF hJ h
theorem refinerylaw03_Small_Program_j4_eq (hJ : IsJ K (retK refinerylaw03_Small_Program_c.results) J) (v1 v2 v3 v4 v5 v7 v20 v21 : Value) (st : St) : refinerylaw03_Small_Program_j4 J v1 v2 v3 v4 v5 v7 v20 v21 st =
 (.thn st (sLref v5 st) fun p1 =>
 .thn p1.2 (sField none 0 v5 p1.2) fun p2 =>
 .thn p2.2 (sField (some 7) 0 v7 p2.2) fun p3 =>
 .thn p3.2 (sLit 7 1 [(.int .i64 0), (.slice none 0 0), (.slice none 0 0), (.int .u8 0), (.int .i64 0), (.int .i64 0), (.int .i64 0)] [(0, 7, p3.1)] p3.2) fun p4 =>
 .thn p4.2 (sAppend 7 88 p2.1 p4.1 p4.2) fun p5 =>
 .thn p5.2 (sLref v5 p5.2) fun p6 =>
 .thn p6.2 (sUpd 1 0 v5 p5.1 p6.2) fun p7 =>
 refinerylaw03_Small_Program_j8 J v1 v2 v3 v4 p7.1 v20 v21 p7.2) := gq hJ (by kernel_rfl)
theorem refinerylaw03_Small_Program_j5_eq (hJ : IsJ K (retK refinerylaw03_Small_Program_c.results) J) (v1 v2 v3 v4 v5 v6 v7 v20 v21 v35 v36 : Value) (st : St) : refinerylaw03_Small_Program_j5 J v1 v2 v3 v4 v5 v6 v7 v20 v21 v35 v36 st =
 (.thn st (sBin .add v36 (.int .i64 1) st) fun p1 =>
 refinerylaw03_Small_Program_l1 J v1 v2 v3 v4 v5 v6 v7 v20 v21 v35 p1.1 p1.2) := gq hJ (by kernel_rfl)
theorem refinerylaw03_Small_Program_j6_eq (hJ : IsJ K (retK refinerylaw03_Small_Program_c.results) J) (v1 v2 v3 v4 v5 v6 v7 v20 v21 v60 v61 v62 : Value) (st : St) : refinerylaw03_Small_Program_j6 J v1 v2 v3 v4 v5 v6 v7 v20 v21 v60 v61 v62 st =
 (.thn st (sIxA 7 none v60 v62 st) fun p1 =>
 .thn p1.2 (sLoad (some 7) p1.1 p1.2) fun p2 =>
 .thn p2.2 (sLnew [(.int .u8 0), (.int .u8 0), (.int .u8 0), (.int .u8 0), (.int .u8 0), (.int .u8 0), (.int .i16 0)] p2.2) fun p3 =>
 .thn p3.2 (sUpd 7 0 p3.1 p2.1 p3.2) fun p4 =>
 .thn p4.2 (sField (some 7) 0 p4.1 p4.2) fun p5 =>
 .thn p5.2 (K.go (.call n_refinerylaw03_Line_Instr [p5.1, v3]) p5.2) fun p6 =>
 .thn p6.2 (sLref v7 p6.2) fun p7 =>
 .thn p7.2 (sField none 2 v7 p7.2) fun p8 =>
 Res.need (sStays (List.take 1 (p5.2 :: [])) p6.2.next nothing (fun s => sField none 2 v7 s) p8.1) "order" >>= fun _ =>
 .thn p8.2 (sLit 7 1 [(.int .u8 0), (.int .u8 0), (.int .i64 0), (.int .i64 0), (.int .i64 0), (.int .i64 0), (.int .i64 0)] [(0, 7, p6.1)] p8.2) fun p9 =>
 .thn p9.2 (sAppend 7 48 p8.1 p9.1 p9.2) fun p10 =>
 .thn p10.2 (sLref v7 p10.2) fun p11 =>
 .thn p11.2 (sUpd 1 2 v7 p10.1 p11.2) fun p12 =>
 refinerylaw03_Small_Program_j9 J v1 v2 v3 v4 v5 v6 p12.1 v20 v21 v60 v61 v62 p12.2) := gq hJ (by kernel_rfl)
theorem refinerylaw03_Small_Program_j7_eq (hJ : IsJ K (retK refinerylaw03_Small_Program_c.results) J) (v1 v2 v3 v4 v5 v6 v7 v20 v21 : Value) (st : St) : refinerylaw03_Small_Program_j7 J v1 v2 v3 v4 v5 v6 v7 v20 v21 st =
 (.thn st (sLref v1 st) fun p1 =>
 .thn p1.2 (sField none 2 v1 p1.2) fun p2 =>
 .thn p2.2 (sIxA 5 none p2.1 v6 p2.2) fun p3 =>
 .thn p3.2 (sLoad (some 5) p3.1 p3.2) fun p4 =>
 .thn p4.2 (K.go (.call n_refinerylaw03_Block_Last [p4.1, v3, v4]) p4.2) fun p5 =>
 .thn p5.2 (sLref v7 p5.2) fun p6 =>
 .thn p6.2 (sUpd 4 3 v7 p5.1 p6.2) fun p7 =>
 refinerylaw03_Small_Program_j4 J v1 v2 v3 v4 v5 p7.1 v20 v21 p7.2) := gq hJ (by kernel_rfl)
theorem refinerylaw03_Small_Program_j8_eq (hJ : IsJ K (retK refinerylaw03_Small_Program_c.results) J) (v1 v2 v3 v4 v5 v20 v21 : Value) (st : St) : refinerylaw03_Small_Program_j8 J v1 v2 v3 v4 v5 v20 v21 st =
 (.thn st (sBin .add v21 (.int .i64 1) st) fun p1 =>
 refinerylaw03_Small_Program_l0 J v1 v2 v3 v4 v5 v20 p1.1 p1.2) := gq hJ (by kernel_rfl)
theorem refinerylaw03_Small_Program_j9_eq (hJ : IsJ K (retK refinerylaw03_Small_Program_c.results) J) (v1 v2 v3 v4 v5 v6 v7 v20 v21 v60 v61 v62 : Value) (st : St) : refinerylaw03_Small_Program_j9 J v1 v2 v3 v4 v5 v6 v7 v20 v21 v60 v61 v62 st =
 (.thn st (sBin .add v62 (.int .i64 1) st) fun p1 =>
 refinerylaw03_Small_Program_l2 J v1 v2 v3 v4 v5 v6 v7 v20 v21 v60 v61 p1.1 p1.2) := gq hJ (by kernel_rfl)
open C in
def refinerylaw05_Text_c : AFun := ⟨57, [.tmp 4],
 (s (.ops [o 4 (.mv (c (.string (bstr []))))])
 (s (.ops [o 5 (.mv (c (.string (bstr []))))])
 (s (s (.ops [o 9 (.mv (t 0)), o 10 (.len .slice (t 9)), o 11 (.mv (c (i 0)))])
 (.block 0 (s (.keep [1, 5, 9, 10, 11])
 (.loop (s (s (.ops [o 12 (.bin .lss (t 11) (t 10))])
 (s (.cond (t 12) .skip (.exit 0))
 (s (.keep [1, 5, 9, 10, 11])
 (s (.block 1 (s (.ops [o 13 (.mv (t 11)), o 14 (.ixA 1 none (t 9) (t 11)), o 15 (.load none (t 14)), o 6 (.mv (t 13)), o 7 (.mv (t 15))])
 (s (.ops [o 8 (.mv (c (u 0)))])
 (s (s (.ops [o 16 (.mv (t 1)), o 17 (.len .slice (t 16)), o 18 (.bin .gtr (t 17) (c (i 0)))])
 (.cond (t 18) (.ops [o 19 (.mv (t 1)), o 20 (.mv (t 6)), o 21 (.mv (t 1)), o 22 (.len .slice (t 21)), o 23 (.bin .rem (t 20) (t 22)), o 24 (.ixA 1 none (t 19) (t 23)), o 25 (.load none (t 24)), o 8 (.mv (t 25))]) .skip))
 (s (.keep [1, 5, 7, 8, 9, 10, 11])
 (s (.block 2 (s (.ops [o 27 (.mv (t 7)), o 28 (.bin .eql (t 27) (c (.string (bstr [10])))), o 29 (.mv (t 28)), g 30 true 29 (.mv (t 8)), g 31 true 29 (.bin .rem (t 30) (c (u 5))), g 32 true 29 (.bin .eql (t 31) (c (u 1))), o 33 (.pick (t 29) (t 32) (c (.bool false))), o 26 (.mv (t 33))])
 (.cond (t 26) (.ops [o 34 (.mv (t 5)), o 35 (.bin .add (t 34) (c (.string (bstr [32, 35, 32, 116, 114, 97, 112, 32, 64])))), o 5 (.mv (t 35))]) (s (.ops [o 37 (.mv (t 7)), o 38 (.bin .eql (t 37) (c (.string (bstr [10])))), o 39 (.mv (t 38)), g 40 true 39 (.mv (t 8)), g 41 true 39 (.bin .rem (t 40) (c (u 5))), g 42 true 39 (.bin .eql (t 41) (c (u 2))), o 43 (.pick (t 39) (t 42) (c (.bool false))), o 36 (.mv (t 43))])
 (.cond (t 36) (.ops [o 44 (.mv (t 5)), o 45 (.bin .add (t 44) (c (.string (bstr [10, 32, 32])))), o 5 (.mv (t 45))]) .skip)))))
 (s (.keep [1, 5, 7, 8, 9, 10, 11])
 (.ops [o 46 (.mv (t 5)), o 47 (.mv (t 7)), o 48 (.lit 1 3 [(.string (bstr [])), (.string (bstr [])), (.string (bstr []))] [(0, 1, (c (.string (bstr [32])))), (1, 1, (c (.string (bstr [32, 32])))), (2, 1, (c (.string (bstr [32]))))]), o 49 (.mv (t 8)), o 50 (.bin .rem (t 49) (c (u 3))), o 51 (.ixA 1 none (t 48) (t 50)), o 52 (.load none (t 51)), o 53 (.bin .add (t 47) (t 52)), o 54 (.bin .add (t 46) (t 53)), o 5 (.mv (t 54))]))))))))
 (s (.keep [1, 5, 9, 10, 11])
 (.ops [o 55 (.bin .add (t 11) (c (i 1))), o 11 (.mv (t 55))]))))))
 (.keep [1, 5, 9, 10, 11]))))))
 (s (.keep [5])
 (s (.ops [o 56 (.mv (t 5)), o 4 (.mv (t 56))])
 .ret)))))⟩
theorem refinerylaw05_Text_is : pgF n_refinerylaw05_Text = some refinerylaw05_Text_c := by kernel_rfl
def refinerylaw05_Text_l0 (J : JT (Value × St)) (v1 v5 v9 v10 v11 : Value) (st : St) := lpX J refinerylaw05_Text_c.body [1, 1, 0, 1, 0, 1] (envT [(1, v1), (5, v5), (9, v9), (10, v10), (11, v11)]) st
def refinerylaw05_Text_j0 (J : JT (Value × St)) (v1 v5 v9 v10 v11 : Value) (st : St) := goX J refinerylaw05_Text_c.body [1, 1, 0, 1, 0, 1, 0, 0, 1, 1, 1] (envT [(1, v1), (5, v5), (9, v9), (10, v10), (11, v11)]) st
def refinerylaw05_Text_j1 (J : JT (Value × St)) (v5 : Value) (st : St) := goX J refinerylaw05_Text_c.body [1, 1, 1, 1] (envT [(5, v5)]) st
def refinerylaw05_Text_j2 (J : JT (Value × St)) (v1 v5 v7 v8 v9 v10 v11 : Value) (st : St) := goX J refinerylaw05_Text_c.body [1, 1, 0, 1, 0, 1, 0, 0, 1, 1, 1, 0, 0, 1, 1, 1, 1] (envT [(1, v1), (5, v5), (7, v7), (8, v8), (9, v9), (10, v10), (11, v11)]) st
def refinerylaw05_Text_j3 (J : JT (Value × St)) (v1 v5 v7 v8 v9 v10 v11 : Value) (st : St) := goX J refinerylaw05_Text_c.body [1, 1, 0, 1, 0, 1, 0, 0, 1, 1, 1, 0, 0, 1, 1, 1, 1, 1, 1] (envT [(1, v1), (5, v5), (7, v7), (8, v8), (9, v9), (10, v10), (11, v11)]) st
def refinerylaw05_Text_j4 (J : JT (Value × St)) (v1 v5 v9 v10 v11 : Value) (st : St) := goX J refinerylaw05_Text_c.body [1, 1, 0, 1, 0, 1, 0, 0, 1, 1, 1, 1, 1] (envT [(1, v1), (5, v5), (9, v9), (10, v10), (11, v11)]) st
theorem refinerylaw05_Text_eq (K : Ctx) (J : JT (Value × St)) (a0 a1 : Value) (st : St) : atX K J refinerylaw05_Text_c (AM.start [a0, a1]) st =
 (.thn st (sLen .slice a0 st) fun p1 =>
 refinerylaw05_Text_l0 J a1 (.string (bstr [])) a0 p1.1 (.int .i64 0) p1.2) := by kernel_rfl
theorem refinerylaw05_Text_of : Of2 n_refinerylaw05_Text refinerylaw05_Text_c := fun hF => call_of hF refinerylaw05_Text_is rfl
theorem refinerylaw05_Text_l0_eq (K : Ctx) (J : JT (Value × St)) (v1 v5 v9 v10 v11 : Value) (st : St) : inX K J (retK refinerylaw05_Text_c.results) refinerylaw05_Text_c.body [1, 1, 0, 1, 0, 1] (envT [(1, v1), (5, v5), (9, v9), (10, v10), (11, v11)]) st =
 (.thn st (sBin .lss v11 v10 st) fun p1 =>
 condX p1.1
 (refinerylaw05_Text_j0 J v1 v5 v9 v10 v11 p1.2)
 (refinerylaw05_Text_j1 J v5 p1.2)) := by kernel_rfl
theorem refinerylaw05_Text_l0_of (hF : Fix pgF K) (hJ : IsJ K (retK refinerylaw05_Text_c.results) J) {v1 v5 v9 v10 v11 : Value} (h : Ok (inX K J (retK refinerylaw05_Text_c.results) refinerylaw05_Text_c.body [1, 1, 0, 1, 0, 1] (envT [(1, v1), (5, v5), (9, v9), (10, v10), (11, v11)]) st) Q) : Ok (refinerylaw05_Text_l0 J v1 v5 v9 v10 v11 st) Q := loop_of hF hJ h
theorem refinerylaw05_Text_j0_eq (hJ : IsJ K (retK refinerylaw05_Text_c.results) J) (v1 v5 v9 v10 v11 : Value) (st : St) : refinerylaw05_Text_j0 J v1 v5 v9 v10 v11 st =
 (.thn st (sIxA 1 none v9 v11 st) fun p1 =>
 .thn p1.2 (sLoad none p1.1 p1.2) fun p2 =>
 .thn p2.2 (sLen .slice v1 p2.2) fun p3 =>
 .thn p3.2 (sBin .gtr p3.1 (.int .i64 0) p3.2) fun p4 =>
 condX p4.1
 (.thn p4.2 (sLen .slice v1 p4.2) fun p5 =>
 .thn p5.2 (sBin .rem v11 p5.1 p5.2) fun p6 =>
 .thn p6.2 (sIxA 1 none v1 p6.1 p6.2) fun p7 =>
 .thn p7.2 (sLoad none p7.1 p7.2) fun p8 =>
 refinerylaw05_Text_j2 J v1 v5 p2.1 p8.1 v9 v10 v11 p8.2)
 (refinerylaw05_Text_j2 J v1 v5 p2.1 (.int .u8 0) v9 v10 v11 p4.2)) := gq hJ (by kernel_rfl)
theorem refinerylaw05_Text_j1_eq (hJ : IsJ K (retK refinerylaw05_Text_c.results) J) (v5 : Value) (st : St) : refinerylaw05_Text_j1 J v5 st =
 (.ok (v5, st)) := gq hJ (by kernel_rfl)
theorem refinerylaw05_Text_j2_eq (hJ : IsJ K (retK refinerylaw05_Text_c.results) J) (v1 v5 v7 v8 v9 v10 v11 : Value) (st : St) : refinerylaw05_Text_j2 J v1 v5 v7 v8 v9 v10 v11 st =
 (.thn st (sBin .eql v7 (.string (bstr [10])) st) fun p1 =>
 .thn p1.2 (sG p1.1 true (.ok (v8, p1.2)) p1.2) fun p2 =>
 .thn p2.2 (sG p1.1 true (sBin .rem p2.1 (.int .u8 5) p2.2) p2.2) fun p3 =>
 .thn p3.2 (sG p1.1 true (sBin .eql p3.1 (.int .u8 1) p3.2) p3.2) fun p4 =>
 .thn p4.2 (sPick p1.1 p4.1 (.bool false) p4.2) fun p5 =>
 condX p5.1
 (.thn p5.2 (sBin .add v5 (.string (bstr [32, 35, 32, 116, 114, 97, 112, 32, 64])) p5.2) fun p6 =>
 refinerylaw05_Text_j3 J v1 p6.1 v7 v8 v9 v10 v11 p6.2)
 (.thn p5.2 (sBin .eql v7 (.string (bstr [10])) p5.2) fun p7 =>
 .thn p7.2 (sG p7.1 true (.ok (v8, p7.2)) p7.2) fun p8 =>
 .thn p8.2 (sG p7.1 true (sBin .rem p8.1 (.int .u8 5) p8.2) p8.2) fun p9 =>
 .thn p9.2 (sG p7.1 true (sBin .eql p9.1 (.int .u8 2) p9.2) p9.2) fun p10 =>
 .thn p10.2 (sPick p7.1 p10.1 (.bool false) p10.2) fun p11 =>
 condX p11.1
 (.thn p11.2 (sBin .add v5 (.string (bstr [10, 32, 32])) p11.2) fun p12 =>
 refinerylaw05_Text_j3 J v1 p12.1 v7 v8 v9 v10 v11 p12.2)
 (refinerylaw05_Text_j3 J v1 v5 v7 v8 v9 v10 v11 p11.2))) := gq hJ (by kernel_rfl)
theorem refinerylaw05_Text_j3_eq (hJ : IsJ K (retK refinerylaw05_Text_c.results) J) (v1 v5 v7 v8 v9 v10 v11 : Value) (st : St) : refinerylaw05_Text_j3 J v1 v5 v7 v8 v9 v10 v11 st =
 (.thn st (sLit 1 3 [(.string (bstr [])), (.string (bstr [])), (.string (bstr []))] [(0, 1, (.string (bstr [32]))), (1, 1, (.string (bstr [32, 32]))), (2, 1, (.string (bstr [32])))] st) fun p1 =>
 .thn p1.2 (sBin .rem v8 (.int .u8 3) p1.2) fun p2 =>
 .thn p2.2 (sIxA 1 none p1.1 p2.1 p2.2) fun p3 =>
 .thn p3.2 (sLoad none p3.1 p3.2) fun p4 =>
 .thn p4.2 (sBin .add v7 p4.1 p4.2) fun p5 =>
 .thn p5.2 (sBin .add v5 p5.1 p5.2) fun p6 =>
 refinerylaw05_Text_j4 J v1 p6.1 v9 v10 v11 p6.2) := gq hJ (by kernel_rfl)
theorem refinerylaw05_Text_j4_eq (hJ : IsJ K (retK refinerylaw05_Text_c.results) J) (v1 v5 v9 v10 v11 : Value) (st : St) : refinerylaw05_Text_j4 J v1 v5 v9 v10 v11 st =
 (.thn st (sBin .add v11 (.int .i64 1) st) fun p1 =>
 refinerylaw05_Text_l0 J v1 v5 v9 v10 p1.1 p1.2) := gq hJ (by kernel_rfl)
open C in
def refinerylaw03_Line_Instr_c : AFun := ⟨2, [.part 4 (some 7)],
 (s (.ops [o 2 (.lbox (t 0)), o 4 (.lnew [(u 0), (u 0), (i 0), (i 0), (i 0), (i 0), (i 0)])])
 (s (.draw [d 0 0 false (o 5 (.lref (t 2))), d 1 0 false (o 6 (.field none 0 (t 2))), d 2 0 false (o 7 (.bin .rem (t 6) (c (u 9)))), d 3 0 false (o 8 (.lref (t 2))), d 4 0 false (o 9 (.field none 1 (t 2))), d 5 0 false (o 10 (.bin .rem (t 9) (c (u 12)))), d 6 0 false (o 11 (.lref (t 2))), d 7 0 false (o 12 (.field none 2 (t 2))), d 8 0 false (o 13 (.conv (.int .i64) (t 12))), d 9 0 false (o 14 (.mv (t 1))), d 10 0 false (o 15 (.bin .rem (t 13) (t 14))), d 11 0 false (o 16 (.lref (t 2))), d 12 0 false (o 17 (.field none 3 (t 2))), d 13 0 false (o 18 (.conv (.int .i64) (t 17))), d 14 0 false (o 19 (.mv (t 1))), d 15 0 false (o 20 (.bin .rem (t 18) (t 19))), d 16 0 false (o 21 (.lref (t 2))), d 17 0 false (o 22 (.field none 4 (t 2))), d 18 0 false (o 23 (.conv (.int .i64) (t 22))), d 19 0 false (o 24 (.mv (t 1))), d 20 0 false (o 25 (.bin .rem (t 23) (t 24))), d 21 0 false (o 26 (.lref (t 2))), d 22 0 false (o 27 (.field none 6 (t 2))), d 23 0 false (o 28 (.conv (.int .i64) (t 27))), d 24 0 false (o 29 (.lref (t 2))), d 25 0 false (o 30 (.field none 5 (t 2))), d 26 0 false (o 31 (.bin .rem (t 30) (c (u 3)))), d 27 0 false (o 32 (.conv (.int .i64) (t 31))), d 28 0 false (o 33 (.build [(u 0), (u 0), (i 0), (i 0), (i 0), (i 0), (i 0)] [(0, 1, (t 7)), (1, 1, (t 10)), (2, 1, (t 15)), (3, 1, (t 20)), (4, 1, (t 25)), (5, 1, (t 28)), (6, 1, (t 32))])), d 29 0 true (o 34 (.call (f 34) [(t 33)])), d 30 0 true (o 4 (.upd 7 0 (t 4) (t 34)))])
 .ret))⟩
theorem refinerylaw03_Line_Instr_is : pgF n_refinerylaw03_Line_Instr = some refinerylaw03_Line_Instr_c := by kernel_rfl
theorem refinerylaw03_Line_Instr_eq (K : Ctx) (J : JT (Value × St)) (a0 a1 : Value) (st : St) : atX K J refinerylaw03_Line_Instr_c (AM.start [a0, a1]) st =
 (.thn st (sLbox a0 st) fun p1 =>
 .thn p1.2 (sLnew [(.int .u8 0), (.int .u8 0), (.int .i64 0), (.int .i64 0), (.int .i64 0), (.int .i64 0), (.int .i64 0)] p1.2) fun p2 =>
 .thn p2.2 (sLref p1.1 p2.2) fun p3 =>
 .thn p3.2 (sField none 0 p1.1 p3.2) fun p4 =>
 .thn p4.2 (sBin .rem p4.1 (.int .u8 9) p4.2) fun p5 =>
 .thn p5.2 (sLref p1.1 p5.2) fun p6 =>
 .thn p6.2 (sField none 1 p1.1 p6.2) fun p7 =>
 .thn p7.2 (sBin .rem p7.1 (.int .u8 12) p7.2) fun p8 =>
 .thn p8.2 (sLref p1.1 p8.2) fun p9 =>
 .thn p9.2 (sField none 2 p1.1 p9.2) fun p10 =>
 .thn p10.2 (sConv (.int .i64) p10.1 p10.2) fun p11 =>
 .thn p11.2 (sBin .rem p11.1 a1 p11.2) fun p12 =>
 .thn p12.2 (sLref p1.1 p12.2) fun p13 =>
 .thn p13.2 (sField none 3 p1.1 p13.2) fun p14 =>
 .thn p14.2 (sConv (.int .i64) p14.1 p14.2) fun p15 =>
 .thn p15.2 (sBin .rem p15.1 a1 p15.2) fun p16 =>
 .thn p16.2 (sLref p1.1 p16.2) fun p17 =>
 .thn p17.2 (sField none 4 p1.1 p17.2) fun p18 =>
 .thn p18.2 (sConv (.int .i64) p18.1 p18.2) fun p19 =>
 .thn p19.2 (sBin .rem p19.1 a1 p19.2) fun p20 =>
 .thn p20.2 (sLref p1.1 p20.2) fun p21 =>
 .thn p21.2 (sField none 6 p1.1 p21.2) fun p22 =>
 .thn p22.2 (sConv (.int .i64) p22.1 p22.2) fun p23 =>
 .thn p23.2 (sLref p1.1 p23.2) fun p24 =>
 .thn p24.2 (sField none 5 p1.1 p24.2) fun p25 =>
 .thn p25.2 (sBin .rem p25.1 (.int .u8 3) p25.2) fun p26 =>
 .thn p26.2 (sConv (.int .i64) p26.1 p26.2) fun p27 =>
 .thn p27.2 (sBuild [(.int .u8 0), (.int .u8 0), (.int .i64 0), (.int .i64 0), (.int .i64 0), (.int .i64 0), (.int .i64 0)] [(0, 1, p5.1), (1, 1, p8.1), (2, 1, p12.1), (3, 1, p16.1), (4, 1, p20.1), (5, 1, p23.1), (6, 1, p27.1)] p27.2) fun p28 =>
 .thn p28.2 (K.go (.call n_ir_Instr_Only [p28.1]) p28.2) fun p29 =>
 .thn p29.2 (sUpd 7 0 p2.1 p29.1 p29.2) fun p30 =>
 (sField (some 7) 0 p30.1 p30.2 >>= fun p31 => .ok [p31.1]) >>= fun vs => .ok (oneOf vs, p30.2)) := by kernel_rfl
theorem refinerylaw03_Line_Instr_of : Of2 n_refinerylaw03_Line_Instr refinerylaw03_Line_Instr_c := fun hF => call_of hF refinerylaw03_Line_Instr_is rfl
open C in
def ir_Program_Plain_c : AFun := ⟨1, [.tmp 2],
 (s (.ops [o 1 (.lbox (t 0)), o 2 (.mv (c (.bool false)))])
 (s (.ops [o 3 (.lref (t 1)), o 4 (.field none 0 (t 1)), o 5 (.call (f 40) [(t 4), (f 41)]), o 6 (.un .not (t 5)), o 2 (.mv (t 6))])
 .ret))⟩
theorem ir_Program_Plain_is : pgF n_ir_Program_Plain = some ir_Program_Plain_c := by kernel_rfl
theorem ir_Program_Plain_eq (K : Ctx) (J : JT (Value × St)) (a0 : Value) (st : St) : atX K J ir_Program_Plain_c (AM.start [a0]) st =
 (.thn st (sLbox a0 st) fun p1 =>
 .thn p1.2 (sLref p1.1 p1.2) fun p2 =>
 .thn p2.2 (sField none 0 p1.1 p2.2) fun p3 =>
 .thn p3.2 (K.go (.call n_slices_ContainsFunc_irBlock [p3.1, (.func (.func n_ir_Program_Plain_1) #[] #[])]) p3.2) fun p4 =>
 .thn p4.2 (sUn .not p4.1 p4.2) fun p5 =>
 .ok (p5.1, p5.2)) := by kernel_rfl
theorem ir_Program_Plain_of : Of1 n_ir_Program_Plain ir_Program_Plain_c := fun hF => call_of hF ir_Program_Plain_is rfl
open C in
def refinerylaw05_Instr_c : AFun := ⟨1, [.tmp 2],
 (s (.ops [o 1 (.lbox (t 0)), o 2 (.mv (c (.slice none 0 0)))])
 (s (.ops [o 5 (.lref (t 1)), o 6 (.field none 2 (t 1)), o 7 (.call (f 19) [(t 6)]), o 8 (.lit 1 2 [(.string (bstr [])), (.string (bstr []))] [(0, 1, (t 7)), (1, 1, (c (.string (bstr [61]))))]), o 3 (.mv (t 8))])
 (s (.ops [o 9 (.lref (t 1)), o 10 (.field none 6 (t 1)), o 11 (.call (f 20) [(t 10)]), o 12 (.bin .add (c (.string (bstr [36]))) (t 11)), o 4 (.mv (t 12))])
 (s (s (.ops [o 13 (.lref (t 1)), o 14 (.field none 0 (t 1))])
 (.block 0 (s (.ops [o 16 (.bin .eql (t 14) (c (u 0))), o 15 (.mv (t 16))])
 (.cond (t 15) (s (.ops [o 17 (.mv (t 3)), o 18 (.lref (t 1)), o 19 (.field none 5 (t 1)), o 20 (.call (f 20) [(t 19)]), o 21 (.lit 1 1 [(.string (bstr []))] [(0, 1, (t 20))]), o 22 (.append 1 16 (t 17) (t 21)), o 2 (.mv (t 22))])
 .ret) (s (.ops [o 24 (.bin .eql (t 14) (c (u 1))), o 23 (.mv (t 24))])
 (.cond (t 23) (s (.ops [o 25 (.mv (t 3)), o 26 (.lref (t 1)), o 27 (.field none 3 (t 1)), o 28 (.call (f 19) [(t 27)]), o 29 (.lit 1 1 [(.string (bstr []))] [(0, 1, (t 28))]), o 30 (.append 1 16 (t 25) (t 29)), o 2 (.mv (t 30))])
 .ret) (s (.ops [o 32 (.bin .eql (t 14) (c (u 2))), o 31 (.mv (t 32))])
 (.cond (t 31) (s (.draw [d 7 0 false (o 40 (.lref (t 1))), d 8 0 false (o 41 (.field none 3 (t 1))), d 9 0 true (o 42 (.call (f 19) [(t 41)])), d 10 0 false (o 43 (.lref (t 1))), d 11 1 false (o 44 (.field none 4 (t 1))), d 12 0 true (o 45 (.call (f 19) [(t 44)])), d 0 0 false (o 33 (.mv (t 3))), d 1 0 false (o 34 (.lit 1 12 [(.string (bstr [])), (.string (bstr [])), (.string (bstr [])), (.string (bstr [])), (.string (bstr [])), (.string (bstr [])), (.string (bstr [])), (.string (bstr [])), (.string (bstr [])), (.string (bstr [])), (.string (bstr [])), (.string (bstr []))] [(0, 1, (c (.string (bstr [97, 100, 100])))), (1, 1, (c (.string (bstr [115, 117, 98])))), (2, 1, (c (.string (bstr [109, 117, 108])))), (3, 1, (c (.string (bstr [100, 105, 118])))), (4, 1, (c (.string (bstr [114, 101, 109])))), (5, 1, (c (.string (bstr [97, 110, 100])))), (6, 1, (c (.string (bstr [111, 114])))), (7, 1, (c (.string (bstr [120, 111, 114])))), (8, 1, (c (.string (bstr [115, 104, 108])))), (9, 1, (c (.string (bstr [115, 104, 114])))), (10, 1, (c (.string (bstr [101, 113])))), (11, 1, (c (.string (bstr [108, 116]))))])), d 2 0 false (o 35 (.lref (t 1))), d 3 2 false (o 36 (.field none 1 (t 1))), d 4 0 false (o 37 (.bin .rem (t 36) (c (u 12)))), d 5 0 false (o 38 (.ixA 1 none (t 34) (t 37))), d 6 2 false (o 39 (.load none (t 38))), d 13 0 false (o 46 (.lit 1 4 [(.string (bstr [])), (.string (bstr [])), (.string (bstr [])), (.string (bstr []))] [(0, 1, (t 39)), (1, 1, (t 42)), (2, 1, (c (.string (bstr [44])))), (3, 1, (t 45))])), d 14 0 true (o 47 (.append 1 16 (t 33) (t 46))), d 15 0 false (o 2 (.mv (t 47)))])
 .ret) (s (.ops [o 49 (.bin .eql (t 14) (c (u 3))), o 48 (.mv (t 49))])
 (.cond (t 48) (s (.ops [o 50 (.mv (t 3)), o 51 (.lit 1 1 [(.string (bstr []))] [(0, 1, (c (.string (bstr [105, 110]))))]), o 52 (.append 1 16 (t 50) (t 51)), o 2 (.mv (t 52))])
 .ret) (s (.ops [o 54 (.bin .eql (t 14) (c (u 5))), o 53 (.mv (t 54))])
 (.cond (t 53) (s (.ops [o 55 (.mv (t 3)), o 56 (.mv (t 4)), o 57 (.lit 1 2 [(.string (bstr [])), (.string (bstr []))] [(0, 1, (c (.string (bstr [108, 111, 97, 100])))), (1, 1, (t 56))]), o 58 (.append 1 16 (t 55) (t 57)), o 2 (.mv (t 58))])
 .ret) (s (.ops [o 60 (.bin .eql (t 14) (c (u 7))), o 59 (.mv (t 60))])
 (.cond (t 59) (s (.ops [o 61 (.mv (t 3)), o 62 (.lref (t 1)), o 63 (.field none 3 (t 1)), o 64 (.call (f 19) [(t 63)]), o 65 (.lit 1 2 [(.string (bstr [])), (.string (bstr []))] [(0, 1, (c (.string (bstr [103, 101, 116])))), (1, 1, (t 64))]), o 66 (.append 1 16 (t 61) (t 65)), o 2 (.mv (t 66))])
 .ret) (s (.ops [o 68 (.bin .eql (t 14) (c (u 4))), o 67 (.mv (t 68))])
 (.cond (t 67) (s (.ops [o 69 (.lref (t 1)), o 70 (.field none 3 (t 1)), o 71 (.call (f 19) [(t 70)]), o 72 (.lit 1 2 [(.string (bstr [])), (.string (bstr []))] [(0, 1, (c (.string (bstr [111, 117, 116])))), (1, 1, (t 71))]), o 2 (.mv (t 72))])
 .ret) (s (.ops [o 74 (.bin .eql (t 14) (c (u 6))), o 73 (.mv (t 74))])
 (.cond (t 73) (s (.ops [o 75 (.mv (t 4)), o 76 (.lref (t 1)), o 77 (.field none 3 (t 1)), o 78 (.call (f 19) [(t 77)]), o 79 (.lit 1 4 [(.string (bstr [])), (.string (bstr [])), (.string (bstr [])), (.string (bstr []))] [(0, 1, (c (.string (bstr [115, 116, 111, 114, 101])))), (1, 1, (t 75)), (2, 1, (c (.string (bstr [44])))), (3, 1, (t 78))]), o 2 (.mv (t 79))])
 .ret) .skip))))))))))))))))))
 (s (.keep [1])
 (s (.draw [d 0 0 false (o 80 (.lref (t 1))), d 1 0 false (o 81 (.field none 3 (t 1))), d 2 0 true (o 82 (.call (f 19) [(t 81)])), d 3 0 false (o 83 (.lref (t 1))), d 4 1 false (o 84 (.field none 4 (t 1))), d 5 0 true (o 85 (.call (f 19) [(t 84)])), d 6 0 false (o 86 (.lit 1 4 [(.string (bstr [])), (.string (bstr [])), (.string (bstr [])), (.string (bstr []))] [(0, 1, (c (.string (bstr [112, 117, 116])))), (1, 1, (t 82)), (2, 1, (c (.string (bstr [44])))), (3, 1, (t 85))])), d 7 0 false (o 2 (.mv (t 86)))])
 .ret))))))⟩
theorem refinerylaw05_Instr_is : pgF n_refinerylaw05_Instr = some refinerylaw05_Instr_c := by kernel_rfl
def refinerylaw05_Instr_j0 (J : JT (Value × St)) (v1 : Value) (st : St) := goX J refinerylaw05_Instr_c.body [1, 1, 1, 1, 1] (envT [(1, v1)]) st
theorem refinerylaw05_Instr_eq (K : Ctx) (J : JT (Value × St)) (a0 : Value) (st : St) : atX K J refinerylaw05_Instr_c (AM.start [a0]) st =
 (.thn st (sLbox a0 st) fun p1 =>
 .thn p1.2 (sLref p1.1 p1.2) fun p2 =>
 .thn p2.2 (sField none 2 p1.1 p2.2) fun p3 =>
 .thn p3.2 (K.go (.call n_refinerylaw05_reg [p3.1]) p3.2) fun p4 =>
 .thn p4.2 (sLit 1 2 [(.string (bstr [])), (.string (bstr []))] [(0, 1, p4.1), (1, 1, (.string (bstr [61])))] p4.2) fun p5 =>
 .thn p5.2 (sLref p1.1 p5.2) fun p6 =>
 .thn p6.2 (sField none 6 p1.1 p6.2) fun p7 =>
 .thn p7.2 (K.go (.call n_refinerylaw05_number [p7.1]) p7.2) fun p8 =>
 .thn p8.2 (sBin .add (.string (bstr [36])) p8.1 p8.2) fun p9 =>
 .thn p9.2 (sLref p1.1 p9.2) fun p10 =>
 .thn p10.2 (sField none 0 p1.1 p10.2) fun p11 =>
 .thn p11.2 (sBin .eql p11.1 (.int .u8 0) p11.2) fun p12 =>
 condX p12.1
 (.thn p12.2 (sLref p1.1 p12.2) fun p13 =>
 .thn p13.2 (sField none 5 p1.1 p13.2) fun p14 =>
 .thn p14.2 (K.go (.call n_refinerylaw05_number [p14.1]) p14.2) fun p15 =>
 .thn p15.2 (sLit 1 1 [(.string (bstr []))] [(0, 1, p15.1)] p15.2) fun p16 =>
 .thn p16.2 (sAppend 1 16 p5.1 p16.1 p16.2) fun p17 =>
 .ok (p17.1, p17.2))
 (.thn p12.2 (sBin .eql p11.1 (.int .u8 1) p12.2) fun p18 =>
 condX p18.1
 (.thn p18.2 (sLref p1.1 p18.2) fun p19 =>
 .thn p19.2 (sField none 3 p1.1 p19.2) fun p20 =>
 .thn p20.2 (K.go (.call n_refinerylaw05_reg [p20.1]) p20.2) fun p21 =>
 .thn p21.2 (sLit 1 1 [(.string (bstr []))] [(0, 1, p21.1)] p21.2) fun p22 =>
 .thn p22.2 (sAppend 1 16 p5.1 p22.1 p22.2) fun p23 =>
 .ok (p23.1, p23.2))
 (.thn p18.2 (sBin .eql p11.1 (.int .u8 2) p18.2) fun p24 =>
 condX p24.1
 (.thn p24.2 (sLref p1.1 p24.2) fun p25 =>
 .thn p25.2 (sField none 3 p1.1 p25.2) fun p26 =>
 .thn p26.2 (K.go (.call n_refinerylaw05_reg [p26.1]) p26.2) fun p27 =>
 .thn p27.2 (sLref p1.1 p27.2) fun p28 =>
 .thn p28.2 (sField none 4 p1.1 p28.2) fun p29 =>
 Res.need (sStays (List.take 1 (p26.2 :: [])) p27.2.next nothing (fun s => sField none 4 p1.1 s) p29.1) "order" >>= fun _ =>
 .thn p29.2 (K.go (.call n_refinerylaw05_reg [p29.1]) p29.2) fun p30 =>
 .thn p30.2 (sLit 1 12 [(.string (bstr [])), (.string (bstr [])), (.string (bstr [])), (.string (bstr [])), (.string (bstr [])), (.string (bstr [])), (.string (bstr [])), (.string (bstr [])), (.string (bstr [])), (.string (bstr [])), (.string (bstr [])), (.string (bstr []))] [(0, 1, (.string (bstr [97, 100, 100]))), (1, 1, (.string (bstr [115, 117, 98]))), (2, 1, (.string (bstr [109, 117, 108]))), (3, 1, (.string (bstr [100, 105, 118]))), (4, 1, (.string (bstr [114, 101, 109]))), (5, 1, (.string (bstr [97, 110, 100]))), (6, 1, (.string (bstr [111, 114]))), (7, 1, (.string (bstr [120, 111, 114]))), (8, 1, (.string (bstr [115, 104, 108]))), (9, 1, (.string (bstr [115, 104, 114]))), (10, 1, (.string (bstr [101, 113]))), (11, 1, (.string (bstr [108, 116])))] p30.2) fun p31 =>
 .thn p31.2 (sLref p1.1 p31.2) fun p32 =>
 .thn p32.2 (sField none 1 p1.1 p32.2) fun p33 =>
 Res.need (sStays (List.take 2 (p29.2 :: (p26.2 :: []))) p30.2.next nothing (fun s => sField none 1 p1.1 s) p33.1) "order" >>= fun _ =>
 .thn p33.2 (sBin .rem p33.1 (.int .u8 12) p33.2) fun p34 =>
 .thn p34.2 (sIxA 1 none p31.1 p34.1 p34.2) fun p35 =>
 .thn p35.2 (sLoad none p35.1 p35.2) fun p36 =>
 Res.need (sStays (List.take 2 (p29.2 :: (p26.2 :: []))) p30.2.next p35.1 (fun s => sLoad none p35.1 s) p36.1) "order" >>= fun _ =>
 .thn p36.2 (sLit 1 4 [(.string (bstr [])), (.string (bstr [])), (.string (bstr [])), (.string (bstr []))] [(0, 1, p36.1), (1, 1, p27.1), (2, 1, (.string (bstr [44]))), (3, 1, p30.1)] p36.2) fun p37 =>
 .thn p37.2 (sAppend 1 16 p5.1 p37.1 p37.2) fun p38 =>
 .ok (p38.1, p38.2))
 (.thn p24.2 (sBin .eql p11.1 (.int .u8 3) p24.2) fun p39 =>
 condX p39.1
 (.thn p39.2 (sLit 1 1 [(.string (bstr []))] [(0, 1, (.string (bstr [105, 110])))] p39.2) fun p40 =>
 .thn p40.2 (sAppend 1 16 p5.1 p40.1 p40.2) fun p41 =>
 .ok (p41.1, p41.2))
 (.thn p39.2 (sBin .eql p11.1 (.int .u8 5) p39.2) fun p42 =>
 condX p42.1
 (.thn p42.2 (sLit 1 2 [(.string (bstr [])), (.string (bstr []))] [(0, 1, (.string (bstr [108, 111, 97, 100]))), (1, 1, p9.1)] p42.2) fun p43 =>
 .thn p43.2 (sAppend 1 16 p5.1 p43.1 p43.2) fun p44 =>
 .ok (p44.1, p44.2))
 (.thn p42.2 (sBin .eql p11.1 (.int .u8 7) p42.2) fun p45 =>
 condX p45.1
 (.thn p45.2 (sLref p1.1 p45.2) fun p46 =>
 .thn p46.2 (sField none 3 p1.1 p46.2) fun p47 =>
 .thn p47.2 (K.go (.call n_refinerylaw05_reg [p47.1]) p47.2) fun p48 =>
 .thn p48.2 (sLit 1 2 [(.string (bstr [])), (.string (bstr []))] [(0, 1, (.string (bstr [103, 101, 116]))), (1, 1, p48.1)] p48.2) fun p49 =>
 .thn p49.2 (sAppend 1 16 p5.1 p49.1 p49.2) fun p50 =>
 .ok (p50.1, p50.2))
 (.thn p45.2 (sBin .eql p11.1 (.int .u8 4) p45.2) fun p51 =>
 condX p51.1
 (.thn p51.2 (sLref p1.1 p51.2) fun p52 =>
 .thn p52.2 (sField none 3 p1.1 p52.2) fun p53 =>
 .thn p53.2 (K.go (.call n_refinerylaw05_reg [p53.1]) p53.2) fun p54 =>
 .thn p54.2 (sLit 1 2 [(.string (bstr [])), (.string (bstr []))] [(0, 1, (.string (bstr [111, 117, 116]))), (1, 1, p54.1)] p54.2) fun p55 =>
 .ok (p55.1, p55.2))
 (.thn p51.2 (sBin .eql p11.1 (.int .u8 6) p51.2) fun p56 =>
 condX p56.1
 (.thn p56.2 (sLref p1.1 p56.2) fun p57 =>
 .thn p57.2 (sField none 3 p1.1 p57.2) fun p58 =>
 .thn p58.2 (K.go (.call n_refinerylaw05_reg [p58.1]) p58.2) fun p59 =>
 .thn p59.2 (sLit 1 4 [(.string (bstr [])), (.string (bstr [])), (.string (bstr [])), (.string (bstr []))] [(0, 1, (.string (bstr [115, 116, 111, 114, 101]))), (1, 1, p9.1), (2, 1, (.string (bstr [44]))), (3, 1, p59.1)] p59.2) fun p60 =>
 .ok (p60.1, p60.2))
 (refinerylaw05_Instr_j0 J p1.1 p56.2))))))))) := by kernel_rfl
theorem refinerylaw05_Instr_of : Of1 n_refinerylaw05_Instr refinerylaw05_Instr_c := fun hF => call_of hF refinerylaw05_Instr_is rfl
theorem refinerylaw05_Instr_j0_eq (hJ : IsJ K (retK refinerylaw05_Instr_c.results) J) (v1 : Value) (st : St) : refinerylaw05_Instr_j0 J v1 st =
 (.thn st (sLref v1 st) fun p1 =>
 .thn p1.2 (sField none 3 v1 p1.2) fun p2 =>
 .thn p2.2 (K.go (.call n_refinerylaw05_reg [p2.1]) p2.2) fun p3 =>
 .thn p3.2 (sLref v1 p3.2) fun p4 =>
 .thn p4.2 (sField none 4 v1 p4.2) fun p5 =>
 Res.need (sStays (List.take 1 (p2.2 :: [])) p3.2.next nothing (fun s => sField none 4 v1 s) p5.1) "order" >>= fun _ =>
 .thn p5.2 (K.go (.call n_refinerylaw05_reg [p5.1]) p5.2) fun p6 =>
 .thn p6.2 (sLit 1 4 [(.string (bstr [])), (.string (bstr [])), (.string (bstr [])), (.string (bstr []))] [(0, 1, (.string (bstr [112, 117, 116]))), (1, 1, p3.1), (2, 1, (.string (bstr [44]))), (3, 1, p6.1)] p6.2) fun p7 =>
 .ok (p7.1, p7.2)) := gq hJ (by kernel_rfl)
open C in
def refinerylaw05_Last_c : AFun := ⟨1, [.tmp 2],
 (s (.ops [o 1 (.lbox (t 0)), o 2 (.mv (c (.slice none 0 0)))])
 (s (.ops [o 3 (.mv (f 43))])
 (s (s (.ops [o 4 (.lref (t 1)), o 5 (.field none 0 (t 1))])
 (.block 0 (s (.ops [o 7 (.bin .eql (t 5) (c (u 0))), o 6 (.mv (t 7))])
 (.cond (t 6) (s (.ops [o 8 (.mv (t 3)), o 9 (.lref (t 1)), o 10 (.field none 2 (t 1)), o 11 (.call (t 8) [(t 10)]), o 12 (.lit 1 2 [(.string (bstr [])), (.string (bstr []))] [(0, 1, (c (.string (bstr [106, 117, 109, 112])))), (1, 1, (t 11))]), o 2 (.mv (t 12))])
 .ret) (s (.ops [o 14 (.bin .eql (t 5) (c (u 1))), o 13 (.mv (t 14))])
 (.cond (t 13) (s (.draw [d 0 0 false (o 15 (.lref (t 1))), d 1 0 false (o 16 (.field none 1 (t 1))), d 2 0 true (o 17 (.call (f 19) [(t 16)])), d 3 0 false (o 18 (.mv (t 3))), d 4 0 false (o 19 (.lref (t 1))), d 5 1 false (o 20 (.field none 2 (t 1))), d 6 0 true (o 21 (.call (t 18) [(t 20)])), d 7 0 false (o 22 (.mv (t 3))), d 8 0 false (o 23 (.lref (t 1))), d 9 2 false (o 24 (.field none 3 (t 1))), d 10 0 true (o 25 (.call (t 22) [(t 24)])), d 11 0 false (o 26 (.lit 1 6 [(.string (bstr [])), (.string (bstr [])), (.string (bstr [])), (.string (bstr [])), (.string (bstr [])), (.string (bstr []))] [(0, 1, (c (.string (bstr [98, 114])))), (1, 1, (t 17)), (2, 1, (c (.string (bstr [44])))), (3, 1, (t 21)), (4, 1, (c (.string (bstr [44])))), (5, 1, (t 25))])), d 12 0 false (o 2 (.mv (t 26)))])
 .ret) (s (.ops [o 28 (.bin .eql (t 5) (c (u 2))), o 27 (.mv (t 28))])
 (.cond (t 27) (s (.ops [o 29 (.lref (t 1)), o 30 (.field none 1 (t 1)), o 31 (.call (f 19) [(t 30)]), o 32 (.lit 1 2 [(.string (bstr [])), (.string (bstr []))] [(0, 1, (c (.string (bstr [114, 101, 116])))), (1, 1, (t 31))]), o 2 (.mv (t 32))])
 .ret) .skip))))))))
 (s (.keep [])
 (s (.ops [o 33 (.lit 1 1 [(.string (bstr []))] [(0, 1, (c (.string (bstr [116, 114, 97, 112]))))]), o 2 (.mv (t 33))])
 .ret)))))⟩
theorem refinerylaw05_Last_is : pgF n_refinerylaw05_Last = some refinerylaw05_Last_c := by kernel_rfl
def refinerylaw05_Last_j0 (J : JT (Value × St)) (st : St) := goX J refinerylaw05_Last_c.body [1, 1, 1, 1] (envT []) st
theorem refinerylaw05_Last_eq (K : Ctx) (J : JT (Value × St)) (a0 : Value) (st : St) : atX K J refinerylaw05_Last_c (AM.start [a0]) st =
 (.thn st (sLbox a0 st) fun p1 =>
 .thn p1.2 (sLref p1.1 p1.2) fun p2 =>
 .thn p2.2 (sField none 0 p1.1 p2.2) fun p3 =>
 .thn p3.2 (sBin .eql p3.1 (.int .u8 0) p3.2) fun p4 =>
 condX p4.1
 (.thn p4.2 (sLref p1.1 p4.2) fun p5 =>
 .thn p5.2 (sField none 2 p1.1 p5.2) fun p6 =>
 .thn p6.2 (sCall K (.func (.func n_refinerylaw05_Last_1) #[] #[]) [p6.1] p6.2) fun p7 =>
 .thn p7.2 (sLit 1 2 [(.string (bstr [])), (.string (bstr []))] [(0, 1, (.string (bstr [106, 117, 109, 112]))), (1, 1, p7.1)] p7.2) fun p8 =>
 .ok (p8.1, p8.2))
 (.thn p4.2 (sBin .eql p3.1 (.int .u8 1) p4.2) fun p9 =>
 condX p9.1
 (.thn p9.2 (sLref p1.1 p9.2) fun p10 =>
 .thn p10.2 (sField none 1 p1.1 p10.2) fun p11 =>
 .thn p11.2 (K.go (.call n_refinerylaw05_reg [p11.1]) p11.2) fun p12 =>
 .thn p12.2 (sLref p1.1 p12.2) fun p13 =>
 .thn p13.2 (sField none 2 p1.1 p13.2) fun p14 =>
 Res.need (sStays (List.take 1 (p11.2 :: [])) p12.2.next nothing (fun s => sField none 2 p1.1 s) p14.1) "order" >>= fun _ =>
 .thn p14.2 (sCall K (.func (.func n_refinerylaw05_Last_1) #[] #[]) [p14.1] p14.2) fun p15 =>
 .thn p15.2 (sLref p1.1 p15.2) fun p16 =>
 .thn p16.2 (sField none 3 p1.1 p16.2) fun p17 =>
 Res.need (sStays (List.take 2 (p14.2 :: (p11.2 :: []))) p15.2.next nothing (fun s => sField none 3 p1.1 s) p17.1) "order" >>= fun _ =>
 .thn p17.2 (sCall K (.func (.func n_refinerylaw05_Last_1) #[] #[]) [p17.1] p17.2) fun p18 =>
 .thn p18.2 (sLit 1 6 [(.string (bstr [])), (.string (bstr [])), (.string (bstr [])), (.string (bstr [])), (.string (bstr [])), (.string (bstr []))] [(0, 1, (.string (bstr [98, 114]))), (1, 1, p12.1), (2, 1, (.string (bstr [44]))), (3, 1, p15.1), (4, 1, (.string (bstr [44]))), (5, 1, p18.1)] p18.2) fun p19 =>
 .ok (p19.1, p19.2))
 (.thn p9.2 (sBin .eql p3.1 (.int .u8 2) p9.2) fun p20 =>
 condX p20.1
 (.thn p20.2 (sLref p1.1 p20.2) fun p21 =>
 .thn p21.2 (sField none 1 p1.1 p21.2) fun p22 =>
 .thn p22.2 (K.go (.call n_refinerylaw05_reg [p22.1]) p22.2) fun p23 =>
 .thn p23.2 (sLit 1 2 [(.string (bstr [])), (.string (bstr []))] [(0, 1, (.string (bstr [114, 101, 116]))), (1, 1, p23.1)] p23.2) fun p24 =>
 .ok (p24.1, p24.2))
 (refinerylaw05_Last_j0 J p20.2)))) := by kernel_rfl
theorem refinerylaw05_Last_of : Of1 n_refinerylaw05_Last refinerylaw05_Last_c := fun hF => call_of hF refinerylaw05_Last_is rfl
theorem refinerylaw05_Last_j0_eq (hJ : IsJ K (retK refinerylaw05_Last_c.results) J) (st : St) : refinerylaw05_Last_j0 J st =
 (.thn st (sLit 1 1 [(.string (bstr []))] [(0, 1, (.string (bstr [116, 114, 97, 112])))] st) fun p1 =>
 .ok (p1.1, p1.2)) := gq hJ (by kernel_rfl)
open C in
def refinerylaw03_Label_c : AFun := ⟨9, [.tmp 2],
 (s (.ops [o 2 (.mv (c (i 0)))])
 (s (.ops [o 3 (.mv (t 0)), o 4 (.bin .mul (c (i 3)) (t 3)), o 5 (.mv (t 0)), o 6 (.bin .rem (t 5) (c (i 2))), o 7 (.bin .mul (c (i 7)) (t 6)), o 8 (.bin .add (t 4) (t 7)), o 2 (.mv (t 8))])
 .ret))⟩
theorem refinerylaw03_Label_is : pgF n_refinerylaw03_Label = some refinerylaw03_Label_c := by kernel_rfl
theorem refinerylaw03_Label_eq (K : Ctx) (J : JT (Value × St)) (a0 : Value) (st : St) : atX K J refinerylaw03_Label_c (AM.start [a0]) st =
 (.thn st (sBin .mul (.int .i64 3) a0 st) fun p1 =>
 .thn p1.2 (sBin .rem a0 (.int .i64 2) p1.2) fun p2 =>
 .thn p2.2 (sBin .mul (.int .i64 7) p2.1 p2.2) fun p3 =>
 .thn p3.2 (sBin .add p1.1 p3.1 p3.2) fun p4 =>
 .ok (p4.1, p4.2)) := by kernel_rfl
theorem refinerylaw03_Label_of : Of1 n_refinerylaw03_Label refinerylaw03_Label_c := fun hF => call_of hF refinerylaw03_Label_is rfl
open C in
def refinerylaw03_Block_Last_c : AFun := ⟨3, [.part 6 (some 4)],
 (s (.ops [o 3 (.lbox (t 0)), o 6 (.lnew [(u 0), (i 0), (i 0), (i 0)])])
 (s (.draw [d 11 0 false (o 18 (.lref (t 3))), d 12 0 false (o 19 (.field none 3 (t 3))), d 13 0 false (o 20 (.conv (.int .i64) (t 19))), d 14 0 false (o 21 (.mv (t 2))), d 15 0 false (o 22 (.bin .rem (t 20) (t 21))), d 16 0 true (o 23 (.call (f 26) [(t 22)])), d 17 0 false (o 24 (.lref (t 3))), d 18 1 false (o 25 (.field none 4 (t 3))), d 19 0 false (o 26 (.conv (.int .i64) (t 25))), d 20 0 false (o 27 (.mv (t 2))), d 21 0 false (o 28 (.bin .rem (t 26) (t 27))), d 22 0 true (o 29 (.call (f 26) [(t 28)])), d 0 0 false (o 7 (.lit 1 8 [(u 0), (u 0), (u 0), (u 0), (u 0), (u 0), (u 0), (u 0)] [(0, 1, (c (u 0))), (1, 1, (c (u 1))), (2, 1, (c (u 1))), (3, 1, (c (u 0))), (4, 1, (c (u 1))), (5, 1, (c (u 2))), (6, 1, (c (u 1))), (7, 1, (c (u 3)))])), d 1 0 false (o 8 (.lref (t 3))), d 2 2 false (o 9 (.field none 1 (t 3))), d 3 0 false (o 10 (.bin .rem (t 9) (c (u 8)))), d 4 0 false (o 11 (.ixA 1 none (t 7) (t 10))), d 5 2 false (o 12 (.load none (t 11))), d 6 0 false (o 13 (.lref (t 3))), d 7 2 false (o 14 (.field none 2 (t 3))), d 8 0 false (o 15 (.conv (.int .i64) (t 14))), d 9 0 false (o 16 (.mv (t 1))), d 10 0 false (o 17 (.bin .rem (t 15) (t 16))), d 23 0 false (o 30 (.build [(u 0), (i 0), (i 0), (i 0)] [(0, 1, (t 12)), (1, 1, (t 17)), (2, 1, (t 23)), (3, 1, (t 29))])), d 24 0 true (o 31 (.call (f 18) [(t 30)])), d 25 0 true (o 6 (.upd 4 0 (t 6) (t 31)))])
 .ret))⟩
theorem refinerylaw03_Block_Last_is : pgF n_refinerylaw03_Block_Last = some refinerylaw03_Block_Last_c := by kernel_rfl
theorem refinerylaw03_Block_Last_eq (K : Ctx) (J : JT (Value × St)) (a0 a1 a2 : Value) (st : St) : atX K J refinerylaw03_Block_Last_c (AM.start [a0, a1, a2]) st =
 (.thn st (sLbox a0 st) fun p1 =>
 .thn p1.2 (sLnew [(.int .u8 0), (.int .i64 0), (.int .i64 0), (.int .i64 0)] p1.2) fun p2 =>
 .thn p2.2 (sLref p1.1 p2.2) fun p3 =>
 .thn p3.2 (sField none 3 p1.1 p3.2) fun p4 =>
 .thn p4.2 (sConv (.int .i64) p4.1 p4.2) fun p5 =>
 .thn p5.2 (sBin .rem p5.1 a2 p5.2) fun p6 =>
 .thn p6.2 (K.go (.call n_refinerylaw03_Label [p6.1]) p6.2) fun p7 =>
 .thn p7.2 (sLref p1.1 p7.2) fun p8 =>
 .thn p8.2 (sField none 4 p1.1 p8.2) fun p9 =>
 Res.need (sStays (List.take 1 (p6.2 :: [])) p7.2.next nothing (fun s => sField none 4 p1.1 s) p9.1) "order" >>= fun _ =>
 .thn p9.2 (sConv (.int .i64) p9.1 p9.2) fun p10 =>
 .thn p10.2 (sBin .rem p10.1 a2 p10.2) fun p11 =>
 .thn p11.2 (K.go (.call n_refinerylaw03_Label [p11.1]) p11.2) fun p12 =>
 .thn p12.2 (sLit 1 8 [(.int .u8 0), (.int .u8 0), (.int .u8 0), (.int .u8 0), (.int .u8 0), (.int .u8 0), (.int .u8 0), (.int .u8 0)] [(0, 1, (.int .u8 0)), (1, 1, (.int .u8 1)), (2, 1, (.int .u8 1)), (3, 1, (.int .u8 0)), (4, 1, (.int .u8 1)), (5, 1, (.int .u8 2)), (6, 1, (.int .u8 1)), (7, 1, (.int .u8 3))] p12.2) fun p13 =>
 .thn p13.2 (sLref p1.1 p13.2) fun p14 =>
 .thn p14.2 (sField none 1 p1.1 p14.2) fun p15 =>
 Res.need (sStays (List.take 2 (p11.2 :: (p6.2 :: []))) p12.2.next nothing (fun s => sField none 1 p1.1 s) p15.1) "order" >>= fun _ =>
 .thn p15.2 (sBin .rem p15.1 (.int .u8 8) p15.2) fun p16 =>
 .thn p16.2 (sIxA 1 none p13.1 p16.1 p16.2) fun p17 =>
 .thn p17.2 (sLoad none p17.1 p17.2) fun p18 =>
 Res.need (sStays (List.take 2 (p11.2 :: (p6.2 :: []))) p12.2.next p17.1 (fun s => sLoad none p17.1 s) p18.1) "order" >>= fun _ =>
 .thn p18.2 (sLref p1.1 p18.2) fun p19 =>
 .thn p19.2 (sField none 2 p1.1 p19.2) fun p20 =>
 Res.need (sStays (List.take 2 (p11.2 :: (p6.2 :: []))) p12.2.next nothing (fun s => sField none 2 p1.1 s) p20.1) "order" >>= fun _ =>
 .thn p20.2 (sConv (.int .i64) p20.1 p20.2) fun p21 =>
 .thn p21.2 (sBin .rem p21.1 a1 p21.2) fun p22 =>
 .thn p22.2 (sBuild [(.int .u8 0), (.int .i64 0), (.int .i64 0), (.int .i64 0)] [(0, 1, p18.1), (1, 1, p22.1), (2, 1, p7.1), (3, 1, p12.1)] p22.2) fun p23 =>
 .thn p23.2 (K.go (.call n_ir_Last_Only [p23.1]) p23.2) fun p24 =>
 .thn p24.2 (sUpd 4 0 p2.1 p24.1 p24.2) fun p25 =>
 (sField (some 4) 0 p25.1 p25.2 >>= fun p26 => .ok [p26.1]) >>= fun vs => .ok (oneOf vs, p25.2)) := by kernel_rfl
theorem refinerylaw03_Block_Last_of : Of3 n_refinerylaw03_Block_Last refinerylaw03_Block_Last_c := fun hF => call_of hF refinerylaw03_Block_Last_is rfl
open C in
def slices_ContainsFunc_irBlock_c : AFun := ⟨9, [.tmp 4],
 (s (.ops [o 4 (.mv (c (.bool false)))])
 (s (.ops [o 5 (.mv (t 0)), o 6 (.mv (t 1)), o 7 (.call (f 53) [(t 5), (t 6)]), o 8 (.bin .geq (t 7) (c (i 0))), o 4 (.mv (t 8))])
 .ret))⟩
theorem slices_ContainsFunc_irBlock_is : pgF n_slices_ContainsFunc_irBlock = some slices_ContainsFunc_irBlock_c := by kernel_rfl
theorem slices_ContainsFunc_irBlock_eq (K : Ctx) (J : JT (Value × St)) (a0 a1 : Value) (st : St) : atX K J slices_ContainsFunc_irBlock_c (AM.start [a0, a1]) st =
 (.thn st (K.go (.call n_slices_IndexFunc_irBlock [a0, a1]) st) fun p1 =>
 .thn p1.2 (sBin .geq p1.1 (.int .i64 0) p1.2) fun p2 =>
 .ok (p2.1, p2.2)) := by kernel_rfl
theorem slices_ContainsFunc_irBlock_of : Of2 n_slices_ContainsFunc_irBlock slices_ContainsFunc_irBlock_c := fun hF => call_of hF slices_ContainsFunc_irBlock_is rfl
open C in
def ir_Program_Plain_1_c : AFun := ⟨1, [.tmp 2],
 (s (.ops [o 1 (.lbox (t 0)), o 2 (.mv (c (.bool false)))])
 (s (.ops [o 3 (.lref (t 1)), o 4 (.field none 1 (t 1)), o 5 (.len .slice (t 4)), o 6 (.bin .gtr (t 5) (c (i 0))), o 2 (.mv (t 6))])
 .ret))⟩
theorem ir_Program_Plain_1_is : pgF n_ir_Program_Plain_1 = some ir_Program_Plain_1_c := by kernel_rfl
theorem ir_Program_Plain_1_eq (K : Ctx) (J : JT (Value × St)) (a0 : Value) (st : St) : atX K J ir_Program_Plain_1_c (AM.start [a0]) st =
 (.thn st (sLbox a0 st) fun p1 =>
 .thn p1.2 (sLref p1.1 p1.2) fun p2 =>
 .thn p2.2 (sField none 1 p1.1 p2.2) fun p3 =>
 .thn p3.2 (sLen .slice p3.1 p3.2) fun p4 =>
 .thn p4.2 (sBin .gtr p4.1 (.int .i64 0) p4.2) fun p5 =>
 .ok (p5.1, p5.2)) := by kernel_rfl
theorem ir_Program_Plain_1_of : Of1 n_ir_Program_Plain_1 ir_Program_Plain_1_c := fun hF => call_of hF ir_Program_Plain_1_is rfl
open C in
def refinerylaw05_Last_1_c : AFun := ⟨6, [.tmp 2],
 (s (.ops [o 2 (.mv (c (.string (bstr []))))])
 (s (.ops [o 3 (.mv (t 0)), o 4 (.call (f 20) [(t 3)]), o 5 (.bin .add (c (.string (bstr [64]))) (t 4)), o 2 (.mv (t 5))])
 .ret))⟩
theorem refinerylaw05_Last_1_is : pgF n_refinerylaw05_Last_1 = some refinerylaw05_Last_1_c := by kernel_rfl
theorem refinerylaw05_Last_1_eq (K : Ctx) (J : JT (Value × St)) (a0 : Value) (st : St) : atX K J refinerylaw05_Last_1_c (AM.start [a0]) st =
 (.thn st (K.go (.call n_refinerylaw05_number [a0]) st) fun p1 =>
 .thn p1.2 (sBin .add (.string (bstr [64])) p1.1 p1.2) fun p2 =>
 .ok (p2.1, p2.2)) := by kernel_rfl
theorem refinerylaw05_Last_1_of : Of1 n_refinerylaw05_Last_1 refinerylaw05_Last_1_c := fun hF => call_of hF refinerylaw05_Last_1_is rfl
open C in
def slices_IndexFunc_irBlock_c : AFun := ⟨19, [.tmp 4],
 (s (.ops [o 4 (.mv (c (i 0)))])
 (s (s (.ops [o 6 (.mv (t 0)), o 7 (.len .slice (t 6)), o 8 (.mv (c (i 0)))])
 (.block 0 (s (.keep [0, 1, 7, 8])
 (.loop (s (s (.ops [o 9 (.bin .lss (t 8) (t 7))])
 (s (.cond (t 9) .skip (.exit 0))
 (s (.keep [0, 1, 7, 8])
 (s (.block 1 (s (.ops [o 10 (.mv (t 8)), o 5 (.mv (t 10))])
 (s (.ops [o 11 (.mv (t 1)), o 12 (.mv (t 0)), o 13 (.mv (t 5)), o 14 (.ixA 7 none (t 12) (t 13)), o 15 (.load (some 7) (t 14)), o 16 (.call (t 11) [(t 15)])])
 (.cond (t 16) (s (.ops [o 17 (.mv (t 5)), o 4 (.mv (t 17))])
 .ret) .skip))))
 (s (.keep [0, 1, 7, 8])
 (.ops [o 18 (.bin .add (t 8) (c (i 1))), o 8 (.mv (t 18))]))))))
 (.keep [0, 1, 7, 8]))))))
 (s (.keep [])
 (s (.ops [o 4 (.mv (c (i (-1))))])
 .ret))))⟩
theorem slices_IndexFunc_irBlock_is : pgF n_slices_IndexFunc_irBlock = some slices_IndexFunc_irBlock_c := by kernel_rfl
def slices_IndexFunc_irBlock_l0 (J : JT (Value × St)) (v0 v1 v7 v8 : Value) (st : St) := lpX J slices_IndexFunc_irBlock_c.body [1, 0, 1, 0, 1] (envT [(0, v0), (1, v1), (7, v7), (8, v8)]) st
def slices_IndexFunc_irBlock_j0 (J : JT (Value × St)) (v0 v1 v7 v8 : Value) (st : St) := goX J slices_IndexFunc_irBlock_c.body [1, 0, 1, 0, 1, 0, 0, 1, 1, 1] (envT [(0, v0), (1, v1), (7, v7), (8, v8)]) st
def slices_IndexFunc_irBlock_j1 (J : JT (Value × St)) (st : St) := goX J slices_IndexFunc_irBlock_c.body [1, 1, 1] (envT []) st
def slices_IndexFunc_irBlock_j2 (J : JT (Value × St)) (v0 v1 v7 v8 : Value) (st : St) := goX J slices_IndexFunc_irBlock_c.body [1, 0, 1, 0, 1, 0, 0, 1, 1, 1, 1, 1] (envT [(0, v0), (1, v1), (7, v7), (8, v8)]) st
theorem slices_IndexFunc_irBlock_eq (K : Ctx) (J : JT (Value × St)) (a0 a1 : Value) (st : St) : atX K J slices_IndexFunc_irBlock_c (AM.start [a0, a1]) st =
 (.thn st (sLen .slice a0 st) fun p1 =>
 slices_IndexFunc_irBlock_l0 J a0 a1 p1.1 (.int .i64 0) p1.2) := by kernel_rfl
theorem slices_IndexFunc_irBlock_of : Of2 n_slices_IndexFunc_irBlock slices_IndexFunc_irBlock_c := fun hF => call_of hF slices_IndexFunc_irBlock_is rfl
theorem slices_IndexFunc_irBlock_l0_eq (K : Ctx) (J : JT (Value × St)) (v0 v1 v7 v8 : Value) (st : St) : inX K J (retK slices_IndexFunc_irBlock_c.results) slices_IndexFunc_irBlock_c.body [1, 0, 1, 0, 1] (envT [(0, v0), (1, v1), (7, v7), (8, v8)]) st =
 (.thn st (sBin .lss v8 v7 st) fun p1 =>
 condX p1.1
 (slices_IndexFunc_irBlock_j0 J v0 v1 v7 v8 p1.2)
 (slices_IndexFunc_irBlock_j1 J p1.2)) := by kernel_rfl
theorem slices_IndexFunc_irBlock_l0_of (hF : Fix pgF K) (hJ : IsJ K (retK slices_IndexFunc_irBlock_c.results) J) {v0 v1 v7 v8 : Value} (h : Ok (inX K J (retK slices_IndexFunc_irBlock_c.results) slices_IndexFunc_irBlock_c.body [1, 0, 1, 0, 1] (envT [(0, v0), (1, v1), (7, v7), (8, v8)]) st) Q) : Ok (slices_IndexFunc_irBlock_l0 J v0 v1 v7 v8 st) Q := loop_of hF hJ h
theorem slices_IndexFunc_irBlock_j0_eq (hJ : IsJ K (retK slices_IndexFunc_irBlock_c.results) J) (v0 v1 v7 v8 : Value) (st : St) : slices_IndexFunc_irBlock_j0 J v0 v1 v7 v8 st =
 (.thn st (sIxA 7 none v0 v8 st) fun p1 =>
 .thn p1.2 (sLoad (some 7) p1.1 p1.2) fun p2 =>
 .thn p2.2 (sCall K v1 [p2.1] p2.2) fun p3 =>
 condX p3.1
 (.ok (v8, p3.2))
 (slices_IndexFunc_irBlock_j2 J v0 v1 v7 v8 p3.2)) := gq hJ (by kernel_rfl)
theorem slices_IndexFunc_irBlock_j1_eq (hJ : IsJ K (retK slices_IndexFunc_irBlock_c.results) J) (st : St) : slices_IndexFunc_irBlock_j1 J st =
 (.ok ((.int .i64 (-1)), st)) := gq hJ (by kernel_rfl)
theorem slices_IndexFunc_irBlock_j2_eq (hJ : IsJ K (retK slices_IndexFunc_irBlock_c.results) J) (v0 v1 v7 v8 : Value) (st : St) : slices_IndexFunc_irBlock_j2 J v0 v1 v7 v8 st =
 (.thn st (sBin .add v8 (.int .i64 1) st) fun p1 =>
 slices_IndexFunc_irBlock_l0 J v0 v1 v7 p1.1 p1.2) := gq hJ (by kernel_rfl)
end
end Go.Proofs.YtdjfndijbnpkpaaDoor.Sh
