/-
  The functions of the program, operation by operation, as the abstract machine has them.
-/
import Derived.Test.YtenfblnmmmppbaaProg
import Derived.Test.YtenfblnmmmppbaaShN
set_option linter.unusedVariables false
set_option maxRecDepth 100000
namespace Go.Proofs.Ytenfblnmmmppbaa.Sh
open Go Go.AM Go.Proofs

/-! ### refinery/refinerylaw21.Awake -/
open C in
noncomputable def refinerylaw21_Awake_c : AFun := ⟨0, [.tmp 0],
 (s (.ops [o 0 (.mv (c (.bool false)))])
 (s (.ops [o 3 (.build [(u 0), (u 0), (i 0), (i 0), (i 0), (i 0), (i 0)] [(2, 1, (c (i 0))), (5, 1, (c (i 5)))]), o 4 (.build [(u 0), (u 0), (i 0), (i 0), (i 0), (i 0), (i 0)] [(0, 1, (c (u 3))), (2, 1, (c (i 1)))]), o 5 (.lit 7 2 [(u 0), (u 0), (i 0), (i 0), (i 0), (i 0), (i 0), (u 0), (u 0), (i 0), (i 0), (i 0), (i 0), (i 0)] [(0, 7, (t 3)), (7, 7, (t 4))]), o 6 (.build [(u 0), (i 0), (i 0), (i 0)] [(0, 1, (c (u 3)))]), o 7 (.build [(i 0), (.slice none 0 0), (.slice none 0 0), (u 0), (i 0), (i 0), (i 0)] [(2, 1, (t 5)), (3, 4, (t 6))]), o 8 (.lit 7 1 [(i 0), (.slice none 0 0), (.slice none 0 0), (u 0), (i 0), (i 0), (i 0)] [(0, 7, (t 7))]), o 9 (.build [(.slice none 0 0)] [(0, 1, (t 8))]), o 1 (.lnew [(.slice none 0 0)]), o 1 (.upd 1 0 (t 1) (t 9))])
 (s (.ops [o 10 (.field (some 1) 0 (t 1)), o 11 (.call (f 20) [(t 10)]), o 2 (.lnew [(.slice none 0 0)]), o 2 (.upd 1 0 (t 2) (t 11))])
 (s (.ops [o 12 (.lref (t 2)), o 13 (.field none 0 (t 2)), o 14 (.len .slice (t 13)), o 15 (.bin .eql (t 14) (c (i 1))), o 16 (.mv (t 15)), g 17 true 16 (.lref (t 2)), g 18 true 16 (.field none 0 (t 2)), g 19 true 16 (.ixA 7 none (t 18) (c (i 0))), g 20 true 16 (.off 2 (t 19)), g 21 true 16 (.load none (t 20)), g 22 true 16 (.len .slice (t 21)), g 23 true 16 (.bin .eql (t 22) (c (i 1))), o 24 (.pick (t 16) (t 23) (c (.bool false))), o 25 (.mv (t 24)), g 26 true 25 (.lref (t 2)), g 27 true 25 (.field none 0 (t 2)), g 28 true 25 (.ixA 7 none (t 27) (c (i 0))), g 29 true 25 (.off 2 (t 28)), g 30 true 25 (.load none (t 29)), g 31 true 25 (.ixA 7 none (t 30) (c (i 0))), g 32 true 25 (.off 0 (t 31)), g 33 true 25 (.load none (t 32)), g 34 true 25 (.bin .eql (t 33) (c (u 3))), o 35 (.pick (t 25) (t 34) (c (.bool false))), o 0 (.mv (t 35))])
 .ret))))⟩
theorem refinerylaw21_Awake_is : pgF n_refinerylaw21_Awake = some refinerylaw21_Awake_c := by kernel_rfl
theorem refinerylaw21_Awake_eq (K : Ctx) (J : JT (Value × St)) (st : St) : atX K J refinerylaw21_Awake_c (AM.start []) st =
  (.thn st (sBuild [(.int .u8 0), (.int .u8 0), (.int .i64 0), (.int .i64 0), (.int .i64 0), (.int .i64 0), (.int .i64 0)] [(2, 1, (.int .i64 0)), (5, 1, (.int .i64 5))] st) fun p1 =>
  .thn p1.2 (sBuild [(.int .u8 0), (.int .u8 0), (.int .i64 0), (.int .i64 0), (.int .i64 0), (.int .i64 0), (.int .i64 0)] [(0, 1, (.int .u8 3)), (2, 1, (.int .i64 1))] p1.2) fun p2 =>
  .thn p2.2 (sLit 7 2 [(.int .u8 0), (.int .u8 0), (.int .i64 0), (.int .i64 0), (.int .i64 0), (.int .i64 0), (.int .i64 0), (.int .u8 0), (.int .u8 0), (.int .i64 0), (.int .i64 0), (.int .i64 0), (.int .i64 0), (.int .i64 0)] [(0, 7, p1.1), (7, 7, p2.1)] p2.2) fun p3 =>
  .thn p3.2 (sBuild [(.int .u8 0), (.int .i64 0), (.int .i64 0), (.int .i64 0)] [(0, 1, (.int .u8 3))] p3.2) fun p4 =>
  .thn p4.2 (sBuild [(.int .i64 0), (.slice none 0 0), (.slice none 0 0), (.int .u8 0), (.int .i64 0), (.int .i64 0), (.int .i64 0)] [(2, 1, p3.1), (3, 4, p4.1)] p4.2) fun p5 =>
  .thn p5.2 (sLit 7 1 [(.int .i64 0), (.slice none 0 0), (.slice none 0 0), (.int .u8 0), (.int .i64 0), (.int .i64 0), (.int .i64 0)] [(0, 7, p5.1)] p5.2) fun p6 =>
  .thn p6.2 (sBuild [(.slice none 0 0)] [(0, 1, p6.1)] p6.2) fun p7 =>
  .thn p7.2 (sLnew [(.slice none 0 0)] p7.2) fun p8 =>
  .thn p8.2 (sUpd 1 0 p8.1 p7.1 p8.2) fun p9 =>
  .thn p9.2 (sField (some 1) 0 p9.1 p9.2) fun p10 =>
  .thn p10.2 (K.go (.call n_sweep_Sweep [p10.1]) p10.2) fun p11 =>
  .thn p11.2 (sLnew [(.slice none 0 0)] p11.2) fun p12 =>
  .thn p12.2 (sUpd 1 0 p12.1 p11.1 p12.2) fun p13 =>
  .thn p13.2 (sLref p13.1 p13.2) fun p14 =>
  .thn p14.2 (sField none 0 p13.1 p14.2) fun p15 =>
  .thn p15.2 (sLen .slice p15.1 p15.2) fun p16 =>
  .thn p16.2 (sBin .eql p16.1 (.int .i64 1) p16.2) fun p17 =>
  .thn p17.2 (sG p17.1 true (sLref p13.1 p17.2) p17.2) fun p18 =>
  .thn p18.2 (sG p17.1 true (sField none 0 p13.1 p18.2) p18.2) fun p19 =>
  .thn p19.2 (sG p17.1 true (sIxA 7 none p19.1 (.int .i64 0) p19.2) p19.2) fun p20 =>
  .thn p20.2 (sG p17.1 true (sOff 2 p20.1 p20.2) p20.2) fun p21 =>
  .thn p21.2 (sG p17.1 true (sLoad none p21.1 p21.2) p21.2) fun p22 =>
  .thn p22.2 (sG p17.1 true (sLen .slice p22.1 p22.2) p22.2) fun p23 =>
  .thn p23.2 (sG p17.1 true (sBin .eql p23.1 (.int .i64 1) p23.2) p23.2) fun p24 =>
  .thn p24.2 (sPick p17.1 p24.1 (.bool false) p24.2) fun p25 =>
  .thn p25.2 (sG p25.1 true (sLref p13.1 p25.2) p25.2) fun p26 =>
  .thn p26.2 (sG p25.1 true (sField none 0 p13.1 p26.2) p26.2) fun p27 =>
  .thn p27.2 (sG p25.1 true (sIxA 7 none p27.1 (.int .i64 0) p27.2) p27.2) fun p28 =>
  .thn p28.2 (sG p25.1 true (sOff 2 p28.1 p28.2) p28.2) fun p29 =>
  .thn p29.2 (sG p25.1 true (sLoad none p29.1 p29.2) p29.2) fun p30 =>
  .thn p30.2 (sG p25.1 true (sIxA 7 none p30.1 (.int .i64 0) p30.2) p30.2) fun p31 =>
  .thn p31.2 (sG p25.1 true (sOff 0 p31.1 p31.2) p31.2) fun p32 =>
  .thn p32.2 (sG p25.1 true (sLoad none p32.1 p32.2) p32.2) fun p33 =>
  .thn p33.2 (sG p25.1 true (sBin .eql p33.1 (.int .u8 3) p33.2) p33.2) fun p34 =>
  .thn p34.2 (sPick p25.1 p34.1 (.bool false) p34.2) fun p35 =>
  .ok (p35.1, p35.2)) := by kernel_rfl
theorem refinerylaw21_Awake_of {K : Ctx} (hF : Fix pgF K) {st : St} {Q : Value × St → Prop} (h : ∀ J, IsJ K (retK refinerylaw21_Awake_c.results) J → Ok (atX K J refinerylaw21_Awake_c (AM.start []) st) Q) : Ok (K.go (.call n_refinerylaw21_Awake []) st) Q := call_of hF refinerylaw21_Awake_is rfl h

/-! ### refinery/sweep.Does -/
open C in
noncomputable def sweep_Does_c : AFun := ⟨1, [.tmp 2],
 (s (.ops [o 1 (.lbox (t 0)), o 2 (.mv (c (.bool false)))])
 (s (.ops [o 3 (.field (some 7) 0 (t 1)), o 4 (.call (f 21) [(t 3)]), o 5 (.un .not (t 4)), o 6 (.mv (t 5)), g 7 true 6 (.lref (t 1)), g 8 true 6 (.field none 0 (t 1)), g 9 true 6 (.bin .neq (t 8) (c (u 5))), o 10 (.pick (t 6) (t 9) (c (.bool false))), o 2 (.mv (t 10))])
 .ret))⟩
theorem sweep_Does_is : pgF n_sweep_Does = some sweep_Does_c := by kernel_rfl
theorem sweep_Does_eq (K : Ctx) (J : JT (Value × St)) (a0 : Value) (st : St) : atX K J sweep_Does_c (AM.start [a0]) st =
  (.thn st (sLbox a0 st) fun p1 =>
  .thn p1.2 (sField (some 7) 0 p1.1 p1.2) fun p2 =>
  .thn p2.2 (K.go (.call n_ir_Instr_Pure [p2.1]) p2.2) fun p3 =>
  .thn p3.2 (sUn .not p3.1 p3.2) fun p4 =>
  .thn p4.2 (sG p4.1 true (sLref p1.1 p4.2) p4.2) fun p5 =>
  .thn p5.2 (sG p4.1 true (sField none 0 p1.1 p5.2) p5.2) fun p6 =>
  .thn p6.2 (sG p4.1 true (sBin .neq p6.1 (.int .u8 5) p6.2) p6.2) fun p7 =>
  .thn p7.2 (sPick p4.1 p7.1 (.bool false) p7.2) fun p8 =>
  .ok (p8.1, p8.2)) := by kernel_rfl
theorem sweep_Does_of {K : Ctx} (hF : Fix pgF K) {a0 : Value} {st : St} {Q : Value × St → Prop} (h : ∀ J, IsJ K (retK sweep_Does_c.results) J → Ok (atX K J sweep_Does_c (AM.start [a0]) st) Q) : Ok (K.go (.call n_sweep_Does [a0]) st) Q := call_of hF sweep_Does_is rfl h

/-! ### refinery/sweep.Sweep -/
open C in
noncomputable def sweep_Sweep_c : AFun := ⟨1, [.part 2 (some 1)],
 (s (.ops [o 1 (.lbox (t 0)), o 2 (.lnew [(.slice none 0 0)])])
 (s (s (.ops [o 14 (.field (some 1) 0 (t 1)), o 15 (.call (f 23) [(t 14)]), o 16 (.bin .neq (t 15) (c (i 0)))])
 (.cond (t 16) (s (.ops [o 17 (.field (some 1) 0 (t 1)), o 18 (.call (f 33) [(t 17)]), o 2 (.upd 1 0 (t 2) (t 18))])
 .ret) .skip))
 (s (.keep [1, 2])
 (s (.ops [o 19 (.field (some 1) 0 (t 1)), o 20 (.call (f 44) [(t 19)]), o 3 (.lnew [(.slice none 0 0)]), o 3 (.upd 1 0 (t 3) (t 20))])
 (s (.ops [o 21 (.field (some 1) 0 (t 1)), o 22 (.call (f 33) [(t 21)]), o 1 (.upd 1 0 (t 1) (t 22))])
 (s (s (.ops [o 23 (.lref (t 1)), o 24 (.field none 0 (t 1)), o 25 (.len .slice (t 24)), o 26 (.mv (c (i 0)))])
 (.block 0 (s (.keep [1, 2, 3, 25, 26])
 (.loop (s (s (.ops [o 27 (.bin .lss (t 26) (t 25))])
 (s (.cond (t 27) .skip (.exit 0))
 (s (.keep [1, 2, 3, 25, 26])
 (s (.block 1 (s (.ops [o 28 (.mv (t 26)), o 4 (.mv (t 28))])
 (s (.ops [o 29 (.lref (t 1)), o 30 (.field none 0 (t 1)), o 31 (.mv (t 4)), o 32 (.ixA 7 none (t 30) (t 31)), o 5 (.mv (t 32))])
 (s (.ops [o 6 (.mv (c (.slice none 0 0)))])
 (s (s (.ops [o 33 (.mv (t 5)), o 34 (.nilc (t 33)), o 35 (.off 1 (t 34)), o 36 (.load none (t 35)), o 37 (.len .slice (t 36)), o 38 (.mv (c (i 0)))])
 (.block 2 (s (.keep [1, 2, 3, 5, 6, 25, 26, 36, 37, 38])
 (.loop (s (s (.ops [o 39 (.bin .lss (t 38) (t 37))])
 (s (.cond (t 39) .skip (.exit 2))
 (s (.keep [1, 2, 3, 5, 6, 25, 26, 36, 37, 38])
 (s (.block 3 (s (.ops [o 40 (.ixA 3 none (t 36) (t 38)), o 41 (.load (some 3) (t 40)), o 8 (.lnew [(i 0), (.slice none 0 0), (.slice none 0 0)]), o 8 (.upd 3 0 (t 8) (t 41))])
 (s (.ops [o 42 (.field (some 1) 0 (t 3)), o 43 (.lref (t 8)), o 44 (.field none 0 (t 8)), o 45 (.call (f 45) [(t 42), (t 44)])])
 (.cond (t 45) (.ops [o 46 (.mv (t 6)), o 47 (.field (some 3) 0 (t 8)), o 48 (.lit 3 1 [(i 0), (.slice none 0 0), (.slice none 0 0)] [(0, 3, (t 47))]), o 49 (.append 3 56 (t 46) (t 48)), o 6 (.mv (t 49))]) .skip))))
 (s (.keep [1, 2, 3, 5, 6, 25, 26, 36, 37, 38])
 (.ops [o 50 (.bin .add (t 38) (c (i 1))), o 38 (.mv (t 50))]))))))
 (.keep [1, 2, 3, 5, 6, 25, 26, 36, 37, 38]))))))
 (s (.keep [1, 2, 3, 5, 6, 25, 26])
 (s (.ops [o 9 (.mv (c (.slice none 0 0)))])
 (s (s (.ops [o 51 (.mv (t 5)), o 52 (.nilc (t 51)), o 53 (.off 2 (t 52)), o 54 (.load none (t 53)), o 55 (.len .slice (t 54)), o 56 (.mv (c (i 0)))])
 (.block 4 (s (.keep [1, 2, 3, 5, 6, 9, 25, 26, 54, 55, 56])
 (.loop (s (s (.ops [o 57 (.bin .lss (t 56) (t 55))])
 (s (.cond (t 57) .skip (.exit 4))
 (s (.keep [1, 2, 3, 5, 6, 9, 25, 26, 54, 55, 56])
 (s (.block 5 (s (.ops [o 58 (.ixA 7 none (t 54) (t 56)), o 59 (.load (some 7) (t 58)), o 11 (.lnew [(u 0), (u 0), (i 0), (i 0), (i 0), (i 0), (i 0)]), o 11 (.upd 7 0 (t 11) (t 59))])
 (s (.ops [o 61 (.field (some 7) 0 (t 11)), o 62 (.call (f 12) [(t 61)]), o 60 (.mv (t 62)), o 63 (.extract (t 60) 0), o 64 (.extract (t 60) 1), o 12 (.mv (t 63)), o 13 (.mv (t 64))])
 (s (.ops [o 65 (.mv (t 13)), o 66 (.un .not (t 65)), o 67 (.mv (t 66)), g 68 false 67 (.field (some 7) 0 (t 11)), g 69 false 67 (.call (f 8) [(t 68)]), o 70 (.pick (t 67) (c (.bool true)) (t 69)), o 71 (.mv (t 70)), g 72 false 71 (.field (some 1) 0 (t 3)), g 73 false 71 (.mv (t 12)), g 74 false 71 (.call (f 45) [(t 72), (t 73)]), o 75 (.pick (t 71) (c (.bool true)) (t 74))])
 (.cond (t 75) (.ops [o 76 (.mv (t 9)), o 77 (.field (some 7) 0 (t 11)), o 78 (.lit 7 1 [(u 0), (u 0), (i 0), (i 0), (i 0), (i 0), (i 0)] [(0, 7, (t 77))]), o 79 (.append 7 48 (t 76) (t 78)), o 9 (.mv (t 79))]) .skip)))))
 (s (.keep [1, 2, 3, 5, 6, 9, 25, 26, 54, 55, 56])
 (.ops [o 80 (.bin .add (t 56) (c (i 1))), o 56 (.mv (t 80))]))))))
 (.keep [1, 2, 3, 5, 6, 9, 25, 26, 54, 55, 56]))))))
 (s (.keep [1, 2, 3, 5, 6, 9, 25, 26])
 (.ops [o 81 (.mv (t 5)), o 82 (.mv (t 5)), o 83 (.mv (t 6)), o 84 (.mv (t 9)), o 85 (.nilc (t 81)), o 86 (.off 1 (t 85)), n (.store 1 (t 86) (t 83)), o 87 (.nilc (t 82)), o 88 (.off 2 (t 87)), n (.store 1 (t 88) (t 84))]))))))))))
 (s (.keep [1, 2, 3, 25, 26])
 (.ops [o 89 (.bin .add (t 26) (c (i 1))), o 26 (.mv (t 89))]))))))
 (.keep [1, 2, 3, 25, 26]))))))
 (s (.keep [1, 2])
 (s (.ops [o 90 (.field (some 1) 0 (t 1)), o 2 (.upd 1 0 (t 2) (t 90))])
 .ret))))))))⟩
theorem sweep_Sweep_is : pgF n_sweep_Sweep = some sweep_Sweep_c := by kernel_rfl
noncomputable def sweep_Sweep_j0 (J : JT (Value × St)) (v1 : Value) (v2 : Value) (st : St) : Res (Value × St) := goX J sweep_Sweep_c.body [1, 1, 1] (envT [(1, v1), (2, v2)]) st
noncomputable def sweep_Sweep_l0 (J : JT (Value × St)) (v1 : Value) (v2 : Value) (v3 : Value) (v25 : Value) (v26 : Value) (st : St) : Res (Value × St) := lpX J sweep_Sweep_c.body [1, 1, 1, 1, 1, 0, 1, 0, 1] (envT [(1, v1), (2, v2), (3, v3), (25, v25), (26, v26)]) st
noncomputable def sweep_Sweep_j1 (J : JT (Value × St)) (v1 : Value) (v2 : Value) (v3 : Value) (v25 : Value) (v26 : Value) (st : St) : Res (Value × St) := goX J sweep_Sweep_c.body [1, 1, 1, 1, 1, 0, 1, 0, 1, 0, 0, 1, 1, 1] (envT [(1, v1), (2, v2), (3, v3), (25, v25), (26, v26)]) st
noncomputable def sweep_Sweep_j2 (J : JT (Value × St)) (v1 : Value) (v2 : Value) (st : St) : Res (Value × St) := goX J sweep_Sweep_c.body [1, 1, 1, 1, 1, 1, 1] (envT [(1, v1), (2, v2)]) st
noncomputable def sweep_Sweep_l1 (J : JT (Value × St)) (v1 : Value) (v2 : Value) (v3 : Value) (v5 : Value) (v6 : Value) (v25 : Value) (v26 : Value) (v36 : Value) (v37 : Value) (v38 : Value) (st : St) : Res (Value × St) := lpX J sweep_Sweep_c.body [1, 1, 1, 1, 1, 0, 1, 0, 1, 0, 0, 1, 1, 1, 0, 0, 1, 1, 1, 0, 1, 0, 1] (envT [(1, v1), (2, v2), (3, v3), (5, v5), (6, v6), (25, v25), (26, v26), (36, v36), (37, v37), (38, v38)]) st
noncomputable def sweep_Sweep_j3 (J : JT (Value × St)) (v1 : Value) (v2 : Value) (v3 : Value) (v5 : Value) (v6 : Value) (v25 : Value) (v26 : Value) (v36 : Value) (v37 : Value) (v38 : Value) (st : St) : Res (Value × St) := goX J sweep_Sweep_c.body [1, 1, 1, 1, 1, 0, 1, 0, 1, 0, 0, 1, 1, 1, 0, 0, 1, 1, 1, 0, 1, 0, 1, 0, 0, 1, 1, 1] (envT [(1, v1), (2, v2), (3, v3), (5, v5), (6, v6), (25, v25), (26, v26), (36, v36), (37, v37), (38, v38)]) st
noncomputable def sweep_Sweep_j4 (J : JT (Value × St)) (v1 : Value) (v2 : Value) (v3 : Value) (v5 : Value) (v6 : Value) (v25 : Value) (v26 : Value) (st : St) : Res (Value × St) := goX J sweep_Sweep_c.body [1, 1, 1, 1, 1, 0, 1, 0, 1, 0, 0, 1, 1, 1, 0, 0, 1, 1, 1, 1, 1] (envT [(1, v1), (2, v2), (3, v3), (5, v5), (6, v6), (25, v25), (26, v26)]) st
noncomputable def sweep_Sweep_j5 (J : JT (Value × St)) (v1 : Value) (v2 : Value) (v3 : Value) (v5 : Value) (v6 : Value) (v25 : Value) (v26 : Value) (v36 : Value) (v37 : Value) (v38 : Value) (st : St) : Res (Value × St) := goX J sweep_Sweep_c.body [1, 1, 1, 1, 1, 0, 1, 0, 1, 0, 0, 1, 1, 1, 0, 0, 1, 1, 1, 0, 1, 0, 1, 0, 0, 1, 1, 1, 1, 1] (envT [(1, v1), (2, v2), (3, v3), (5, v5), (6, v6), (25, v25), (26, v26), (36, v36), (37, v37), (38, v38)]) st
noncomputable def sweep_Sweep_l2 (J : JT (Value × St)) (v1 : Value) (v2 : Value) (v3 : Value) (v5 : Value) (v6 : Value) (v9 : Value) (v25 : Value) (v26 : Value) (v54 : Value) (v55 : Value) (v56 : Value) (st : St) : Res (Value × St) := lpX J sweep_Sweep_c.body [1, 1, 1, 1, 1, 0, 1, 0, 1, 0, 0, 1, 1, 1, 0, 0, 1, 1, 1, 1, 1, 1, 0, 1, 0, 1] (envT [(1, v1), (2, v2), (3, v3), (5, v5), (6, v6), (9, v9), (25, v25), (26, v26), (54, v54), (55, v55), (56, v56)]) st
noncomputable def sweep_Sweep_j6 (J : JT (Value × St)) (v1 : Value) (v2 : Value) (v3 : Value) (v5 : Value) (v6 : Value) (v9 : Value) (v25 : Value) (v26 : Value) (v54 : Value) (v55 : Value) (v56 : Value) (st : St) : Res (Value × St) := goX J sweep_Sweep_c.body [1, 1, 1, 1, 1, 0, 1, 0, 1, 0, 0, 1, 1, 1, 0, 0, 1, 1, 1, 1, 1, 1, 0, 1, 0, 1, 0, 0, 1, 1, 1] (envT [(1, v1), (2, v2), (3, v3), (5, v5), (6, v6), (9, v9), (25, v25), (26, v26), (54, v54), (55, v55), (56, v56)]) st
noncomputable def sweep_Sweep_j7 (J : JT (Value × St)) (v1 : Value) (v2 : Value) (v3 : Value) (v5 : Value) (v6 : Value) (v9 : Value) (v25 : Value) (v26 : Value) (st : St) : Res (Value × St) := goX J sweep_Sweep_c.body [1, 1, 1, 1, 1, 0, 1, 0, 1, 0, 0, 1, 1, 1, 0, 0, 1, 1, 1, 1, 1, 1, 1, 1] (envT [(1, v1), (2, v2), (3, v3), (5, v5), (6, v6), (9, v9), (25, v25), (26, v26)]) st
noncomputable def sweep_Sweep_j8 (J : JT (Value × St)) (v1 : Value) (v2 : Value) (v3 : Value) (v5 : Value) (v6 : Value) (v9 : Value) (v25 : Value) (v26 : Value) (v54 : Value) (v55 : Value) (v56 : Value) (st : St) : Res (Value × St) := goX J sweep_Sweep_c.body [1, 1, 1, 1, 1, 0, 1, 0, 1, 0, 0, 1, 1, 1, 0, 0, 1, 1, 1, 1, 1, 1, 0, 1, 0, 1, 0, 0, 1, 1, 1, 1, 1] (envT [(1, v1), (2, v2), (3, v3), (5, v5), (6, v6), (9, v9), (25, v25), (26, v26), (54, v54), (55, v55), (56, v56)]) st
noncomputable def sweep_Sweep_j9 (J : JT (Value × St)) (v1 : Value) (v2 : Value) (v3 : Value) (v25 : Value) (v26 : Value) (st : St) : Res (Value × St) := goX J sweep_Sweep_c.body [1, 1, 1, 1, 1, 0, 1, 0, 1, 0, 0, 1, 1, 1, 1, 1] (envT [(1, v1), (2, v2), (3, v3), (25, v25), (26, v26)]) st
theorem sweep_Sweep_eq (K : Ctx) (J : JT (Value × St)) (a0 : Value) (st : St) : atX K J sweep_Sweep_c (AM.start [a0]) st =
  (.thn st (sLbox a0 st) fun p1 =>
  .thn p1.2 (sLnew [(.slice none 0 0)] p1.2) fun p2 =>
  .thn p2.2 (sField (some 1) 0 p1.1 p2.2) fun p3 =>
  .thn p3.2 (K.go (.call n_ir_Program_Check [p3.1]) p3.2) fun p4 =>
  .thn p4.2 (sBin .neq p4.1 (.int .i64 0) p4.2) fun p5 =>
  condX p5.1
  (.thn p5.2 (sField (some 1) 0 p1.1 p5.2) fun p6 =>
  .thn p6.2 (K.go (.call n_ir_Program_Clone [p6.1]) p6.2) fun p7 =>
  .thn p7.2 (sUpd 1 0 p2.1 p7.1 p7.2) fun p8 =>
  (sField (some 1) 0 p8.1 p8.2 >>= fun p9 => .ok [p9.1]) >>= fun vs => .ok (oneOf vs, p8.2))
  (sweep_Sweep_j0 J p1.1 p2.1 p5.2)) := by kernel_rfl
theorem sweep_Sweep_of {K : Ctx} (hF : Fix pgF K) {a0 : Value} {st : St} {Q : Value × St → Prop} (h : ∀ J, IsJ K (retK sweep_Sweep_c.results) J → Ok (atX K J sweep_Sweep_c (AM.start [a0]) st) Q) : Ok (K.go (.call n_sweep_Sweep [a0]) st) Q := call_of hF sweep_Sweep_is rfl h
theorem sweep_Sweep_j0_eq {K : Ctx} {J : JT (Value × St)} (hJ : IsJ K (retK sweep_Sweep_c.results) J) (v1 : Value) (v2 : Value) (st : St) : sweep_Sweep_j0 J v1 v2 st =
  (.thn st (sField (some 1) 0 v1 st) fun p1 =>
  .thn p1.2 (K.go (.call n_sweep_Needed [p1.1]) p1.2) fun p2 =>
  .thn p2.2 (sLnew [(.slice none 0 0)] p2.2) fun p3 =>
  .thn p3.2 (sUpd 1 0 p3.1 p2.1 p3.2) fun p4 =>
  .thn p4.2 (sField (some 1) 0 v1 p4.2) fun p5 =>
  .thn p5.2 (K.go (.call n_ir_Program_Clone [p5.1]) p5.2) fun p6 =>
  .thn p6.2 (sUpd 1 0 v1 p6.1 p6.2) fun p7 =>
  .thn p7.2 (sLref p7.1 p7.2) fun p8 =>
  .thn p8.2 (sField none 0 p7.1 p8.2) fun p9 =>
  .thn p9.2 (sLen .slice p9.1 p9.2) fun p10 =>
  sweep_Sweep_l0 J p7.1 v2 p4.1 p10.1 (.int .i64 0) p10.2) := (go_eq hJ _ _ _ _).trans (by kernel_rfl)
theorem sweep_Sweep_l0_eq (K : Ctx) (J : JT (Value × St)) (v1 : Value) (v2 : Value) (v3 : Value) (v25 : Value) (v26 : Value) (st : St) : inX K J (retK sweep_Sweep_c.results) sweep_Sweep_c.body [1, 1, 1, 1, 1, 0, 1, 0, 1] (envT [(1, v1), (2, v2), (3, v3), (25, v25), (26, v26)]) st =
  (.thn st (sBin .lss v26 v25 st) fun p1 =>
  condX p1.1
  (sweep_Sweep_j1 J v1 v2 v3 v25 v26 p1.2)
  (sweep_Sweep_j2 J v1 v2 p1.2)) := by kernel_rfl
theorem sweep_Sweep_l0_of {K : Ctx} (hF : Fix pgF K) {J : JT (Value × St)} (hJ : IsJ K (retK sweep_Sweep_c.results) J) {v1 : Value} {v2 : Value} {v3 : Value} {v25 : Value} {v26 : Value} {st : St} {Q : Value × St → Prop} (h : Ok (inX K J (retK sweep_Sweep_c.results) sweep_Sweep_c.body [1, 1, 1, 1, 1, 0, 1, 0, 1] (envT [(1, v1), (2, v2), (3, v3), (25, v25), (26, v26)]) st) Q) : Ok (sweep_Sweep_l0 J v1 v2 v3 v25 v26 st) Q := loop_of hF hJ h
theorem sweep_Sweep_j1_eq {K : Ctx} {J : JT (Value × St)} (hJ : IsJ K (retK sweep_Sweep_c.results) J) (v1 : Value) (v2 : Value) (v3 : Value) (v25 : Value) (v26 : Value) (st : St) : sweep_Sweep_j1 J v1 v2 v3 v25 v26 st =
  (.thn st (sLref v1 st) fun p1 =>
  .thn p1.2 (sField none 0 v1 p1.2) fun p2 =>
  .thn p2.2 (sIxA 7 none p2.1 v26 p2.2) fun p3 =>
  .thn p3.2 (sNilc p3.1 p3.2) fun p4 =>
  .thn p4.2 (sOff 1 p4.1 p4.2) fun p5 =>
  .thn p5.2 (sLoad none p5.1 p5.2) fun p6 =>
  .thn p6.2 (sLen .slice p6.1 p6.2) fun p7 =>
  sweep_Sweep_l1 J v1 v2 v3 p3.1 (.slice none 0 0) v25 v26 p6.1 p7.1 (.int .i64 0) p7.2) := (go_eq hJ _ _ _ _).trans (by kernel_rfl)
theorem sweep_Sweep_j2_eq {K : Ctx} {J : JT (Value × St)} (hJ : IsJ K (retK sweep_Sweep_c.results) J) (v1 : Value) (v2 : Value) (st : St) : sweep_Sweep_j2 J v1 v2 st =
  (.thn st (sField (some 1) 0 v1 st) fun p1 =>
  .thn p1.2 (sUpd 1 0 v2 p1.1 p1.2) fun p2 =>
  (sField (some 1) 0 p2.1 p2.2 >>= fun p3 => .ok [p3.1]) >>= fun vs => .ok (oneOf vs, p2.2)) := (go_eq hJ _ _ _ _).trans (by kernel_rfl)
theorem sweep_Sweep_l1_eq (K : Ctx) (J : JT (Value × St)) (v1 : Value) (v2 : Value) (v3 : Value) (v5 : Value) (v6 : Value) (v25 : Value) (v26 : Value) (v36 : Value) (v37 : Value) (v38 : Value) (st : St) : inX K J (retK sweep_Sweep_c.results) sweep_Sweep_c.body [1, 1, 1, 1, 1, 0, 1, 0, 1, 0, 0, 1, 1, 1, 0, 0, 1, 1, 1, 0, 1, 0, 1] (envT [(1, v1), (2, v2), (3, v3), (5, v5), (6, v6), (25, v25), (26, v26), (36, v36), (37, v37), (38, v38)]) st =
  (.thn st (sBin .lss v38 v37 st) fun p1 =>
  condX p1.1
  (sweep_Sweep_j3 J v1 v2 v3 v5 v6 v25 v26 v36 v37 v38 p1.2)
  (sweep_Sweep_j4 J v1 v2 v3 v5 v6 v25 v26 p1.2)) := by kernel_rfl
theorem sweep_Sweep_l1_of {K : Ctx} (hF : Fix pgF K) {J : JT (Value × St)} (hJ : IsJ K (retK sweep_Sweep_c.results) J) {v1 : Value} {v2 : Value} {v3 : Value} {v5 : Value} {v6 : Value} {v25 : Value} {v26 : Value} {v36 : Value} {v37 : Value} {v38 : Value} {st : St} {Q : Value × St → Prop} (h : Ok (inX K J (retK sweep_Sweep_c.results) sweep_Sweep_c.body [1, 1, 1, 1, 1, 0, 1, 0, 1, 0, 0, 1, 1, 1, 0, 0, 1, 1, 1, 0, 1, 0, 1] (envT [(1, v1), (2, v2), (3, v3), (5, v5), (6, v6), (25, v25), (26, v26), (36, v36), (37, v37), (38, v38)]) st) Q) : Ok (sweep_Sweep_l1 J v1 v2 v3 v5 v6 v25 v26 v36 v37 v38 st) Q := loop_of hF hJ h
theorem sweep_Sweep_j3_eq {K : Ctx} {J : JT (Value × St)} (hJ : IsJ K (retK sweep_Sweep_c.results) J) (v1 : Value) (v2 : Value) (v3 : Value) (v5 : Value) (v6 : Value) (v25 : Value) (v26 : Value) (v36 : Value) (v37 : Value) (v38 : Value) (st : St) : sweep_Sweep_j3 J v1 v2 v3 v5 v6 v25 v26 v36 v37 v38 st =
  (.thn st (sIxA 3 none v36 v38 st) fun p1 =>
  .thn p1.2 (sLoad (some 3) p1.1 p1.2) fun p2 =>
  .thn p2.2 (sLnew [(.int .i64 0), (.slice none 0 0), (.slice none 0 0)] p2.2) fun p3 =>
  .thn p3.2 (sUpd 3 0 p3.1 p2.1 p3.2) fun p4 =>
  .thn p4.2 (sField (some 1) 0 v3 p4.2) fun p5 =>
  .thn p5.2 (sLref p4.1 p5.2) fun p6 =>
  .thn p6.2 (sField none 0 p4.1 p6.2) fun p7 =>
  .thn p7.2 (K.go (.call n_bag_Set_int_Has [p5.1, p7.1]) p7.2) fun p8 =>
  condX p8.1
  (.thn p8.2 (sField (some 3) 0 p4.1 p8.2) fun p9 =>
  .thn p9.2 (sLit 3 1 [(.int .i64 0), (.slice none 0 0), (.slice none 0 0)] [(0, 3, p9.1)] p9.2) fun p10 =>
  .thn p10.2 (sAppend 3 56 v6 p10.1 p10.2) fun p11 =>
  sweep_Sweep_j5 J v1 v2 v3 v5 p11.1 v25 v26 v36 v37 v38 p11.2)
  (sweep_Sweep_j5 J v1 v2 v3 v5 v6 v25 v26 v36 v37 v38 p8.2)) := (go_eq hJ _ _ _ _).trans (by kernel_rfl)
theorem sweep_Sweep_j4_eq {K : Ctx} {J : JT (Value × St)} (hJ : IsJ K (retK sweep_Sweep_c.results) J) (v1 : Value) (v2 : Value) (v3 : Value) (v5 : Value) (v6 : Value) (v25 : Value) (v26 : Value) (st : St) : sweep_Sweep_j4 J v1 v2 v3 v5 v6 v25 v26 st =
  (.thn st (sNilc v5 st) fun p1 =>
  .thn p1.2 (sOff 2 p1.1 p1.2) fun p2 =>
  .thn p2.2 (sLoad none p2.1 p2.2) fun p3 =>
  .thn p3.2 (sLen .slice p3.1 p3.2) fun p4 =>
  sweep_Sweep_l2 J v1 v2 v3 v5 v6 (.slice none 0 0) v25 v26 p3.1 p4.1 (.int .i64 0) p4.2) := (go_eq hJ _ _ _ _).trans (by kernel_rfl)
theorem sweep_Sweep_j5_eq {K : Ctx} {J : JT (Value × St)} (hJ : IsJ K (retK sweep_Sweep_c.results) J) (v1 : Value) (v2 : Value) (v3 : Value) (v5 : Value) (v6 : Value) (v25 : Value) (v26 : Value) (v36 : Value) (v37 : Value) (v38 : Value) (st : St) : sweep_Sweep_j5 J v1 v2 v3 v5 v6 v25 v26 v36 v37 v38 st =
  (.thn st (sBin .add v38 (.int .i64 1) st) fun p1 =>
  sweep_Sweep_l1 J v1 v2 v3 v5 v6 v25 v26 v36 v37 p1.1 p1.2) := (go_eq hJ _ _ _ _).trans (by kernel_rfl)
theorem sweep_Sweep_l2_eq (K : Ctx) (J : JT (Value × St)) (v1 : Value) (v2 : Value) (v3 : Value) (v5 : Value) (v6 : Value) (v9 : Value) (v25 : Value) (v26 : Value) (v54 : Value) (v55 : Value) (v56 : Value) (st : St) : inX K J (retK sweep_Sweep_c.results) sweep_Sweep_c.body [1, 1, 1, 1, 1, 0, 1, 0, 1, 0, 0, 1, 1, 1, 0, 0, 1, 1, 1, 1, 1, 1, 0, 1, 0, 1] (envT [(1, v1), (2, v2), (3, v3), (5, v5), (6, v6), (9, v9), (25, v25), (26, v26), (54, v54), (55, v55), (56, v56)]) st =
  (.thn st (sBin .lss v56 v55 st) fun p1 =>
  condX p1.1
  (sweep_Sweep_j6 J v1 v2 v3 v5 v6 v9 v25 v26 v54 v55 v56 p1.2)
  (sweep_Sweep_j7 J v1 v2 v3 v5 v6 v9 v25 v26 p1.2)) := by kernel_rfl
theorem sweep_Sweep_l2_of {K : Ctx} (hF : Fix pgF K) {J : JT (Value × St)} (hJ : IsJ K (retK sweep_Sweep_c.results) J) {v1 : Value} {v2 : Value} {v3 : Value} {v5 : Value} {v6 : Value} {v9 : Value} {v25 : Value} {v26 : Value} {v54 : Value} {v55 : Value} {v56 : Value} {st : St} {Q : Value × St → Prop} (h : Ok (inX K J (retK sweep_Sweep_c.results) sweep_Sweep_c.body [1, 1, 1, 1, 1, 0, 1, 0, 1, 0, 0, 1, 1, 1, 0, 0, 1, 1, 1, 1, 1, 1, 0, 1, 0, 1] (envT [(1, v1), (2, v2), (3, v3), (5, v5), (6, v6), (9, v9), (25, v25), (26, v26), (54, v54), (55, v55), (56, v56)]) st) Q) : Ok (sweep_Sweep_l2 J v1 v2 v3 v5 v6 v9 v25 v26 v54 v55 v56 st) Q := loop_of hF hJ h
theorem sweep_Sweep_j6_eq {K : Ctx} {J : JT (Value × St)} (hJ : IsJ K (retK sweep_Sweep_c.results) J) (v1 : Value) (v2 : Value) (v3 : Value) (v5 : Value) (v6 : Value) (v9 : Value) (v25 : Value) (v26 : Value) (v54 : Value) (v55 : Value) (v56 : Value) (st : St) : sweep_Sweep_j6 J v1 v2 v3 v5 v6 v9 v25 v26 v54 v55 v56 st =
  (.thn st (sIxA 7 none v54 v56 st) fun p1 =>
  .thn p1.2 (sLoad (some 7) p1.1 p1.2) fun p2 =>
  .thn p2.2 (sLnew [(.int .u8 0), (.int .u8 0), (.int .i64 0), (.int .i64 0), (.int .i64 0), (.int .i64 0), (.int .i64 0)] p2.2) fun p3 =>
  .thn p3.2 (sUpd 7 0 p3.1 p2.1 p3.2) fun p4 =>
  .thn p4.2 (sField (some 7) 0 p4.1 p4.2) fun p5 =>
  .thn p5.2 (K.go (.call n_ir_Instr_Sets [p5.1]) p5.2) fun p6 =>
  .thn p6.2 (sExtract p6.1 0 p6.2) fun p7 =>
  .thn p7.2 (sExtract p6.1 1 p7.2) fun p8 =>
  .thn p8.2 (sUn .not p8.1 p8.2) fun p9 =>
  .thn p9.2 (sG p9.1 false (sField (some 7) 0 p4.1 p9.2) p9.2) fun p10 =>
  .thn p10.2 (sG p9.1 false (K.go (.call n_sweep_Does [p10.1]) p10.2) p10.2) fun p11 =>
  .thn p11.2 (sPick p9.1 (.bool true) p11.1 p11.2) fun p12 =>
  .thn p12.2 (sG p12.1 false (sField (some 1) 0 v3 p12.2) p12.2) fun p13 =>
  .thn p13.2 (sG p12.1 false (.ok (p7.1, p13.2)) p13.2) fun p14 =>
  .thn p14.2 (sG p12.1 false (K.go (.call n_bag_Set_int_Has [p13.1, p14.1]) p14.2) p14.2) fun p15 =>
  .thn p15.2 (sPick p12.1 (.bool true) p15.1 p15.2) fun p16 =>
  condX p16.1
  (.thn p16.2 (sField (some 7) 0 p4.1 p16.2) fun p17 =>
  .thn p17.2 (sLit 7 1 [(.int .u8 0), (.int .u8 0), (.int .i64 0), (.int .i64 0), (.int .i64 0), (.int .i64 0), (.int .i64 0)] [(0, 7, p17.1)] p17.2) fun p18 =>
  .thn p18.2 (sAppend 7 48 v9 p18.1 p18.2) fun p19 =>
  sweep_Sweep_j8 J v1 v2 v3 v5 v6 p19.1 v25 v26 v54 v55 v56 p19.2)
  (sweep_Sweep_j8 J v1 v2 v3 v5 v6 v9 v25 v26 v54 v55 v56 p16.2)) := (go_eq hJ _ _ _ _).trans (by kernel_rfl)
theorem sweep_Sweep_j7_eq {K : Ctx} {J : JT (Value × St)} (hJ : IsJ K (retK sweep_Sweep_c.results) J) (v1 : Value) (v2 : Value) (v3 : Value) (v5 : Value) (v6 : Value) (v9 : Value) (v25 : Value) (v26 : Value) (st : St) : sweep_Sweep_j7 J v1 v2 v3 v5 v6 v9 v25 v26 st =
  (.thn st (sNilc v5 st) fun p1 =>
  .thn p1.2 (sOff 1 p1.1 p1.2) fun p2 =>
  .thn p2.2 (sStore 1 p2.1 v6 p2.2) fun p3 =>
  .thn p3.2 (sNilc v5 p3.2) fun p4 =>
  .thn p4.2 (sOff 2 p4.1 p4.2) fun p5 =>
  .thn p5.2 (sStore 1 p5.1 v9 p5.2) fun p6 =>
  sweep_Sweep_j9 J v1 v2 v3 v25 v26 p6.2) := (go_eq hJ _ _ _ _).trans (by kernel_rfl)
theorem sweep_Sweep_j8_eq {K : Ctx} {J : JT (Value × St)} (hJ : IsJ K (retK sweep_Sweep_c.results) J) (v1 : Value) (v2 : Value) (v3 : Value) (v5 : Value) (v6 : Value) (v9 : Value) (v25 : Value) (v26 : Value) (v54 : Value) (v55 : Value) (v56 : Value) (st : St) : sweep_Sweep_j8 J v1 v2 v3 v5 v6 v9 v25 v26 v54 v55 v56 st =
  (.thn st (sBin .add v56 (.int .i64 1) st) fun p1 =>
  sweep_Sweep_l2 J v1 v2 v3 v5 v6 v9 v25 v26 v54 v55 p1.1 p1.2) := (go_eq hJ _ _ _ _).trans (by kernel_rfl)
theorem sweep_Sweep_j9_eq {K : Ctx} {J : JT (Value × St)} (hJ : IsJ K (retK sweep_Sweep_c.results) J) (v1 : Value) (v2 : Value) (v3 : Value) (v25 : Value) (v26 : Value) (st : St) : sweep_Sweep_j9 J v1 v2 v3 v25 v26 st =
  (.thn st (sBin .add v26 (.int .i64 1) st) fun p1 =>
  sweep_Sweep_l0 J v1 v2 v3 v25 p1.1 p1.2) := (go_eq hJ _ _ _ _).trans (by kernel_rfl)

/-! ### refinery/sweep.Needed -/
open C in
noncomputable def sweep_Needed_c : AFun := ⟨1, [.part 2 (some 1)],
 (s (.ops [o 1 (.lbox (t 0)), o 2 (.lnew [(.slice none 0 0)])])
 (s (.ops [o 3 (.new [(.slice none 0 0)])])
 (s (.ops [o 4 (.new [(.slice none 0 0), (.map none)])])
 (s (.ops [o 18 .newMap, o 5 (.new [(.map none)]), n (.store 1 (t 5) (t 18))])
 (s (.ops [o 19 (.fn 77 [] [(t 3), (t 4)]), o 6 (.new [.nilFunc]), n (.store 1 (t 6) (t 19))])
 (s (s (.ops [o 20 (.lref (t 1)), o 21 (.field none 0 (t 1)), o 22 (.len .slice (t 21)), o 23 (.mv (c (i 0)))])
 (.block 0 (s (.keep [2, 3, 4, 5, 6, 17, 21, 22, 23])
 (.loop (s (s (.ops [o 24 (.bin .lss (t 23) (t 22))])
 (s (.cond (t 24) .skip (.exit 0))
 (s (.keep [2, 3, 4, 5, 6, 17, 21, 22, 23])
 (s (.block 1 (s (.ops [o 25 (.ixA 7 none (t 21) (t 23)), o 26 (.load (some 7) (t 25)), o 8 (.lnew [(i 0), (.slice none 0 0), (.slice none 0 0), (u 0), (i 0), (i 0), (i 0)]), o 8 (.upd 7 0 (t 8) (t 26))])
 (s (s (.ops [o 27 (.lref (t 8)), o 28 (.field none 1 (t 8)), o 29 (.len .slice (t 28)), o 30 (.mv (c (i 0)))])
 (.block 2 (s (.keep [2, 3, 4, 5, 6, 8, 17, 21, 22, 23, 28, 29, 30])
 (.loop (s (s (.ops [o 31 (.bin .lss (t 30) (t 29))])
 (s (.cond (t 31) .skip (.exit 2))
 (s (.keep [2, 3, 4, 5, 6, 8, 17, 21, 22, 23, 28, 29, 30])
 (s (.block 3 (s (.ops [o 32 (.ixA 3 none (t 28) (t 30)), o 33 (.load (some 3) (t 32)), o 10 (.lnew [(i 0), (.slice none 0 0), (.slice none 0 0)]), o 10 (.upd 3 0 (t 10) (t 33))])
 (.draw [d 3 0 false (o 37 (.load none (t 5))), d 4 0 false (o 38 (.lref (t 10))), d 5 0 false (o 39 (.field none 0 (t 10))), d 6 0 false (o 40 (.look (.cell .int) (.slice none 0 0) false (t 37) (t 39))), d 7 0 false (o 41 (.lref (t 10))), d 8 0 false (o 42 (.field none 2 (t 10))), d 9 0 true (o 43 (.append 1 8 (t 40) (t 42))), d 0 1 false (o 34 (.load none (t 5))), d 1 0 false (o 35 (.lref (t 10))), d 2 1 false (o 36 (.field none 0 (t 10))), d 10 0 true (n (.mapSet (.cell .int) (t 34) (t 36) (t 43)))])))
 (s (.keep [2, 3, 4, 5, 6, 8, 17, 21, 22, 23, 28, 29, 30])
 (.ops [o 44 (.bin .add (t 30) (c (i 1))), o 30 (.mv (t 44))]))))))
 (.keep [2, 3, 4, 5, 6, 8, 17, 21, 22, 23, 28, 29, 30]))))))
 (s (.keep [2, 3, 4, 5, 6, 8, 17, 21, 22, 23])
 (s (s (.ops [o 45 (.lref (t 8)), o 46 (.field none 2 (t 8)), o 47 (.len .slice (t 46)), o 48 (.mv (c (i 0)))])
 (.block 4 (s (.keep [2, 3, 4, 5, 6, 8, 17, 21, 22, 23, 46, 47, 48])
 (.loop (s (s (.ops [o 49 (.bin .lss (t 48) (t 47))])
 (s (.cond (t 49) .skip (.exit 4))
 (s (.keep [2, 3, 4, 5, 6, 8, 17, 21, 22, 23, 46, 47, 48])
 (s (.block 5 (s (.ops [o 50 (.ixA 7 none (t 46) (t 48)), o 51 (.load (some 7) (t 50)), o 12 (.lnew [(u 0), (u 0), (i 0), (i 0), (i 0), (i 0), (i 0)]), o 12 (.upd 7 0 (t 12) (t 51))])
 (s (s (.ops [o 53 (.field (some 7) 0 (t 12)), o 54 (.call (f 12) [(t 53)]), o 52 (.mv (t 54)), o 55 (.extract (t 52) 0), o 56 (.extract (t 52) 1), o 13 (.mv (t 55)), o 14 (.mv (t 56))])
 (s (.ops [o 57 (.mv (t 14))])
 (.cond (t 57) (.draw [d 5 0 false (o 63 (.field (some 7) 0 (t 12))), d 6 0 true (o 64 (.call (f 11) [(t 63)])), d 2 1 false (o 60 (.load none (t 5))), d 3 0 false (o 61 (.mv (t 13))), d 4 1 false (o 62 (.look (.cell .int) (.slice none 0 0) false (t 60) (t 61))), d 7 0 true (o 65 (.append 1 8 (t 62) (t 64))), d 0 2 false (o 58 (.load none (t 5))), d 1 0 false (o 59 (.mv (t 13))), d 8 0 true (n (.mapSet (.cell .int) (t 58) (t 59) (t 65)))]) .skip)))
 (s (.keep [2, 3, 4, 5, 6, 8, 12, 17, 21, 22, 23, 46, 47, 48])
 (s (.ops [o 66 (.field (some 7) 0 (t 12)), o 67 (.call (f 8) [(t 66)])])
 (.cond (t 67) (.draw [d 1 0 false (o 69 (.field (some 7) 0 (t 12))), d 2 0 true (o 70 (.call (f 11) [(t 69)])), d 0 1 false (o 68 (.load none (t 6))), d 3 0 true (o 71 (.call (t 68) [(t 70)]))]) .skip))))))
 (s (.keep [2, 3, 4, 5, 6, 8, 17, 21, 22, 23, 46, 47, 48])
 (.ops [o 72 (.bin .add (t 48) (c (i 1))), o 48 (.mv (t 72))]))))))
 (.keep [2, 3, 4, 5, 6, 8, 17, 21, 22, 23, 46, 47, 48]))))))
 (s (.keep [2, 3, 4, 5, 6, 8, 17, 21, 22, 23])
 (s (.ops [o 74 (.lref (t 8)), o 75 (.field (some 4) 3 (t 8)), o 76 (.call (f 37) [(t 75)]), o 73 (.mv (t 76)), o 77 (.extract (t 73) 0), o 78 (.extract (t 73) 1), o 15 (.mv (t 77)), o 16 (.mv (t 78))])
 (s (.ops [o 79 (.mv (t 16))])
 (.cond (t 79) (.ops [o 80 (.load none (t 6)), o 81 (.mv (t 15)), o 82 (.lit 1 1 [(i 0)] [(0, 1, (t 81))]), o 83 (.call (t 80) [(t 82)])]) .skip)))))))))
 (s (.keep [2, 3, 4, 5, 6, 17, 21, 22, 23])
 (.ops [o 84 (.bin .add (t 23) (c (i 1))), o 23 (.mv (t 84))]))))))
 (.keep [2, 3, 4, 5, 6, 17, 21, 22, 23]))))))
 (s (.keep [2, 3, 4, 5, 6, 17])
 (s (s (.ops [o 85 (.call (f 80) [(t 4)])])
 (.block 6 (s (.keep [2, 3, 5, 6, 17, 85])
 (.range (t 85) [86] (.ops [o 17 (.mv (t 86))]) (s (.keep [5, 6, 17])
 (.block 7 (.ops [o 87 (.load none (t 6)), o 88 (.load none (t 5)), o 89 (.mv (t 17)), o 90 (.look (.cell .int) (.slice none 0 0) false (t 88) (t 89)), o 91 (.call (t 87) [(t 90)])])))))))
 (s (.keep [2, 3])
 (s (.ops [o 92 (.load (some 1) (t 3)), o 2 (.upd 1 0 (t 2) (t 92))])
 .ret))))))))))⟩
theorem sweep_Needed_is : pgF n_sweep_Needed = some sweep_Needed_c := by kernel_rfl
noncomputable def sweep_Needed_l0 (J : JT (Value × St)) (v2 : Value) (v3 : Value) (v4 : Value) (v5 : Value) (v6 : Value) (v17 : Value) (v21 : Value) (v22 : Value) (v23 : Value) (st : St) : Res (Value × St) := lpX J sweep_Needed_c.body [1, 1, 1, 1, 1, 0, 1, 0, 1] (envT [(2, v2), (3, v3), (4, v4), (5, v5), (6, v6), (17, v17), (21, v21), (22, v22), (23, v23)]) st
noncomputable def sweep_Needed_j0 (J : JT (Value × St)) (v2 : Value) (v3 : Value) (v4 : Value) (v5 : Value) (v6 : Value) (v17 : Value) (v21 : Value) (v22 : Value) (v23 : Value) (st : St) : Res (Value × St) := goX J sweep_Needed_c.body [1, 1, 1, 1, 1, 0, 1, 0, 1, 0, 0, 1, 1, 1] (envT [(2, v2), (3, v3), (4, v4), (5, v5), (6, v6), (17, v17), (21, v21), (22, v22), (23, v23)]) st
noncomputable def sweep_Needed_j1 (J : JT (Value × St)) (v2 : Value) (v3 : Value) (v4 : Value) (v5 : Value) (v6 : Value) (v17 : Value) (st : St) : Res (Value × St) := goX J sweep_Needed_c.body [1, 1, 1, 1, 1, 1, 1] (envT [(2, v2), (3, v3), (4, v4), (5, v5), (6, v6), (17, v17)]) st
noncomputable def sweep_Needed_l1 (J : JT (Value × St)) (v2 : Value) (v3 : Value) (v4 : Value) (v5 : Value) (v6 : Value) (v8 : Value) (v17 : Value) (v21 : Value) (v22 : Value) (v23 : Value) (v28 : Value) (v29 : Value) (v30 : Value) (st : St) : Res (Value × St) := lpX J sweep_Needed_c.body [1, 1, 1, 1, 1, 0, 1, 0, 1, 0, 0, 1, 1, 1, 0, 0, 1, 0, 1, 0, 1] (envT [(2, v2), (3, v3), (4, v4), (5, v5), (6, v6), (8, v8), (17, v17), (21, v21), (22, v22), (23, v23), (28, v28), (29, v29), (30, v30)]) st
noncomputable def sweep_Needed_j2 (J : JT (Value × St)) (v2 : Value) (v3 : Value) (v5 : Value) (v6 : Value) (v17 : Value) (v85 : Value) (st : St) : Res (Value × St) := goX J sweep_Needed_c.body [1, 1, 1, 1, 1, 1, 1, 0, 1, 0, 1] (envT [(2, v2), (3, v3), (5, v5), (6, v6), (17, v17), (85, v85)]) st
noncomputable def sweep_Needed_j3 (J : JT (Value × St)) (v2 : Value) (v3 : Value) (v4 : Value) (v5 : Value) (v6 : Value) (v8 : Value) (v17 : Value) (v21 : Value) (v22 : Value) (v23 : Value) (v28 : Value) (v29 : Value) (v30 : Value) (st : St) : Res (Value × St) := goX J sweep_Needed_c.body [1, 1, 1, 1, 1, 0, 1, 0, 1, 0, 0, 1, 1, 1, 0, 0, 1, 0, 1, 0, 1, 0, 0, 1, 1, 1] (envT [(2, v2), (3, v3), (4, v4), (5, v5), (6, v6), (8, v8), (17, v17), (21, v21), (22, v22), (23, v23), (28, v28), (29, v29), (30, v30)]) st
noncomputable def sweep_Needed_j4 (J : JT (Value × St)) (v2 : Value) (v3 : Value) (v4 : Value) (v5 : Value) (v6 : Value) (v8 : Value) (v17 : Value) (v21 : Value) (v22 : Value) (v23 : Value) (st : St) : Res (Value × St) := goX J sweep_Needed_c.body [1, 1, 1, 1, 1, 0, 1, 0, 1, 0, 0, 1, 1, 1, 0, 0, 1, 1, 1] (envT [(2, v2), (3, v3), (4, v4), (5, v5), (6, v6), (8, v8), (17, v17), (21, v21), (22, v22), (23, v23)]) st
noncomputable def sweep_Needed_x0 (K : Ctx) (J : JT (Value × St)) (x : AExit) (v2 : Value) (v3 : Value) (v5 : Value) (v6 : Value) (v17 : Value) (v85 : Value) (st : St) : Res (Value × St) := kJ K J (retK sweep_Needed_c.results) (posK sweep_Needed_c.body [1, 1, 1, 1, 1, 1, 1, 0, 1, 0, 1] []) x (envT [(2, v2), (3, v3), (5, v5), (6, v6), (17, v17), (85, v85)]) st
noncomputable def sweep_Needed_j5 (J : JT (Value × St)) (v2 : Value) (v3 : Value) (v4 : Value) (v5 : Value) (v6 : Value) (v8 : Value) (v17 : Value) (v21 : Value) (v22 : Value) (v23 : Value) (v28 : Value) (v29 : Value) (v30 : Value) (st : St) : Res (Value × St) := goX J sweep_Needed_c.body [1, 1, 1, 1, 1, 0, 1, 0, 1, 0, 0, 1, 1, 1, 0, 0, 1, 0, 1, 0, 1, 0, 0, 1, 1, 1, 1, 1] (envT [(2, v2), (3, v3), (4, v4), (5, v5), (6, v6), (8, v8), (17, v17), (21, v21), (22, v22), (23, v23), (28, v28), (29, v29), (30, v30)]) st
noncomputable def sweep_Needed_l2 (J : JT (Value × St)) (v2 : Value) (v3 : Value) (v4 : Value) (v5 : Value) (v6 : Value) (v8 : Value) (v17 : Value) (v21 : Value) (v22 : Value) (v23 : Value) (v46 : Value) (v47 : Value) (v48 : Value) (st : St) : Res (Value × St) := lpX J sweep_Needed_c.body [1, 1, 1, 1, 1, 0, 1, 0, 1, 0, 0, 1, 1, 1, 0, 0, 1, 1, 1, 0, 1, 0, 1] (envT [(2, v2), (3, v3), (4, v4), (5, v5), (6, v6), (8, v8), (17, v17), (21, v21), (22, v22), (23, v23), (46, v46), (47, v47), (48, v48)]) st
noncomputable def sweep_Needed_j6 (J : JT (Value × St)) (v2 : Value) (v3 : Value) (st : St) : Res (Value × St) := goX J sweep_Needed_c.body [1, 1, 1, 1, 1, 1, 1, 1, 1] (envT [(2, v2), (3, v3)]) st
noncomputable def sweep_Needed_j7 (J : JT (Value × St)) (v2 : Value) (v3 : Value) (v4 : Value) (v5 : Value) (v6 : Value) (v8 : Value) (v17 : Value) (v21 : Value) (v22 : Value) (v23 : Value) (v46 : Value) (v47 : Value) (v48 : Value) (st : St) : Res (Value × St) := goX J sweep_Needed_c.body [1, 1, 1, 1, 1, 0, 1, 0, 1, 0, 0, 1, 1, 1, 0, 0, 1, 1, 1, 0, 1, 0, 1, 0, 0, 1, 1, 1] (envT [(2, v2), (3, v3), (4, v4), (5, v5), (6, v6), (8, v8), (17, v17), (21, v21), (22, v22), (23, v23), (46, v46), (47, v47), (48, v48)]) st
noncomputable def sweep_Needed_j8 (J : JT (Value × St)) (v2 : Value) (v3 : Value) (v4 : Value) (v5 : Value) (v6 : Value) (v8 : Value) (v17 : Value) (v21 : Value) (v22 : Value) (v23 : Value) (st : St) : Res (Value × St) := goX J sweep_Needed_c.body [1, 1, 1, 1, 1, 0, 1, 0, 1, 0, 0, 1, 1, 1, 0, 0, 1, 1, 1, 1, 1] (envT [(2, v2), (3, v3), (4, v4), (5, v5), (6, v6), (8, v8), (17, v17), (21, v21), (22, v22), (23, v23)]) st
noncomputable def sweep_Needed_j9 (J : JT (Value × St)) (v2 : Value) (v3 : Value) (v4 : Value) (v5 : Value) (v6 : Value) (v8 : Value) (v12 : Value) (v17 : Value) (v21 : Value) (v22 : Value) (v23 : Value) (v46 : Value) (v47 : Value) (v48 : Value) (st : St) : Res (Value × St) := goX J sweep_Needed_c.body [1, 1, 1, 1, 1, 0, 1, 0, 1, 0, 0, 1, 1, 1, 0, 0, 1, 1, 1, 0, 1, 0, 1, 0, 0, 1, 1, 1, 0, 0, 1, 1, 1] (envT [(2, v2), (3, v3), (4, v4), (5, v5), (6, v6), (8, v8), (12, v12), (17, v17), (21, v21), (22, v22), (23, v23), (46, v46), (47, v47), (48, v48)]) st
noncomputable def sweep_Needed_j10 (J : JT (Value × St)) (v2 : Value) (v3 : Value) (v4 : Value) (v5 : Value) (v6 : Value) (v17 : Value) (v21 : Value) (v22 : Value) (v23 : Value) (st : St) : Res (Value × St) := goX J sweep_Needed_c.body [1, 1, 1, 1, 1, 0, 1, 0, 1, 0, 0, 1, 1, 1, 1, 1] (envT [(2, v2), (3, v3), (4, v4), (5, v5), (6, v6), (17, v17), (21, v21), (22, v22), (23, v23)]) st
noncomputable def sweep_Needed_j11 (J : JT (Value × St)) (v2 : Value) (v3 : Value) (v4 : Value) (v5 : Value) (v6 : Value) (v8 : Value) (v17 : Value) (v21 : Value) (v22 : Value) (v23 : Value) (v46 : Value) (v47 : Value) (v48 : Value) (st : St) : Res (Value × St) := goX J sweep_Needed_c.body [1, 1, 1, 1, 1, 0, 1, 0, 1, 0, 0, 1, 1, 1, 0, 0, 1, 1, 1, 0, 1, 0, 1, 0, 0, 1, 1, 1, 1, 1] (envT [(2, v2), (3, v3), (4, v4), (5, v5), (6, v6), (8, v8), (17, v17), (21, v21), (22, v22), (23, v23), (46, v46), (47, v47), (48, v48)]) st
noncomputable def sweep_Needed_jr111111101011_0 (J : JT (AExit × St)) (v5 : Value) (v6 : Value) (v17 : Value) (st : St) : Res (AExit × St) := goX J (posC sweep_Needed_c.body [1, 1, 1, 1, 1, 1, 1, 0, 1, 0, 1, 1]) [1] (envT [(5, v5), (6, v6), (17, v17)]) st
theorem sweep_Needed_eq (K : Ctx) (J : JT (Value × St)) (a0 : Value) (st : St) : atX K J sweep_Needed_c (AM.start [a0]) st =
  (.thn st (sLbox a0 st) fun p1 =>
  .thn p1.2 (sLnew [(.slice none 0 0)] p1.2) fun p2 =>
  .thn p2.2 (sNew [(.slice none 0 0)] p2.2) fun p3 =>
  .thn p3.2 (sNew [(.slice none 0 0), (.map none)] p3.2) fun p4 =>
  .thn p4.2 (sNewMap p4.2) fun p5 =>
  .thn p5.2 (sNew [(.map none)] p5.2) fun p6 =>
  .thn p6.2 (sStore 1 p6.1 p5.1 p6.2) fun p7 =>
  .thn p7.2 (sNew [.nilFunc] p7.2) fun p8 =>
  .thn p8.2 (sStore 1 p8.1 (.func (.func n_sweep_Needed_1) #[] #[p3.1, p4.1]) p8.2) fun p9 =>
  .thn p9.2 (sLref p1.1 p9.2) fun p10 =>
  .thn p10.2 (sField none 0 p1.1 p10.2) fun p11 =>
  .thn p11.2 (sLen .slice p11.1 p11.2) fun p12 =>
  sweep_Needed_l0 J p2.1 p3.1 p4.1 p6.1 p8.1 nothing p11.1 p12.1 (.int .i64 0) p12.2) := by kernel_rfl
theorem sweep_Needed_of {K : Ctx} (hF : Fix pgF K) {a0 : Value} {st : St} {Q : Value × St → Prop} (h : ∀ J, IsJ K (retK sweep_Needed_c.results) J → Ok (atX K J sweep_Needed_c (AM.start [a0]) st) Q) : Ok (K.go (.call n_sweep_Needed [a0]) st) Q := call_of hF sweep_Needed_is rfl h
theorem sweep_Needed_l0_eq (K : Ctx) (J : JT (Value × St)) (v2 : Value) (v3 : Value) (v4 : Value) (v5 : Value) (v6 : Value) (v17 : Value) (v21 : Value) (v22 : Value) (v23 : Value) (st : St) : inX K J (retK sweep_Needed_c.results) sweep_Needed_c.body [1, 1, 1, 1, 1, 0, 1, 0, 1] (envT [(2, v2), (3, v3), (4, v4), (5, v5), (6, v6), (17, v17), (21, v21), (22, v22), (23, v23)]) st =
  (.thn st (sBin .lss v23 v22 st) fun p1 =>
  condX p1.1
  (sweep_Needed_j0 J v2 v3 v4 v5 v6 v17 v21 v22 v23 p1.2)
  (sweep_Needed_j1 J v2 v3 v4 v5 v6 v17 p1.2)) := by kernel_rfl
theorem sweep_Needed_l0_of {K : Ctx} (hF : Fix pgF K) {J : JT (Value × St)} (hJ : IsJ K (retK sweep_Needed_c.results) J) {v2 : Value} {v3 : Value} {v4 : Value} {v5 : Value} {v6 : Value} {v17 : Value} {v21 : Value} {v22 : Value} {v23 : Value} {st : St} {Q : Value × St → Prop} (h : Ok (inX K J (retK sweep_Needed_c.results) sweep_Needed_c.body [1, 1, 1, 1, 1, 0, 1, 0, 1] (envT [(2, v2), (3, v3), (4, v4), (5, v5), (6, v6), (17, v17), (21, v21), (22, v22), (23, v23)]) st) Q) : Ok (sweep_Needed_l0 J v2 v3 v4 v5 v6 v17 v21 v22 v23 st) Q := loop_of hF hJ h
theorem sweep_Needed_j0_eq {K : Ctx} {J : JT (Value × St)} (hJ : IsJ K (retK sweep_Needed_c.results) J) (v2 : Value) (v3 : Value) (v4 : Value) (v5 : Value) (v6 : Value) (v17 : Value) (v21 : Value) (v22 : Value) (v23 : Value) (st : St) : sweep_Needed_j0 J v2 v3 v4 v5 v6 v17 v21 v22 v23 st =
  (.thn st (sIxA 7 none v21 v23 st) fun p1 =>
  .thn p1.2 (sLoad (some 7) p1.1 p1.2) fun p2 =>
  .thn p2.2 (sLnew [(.int .i64 0), (.slice none 0 0), (.slice none 0 0), (.int .u8 0), (.int .i64 0), (.int .i64 0), (.int .i64 0)] p2.2) fun p3 =>
  .thn p3.2 (sUpd 7 0 p3.1 p2.1 p3.2) fun p4 =>
  .thn p4.2 (sLref p4.1 p4.2) fun p5 =>
  .thn p5.2 (sField none 1 p4.1 p5.2) fun p6 =>
  .thn p6.2 (sLen .slice p6.1 p6.2) fun p7 =>
  sweep_Needed_l1 J v2 v3 v4 v5 v6 p4.1 v17 v21 v22 v23 p6.1 p7.1 (.int .i64 0) p7.2) := (go_eq hJ _ _ _ _).trans (by kernel_rfl)
theorem sweep_Needed_j1_eq {K : Ctx} {J : JT (Value × St)} (hJ : IsJ K (retK sweep_Needed_c.results) J) (v2 : Value) (v3 : Value) (v4 : Value) (v5 : Value) (v6 : Value) (v17 : Value) (st : St) : sweep_Needed_j1 J v2 v3 v4 v5 v6 v17 st =
  (.thn st (K.go (.call n_bag_Queue_int_Drain [v4]) st) fun p1 =>
  sweep_Needed_j2 J v2 v3 v5 v6 v17 p1.1 p1.2) := (go_eq hJ _ _ _ _).trans (by kernel_rfl)
theorem sweep_Needed_l1_eq (K : Ctx) (J : JT (Value × St)) (v2 : Value) (v3 : Value) (v4 : Value) (v5 : Value) (v6 : Value) (v8 : Value) (v17 : Value) (v21 : Value) (v22 : Value) (v23 : Value) (v28 : Value) (v29 : Value) (v30 : Value) (st : St) : inX K J (retK sweep_Needed_c.results) sweep_Needed_c.body [1, 1, 1, 1, 1, 0, 1, 0, 1, 0, 0, 1, 1, 1, 0, 0, 1, 0, 1, 0, 1] (envT [(2, v2), (3, v3), (4, v4), (5, v5), (6, v6), (8, v8), (17, v17), (21, v21), (22, v22), (23, v23), (28, v28), (29, v29), (30, v30)]) st =
  (.thn st (sBin .lss v30 v29 st) fun p1 =>
  condX p1.1
  (sweep_Needed_j3 J v2 v3 v4 v5 v6 v8 v17 v21 v22 v23 v28 v29 v30 p1.2)
  (sweep_Needed_j4 J v2 v3 v4 v5 v6 v8 v17 v21 v22 v23 p1.2)) := by kernel_rfl
theorem sweep_Needed_l1_of {K : Ctx} (hF : Fix pgF K) {J : JT (Value × St)} (hJ : IsJ K (retK sweep_Needed_c.results) J) {v2 : Value} {v3 : Value} {v4 : Value} {v5 : Value} {v6 : Value} {v8 : Value} {v17 : Value} {v21 : Value} {v22 : Value} {v23 : Value} {v28 : Value} {v29 : Value} {v30 : Value} {st : St} {Q : Value × St → Prop} (h : Ok (inX K J (retK sweep_Needed_c.results) sweep_Needed_c.body [1, 1, 1, 1, 1, 0, 1, 0, 1, 0, 0, 1, 1, 1, 0, 0, 1, 0, 1, 0, 1] (envT [(2, v2), (3, v3), (4, v4), (5, v5), (6, v6), (8, v8), (17, v17), (21, v21), (22, v22), (23, v23), (28, v28), (29, v29), (30, v30)]) st) Q) : Ok (sweep_Needed_l1 J v2 v3 v4 v5 v6 v8 v17 v21 v22 v23 v28 v29 v30 st) Q := loop_of hF hJ h
theorem sweep_Needed_j2_eq {K : Ctx} {J : JT (Value × St)} (hJ : IsJ K (retK sweep_Needed_c.results) J) (v2 : Value) (v3 : Value) (v5 : Value) (v6 : Value) (v17 : Value) (v85 : Value) (st : St) : sweep_Needed_j2 J v2 v3 v5 v6 v17 v85 st =
  (sRange K v85 st (.loop (envT [(2, v2), (3, v3), (5, v5), (6, v6), (17, v17), (85, v85)]) [86] (posC sweep_Needed_c.body [1, 1, 1, 1, 1, 1, 1, 0, 1, 0, 1, 0]) (posC sweep_Needed_c.body [1, 1, 1, 1, 1, 1, 1, 0, 1, 0, 1, 1]) .ready .normal) (fun x s => sweep_Needed_x0 K J x v2 v3 v5 v6 v17 v85 s)) := (go_eq hJ _ _ _ _).trans (by kernel_rfl)
theorem sweep_Needed_j3_eq {K : Ctx} {J : JT (Value × St)} (hJ : IsJ K (retK sweep_Needed_c.results) J) (v2 : Value) (v3 : Value) (v4 : Value) (v5 : Value) (v6 : Value) (v8 : Value) (v17 : Value) (v21 : Value) (v22 : Value) (v23 : Value) (v28 : Value) (v29 : Value) (v30 : Value) (st : St) : sweep_Needed_j3 J v2 v3 v4 v5 v6 v8 v17 v21 v22 v23 v28 v29 v30 st =
  (.thn st (sIxA 3 none v28 v30 st) fun p1 =>
  .thn p1.2 (sLoad (some 3) p1.1 p1.2) fun p2 =>
  .thn p2.2 (sLnew [(.int .i64 0), (.slice none 0 0), (.slice none 0 0)] p2.2) fun p3 =>
  .thn p3.2 (sUpd 3 0 p3.1 p2.1 p3.2) fun p4 =>
  .thn p4.2 (sLoad none v5 p4.2) fun p5 =>
  .thn p5.2 (sLref p4.1 p5.2) fun p6 =>
  .thn p6.2 (sField none 0 p4.1 p6.2) fun p7 =>
  .thn p7.2 (sLook (.cell .int) (.slice none 0 0) false p5.1 p7.1 p7.2) fun p8 =>
  .thn p8.2 (sLref p4.1 p8.2) fun p9 =>
  .thn p9.2 (sField none 2 p4.1 p9.2) fun p10 =>
  .thn p10.2 (sAppend 1 8 p8.1 p10.1 p10.2) fun p11 =>
  .thn p11.2 (sLoad none v5 p11.2) fun p12 =>
  Res.need (sStays (List.take 1 (p10.2 :: [])) p11.2.next v5 (fun s => sLoad none v5 s) p12.1) "order" >>= fun _ =>
  .thn p12.2 (sLref p4.1 p12.2) fun p13 =>
  .thn p13.2 (sField none 0 p4.1 p13.2) fun p14 =>
  Res.need (sStays (List.take 1 (p10.2 :: [])) p11.2.next nothing (fun s => sField none 0 p4.1 s) p14.1) "order" >>= fun _ =>
  .thn p14.2 (sMapSet (.cell .int) p12.1 p14.1 p11.1 p14.2) fun p15 =>
  sweep_Needed_j5 J v2 v3 v4 v5 v6 v8 v17 v21 v22 v23 v28 v29 v30 p15.2) := (go_eq hJ _ _ _ _).trans (by kernel_rfl)
theorem sweep_Needed_j4_eq {K : Ctx} {J : JT (Value × St)} (hJ : IsJ K (retK sweep_Needed_c.results) J) (v2 : Value) (v3 : Value) (v4 : Value) (v5 : Value) (v6 : Value) (v8 : Value) (v17 : Value) (v21 : Value) (v22 : Value) (v23 : Value) (st : St) : sweep_Needed_j4 J v2 v3 v4 v5 v6 v8 v17 v21 v22 v23 st =
  (.thn st (sLref v8 st) fun p1 =>
  .thn p1.2 (sField none 2 v8 p1.2) fun p2 =>
  .thn p2.2 (sLen .slice p2.1 p2.2) fun p3 =>
  sweep_Needed_l2 J v2 v3 v4 v5 v6 v8 v17 v21 v22 v23 p2.1 p3.1 (.int .i64 0) p3.2) := (go_eq hJ _ _ _ _).trans (by kernel_rfl)
theorem sweep_Needed_x0_n (K : Ctx) (J : JT (Value × St)) (v2 : Value) (v3 : Value) (v5 : Value) (v6 : Value) (v17 : Value) (v85 : Value) (st : St) : sweep_Needed_x0 K J .normal v2 v3 v5 v6 v17 v85 st =
  (sweep_Needed_j6 J v2 v3 st) := by kernel_rfl
theorem sweep_Needed_j5_eq {K : Ctx} {J : JT (Value × St)} (hJ : IsJ K (retK sweep_Needed_c.results) J) (v2 : Value) (v3 : Value) (v4 : Value) (v5 : Value) (v6 : Value) (v8 : Value) (v17 : Value) (v21 : Value) (v22 : Value) (v23 : Value) (v28 : Value) (v29 : Value) (v30 : Value) (st : St) : sweep_Needed_j5 J v2 v3 v4 v5 v6 v8 v17 v21 v22 v23 v28 v29 v30 st =
  (.thn st (sBin .add v30 (.int .i64 1) st) fun p1 =>
  sweep_Needed_l1 J v2 v3 v4 v5 v6 v8 v17 v21 v22 v23 v28 v29 p1.1 p1.2) := (go_eq hJ _ _ _ _).trans (by kernel_rfl)
theorem sweep_Needed_l2_eq (K : Ctx) (J : JT (Value × St)) (v2 : Value) (v3 : Value) (v4 : Value) (v5 : Value) (v6 : Value) (v8 : Value) (v17 : Value) (v21 : Value) (v22 : Value) (v23 : Value) (v46 : Value) (v47 : Value) (v48 : Value) (st : St) : inX K J (retK sweep_Needed_c.results) sweep_Needed_c.body [1, 1, 1, 1, 1, 0, 1, 0, 1, 0, 0, 1, 1, 1, 0, 0, 1, 1, 1, 0, 1, 0, 1] (envT [(2, v2), (3, v3), (4, v4), (5, v5), (6, v6), (8, v8), (17, v17), (21, v21), (22, v22), (23, v23), (46, v46), (47, v47), (48, v48)]) st =
  (.thn st (sBin .lss v48 v47 st) fun p1 =>
  condX p1.1
  (sweep_Needed_j7 J v2 v3 v4 v5 v6 v8 v17 v21 v22 v23 v46 v47 v48 p1.2)
  (sweep_Needed_j8 J v2 v3 v4 v5 v6 v8 v17 v21 v22 v23 p1.2)) := by kernel_rfl
theorem sweep_Needed_l2_of {K : Ctx} (hF : Fix pgF K) {J : JT (Value × St)} (hJ : IsJ K (retK sweep_Needed_c.results) J) {v2 : Value} {v3 : Value} {v4 : Value} {v5 : Value} {v6 : Value} {v8 : Value} {v17 : Value} {v21 : Value} {v22 : Value} {v23 : Value} {v46 : Value} {v47 : Value} {v48 : Value} {st : St} {Q : Value × St → Prop} (h : Ok (inX K J (retK sweep_Needed_c.results) sweep_Needed_c.body [1, 1, 1, 1, 1, 0, 1, 0, 1, 0, 0, 1, 1, 1, 0, 0, 1, 1, 1, 0, 1, 0, 1] (envT [(2, v2), (3, v3), (4, v4), (5, v5), (6, v6), (8, v8), (17, v17), (21, v21), (22, v22), (23, v23), (46, v46), (47, v47), (48, v48)]) st) Q) : Ok (sweep_Needed_l2 J v2 v3 v4 v5 v6 v8 v17 v21 v22 v23 v46 v47 v48 st) Q := loop_of hF hJ h
theorem sweep_Needed_j6_eq {K : Ctx} {J : JT (Value × St)} (hJ : IsJ K (retK sweep_Needed_c.results) J) (v2 : Value) (v3 : Value) (st : St) : sweep_Needed_j6 J v2 v3 st =
  (.thn st (sLoad (some 1) v3 st) fun p1 =>
  .thn p1.2 (sUpd 1 0 v2 p1.1 p1.2) fun p2 =>
  (sField (some 1) 0 p2.1 p2.2 >>= fun p3 => .ok [p3.1]) >>= fun vs => .ok (oneOf vs, p2.2)) := (go_eq hJ _ _ _ _).trans (by kernel_rfl)
theorem sweep_Needed_j7_eq {K : Ctx} {J : JT (Value × St)} (hJ : IsJ K (retK sweep_Needed_c.results) J) (v2 : Value) (v3 : Value) (v4 : Value) (v5 : Value) (v6 : Value) (v8 : Value) (v17 : Value) (v21 : Value) (v22 : Value) (v23 : Value) (v46 : Value) (v47 : Value) (v48 : Value) (st : St) : sweep_Needed_j7 J v2 v3 v4 v5 v6 v8 v17 v21 v22 v23 v46 v47 v48 st =
  (.thn st (sIxA 7 none v46 v48 st) fun p1 =>
  .thn p1.2 (sLoad (some 7) p1.1 p1.2) fun p2 =>
  .thn p2.2 (sLnew [(.int .u8 0), (.int .u8 0), (.int .i64 0), (.int .i64 0), (.int .i64 0), (.int .i64 0), (.int .i64 0)] p2.2) fun p3 =>
  .thn p3.2 (sUpd 7 0 p3.1 p2.1 p3.2) fun p4 =>
  .thn p4.2 (sField (some 7) 0 p4.1 p4.2) fun p5 =>
  .thn p5.2 (K.go (.call n_ir_Instr_Sets [p5.1]) p5.2) fun p6 =>
  .thn p6.2 (sExtract p6.1 0 p6.2) fun p7 =>
  .thn p7.2 (sExtract p6.1 1 p7.2) fun p8 =>
  condX p8.1
  (.thn p8.2 (sField (some 7) 0 p4.1 p8.2) fun p9 =>
  .thn p9.2 (K.go (.call n_ir_Instr_Reads [p9.1]) p9.2) fun p10 =>
  .thn p10.2 (sLoad none v5 p10.2) fun p11 =>
  Res.need (sStays (List.take 1 (p9.2 :: [])) p10.2.next v5 (fun s => sLoad none v5 s) p11.1) "order" >>= fun _ =>
  .thn p11.2 (sLook (.cell .int) (.slice none 0 0) false p11.1 p7.1 p11.2) fun p12 =>
  Res.need (sStays (List.take 1 (p9.2 :: [])) p10.2.next p11.1 (fun s => sLook (.cell .int) (.slice none 0 0) false p11.1 p7.1 s) p12.1) "order" >>= fun _ =>
  .thn p12.2 (sAppend 1 8 p12.1 p10.1 p12.2) fun p13 =>
  .thn p13.2 (sLoad none v5 p13.2) fun p14 =>
  Res.need (sStays (List.take 2 (p12.2 :: (p9.2 :: []))) p13.2.next v5 (fun s => sLoad none v5 s) p14.1) "order" >>= fun _ =>
  .thn p14.2 (sMapSet (.cell .int) p14.1 p7.1 p13.1 p14.2) fun p15 =>
  sweep_Needed_j9 J v2 v3 v4 v5 v6 v8 p4.1 v17 v21 v22 v23 v46 v47 v48 p15.2)
  (sweep_Needed_j9 J v2 v3 v4 v5 v6 v8 p4.1 v17 v21 v22 v23 v46 v47 v48 p8.2)) := (go_eq hJ _ _ _ _).trans (by kernel_rfl)
theorem sweep_Needed_j8_eq {K : Ctx} {J : JT (Value × St)} (hJ : IsJ K (retK sweep_Needed_c.results) J) (v2 : Value) (v3 : Value) (v4 : Value) (v5 : Value) (v6 : Value) (v8 : Value) (v17 : Value) (v21 : Value) (v22 : Value) (v23 : Value) (st : St) : sweep_Needed_j8 J v2 v3 v4 v5 v6 v8 v17 v21 v22 v23 st =
  (.thn st (sLref v8 st) fun p1 =>
  .thn p1.2 (sField (some 4) 3 v8 p1.2) fun p2 =>
  .thn p2.2 (K.go (.call n_ir_Last_Reads [p2.1]) p2.2) fun p3 =>
  .thn p3.2 (sExtract p3.1 0 p3.2) fun p4 =>
  .thn p4.2 (sExtract p3.1 1 p4.2) fun p5 =>
  condX p5.1
  (.thn p5.2 (sLoad none v6 p5.2) fun p6 =>
  .thn p6.2 (sLit 1 1 [(.int .i64 0)] [(0, 1, p4.1)] p6.2) fun p7 =>
  .thn p7.2 (sCall K p6.1 [p7.1] p7.2) fun p8 =>
  sweep_Needed_j10 J v2 v3 v4 v5 v6 v17 v21 v22 v23 p8.2)
  (sweep_Needed_j10 J v2 v3 v4 v5 v6 v17 v21 v22 v23 p5.2)) := (go_eq hJ _ _ _ _).trans (by kernel_rfl)
theorem sweep_Needed_j9_eq {K : Ctx} {J : JT (Value × St)} (hJ : IsJ K (retK sweep_Needed_c.results) J) (v2 : Value) (v3 : Value) (v4 : Value) (v5 : Value) (v6 : Value) (v8 : Value) (v12 : Value) (v17 : Value) (v21 : Value) (v22 : Value) (v23 : Value) (v46 : Value) (v47 : Value) (v48 : Value) (st : St) : sweep_Needed_j9 J v2 v3 v4 v5 v6 v8 v12 v17 v21 v22 v23 v46 v47 v48 st =
  (.thn st (sField (some 7) 0 v12 st) fun p1 =>
  .thn p1.2 (K.go (.call n_sweep_Does [p1.1]) p1.2) fun p2 =>
  condX p2.1
  (.thn p2.2 (sField (some 7) 0 v12 p2.2) fun p3 =>
  .thn p3.2 (K.go (.call n_ir_Instr_Reads [p3.1]) p3.2) fun p4 =>
  .thn p4.2 (sLoad none v6 p4.2) fun p5 =>
  Res.need (sStays (List.take 1 (p3.2 :: [])) p4.2.next v6 (fun s => sLoad none v6 s) p5.1) "order" >>= fun _ =>
  .thn p5.2 (sCall K p5.1 [p4.1] p5.2) fun p6 =>
  sweep_Needed_j11 J v2 v3 v4 v5 v6 v8 v17 v21 v22 v23 v46 v47 v48 p6.2)
  (sweep_Needed_j11 J v2 v3 v4 v5 v6 v8 v17 v21 v22 v23 v46 v47 v48 p2.2)) := (go_eq hJ _ _ _ _).trans (by kernel_rfl)
theorem sweep_Needed_j10_eq {K : Ctx} {J : JT (Value × St)} (hJ : IsJ K (retK sweep_Needed_c.results) J) (v2 : Value) (v3 : Value) (v4 : Value) (v5 : Value) (v6 : Value) (v17 : Value) (v21 : Value) (v22 : Value) (v23 : Value) (st : St) : sweep_Needed_j10 J v2 v3 v4 v5 v6 v17 v21 v22 v23 st =
  (.thn st (sBin .add v23 (.int .i64 1) st) fun p1 =>
  sweep_Needed_l0 J v2 v3 v4 v5 v6 v17 v21 v22 p1.1 p1.2) := (go_eq hJ _ _ _ _).trans (by kernel_rfl)
theorem sweep_Needed_j11_eq {K : Ctx} {J : JT (Value × St)} (hJ : IsJ K (retK sweep_Needed_c.results) J) (v2 : Value) (v3 : Value) (v4 : Value) (v5 : Value) (v6 : Value) (v8 : Value) (v17 : Value) (v21 : Value) (v22 : Value) (v23 : Value) (v46 : Value) (v47 : Value) (v48 : Value) (st : St) : sweep_Needed_j11 J v2 v3 v4 v5 v6 v8 v17 v21 v22 v23 v46 v47 v48 st =
  (.thn st (sBin .add v48 (.int .i64 1) st) fun p1 =>
  sweep_Needed_l2 J v2 v3 v4 v5 v6 v8 v17 v21 v22 v23 v46 v47 p1.1 p1.2) := (go_eq hJ _ _ _ _).trans (by kernel_rfl)
theorem sweep_Needed_jr111111101011_0_eq {K : Ctx} {J : JT (AExit × St)} (hJ : IsJ K rawK J) (v5 : Value) (v6 : Value) (v17 : Value) (st : St) : sweep_Needed_jr111111101011_0 J v5 v6 v17 st =
  (.thn st (sLoad none v6 st) fun p1 =>
  .thn p1.2 (sLoad none v5 p1.2) fun p2 =>
  .thn p2.2 (sLook (.cell .int) (.slice none 0 0) false p2.1 v17 p2.2) fun p3 =>
  .thn p3.2 (sCall K p1.1 [p3.1] p3.2) fun p4 =>
  .ok (.normal, p4.2)) := (go_eq hJ _ _ _ _).trans (by kernel_rfl)
theorem sweep_Needed_r111111101011_body (K : Ctx) (J : JT (AExit × St)) (v2 : Value) (v3 : Value) (v5 : Value) (v6 : Value) (v17 : Value) (v85 : Value) (v86 : Value) (st : St) : atR K J (posC sweep_Needed_c.body [1, 1, 1, 1, 1, 1, 1, 0, 1, 0, 1, 1]) (envT [(2, v2), (3, v3), (5, v5), (6, v6), (17, v17), (85, v85), (86, v86)]) st =
  (sweep_Needed_jr111111101011_0 J v5 v6 v17 st) := by kernel_rfl

/-! ### (refinery/bag.Set[int]).Has -/
open C in
noncomputable def bag_Set_int_Has_c : AFun := ⟨2, [.tmp 4],
 (s (.ops [o 2 (.lbox (t 0)), o 4 (.mv (c (.bool false)))])
 (s (.ops [o 8 (.lref (t 2)), o 9 (.field none 0 (t 2)), o 10 (.mv (t 1)), o 11 (.call (f 81) [(t 9), (t 10)]), o 7 (.mv (t 11)), o 12 (.extract (t 7) 0), o 13 (.extract (t 7) 1), o 5 (.mv (t 12)), o 6 (.mv (t 13))])
 (s (.ops [o 14 (.mv (t 6)), o 4 (.mv (t 14))])
 .ret)))⟩
theorem bag_Set_int_Has_is : pgF n_bag_Set_int_Has = some bag_Set_int_Has_c := by kernel_rfl
theorem bag_Set_int_Has_eq (K : Ctx) (J : JT (Value × St)) (a0 a1 : Value) (st : St) : atX K J bag_Set_int_Has_c (AM.start [a0, a1]) st =
  (.thn st (sLbox a0 st) fun p1 =>
  .thn p1.2 (sLref p1.1 p1.2) fun p2 =>
  .thn p2.2 (sField none 0 p1.1 p2.2) fun p3 =>
  .thn p3.2 (K.go (.call n_slices_BinarySearch_int [p3.1, a1]) p3.2) fun p4 =>
  .thn p4.2 (sExtract p4.1 0 p4.2) fun p5 =>
  .thn p5.2 (sExtract p4.1 1 p5.2) fun p6 =>
  .ok (p6.1, p6.2)) := by kernel_rfl
theorem bag_Set_int_Has_of {K : Ctx} (hF : Fix pgF K) {a0 a1 : Value} {st : St} {Q : Value × St → Prop} (h : ∀ J, IsJ K (retK bag_Set_int_Has_c.results) J → Ok (atX K J bag_Set_int_Has_c (AM.start [a0, a1]) st) Q) : Ok (K.go (.call n_bag_Set_int_Has [a0, a1]) st) Q := call_of hF bag_Set_int_Has_is rfl h

/-! ### refinery/sweep.Needed$1 -/
open C in
noncomputable def sweep_Needed_1_c : AFun := ⟨17, [],
 (s (.ops [o 6 (.mv (t 0)), o 7 (.len .slice (t 6)), o 8 (.mv (c (i 0)))])
 (.block 0 (s (.keep [1, 2, 6, 7, 8])
 (.loop (s (s (.ops [o 9 (.bin .lss (t 8) (t 7))])
 (s (.cond (t 9) .skip (.exit 0))
 (s (.keep [1, 2, 6, 7, 8])
 (s (.block 1 (s (.ops [o 10 (.ixA 1 none (t 6) (t 8)), o 11 (.load none (t 10)), o 5 (.mv (t 11))])
 (s (.ops [o 12 (.mv (t 5)), o 13 (.call (f 78) [(t 1), (t 12)])])
 (.cond (t 13) (.ops [o 14 (.mv (t 5)), o 15 (.call (f 79) [(t 2), (t 14)])]) .skip))))
 (s (.keep [1, 2, 6, 7, 8])
 (.ops [o 16 (.bin .add (t 8) (c (i 1))), o 8 (.mv (t 16))]))))))
 (.keep [1, 2, 6, 7, 8]))))))⟩
theorem sweep_Needed_1_is : pgF n_sweep_Needed_1 = some sweep_Needed_1_c := by kernel_rfl
noncomputable def sweep_Needed_1_l0 (J : JT (Value × St)) (v1 : Value) (v2 : Value) (v6 : Value) (v7 : Value) (v8 : Value) (st : St) : Res (Value × St) := lpX J sweep_Needed_1_c.body [1, 0, 1] (envT [(1, v1), (2, v2), (6, v6), (7, v7), (8, v8)]) st
noncomputable def sweep_Needed_1_j0 (J : JT (Value × St)) (v1 : Value) (v2 : Value) (v6 : Value) (v7 : Value) (v8 : Value) (st : St) : Res (Value × St) := goX J sweep_Needed_1_c.body [1, 0, 1, 0, 0, 1, 1, 1] (envT [(1, v1), (2, v2), (6, v6), (7, v7), (8, v8)]) st
noncomputable def sweep_Needed_1_j1 (J : JT (Value × St)) (v1 : Value) (v2 : Value) (v6 : Value) (v7 : Value) (v8 : Value) (st : St) : Res (Value × St) := goX J sweep_Needed_1_c.body [1, 0, 1, 0, 0, 1, 1, 1, 1, 1] (envT [(1, v1), (2, v2), (6, v6), (7, v7), (8, v8)]) st
theorem sweep_Needed_1_eq (K : Ctx) (J : JT (Value × St)) (a0 a1 a2 : Value) (st : St) : atX K J sweep_Needed_1_c (AM.start [a0, a1, a2]) st =
  (.thn st (sLen .slice a0 st) fun p1 =>
  sweep_Needed_1_l0 J a1 a2 a0 p1.1 (.int .i64 0) p1.2) := by kernel_rfl
theorem sweep_Needed_1_of {K : Ctx} (hF : Fix pgF K) {a0 a1 a2 : Value} {st : St} {Q : Value × St → Prop} (h : ∀ J, IsJ K (retK sweep_Needed_1_c.results) J → Ok (atX K J sweep_Needed_1_c (AM.start [a0, a1, a2]) st) Q) : Ok (K.go (.call n_sweep_Needed_1 [a0, a1, a2]) st) Q := call_of hF sweep_Needed_1_is rfl h
theorem sweep_Needed_1_l0_eq (K : Ctx) (J : JT (Value × St)) (v1 : Value) (v2 : Value) (v6 : Value) (v7 : Value) (v8 : Value) (st : St) : inX K J (retK sweep_Needed_1_c.results) sweep_Needed_1_c.body [1, 0, 1] (envT [(1, v1), (2, v2), (6, v6), (7, v7), (8, v8)]) st =
  (.thn st (sBin .lss v8 v7 st) fun p1 =>
  condX p1.1
  (sweep_Needed_1_j0 J v1 v2 v6 v7 v8 p1.2)
  (.ok (.tuple #[], p1.2))) := by kernel_rfl
theorem sweep_Needed_1_l0_of {K : Ctx} (hF : Fix pgF K) {J : JT (Value × St)} (hJ : IsJ K (retK sweep_Needed_1_c.results) J) {v1 : Value} {v2 : Value} {v6 : Value} {v7 : Value} {v8 : Value} {st : St} {Q : Value × St → Prop} (h : Ok (inX K J (retK sweep_Needed_1_c.results) sweep_Needed_1_c.body [1, 0, 1] (envT [(1, v1), (2, v2), (6, v6), (7, v7), (8, v8)]) st) Q) : Ok (sweep_Needed_1_l0 J v1 v2 v6 v7 v8 st) Q := loop_of hF hJ h
theorem sweep_Needed_1_j0_eq {K : Ctx} {J : JT (Value × St)} (hJ : IsJ K (retK sweep_Needed_1_c.results) J) (v1 : Value) (v2 : Value) (v6 : Value) (v7 : Value) (v8 : Value) (st : St) : sweep_Needed_1_j0 J v1 v2 v6 v7 v8 st =
  (.thn st (sIxA 1 none v6 v8 st) fun p1 =>
  .thn p1.2 (sLoad none p1.1 p1.2) fun p2 =>
  .thn p2.2 (K.go (.call n_bag_Set_int_Add [v1, p2.1]) p2.2) fun p3 =>
  condX p3.1
  (.thn p3.2 (K.go (.call n_bag_Queue_int_Put [v2, p2.1]) p3.2) fun p4 =>
  sweep_Needed_1_j1 J v1 v2 v6 v7 v8 p4.2)
  (sweep_Needed_1_j1 J v1 v2 v6 v7 v8 p3.2)) := (go_eq hJ _ _ _ _).trans (by kernel_rfl)
theorem sweep_Needed_1_j1_eq {K : Ctx} {J : JT (Value × St)} (hJ : IsJ K (retK sweep_Needed_1_c.results) J) (v1 : Value) (v2 : Value) (v6 : Value) (v7 : Value) (v8 : Value) (st : St) : sweep_Needed_1_j1 J v1 v2 v6 v7 v8 st =
  (.thn st (sBin .add v8 (.int .i64 1) st) fun p1 =>
  sweep_Needed_1_l0 J v1 v2 v6 v7 p1.1 p1.2) := (go_eq hJ _ _ _ _).trans (by kernel_rfl)

/-! ### (*refinery/bag.Set[int]).Add -/
open C in
noncomputable def bag_Set_int_Add_c : AFun := ⟨33, [.tmp 4],
 (s (.ops [o 4 (.mv (c (.bool false)))])
 (s (s (.ops [o 7 (.mv (t 0)), o 8 (.eq false (.nilOf .ptr) (t 7) (c (.pointer none)))])
 (.cond (t 8) (s (.ops [o 4 (.mv (c (.bool false)))])
 .ret) .skip))
 (s (.keep [0, 1])
 (s (.ops [o 10 (.mv (t 0)), o 11 (.nilc (t 10)), o 12 (.off 0 (t 11)), o 13 (.load none (t 12)), o 14 (.mv (t 1)), o 15 (.call (f 81) [(t 13), (t 14)]), o 9 (.mv (t 15)), o 16 (.extract (t 9) 0), o 17 (.extract (t 9) 1), o 5 (.mv (t 16)), o 6 (.mv (t 17))])
 (s (s (.ops [o 18 (.mv (t 6)), o 19 (.un .not (t 18))])
 (.cond (t 19) (.ops [o 20 (.mv (t 0)), o 21 (.mv (t 0)), o 22 (.nilc (t 21)), o 23 (.off 0 (t 22)), o 24 (.load none (t 23)), o 25 (.mv (t 5)), o 26 (.mv (t 1)), o 27 (.lit 1 1 [(i 0)] [(0, 1, (t 26))]), o 28 (.call (f 109) [(t 24), (t 25), (t 27)]), o 29 (.nilc (t 20)), o 30 (.off 0 (t 29)), n (.store 1 (t 30) (t 28))]) .skip))
 (s (.keep [6])
 (s (.ops [o 31 (.mv (t 6)), o 32 (.un .not (t 31)), o 4 (.mv (t 32))])
 .ret)))))))⟩
theorem bag_Set_int_Add_is : pgF n_bag_Set_int_Add = some bag_Set_int_Add_c := by kernel_rfl
noncomputable def bag_Set_int_Add_j0 (J : JT (Value × St)) (v0 : Value) (v1 : Value) (st : St) : Res (Value × St) := goX J bag_Set_int_Add_c.body [1, 1, 1] (envT [(0, v0), (1, v1)]) st
noncomputable def bag_Set_int_Add_j1 (J : JT (Value × St)) (v6 : Value) (st : St) : Res (Value × St) := goX J bag_Set_int_Add_c.body [1, 1, 1, 1, 1, 1] (envT [(6, v6)]) st
theorem bag_Set_int_Add_eq (K : Ctx) (J : JT (Value × St)) (a0 a1 : Value) (st : St) : atX K J bag_Set_int_Add_c (AM.start [a0, a1]) st =
  (.thn st (sEq false (.nilOf .ptr) a0 (.pointer none) st) fun p1 =>
  condX p1.1
  (.ok ((.bool false), p1.2))
  (bag_Set_int_Add_j0 J a0 a1 p1.2)) := by kernel_rfl
theorem bag_Set_int_Add_of {K : Ctx} (hF : Fix pgF K) {a0 a1 : Value} {st : St} {Q : Value × St → Prop} (h : ∀ J, IsJ K (retK bag_Set_int_Add_c.results) J → Ok (atX K J bag_Set_int_Add_c (AM.start [a0, a1]) st) Q) : Ok (K.go (.call n_bag_Set_int_Add [a0, a1]) st) Q := call_of hF bag_Set_int_Add_is rfl h
theorem bag_Set_int_Add_j0_eq {K : Ctx} {J : JT (Value × St)} (hJ : IsJ K (retK bag_Set_int_Add_c.results) J) (v0 : Value) (v1 : Value) (st : St) : bag_Set_int_Add_j0 J v0 v1 st =
  (.thn st (sNilc v0 st) fun p1 =>
  .thn p1.2 (sOff 0 p1.1 p1.2) fun p2 =>
  .thn p2.2 (sLoad none p2.1 p2.2) fun p3 =>
  .thn p3.2 (K.go (.call n_slices_BinarySearch_int [p3.1, v1]) p3.2) fun p4 =>
  .thn p4.2 (sExtract p4.1 0 p4.2) fun p5 =>
  .thn p5.2 (sExtract p4.1 1 p5.2) fun p6 =>
  .thn p6.2 (sUn .not p6.1 p6.2) fun p7 =>
  condX p7.1
  (.thn p7.2 (sNilc v0 p7.2) fun p8 =>
  .thn p8.2 (sOff 0 p8.1 p8.2) fun p9 =>
  .thn p9.2 (sLoad none p9.1 p9.2) fun p10 =>
  .thn p10.2 (sLit 1 1 [(.int .i64 0)] [(0, 1, v1)] p10.2) fun p11 =>
  .thn p11.2 (K.go (.call n_slices_Insert_int [p10.1, p5.1, p11.1]) p11.2) fun p12 =>
  .thn p12.2 (sNilc v0 p12.2) fun p13 =>
  .thn p13.2 (sOff 0 p13.1 p13.2) fun p14 =>
  .thn p14.2 (sStore 1 p14.1 p12.1 p14.2) fun p15 =>
  bag_Set_int_Add_j1 J p6.1 p15.2)
  (bag_Set_int_Add_j1 J p6.1 p7.2)) := (go_eq hJ _ _ _ _).trans (by kernel_rfl)
theorem bag_Set_int_Add_j1_eq {K : Ctx} {J : JT (Value × St)} (hJ : IsJ K (retK bag_Set_int_Add_c.results) J) (v6 : Value) (st : St) : bag_Set_int_Add_j1 J v6 st =
  (.thn st (sUn .not v6 st) fun p1 =>
  .ok (p1.1, p1.2)) := (go_eq hJ _ _ _ _).trans (by kernel_rfl)

/-! ### (*refinery/bag.Queue[int]).Put -/
open C in
noncomputable def bag_Queue_int_Put_c : AFun := ⟨37, [.tmp 4],
 (s (.ops [o 4 (.mv (c (.bool false)))])
 (s (s (.ops [o 5 (.mv (t 0)), o 6 (.eq false (.nilOf .ptr) (t 5) (c (.pointer none)))])
 (.cond (t 6) (s (.ops [o 4 (.mv (c (.bool false)))])
 .ret) .skip))
 (s (.keep [0, 1])
 (s (s (.ops [o 7 (.mv (t 0)), o 8 (.nilc (t 7)), o 9 (.off 1 (t 8)), o 10 (.load none (t 9)), o 11 (.mv (t 1)), o 12 (.look (.cell .int) (.bool false) false (t 10) (t 11))])
 (.cond (t 12) (s (.ops [o 4 (.mv (c (.bool false)))])
 .ret) .skip))
 (s (.keep [0, 1])
 (s (s (.ops [o 13 (.mv (t 0)), o 14 (.nilc (t 13)), o 15 (.off 1 (t 14)), o 16 (.load none (t 15)), o 17 (.eq false (.nilOf .map) (t 16) (c (.map none)))])
 (.cond (t 17) (.ops [o 18 (.mv (t 0)), o 19 .newMap, o 20 (.nilc (t 18)), o 21 (.off 1 (t 20)), n (.store 1 (t 21) (t 19))]) .skip))
 (s (.keep [0, 1])
 (s (.ops [o 22 (.mv (t 0)), o 23 (.nilc (t 22)), o 24 (.off 1 (t 23)), o 25 (.load none (t 24)), o 26 (.mv (t 1)), n (.mapSet (.cell .int) (t 25) (t 26) (c (.bool true)))])
 (s (.ops [o 27 (.mv (t 0)), o 28 (.mv (t 0)), o 29 (.nilc (t 28)), o 30 (.off 0 (t 29)), o 31 (.load none (t 30)), o 32 (.mv (t 1)), o 33 (.lit 1 1 [(i 0)] [(0, 1, (t 32))]), o 34 (.append 1 8 (t 31) (t 33)), o 35 (.nilc (t 27)), o 36 (.off 0 (t 35)), n (.store 1 (t 36) (t 34))])
 (s (.ops [o 4 (.mv (c (.bool true)))])
 .ret))))))))))⟩
theorem bag_Queue_int_Put_is : pgF n_bag_Queue_int_Put = some bag_Queue_int_Put_c := by kernel_rfl
noncomputable def bag_Queue_int_Put_j0 (J : JT (Value × St)) (v0 : Value) (v1 : Value) (st : St) : Res (Value × St) := goX J bag_Queue_int_Put_c.body [1, 1, 1] (envT [(0, v0), (1, v1)]) st
noncomputable def bag_Queue_int_Put_j1 (J : JT (Value × St)) (v0 : Value) (v1 : Value) (st : St) : Res (Value × St) := goX J bag_Queue_int_Put_c.body [1, 1, 1, 1, 1] (envT [(0, v0), (1, v1)]) st
noncomputable def bag_Queue_int_Put_j2 (J : JT (Value × St)) (v0 : Value) (v1 : Value) (st : St) : Res (Value × St) := goX J bag_Queue_int_Put_c.body [1, 1, 1, 1, 1, 1, 1] (envT [(0, v0), (1, v1)]) st
theorem bag_Queue_int_Put_eq (K : Ctx) (J : JT (Value × St)) (a0 a1 : Value) (st : St) : atX K J bag_Queue_int_Put_c (AM.start [a0, a1]) st =
  (.thn st (sEq false (.nilOf .ptr) a0 (.pointer none) st) fun p1 =>
  condX p1.1
  (.ok ((.bool false), p1.2))
  (bag_Queue_int_Put_j0 J a0 a1 p1.2)) := by kernel_rfl
theorem bag_Queue_int_Put_of {K : Ctx} (hF : Fix pgF K) {a0 a1 : Value} {st : St} {Q : Value × St → Prop} (h : ∀ J, IsJ K (retK bag_Queue_int_Put_c.results) J → Ok (atX K J bag_Queue_int_Put_c (AM.start [a0, a1]) st) Q) : Ok (K.go (.call n_bag_Queue_int_Put [a0, a1]) st) Q := call_of hF bag_Queue_int_Put_is rfl h
theorem bag_Queue_int_Put_j0_eq {K : Ctx} {J : JT (Value × St)} (hJ : IsJ K (retK bag_Queue_int_Put_c.results) J) (v0 : Value) (v1 : Value) (st : St) : bag_Queue_int_Put_j0 J v0 v1 st =
  (.thn st (sNilc v0 st) fun p1 =>
  .thn p1.2 (sOff 1 p1.1 p1.2) fun p2 =>
  .thn p2.2 (sLoad none p2.1 p2.2) fun p3 =>
  .thn p3.2 (sLook (.cell .int) (.bool false) false p3.1 v1 p3.2) fun p4 =>
  condX p4.1
  (.ok ((.bool false), p4.2))
  (bag_Queue_int_Put_j1 J v0 v1 p4.2)) := (go_eq hJ _ _ _ _).trans (by kernel_rfl)
theorem bag_Queue_int_Put_j1_eq {K : Ctx} {J : JT (Value × St)} (hJ : IsJ K (retK bag_Queue_int_Put_c.results) J) (v0 : Value) (v1 : Value) (st : St) : bag_Queue_int_Put_j1 J v0 v1 st =
  (.thn st (sNilc v0 st) fun p1 =>
  .thn p1.2 (sOff 1 p1.1 p1.2) fun p2 =>
  .thn p2.2 (sLoad none p2.1 p2.2) fun p3 =>
  .thn p3.2 (sEq false (.nilOf .map) p3.1 (.map none) p3.2) fun p4 =>
  condX p4.1
  (.thn p4.2 (sNewMap p4.2) fun p5 =>
  .thn p5.2 (sNilc v0 p5.2) fun p6 =>
  .thn p6.2 (sOff 1 p6.1 p6.2) fun p7 =>
  .thn p7.2 (sStore 1 p7.1 p5.1 p7.2) fun p8 =>
  bag_Queue_int_Put_j2 J v0 v1 p8.2)
  (bag_Queue_int_Put_j2 J v0 v1 p4.2)) := (go_eq hJ _ _ _ _).trans (by kernel_rfl)
theorem bag_Queue_int_Put_j2_eq {K : Ctx} {J : JT (Value × St)} (hJ : IsJ K (retK bag_Queue_int_Put_c.results) J) (v0 : Value) (v1 : Value) (st : St) : bag_Queue_int_Put_j2 J v0 v1 st =
  (.thn st (sNilc v0 st) fun p1 =>
  .thn p1.2 (sOff 1 p1.1 p1.2) fun p2 =>
  .thn p2.2 (sLoad none p2.1 p2.2) fun p3 =>
  .thn p3.2 (sMapSet (.cell .int) p3.1 v1 (.bool true) p3.2) fun p4 =>
  .thn p4.2 (sNilc v0 p4.2) fun p5 =>
  .thn p5.2 (sOff 0 p5.1 p5.2) fun p6 =>
  .thn p6.2 (sLoad none p6.1 p6.2) fun p7 =>
  .thn p7.2 (sLit 1 1 [(.int .i64 0)] [(0, 1, v1)] p7.2) fun p8 =>
  .thn p8.2 (sAppend 1 8 p7.1 p8.1 p8.2) fun p9 =>
  .thn p9.2 (sNilc v0 p9.2) fun p10 =>
  .thn p10.2 (sOff 0 p10.1 p10.2) fun p11 =>
  .thn p11.2 (sStore 1 p11.1 p9.1 p11.2) fun p12 =>
  .ok ((.bool true), p12.2)) := (go_eq hJ _ _ _ _).trans (by kernel_rfl)

/-! ### (*refinery/bag.Queue[int]).Drain -/
open C in
noncomputable def bag_Queue_int_Drain_c : AFun := ⟨4, [.tmp 2],
 (s (.ops [o 1 (.box (t 0)), o 2 (.mv (c .nilFunc))])
 (s (.ops [o 3 (.fn 110 [] [(t 1)]), o 2 (.mv (t 3))])
 .ret))⟩
theorem bag_Queue_int_Drain_is : pgF n_bag_Queue_int_Drain = some bag_Queue_int_Drain_c := by kernel_rfl
theorem bag_Queue_int_Drain_eq (K : Ctx) (J : JT (Value × St)) (a0 : Value) (st : St) : atX K J bag_Queue_int_Drain_c (AM.start [a0]) st =
  (.thn st (sBox a0 st) fun p1 =>
  .ok ((.func (.func n_bag_Queue_int_Drain_1) #[] #[p1.1]), p1.2)) := by kernel_rfl
theorem bag_Queue_int_Drain_of {K : Ctx} (hF : Fix pgF K) {a0 : Value} {st : St} {Q : Value × St → Prop} (h : ∀ J, IsJ K (retK bag_Queue_int_Drain_c.results) J → Ok (atX K J bag_Queue_int_Drain_c (AM.start [a0]) st) Q) : Ok (K.go (.call n_bag_Queue_int_Drain [a0]) st) Q := call_of hF bag_Queue_int_Drain_is rfl h

/-! ### slices.BinarySearch[[]int,int] -/
open C in
noncomputable def slices_BinarySearch_int_c : AFun := ⟨54, [.tmp 4, .tmp 5],
 (s (.ops [o 4 (.mv (c (i 0))), o 5 (.mv (c (.bool false)))])
 (s (.ops [o 10 (.mv (t 0)), o 11 (.len .slice (t 10)), o 6 (.mv (t 11))])
 (s (.ops [o 12 (.mv (t 6)), o 7 (.mv (c (i 0))), o 8 (.mv (t 12))])
 (s (.block 0 (s (.keep [0, 1, 6, 7, 8])
 (.loop (s (s (s (.ops [o 13 (.mv (t 7)), o 14 (.mv (t 8)), o 15 (.bin .lss (t 13) (t 14))])
 (.cond (t 15) .skip (.exit 0)))
 (s (.keep [0, 1, 6, 7, 8])
 (.block 1 (s (.ops [o 16 (.mv (t 7)), o 17 (.mv (t 8)), o 18 (.bin .add (t 16) (t 17)), o 19 (.conv (.int .u64) (t 18)), o 20 (.bin .shr (t 19) (c (.int .u64 1))), o 21 (.conv (.int .i64) (t 20)), o 9 (.mv (t 21))])
 (s (.ops [o 22 (.mv (t 0)), o 23 (.mv (t 9)), o 24 (.ixA 1 none (t 22) (t 23)), o 25 (.load none (t 24)), o 26 (.mv (t 1)), o 27 (.call (f 91) [(t 25), (t 26)])])
 (.cond (t 27) (.ops [o 28 (.mv (t 9)), o 29 (.bin .add (t 28) (c (i 1))), o 7 (.mv (t 29))]) (.ops [o 30 (.mv (t 9)), o 8 (.mv (t 30))])))))))
 (.keep [0, 1, 6, 7, 8])))))
 (s (.keep [0, 1, 6, 7])
 (s (.ops [o 31 (.mv (t 7)), o 32 (.mv (t 7)), o 33 (.mv (t 6)), o 34 (.bin .lss (t 32) (t 33)), o 35 (.mv (t 34)), g 36 true 35 (.mv (t 0)), g 37 true 35 (.mv (t 7)), g 38 true 35 (.ixA 1 none (t 36) (t 37)), g 39 true 35 (.load none (t 38)), g 40 true 35 (.mv (t 1)), g 41 true 35 (.bin .eql (t 39) (t 40)), g 42 true 35 (.mv (t 41)), g 43 false 42 (.mv (t 0)), g 44 false 42 (.mv (t 7)), g 45 false 42 (.ixA 1 none (t 43) (t 44)), g 46 false 42 (.load none (t 45)), g 47 false 42 (.call (f 111) [(t 46)]), g 48 false 42 (.mv (t 47)), g 49 true 48 (.mv (t 1)), g 50 true 48 (.call (f 111) [(t 49)]), g 51 false 42 (.pick (t 48) (t 50) (c (.bool false))), g 52 true 35 (.pick (t 42) (c (.bool true)) (t 51)), o 53 (.pick (t 35) (t 52) (c (.bool false))), o 4 (.mv (t 31)), o 5 (.mv (t 53))])
 .ret))))))⟩
theorem slices_BinarySearch_int_is : pgF n_slices_BinarySearch_int = some slices_BinarySearch_int_c := by kernel_rfl
noncomputable def slices_BinarySearch_int_l0 (J : JT (Value × St)) (v0 : Value) (v1 : Value) (v6 : Value) (v7 : Value) (v8 : Value) (st : St) : Res (Value × St) := lpX J slices_BinarySearch_int_c.body [1, 1, 1, 0, 0, 1] (envT [(0, v0), (1, v1), (6, v6), (7, v7), (8, v8)]) st
noncomputable def slices_BinarySearch_int_j0 (J : JT (Value × St)) (v0 : Value) (v1 : Value) (v6 : Value) (v7 : Value) (v8 : Value) (st : St) : Res (Value × St) := goX J slices_BinarySearch_int_c.body [1, 1, 1, 0, 0, 1, 0, 0, 1, 1] (envT [(0, v0), (1, v1), (6, v6), (7, v7), (8, v8)]) st
noncomputable def slices_BinarySearch_int_j1 (J : JT (Value × St)) (v0 : Value) (v1 : Value) (v6 : Value) (v7 : Value) (st : St) : Res (Value × St) := goX J slices_BinarySearch_int_c.body [1, 1, 1, 1, 1] (envT [(0, v0), (1, v1), (6, v6), (7, v7)]) st
theorem slices_BinarySearch_int_eq (K : Ctx) (J : JT (Value × St)) (a0 a1 : Value) (st : St) : atX K J slices_BinarySearch_int_c (AM.start [a0, a1]) st =
  (.thn st (sLen .slice a0 st) fun p1 =>
  slices_BinarySearch_int_l0 J a0 a1 p1.1 (.int .i64 0) p1.1 p1.2) := by kernel_rfl
theorem slices_BinarySearch_int_of {K : Ctx} (hF : Fix pgF K) {a0 a1 : Value} {st : St} {Q : Value × St → Prop} (h : ∀ J, IsJ K (retK slices_BinarySearch_int_c.results) J → Ok (atX K J slices_BinarySearch_int_c (AM.start [a0, a1]) st) Q) : Ok (K.go (.call n_slices_BinarySearch_int [a0, a1]) st) Q := call_of hF slices_BinarySearch_int_is rfl h
theorem slices_BinarySearch_int_l0_eq (K : Ctx) (J : JT (Value × St)) (v0 : Value) (v1 : Value) (v6 : Value) (v7 : Value) (v8 : Value) (st : St) : inX K J (retK slices_BinarySearch_int_c.results) slices_BinarySearch_int_c.body [1, 1, 1, 0, 0, 1] (envT [(0, v0), (1, v1), (6, v6), (7, v7), (8, v8)]) st =
  (.thn st (sBin .lss v7 v8 st) fun p1 =>
  condX p1.1
  (slices_BinarySearch_int_j0 J v0 v1 v6 v7 v8 p1.2)
  (slices_BinarySearch_int_j1 J v0 v1 v6 v7 p1.2)) := by kernel_rfl
theorem slices_BinarySearch_int_l0_of {K : Ctx} (hF : Fix pgF K) {J : JT (Value × St)} (hJ : IsJ K (retK slices_BinarySearch_int_c.results) J) {v0 : Value} {v1 : Value} {v6 : Value} {v7 : Value} {v8 : Value} {st : St} {Q : Value × St → Prop} (h : Ok (inX K J (retK slices_BinarySearch_int_c.results) slices_BinarySearch_int_c.body [1, 1, 1, 0, 0, 1] (envT [(0, v0), (1, v1), (6, v6), (7, v7), (8, v8)]) st) Q) : Ok (slices_BinarySearch_int_l0 J v0 v1 v6 v7 v8 st) Q := loop_of hF hJ h
theorem slices_BinarySearch_int_j0_eq {K : Ctx} {J : JT (Value × St)} (hJ : IsJ K (retK slices_BinarySearch_int_c.results) J) (v0 : Value) (v1 : Value) (v6 : Value) (v7 : Value) (v8 : Value) (st : St) : slices_BinarySearch_int_j0 J v0 v1 v6 v7 v8 st =
  (.thn st (sBin .add v7 v8 st) fun p1 =>
  .thn p1.2 (sConv (.int .u64) p1.1 p1.2) fun p2 =>
  .thn p2.2 (sBin .shr p2.1 (.int .u64 1) p2.2) fun p3 =>
  .thn p3.2 (sConv (.int .i64) p3.1 p3.2) fun p4 =>
  .thn p4.2 (sIxA 1 none v0 p4.1 p4.2) fun p5 =>
  .thn p5.2 (sLoad none p5.1 p5.2) fun p6 =>
  .thn p6.2 (K.go (.call n_cmp_Less_int [p6.1, v1]) p6.2) fun p7 =>
  condX p7.1
  (.thn p7.2 (sBin .add p4.1 (.int .i64 1) p7.2) fun p8 =>
  slices_BinarySearch_int_l0 J v0 v1 v6 p8.1 v8 p8.2)
  (slices_BinarySearch_int_l0 J v0 v1 v6 v7 p4.1 p7.2)) := (go_eq hJ _ _ _ _).trans (by kernel_rfl)
theorem slices_BinarySearch_int_j1_eq {K : Ctx} {J : JT (Value × St)} (hJ : IsJ K (retK slices_BinarySearch_int_c.results) J) (v0 : Value) (v1 : Value) (v6 : Value) (v7 : Value) (st : St) : slices_BinarySearch_int_j1 J v0 v1 v6 v7 st =
  (.thn st (sBin .lss v7 v6 st) fun p1 =>
  .thn p1.2 (sG p1.1 true (.ok (v0, p1.2)) p1.2) fun p2 =>
  .thn p2.2 (sG p1.1 true (.ok (v7, p2.2)) p2.2) fun p3 =>
  .thn p3.2 (sG p1.1 true (sIxA 1 none p2.1 p3.1 p3.2) p3.2) fun p4 =>
  .thn p4.2 (sG p1.1 true (sLoad none p4.1 p4.2) p4.2) fun p5 =>
  .thn p5.2 (sG p1.1 true (.ok (v1, p5.2)) p5.2) fun p6 =>
  .thn p6.2 (sG p1.1 true (sBin .eql p5.1 p6.1 p6.2) p6.2) fun p7 =>
  .thn p7.2 (sG p1.1 true (.ok (p7.1, p7.2)) p7.2) fun p8 =>
  .thn p8.2 (sG p8.1 false (.ok (v0, p8.2)) p8.2) fun p9 =>
  .thn p9.2 (sG p8.1 false (.ok (v7, p9.2)) p9.2) fun p10 =>
  .thn p10.2 (sG p8.1 false (sIxA 1 none p9.1 p10.1 p10.2) p10.2) fun p11 =>
  .thn p11.2 (sG p8.1 false (sLoad none p11.1 p11.2) p11.2) fun p12 =>
  .thn p12.2 (sG p8.1 false (K.go (.call n_slices_isNaN_int [p12.1]) p12.2) p12.2) fun p13 =>
  .thn p13.2 (sG p8.1 false (.ok (p13.1, p13.2)) p13.2) fun p14 =>
  .thn p14.2 (sG p14.1 true (.ok (v1, p14.2)) p14.2) fun p15 =>
  .thn p15.2 (sG p14.1 true (K.go (.call n_slices_isNaN_int [p15.1]) p15.2) p15.2) fun p16 =>
  .thn p16.2 (sG p8.1 false (sPick p14.1 p16.1 (.bool false) p16.2) p16.2) fun p17 =>
  .thn p17.2 (sG p1.1 true (sPick p8.1 (.bool true) p17.1 p17.2) p17.2) fun p18 =>
  .thn p18.2 (sPick p1.1 p18.1 (.bool false) p18.2) fun p19 =>
  .ok (.tuple #[v7, p19.1], p19.2)) := (go_eq hJ _ _ _ _).trans (by kernel_rfl)

/-! ### (*refinery/bag.Queue[int]).Take -/
open C in
noncomputable def bag_Queue_int_Take_c : AFun := ⟨37, [.tmp 2, .tmp 3],
 (s (.ops [o 2 (.mv (c (i 0))), o 3 (.mv (c (.bool false)))])
 (s (.ops [o 4 (.mv (c (i 0)))])
 (s (s (.ops [o 6 (.mv (t 0)), o 7 (.eq false (.nilOf .ptr) (t 6) (c (.pointer none))), o 8 (.mv (t 7)), g 9 false 8 (.mv (t 0)), g 10 false 8 (.nilc (t 9)), g 11 false 8 (.off 0 (t 10)), g 12 false 8 (.load none (t 11)), g 13 false 8 (.len .slice (t 12)), g 14 false 8 (.bin .eql (t 13) (c (i 0))), o 15 (.pick (t 8) (c (.bool true)) (t 14))])
 (.cond (t 15) (s (.ops [o 16 (.mv (t 4)), o 2 (.mv (t 16)), o 3 (.mv (c (.bool false)))])
 .ret) .skip))
 (s (.keep [0])
 (s (.ops [o 17 (.mv (t 0)), o 18 (.nilc (t 17)), o 19 (.off 0 (t 18)), o 20 (.load none (t 19)), o 21 (.ixA 1 none (t 20) (c (i 0))), o 22 (.load none (t 21)), o 5 (.mv (t 22))])
 (s (.ops [o 23 (.mv (t 0)), o 24 (.mv (t 0)), o 25 (.nilc (t 24)), o 26 (.off 0 (t 25)), o 27 (.load none (t 26)), o 28 (.slice (.slice 1) (t 27) (some (c (i 1))) none none), o 29 (.nilc (t 23)), o 30 (.off 0 (t 29)), n (.store 1 (t 30) (t 28))])
 (s (.ops [o 31 (.mv (t 0)), o 32 (.nilc (t 31)), o 33 (.off 1 (t 32)), o 34 (.load none (t 33)), o 35 (.mv (t 5)), n (.delete (.cell .int) (t 34) (t 35))])
 (s (.ops [o 36 (.mv (t 5)), o 2 (.mv (t 36)), o 3 (.mv (c (.bool true)))])
 .ret))))))))⟩
theorem bag_Queue_int_Take_is : pgF n_bag_Queue_int_Take = some bag_Queue_int_Take_c := by kernel_rfl
noncomputable def bag_Queue_int_Take_j0 (J : JT (Value × St)) (v0 : Value) (st : St) : Res (Value × St) := goX J bag_Queue_int_Take_c.body [1, 1, 1, 1] (envT [(0, v0)]) st
theorem bag_Queue_int_Take_eq (K : Ctx) (J : JT (Value × St)) (a0 : Value) (st : St) : atX K J bag_Queue_int_Take_c (AM.start [a0]) st =
  (.thn st (sEq false (.nilOf .ptr) a0 (.pointer none) st) fun p1 =>
  .thn p1.2 (sG p1.1 false (.ok (a0, p1.2)) p1.2) fun p2 =>
  .thn p2.2 (sG p1.1 false (sNilc p2.1 p2.2) p2.2) fun p3 =>
  .thn p3.2 (sG p1.1 false (sOff 0 p3.1 p3.2) p3.2) fun p4 =>
  .thn p4.2 (sG p1.1 false (sLoad none p4.1 p4.2) p4.2) fun p5 =>
  .thn p5.2 (sG p1.1 false (sLen .slice p5.1 p5.2) p5.2) fun p6 =>
  .thn p6.2 (sG p1.1 false (sBin .eql p6.1 (.int .i64 0) p6.2) p6.2) fun p7 =>
  .thn p7.2 (sPick p1.1 (.bool true) p7.1 p7.2) fun p8 =>
  condX p8.1
  (.ok (.tuple #[(.int .i64 0), (.bool false)], p8.2))
  (bag_Queue_int_Take_j0 J a0 p8.2)) := by kernel_rfl
theorem bag_Queue_int_Take_of {K : Ctx} (hF : Fix pgF K) {a0 : Value} {st : St} {Q : Value × St → Prop} (h : ∀ J, IsJ K (retK bag_Queue_int_Take_c.results) J → Ok (atX K J bag_Queue_int_Take_c (AM.start [a0]) st) Q) : Ok (K.go (.call n_bag_Queue_int_Take [a0]) st) Q := call_of hF bag_Queue_int_Take_is rfl h
theorem bag_Queue_int_Take_j0_eq {K : Ctx} {J : JT (Value × St)} (hJ : IsJ K (retK bag_Queue_int_Take_c.results) J) (v0 : Value) (st : St) : bag_Queue_int_Take_j0 J v0 st =
  (.thn st (sNilc v0 st) fun p1 =>
  .thn p1.2 (sOff 0 p1.1 p1.2) fun p2 =>
  .thn p2.2 (sLoad none p2.1 p2.2) fun p3 =>
  .thn p3.2 (sIxA 1 none p3.1 (.int .i64 0) p3.2) fun p4 =>
  .thn p4.2 (sLoad none p4.1 p4.2) fun p5 =>
  .thn p5.2 (sNilc v0 p5.2) fun p6 =>
  .thn p6.2 (sOff 0 p6.1 p6.2) fun p7 =>
  .thn p7.2 (sLoad none p7.1 p7.2) fun p8 =>
  .thn p8.2 (sSlice (.slice 1) p8.1 (some (.int .i64 1)) none none p8.2) fun p9 =>
  .thn p9.2 (sNilc v0 p9.2) fun p10 =>
  .thn p10.2 (sOff 0 p10.1 p10.2) fun p11 =>
  .thn p11.2 (sStore 1 p11.1 p9.1 p11.2) fun p12 =>
  .thn p12.2 (sNilc v0 p12.2) fun p13 =>
  .thn p13.2 (sOff 1 p13.1 p13.2) fun p14 =>
  .thn p14.2 (sLoad none p14.1 p14.2) fun p15 =>
  .thn p15.2 (sDelete (.cell .int) p15.1 p5.1 p15.2) fun p16 =>
  .ok (.tuple #[p5.1, (.bool true)], p16.2)) := (go_eq hJ _ _ _ _).trans (by kernel_rfl)

/-! ### (*refinery/bag.Queue[int]).Drain$1 -/
open C in
noncomputable def bag_Queue_int_Drain_1_c : AFun := ⟨20, [],
 (s (.ops [o 6 (.load none (t 1)), o 7 (.call (f 106) [(t 6)]), o 5 (.mv (t 7)), o 8 (.extract (t 5) 0), o 9 (.extract (t 5) 1), o 3 (.mv (t 8)), o 4 (.mv (t 9))])
 (.block 0 (s (.keep [0, 1, 3, 4])
 (.loop (s (s (s (.ops [o 10 (.mv (t 4))])
 (.cond (t 10) .skip (.exit 0)))
 (s (.keep [0, 1, 3])
 (s (.block 1 (s (.ops [o 16 (.mv (t 0)), o 17 (.mv (t 3)), o 18 (.call (t 16) [(t 17)]), o 19 (.un .not (t 18))])
 (.cond (t 19) .ret .skip)))
 (s (.keep [0, 1])
 (.ops [o 12 (.load none (t 1)), o 13 (.call (f 106) [(t 12)]), o 11 (.mv (t 13)), o 14 (.extract (t 11) 0), o 15 (.extract (t 11) 1), o 3 (.mv (t 14)), o 4 (.mv (t 15))])))))
 (.keep [0, 1, 3, 4]))))))⟩
theorem bag_Queue_int_Drain_1_is : pgF n_bag_Queue_int_Drain_1 = some bag_Queue_int_Drain_1_c := by kernel_rfl
noncomputable def bag_Queue_int_Drain_1_l0 (J : JT (Value × St)) (v0 : Value) (v1 : Value) (v3 : Value) (v4 : Value) (st : St) : Res (Value × St) := lpX J bag_Queue_int_Drain_1_c.body [1, 0, 1] (envT [(0, v0), (1, v1), (3, v3), (4, v4)]) st
noncomputable def bag_Queue_int_Drain_1_j0 (J : JT (Value × St)) (v0 : Value) (v1 : Value) (v3 : Value) (st : St) : Res (Value × St) := goX J bag_Queue_int_Drain_1_c.body [1, 0, 1, 0, 0, 1, 1] (envT [(0, v0), (1, v1), (3, v3)]) st
noncomputable def bag_Queue_int_Drain_1_j1 (J : JT (Value × St)) (v0 : Value) (v1 : Value) (st : St) : Res (Value × St) := goX J bag_Queue_int_Drain_1_c.body [1, 0, 1, 0, 0, 1, 1, 1, 1] (envT [(0, v0), (1, v1)]) st
theorem bag_Queue_int_Drain_1_eq (K : Ctx) (J : JT (Value × St)) (a0 a1 : Value) (st : St) : atX K J bag_Queue_int_Drain_1_c (AM.start [a0, a1]) st =
  (.thn st (sLoad none a1 st) fun p1 =>
  .thn p1.2 (K.go (.call n_bag_Queue_int_Take [p1.1]) p1.2) fun p2 =>
  .thn p2.2 (sExtract p2.1 0 p2.2) fun p3 =>
  .thn p3.2 (sExtract p2.1 1 p3.2) fun p4 =>
  bag_Queue_int_Drain_1_l0 J a0 a1 p3.1 p4.1 p4.2) := by kernel_rfl
theorem bag_Queue_int_Drain_1_of {K : Ctx} (hF : Fix pgF K) {a0 a1 : Value} {st : St} {Q : Value × St → Prop} (h : ∀ J, IsJ K (retK bag_Queue_int_Drain_1_c.results) J → Ok (atX K J bag_Queue_int_Drain_1_c (AM.start [a0, a1]) st) Q) : Ok (K.go (.call n_bag_Queue_int_Drain_1 [a0, a1]) st) Q := call_of hF bag_Queue_int_Drain_1_is rfl h
theorem bag_Queue_int_Drain_1_l0_eq (K : Ctx) (J : JT (Value × St)) (v0 : Value) (v1 : Value) (v3 : Value) (v4 : Value) (st : St) : inX K J (retK bag_Queue_int_Drain_1_c.results) bag_Queue_int_Drain_1_c.body [1, 0, 1] (envT [(0, v0), (1, v1), (3, v3), (4, v4)]) st =
  (condX v4
  (bag_Queue_int_Drain_1_j0 J v0 v1 v3 st)
  (.ok (.tuple #[], st))) := by kernel_rfl
theorem bag_Queue_int_Drain_1_l0_of {K : Ctx} (hF : Fix pgF K) {J : JT (Value × St)} (hJ : IsJ K (retK bag_Queue_int_Drain_1_c.results) J) {v0 : Value} {v1 : Value} {v3 : Value} {v4 : Value} {st : St} {Q : Value × St → Prop} (h : Ok (inX K J (retK bag_Queue_int_Drain_1_c.results) bag_Queue_int_Drain_1_c.body [1, 0, 1] (envT [(0, v0), (1, v1), (3, v3), (4, v4)]) st) Q) : Ok (bag_Queue_int_Drain_1_l0 J v0 v1 v3 v4 st) Q := loop_of hF hJ h
theorem bag_Queue_int_Drain_1_j0_eq {K : Ctx} {J : JT (Value × St)} (hJ : IsJ K (retK bag_Queue_int_Drain_1_c.results) J) (v0 : Value) (v1 : Value) (v3 : Value) (st : St) : bag_Queue_int_Drain_1_j0 J v0 v1 v3 st =
  (.thn st (sCall K v0 [v3] st) fun p1 =>
  .thn p1.2 (sUn .not p1.1 p1.2) fun p2 =>
  condX p2.1
  (.ok (.tuple #[], p2.2))
  (bag_Queue_int_Drain_1_j1 J v0 v1 p2.2)) := (go_eq hJ _ _ _ _).trans (by kernel_rfl)
theorem bag_Queue_int_Drain_1_j1_eq {K : Ctx} {J : JT (Value × St)} (hJ : IsJ K (retK bag_Queue_int_Drain_1_c.results) J) (v0 : Value) (v1 : Value) (st : St) : bag_Queue_int_Drain_1_j1 J v0 v1 st =
  (.thn st (sLoad none v1 st) fun p1 =>
  .thn p1.2 (K.go (.call n_bag_Queue_int_Take [p1.1]) p1.2) fun p2 =>
  .thn p2.2 (sExtract p2.1 0 p2.2) fun p3 =>
  .thn p3.2 (sExtract p2.1 1 p3.2) fun p4 =>
  bag_Queue_int_Drain_1_l0 J v0 v1 p3.1 p4.1 p4.2) := (go_eq hJ _ _ _ _).trans (by kernel_rfl)

/-! ### slices.isNaN[int] -/
open C in
noncomputable def slices_isNaN_int_c : AFun := ⟨6, [.tmp 2],
 (s (.ops [o 2 (.mv (c (.bool false)))])
 (s (.ops [o 3 (.mv (t 0)), o 4 (.mv (t 0)), o 5 (.bin .neq (t 3) (t 4)), o 2 (.mv (t 5))])
 .ret))⟩
theorem slices_isNaN_int_is : pgF n_slices_isNaN_int = some slices_isNaN_int_c := by kernel_rfl
theorem slices_isNaN_int_eq (K : Ctx) (J : JT (Value × St)) (a0 : Value) (st : St) : atX K J slices_isNaN_int_c (AM.start [a0]) st =
  (.thn st (sBin .neq a0 a0 st) fun p1 =>
  .ok (p1.1, p1.2)) := by kernel_rfl
theorem slices_isNaN_int_of {K : Ctx} (hF : Fix pgF K) {a0 : Value} {st : St} {Q : Value × St → Prop} (h : ∀ J, IsJ K (retK slices_isNaN_int_c.results) J → Ok (atX K J slices_isNaN_int_c (AM.start [a0]) st) Q) : Ok (K.go (.call n_slices_isNaN_int [a0]) st) Q := call_of hF slices_isNaN_int_is rfl h

/-! ### cmp.Less[int] -/
open C in
noncomputable def cmp_Less_int_c : AFun := ⟨17, [.tmp 4],
 (s (.ops [o 4 (.mv (c (.bool false)))])
 (s (.ops [o 5 (.mv (t 0)), o 6 (.call (f 118) [(t 5)]), o 7 (.mv (t 6)), g 8 true 7 (.mv (t 1)), g 9 true 7 (.call (f 118) [(t 8)]), g 10 true 7 (.un .not (t 9)), o 11 (.pick (t 7) (t 10) (c (.bool false))), o 12 (.mv (t 11)), g 13 false 12 (.mv (t 0)), g 14 false 12 (.mv (t 1)), g 15 false 12 (.bin .lss (t 13) (t 14)), o 16 (.pick (t 12) (c (.bool true)) (t 15)), o 4 (.mv (t 16))])
 .ret))⟩
theorem cmp_Less_int_is : pgF n_cmp_Less_int = some cmp_Less_int_c := by kernel_rfl
theorem cmp_Less_int_eq (K : Ctx) (J : JT (Value × St)) (a0 a1 : Value) (st : St) : atX K J cmp_Less_int_c (AM.start [a0, a1]) st =
  (.thn st (K.go (.call n_cmp_isNaN_int [a0]) st) fun p1 =>
  .thn p1.2 (sG p1.1 true (.ok (a1, p1.2)) p1.2) fun p2 =>
  .thn p2.2 (sG p1.1 true (K.go (.call n_cmp_isNaN_int [p2.1]) p2.2) p2.2) fun p3 =>
  .thn p3.2 (sG p1.1 true (sUn .not p3.1 p3.2) p3.2) fun p4 =>
  .thn p4.2 (sPick p1.1 p4.1 (.bool false) p4.2) fun p5 =>
  .thn p5.2 (sG p5.1 false (.ok (a0, p5.2)) p5.2) fun p6 =>
  .thn p6.2 (sG p5.1 false (.ok (a1, p6.2)) p6.2) fun p7 =>
  .thn p7.2 (sG p5.1 false (sBin .lss p6.1 p7.1 p7.2) p7.2) fun p8 =>
  .thn p8.2 (sPick p5.1 (.bool true) p8.1 p8.2) fun p9 =>
  .ok (p9.1, p9.2)) := by kernel_rfl
theorem cmp_Less_int_of {K : Ctx} (hF : Fix pgF K) {a0 a1 : Value} {st : St} {Q : Value × St → Prop} (h : ∀ J, IsJ K (retK cmp_Less_int_c.results) J → Ok (atX K J cmp_Less_int_c (AM.start [a0, a1]) st) Q) : Ok (K.go (.call n_cmp_Less_int [a0, a1]) st) Q := call_of hF cmp_Less_int_is rfl h

/-! ### cmp.isNaN[int] -/
open C in
noncomputable def cmp_isNaN_int_c : AFun := ⟨6, [.tmp 2],
 (s (.ops [o 2 (.mv (c (.bool false)))])
 (s (.ops [o 3 (.mv (t 0)), o 4 (.mv (t 0)), o 5 (.bin .neq (t 3) (t 4)), o 2 (.mv (t 5))])
 .ret))⟩
theorem cmp_isNaN_int_is : pgF n_cmp_isNaN_int = some cmp_isNaN_int_c := by kernel_rfl
theorem cmp_isNaN_int_eq (K : Ctx) (J : JT (Value × St)) (a0 : Value) (st : St) : atX K J cmp_isNaN_int_c (AM.start [a0]) st =
  (.thn st (sBin .neq a0 a0 st) fun p1 =>
  .ok (p1.1, p1.2)) := by kernel_rfl
theorem cmp_isNaN_int_of {K : Ctx} (hF : Fix pgF K) {a0 : Value} {st : St} {Q : Value × St → Prop} (h : ∀ J, IsJ K (retK cmp_isNaN_int_c.results) J → Ok (atX K J cmp_isNaN_int_c (AM.start [a0]) st) Q) : Ok (K.go (.call n_cmp_isNaN_int [a0]) st) Q := call_of hF cmp_isNaN_int_is rfl h
end Go.Proofs.Ytenfblnmmmppbaa.Sh
