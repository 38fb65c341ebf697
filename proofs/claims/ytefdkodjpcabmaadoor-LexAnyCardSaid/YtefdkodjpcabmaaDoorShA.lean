/-
 The functions of the program, operation by operation, as the abstract machine has them.
-/
import Derived.Test.YtefdkodjpcabmaaDoorProg
import Derived.Test.YtefdkodjpcabmaaDoorShN
set_option linter.unusedVariables false
set_option maxRecDepth 100000
namespace Go.Proofs.YtefdkodjpcabmaaDoor.Sh
open Go Go.AM Go.Proofs
noncomputable section
variable {K : Ctx} {J : JT (Value × St)} {st : St} {Q : Value × St → Prop}
open C in
def refinerylaw04_Awake_c : AFun := ⟨46, [.tmp 0],
 (s (.ops [o 0 (.mv (c (.bool false)))])
 (s (.ops [o 8 (.call (f 16) [(c (.string (bstr [37, 49, 32, 61, 32, 53])))]), o 7 (.mv (t 8)), o 9 (.extract (t 7) 0), o 10 (.extract (t 7) 1), o 11 (.extract (t 7) 2), o 1 (.mv (t 9)), o 2 (.mv (t 10)), o 3 (.mv (t 11))])
 (s (.ops [o 13 (.call (f 16) [(c (.string (bstr [32, 37, 48, 49])))]), o 12 (.mv (t 13)), o 14 (.extract (t 12) 0), o 15 (.extract (t 12) 1), o 16 (.extract (t 12) 2), o 4 (.mv (t 14)), o 5 (.mv (t 15)), o 6 (.mv (t 16))])
 (s (.ops [o 17 (.mv (t 3)), o 18 (.bin .eql (t 17) (c (i 0))), o 19 (.mv (t 18)), g 20 true 19 (.mv (t 1)), g 21 true 19 (.len .slice (t 20)), g 22 true 19 (.bin .eql (t 21) (c (i 4))), o 23 (.pick (t 19) (t 22) (c (.bool false))), o 24 (.mv (t 23)), g 25 true 24 (.mv (t 1)), g 26 true 24 (.ixA 4 none (t 25) (c (i 0))), g 27 true 24 (.off 3 (t 26)), g 28 true 24 (.load none (t 27)), g 29 true 24 (.bin .eql (t 28) (c (i 1))), o 30 (.pick (t 24) (t 29) (c (.bool false))), o 31 (.mv (t 30)), g 32 true 31 (.mv (t 1)), g 33 true 31 (.ixA 4 none (t 32) (c (i 2))), g 34 true 31 (.off 0 (t 33)), g 35 true 31 (.load none (t 34)), g 36 true 31 (.bin .eql (t 35) (c (u 5))), o 37 (.pick (t 31) (t 36) (c (.bool false))), o 38 (.mv (t 37)), g 39 true 38 (.mv (t 6)), g 40 true 38 (.bin .eql (t 39) (c (i 4))), o 41 (.pick (t 38) (t 40) (c (.bool false))), o 42 (.mv (t 41)), g 43 true 42 (.mv (t 5)), g 44 true 42 (.bin .eql (t 43) (c (i 1))), o 45 (.pick (t 42) (t 44) (c (.bool false))), o 0 (.mv (t 45))])
 .ret))))⟩
theorem refinerylaw04_Awake_is : pgF n_refinerylaw04_Awake = some refinerylaw04_Awake_c := by kernel_rfl
theorem refinerylaw04_Awake_eq (K : Ctx) (J : JT (Value × St)) (st : St) : atX K J refinerylaw04_Awake_c (AM.start []) st =
 (.thn st (K.go (.call n_lex_Split [(.string (bstr [37, 49, 32, 61, 32, 53]))]) st) fun p1 =>
 .thn p1.2 (sExtract p1.1 0 p1.2) fun p2 =>
 .thn p2.2 (sExtract p1.1 1 p2.2) fun p3 =>
 .thn p3.2 (sExtract p1.1 2 p3.2) fun p4 =>
 .thn p4.2 (K.go (.call n_lex_Split [(.string (bstr [32, 37, 48, 49]))]) p4.2) fun p5 =>
 .thn p5.2 (sExtract p5.1 0 p5.2) fun p6 =>
 .thn p6.2 (sExtract p5.1 1 p6.2) fun p7 =>
 .thn p7.2 (sExtract p5.1 2 p7.2) fun p8 =>
 .thn p8.2 (sBin .eql p4.1 (.int .i64 0) p8.2) fun p9 =>
 .thn p9.2 (sG p9.1 true (.ok (p2.1, p9.2)) p9.2) fun p10 =>
 .thn p10.2 (sG p9.1 true (sLen .slice p10.1 p10.2) p10.2) fun p11 =>
 .thn p11.2 (sG p9.1 true (sBin .eql p11.1 (.int .i64 4) p11.2) p11.2) fun p12 =>
 .thn p12.2 (sPick p9.1 p12.1 (.bool false) p12.2) fun p13 =>
 .thn p13.2 (sG p13.1 true (.ok (p2.1, p13.2)) p13.2) fun p14 =>
 .thn p14.2 (sG p13.1 true (sIxA 4 none p14.1 (.int .i64 0) p14.2) p14.2) fun p15 =>
 .thn p15.2 (sG p13.1 true (sOff 3 p15.1 p15.2) p15.2) fun p16 =>
 .thn p16.2 (sG p13.1 true (sLoad none p16.1 p16.2) p16.2) fun p17 =>
 .thn p17.2 (sG p13.1 true (sBin .eql p17.1 (.int .i64 1) p17.2) p17.2) fun p18 =>
 .thn p18.2 (sPick p13.1 p18.1 (.bool false) p18.2) fun p19 =>
 .thn p19.2 (sG p19.1 true (.ok (p2.1, p19.2)) p19.2) fun p20 =>
 .thn p20.2 (sG p19.1 true (sIxA 4 none p20.1 (.int .i64 2) p20.2) p20.2) fun p21 =>
 .thn p21.2 (sG p19.1 true (sOff 0 p21.1 p21.2) p21.2) fun p22 =>
 .thn p22.2 (sG p19.1 true (sLoad none p22.1 p22.2) p22.2) fun p23 =>
 .thn p23.2 (sG p19.1 true (sBin .eql p23.1 (.int .u8 5) p23.2) p23.2) fun p24 =>
 .thn p24.2 (sPick p19.1 p24.1 (.bool false) p24.2) fun p25 =>
 .thn p25.2 (sG p25.1 true (.ok (p8.1, p25.2)) p25.2) fun p26 =>
 .thn p26.2 (sG p25.1 true (sBin .eql p26.1 (.int .i64 4) p26.2) p26.2) fun p27 =>
 .thn p27.2 (sPick p25.1 p27.1 (.bool false) p27.2) fun p28 =>
 .thn p28.2 (sG p28.1 true (.ok (p7.1, p28.2)) p28.2) fun p29 =>
 .thn p29.2 (sG p28.1 true (sBin .eql p29.1 (.int .i64 1) p29.2) p29.2) fun p30 =>
 .thn p30.2 (sPick p28.1 p30.1 (.bool false) p30.2) fun p31 =>
 .ok (p31.1, p31.2)) := by kernel_rfl
theorem refinerylaw04_Awake_of : Of0 n_refinerylaw04_Awake refinerylaw04_Awake_c := fun hF => call_of hF refinerylaw04_Awake_is rfl
open C in
def lex_Split_c : AFun := ⟨1, [.cell 2 none, .cell 3 none, .cell 4 none],
 (s (.ops [o 2 (.new [(.slice none 0 0)]), o 3 (.new [(i 0)]), o 4 (.new [(i 0)])])
 (s (.ops [o 5 (.new [(.slice none 0 0)])])
 (s (s (.ops [o 8 (.mv (t 0)), o 9 (.call (f 17) [(t 8)])])
 (.block 0 (s (.keep [2, 3, 4, 5, 6, 7, 9])
 (.range (t 9) [10, 11] (s (.ops [o 6 (.lnew [(u 0), (i 0), (.string (bstr [])), (i 0)]), o 6 (.upd 4 0 (t 6) (t 10))])
 (.ops [o 7 (.mv (t 11))])) (s (.keep [2, 3, 4, 5, 6, 7])
 (.block 1 (s (s (.ops [o 12 (.mv (t 7)), o 13 (.bin .neq (t 12) (c (i 0)))])
 (.cond (t 13) (s (.draw [d 3 0 true (n (.store 1 (t 2) (c (.slice none 0 0)))), d 0 0 false (o 14 (.lref (t 6))), d 1 1 false (o 15 (.field none 1 (t 6))), d 4 0 true (n (.store 1 (t 3) (t 15))), d 2 0 false (o 16 (.mv (t 7))), d 5 0 true (n (.store 1 (t 4) (t 16)))])
 .ret) .skip))
 (s (.keep [5, 6])
 (.ops [o 17 (.load none (t 5)), o 18 (.field (some 4) 0 (t 6)), o 19 (.lit 4 1 [(u 0), (i 0), (.string (bstr [])), (i 0)] [(0, 4, (t 18))]), o 20 (.append 4 40 (t 17) (t 19)), n (.store 1 (t 5) (t 20))])))))))))
 (s (.keep [2, 3, 4, 5])
 (s (.ops [o 21 (.load none (t 5)), n (.store 1 (t 2) (t 21)), n (.store 1 (t 3) (c (i 0))), n (.store 1 (t 4) (c (i 0)))])
 .ret)))))⟩
theorem lex_Split_is : pgF n_lex_Split = some lex_Split_c := by kernel_rfl
def lex_Split_j0 (J : JT (Value × St)) (v2 v3 v4 v5 v6 v7 v9 : Value) (st : St) := goX J lex_Split_c.body [1, 1, 0, 1, 0, 1] (envT [(2, v2), (3, v3), (4, v4), (5, v5), (6, v6), (7, v7), (9, v9)]) st
def lex_Split_x0 (K : Ctx) (J : JT (Value × St)) (x : AExit) (v2 v3 v4 v5 v6 v7 v9 : Value) (st : St) : Res (Value × St) := kJ K J (retK lex_Split_c.results) (posK lex_Split_c.body [1, 1, 0, 1, 0, 1] []) x (envT [(2, v2), (3, v3), (4, v4), (5, v5), (6, v6), (7, v7), (9, v9)]) st
def lex_Split_j1 (J : JT (Value × St)) (v2 v3 v4 v5 : Value) (st : St) := goX J lex_Split_c.body [1, 1, 1, 1] (envT [(2, v2), (3, v3), (4, v4), (5, v5)]) st
def lex_Split_jr1101011_0 (J : JT (AExit × St)) (v2 v3 v4 v5 v6 v7 : Value) (st : St) : Res (AExit × St) := goX J (posC lex_Split_c.body [1, 1, 0, 1, 0, 1, 1]) [1] (envT [(2, v2), (3, v3), (4, v4), (5, v5), (6, v6), (7, v7)]) st
def lex_Split_jr1101011_1 (J : JT (AExit × St)) (v5 v6 : Value) (st : St) : Res (AExit × St) := goX J (posC lex_Split_c.body [1, 1, 0, 1, 0, 1, 1]) [1, 0, 1, 1] (envT [(5, v5), (6, v6)]) st
theorem lex_Split_eq (K : Ctx) (J : JT (Value × St)) (a0 : Value) (st : St) : atX K J lex_Split_c (AM.start [a0]) st =
 (.thn st (sNew [(.slice none 0 0)] st) fun p1 =>
 .thn p1.2 (sNew [(.int .i64 0)] p1.2) fun p2 =>
 .thn p2.2 (sNew [(.int .i64 0)] p2.2) fun p3 =>
 .thn p3.2 (sNew [(.slice none 0 0)] p3.2) fun p4 =>
 .thn p4.2 (K.go (.call n_lex_Tokens [a0]) p4.2) fun p5 =>
 lex_Split_j0 J p1.1 p2.1 p3.1 p4.1 nothing nothing p5.1 p5.2) := by kernel_rfl
theorem lex_Split_of : Of1 n_lex_Split lex_Split_c := fun hF => call_of hF lex_Split_is rfl
theorem lex_Split_j0_eq (hJ : IsJ K (retK lex_Split_c.results) J) (v2 v3 v4 v5 v6 v7 v9 : Value) (st : St) : lex_Split_j0 J v2 v3 v4 v5 v6 v7 v9 st =
 (sRange K v9 st (.loop (envT [(2, v2), (3, v3), (4, v4), (5, v5), (6, v6), (7, v7), (9, v9)]) [10, 11] (posC lex_Split_c.body [1, 1, 0, 1, 0, 1, 0]) (posC lex_Split_c.body [1, 1, 0, 1, 0, 1, 1]) .ready .normal) (fun x s => lex_Split_x0 K J x v2 v3 v4 v5 v6 v7 v9 s)) := gq hJ (by kernel_rfl)
theorem lex_Split_x0_n (K : Ctx) (J : JT (Value × St)) (v2 v3 v4 v5 v6 v7 v9 : Value) (st : St) : lex_Split_x0 K J .normal v2 v3 v4 v5 v6 v7 v9 st =
 (lex_Split_j1 J v2 v3 v4 v5 st) := by kernel_rfl
theorem lex_Split_x0_r (K : Ctx) (J : JT (Value × St)) (v2 v3 v4 v5 v6 v7 v9 : Value) (st : St) : lex_Split_x0 K J .ret v2 v3 v4 v5 v6 v7 v9 st =
 ((sLoad none v2 st >>= fun p1 => (sLoad none v3 st >>= fun p2 => (sLoad none v4 st >>= fun p3 => .ok [p3.1]) >>= fun r => .ok (p2.1 :: r)) >>= fun r => .ok (p1.1 :: r)) >>= fun vs => .ok (oneOf vs, st)) := by kernel_rfl
theorem lex_Split_j1_eq (hJ : IsJ K (retK lex_Split_c.results) J) (v2 v3 v4 v5 : Value) (st : St) : lex_Split_j1 J v2 v3 v4 v5 st =
 (.thn st (sLoad none v5 st) fun p1 =>
 .thn p1.2 (sStore 1 v2 p1.1 p1.2) fun p2 =>
 .thn p2.2 (sStore 1 v3 (.int .i64 0) p2.2) fun p3 =>
 .thn p3.2 (sStore 1 v4 (.int .i64 0) p3.2) fun p4 =>
 (sLoad none v2 p4.2 >>= fun p5 => (sLoad none v3 p4.2 >>= fun p6 => (sLoad none v4 p4.2 >>= fun p7 => .ok [p7.1]) >>= fun r => .ok (p6.1 :: r)) >>= fun r => .ok (p5.1 :: r)) >>= fun vs => .ok (oneOf vs, p4.2)) := gq hJ (by kernel_rfl)
theorem lex_Split_jr1101011_0_eq {K : Ctx} {J : JT (AExit × St)} (hJ : IsJ K rawK J) (v2 v3 v4 v5 v6 v7 : Value) (st : St) : lex_Split_jr1101011_0 J v2 v3 v4 v5 v6 v7 st =
 (.thn st (sBin .neq v7 (.int .i64 0) st) fun p1 =>
 condX p1.1
 (.thn p1.2 (sStore 1 v2 (.slice none 0 0) p1.2) fun p2 =>
 .thn p2.2 (sLref v6 p2.2) fun p3 =>
 .thn p3.2 (sField none 1 v6 p3.2) fun p4 =>
 Res.need (sStays (List.take 1 (p1.2 :: [])) p2.2.next nothing (fun s => sField none 1 v6 s) p4.1) "order" >>= fun _ =>
 .thn p4.2 (sStore 1 v3 p4.1 p4.2) fun p5 =>
 .thn p5.2 (sStore 1 v4 v7 p5.2) fun p6 =>
 .ok (.ret, p6.2))
 (lex_Split_jr1101011_1 J v5 v6 p1.2)) := gq hJ (by kernel_rfl)
theorem lex_Split_jr1101011_1_eq {K : Ctx} {J : JT (AExit × St)} (hJ : IsJ K rawK J) (v5 v6 : Value) (st : St) : lex_Split_jr1101011_1 J v5 v6 st =
 (.thn st (sLoad none v5 st) fun p1 =>
 .thn p1.2 (sField (some 4) 0 v6 p1.2) fun p2 =>
 .thn p2.2 (sLit 4 1 [(.int .u8 0), (.int .i64 0), (.string (bstr [])), (.int .i64 0)] [(0, 4, p2.1)] p2.2) fun p3 =>
 .thn p3.2 (sAppend 4 40 p1.1 p3.1 p3.2) fun p4 =>
 .thn p4.2 (sStore 1 v5 p4.1 p4.2) fun p5 =>
 .ok (.normal, p5.2)) := gq hJ (by kernel_rfl)
open C in
def lex_Tokens_c : AFun := ⟨4, [.tmp 2],
 (s (.ops [o 1 (.box (t 0)), o 2 (.mv (c .nilFunc))])
 (s (.ops [o 3 (.fn 29 [] [(t 1)]), o 2 (.mv (t 3))])
 .ret))⟩
theorem lex_Tokens_is : pgF n_lex_Tokens = some lex_Tokens_c := by kernel_rfl
theorem lex_Tokens_eq (K : Ctx) (J : JT (Value × St)) (a0 : Value) (st : St) : atX K J lex_Tokens_c (AM.start [a0]) st =
 (.thn st (sBox a0 st) fun p1 =>
 .ok ((.func (.func n_lex_Tokens_1) #[] #[p1.1]), p1.2)) := by kernel_rfl
theorem lex_Tokens_of : Of1 n_lex_Tokens lex_Tokens_c := fun hF => call_of hF lex_Tokens_is rfl
open C in
def lex_Tokens_1_c : AFun := ⟨2, [],
 (s (s (.ops [o 6 (.load none (t 1)), o 7 (.len .str (t 6)), o 8 (.bin .gtr (t 7) (c (i 100000)))])
 (.cond (t 8) (s (.ops [o 9 (.mv (t 0)), o 10 (.build [(u 0), (i 0), (.string (bstr [])), (i 0)] [(1, 1, (c (i 100000)))]), o 11 (.call (t 9) [(t 10), (c (i 3))])])
 .ret) .skip))
 (s (.keep [0, 1])
 (s (s (.ops [o 3 (.mv (c (i 0)))])
 (.block 0 (s (.keep [0, 1, 3])
 (.loop (s (s (s (.ops [o 12 (.mv (t 3)), o 13 (.load none (t 1)), o 14 (.len .str (t 13)), o 15 (.bin .lss (t 12) (t 14))])
 (.cond (t 15) .skip (.exit 0)))
 (s (.keep [0, 1, 3])
 (.block 1 (s (s (.ops [o 16 (.load none (t 1)), o 17 (.mv (t 3)), o 18 (.ixS (t 16) (t 17)), o 19 (.bin .eql (t 18) (c (u 32)))])
 (.cond (t 19) (s (.ops [o 20 (.mv (t 3)), o 21 (.bin .add (t 20) (c (i 1))), o 3 (.mv (t 21))])
 (.exit 1)) .skip))
 (s (.keep [0, 1, 3])
 (s (s (.ops [o 22 (.load none (t 1)), o 23 (.mv (t 3)), o 24 (.ixS (t 22) (t 23)), o 25 (.bin .eql (t 24) (c (u 35)))])
 (.cond (t 25) (s (.block 2 (s (.keep [0, 1, 3])
 (.loop (s (s (s (.ops [o 26 (.mv (t 3)), o 27 (.load none (t 1)), o 28 (.len .str (t 27)), o 29 (.bin .lss (t 26) (t 28)), o 30 (.mv (t 29)), g 31 true 30 (.load none (t 1)), g 32 true 30 (.mv (t 3)), g 33 true 30 (.ixS (t 31) (t 32)), g 34 true 30 (.bin .neq (t 33) (c (u 10))), o 35 (.pick (t 30) (t 34) (c (.bool false)))])
 (.cond (t 35) .skip (.exit 2)))
 (s (.keep [0, 1, 3])
 (.block 3 (.ops [o 36 (.mv (t 3)), o 37 (.bin .add (t 36) (c (i 1))), o 3 (.mv (t 37))]))))
 (.keep [0, 1, 3])))))
 (s (.keep [0, 1, 3])
 (.exit 1))) .skip))
 (s (.keep [0, 1, 3])
 (s (.ops [o 39 (.load none (t 1)), o 40 (.mv (t 3)), o 41 (.call (f 30) [(t 39), (t 40)]), o 38 (.mv (t 41)), o 42 (.extract (t 38) 0), o 43 (.extract (t 38) 1), o 4 (.lnew [(u 0), (i 0), (.string (bstr [])), (i 0)]), o 4 (.upd 4 0 (t 4) (t 42)), o 5 (.mv (t 43))])
 (s (s (.ops [o 44 (.mv (t 5)), o 45 (.bin .eql (t 44) (c (i 0)))])
 (.cond (t 45) (s (.ops [o 46 (.mv (t 0)), o 47 (.mv (t 3)), o 48 (.build [(u 0), (i 0), (.string (bstr [])), (i 0)] [(1, 1, (t 47))]), o 49 (.call (t 46) [(t 48), (c (i 4))])])
 .ret) .skip))
 (s (.keep [0, 1, 3, 4, 5])
 (s (s (.ops [o 50 (.mv (t 0)), o 51 (.field (some 4) 0 (t 4)), o 52 (.call (t 50) [(t 51), (c (i 0))]), o 53 (.un .not (t 52))])
 (.cond (t 53) .ret .skip))
 (s (.keep [0, 1, 3, 5])
 (.ops [o 54 (.mv (t 3)), o 55 (.mv (t 5)), o 56 (.bin .add (t 54) (t 55)), o 3 (.mv (t 56))])))))))))))))
 (.keep [0, 1, 3]))))))
 (s (.keep [0, 1])
 (.ops [o 57 (.mv (t 0)), o 58 (.load none (t 1)), o 59 (.len .str (t 58)), o 60 (.build [(u 0), (i 0), (.string (bstr [])), (i 0)] [(1, 1, (t 59))]), o 61 (.call (t 57) [(t 60), (c (i 0))])])))))⟩
theorem lex_Tokens_1_is : pgF n_lex_Tokens_1 = some lex_Tokens_1_c := by kernel_rfl
def lex_Tokens_1_j0 (J : JT (Value × St)) (v0 v1 : Value) (st : St) := goX J lex_Tokens_1_c.body [1, 1] (envT [(0, v0), (1, v1)]) st
def lex_Tokens_1_l0 (J : JT (Value × St)) (v0 v1 v3 : Value) (st : St) := lpX J lex_Tokens_1_c.body [1, 1, 0, 1, 0, 1] (envT [(0, v0), (1, v1), (3, v3)]) st
def lex_Tokens_1_j1 (J : JT (Value × St)) (v0 v1 v3 : Value) (st : St) := goX J lex_Tokens_1_c.body [1, 1, 0, 1, 0, 1, 0, 0, 1, 1] (envT [(0, v0), (1, v1), (3, v3)]) st
def lex_Tokens_1_j2 (J : JT (Value × St)) (v0 v1 : Value) (st : St) := goX J lex_Tokens_1_c.body [1, 1, 1, 1] (envT [(0, v0), (1, v1)]) st
def lex_Tokens_1_j3 (J : JT (Value × St)) (v0 v1 v3 : Value) (st : St) := goX J lex_Tokens_1_c.body [1, 1, 0, 1, 0, 1, 0, 0, 1, 1, 0, 1, 1] (envT [(0, v0), (1, v1), (3, v3)]) st
def lex_Tokens_1_l1 (J : JT (Value × St)) (v0 v1 v3 : Value) (st : St) := lpX J lex_Tokens_1_c.body [1, 1, 0, 1, 0, 1, 0, 0, 1, 1, 0, 1, 1, 0, 1, 0, 0, 0, 1] (envT [(0, v0), (1, v1), (3, v3)]) st
def lex_Tokens_1_j4 (J : JT (Value × St)) (v0 v1 v3 : Value) (st : St) := goX J lex_Tokens_1_c.body [1, 1, 0, 1, 0, 1, 0, 0, 1, 1, 0, 1, 1, 1, 1] (envT [(0, v0), (1, v1), (3, v3)]) st
def lex_Tokens_1_j5 (J : JT (Value × St)) (v0 v1 v3 : Value) (st : St) := goX J lex_Tokens_1_c.body [1, 1, 0, 1, 0, 1, 0, 0, 1, 1, 0, 1, 1, 0, 1, 0, 0, 0, 1, 0, 0, 1, 1] (envT [(0, v0), (1, v1), (3, v3)]) st
def lex_Tokens_1_j6 (J : JT (Value × St)) (v0 v1 v3 : Value) (st : St) := goX J lex_Tokens_1_c.body [1, 1, 0, 1, 0, 1, 0, 0, 1, 1, 0, 1, 1, 0, 1, 0, 1, 1] (envT [(0, v0), (1, v1), (3, v3)]) st
def lex_Tokens_1_j7 (J : JT (Value × St)) (v0 v1 v3 v4 v5 : Value) (st : St) := goX J lex_Tokens_1_c.body [1, 1, 0, 1, 0, 1, 0, 0, 1, 1, 0, 1, 1, 1, 1, 1, 1, 1] (envT [(0, v0), (1, v1), (3, v3), (4, v4), (5, v5)]) st
def lex_Tokens_1_j8 (J : JT (Value × St)) (v0 v1 v3 v5 : Value) (st : St) := goX J lex_Tokens_1_c.body [1, 1, 0, 1, 0, 1, 0, 0, 1, 1, 0, 1, 1, 1, 1, 1, 1, 1, 1, 1] (envT [(0, v0), (1, v1), (3, v3), (5, v5)]) st
theorem lex_Tokens_1_eq (K : Ctx) (J : JT (Value × St)) (a0 a1 : Value) (st : St) : atX K J lex_Tokens_1_c (AM.start [a0, a1]) st =
 (.thn st (sLoad none a1 st) fun p1 =>
 .thn p1.2 (sLen .str p1.1 p1.2) fun p2 =>
 .thn p2.2 (sBin .gtr p2.1 (.int .i64 100000) p2.2) fun p3 =>
 condX p3.1
 (.thn p3.2 (sBuild [(.int .u8 0), (.int .i64 0), (.string (bstr [])), (.int .i64 0)] [(1, 1, (.int .i64 100000))] p3.2) fun p4 =>
 .thn p4.2 (sCall K a0 [p4.1, (.int .i64 3)] p4.2) fun p5 =>
 .ok (.tuple #[], p5.2))
 (lex_Tokens_1_j0 J a0 a1 p3.2)) := by kernel_rfl
theorem lex_Tokens_1_of : Of2 n_lex_Tokens_1 lex_Tokens_1_c := fun hF => call_of hF lex_Tokens_1_is rfl
theorem lex_Tokens_1_j0_eq (hJ : IsJ K (retK lex_Tokens_1_c.results) J) (v0 v1 : Value) (st : St) : lex_Tokens_1_j0 J v0 v1 st =
 (lex_Tokens_1_l0 J v0 v1 (.int .i64 0) st) := gq hJ (by kernel_rfl)
theorem lex_Tokens_1_l0_eq (K : Ctx) (J : JT (Value × St)) (v0 v1 v3 : Value) (st : St) : inX K J (retK lex_Tokens_1_c.results) lex_Tokens_1_c.body [1, 1, 0, 1, 0, 1] (envT [(0, v0), (1, v1), (3, v3)]) st =
 (.thn st (sLoad none v1 st) fun p1 =>
 .thn p1.2 (sLen .str p1.1 p1.2) fun p2 =>
 .thn p2.2 (sBin .lss v3 p2.1 p2.2) fun p3 =>
 condX p3.1
 (lex_Tokens_1_j1 J v0 v1 v3 p3.2)
 (lex_Tokens_1_j2 J v0 v1 p3.2)) := by kernel_rfl
theorem lex_Tokens_1_l0_of (hF : Fix pgF K) (hJ : IsJ K (retK lex_Tokens_1_c.results) J) {v0 v1 v3 : Value} (h : Ok (inX K J (retK lex_Tokens_1_c.results) lex_Tokens_1_c.body [1, 1, 0, 1, 0, 1] (envT [(0, v0), (1, v1), (3, v3)]) st) Q) : Ok (lex_Tokens_1_l0 J v0 v1 v3 st) Q := loop_of hF hJ h
theorem lex_Tokens_1_j1_eq (hJ : IsJ K (retK lex_Tokens_1_c.results) J) (v0 v1 v3 : Value) (st : St) : lex_Tokens_1_j1 J v0 v1 v3 st =
 (.thn st (sLoad none v1 st) fun p1 =>
 .thn p1.2 (sIxS p1.1 v3 p1.2) fun p2 =>
 .thn p2.2 (sBin .eql p2.1 (.int .u8 32) p2.2) fun p3 =>
 condX p3.1
 (.thn p3.2 (sBin .add v3 (.int .i64 1) p3.2) fun p4 =>
 lex_Tokens_1_l0 J v0 v1 p4.1 p4.2)
 (lex_Tokens_1_j3 J v0 v1 v3 p3.2)) := gq hJ (by kernel_rfl)
theorem lex_Tokens_1_j2_eq (hJ : IsJ K (retK lex_Tokens_1_c.results) J) (v0 v1 : Value) (st : St) : lex_Tokens_1_j2 J v0 v1 st =
 (.thn st (sLoad none v1 st) fun p1 =>
 .thn p1.2 (sLen .str p1.1 p1.2) fun p2 =>
 .thn p2.2 (sBuild [(.int .u8 0), (.int .i64 0), (.string (bstr [])), (.int .i64 0)] [(1, 1, p2.1)] p2.2) fun p3 =>
 .thn p3.2 (sCall K v0 [p3.1, (.int .i64 0)] p3.2) fun p4 =>
 .ok (.tuple #[], p4.2)) := gq hJ (by kernel_rfl)
theorem lex_Tokens_1_j3_eq (hJ : IsJ K (retK lex_Tokens_1_c.results) J) (v0 v1 v3 : Value) (st : St) : lex_Tokens_1_j3 J v0 v1 v3 st =
 (.thn st (sLoad none v1 st) fun p1 =>
 .thn p1.2 (sIxS p1.1 v3 p1.2) fun p2 =>
 .thn p2.2 (sBin .eql p2.1 (.int .u8 35) p2.2) fun p3 =>
 condX p3.1
 (lex_Tokens_1_l1 J v0 v1 v3 p3.2)
 (lex_Tokens_1_j4 J v0 v1 v3 p3.2)) := gq hJ (by kernel_rfl)
theorem lex_Tokens_1_l1_eq (K : Ctx) (J : JT (Value × St)) (v0 v1 v3 : Value) (st : St) : inX K J (retK lex_Tokens_1_c.results) lex_Tokens_1_c.body [1, 1, 0, 1, 0, 1, 0, 0, 1, 1, 0, 1, 1, 0, 1, 0, 0, 0, 1] (envT [(0, v0), (1, v1), (3, v3)]) st =
 (.thn st (sLoad none v1 st) fun p1 =>
 .thn p1.2 (sLen .str p1.1 p1.2) fun p2 =>
 .thn p2.2 (sBin .lss v3 p2.1 p2.2) fun p3 =>
 .thn p3.2 (sG p3.1 true (sLoad none v1 p3.2) p3.2) fun p4 =>
 .thn p4.2 (sG p3.1 true (.ok (v3, p4.2)) p4.2) fun p5 =>
 .thn p5.2 (sG p3.1 true (sIxS p4.1 p5.1 p5.2) p5.2) fun p6 =>
 .thn p6.2 (sG p3.1 true (sBin .neq p6.1 (.int .u8 10) p6.2) p6.2) fun p7 =>
 .thn p7.2 (sPick p3.1 p7.1 (.bool false) p7.2) fun p8 =>
 condX p8.1
 (lex_Tokens_1_j5 J v0 v1 v3 p8.2)
 (lex_Tokens_1_j6 J v0 v1 v3 p8.2)) := by kernel_rfl
theorem lex_Tokens_1_l1_of (hF : Fix pgF K) (hJ : IsJ K (retK lex_Tokens_1_c.results) J) {v0 v1 v3 : Value} (h : Ok (inX K J (retK lex_Tokens_1_c.results) lex_Tokens_1_c.body [1, 1, 0, 1, 0, 1, 0, 0, 1, 1, 0, 1, 1, 0, 1, 0, 0, 0, 1] (envT [(0, v0), (1, v1), (3, v3)]) st) Q) : Ok (lex_Tokens_1_l1 J v0 v1 v3 st) Q := loop_of hF hJ h
theorem lex_Tokens_1_j4_eq (hJ : IsJ K (retK lex_Tokens_1_c.results) J) (v0 v1 v3 : Value) (st : St) : lex_Tokens_1_j4 J v0 v1 v3 st =
 (.thn st (sLoad none v1 st) fun p1 =>
 .thn p1.2 (K.go (.call n_lex_next [p1.1, v3]) p1.2) fun p2 =>
 .thn p2.2 (sExtract p2.1 0 p2.2) fun p3 =>
 .thn p3.2 (sExtract p2.1 1 p3.2) fun p4 =>
 .thn p4.2 (sLnew [(.int .u8 0), (.int .i64 0), (.string (bstr [])), (.int .i64 0)] p4.2) fun p5 =>
 .thn p5.2 (sUpd 4 0 p5.1 p3.1 p5.2) fun p6 =>
 .thn p6.2 (sBin .eql p4.1 (.int .i64 0) p6.2) fun p7 =>
 condX p7.1
 (.thn p7.2 (sBuild [(.int .u8 0), (.int .i64 0), (.string (bstr [])), (.int .i64 0)] [(1, 1, v3)] p7.2) fun p8 =>
 .thn p8.2 (sCall K v0 [p8.1, (.int .i64 4)] p8.2) fun p9 =>
 .ok (.tuple #[], p9.2))
 (lex_Tokens_1_j7 J v0 v1 v3 p6.1 p4.1 p7.2)) := gq hJ (by kernel_rfl)
theorem lex_Tokens_1_j5_eq (hJ : IsJ K (retK lex_Tokens_1_c.results) J) (v0 v1 v3 : Value) (st : St) : lex_Tokens_1_j5 J v0 v1 v3 st =
 (.thn st (sBin .add v3 (.int .i64 1) st) fun p1 =>
 lex_Tokens_1_l1 J v0 v1 p1.1 p1.2) := gq hJ (by kernel_rfl)
theorem lex_Tokens_1_j6_eq (hJ : IsJ K (retK lex_Tokens_1_c.results) J) (v0 v1 v3 : Value) (st : St) : lex_Tokens_1_j6 J v0 v1 v3 st =
 (lex_Tokens_1_l0 J v0 v1 v3 st) := gq hJ (by kernel_rfl)
theorem lex_Tokens_1_j7_eq (hJ : IsJ K (retK lex_Tokens_1_c.results) J) (v0 v1 v3 v4 v5 : Value) (st : St) : lex_Tokens_1_j7 J v0 v1 v3 v4 v5 st =
 (.thn st (sField (some 4) 0 v4 st) fun p1 =>
 .thn p1.2 (sCall K v0 [p1.1, (.int .i64 0)] p1.2) fun p2 =>
 .thn p2.2 (sUn .not p2.1 p2.2) fun p3 =>
 condX p3.1
 (.ok (.tuple #[], p3.2))
 (lex_Tokens_1_j8 J v0 v1 v3 v5 p3.2)) := gq hJ (by kernel_rfl)
theorem lex_Tokens_1_j8_eq (hJ : IsJ K (retK lex_Tokens_1_c.results) J) (v0 v1 v3 v5 : Value) (st : St) : lex_Tokens_1_j8 J v0 v1 v3 v5 st =
 (.thn st (sBin .add v3 v5 st) fun p1 =>
 lex_Tokens_1_l0 J v0 v1 p1.1 p1.2) := gq hJ (by kernel_rfl)
open C in
def lex_next_c : AFun := ⟨2, [.part 4 (some 4), .tmp 5],
 (s (.ops [o 4 (.lnew [(u 0), (i 0), (.string (bstr [])), (i 0)]), o 5 (.mv (c (i 0)))])
 (s (.ops [o 15 (.mv (t 1)), o 16 (.build [(u 0), (i 0), (.string (bstr [])), (i 0)] [(1, 1, (t 15))]), o 6 (.lnew [(u 0), (i 0), (.string (bstr [])), (i 0)]), o 6 (.upd 4 0 (t 6) (t 16))])
 (s (.ops [o 17 (.mv (t 0)), o 18 (.mv (t 1)), o 19 (.slice .str (t 17) (some (t 18)) none none), o 7 (.mv (t 19))])
 (s (s (.ops [o 20 (.mv (t 7)), o 21 (.ixS (t 20) (c (i 0))), o 8 (.mv (t 21))])
 (.block 0 (s (.ops [o 23 (.mv (t 8)), o 24 (.bin .eql (t 23) (c (u 10))), o 22 (.mv (t 24))])
 (.cond (t 22) (s (.ops [o 25 (.lref (t 6)), o 6 (.upd 1 0 (t 6) (c (u 7)))])
 (s (.ops [o 26 (.field (some 4) 0 (t 6)), o 4 (.upd 4 0 (t 4) (t 26)), o 5 (.mv (c (i 1)))])
 .ret)) (s (.ops [o 28 (.mv (t 8)), o 29 (.bin .eql (t 28) (c (u 61))), o 30 (.mv (t 29)), g 31 false 30 (.mv (t 8)), g 32 false 30 (.bin .eql (t 31) (c (u 44))), o 33 (.pick (t 30) (c (.bool true)) (t 32)), o 34 (.mv (t 33)), g 35 false 34 (.mv (t 8)), g 36 false 34 (.bin .eql (t 35) (c (u 58))), o 37 (.pick (t 34) (c (.bool true)) (t 36)), o 27 (.mv (t 37))])
 (.cond (t 27) (s (.draw [d 2 0 false (o 40 (.lref (t 6))), d 3 0 true (o 6 (.upd 1 0 (t 6) (c (u 6)))), d 0 0 false (o 38 (.mv (t 7))), d 1 0 false (o 39 (.slice .str (t 38) none (some (c (i 1))) none)), d 4 0 false (o 41 (.lref (t 6))), d 5 0 true (o 6 (.upd 1 2 (t 6) (t 39)))])
 (s (.ops [o 42 (.field (some 4) 0 (t 6)), o 4 (.upd 4 0 (t 4) (t 42)), o 5 (.mv (c (i 1)))])
 .ret)) (s (.ops [o 44 (.mv (t 8)), o 45 (.bin .eql (t 44) (c (u 37))), o 46 (.mv (t 45)), g 47 false 46 (.mv (t 8)), g 48 false 46 (.bin .eql (t 47) (c (u 64))), o 49 (.pick (t 46) (c (.bool true)) (t 48)), o 50 (.mv (t 49)), g 51 false 50 (.mv (t 8)), g 52 false 50 (.bin .eql (t 51) (c (u 36))), o 53 (.pick (t 50) (c (.bool true)) (t 52)), o 43 (.mv (t 53))])
 (.cond (t 43) (s (.ops [o 54 .newMap, n (.mapSet (.cell .int) (t 54) (c (u 37)) (c (u 2))), n (.mapSet (.cell .int) (t 54) (c (u 64)) (c (u 3))), n (.mapSet (.cell .int) (t 54) (c (u 36)) (c (u 4))), o 55 (.mv (t 54)), o 56 (.mv (t 8)), o 57 (.look (.cell .int) (u 0) false (t 55) (t 56)), o 58 (.lref (t 6)), o 6 (.upd 1 0 (t 6) (t 57))])
 (s (.ops [o 59 (.mv (t 7)), o 60 (.slice .str (t 59) (some (c (i 1))) none none), o 61 (.call (f 37) [(t 60)]), o 9 (.mv (t 61))])
 (s (.ops [o 63 (.mv (t 7)), o 64 (.mv (t 9)), o 65 (.bin .add (c (i 1)) (t 64)), o 66 (.slice .str (t 63) (some (c (i 1))) (some (t 65)) none), o 67 (.call (f 38) [(t 66)]), o 62 (.mv (t 67)), o 68 (.extract (t 62) 0), o 69 (.extract (t 62) 1), o 10 (.mv (t 68)), o 11 (.mv (t 69))])
 (s (s (.ops [o 70 (.mv (t 11)), o 71 (.bin .eql (t 70) (c (i 0)))])
 (.cond (t 71) (s (.ops [o 72 (.field (some 4) 0 (t 6)), o 4 (.upd 4 0 (t 4) (t 72)), o 5 (.mv (c (i 0)))])
 .ret) .skip))
 (s (.keep [4, 6, 10, 11])
 (s (.ops [o 73 (.mv (t 10)), o 74 (.lref (t 6)), o 6 (.upd 1 3 (t 6) (t 73))])
 (s (.ops [o 75 (.field (some 4) 0 (t 6)), o 76 (.mv (t 11)), o 77 (.bin .add (t 76) (c (i 1))), o 4 (.upd 4 0 (t 4) (t 75)), o 5 (.mv (t 77))])
 .ret))))))) (s (.ops [o 79 (.mv (t 7)), o 80 (.call (f 39) [(t 79)]), o 81 (.bin .gtr (t 80) (c (i 0))), o 78 (.mv (t 81))])
 (.cond (t 78) (s (.ops [o 82 (.mv (t 7)), o 83 (.call (f 39) [(t 82)]), o 12 (.mv (t 83))])
 (s (.draw [d 3 0 false (o 87 (.lref (t 6))), d 4 0 true (o 6 (.upd 1 0 (t 6) (c (u 1)))), d 0 0 false (o 84 (.mv (t 7))), d 1 0 false (o 85 (.mv (t 12))), d 2 0 false (o 86 (.slice .str (t 84) none (some (t 85)) none)), d 5 0 false (o 88 (.lref (t 6))), d 6 0 true (o 6 (.upd 1 2 (t 6) (t 86)))])
 (s (.ops [o 89 (.field (some 4) 0 (t 6)), o 90 (.mv (t 12)), o 4 (.upd 4 0 (t 4) (t 89)), o 5 (.mv (t 90))])
 .ret))) .skip))))))))))
 (s (.keep [4, 6, 7])
 (s (.ops [o 92 (.mv (t 7)), o 93 (.call (f 38) [(t 92)]), o 91 (.mv (t 93)), o 94 (.extract (t 91) 0), o 95 (.extract (t 91) 1), o 13 (.mv (t 94)), o 14 (.mv (t 95))])
 (s (.ops [o 96 (.mv (t 13)), o 97 (.lref (t 6)), o 6 (.upd 1 0 (t 6) (c (u 5))), o 98 (.lref (t 6)), o 6 (.upd 1 3 (t 6) (t 96))])
 (s (.ops [o 99 (.field (some 4) 0 (t 6)), o 100 (.mv (t 14)), o 4 (.upd 4 0 (t 4) (t 99)), o 5 (.mv (t 100))])
 .ret))))))))⟩
theorem lex_next_is : pgF n_lex_next = some lex_next_c := by kernel_rfl
def lex_next_j0 (J : JT (Value × St)) (v4 v6 v10 v11 : Value) (st : St) := goX J lex_next_c.body [1, 1, 1, 0, 1, 0, 1, 1, 1, 1, 1, 0, 1, 1, 1, 1, 1] (envT [(4, v4), (6, v6), (10, v10), (11, v11)]) st
def lex_next_j1 (J : JT (Value × St)) (v4 v6 v7 : Value) (st : St) := goX J lex_next_c.body [1, 1, 1, 1, 1] (envT [(4, v4), (6, v6), (7, v7)]) st
theorem lex_next_eq (K : Ctx) (J : JT (Value × St)) (a0 a1 : Value) (st : St) : atX K J lex_next_c (AM.start [a0, a1]) st =
 (.thn st (sLnew [(.int .u8 0), (.int .i64 0), (.string (bstr [])), (.int .i64 0)] st) fun p1 =>
 .thn p1.2 (sBuild [(.int .u8 0), (.int .i64 0), (.string (bstr [])), (.int .i64 0)] [(1, 1, a1)] p1.2) fun p2 =>
 .thn p2.2 (sLnew [(.int .u8 0), (.int .i64 0), (.string (bstr [])), (.int .i64 0)] p2.2) fun p3 =>
 .thn p3.2 (sUpd 4 0 p3.1 p2.1 p3.2) fun p4 =>
 .thn p4.2 (sSlice .str a0 (some a1) none none p4.2) fun p5 =>
 .thn p5.2 (sIxS p5.1 (.int .i64 0) p5.2) fun p6 =>
 .thn p6.2 (sBin .eql p6.1 (.int .u8 10) p6.2) fun p7 =>
 condX p7.1
 (.thn p7.2 (sLref p4.1 p7.2) fun p8 =>
 .thn p8.2 (sUpd 1 0 p4.1 (.int .u8 7) p8.2) fun p9 =>
 .thn p9.2 (sField (some 4) 0 p9.1 p9.2) fun p10 =>
 .thn p10.2 (sUpd 4 0 p1.1 p10.1 p10.2) fun p11 =>
 (sField (some 4) 0 p11.1 p11.2 >>= fun p12 => .ok [p12.1, (.int .i64 1)]) >>= fun vs => .ok (oneOf vs, p11.2))
 (.thn p7.2 (sBin .eql p6.1 (.int .u8 61) p7.2) fun p13 =>
 .thn p13.2 (sG p13.1 false (.ok (p6.1, p13.2)) p13.2) fun p14 =>
 .thn p14.2 (sG p13.1 false (sBin .eql p14.1 (.int .u8 44) p14.2) p14.2) fun p15 =>
 .thn p15.2 (sPick p13.1 (.bool true) p15.1 p15.2) fun p16 =>
 .thn p16.2 (sG p16.1 false (.ok (p6.1, p16.2)) p16.2) fun p17 =>
 .thn p17.2 (sG p16.1 false (sBin .eql p17.1 (.int .u8 58) p17.2) p17.2) fun p18 =>
 .thn p18.2 (sPick p16.1 (.bool true) p18.1 p18.2) fun p19 =>
 condX p19.1
 (.thn p19.2 (sLref p4.1 p19.2) fun p20 =>
 .thn p20.2 (sUpd 1 0 p4.1 (.int .u8 6) p20.2) fun p21 =>
 .thn p21.2 (sSlice .str p5.1 none (some (.int .i64 1)) none p21.2) fun p22 =>
 .thn p22.2 (sLref p21.1 p22.2) fun p23 =>
 .thn p23.2 (sUpd 1 2 p21.1 p22.1 p23.2) fun p24 =>
 .thn p24.2 (sField (some 4) 0 p24.1 p24.2) fun p25 =>
 .thn p25.2 (sUpd 4 0 p1.1 p25.1 p25.2) fun p26 =>
 (sField (some 4) 0 p26.1 p26.2 >>= fun p27 => .ok [p27.1, (.int .i64 1)]) >>= fun vs => .ok (oneOf vs, p26.2))
 (.thn p19.2 (sBin .eql p6.1 (.int .u8 37) p19.2) fun p28 =>
 .thn p28.2 (sG p28.1 false (.ok (p6.1, p28.2)) p28.2) fun p29 =>
 .thn p29.2 (sG p28.1 false (sBin .eql p29.1 (.int .u8 64) p29.2) p29.2) fun p30 =>
 .thn p30.2 (sPick p28.1 (.bool true) p30.1 p30.2) fun p31 =>
 .thn p31.2 (sG p31.1 false (.ok (p6.1, p31.2)) p31.2) fun p32 =>
 .thn p32.2 (sG p31.1 false (sBin .eql p32.1 (.int .u8 36) p32.2) p32.2) fun p33 =>
 .thn p33.2 (sPick p31.1 (.bool true) p33.1 p33.2) fun p34 =>
 condX p34.1
 (.thn p34.2 (sNewMap p34.2) fun p35 =>
 .thn p35.2 (sMapSet (.cell .int) p35.1 (.int .u8 37) (.int .u8 2) p35.2) fun p36 =>
 .thn p36.2 (sMapSet (.cell .int) p35.1 (.int .u8 64) (.int .u8 3) p36.2) fun p37 =>
 .thn p37.2 (sMapSet (.cell .int) p35.1 (.int .u8 36) (.int .u8 4) p37.2) fun p38 =>
 .thn p38.2 (sLook (.cell .int) (.int .u8 0) false p35.1 p6.1 p38.2) fun p39 =>
 .thn p39.2 (sLref p4.1 p39.2) fun p40 =>
 .thn p40.2 (sUpd 1 0 p4.1 p39.1 p40.2) fun p41 =>
 .thn p41.2 (sSlice .str p5.1 (some (.int .i64 1)) none none p41.2) fun p42 =>
 .thn p42.2 (K.go (.call n_lex_digits [p42.1]) p42.2) fun p43 =>
 .thn p43.2 (sBin .add (.int .i64 1) p43.1 p43.2) fun p44 =>
 .thn p44.2 (sSlice .str p5.1 (some (.int .i64 1)) (some p44.1) none p44.2) fun p45 =>
 .thn p45.2 (K.go (.call n_lex_number [p45.1]) p45.2) fun p46 =>
 .thn p46.2 (sExtract p46.1 0 p46.2) fun p47 =>
 .thn p47.2 (sExtract p46.1 1 p47.2) fun p48 =>
 .thn p48.2 (sBin .eql p48.1 (.int .i64 0) p48.2) fun p49 =>
 condX p49.1
 (.thn p49.2 (sField (some 4) 0 p41.1 p49.2) fun p50 =>
 .thn p50.2 (sUpd 4 0 p1.1 p50.1 p50.2) fun p51 =>
 (sField (some 4) 0 p51.1 p51.2 >>= fun p52 => .ok [p52.1, (.int .i64 0)]) >>= fun vs => .ok (oneOf vs, p51.2))
 (lex_next_j0 J p1.1 p41.1 p47.1 p48.1 p49.2))
 (.thn p34.2 (K.go (.call n_lex_letters [p5.1]) p34.2) fun p53 =>
 .thn p53.2 (sBin .gtr p53.1 (.int .i64 0) p53.2) fun p54 =>
 condX p54.1
 (.thn p54.2 (K.go (.call n_lex_letters [p5.1]) p54.2) fun p55 =>
 .thn p55.2 (sLref p4.1 p55.2) fun p56 =>
 .thn p56.2 (sUpd 1 0 p4.1 (.int .u8 1) p56.2) fun p57 =>
 .thn p57.2 (sSlice .str p5.1 none (some p55.1) none p57.2) fun p58 =>
 .thn p58.2 (sLref p57.1 p58.2) fun p59 =>
 .thn p59.2 (sUpd 1 2 p57.1 p58.1 p59.2) fun p60 =>
 .thn p60.2 (sField (some 4) 0 p60.1 p60.2) fun p61 =>
 .thn p61.2 (sUpd 4 0 p1.1 p61.1 p61.2) fun p62 =>
 (sField (some 4) 0 p62.1 p62.2 >>= fun p63 => .ok [p63.1, p55.1]) >>= fun vs => .ok (oneOf vs, p62.2))
 (lex_next_j1 J p1.1 p4.1 p5.1 p54.2))))) := by kernel_rfl
theorem lex_next_of : Of2 n_lex_next lex_next_c := fun hF => call_of hF lex_next_is rfl
theorem lex_next_j0_eq (hJ : IsJ K (retK lex_next_c.results) J) (v4 v6 v10 v11 : Value) (st : St) : lex_next_j0 J v4 v6 v10 v11 st =
 (.thn st (sLref v6 st) fun p1 =>
 .thn p1.2 (sUpd 1 3 v6 v10 p1.2) fun p2 =>
 .thn p2.2 (sField (some 4) 0 p2.1 p2.2) fun p3 =>
 .thn p3.2 (sBin .add v11 (.int .i64 1) p3.2) fun p4 =>
 .thn p4.2 (sUpd 4 0 v4 p3.1 p4.2) fun p5 =>
 (sField (some 4) 0 p5.1 p5.2 >>= fun p6 => .ok [p6.1, p4.1]) >>= fun vs => .ok (oneOf vs, p5.2)) := gq hJ (by kernel_rfl)
theorem lex_next_j1_eq (hJ : IsJ K (retK lex_next_c.results) J) (v4 v6 v7 : Value) (st : St) : lex_next_j1 J v4 v6 v7 st =
 (.thn st (K.go (.call n_lex_number [v7]) st) fun p1 =>
 .thn p1.2 (sExtract p1.1 0 p1.2) fun p2 =>
 .thn p2.2 (sExtract p1.1 1 p2.2) fun p3 =>
 .thn p3.2 (sLref v6 p3.2) fun p4 =>
 .thn p4.2 (sUpd 1 0 v6 (.int .u8 5) p4.2) fun p5 =>
 .thn p5.2 (sLref p5.1 p5.2) fun p6 =>
 .thn p6.2 (sUpd 1 3 p5.1 p2.1 p6.2) fun p7 =>
 .thn p7.2 (sField (some 4) 0 p7.1 p7.2) fun p8 =>
 .thn p8.2 (sUpd 4 0 v4 p8.1 p8.2) fun p9 =>
 (sField (some 4) 0 p9.1 p9.2 >>= fun p10 => .ok [p10.1, p3.1]) >>= fun vs => .ok (oneOf vs, p9.2)) := gq hJ (by kernel_rfl)
open C in
def lex_digits_c : AFun := ⟨23, [.tmp 2],
 (s (.ops [o 2 (.mv (c (i 0)))])
 (s (.ops [o 3 (.mv (c (i 0)))])
 (s (.block 0 (s (.keep [0, 3])
 (.loop (s (s (s (.ops [o 4 (.mv (t 3)), o 5 (.mv (t 0)), o 6 (.len .str (t 5)), o 7 (.bin .lss (t 4) (t 6)), o 8 (.mv (t 7)), g 9 true 8 (.mv (t 0)), g 10 true 8 (.mv (t 3)), g 11 true 8 (.ixS (t 9) (t 10)), g 12 true 8 (.bin .geq (t 11) (c (u 48))), o 13 (.pick (t 8) (t 12) (c (.bool false))), o 14 (.mv (t 13)), g 15 true 14 (.mv (t 0)), g 16 true 14 (.mv (t 3)), g 17 true 14 (.ixS (t 15) (t 16)), g 18 true 14 (.bin .leq (t 17) (c (u 57))), o 19 (.pick (t 14) (t 18) (c (.bool false)))])
 (.cond (t 19) .skip (.exit 0)))
 (s (.keep [0, 3])
 (.block 1 (.ops [o 20 (.mv (t 3)), o 21 (.bin .add (t 20) (c (i 1))), o 3 (.mv (t 21))]))))
 (.keep [0, 3])))))
 (s (.keep [3])
 (s (.ops [o 22 (.mv (t 3)), o 2 (.mv (t 22))])
 .ret)))))⟩
theorem lex_digits_is : pgF n_lex_digits = some lex_digits_c := by kernel_rfl
def lex_digits_l0 (J : JT (Value × St)) (v0 v3 : Value) (st : St) := lpX J lex_digits_c.body [1, 1, 0, 0, 1] (envT [(0, v0), (3, v3)]) st
def lex_digits_j0 (J : JT (Value × St)) (v0 v3 : Value) (st : St) := goX J lex_digits_c.body [1, 1, 0, 0, 1, 0, 0, 1, 1] (envT [(0, v0), (3, v3)]) st
def lex_digits_j1 (J : JT (Value × St)) (v3 : Value) (st : St) := goX J lex_digits_c.body [1, 1, 1, 1] (envT [(3, v3)]) st
theorem lex_digits_eq (K : Ctx) (J : JT (Value × St)) (a0 : Value) (st : St) : atX K J lex_digits_c (AM.start [a0]) st =
 (lex_digits_l0 J a0 (.int .i64 0) st) := by kernel_rfl
theorem lex_digits_of : Of1 n_lex_digits lex_digits_c := fun hF => call_of hF lex_digits_is rfl
theorem lex_digits_l0_eq (K : Ctx) (J : JT (Value × St)) (v0 v3 : Value) (st : St) : inX K J (retK lex_digits_c.results) lex_digits_c.body [1, 1, 0, 0, 1] (envT [(0, v0), (3, v3)]) st =
 (.thn st (sLen .str v0 st) fun p1 =>
 .thn p1.2 (sBin .lss v3 p1.1 p1.2) fun p2 =>
 .thn p2.2 (sG p2.1 true (.ok (v0, p2.2)) p2.2) fun p3 =>
 .thn p3.2 (sG p2.1 true (.ok (v3, p3.2)) p3.2) fun p4 =>
 .thn p4.2 (sG p2.1 true (sIxS p3.1 p4.1 p4.2) p4.2) fun p5 =>
 .thn p5.2 (sG p2.1 true (sBin .geq p5.1 (.int .u8 48) p5.2) p5.2) fun p6 =>
 .thn p6.2 (sPick p2.1 p6.1 (.bool false) p6.2) fun p7 =>
 .thn p7.2 (sG p7.1 true (.ok (v0, p7.2)) p7.2) fun p8 =>
 .thn p8.2 (sG p7.1 true (.ok (v3, p8.2)) p8.2) fun p9 =>
 .thn p9.2 (sG p7.1 true (sIxS p8.1 p9.1 p9.2) p9.2) fun p10 =>
 .thn p10.2 (sG p7.1 true (sBin .leq p10.1 (.int .u8 57) p10.2) p10.2) fun p11 =>
 .thn p11.2 (sPick p7.1 p11.1 (.bool false) p11.2) fun p12 =>
 condX p12.1
 (lex_digits_j0 J v0 v3 p12.2)
 (lex_digits_j1 J v3 p12.2)) := by kernel_rfl
theorem lex_digits_l0_of (hF : Fix pgF K) (hJ : IsJ K (retK lex_digits_c.results) J) {v0 v3 : Value} (h : Ok (inX K J (retK lex_digits_c.results) lex_digits_c.body [1, 1, 0, 0, 1] (envT [(0, v0), (3, v3)]) st) Q) : Ok (lex_digits_l0 J v0 v3 st) Q := loop_of hF hJ h
theorem lex_digits_j0_eq (hJ : IsJ K (retK lex_digits_c.results) J) (v0 v3 : Value) (st : St) : lex_digits_j0 J v0 v3 st =
 (.thn st (sBin .add v3 (.int .i64 1) st) fun p1 =>
 lex_digits_l0 J v0 p1.1 p1.2) := gq hJ (by kernel_rfl)
theorem lex_digits_j1_eq (hJ : IsJ K (retK lex_digits_c.results) J) (v3 : Value) (st : St) : lex_digits_j1 J v3 st =
 (.ok (v3, st)) := gq hJ (by kernel_rfl)
open C in
def lex_number_c : AFun := ⟨39, [.tmp 2, .tmp 3],
 (s (.ops [o 2 (.mv (c (i 0))), o 3 (.mv (c (i 0)))])
 (s (.ops [o 4 (.mv (c (i 0)))])
 (s (s (.ops [o 7 (.mv (t 0)), o 8 (.bin .neq (t 7) (c (.string (bstr [])))), o 9 (.mv (t 8)), g 10 true 9 (.mv (t 0)), g 11 true 9 (.ixS (t 10) (c (i 0))), g 12 true 9 (.bin .eql (t 11) (c (u 45))), o 13 (.pick (t 9) (t 12) (c (.bool false)))])
 (.cond (t 13) (.ops [o 4 (.mv (c (i 1)))]) .skip))
 (s (.keep [0, 4])
 (s (.ops [o 14 (.mv (t 4)), o 15 (.mv (t 0)), o 16 (.mv (t 4)), o 17 (.slice .str (t 15) (some (t 16)) none none), o 18 (.call (f 37) [(t 17)]), o 19 (.bin .add (t 14) (t 18)), o 4 (.mv (t 19))])
 (s (.ops [o 21 (.mv (t 0)), o 22 (.mv (t 4)), o 23 (.slice .str (t 21) none (some (t 22)) none), o 24 (.call (f 43) [(t 23), (c (i 10)), (c (i 64))]), o 20 (.mv (t 24)), o 25 (.extract (t 20) 0), o 26 (.extract (t 20) 1), o 5 (.mv (t 25)), o 6 (.mv (t 26))])
 (s (s (.draw [d 0 0 false (o 27 (.mv (t 6))), d 1 0 false (o 28 (.eq true (.nilOf .iface) (t 27) (c .nilIface))), d 2 0 false (o 29 (.mv (t 28))), d 3 0 false (g 30 false 29 (.mv (t 5))), d 4 0 true (g 31 false 29 (.call (f 36) [(t 30), (c (i 10))])), d 5 0 false (g 32 false 29 (.mv (t 0))), d 6 0 false (g 33 false 29 (.mv (t 4))), d 7 0 false (g 34 false 29 (.slice .str (t 32) none (some (t 33)) none)), d 8 0 false (g 35 false 29 (.bin .neq (t 31) (t 34))), d 9 0 false (o 36 (.pick (t 29) (c (.bool true)) (t 35)))])
 (.cond (t 36) (s (.ops [o 2 (.mv (c (i 0))), o 3 (.mv (c (i 0)))])
 .ret) .skip))
 (s (.keep [4, 5])
 (s (.ops [o 37 (.mv (t 5)), o 38 (.mv (t 4)), o 2 (.mv (t 37)), o 3 (.mv (t 38))])
 .ret)))))))))⟩
theorem lex_number_is : pgF n_lex_number = some lex_number_c := by kernel_rfl
def lex_number_j0 (J : JT (Value × St)) (v0 v4 : Value) (st : St) := goX J lex_number_c.body [1, 1, 1, 1] (envT [(0, v0), (4, v4)]) st
def lex_number_j1 (J : JT (Value × St)) (v4 v5 : Value) (st : St) := goX J lex_number_c.body [1, 1, 1, 1, 1, 1, 1, 1] (envT [(4, v4), (5, v5)]) st
theorem lex_number_eq (K : Ctx) (J : JT (Value × St)) (a0 : Value) (st : St) : atX K J lex_number_c (AM.start [a0]) st =
 (.thn st (sBin .neq a0 (.string (bstr [])) st) fun p1 =>
 .thn p1.2 (sG p1.1 true (.ok (a0, p1.2)) p1.2) fun p2 =>
 .thn p2.2 (sG p1.1 true (sIxS p2.1 (.int .i64 0) p2.2) p2.2) fun p3 =>
 .thn p3.2 (sG p1.1 true (sBin .eql p3.1 (.int .u8 45) p3.2) p3.2) fun p4 =>
 .thn p4.2 (sPick p1.1 p4.1 (.bool false) p4.2) fun p5 =>
 condX p5.1
 (lex_number_j0 J a0 (.int .i64 1) p5.2)
 (lex_number_j0 J a0 (.int .i64 0) p5.2)) := by kernel_rfl
theorem lex_number_of : Of1 n_lex_number lex_number_c := fun hF => call_of hF lex_number_is rfl
theorem lex_number_j0_eq (hJ : IsJ K (retK lex_number_c.results) J) (v0 v4 : Value) (st : St) : lex_number_j0 J v0 v4 st =
 (.thn st (sSlice .str v0 (some v4) none none st) fun p1 =>
 .thn p1.2 (K.go (.call n_lex_digits [p1.1]) p1.2) fun p2 =>
 .thn p2.2 (sBin .add v4 p2.1 p2.2) fun p3 =>
 .thn p3.2 (sSlice .str v0 none (some p3.1) none p3.2) fun p4 =>
 .thn p4.2 (K.go (.call n_strconv_ParseInt [p4.1, (.int .i64 10), (.int .i64 64)]) p4.2) fun p5 =>
 .thn p5.2 (sExtract p5.1 0 p5.2) fun p6 =>
 .thn p6.2 (sExtract p5.1 1 p6.2) fun p7 =>
 .thn p7.2 (sEq true (.nilOf .iface) p7.1 .nilIface p7.2) fun p8 =>
 .thn p8.2 (sGo p8.1 false (Res.ok (p6.1, p8.2)) p8.2) fun p9 =>
 .thn p9.2 (gd p8.1 false >>= fun b => bif b then (K.go (.call n_strconv_FormatInt [p9.1, (.int .i64 10)]) p9.2 >>= fun p11 => Res.ok (p11.1, p11.2, p9.2 :: [], p11.2.next)) else Res.ok (skipped, p9.2, [], p7.2.next)) fun p12 =>
 .thn p12.2.1 (sGo p8.1 false (Res.ok (v0, p12.2.1)) p12.2.1) fun p13 =>
 .thn p13.2 (sGo p8.1 false (Res.ok (p3.1, p13.2)) p13.2) fun p15 =>
 .thn p15.2 (sGo p8.1 false (sSlice .str p13.1 none (some p15.1) none p15.2) p15.2) fun p17 =>
 .thn p17.2 (sGo p8.1 false (sBin .neq p12.1 p17.1 p17.2) p17.2) fun p19 =>
 .thn p19.2 (sPick p8.1 (.bool true) p19.1 p19.2) fun p21 =>
 condX p21.1
 (.ok (.tuple #[(.int .i64 0), (.int .i64 0)], p21.2))
 (lex_number_j1 J p3.1 p6.1 p21.2)) := gq hJ (by kernel_rfl)
theorem lex_number_j1_eq (hJ : IsJ K (retK lex_number_c.results) J) (v4 v5 : Value) (st : St) : lex_number_j1 J v4 v5 st =
 (.ok (.tuple #[v5, v4], st)) := gq hJ (by kernel_rfl)
open C in
def lex_letters_c : AFun := ⟨20, [.tmp 2],
 (s (.ops [o 2 (.mv (c (i 0)))])
 (s (s (.ops [o 5 (.mv (t 0)), o 6 (.rangeStr (t 5))])
 (.block 0 (s (.keep [0, 6])
 (.loop (s (s (.ops [o 7 (.nextStr (t 6)), o 8 (.extract (t 7) 0)])
 (s (.cond (t 8) .skip (.exit 0))
 (s (.keep [0, 6, 7])
 (.block 1 (s (.ops [o 9 (.extract (t 7) 1), o 10 (.extract (t 7) 2), o 3 (.mv (t 9)), o 4 (.mv (t 10))])
 (s (.ops [o 11 (.mv (t 4)), o 12 (.bin .lss (t 11) (c (.int .i32 97))), o 13 (.mv (t 12)), g 14 false 13 (.mv (t 4)), g 15 false 13 (.bin .gtr (t 14) (c (.int .i32 122))), o 16 (.pick (t 13) (c (.bool true)) (t 15))])
 (.cond (t 16) (s (.ops [o 17 (.mv (t 3)), o 2 (.mv (t 17))])
 .ret) .skip)))))))
 (.keep [0, 6]))))))
 (s (.keep [0])
 (s (.ops [o 18 (.mv (t 0)), o 19 (.len .str (t 18)), o 2 (.mv (t 19))])
 .ret))))⟩
theorem lex_letters_is : pgF n_lex_letters = some lex_letters_c := by kernel_rfl
def lex_letters_l0 (J : JT (Value × St)) (v0 v6 : Value) (st : St) := lpX J lex_letters_c.body [1, 0, 1, 0, 1] (envT [(0, v0), (6, v6)]) st
def lex_letters_j0 (J : JT (Value × St)) (v0 v6 v7 : Value) (st : St) := goX J lex_letters_c.body [1, 0, 1, 0, 1, 0, 0, 1, 1, 1] (envT [(0, v0), (6, v6), (7, v7)]) st
def lex_letters_j1 (J : JT (Value × St)) (v0 : Value) (st : St) := goX J lex_letters_c.body [1, 1, 1] (envT [(0, v0)]) st
theorem lex_letters_eq (K : Ctx) (J : JT (Value × St)) (a0 : Value) (st : St) : atX K J lex_letters_c (AM.start [a0]) st =
 (.thn st (sRangeStr a0 st) fun p1 =>
 lex_letters_l0 J a0 p1.1 p1.2) := by kernel_rfl
theorem lex_letters_of : Of1 n_lex_letters lex_letters_c := fun hF => call_of hF lex_letters_is rfl
theorem lex_letters_l0_eq (K : Ctx) (J : JT (Value × St)) (v0 v6 : Value) (st : St) : inX K J (retK lex_letters_c.results) lex_letters_c.body [1, 0, 1, 0, 1] (envT [(0, v0), (6, v6)]) st =
 (.thn st (sNextStr v6 st) fun p1 =>
 .thn p1.2 (sExtract p1.1 0 p1.2) fun p2 =>
 condX p2.1
 (lex_letters_j0 J v0 v6 p1.1 p2.2)
 (lex_letters_j1 J v0 p2.2)) := by kernel_rfl
theorem lex_letters_l0_of (hF : Fix pgF K) (hJ : IsJ K (retK lex_letters_c.results) J) {v0 v6 : Value} (h : Ok (inX K J (retK lex_letters_c.results) lex_letters_c.body [1, 0, 1, 0, 1] (envT [(0, v0), (6, v6)]) st) Q) : Ok (lex_letters_l0 J v0 v6 st) Q := loop_of hF hJ h
theorem lex_letters_j0_eq (hJ : IsJ K (retK lex_letters_c.results) J) (v0 v6 v7 : Value) (st : St) : lex_letters_j0 J v0 v6 v7 st =
 (.thn st (sExtract v7 1 st) fun p1 =>
 .thn p1.2 (sExtract v7 2 p1.2) fun p2 =>
 .thn p2.2 (sBin .lss p2.1 (.int .i32 97) p2.2) fun p3 =>
 .thn p3.2 (sG p3.1 false (.ok (p2.1, p3.2)) p3.2) fun p4 =>
 .thn p4.2 (sG p3.1 false (sBin .gtr p4.1 (.int .i32 122) p4.2) p4.2) fun p5 =>
 .thn p5.2 (sPick p3.1 (.bool true) p5.1 p5.2) fun p6 =>
 condX p6.1
 (.ok (p1.1, p6.2))
 (lex_letters_l0 J v0 v6 p6.2)) := gq hJ (by kernel_rfl)
theorem lex_letters_j1_eq (hJ : IsJ K (retK lex_letters_c.results) J) (v0 : Value) (st : St) : lex_letters_j1 J v0 st =
 (.thn st (sLen .str v0 st) fun p1 =>
 .ok (p1.1, p1.2)) := gq hJ (by kernel_rfl)
end
end Go.Proofs.YtefdkodjpcabmaaDoor.Sh
