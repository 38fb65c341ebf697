/-
 The functions of the program, operation by operation, as the abstract machine has them.
-/
import Derived.Test.YtefdkodjpcabmaaDoorProg
import Derived.Test.YtefdkodjpcabmaaDoorShN
set_option linter.unusedVariables false
set_option maxRecDepth 100000
namespace Go.Proofs.YtefdkodjpcabmaaDoor.Sh
open Go Go.AM Go.Proofs
noncomputable section
variable {K : Ctx} {J : JT (Value × St)} {st : St} {Q : Value × St → Prop}
open C in
def refinerylaw04_LexAny_c : AFun := ⟨2, [.cell 4 none],
 (s (.ops [o 4 (.new [(.bool false)])])
 (s (s (.ops [o 17 (.call (f 14) []), o 18 (.un .not (t 17))])
 (.cond (t 18) (s (.ops [n (.store 1 (t 4) (c (.bool false)))])
 .ret) .skip))
 (s (.keep [0, 1, 4, 15, 16])
 (s (s (.ops [o 19 (.mv (t 0)), o 20 (.len .str (t 19)), o 21 (.bin .gtr (t 20) (c (i 200))), o 22 (.mv (t 21)), g 23 false 22 (.mv (t 1)), g 24 false 22 (.len .slice (t 23)), g 25 false 22 (.bin .gtr (t 24) (c (i 100))), o 26 (.pick (t 22) (c (.bool true)) (t 25))])
 (.cond (t 26) (s (.ops [n (.store 1 (t 4) (c (.bool true)))])
 .ret) .skip))
 (s (.keep [0, 1, 4, 15, 16])
 (s (.ops [o 5 (.mv (c (.string (bstr []))))])
 (s (s (.ops [o 27 (.mv (t 1)), o 28 (.len .slice (t 27)), o 29 (.mv (c (i 0)))])
 (.block 0 (s (.keep [0, 4, 5, 15, 16, 27, 28, 29])
 (.loop (s (s (.ops [o 30 (.bin .lss (t 29) (t 28))])
 (s (.cond (t 30) .skip (.exit 0))
 (s (.keep [0, 4, 5, 15, 16, 27, 28, 29])
 (s (.block 1 (s (.ops [o 31 (.ixA 1 none (t 27) (t 29)), o 32 (.load none (t 31)), o 7 (.mv (t 32))])
 (.ops [o 33 (.mv (t 5)), o 34 (.mv (t 7)), o 35 (.bin .rem (t 34) (c (u 23))), o 36 (.mv (t 7)), o 37 (.bin .rem (t 36) (c (u 23))), o 38 (.bin .add (t 37) (c (u 1))), o 39 (.slice .str (c (.string (bstr [37, 64, 36, 97, 98, 45, 48, 49, 50, 51, 52, 53, 54, 55, 56, 57, 61, 44, 58, 32, 10, 35, 33]))) (some (t 35)) (some (t 38)) none), o 40 (.bin .add (t 33) (t 39)), o 5 (.mv (t 40))])))
 (s (.keep [0, 4, 5, 15, 16, 27, 28, 29])
 (.ops [o 41 (.bin .add (t 29) (c (i 1))), o 29 (.mv (t 41))]))))))
 (.keep [0, 4, 5, 15, 16, 27, 28, 29]))))))
 (s (.keep [0, 4, 5, 15, 16])
 (s (s (.ops [o 42 (.mv (t 0)), o 43 (.mv (t 5)), o 44 (.lit 1 2 [(.string (bstr [])), (.string (bstr []))] [(0, 1, (t 42)), (1, 1, (t 43))]), o 45 (.len .slice (t 44)), o 46 (.mv (c (i 0)))])
 (.block 2 (s (.keep [4, 15, 16, 44, 45, 46])
 (.loop (s (s (.ops [o 47 (.bin .lss (t 46) (t 45))])
 (s (.cond (t 47) .skip (.exit 2))
 (s (.keep [4, 15, 16, 44, 45, 46])
 (s (.block 3 (s (.ops [o 48 (.ixA 1 none (t 44) (t 46)), o 49 (.load none (t 48)), o 9 (.new [(.string (bstr []))]), n (.store 1 (t 9) (t 49))])
 (s (.ops [o 51 (.load none (t 9)), o 52 (.call (f 16) [(t 51)]), o 50 (.mv (t 52)), o 53 (.extract (t 50) 0), o 54 (.extract (t 50) 1), o 55 (.extract (t 50) 2), o 11 (.new [(i 0)]), o 12 (.new [(i 0)]), o 10 (.mv (t 53)), n (.store 1 (t 11) (t 54)), n (.store 1 (t 12) (t 55))])
 (s (.ops [o 13 (.new [(i 0)]), n (.store 1 (t 13) (c (i 0)))])
 (s (.ops [o 14 (.new [(u 0), (i 0), (.string (bstr [])), (i 0)])])
 (s (s (.ops [o 56 (.load none (t 9)), o 57 (.call (f 17) [(t 56)])])
 (.block 4 (s (.keep [4, 9, 10, 11, 12, 13, 14, 15, 16, 44, 45, 46, 57])
 (.range (t 57) [58, 59] (s (.ops [o 15 (.lnew [(u 0), (i 0), (.string (bstr [])), (i 0)]), o 15 (.upd 4 0 (t 15) (t 58))])
 (.ops [o 16 (.mv (t 59))])) (s (.keep [4, 9, 10, 11, 12, 13, 14, 15, 16, 44, 45, 46])
 (.block 5 (s (s (.ops [o 60 (.lref (t 15)), o 61 (.field none 1 (t 15)), o 62 (.load none (t 13)), o 63 (.bin .lss (t 61) (t 62)), o 64 (.mv (t 63)), g 65 false 64 (.lref (t 15)), g 66 false 64 (.field none 1 (t 15)), g 67 false 64 (.load none (t 9)), g 68 false 64 (.len .str (t 67)), g 69 false 64 (.bin .gtr (t 66) (t 68)), o 70 (.pick (t 64) (c (.bool true)) (t 69)), o 71 (.mv (t 70)), g 72 false 71 (.off 0 (t 14)), g 73 false 71 (.load none (t 72)), g 74 false 71 (.bin .eql (t 73) (c (u 0))), g 75 false 71 (.mv (t 74)), g 76 true 75 (.load none (t 13)), g 77 true 75 (.bin .gtr (t 76) (c (i 0))), g 78 false 71 (.pick (t 75) (t 77) (c (.bool false))), g 79 false 71 (.mv (t 78)), g 80 true 79 (.off 1 (t 14)), g 81 true 79 (.load none (t 80)), g 82 true 79 (.load none (t 9)), g 83 true 79 (.len .str (t 82)), g 84 true 79 (.bin .eql (t 81) (t 83)), g 85 false 71 (.pick (t 79) (t 84) (c (.bool false))), g 86 false 71 (.mv (t 85)), g 87 true 86 (.mv (t 16)), g 88 true 86 (.bin .eql (t 87) (c (i 0))), g 89 false 71 (.pick (t 86) (t 88) (c (.bool false))), g 90 false 71 (.mv (t 89)), g 91 true 90 (.lref (t 15)), g 92 true 90 (.field none 0 (t 15)), g 93 true 90 (.bin .eql (t 92) (c (u 0))), g 94 false 71 (.pick (t 90) (t 93) (c (.bool false))), g 95 false 71 (.mv (t 94)), g 96 true 95 (.lref (t 15)), g 97 true 95 (.field none 1 (t 15)), g 98 true 95 (.off 1 (t 14)), g 99 true 95 (.load none (t 98)), g 100 true 95 (.bin .lss (t 97) (t 99)), g 101 false 71 (.pick (t 95) (t 100) (c (.bool false))), o 102 (.pick (t 71) (c (.bool true)) (t 101))])
 (.cond (t 102) (s (.ops [n (.store 1 (t 4) (c (.bool false)))])
 .ret) .skip))
 (s (.keep [4, 9, 10, 11, 12, 13, 14, 15, 16, 44, 45, 46])
 (s (s (.ops [o 103 (.mv (t 16)), o 104 (.bin .neq (t 103) (c (i 0)))])
 (.cond (t 104) (s (s (.ops [o 105 (.load none (t 12)), o 106 (.mv (t 16)), o 107 (.bin .neq (t 105) (t 106)), o 108 (.mv (t 107)), g 109 false 108 (.load none (t 11)), g 110 false 108 (.lref (t 15)), g 111 false 108 (.field none 1 (t 15)), g 112 false 108 (.bin .neq (t 109) (t 111)), o 113 (.pick (t 108) (c (.bool true)) (t 112)), o 114 (.mv (t 113)), g 115 false 114 (.field (some 4) 0 (t 15)), g 116 false 114 (.load none (t 11)), g 117 false 114 (.build [(u 0), (i 0), (.string (bstr [])), (i 0)] [(1, 1, (t 116))]), g 118 false 114 (.eq true (.fields [(0, .int), (1, .int), (2, .str), (3, .int)]) (t 115) (t 117)), o 119 (.pick (t 114) (c (.bool true)) (t 118))])
 (.cond (t 119) (s (.ops [n (.store 1 (t 4) (c (.bool false)))])
 .ret) .skip))
 (s (.keep [4, 9, 10, 12, 15, 16, 44, 45, 46])
 (.exit 4))) .skip))
 (s (.keep [4, 9, 13, 14, 15])
 (s (s (.draw [d 0 0 false (o 120 (.lref (t 15))), d 1 0 false (o 121 (.field none 0 (t 15))), d 2 0 false (o 122 (.bin .neq (t 121) (c (u 0)))), d 3 0 false (o 123 (.mv (t 122))), d 4 0 false (g 124 true 123 (.lref (t 15))), d 5 0 false (g 125 true 123 (.field none 2 (t 15))), d 6 0 false (g 126 true 123 (.bin .neq (t 125) (c (.string (bstr []))))), d 7 0 false (g 127 true 123 (.mv (t 126))), d 8 0 false (g 128 true 127 (.load none (t 9))), d 9 0 false (g 129 true 127 (.lref (t 15))), d 10 0 false (g 130 true 127 (.field none 1 (t 15))), d 11 0 false (g 131 true 127 (.lref (t 15))), d 12 0 false (g 132 true 127 (.field none 1 (t 15))), d 13 0 false (g 133 true 127 (.lref (t 15))), d 14 0 false (g 134 true 127 (.field none 2 (t 15))), d 15 0 false (g 135 true 127 (.len .str (t 134))), d 16 0 false (g 136 true 127 (.bin .add (t 132) (t 135))), d 17 0 false (g 137 true 127 (.slice .str (t 128) (some (t 130)) (some (t 136)) none)), d 18 0 false (g 138 true 127 (.lref (t 15))), d 19 0 false (g 139 true 127 (.field none 2 (t 15))), d 20 0 false (g 140 true 127 (.bin .neq (t 137) (t 139))), d 21 0 false (g 141 true 123 (.pick (t 127) (t 140) (c (.bool false)))), d 22 0 false (o 142 (.pick (t 123) (t 141) (c (.bool false))))])
 (.cond (t 142) (s (.ops [n (.store 1 (t 4) (c (.bool false)))])
 .ret) .skip))
 (s (.keep [13, 14, 15])
 (.draw [d 0 0 false (o 143 (.lref (t 15))), d 1 0 false (o 144 (.field none 1 (t 15))), d 3 0 true (n (.store 1 (t 13) (t 144))), d 2 1 false (o 145 (.field (some 4) 0 (t 15))), d 4 0 true (n (.store 4 (t 14) (t 145)))])))))))))))))
 (s (.keep [4, 9, 10, 12, 15, 16, 44, 45, 46])
 (s (.draw [d 0 0 false (o 146 (.load none (t 12))), d 1 0 false (o 147 (.bin .eql (t 146) (c (i 0)))), d 2 0 false (o 148 (.mv (t 147))), d 3 0 false (g 149 true 148 (.mv (t 10))), d 4 0 false (g 150 true 148 (.len .slice (t 149))), d 5 0 false (g 151 true 148 (.bin .eql (t 150) (c (i 0)))), d 6 0 false (g 152 true 148 (.mv (t 151))), d 7 0 false (g 153 false 152 (.mv (t 10))), d 8 0 false (g 154 false 152 (.mv (t 10))), d 9 0 false (g 155 false 152 (.len .slice (t 154))), d 10 0 false (g 156 false 152 (.bin .sub (t 155) (c (i 1)))), d 11 0 false (g 157 false 152 (.ixA 4 none (t 153) (t 156))), d 12 0 false (g 158 false 152 (.off 1 (t 157))), d 13 0 false (g 159 false 152 (.load none (t 158))), d 14 0 false (g 160 false 152 (.load none (t 9))), d 15 0 false (g 161 false 152 (.len .str (t 160))), d 16 0 false (g 162 false 152 (.bin .neq (t 159) (t 161))), d 17 0 false (g 163 true 148 (.pick (t 152) (c (.bool true)) (t 162))), d 18 0 false (o 164 (.pick (t 148) (t 163) (c (.bool false)))), d 19 0 false (o 165 (.mv (t 164))), d 20 0 false (g 166 false 165 (.load none (t 12))), d 21 0 false (g 167 false 165 (.bin .neq (t 166) (c (i 0)))), d 22 0 false (g 168 false 165 (.mv (t 167))), d 23 0 false (g 169 true 168 (.mv (t 10))), d 24 0 false (g 170 true 168 (.len .slice (t 169))), d 25 0 false (g 171 true 168 (.bin .gtr (t 170) (c (i 0)))), d 26 0 false (g 172 false 165 (.pick (t 168) (t 171) (c (.bool false)))), d 27 0 false (o 173 (.pick (t 165) (c (.bool true)) (t 172)))])
 (.cond (t 173) (s (.ops [n (.store 1 (t 4) (c (.bool false)))])
 .ret) .skip)))))))))
 (s (.keep [4, 15, 16, 44, 45, 46])
 (.ops [o 174 (.bin .add (t 46) (c (i 1))), o 46 (.mv (t 174))]))))))
 (.keep [4, 15, 16, 44, 45, 46]))))))
 (s (.keep [4])
 (s (.ops [n (.store 1 (t 4) (c (.bool true)))])
 .ret)))))))))))⟩
theorem refinerylaw04_LexAny_is : pgF n_refinerylaw04_LexAny = some refinerylaw04_LexAny_c := by kernel_rfl
def refinerylaw04_LexAny_j0 (J : JT (Value × St)) (v0 v1 v4 v15 v16 : Value) (st : St) := goX J refinerylaw04_LexAny_c.body [1, 1, 1] (envT [(0, v0), (1, v1), (4, v4), (15, v15), (16, v16)]) st
def refinerylaw04_LexAny_j1 (J : JT (Value × St)) (v0 v1 v4 v15 v16 : Value) (st : St) := goX J refinerylaw04_LexAny_c.body [1, 1, 1, 1, 1] (envT [(0, v0), (1, v1), (4, v4), (15, v15), (16, v16)]) st
def refinerylaw04_LexAny_l0 (J : JT (Value × St)) (v0 v4 v5 v15 v16 v27 v28 v29 : Value) (st : St) := lpX J refinerylaw04_LexAny_c.body [1, 1, 1, 1, 1, 1, 0, 1, 0, 1] (envT [(0, v0), (4, v4), (5, v5), (15, v15), (16, v16), (27, v27), (28, v28), (29, v29)]) st
def refinerylaw04_LexAny_j2 (J : JT (Value × St)) (v0 v4 v5 v15 v16 v27 v28 v29 : Value) (st : St) := goX J refinerylaw04_LexAny_c.body [1, 1, 1, 1, 1, 1, 0, 1, 0, 1, 0, 0, 1, 1, 1] (envT [(0, v0), (4, v4), (5, v5), (15, v15), (16, v16), (27, v27), (28, v28), (29, v29)]) st
def refinerylaw04_LexAny_j3 (J : JT (Value × St)) (v0 v4 v5 v15 v16 : Value) (st : St) := goX J refinerylaw04_LexAny_c.body [1, 1, 1, 1, 1, 1, 1, 1] (envT [(0, v0), (4, v4), (5, v5), (15, v15), (16, v16)]) st
def refinerylaw04_LexAny_j4 (J : JT (Value × St)) (v0 v4 v5 v15 v16 v27 v28 v29 : Value) (st : St) := goX J refinerylaw04_LexAny_c.body [1, 1, 1, 1, 1, 1, 0, 1, 0, 1, 0, 0, 1, 1, 1, 1, 1] (envT [(0, v0), (4, v4), (5, v5), (15, v15), (16, v16), (27, v27), (28, v28), (29, v29)]) st
def refinerylaw04_LexAny_l1 (J : JT (Value × St)) (v4 v15 v16 v44 v45 v46 : Value) (st : St) := lpX J refinerylaw04_LexAny_c.body [1, 1, 1, 1, 1, 1, 1, 1, 0, 1, 0, 1] (envT [(4, v4), (15, v15), (16, v16), (44, v44), (45, v45), (46, v46)]) st
def refinerylaw04_LexAny_j5 (J : JT (Value × St)) (v4 v15 v16 v44 v45 v46 : Value) (st : St) := goX J refinerylaw04_LexAny_c.body [1, 1, 1, 1, 1, 1, 1, 1, 0, 1, 0, 1, 0, 0, 1, 1, 1] (envT [(4, v4), (15, v15), (16, v16), (44, v44), (45, v45), (46, v46)]) st
def refinerylaw04_LexAny_j6 (J : JT (Value × St)) (v4 : Value) (st : St) := goX J refinerylaw04_LexAny_c.body [1, 1, 1, 1, 1, 1, 1, 1, 1, 1] (envT [(4, v4)]) st
def refinerylaw04_LexAny_j7 (J : JT (Value × St)) (v4 v9 v10 v11 v12 v13 v14 v15 v16 v44 v45 v46 v57 : Value) (st : St) := goX J refinerylaw04_LexAny_c.body [1, 1, 1, 1, 1, 1, 1, 1, 0, 1, 0, 1, 0, 0, 1, 1, 1, 0, 0, 1, 1, 1, 1, 0, 1, 0, 1] (envT [(4, v4), (9, v9), (10, v10), (11, v11), (12, v12), (13, v13), (14, v14), (15, v15), (16, v16), (44, v44), (45, v45), (46, v46), (57, v57)]) st
def refinerylaw04_LexAny_x0 (K : Ctx) (J : JT (Value × St)) (x : AExit) (v4 v9 v10 v11 v12 v13 v14 v15 v16 v44 v45 v46 v57 : Value) (st : St) : Res (Value × St) := kJ K J (retK refinerylaw04_LexAny_c.results) (posK refinerylaw04_LexAny_c.body [1, 1, 1, 1, 1, 1, 1, 1, 0, 1, 0, 1, 0, 0, 1, 1, 1, 0, 0, 1, 1, 1, 1, 0, 1, 0, 1] []) x (envT [(4, v4), (9, v9), (10, v10), (11, v11), (12, v12), (13, v13), (14, v14), (15, v15), (16, v16), (44, v44), (45, v45), (46, v46), (57, v57)]) st
def refinerylaw04_LexAny_j8 (J : JT (Value × St)) (v4 v9 v10 v12 v15 v16 v44 v45 v46 : Value) (st : St) := goX J refinerylaw04_LexAny_c.body [1, 1, 1, 1, 1, 1, 1, 1, 0, 1, 0, 1, 0, 0, 1, 1, 1, 0, 0, 1, 1, 1, 1, 1, 1] (envT [(4, v4), (9, v9), (10, v10), (12, v12), (15, v15), (16, v16), (44, v44), (45, v45), (46, v46)]) st
def refinerylaw04_LexAny_j9 (J : JT (Value × St)) (v4 v15 v16 v44 v45 v46 : Value) (st : St) := goX J refinerylaw04_LexAny_c.body [1, 1, 1, 1, 1, 1, 1, 1, 0, 1, 0, 1, 0, 0, 1, 1, 1, 1, 1] (envT [(4, v4), (15, v15), (16, v16), (44, v44), (45, v45), (46, v46)]) st
def refinerylaw04_LexAny_jr1111111101010011100111101011_0 (J : JT (AExit × St)) (v4 v9 v10 v11 v12 v13 v14 v15 v16 v44 v45 v46 : Value) (st : St) : Res (AExit × St) := goX J (posC refinerylaw04_LexAny_c.body [1, 1, 1, 1, 1, 1, 1, 1, 0, 1, 0, 1, 0, 0, 1, 1, 1, 0, 0, 1, 1, 1, 1, 0, 1, 0, 1, 1]) [1] (envT [(4, v4), (9, v9), (10, v10), (11, v11), (12, v12), (13, v13), (14, v14), (15, v15), (16, v16), (44, v44), (45, v45), (46, v46)]) st
def refinerylaw04_LexAny_jr1111111101010011100111101011_1 (J : JT (AExit × St)) (v4 v9 v10 v11 v12 v13 v14 v15 v16 v44 v45 v46 : Value) (st : St) : Res (AExit × St) := goX J (posC refinerylaw04_LexAny_c.body [1, 1, 1, 1, 1, 1, 1, 1, 0, 1, 0, 1, 0, 0, 1, 1, 1, 0, 0, 1, 1, 1, 1, 0, 1, 0, 1, 1]) [1, 0, 1, 1] (envT [(4, v4), (9, v9), (10, v10), (11, v11), (12, v12), (13, v13), (14, v14), (15, v15), (16, v16), (44, v44), (45, v45), (46, v46)]) st
def refinerylaw04_LexAny_jr1111111101010011100111101011_2 (J : JT (AExit × St)) (v4 v9 v10 v12 v15 v16 v44 v45 v46 : Value) (st : St) : Res (AExit × St) := goX J (posC refinerylaw04_LexAny_c.body [1, 1, 1, 1, 1, 1, 1, 1, 0, 1, 0, 1, 0, 0, 1, 1, 1, 0, 0, 1, 1, 1, 1, 0, 1, 0, 1, 1]) [1, 0, 1, 1, 0, 1, 0, 1, 1] (envT [(4, v4), (9, v9), (10, v10), (12, v12), (15, v15), (16, v16), (44, v44), (45, v45), (46, v46)]) st
def refinerylaw04_LexAny_jr1111111101010011100111101011_3 (J : JT (AExit × St)) (v4 v9 v13 v14 v15 : Value) (st : St) : Res (AExit × St) := goX J (posC refinerylaw04_LexAny_c.body [1, 1, 1, 1, 1, 1, 1, 1, 0, 1, 0, 1, 0, 0, 1, 1, 1, 0, 0, 1, 1, 1, 1, 0, 1, 0, 1, 1]) [1, 0, 1, 1, 1, 1] (envT [(4, v4), (9, v9), (13, v13), (14, v14), (15, v15)]) st
def refinerylaw04_LexAny_jr1111111101010011100111101011_4 (J : JT (AExit × St)) (v13 v14 v15 : Value) (st : St) : Res (AExit × St) := goX J (posC refinerylaw04_LexAny_c.body [1, 1, 1, 1, 1, 1, 1, 1, 0, 1, 0, 1, 0, 0, 1, 1, 1, 0, 0, 1, 1, 1, 1, 0, 1, 0, 1, 1]) [1, 0, 1, 1, 1, 1, 1, 1] (envT [(13, v13), (14, v14), (15, v15)]) st
theorem refinerylaw04_LexAny_eq (K : Ctx) (J : JT (Value × St)) (a0 a1 : Value) (st : St) : atX K J refinerylaw04_LexAny_c (AM.start [a0, a1]) st =
 (.thn st (sNew [(.bool false)] st) fun p1 =>
 .thn p1.2 (K.go (.call n_refinerylaw04_Awake []) p1.2) fun p2 =>
 .thn p2.2 (sUn .not p2.1 p2.2) fun p3 =>
 condX p3.1
 (.thn p3.2 (sStore 1 p1.1 (.bool false) p3.2) fun p4 =>
 (sLoad none p1.1 p4.2 >>= fun p5 => .ok [p5.1]) >>= fun vs => .ok (oneOf vs, p4.2))
 (refinerylaw04_LexAny_j0 J a0 a1 p1.1 nothing nothing p3.2)) := by kernel_rfl
theorem refinerylaw04_LexAny_of : Of2 n_refinerylaw04_LexAny refinerylaw04_LexAny_c := fun hF => call_of hF refinerylaw04_LexAny_is rfl
theorem refinerylaw04_LexAny_j0_eq (hJ : IsJ K (retK refinerylaw04_LexAny_c.results) J) (v0 v1 v4 v15 v16 : Value) (st : St) : refinerylaw04_LexAny_j0 J v0 v1 v4 v15 v16 st =
 (.thn st (sLen .str v0 st) fun p1 =>
 .thn p1.2 (sBin .gtr p1.1 (.int .i64 200) p1.2) fun p2 =>
 .thn p2.2 (sG p2.1 false (.ok (v1, p2.2)) p2.2) fun p3 =>
 .thn p3.2 (sG p2.1 false (sLen .slice p3.1 p3.2) p3.2) fun p4 =>
 .thn p4.2 (sG p2.1 false (sBin .gtr p4.1 (.int .i64 100) p4.2) p4.2) fun p5 =>
 .thn p5.2 (sPick p2.1 (.bool true) p5.1 p5.2) fun p6 =>
 condX p6.1
 (.thn p6.2 (sStore 1 v4 (.bool true) p6.2) fun p7 =>
 (sLoad none v4 p7.2 >>= fun p8 => .ok [p8.1]) >>= fun vs => .ok (oneOf vs, p7.2))
 (refinerylaw04_LexAny_j1 J v0 v1 v4 v15 v16 p6.2)) := gq hJ (by kernel_rfl)
theorem refinerylaw04_LexAny_j1_eq (hJ : IsJ K (retK refinerylaw04_LexAny_c.results) J) (v0 v1 v4 v15 v16 : Value) (st : St) : refinerylaw04_LexAny_j1 J v0 v1 v4 v15 v16 st =
 (.thn st (sLen .slice v1 st) fun p1 =>
 refinerylaw04_LexAny_l0 J v0 v4 (.string (bstr [])) v15 v16 v1 p1.1 (.int .i64 0) p1.2) := gq hJ (by kernel_rfl)
theorem refinerylaw04_LexAny_l0_eq (K : Ctx) (J : JT (Value × St)) (v0 v4 v5 v15 v16 v27 v28 v29 : Value) (st : St) : inX K J (retK refinerylaw04_LexAny_c.results) refinerylaw04_LexAny_c.body [1, 1, 1, 1, 1, 1, 0, 1, 0, 1] (envT [(0, v0), (4, v4), (5, v5), (15, v15), (16, v16), (27, v27), (28, v28), (29, v29)]) st =
 (.thn st (sBin .lss v29 v28 st) fun p1 =>
 condX p1.1
 (refinerylaw04_LexAny_j2 J v0 v4 v5 v15 v16 v27 v28 v29 p1.2)
 (refinerylaw04_LexAny_j3 J v0 v4 v5 v15 v16 p1.2)) := by kernel_rfl
theorem refinerylaw04_LexAny_l0_of (hF : Fix pgF K) (hJ : IsJ K (retK refinerylaw04_LexAny_c.results) J) {v0 v4 v5 v15 v16 v27 v28 v29 : Value} (h : Ok (inX K J (retK refinerylaw04_LexAny_c.results) refinerylaw04_LexAny_c.body [1, 1, 1, 1, 1, 1, 0, 1, 0, 1] (envT [(0, v0), (4, v4), (5, v5), (15, v15), (16, v16), (27, v27), (28, v28), (29, v29)]) st) Q) : Ok (refinerylaw04_LexAny_l0 J v0 v4 v5 v15 v16 v27 v28 v29 st) Q := loop_of hF hJ h
theorem refinerylaw04_LexAny_j2_eq (hJ : IsJ K (retK refinerylaw04_LexAny_c.results) J) (v0 v4 v5 v15 v16 v27 v28 v29 : Value) (st : St) : refinerylaw04_LexAny_j2 J v0 v4 v5 v15 v16 v27 v28 v29 st =
 (.thn st (sIxA 1 none v27 v29 st) fun p1 =>
 .thn p1.2 (sLoad none p1.1 p1.2) fun p2 =>
 .thn p2.2 (sBin .rem p2.1 (.int .u8 23) p2.2) fun p3 =>
 .thn p3.2 (sBin .rem p2.1 (.int .u8 23) p3.2) fun p4 =>
 .thn p4.2 (sBin .add p4.1 (.int .u8 1) p4.2) fun p5 =>
 .thn p5.2 (sSlice .str (.string (bstr [37, 64, 36, 97, 98, 45, 48, 49, 50, 51, 52, 53, 54, 55, 56, 57, 61, 44, 58, 32, 10, 35, 33])) (some p3.1) (some p5.1) none p5.2) fun p6 =>
 .thn p6.2 (sBin .add v5 p6.1 p6.2) fun p7 =>
 refinerylaw04_LexAny_j4 J v0 v4 p7.1 v15 v16 v27 v28 v29 p7.2) := gq hJ (by kernel_rfl)
theorem refinerylaw04_LexAny_j3_eq (hJ : IsJ K (retK refinerylaw04_LexAny_c.results) J) (v0 v4 v5 v15 v16 : Value) (st : St) : refinerylaw04_LexAny_j3 J v0 v4 v5 v15 v16 st =
 (.thn st (sLit 1 2 [(.string (bstr [])), (.string (bstr []))] [(0, 1, v0), (1, 1, v5)] st) fun p1 =>
 .thn p1.2 (sLen .slice p1.1 p1.2) fun p2 =>
 refinerylaw04_LexAny_l1 J v4 v15 v16 p1.1 p2.1 (.int .i64 0) p2.2) := gq hJ (by kernel_rfl)
theorem refinerylaw04_LexAny_j4_eq (hJ : IsJ K (retK refinerylaw04_LexAny_c.results) J) (v0 v4 v5 v15 v16 v27 v28 v29 : Value) (st : St) : refinerylaw04_LexAny_j4 J v0 v4 v5 v15 v16 v27 v28 v29 st =
 (.thn st (sBin .add v29 (.int .i64 1) st) fun p1 =>
 refinerylaw04_LexAny_l0 J v0 v4 v5 v15 v16 v27 v28 p1.1 p1.2) := gq hJ (by kernel_rfl)
theorem refinerylaw04_LexAny_l1_eq (K : Ctx) (J : JT (Value × St)) (v4 v15 v16 v44 v45 v46 : Value) (st : St) : inX K J (retK refinerylaw04_LexAny_c.results) refinerylaw04_LexAny_c.body [1, 1, 1, 1, 1, 1, 1, 1, 0, 1, 0, 1] (envT [(4, v4), (15, v15), (16, v16), (44, v44), (45, v45), (46, v46)]) st =
 (.thn st (sBin .lss v46 v45 st) fun p1 =>
 condX p1.1
 (refinerylaw04_LexAny_j5 J v4 v15 v16 v44 v45 v46 p1.2)
 (refinerylaw04_LexAny_j6 J v4 p1.2)) := by kernel_rfl
theorem refinerylaw04_LexAny_l1_of (hF : Fix pgF K) (hJ : IsJ K (retK refinerylaw04_LexAny_c.results) J) {v4 v15 v16 v44 v45 v46 : Value} (h : Ok (inX K J (retK refinerylaw04_LexAny_c.results) refinerylaw04_LexAny_c.body [1, 1, 1, 1, 1, 1, 1, 1, 0, 1, 0, 1] (envT [(4, v4), (15, v15), (16, v16), (44, v44), (45, v45), (46, v46)]) st) Q) : Ok (refinerylaw04_LexAny_l1 J v4 v15 v16 v44 v45 v46 st) Q := loop_of hF hJ h
theorem refinerylaw04_LexAny_j5_eq (hJ : IsJ K (retK refinerylaw04_LexAny_c.results) J) (v4 v15 v16 v44 v45 v46 : Value) (st : St) : refinerylaw04_LexAny_j5 J v4 v15 v16 v44 v45 v46 st =
 (.thn st (sIxA 1 none v44 v46 st) fun p1 =>
 .thn p1.2 (sLoad none p1.1 p1.2) fun p2 =>
 .thn p2.2 (sNew [(.string (bstr []))] p2.2) fun p3 =>
 .thn p3.2 (sStore 1 p3.1 p2.1 p3.2) fun p4 =>
 .thn p4.2 (sLoad none p3.1 p4.2) fun p5 =>
 .thn p5.2 (K.go (.call n_lex_Split [p5.1]) p5.2) fun p6 =>
 .thn p6.2 (sExtract p6.1 0 p6.2) fun p7 =>
 .thn p7.2 (sExtract p6.1 1 p7.2) fun p8 =>
 .thn p8.2 (sExtract p6.1 2 p8.2) fun p9 =>
 .thn p9.2 (sNew [(.int .i64 0)] p9.2) fun p10 =>
 .thn p10.2 (sNew [(.int .i64 0)] p10.2) fun p11 =>
 .thn p11.2 (sStore 1 p10.1 p8.1 p11.2) fun p12 =>
 .thn p12.2 (sStore 1 p11.1 p9.1 p12.2) fun p13 =>
 .thn p13.2 (sNew [(.int .i64 0)] p13.2) fun p14 =>
 .thn p14.2 (sStore 1 p14.1 (.int .i64 0) p14.2) fun p15 =>
 .thn p15.2 (sNew [(.int .u8 0), (.int .i64 0), (.string (bstr [])), (.int .i64 0)] p15.2) fun p16 =>
 .thn p16.2 (sLoad none p3.1 p16.2) fun p17 =>
 .thn p17.2 (K.go (.call n_lex_Tokens [p17.1]) p17.2) fun p18 =>
 refinerylaw04_LexAny_j7 J v4 p3.1 p7.1 p10.1 p11.1 p14.1 p16.1 v15 v16 v44 v45 v46 p18.1 p18.2) := gq hJ (by kernel_rfl)
theorem refinerylaw04_LexAny_j6_eq (hJ : IsJ K (retK refinerylaw04_LexAny_c.results) J) (v4 : Value) (st : St) : refinerylaw04_LexAny_j6 J v4 st =
 (.thn st (sStore 1 v4 (.bool true) st) fun p1 =>
 (sLoad none v4 p1.2 >>= fun p2 => .ok [p2.1]) >>= fun vs => .ok (oneOf vs, p1.2)) := gq hJ (by kernel_rfl)
theorem refinerylaw04_LexAny_j7_eq (hJ : IsJ K (retK refinerylaw04_LexAny_c.results) J) (v4 v9 v10 v11 v12 v13 v14 v15 v16 v44 v45 v46 v57 : Value) (st : St) : refinerylaw04_LexAny_j7 J v4 v9 v10 v11 v12 v13 v14 v15 v16 v44 v45 v46 v57 st =
 (sRange K v57 st (.loop (envT [(4, v4), (9, v9), (10, v10), (11, v11), (12, v12), (13, v13), (14, v14), (15, v15), (16, v16), (44, v44), (45, v45), (46, v46), (57, v57)]) [58, 59] (posC refinerylaw04_LexAny_c.body [1, 1, 1, 1, 1, 1, 1, 1, 0, 1, 0, 1, 0, 0, 1, 1, 1, 0, 0, 1, 1, 1, 1, 0, 1, 0, 1, 0]) (posC refinerylaw04_LexAny_c.body [1, 1, 1, 1, 1, 1, 1, 1, 0, 1, 0, 1, 0, 0, 1, 1, 1, 0, 0, 1, 1, 1, 1, 0, 1, 0, 1, 1]) .ready .normal) (fun x s => refinerylaw04_LexAny_x0 K J x v4 v9 v10 v11 v12 v13 v14 v15 v16 v44 v45 v46 v57 s)) := gq hJ (by kernel_rfl)
theorem refinerylaw04_LexAny_x0_n (K : Ctx) (J : JT (Value × St)) (v4 v9 v10 v11 v12 v13 v14 v15 v16 v44 v45 v46 v57 : Value) (st : St) : refinerylaw04_LexAny_x0 K J .normal v4 v9 v10 v11 v12 v13 v14 v15 v16 v44 v45 v46 v57 st =
 (refinerylaw04_LexAny_j8 J v4 v9 v10 v12 v15 v16 v44 v45 v46 st) := by kernel_rfl
theorem refinerylaw04_LexAny_x0_e4 (K : Ctx) (J : JT (Value × St)) (v4 v9 v10 v11 v12 v13 v14 v15 v16 v44 v45 v46 v57 : Value) (st : St) : refinerylaw04_LexAny_x0 K J (.exit 4) v4 v9 v10 v11 v12 v13 v14 v15 v16 v44 v45 v46 v57 st =
 (refinerylaw04_LexAny_j8 J v4 v9 v10 v12 v15 v16 v44 v45 v46 st) := by kernel_rfl
theorem refinerylaw04_LexAny_j8_eq (hJ : IsJ K (retK refinerylaw04_LexAny_c.results) J) (v4 v9 v10 v12 v15 v16 v44 v45 v46 : Value) (st : St) : refinerylaw04_LexAny_j8 J v4 v9 v10 v12 v15 v16 v44 v45 v46 st =
 (.thn st (sLoad none v12 st) fun p1 =>
 .thn p1.2 (sBin .eql p1.1 (.int .i64 0) p1.2) fun p2 =>
 .thn p2.2 (sGo p2.1 true (Res.ok (v10, p2.2)) p2.2) fun p3 =>
 .thn p3.2 (sGo p2.1 true (sLen .slice p3.1 p3.2) p3.2) fun p5 =>
 .thn p5.2 (sGo p2.1 true (sBin .eql p5.1 (.int .i64 0) p5.2) p5.2) fun p7 =>
 .thn p7.2 (sGo p2.1 true (Res.ok (p7.1, p7.2)) p7.2) fun p9 =>
 .thn p9.2 (sGo p9.1 false (Res.ok (v10, p9.2)) p9.2) fun p11 =>
 .thn p11.2 (sGo p9.1 false (Res.ok (v10, p11.2)) p11.2) fun p13 =>
 .thn p13.2 (sGo p9.1 false (sLen .slice p13.1 p13.2) p13.2) fun p15 =>
 .thn p15.2 (sGo p9.1 false (sBin .sub p15.1 (.int .i64 1) p15.2) p15.2) fun p17 =>
 .thn p17.2 (sGo p9.1 false (sIxA 4 none p11.1 p17.1 p17.2) p17.2) fun p19 =>
 .thn p19.2 (sGo p9.1 false (sOff 1 p19.1 p19.2) p19.2) fun p21 =>
 .thn p21.2 (sGo p9.1 false (sLoad none p21.1 p21.2) p21.2) fun p23 =>
 .thn p23.2 (sGo p9.1 false (sLoad none v9 p23.2) p23.2) fun p25 =>
 .thn p25.2 (sGo p9.1 false (sLen .str p25.1 p25.2) p25.2) fun p27 =>
 .thn p27.2 (sGo p9.1 false (sBin .neq p23.1 p27.1 p27.2) p27.2) fun p29 =>
 .thn p29.2 (sGo p2.1 true (sPick p9.1 (.bool true) p29.1 p29.2) p29.2) fun p31 =>
 .thn p31.2 (sPick p2.1 p31.1 (.bool false) p31.2) fun p33 =>
 .thn p33.2 (sGo p33.1 false (sLoad none v12 p33.2) p33.2) fun p34 =>
 .thn p34.2 (sGo p33.1 false (sBin .neq p34.1 (.int .i64 0) p34.2) p34.2) fun p36 =>
 .thn p36.2 (sGo p33.1 false (Res.ok (p36.1, p36.2)) p36.2) fun p38 =>
 .thn p38.2 (sGo p38.1 true (Res.ok (v10, p38.2)) p38.2) fun p40 =>
 .thn p40.2 (sGo p38.1 true (sLen .slice p40.1 p40.2) p40.2) fun p42 =>
 .thn p42.2 (sGo p38.1 true (sBin .gtr p42.1 (.int .i64 0) p42.2) p42.2) fun p44 =>
 .thn p44.2 (sGo p33.1 false (sPick p38.1 p44.1 (.bool false) p44.2) p44.2) fun p46 =>
 .thn p46.2 (sPick p33.1 (.bool true) p46.1 p46.2) fun p48 =>
 condX p48.1
 (.thn p48.2 (sStore 1 v4 (.bool false) p48.2) fun p49 =>
 (sLoad none v4 p49.2 >>= fun p50 => .ok [p50.1]) >>= fun vs => .ok (oneOf vs, p49.2))
 (refinerylaw04_LexAny_j9 J v4 v15 v16 v44 v45 v46 p48.2)) := gq hJ (by kernel_rfl)
theorem refinerylaw04_LexAny_j9_eq (hJ : IsJ K (retK refinerylaw04_LexAny_c.results) J) (v4 v15 v16 v44 v45 v46 : Value) (st : St) : refinerylaw04_LexAny_j9 J v4 v15 v16 v44 v45 v46 st =
 (.thn st (sBin .add v46 (.int .i64 1) st) fun p1 =>
 refinerylaw04_LexAny_l1 J v4 v15 v16 v44 v45 p1.1 p1.2) := gq hJ (by kernel_rfl)
theorem refinerylaw04_LexAny_jr1111111101010011100111101011_0_eq {K : Ctx} {J : JT (AExit × St)} (hJ : IsJ K rawK J) (v4 v9 v10 v11 v12 v13 v14 v15 v16 v44 v45 v46 : Value) (st : St) : refinerylaw04_LexAny_jr1111111101010011100111101011_0 J v4 v9 v10 v11 v12 v13 v14 v15 v16 v44 v45 v46 st =
 (.thn st (sLref v15 st) fun p1 =>
 .thn p1.2 (sField none 1 v15 p1.2) fun p2 =>
 .thn p2.2 (sLoad none v13 p2.2) fun p3 =>
 .thn p3.2 (sBin .lss p2.1 p3.1 p3.2) fun p4 =>
 .thn p4.2 (sG p4.1 false (sLref v15 p4.2) p4.2) fun p5 =>
 .thn p5.2 (sG p4.1 false (sField none 1 v15 p5.2) p5.2) fun p6 =>
 .thn p6.2 (sG p4.1 false (sLoad none v9 p6.2) p6.2) fun p7 =>
 .thn p7.2 (sG p4.1 false (sLen .str p7.1 p7.2) p7.2) fun p8 =>
 .thn p8.2 (sG p4.1 false (sBin .gtr p6.1 p8.1 p8.2) p8.2) fun p9 =>
 .thn p9.2 (sPick p4.1 (.bool true) p9.1 p9.2) fun p10 =>
 .thn p10.2 (sG p10.1 false (sOff 0 v14 p10.2) p10.2) fun p11 =>
 .thn p11.2 (sG p10.1 false (sLoad none p11.1 p11.2) p11.2) fun p12 =>
 .thn p12.2 (sG p10.1 false (sBin .eql p12.1 (.int .u8 0) p12.2) p12.2) fun p13 =>
 .thn p13.2 (sG p10.1 false (.ok (p13.1, p13.2)) p13.2) fun p14 =>
 .thn p14.2 (sG p14.1 true (sLoad none v13 p14.2) p14.2) fun p15 =>
 .thn p15.2 (sG p14.1 true (sBin .gtr p15.1 (.int .i64 0) p15.2) p15.2) fun p16 =>
 .thn p16.2 (sG p10.1 false (sPick p14.1 p16.1 (.bool false) p16.2) p16.2) fun p17 =>
 .thn p17.2 (sG p10.1 false (.ok (p17.1, p17.2)) p17.2) fun p18 =>
 .thn p18.2 (sG p18.1 true (sOff 1 v14 p18.2) p18.2) fun p19 =>
 .thn p19.2 (sG p18.1 true (sLoad none p19.1 p19.2) p19.2) fun p20 =>
 .thn p20.2 (sG p18.1 true (sLoad none v9 p20.2) p20.2) fun p21 =>
 .thn p21.2 (sG p18.1 true (sLen .str p21.1 p21.2) p21.2) fun p22 =>
 .thn p22.2 (sG p18.1 true (sBin .eql p20.1 p22.1 p22.2) p22.2) fun p23 =>
 .thn p23.2 (sG p10.1 false (sPick p18.1 p23.1 (.bool false) p23.2) p23.2) fun p24 =>
 .thn p24.2 (sG p10.1 false (.ok (p24.1, p24.2)) p24.2) fun p25 =>
 .thn p25.2 (sG p25.1 true (.ok (v16, p25.2)) p25.2) fun p26 =>
 .thn p26.2 (sG p25.1 true (sBin .eql p26.1 (.int .i64 0) p26.2) p26.2) fun p27 =>
 .thn p27.2 (sG p10.1 false (sPick p25.1 p27.1 (.bool false) p27.2) p27.2) fun p28 =>
 .thn p28.2 (sG p10.1 false (.ok (p28.1, p28.2)) p28.2) fun p29 =>
 .thn p29.2 (sG p29.1 true (sLref v15 p29.2) p29.2) fun p30 =>
 .thn p30.2 (sG p29.1 true (sField none 0 v15 p30.2) p30.2) fun p31 =>
 .thn p31.2 (sG p29.1 true (sBin .eql p31.1 (.int .u8 0) p31.2) p31.2) fun p32 =>
 .thn p32.2 (sG p10.1 false (sPick p29.1 p32.1 (.bool false) p32.2) p32.2) fun p33 =>
 .thn p33.2 (sG p10.1 false (.ok (p33.1, p33.2)) p33.2) fun p34 =>
 .thn p34.2 (sG p34.1 true (sLref v15 p34.2) p34.2) fun p35 =>
 .thn p35.2 (sG p34.1 true (sField none 1 v15 p35.2) p35.2) fun p36 =>
 .thn p36.2 (sG p34.1 true (sOff 1 v14 p36.2) p36.2) fun p37 =>
 .thn p37.2 (sG p34.1 true (sLoad none p37.1 p37.2) p37.2) fun p38 =>
 .thn p38.2 (sG p34.1 true (sBin .lss p36.1 p38.1 p38.2) p38.2) fun p39 =>
 .thn p39.2 (sG p10.1 false (sPick p34.1 p39.1 (.bool false) p39.2) p39.2) fun p40 =>
 .thn p40.2 (sPick p10.1 (.bool true) p40.1 p40.2) fun p41 =>
 condX p41.1
 (.thn p41.2 (sStore 1 v4 (.bool false) p41.2) fun p42 =>
 .ok (.ret, p42.2))
 (refinerylaw04_LexAny_jr1111111101010011100111101011_1 J v4 v9 v10 v11 v12 v13 v14 v15 v16 v44 v45 v46 p41.2)) := gq hJ (by kernel_rfl)
theorem refinerylaw04_LexAny_jr1111111101010011100111101011_1_eq {K : Ctx} {J : JT (AExit × St)} (hJ : IsJ K rawK J) (v4 v9 v10 v11 v12 v13 v14 v15 v16 v44 v45 v46 : Value) (st : St) : refinerylaw04_LexAny_jr1111111101010011100111101011_1 J v4 v9 v10 v11 v12 v13 v14 v15 v16 v44 v45 v46 st =
 (.thn st (sBin .neq v16 (.int .i64 0) st) fun p1 =>
 condX p1.1
 (.thn p1.2 (sLoad none v12 p1.2) fun p2 =>
 .thn p2.2 (sBin .neq p2.1 v16 p2.2) fun p3 =>
 .thn p3.2 (sG p3.1 false (sLoad none v11 p3.2) p3.2) fun p4 =>
 .thn p4.2 (sG p3.1 false (sLref v15 p4.2) p4.2) fun p5 =>
 .thn p5.2 (sG p3.1 false (sField none 1 v15 p5.2) p5.2) fun p6 =>
 .thn p6.2 (sG p3.1 false (sBin .neq p4.1 p6.1 p6.2) p6.2) fun p7 =>
 .thn p7.2 (sPick p3.1 (.bool true) p7.1 p7.2) fun p8 =>
 .thn p8.2 (sG p8.1 false (sField (some 4) 0 v15 p8.2) p8.2) fun p9 =>
 .thn p9.2 (sG p8.1 false (sLoad none v11 p9.2) p9.2) fun p10 =>
 .thn p10.2 (sG p8.1 false (sBuild [(.int .u8 0), (.int .i64 0), (.string (bstr [])), (.int .i64 0)] [(1, 1, p10.1)] p10.2) p10.2) fun p11 =>
 .thn p11.2 (sG p8.1 false (sEq true (.fields [(0, .int), (1, .int), (2, .str), (3, .int)]) p9.1 p11.1 p11.2) p11.2) fun p12 =>
 .thn p12.2 (sPick p8.1 (.bool true) p12.1 p12.2) fun p13 =>
 condX p13.1
 (.thn p13.2 (sStore 1 v4 (.bool false) p13.2) fun p14 =>
 .ok (.ret, p14.2))
 (refinerylaw04_LexAny_jr1111111101010011100111101011_2 J v4 v9 v10 v12 v15 v16 v44 v45 v46 p13.2))
 (refinerylaw04_LexAny_jr1111111101010011100111101011_3 J v4 v9 v13 v14 v15 p1.2)) := gq hJ (by kernel_rfl)
theorem refinerylaw04_LexAny_jr1111111101010011100111101011_2_eq {K : Ctx} {J : JT (AExit × St)} (hJ : IsJ K rawK J) (v4 v9 v10 v12 v15 v16 v44 v45 v46 : Value) (st : St) : refinerylaw04_LexAny_jr1111111101010011100111101011_2 J v4 v9 v10 v12 v15 v16 v44 v45 v46 st =
 (.ok ((.exit 4), st)) := gq hJ (by kernel_rfl)
theorem refinerylaw04_LexAny_jr1111111101010011100111101011_3_eq {K : Ctx} {J : JT (AExit × St)} (hJ : IsJ K rawK J) (v4 v9 v13 v14 v15 : Value) (st : St) : refinerylaw04_LexAny_jr1111111101010011100111101011_3 J v4 v9 v13 v14 v15 st =
 (.thn st (sLref v15 st) fun p1 =>
 .thn p1.2 (sField none 0 v15 p1.2) fun p2 =>
 .thn p2.2 (sBin .neq p2.1 (.int .u8 0) p2.2) fun p3 =>
 .thn p3.2 (sGo p3.1 true (sLref v15 p3.2) p3.2) fun p4 =>
 .thn p4.2 (sGo p3.1 true (sField none 2 v15 p4.2) p4.2) fun p6 =>
 .thn p6.2 (sGo p3.1 true (sBin .neq p6.1 (.string (bstr [])) p6.2) p6.2) fun p8 =>
 .thn p8.2 (sGo p3.1 true (Res.ok (p8.1, p8.2)) p8.2) fun p10 =>
 .thn p10.2 (sGo p10.1 true (sLoad none v9 p10.2) p10.2) fun p12 =>
 .thn p12.2 (sGo p10.1 true (sLref v15 p12.2) p12.2) fun p14 =>
 .thn p14.2 (sGo p10.1 true (sField none 1 v15 p14.2) p14.2) fun p16 =>
 .thn p16.2 (sGo p10.1 true (sLref v15 p16.2) p16.2) fun p18 =>
 .thn p18.2 (sGo p10.1 true (sField none 1 v15 p18.2) p18.2) fun p20 =>
 .thn p20.2 (sGo p10.1 true (sLref v15 p20.2) p20.2) fun p22 =>
 .thn p22.2 (sGo p10.1 true (sField none 2 v15 p22.2) p22.2) fun p24 =>
 .thn p24.2 (sGo p10.1 true (sLen .str p24.1 p24.2) p24.2) fun p26 =>
 .thn p26.2 (sGo p10.1 true (sBin .add p20.1 p26.1 p26.2) p26.2) fun p28 =>
 .thn p28.2 (sGo p10.1 true (sSlice .str p12.1 (some p16.1) (some p28.1) none p28.2) p28.2) fun p30 =>
 .thn p30.2 (sGo p10.1 true (sLref v15 p30.2) p30.2) fun p32 =>
 .thn p32.2 (sGo p10.1 true (sField none 2 v15 p32.2) p32.2) fun p34 =>
 .thn p34.2 (sGo p10.1 true (sBin .neq p30.1 p34.1 p34.2) p34.2) fun p36 =>
 .thn p36.2 (sGo p3.1 true (sPick p10.1 p36.1 (.bool false) p36.2) p36.2) fun p38 =>
 .thn p38.2 (sPick p3.1 p38.1 (.bool false) p38.2) fun p40 =>
 condX p40.1
 (.thn p40.2 (sStore 1 v4 (.bool false) p40.2) fun p41 =>
 .ok (.ret, p41.2))
 (refinerylaw04_LexAny_jr1111111101010011100111101011_4 J v13 v14 v15 p40.2)) := gq hJ (by kernel_rfl)
theorem refinerylaw04_LexAny_jr1111111101010011100111101011_4_eq {K : Ctx} {J : JT (AExit × St)} (hJ : IsJ K rawK J) (v13 v14 v15 : Value) (st : St) : refinerylaw04_LexAny_jr1111111101010011100111101011_4 J v13 v14 v15 st =
 (.thn st (sLref v15 st) fun p1 =>
 .thn p1.2 (sField none 1 v15 p1.2) fun p2 =>
 .thn p2.2 (sStore 1 v13 p2.1 p2.2) fun p3 =>
 .thn p3.2 (sField (some 4) 0 v15 p3.2) fun p4 =>
 Res.need (sStays (List.take 1 (p2.2 :: [])) p3.2.next nothing (fun s => sField (some 4) 0 v15 s) p4.1) "order" >>= fun _ =>
 .thn p4.2 (sStore 4 v14 p4.1 p4.2) fun p5 =>
 .ok (.normal, p5.2)) := gq hJ (by kernel_rfl)
end
end Go.Proofs.YtefdkodjpcabmaaDoor.Sh
