/-
  The functions of the program, operation by operation, as the abstract machine has them.
-/
import Derived.Test.YtfknooeebmdfoaaProg
import Derived.Test.YtfknooeebmdfoaaShN
set_option linter.unusedVariables false
set_option maxRecDepth 100000
namespace Go.Proofs.Ytfknooeebmdfoaa.Sh
open Go Go.AM Go.Proofs

/-! ### refinery/refinerylaw03.IrPrograms -/
open C in
noncomputable def refinerylaw03_IrPrograms_c : AFun := ⟨3, [.cell 6 none],
 (s (.ops [o 3 (.lbox (t 0)), o 6 (.new [(.bool false)])])
 (s (s (.ops [o 29 (.call (f 13) []), o 30 (.un .not (t 29))])
 (.cond (t 30) (s (.ops [n (.store 1 (t 6) (c (.bool false)))])
 .ret) .skip))
 (s (.keep [1, 2, 3, 6, 26, 27])
 (s (s (.ops [o 31 (.field (some 3) 0 (t 3)), o 32 (.call (f 14) [(t 31)]), o 33 (.un .not (t 32)), o 34 (.mv (t 33)), g 35 false 34 (.mv (t 2)), g 36 false 34 (.len .slice (t 35)), g 37 false 34 (.bin .gtr (t 36) (c (i 10))), o 38 (.pick (t 34) (c (.bool true)) (t 37))])
 (.cond (t 38) (s (.ops [n (.store 1 (t 6) (c (.bool true)))])
 .ret) .skip))
 (s (.keep [1, 2, 3, 6, 26, 27])
 (s (.ops [o 39 (.field (some 3) 0 (t 3)), o 40 (.call (f 15) [(t 39)]), o 7 (.lnew [(.slice none 0 0)]), o 7 (.upd 1 0 (t 7) (t 40))])
 (s (s (.ops [o 41 (.field (some 1) 0 (t 7)), o 42 (.call (f 18) [(t 41)]), o 43 (.bin .neq (t 42) (c (i 0))), o 44 (.mv (t 43)), g 45 false 44 (.field (some 1) 0 (t 7)), g 46 false 44 (.call (f 34) [(t 45)]), g 47 false 44 (.un .not (t 46)), o 48 (.pick (t 44) (c (.bool true)) (t 47))])
 (.cond (t 48) (s (.ops [n (.store 1 (t 6) (c (.bool false)))])
 .ret) .skip))
 (s (.keep [1, 2, 6, 7, 26, 27])
 (s (.ops [o 8 (.lnew [(i 0), (.slice none 0 0), (.slice none 0 0)])])
 (s (s (.ops [o 49 (.mv (t 2)), o 50 (.len .slice (t 49)), o 51 (.mv (c (i 0)))])
 (.block 0 (s (.keep [1, 6, 7, 8, 26, 27, 49, 50, 51])
 (.loop (s (s (.ops [o 52 (.bin .lss (t 51) (t 50))])
 (s (.cond (t 52) .skip (.exit 0))
 (s (.keep [1, 6, 7, 8, 26, 27, 49, 50, 51])
 (s (.block 1 (s (.ops [o 53 (.mv (t 51)), o 54 (.ixA 1 none (t 49) (t 51)), o 55 (.load none (t 54)), o 9 (.mv (t 53)), o 10 (.mv (t 55))])
 (s (.ops [o 56 (.mv (t 9)), o 57 (.lref (t 7)), o 58 (.field none 0 (t 7)), o 59 (.len .slice (t 58)), o 60 (.bin .lss (t 56) (t 59))])
 (.cond (t 60) (.draw [d 0 0 false (o 61 (.lref (t 8))), d 1 0 false (o 62 (.field none 1 (t 8))), d 2 0 false (o 63 (.lref (t 7))), d 3 0 false (o 64 (.field none 0 (t 7))), d 4 0 false (o 65 (.mv (t 9))), d 5 0 false (o 66 (.ixA 7 none (t 64) (t 65))), d 6 0 false (o 67 (.off 0 (t 66))), d 7 0 false (o 68 (.load none (t 67))), d 8 0 false (o 69 (.lit 1 1 [(i 0)] [(0, 1, (t 68))])), d 9 0 true (o 70 (.append 1 8 (t 62) (t 69))), d 10 0 false (o 71 (.lref (t 8))), d 11 1 false (o 72 (.field none 2 (t 8))), d 12 0 false (o 73 (.mv (t 10))), d 13 0 false (o 74 (.conv (.int .i64) (t 73))), d 14 0 false (o 75 (.lit 1 1 [(i 0)] [(0, 1, (t 74))])), d 15 0 true (o 76 (.append 1 8 (t 72) (t 75))), d 16 0 false (o 77 (.lref (t 8))), d 17 0 true (o 8 (.upd 1 1 (t 8) (t 70))), d 18 0 false (o 78 (.lref (t 8))), d 19 0 true (o 8 (.upd 1 2 (t 8) (t 76)))]) .skip))))
 (s (.keep [1, 6, 7, 8, 26, 27, 49, 50, 51])
 (.ops [o 79 (.bin .add (t 51) (c (i 1))), o 51 (.mv (t 79))]))))))
 (.keep [1, 6, 7, 8, 26, 27, 49, 50, 51]))))))
 (s (.keep [1, 6, 7, 8, 26, 27])
 (s (.ops [o 80 (.mv (t 1)), o 81 (.conv (.int .i64) (t 80)), o 82 (.lref (t 8)), o 8 (.upd 1 0 (t 8) (t 81))])
 (s (.ops [o 83 (.lref (t 8)), o 84 (.field none 1 (t 8)), o 85 (.call (f 35) [(t 84)]), o 11 (.mv (t 85))])
 (s (.ops [o 86 (.field (some 1) 0 (t 7)), o 87 (.call (f 31) [(t 86)]), o 12 (.new [(.slice none 0 0)]), n (.store 1 (t 12) (t 87))])
 (s (.ops [o 88 (.off 0 (t 12)), o 89 (.load none (t 88)), o 90 (.field (some 3) 0 (t 8)), o 91 (.lit 3 1 [(i 0), (.slice none 0 0), (.slice none 0 0)] [(0, 3, (t 90))]), o 92 (.ixA 7 none (t 89) (c (i 0))), o 93 (.off 1 (t 92)), n (.store 1 (t 93) (t 91))])
 (s (.ops [o 14 (.new [(i 0)]), o 13 (.mv (c (i 0))), n (.store 1 (t 14) (c (i 0)))])
 (s (.ops [o 94 (.fn 36 [] [(t 14)]), o 15 (.mv (t 94))])
 (s (.ops [o 16 (.new [(.slice none 0 0)])])
 (s (s (.ops [o 95 (.off 0 (t 12)), o 96 (.load none (t 95)), o 97 (.len .slice (t 96)), o 98 (.mv (c (i 0)))])
 (.block 2 (s (.keep [1, 6, 7, 8, 11, 12, 13, 14, 15, 16, 26, 27, 96, 97, 98])
 (.loop (s (s (.ops [o 99 (.bin .lss (t 98) (t 97))])
 (s (.cond (t 99) .skip (.exit 2))
 (s (.keep [1, 6, 7, 8, 11, 12, 13, 14, 15, 16, 26, 27, 96, 97, 98])
 (s (.block 3 (s (.ops [o 100 (.ixA 7 none (t 96) (t 98)), o 101 (.load (some 7) (t 100)), o 18 (.lnew [(i 0), (.slice none 0 0), (.slice none 0 0), (u 0), (i 0), (i 0), (i 0)]), o 18 (.upd 7 0 (t 18) (t 101))])
 (s (.ops [o 102 (.mv (t 13)), o 103 (.lref (t 18)), o 104 (.field none 1 (t 18)), o 105 (.len .slice (t 104)), o 106 (.bin .add (c (i 1)) (t 105)), o 107 (.lref (t 18)), o 108 (.field none 2 (t 18)), o 109 (.len .slice (t 108)), o 110 (.bin .add (t 106) (t 109)), o 111 (.bin .add (t 102) (t 110)), o 13 (.mv (t 111))])
 (s (s (.ops [o 112 (.lref (t 18)), o 113 (.field none 2 (t 18)), o 114 (.len .slice (t 113)), o 115 (.mv (c (i 0)))])
 (.block 4 (s (.keep [1, 6, 7, 8, 11, 12, 13, 14, 15, 16, 18, 26, 27, 96, 97, 98, 113, 114, 115])
 (.loop (s (s (.ops [o 116 (.bin .lss (t 115) (t 114))])
 (s (.cond (t 116) .skip (.exit 4))
 (s (.keep [1, 6, 7, 8, 11, 12, 13, 14, 15, 16, 18, 26, 27, 96, 97, 98, 113, 114, 115])
 (s (.block 5 (s (.ops [o 117 (.ixA 7 none (t 113) (t 115)), o 118 (.load (some 7) (t 117)), o 20 (.lnew [(u 0), (u 0), (i 0), (i 0), (i 0), (i 0), (i 0)]), o 20 (.upd 7 0 (t 20) (t 118))])
 (s (.ops [o 119 (.load none (t 16)), o 120 (.field (some 7) 0 (t 20)), o 121 (.lit 7 1 [(u 0), (u 0), (i 0), (i 0), (i 0), (i 0), (i 0)] [(0, 7, (t 120))]), o 122 (.append 7 48 (t 119) (t 121)), n (.store 1 (t 16) (t 122))])
 (s (.ops [o 123 (.mv (t 15)), o 124 (.field (some 7) 0 (t 20)), o 125 (.call (f 29) [(t 124)]), o 126 (.call (t 123) [(t 125)])])
 (s (.ops [o 128 (.field (some 7) 0 (t 20)), o 129 (.call (f 26) [(t 128)]), o 127 (.mv (t 129)), o 130 (.extract (t 127) 0), o 131 (.extract (t 127) 1), o 21 (.mv (t 130)), o 22 (.mv (t 131))])
 (s (.ops [o 132 (.mv (t 22))])
 (.cond (t 132) (.ops [o 133 (.mv (t 15)), o 134 (.mv (t 21)), o 135 (.lit 1 1 [(i 0)] [(0, 1, (t 134))]), o 136 (.call (t 133) [(t 135)])]) .skip)))))))
 (s (.keep [1, 6, 7, 8, 11, 12, 13, 14, 15, 16, 18, 26, 27, 96, 97, 98, 113, 114, 115])
 (.ops [o 137 (.bin .add (t 115) (c (i 1))), o 115 (.mv (t 137))]))))))
 (.keep [1, 6, 7, 8, 11, 12, 13, 14, 15, 16, 18, 26, 27, 96, 97, 98, 113, 114, 115]))))))
 (s (.keep [1, 6, 7, 8, 11, 12, 13, 14, 15, 16, 18, 26, 27, 96, 97, 98])
 (s (.ops [o 139 (.lref (t 18)), o 140 (.field (some 4) 3 (t 18)), o 141 (.call (f 21) [(t 140)]), o 138 (.mv (t 141)), o 142 (.extract (t 138) 0), o 143 (.extract (t 138) 1), o 23 (.mv (t 142)), o 24 (.mv (t 143))])
 (s (.ops [o 144 (.mv (t 24))])
 (.cond (t 144) (.ops [o 145 (.mv (t 15)), o 146 (.mv (t 23)), o 147 (.lit 1 1 [(i 0)] [(0, 1, (t 146))]), o 148 (.call (t 145) [(t 147)])]) .skip))))))))
 (s (.keep [1, 6, 7, 8, 11, 12, 13, 14, 15, 16, 26, 27, 96, 97, 98])
 (.ops [o 149 (.bin .add (t 98) (c (i 1))), o 98 (.mv (t 149))]))))))
 (.keep [1, 6, 7, 8, 11, 12, 13, 14, 15, 16, 26, 27, 96, 97, 98]))))))
 (s (.keep [1, 6, 7, 8, 11, 12, 13, 14, 15, 16, 26, 27])
 (s (.ops [o 150 (.mv (t 15)), o 151 (.lref (t 8)), o 152 (.field none 0 (t 8)), o 153 (.lit 1 1 [(i 0)] [(0, 1, (t 152))]), o 154 (.call (t 150) [(t 153)])])
 (s (.ops [o 155 (.mv (t 15)), o 156 (.lref (t 8)), o 157 (.field none 2 (t 8)), o 158 (.call (t 155) [(t 157)])])
 (s (.ops [o 25 (.new [(i 0)]), n (.store 1 (t 25) (c (i 0)))])
 (s (s (.ops [o 159 (.load (some 1) (t 12)), o 160 (.call (f 37) [(t 159)])])
 (.block 6 (s (.keep [1, 6, 7, 11, 12, 13, 14, 16, 25, 26, 27, 160])
 (.range (t 160) [161, 162] (s (.ops [o 26 (.mv (t 161))])
 (.ops [o 27 (.lnew [(u 0), (u 0), (i 0), (i 0), (i 0), (i 0), (i 0)]), o 27 (.upd 7 0 (t 27) (t 162))])) (s (.keep [6, 12, 16, 25, 26, 27])
 (.block 7 (s (s (.draw [d 0 0 false (o 163 (.field (some 7) 0 (t 27))), d 1 0 false (o 164 (.load none (t 16))), d 2 0 false (o 165 (.load none (t 25))), d 3 0 false (o 166 (.ixA 7 none (t 164) (t 165))), d 4 0 false (o 167 (.load (some 7) (t 166))), d 5 0 false (o 168 (.eq true (.fields [(0, .int), (1, .int), (2, .int), (3, .int), (4, .int), (5, .int), (6, .int)]) (t 163) (t 167))), d 6 0 false (o 169 (.mv (t 168))), d 7 0 false (g 170 false 169 (.off 0 (t 12))), d 8 0 false (g 171 false 169 (.load none (t 170))), d 9 0 false (g 172 false 169 (.mv (t 26))), d 10 0 false (g 173 false 169 (.ixA 7 none (t 171) (t 172))), d 11 0 false (g 174 false 169 (.off 2 (t 173))), d 12 0 false (g 175 false 169 (.load none (t 174))), d 13 0 false (g 176 false 169 (.field (some 7) 0 (t 27))), d 14 0 true (g 177 false 169 (.call (f 38) [(t 175), (t 176)])), d 15 0 false (g 178 false 169 (.un .not (t 177))), d 16 0 false (o 179 (.pick (t 169) (c (.bool true)) (t 178)))])
 (.cond (t 179) (s (.ops [n (.store 1 (t 6) (c (.bool false)))])
 .ret) .skip))
 (s (.keep [25])
 (.ops [o 180 (.load none (t 25)), o 181 (.bin .add (t 180) (c (i 1))), n (.store 1 (t 25) (t 181))])))))))))
 (s (.keep [1, 6, 7, 11, 12, 13, 14, 16, 25])
 (s (.ops [o 182 (.load (some 1) (t 12)), o 183 (.call (f 31) [(t 182)]), o 28 (.lnew [(.slice none 0 0)]), o 28 (.upd 1 0 (t 28) (t 183))])
 (s (s (.draw [d 0 0 false (o 184 (.load (some 1) (t 12))), d 1 0 false (o 185 (.field (some 1) 0 (t 28))), d 2 0 true (o 186 (.call (f 39) [(t 184), (t 185)])), d 3 0 false (o 187 (.un .not (t 186))), d 4 0 false (o 188 (.mv (t 187))), d 5 0 false (g 189 false 188 (.field (some 1) 0 (t 7))), d 6 0 false (g 190 false 188 (.load (some 1) (t 12))), d 7 0 true (g 191 false 188 (.call (f 39) [(t 189), (t 190)])), d 8 0 false (o 192 (.pick (t 188) (c (.bool true)) (t 191))), d 9 0 false (o 193 (.mv (t 192))), d 10 0 false (g 194 false 193 (.load (some 1) (t 12))), d 11 0 true (g 195 false 193 (.call (f 32) [(t 194)])), d 12 0 false (g 196 false 193 (.mv (t 13))), d 13 0 false (g 197 false 193 (.bin .neq (t 195) (t 196))), d 14 0 false (o 198 (.pick (t 193) (c (.bool true)) (t 197))), d 15 0 false (o 199 (.mv (t 198))), d 16 0 false (g 200 false 199 (.load (some 1) (t 12))), d 17 0 true (g 201 false 199 (.call (f 33) [(t 200)])), d 18 1 false (g 202 false 199 (.load none (t 14))), d 19 0 false (g 203 false 199 (.bin .neq (t 201) (t 202))), d 20 0 false (o 204 (.pick (t 199) (c (.bool true)) (t 203))), d 21 0 false (o 205 (.mv (t 204))), d 22 0 false (g 206 false 205 (.load none (t 25))), d 23 0 false (g 207 false 205 (.load none (t 16))), d 24 0 false (g 208 false 205 (.len .slice (t 207))), d 25 0 false (g 209 false 205 (.bin .neq (t 206) (t 208))), d 26 0 false (o 210 (.pick (t 205) (c (.bool true)) (t 209))), d 27 0 false (o 211 (.mv (t 210))), d 28 0 false (g 212 false 211 (.load (some 1) (t 12))), d 29 0 true (g 213 false 211 (.call (f 34) [(t 212)])), d 30 0 false (o 214 (.pick (t 211) (c (.bool true)) (t 213))), d 31 0 false (o 215 (.mv (t 214))), d 32 0 false (g 216 false 215 (.load (some 1) (t 12))), d 33 0 true (g 217 false 215 (.call (f 18) [(t 216)])), d 34 0 false (g 218 false 215 (.bin .eql (t 217) (c (i 0)))), d 35 0 false (g 219 false 215 (.mv (t 11))), d 36 0 false (g 220 false 215 (.eq true .bools (t 218) (t 219))), d 37 0 false (o 221 (.pick (t 215) (c (.bool true)) (t 220)))])
 (.cond (t 221) (s (.ops [n (.store 1 (t 6) (c (.bool false)))])
 .ret) .skip))
 (s (.keep [1, 6, 12, 28])
 (s (.ops [o 222 (.lref (t 28)), o 223 (.field none 0 (t 28)), o 224 (.ixA 7 none (t 223) (c (i 0))), o 225 (.off 1 (t 224)), o 226 (.load none (t 225)), o 227 (.ixA 3 none (t 226) (c (i 0))), o 228 (.off 0 (t 227)), o 229 (.load none (t 228)), o 230 (.bin .add (t 229) (c (i 1))), o 231 (.ixA 3 none (t 226) (c (i 0))), o 232 (.off 0 (t 231)), n (.store 1 (t 232) (t 230))])
 (s (s (.ops [o 233 (.lref (t 28)), o 234 (.field none 0 (t 28)), o 235 (.ixA 7 none (t 234) (c (i 0))), o 236 (.off 2 (t 235)), o 237 (.load none (t 236)), o 238 (.len .slice (t 237)), o 239 (.bin .gtr (t 238) (c (i 0)))])
 (.cond (t 239) (.ops [o 240 (.lref (t 28)), o 241 (.field none 0 (t 28)), o 242 (.ixA 7 none (t 241) (c (i 0))), o 243 (.off 2 (t 242)), o 244 (.load none (t 243)), o 245 (.ixA 7 none (t 244) (c (i 0))), o 246 (.off 5 (t 245)), o 247 (.load none (t 246)), o 248 (.bin .add (t 247) (c (i 1))), o 249 (.ixA 7 none (t 244) (c (i 0))), o 250 (.off 5 (t 249)), n (.store 1 (t 250) (t 248))]) .skip))
 (s (.keep [1, 6, 12, 28])
 (s (.ops [o 251 (.load (some 1) (t 12)), o 252 (.field (some 1) 0 (t 28)), o 253 (.call (f 39) [(t 251), (t 252)]), o 254 (.un .not (t 253)), o 255 (.mv (t 254)), g 256 true 255 (.off 0 (t 12)), g 257 true 255 (.load none (t 256)), g 258 true 255 (.ixA 7 none (t 257) (c (i 0))), g 259 true 255 (.off 1 (t 258)), g 260 true 255 (.load none (t 259)), g 261 true 255 (.ixA 3 none (t 260) (c (i 0))), g 262 true 255 (.off 0 (t 261)), g 263 true 255 (.load none (t 262)), g 264 true 255 (.mv (t 1)), g 265 true 255 (.conv (.int .i64) (t 264)), g 266 true 255 (.bin .eql (t 263) (t 265)), o 267 (.pick (t 255) (t 266) (c (.bool false))), n (.store 1 (t 6) (t 267))])
 .ret))))))))))))))))))))))))))))))))⟩
theorem refinerylaw03_IrPrograms_is : pgF n_refinerylaw03_IrPrograms = some refinerylaw03_IrPrograms_c := by kernel_rfl
noncomputable def refinerylaw03_IrPrograms_j0 (J : JT (Value × St)) (v1 : Value) (v2 : Value) (v3 : Value) (v6 : Value) (v26 : Value) (v27 : Value) (st : St) : Res (Value × St) := goX J refinerylaw03_IrPrograms_c.body [1, 1, 1] (envT [(1, v1), (2, v2), (3, v3), (6, v6), (26, v26), (27, v27)]) st
noncomputable def refinerylaw03_IrPrograms_j1 (J : JT (Value × St)) (v1 : Value) (v2 : Value) (v3 : Value) (v6 : Value) (v26 : Value) (v27 : Value) (st : St) : Res (Value × St) := goX J refinerylaw03_IrPrograms_c.body [1, 1, 1, 1, 1] (envT [(1, v1), (2, v2), (3, v3), (6, v6), (26, v26), (27, v27)]) st
noncomputable def refinerylaw03_IrPrograms_j2 (J : JT (Value × St)) (v1 : Value) (v2 : Value) (v6 : Value) (v7 : Value) (v26 : Value) (v27 : Value) (st : St) : Res (Value × St) := goX J refinerylaw03_IrPrograms_c.body [1, 1, 1, 1, 1, 1, 1, 1] (envT [(1, v1), (2, v2), (6, v6), (7, v7), (26, v26), (27, v27)]) st
noncomputable def refinerylaw03_IrPrograms_l0 (J : JT (Value × St)) (v1 : Value) (v6 : Value) (v7 : Value) (v8 : Value) (v26 : Value) (v27 : Value) (v49 : Value) (v50 : Value) (v51 : Value) (st : St) : Res (Value × St) := lpX J refinerylaw03_IrPrograms_c.body [1, 1, 1, 1, 1, 1, 1, 1, 1, 0, 1, 0, 1] (envT [(1, v1), (6, v6), (7, v7), (8, v8), (26, v26), (27, v27), (49, v49), (50, v50), (51, v51)]) st
noncomputable def refinerylaw03_IrPrograms_j3 (J : JT (Value × St)) (v1 : Value) (v6 : Value) (v7 : Value) (v8 : Value) (v26 : Value) (v27 : Value) (v49 : Value) (v50 : Value) (v51 : Value) (st : St) : Res (Value × St) := goX J refinerylaw03_IrPrograms_c.body [1, 1, 1, 1, 1, 1, 1, 1, 1, 0, 1, 0, 1, 0, 0, 1, 1, 1] (envT [(1, v1), (6, v6), (7, v7), (8, v8), (26, v26), (27, v27), (49, v49), (50, v50), (51, v51)]) st
noncomputable def refinerylaw03_IrPrograms_j4 (J : JT (Value × St)) (v1 : Value) (v6 : Value) (v7 : Value) (v8 : Value) (v26 : Value) (v27 : Value) (st : St) : Res (Value × St) := goX J refinerylaw03_IrPrograms_c.body [1, 1, 1, 1, 1, 1, 1, 1, 1, 1, 1] (envT [(1, v1), (6, v6), (7, v7), (8, v8), (26, v26), (27, v27)]) st
noncomputable def refinerylaw03_IrPrograms_j5 (J : JT (Value × St)) (v1 : Value) (v6 : Value) (v7 : Value) (v8 : Value) (v26 : Value) (v27 : Value) (v49 : Value) (v50 : Value) (v51 : Value) (st : St) : Res (Value × St) := goX J refinerylaw03_IrPrograms_c.body [1, 1, 1, 1, 1, 1, 1, 1, 1, 0, 1, 0, 1, 0, 0, 1, 1, 1, 1, 1] (envT [(1, v1), (6, v6), (7, v7), (8, v8), (26, v26), (27, v27), (49, v49), (50, v50), (51, v51)]) st
noncomputable def refinerylaw03_IrPrograms_l1 (J : JT (Value × St)) (v1 : Value) (v6 : Value) (v7 : Value) (v8 : Value) (v11 : Value) (v12 : Value) (v13 : Value) (v14 : Value) (v15 : Value) (v16 : Value) (v26 : Value) (v27 : Value) (v96 : Value) (v97 : Value) (v98 : Value) (st : St) : Res (Value × St) := lpX J refinerylaw03_IrPrograms_c.body [1, 1, 1, 1, 1, 1, 1, 1, 1, 1, 1, 1, 1, 1, 1, 1, 1, 1, 0, 1, 0, 1] (envT [(1, v1), (6, v6), (7, v7), (8, v8), (11, v11), (12, v12), (13, v13), (14, v14), (15, v15), (16, v16), (26, v26), (27, v27), (96, v96), (97, v97), (98, v98)]) st
noncomputable def refinerylaw03_IrPrograms_j6 (J : JT (Value × St)) (v1 : Value) (v6 : Value) (v7 : Value) (v8 : Value) (v11 : Value) (v12 : Value) (v13 : Value) (v14 : Value) (v15 : Value) (v16 : Value) (v26 : Value) (v27 : Value) (v96 : Value) (v97 : Value) (v98 : Value) (st : St) : Res (Value × St) := goX J refinerylaw03_IrPrograms_c.body [1, 1, 1, 1, 1, 1, 1, 1, 1, 1, 1, 1, 1, 1, 1, 1, 1, 1, 0, 1, 0, 1, 0, 0, 1, 1, 1] (envT [(1, v1), (6, v6), (7, v7), (8, v8), (11, v11), (12, v12), (13, v13), (14, v14), (15, v15), (16, v16), (26, v26), (27, v27), (96, v96), (97, v97), (98, v98)]) st
noncomputable def refinerylaw03_IrPrograms_j7 (J : JT (Value × St)) (v1 : Value) (v6 : Value) (v7 : Value) (v8 : Value) (v11 : Value) (v12 : Value) (v13 : Value) (v14 : Value) (v15 : Value) (v16 : Value) (v26 : Value) (v27 : Value) (st : St) : Res (Value × St) := goX J refinerylaw03_IrPrograms_c.body [1, 1, 1, 1, 1, 1, 1, 1, 1, 1, 1, 1, 1, 1, 1, 1, 1, 1, 1, 1] (envT [(1, v1), (6, v6), (7, v7), (8, v8), (11, v11), (12, v12), (13, v13), (14, v14), (15, v15), (16, v16), (26, v26), (27, v27)]) st
noncomputable def refinerylaw03_IrPrograms_l2 (J : JT (Value × St)) (v1 : Value) (v6 : Value) (v7 : Value) (v8 : Value) (v11 : Value) (v12 : Value) (v13 : Value) (v14 : Value) (v15 : Value) (v16 : Value) (v18 : Value) (v26 : Value) (v27 : Value) (v96 : Value) (v97 : Value) (v98 : Value) (v113 : Value) (v114 : Value) (v115 : Value) (st : St) : Res (Value × St) := lpX J refinerylaw03_IrPrograms_c.body [1, 1, 1, 1, 1, 1, 1, 1, 1, 1, 1, 1, 1, 1, 1, 1, 1, 1, 0, 1, 0, 1, 0, 0, 1, 1, 1, 0, 0, 1, 1, 0, 1, 0, 1] (envT [(1, v1), (6, v6), (7, v7), (8, v8), (11, v11), (12, v12), (13, v13), (14, v14), (15, v15), (16, v16), (18, v18), (26, v26), (27, v27), (96, v96), (97, v97), (98, v98), (113, v113), (114, v114), (115, v115)]) st
noncomputable def refinerylaw03_IrPrograms_j8 (J : JT (Value × St)) (v1 : Value) (v6 : Value) (v7 : Value) (v11 : Value) (v12 : Value) (v13 : Value) (v14 : Value) (v16 : Value) (v25 : Value) (v26 : Value) (v27 : Value) (v160 : Value) (st : St) : Res (Value × St) := goX J refinerylaw03_IrPrograms_c.body [1, 1, 1, 1, 1, 1, 1, 1, 1, 1, 1, 1, 1, 1, 1, 1, 1, 1, 1, 1, 1, 1, 1, 0, 1, 0, 1] (envT [(1, v1), (6, v6), (7, v7), (11, v11), (12, v12), (13, v13), (14, v14), (16, v16), (25, v25), (26, v26), (27, v27), (160, v160)]) st
noncomputable def refinerylaw03_IrPrograms_j9 (J : JT (Value × St)) (v1 : Value) (v6 : Value) (v7 : Value) (v8 : Value) (v11 : Value) (v12 : Value) (v13 : Value) (v14 : Value) (v15 : Value) (v16 : Value) (v18 : Value) (v26 : Value) (v27 : Value) (v96 : Value) (v97 : Value) (v98 : Value) (v113 : Value) (v114 : Value) (v115 : Value) (st : St) : Res (Value × St) := goX J refinerylaw03_IrPrograms_c.body [1, 1, 1, 1, 1, 1, 1, 1, 1, 1, 1, 1, 1, 1, 1, 1, 1, 1, 0, 1, 0, 1, 0, 0, 1, 1, 1, 0, 0, 1, 1, 0, 1, 0, 1, 0, 0, 1, 1, 1] (envT [(1, v1), (6, v6), (7, v7), (8, v8), (11, v11), (12, v12), (13, v13), (14, v14), (15, v15), (16, v16), (18, v18), (26, v26), (27, v27), (96, v96), (97, v97), (98, v98), (113, v113), (114, v114), (115, v115)]) st
noncomputable def refinerylaw03_IrPrograms_j10 (J : JT (Value × St)) (v1 : Value) (v6 : Value) (v7 : Value) (v8 : Value) (v11 : Value) (v12 : Value) (v13 : Value) (v14 : Value) (v15 : Value) (v16 : Value) (v18 : Value) (v26 : Value) (v27 : Value) (v96 : Value) (v97 : Value) (v98 : Value) (st : St) : Res (Value × St) := goX J refinerylaw03_IrPrograms_c.body [1, 1, 1, 1, 1, 1, 1, 1, 1, 1, 1, 1, 1, 1, 1, 1, 1, 1, 0, 1, 0, 1, 0, 0, 1, 1, 1, 0, 0, 1, 1, 1, 1] (envT [(1, v1), (6, v6), (7, v7), (8, v8), (11, v11), (12, v12), (13, v13), (14, v14), (15, v15), (16, v16), (18, v18), (26, v26), (27, v27), (96, v96), (97, v97), (98, v98)]) st
noncomputable def refinerylaw03_IrPrograms_x0 (K : Ctx) (J : JT (Value × St)) (x : AExit) (v1 : Value) (v6 : Value) (v7 : Value) (v11 : Value) (v12 : Value) (v13 : Value) (v14 : Value) (v16 : Value) (v25 : Value) (v26 : Value) (v27 : Value) (v160 : Value) (st : St) : Res (Value × St) := kJ K J (retK refinerylaw03_IrPrograms_c.results) (posK refinerylaw03_IrPrograms_c.body [1, 1, 1, 1, 1, 1, 1, 1, 1, 1, 1, 1, 1, 1, 1, 1, 1, 1, 1, 1, 1, 1, 1, 0, 1, 0, 1] []) x (envT [(1, v1), (6, v6), (7, v7), (11, v11), (12, v12), (13, v13), (14, v14), (16, v16), (25, v25), (26, v26), (27, v27), (160, v160)]) st
noncomputable def refinerylaw03_IrPrograms_j11 (J : JT (Value × St)) (v1 : Value) (v6 : Value) (v7 : Value) (v8 : Value) (v11 : Value) (v12 : Value) (v13 : Value) (v14 : Value) (v15 : Value) (v16 : Value) (v18 : Value) (v26 : Value) (v27 : Value) (v96 : Value) (v97 : Value) (v98 : Value) (v113 : Value) (v114 : Value) (v115 : Value) (st : St) : Res (Value × St) := goX J refinerylaw03_IrPrograms_c.body [1, 1, 1, 1, 1, 1, 1, 1, 1, 1, 1, 1, 1, 1, 1, 1, 1, 1, 0, 1, 0, 1, 0, 0, 1, 1, 1, 0, 0, 1, 1, 0, 1, 0, 1, 0, 0, 1, 1, 1, 1, 1] (envT [(1, v1), (6, v6), (7, v7), (8, v8), (11, v11), (12, v12), (13, v13), (14, v14), (15, v15), (16, v16), (18, v18), (26, v26), (27, v27), (96, v96), (97, v97), (98, v98), (113, v113), (114, v114), (115, v115)]) st
noncomputable def refinerylaw03_IrPrograms_j12 (J : JT (Value × St)) (v1 : Value) (v6 : Value) (v7 : Value) (v8 : Value) (v11 : Value) (v12 : Value) (v13 : Value) (v14 : Value) (v15 : Value) (v16 : Value) (v26 : Value) (v27 : Value) (v96 : Value) (v97 : Value) (v98 : Value) (st : St) : Res (Value × St) := goX J refinerylaw03_IrPrograms_c.body [1, 1, 1, 1, 1, 1, 1, 1, 1, 1, 1, 1, 1, 1, 1, 1, 1, 1, 0, 1, 0, 1, 0, 0, 1, 1, 1, 1, 1] (envT [(1, v1), (6, v6), (7, v7), (8, v8), (11, v11), (12, v12), (13, v13), (14, v14), (15, v15), (16, v16), (26, v26), (27, v27), (96, v96), (97, v97), (98, v98)]) st
noncomputable def refinerylaw03_IrPrograms_j13 (J : JT (Value × St)) (v1 : Value) (v6 : Value) (v7 : Value) (v11 : Value) (v12 : Value) (v13 : Value) (v14 : Value) (v16 : Value) (v25 : Value) (st : St) : Res (Value × St) := goX J refinerylaw03_IrPrograms_c.body [1, 1, 1, 1, 1, 1, 1, 1, 1, 1, 1, 1, 1, 1, 1, 1, 1, 1, 1, 1, 1, 1, 1, 1, 1] (envT [(1, v1), (6, v6), (7, v7), (11, v11), (12, v12), (13, v13), (14, v14), (16, v16), (25, v25)]) st
noncomputable def refinerylaw03_IrPrograms_j14 (J : JT (Value × St)) (v1 : Value) (v6 : Value) (v12 : Value) (v28 : Value) (st : St) : Res (Value × St) := goX J refinerylaw03_IrPrograms_c.body [1, 1, 1, 1, 1, 1, 1, 1, 1, 1, 1, 1, 1, 1, 1, 1, 1, 1, 1, 1, 1, 1, 1, 1, 1, 1, 1, 1] (envT [(1, v1), (6, v6), (12, v12), (28, v28)]) st
noncomputable def refinerylaw03_IrPrograms_j15 (J : JT (Value × St)) (v1 : Value) (v6 : Value) (v12 : Value) (v28 : Value) (st : St) : Res (Value × St) := goX J refinerylaw03_IrPrograms_c.body [1, 1, 1, 1, 1, 1, 1, 1, 1, 1, 1, 1, 1, 1, 1, 1, 1, 1, 1, 1, 1, 1, 1, 1, 1, 1, 1, 1, 1, 1, 1] (envT [(1, v1), (6, v6), (12, v12), (28, v28)]) st
noncomputable def refinerylaw03_IrPrograms_jr1111111111111111111111101011_0 (J : JT (AExit × St)) (v6 : Value) (v12 : Value) (v16 : Value) (v25 : Value) (v26 : Value) (v27 : Value) (st : St) : Res (AExit × St) := goX J (posC refinerylaw03_IrPrograms_c.body [1, 1, 1, 1, 1, 1, 1, 1, 1, 1, 1, 1, 1, 1, 1, 1, 1, 1, 1, 1, 1, 1, 1, 0, 1, 0, 1, 1]) [1] (envT [(6, v6), (12, v12), (16, v16), (25, v25), (26, v26), (27, v27)]) st
noncomputable def refinerylaw03_IrPrograms_jr1111111111111111111111101011_1 (J : JT (AExit × St)) (v25 : Value) (st : St) : Res (AExit × St) := goX J (posC refinerylaw03_IrPrograms_c.body [1, 1, 1, 1, 1, 1, 1, 1, 1, 1, 1, 1, 1, 1, 1, 1, 1, 1, 1, 1, 1, 1, 1, 0, 1, 0, 1, 1]) [1, 0, 1, 1] (envT [(25, v25)]) st
theorem refinerylaw03_IrPrograms_eq (K : Ctx) (J : JT (Value × St)) (a0 a1 a2 : Value) (st : St) : atX K J refinerylaw03_IrPrograms_c (AM.start [a0, a1, a2]) st =
  (.thn st (sLbox a0 st) fun p1 =>
  .thn p1.2 (sNew [(.bool false)] p1.2) fun p2 =>
  .thn p2.2 (K.go (.call n_refinerylaw03_Awake []) p2.2) fun p3 =>
  .thn p3.2 (sUn .not p3.1 p3.2) fun p4 =>
  condX p4.1
  (.thn p4.2 (sStore 1 p2.1 (.bool false) p4.2) fun p5 =>
  (sLoad none p2.1 p5.2 >>= fun p6 => .ok [p6.1]) >>= fun vs => .ok (oneOf vs, p5.2))
  (refinerylaw03_IrPrograms_j0 J a1 a2 p1.1 p2.1 nothing nothing p4.2)) := by kernel_rfl
theorem refinerylaw03_IrPrograms_of {K : Ctx} (hF : Fix pgF K) {a0 a1 a2 : Value} {st : St} {Q : Value × St → Prop} (h : ∀ J, IsJ K (retK refinerylaw03_IrPrograms_c.results) J → Ok (atX K J refinerylaw03_IrPrograms_c (AM.start [a0, a1, a2]) st) Q) : Ok (K.go (.call n_refinerylaw03_IrPrograms [a0, a1, a2]) st) Q := call_of hF refinerylaw03_IrPrograms_is rfl h
theorem refinerylaw03_IrPrograms_j0_eq {K : Ctx} {J : JT (Value × St)} (hJ : IsJ K (retK refinerylaw03_IrPrograms_c.results) J) (v1 : Value) (v2 : Value) (v3 : Value) (v6 : Value) (v26 : Value) (v27 : Value) (st : St) : refinerylaw03_IrPrograms_j0 J v1 v2 v3 v6 v26 v27 st =
  (.thn st (sField (some 3) 0 v3 st) fun p1 =>
  .thn p1.2 (K.go (.call n_refinerylaw03_Small_Light [p1.1]) p1.2) fun p2 =>
  .thn p2.2 (sUn .not p2.1 p2.2) fun p3 =>
  .thn p3.2 (sG p3.1 false (.ok (v2, p3.2)) p3.2) fun p4 =>
  .thn p4.2 (sG p3.1 false (sLen .slice p4.1 p4.2) p4.2) fun p5 =>
  .thn p5.2 (sG p3.1 false (sBin .gtr p5.1 (.int .i64 10) p5.2) p5.2) fun p6 =>
  .thn p6.2 (sPick p3.1 (.bool true) p6.1 p6.2) fun p7 =>
  condX p7.1
  (.thn p7.2 (sStore 1 v6 (.bool true) p7.2) fun p8 =>
  (sLoad none v6 p8.2 >>= fun p9 => .ok [p9.1]) >>= fun vs => .ok (oneOf vs, p8.2))
  (refinerylaw03_IrPrograms_j1 J v1 v2 v3 v6 v26 v27 p7.2)) := (go_eq hJ _ _ _ _).trans (by kernel_rfl)
theorem refinerylaw03_IrPrograms_j1_eq {K : Ctx} {J : JT (Value × St)} (hJ : IsJ K (retK refinerylaw03_IrPrograms_c.results) J) (v1 : Value) (v2 : Value) (v3 : Value) (v6 : Value) (v26 : Value) (v27 : Value) (st : St) : refinerylaw03_IrPrograms_j1 J v1 v2 v3 v6 v26 v27 st =
  (.thn st (sField (some 3) 0 v3 st) fun p1 =>
  .thn p1.2 (K.go (.call n_refinerylaw03_Small_Program [p1.1]) p1.2) fun p2 =>
  .thn p2.2 (sLnew [(.slice none 0 0)] p2.2) fun p3 =>
  .thn p3.2 (sUpd 1 0 p3.1 p2.1 p3.2) fun p4 =>
  .thn p4.2 (sField (some 1) 0 p4.1 p4.2) fun p5 =>
  .thn p5.2 (K.go (.call n_ir_Program_Check [p5.1]) p5.2) fun p6 =>
  .thn p6.2 (sBin .neq p6.1 (.int .i64 0) p6.2) fun p7 =>
  .thn p7.2 (sG p7.1 false (sField (some 1) 0 p4.1 p7.2) p7.2) fun p8 =>
  .thn p8.2 (sG p7.1 false (K.go (.call n_ir_Program_Plain [p8.1]) p8.2) p8.2) fun p9 =>
  .thn p9.2 (sG p7.1 false (sUn .not p9.1 p9.2) p9.2) fun p10 =>
  .thn p10.2 (sPick p7.1 (.bool true) p10.1 p10.2) fun p11 =>
  condX p11.1
  (.thn p11.2 (sStore 1 v6 (.bool false) p11.2) fun p12 =>
  (sLoad none v6 p12.2 >>= fun p13 => .ok [p13.1]) >>= fun vs => .ok (oneOf vs, p12.2))
  (refinerylaw03_IrPrograms_j2 J v1 v2 v6 p4.1 v26 v27 p11.2)) := (go_eq hJ _ _ _ _).trans (by kernel_rfl)
theorem refinerylaw03_IrPrograms_j2_eq {K : Ctx} {J : JT (Value × St)} (hJ : IsJ K (retK refinerylaw03_IrPrograms_c.results) J) (v1 : Value) (v2 : Value) (v6 : Value) (v7 : Value) (v26 : Value) (v27 : Value) (st : St) : refinerylaw03_IrPrograms_j2 J v1 v2 v6 v7 v26 v27 st =
  (.thn st (sLnew [(.int .i64 0), (.slice none 0 0), (.slice none 0 0)] st) fun p1 =>
  .thn p1.2 (sLen .slice v2 p1.2) fun p2 =>
  refinerylaw03_IrPrograms_l0 J v1 v6 v7 p1.1 v26 v27 v2 p2.1 (.int .i64 0) p2.2) := (go_eq hJ _ _ _ _).trans (by kernel_rfl)
theorem refinerylaw03_IrPrograms_l0_eq (K : Ctx) (J : JT (Value × St)) (v1 : Value) (v6 : Value) (v7 : Value) (v8 : Value) (v26 : Value) (v27 : Value) (v49 : Value) (v50 : Value) (v51 : Value) (st : St) : inX K J (retK refinerylaw03_IrPrograms_c.results) refinerylaw03_IrPrograms_c.body [1, 1, 1, 1, 1, 1, 1, 1, 1, 0, 1, 0, 1] (envT [(1, v1), (6, v6), (7, v7), (8, v8), (26, v26), (27, v27), (49, v49), (50, v50), (51, v51)]) st =
  (.thn st (sBin .lss v51 v50 st) fun p1 =>
  condX p1.1
  (refinerylaw03_IrPrograms_j3 J v1 v6 v7 v8 v26 v27 v49 v50 v51 p1.2)
  (refinerylaw03_IrPrograms_j4 J v1 v6 v7 v8 v26 v27 p1.2)) := by kernel_rfl
theorem refinerylaw03_IrPrograms_l0_of {K : Ctx} (hF : Fix pgF K) {J : JT (Value × St)} (hJ : IsJ K (retK refinerylaw03_IrPrograms_c.results) J) {v1 : Value} {v6 : Value} {v7 : Value} {v8 : Value} {v26 : Value} {v27 : Value} {v49 : Value} {v50 : Value} {v51 : Value} {st : St} {Q : Value × St → Prop} (h : Ok (inX K J (retK refinerylaw03_IrPrograms_c.results) refinerylaw03_IrPrograms_c.body [1, 1, 1, 1, 1, 1, 1, 1, 1, 0, 1, 0, 1] (envT [(1, v1), (6, v6), (7, v7), (8, v8), (26, v26), (27, v27), (49, v49), (50, v50), (51, v51)]) st) Q) : Ok (refinerylaw03_IrPrograms_l0 J v1 v6 v7 v8 v26 v27 v49 v50 v51 st) Q := loop_of hF hJ h
theorem refinerylaw03_IrPrograms_j3_eq {K : Ctx} {J : JT (Value × St)} (hJ : IsJ K (retK refinerylaw03_IrPrograms_c.results) J) (v1 : Value) (v6 : Value) (v7 : Value) (v8 : Value) (v26 : Value) (v27 : Value) (v49 : Value) (v50 : Value) (v51 : Value) (st : St) : refinerylaw03_IrPrograms_j3 J v1 v6 v7 v8 v26 v27 v49 v50 v51 st =
  (.thn st (sIxA 1 none v49 v51 st) fun p1 =>
  .thn p1.2 (sLoad none p1.1 p1.2) fun p2 =>
  .thn p2.2 (sLref v7 p2.2) fun p3 =>
  .thn p3.2 (sField none 0 v7 p3.2) fun p4 =>
  .thn p4.2 (sLen .slice p4.1 p4.2) fun p5 =>
  .thn p5.2 (sBin .lss v51 p5.1 p5.2) fun p6 =>
  condX p6.1
  (.thn p6.2 (sLref v8 p6.2) fun p7 =>
  .thn p7.2 (sField none 1 v8 p7.2) fun p8 =>
  .thn p8.2 (sLref v7 p8.2) fun p9 =>
  .thn p9.2 (sField none 0 v7 p9.2) fun p10 =>
  .thn p10.2 (sIxA 7 none p10.1 v51 p10.2) fun p11 =>
  .thn p11.2 (sOff 0 p11.1 p11.2) fun p12 =>
  .thn p12.2 (sLoad none p12.1 p12.2) fun p13 =>
  .thn p13.2 (sLit 1 1 [(.int .i64 0)] [(0, 1, p13.1)] p13.2) fun p14 =>
  .thn p14.2 (sAppend 1 8 p8.1 p14.1 p14.2) fun p15 =>
  .thn p15.2 (sLref v8 p15.2) fun p16 =>
  .thn p16.2 (sField none 2 v8 p16.2) fun p17 =>
  Res.need (sStays (List.take 1 (p14.2 :: [])) p15.2.next nothing (fun s => sField none 2 v8 s) p17.1) "order" >>= fun _ =>
  .thn p17.2 (sConv (.int .i64) p2.1 p17.2) fun p18 =>
  .thn p18.2 (sLit 1 1 [(.int .i64 0)] [(0, 1, p18.1)] p18.2) fun p19 =>
  .thn p19.2 (sAppend 1 8 p17.1 p19.1 p19.2) fun p20 =>
  .thn p20.2 (sLref v8 p20.2) fun p21 =>
  .thn p21.2 (sUpd 1 1 v8 p15.1 p21.2) fun p22 =>
  .thn p22.2 (sLref p22.1 p22.2) fun p23 =>
  .thn p23.2 (sUpd 1 2 p22.1 p20.1 p23.2) fun p24 =>
  refinerylaw03_IrPrograms_j5 J v1 v6 v7 p24.1 v26 v27 v49 v50 v51 p24.2)
  (refinerylaw03_IrPrograms_j5 J v1 v6 v7 v8 v26 v27 v49 v50 v51 p6.2)) := (go_eq hJ _ _ _ _).trans (by kernel_rfl)
theorem refinerylaw03_IrPrograms_j4_eq {K : Ctx} {J : JT (Value × St)} (hJ : IsJ K (retK refinerylaw03_IrPrograms_c.results) J) (v1 : Value) (v6 : Value) (v7 : Value) (v8 : Value) (v26 : Value) (v27 : Value) (st : St) : refinerylaw03_IrPrograms_j4 J v1 v6 v7 v8 v26 v27 st =
  (.thn st (sConv (.int .i64) v1 st) fun p1 =>
  .thn p1.2 (sLref v8 p1.2) fun p2 =>
  .thn p2.2 (sUpd 1 0 v8 p1.1 p2.2) fun p3 =>
  .thn p3.2 (sLref p3.1 p3.2) fun p4 =>
  .thn p4.2 (sField none 1 p3.1 p4.2) fun p5 =>
  .thn p5.2 (K.go (.call n_slices_IsSorted_int [p5.1]) p5.2) fun p6 =>
  .thn p6.2 (sField (some 1) 0 v7 p6.2) fun p7 =>
  .thn p7.2 (K.go (.call n_ir_Program_Clone [p7.1]) p7.2) fun p8 =>
  .thn p8.2 (sNew [(.slice none 0 0)] p8.2) fun p9 =>
  .thn p9.2 (sStore 1 p9.1 p8.1 p9.2) fun p10 =>
  .thn p10.2 (sOff 0 p9.1 p10.2) fun p11 =>
  .thn p11.2 (sLoad none p11.1 p11.2) fun p12 =>
  .thn p12.2 (sField (some 3) 0 p3.1 p12.2) fun p13 =>
  .thn p13.2 (sLit 3 1 [(.int .i64 0), (.slice none 0 0), (.slice none 0 0)] [(0, 3, p13.1)] p13.2) fun p14 =>
  .thn p14.2 (sIxA 7 none p12.1 (.int .i64 0) p14.2) fun p15 =>
  .thn p15.2 (sOff 1 p15.1 p15.2) fun p16 =>
  .thn p16.2 (sStore 1 p16.1 p14.1 p16.2) fun p17 =>
  .thn p17.2 (sNew [(.int .i64 0)] p17.2) fun p18 =>
  .thn p18.2 (sStore 1 p18.1 (.int .i64 0) p18.2) fun p19 =>
  .thn p19.2 (sNew [(.slice none 0 0)] p19.2) fun p20 =>
  .thn p20.2 (sOff 0 p9.1 p20.2) fun p21 =>
  .thn p21.2 (sLoad none p21.1 p21.2) fun p22 =>
  .thn p22.2 (sLen .slice p22.1 p22.2) fun p23 =>
  refinerylaw03_IrPrograms_l1 J v1 v6 v7 p3.1 p6.1 p9.1 (.int .i64 0) p18.1 (.func (.func n_refinerylaw03_IrPrograms_1) #[] #[p18.1]) p20.1 v26 v27 p22.1 p23.1 (.int .i64 0) p23.2) := (go_eq hJ _ _ _ _).trans (by kernel_rfl)
theorem refinerylaw03_IrPrograms_j5_eq {K : Ctx} {J : JT (Value × St)} (hJ : IsJ K (retK refinerylaw03_IrPrograms_c.results) J) (v1 : Value) (v6 : Value) (v7 : Value) (v8 : Value) (v26 : Value) (v27 : Value) (v49 : Value) (v50 : Value) (v51 : Value) (st : St) : refinerylaw03_IrPrograms_j5 J v1 v6 v7 v8 v26 v27 v49 v50 v51 st =
  (.thn st (sBin .add v51 (.int .i64 1) st) fun p1 =>
  refinerylaw03_IrPrograms_l0 J v1 v6 v7 v8 v26 v27 v49 v50 p1.1 p1.2) := (go_eq hJ _ _ _ _).trans (by kernel_rfl)
theorem refinerylaw03_IrPrograms_l1_eq (K : Ctx) (J : JT (Value × St)) (v1 : Value) (v6 : Value) (v7 : Value) (v8 : Value) (v11 : Value) (v12 : Value) (v13 : Value) (v14 : Value) (v15 : Value) (v16 : Value) (v26 : Value) (v27 : Value) (v96 : Value) (v97 : Value) (v98 : Value) (st : St) : inX K J (retK refinerylaw03_IrPrograms_c.results) refinerylaw03_IrPrograms_c.body [1, 1, 1, 1, 1, 1, 1, 1, 1, 1, 1, 1, 1, 1, 1, 1, 1, 1, 0, 1, 0, 1] (envT [(1, v1), (6, v6), (7, v7), (8, v8), (11, v11), (12, v12), (13, v13), (14, v14), (15, v15), (16, v16), (26, v26), (27, v27), (96, v96), (97, v97), (98, v98)]) st =
  (.thn st (sBin .lss v98 v97 st) fun p1 =>
  condX p1.1
  (refinerylaw03_IrPrograms_j6 J v1 v6 v7 v8 v11 v12 v13 v14 v15 v16 v26 v27 v96 v97 v98 p1.2)
  (refinerylaw03_IrPrograms_j7 J v1 v6 v7 v8 v11 v12 v13 v14 v15 v16 v26 v27 p1.2)) := by kernel_rfl
theorem refinerylaw03_IrPrograms_l1_of {K : Ctx} (hF : Fix pgF K) {J : JT (Value × St)} (hJ : IsJ K (retK refinerylaw03_IrPrograms_c.results) J) {v1 : Value} {v6 : Value} {v7 : Value} {v8 : Value} {v11 : Value} {v12 : Value} {v13 : Value} {v14 : Value} {v15 : Value} {v16 : Value} {v26 : Value} {v27 : Value} {v96 : Value} {v97 : Value} {v98 : Value} {st : St} {Q : Value × St → Prop} (h : Ok (inX K J (retK refinerylaw03_IrPrograms_c.results) refinerylaw03_IrPrograms_c.body [1, 1, 1, 1, 1, 1, 1, 1, 1, 1, 1, 1, 1, 1, 1, 1, 1, 1, 0, 1, 0, 1] (envT [(1, v1), (6, v6), (7, v7), (8, v8), (11, v11), (12, v12), (13, v13), (14, v14), (15, v15), (16, v16), (26, v26), (27, v27), (96, v96), (97, v97), (98, v98)]) st) Q) : Ok (refinerylaw03_IrPrograms_l1 J v1 v6 v7 v8 v11 v12 v13 v14 v15 v16 v26 v27 v96 v97 v98 st) Q := loop_of hF hJ h
theorem refinerylaw03_IrPrograms_j6_eq {K : Ctx} {J : JT (Value × St)} (hJ : IsJ K (retK refinerylaw03_IrPrograms_c.results) J) (v1 : Value) (v6 : Value) (v7 : Value) (v8 : Value) (v11 : Value) (v12 : Value) (v13 : Value) (v14 : Value) (v15 : Value) (v16 : Value) (v26 : Value) (v27 : Value) (v96 : Value) (v97 : Value) (v98 : Value) (st : St) : refinerylaw03_IrPrograms_j6 J v1 v6 v7 v8 v11 v12 v13 v14 v15 v16 v26 v27 v96 v97 v98 st =
  (.thn st (sIxA 7 none v96 v98 st) fun p1 =>
  .thn p1.2 (sLoad (some 7) p1.1 p1.2) fun p2 =>
  .thn p2.2 (sLnew [(.int .i64 0), (.slice none 0 0), (.slice none 0 0), (.int .u8 0), (.int .i64 0), (.int .i64 0), (.int .i64 0)] p2.2) fun p3 =>
  .thn p3.2 (sUpd 7 0 p3.1 p2.1 p3.2) fun p4 =>
  .thn p4.2 (sLref p4.1 p4.2) fun p5 =>
  .thn p5.2 (sField none 1 p4.1 p5.2) fun p6 =>
  .thn p6.2 (sLen .slice p6.1 p6.2) fun p7 =>
  .thn p7.2 (sBin .add (.int .i64 1) p7.1 p7.2) fun p8 =>
  .thn p8.2 (sLref p4.1 p8.2) fun p9 =>
  .thn p9.2 (sField none 2 p4.1 p9.2) fun p10 =>
  .thn p10.2 (sLen .slice p10.1 p10.2) fun p11 =>
  .thn p11.2 (sBin .add p8.1 p11.1 p11.2) fun p12 =>
  .thn p12.2 (sBin .add v13 p12.1 p12.2) fun p13 =>
  .thn p13.2 (sLref p4.1 p13.2) fun p14 =>
  .thn p14.2 (sField none 2 p4.1 p14.2) fun p15 =>
  .thn p15.2 (sLen .slice p15.1 p15.2) fun p16 =>
  refinerylaw03_IrPrograms_l2 J v1 v6 v7 v8 v11 v12 p13.1 v14 v15 v16 p4.1 v26 v27 v96 v97 v98 p15.1 p16.1 (.int .i64 0) p16.2) := (go_eq hJ _ _ _ _).trans (by kernel_rfl)
theorem refinerylaw03_IrPrograms_j7_eq {K : Ctx} {J : JT (Value × St)} (hJ : IsJ K (retK refinerylaw03_IrPrograms_c.results) J) (v1 : Value) (v6 : Value) (v7 : Value) (v8 : Value) (v11 : Value) (v12 : Value) (v13 : Value) (v14 : Value) (v15 : Value) (v16 : Value) (v26 : Value) (v27 : Value) (st : St) : refinerylaw03_IrPrograms_j7 J v1 v6 v7 v8 v11 v12 v13 v14 v15 v16 v26 v27 st =
  (.thn st (sLref v8 st) fun p1 =>
  .thn p1.2 (sField none 0 v8 p1.2) fun p2 =>
  .thn p2.2 (sLit 1 1 [(.int .i64 0)] [(0, 1, p2.1)] p2.2) fun p3 =>
  .thn p3.2 (sCall K v15 [p3.1] p3.2) fun p4 =>
  .thn p4.2 (sLref v8 p4.2) fun p5 =>
  .thn p5.2 (sField none 2 v8 p5.2) fun p6 =>
  .thn p6.2 (sCall K v15 [p6.1] p6.2) fun p7 =>
  .thn p7.2 (sNew [(.int .i64 0)] p7.2) fun p8 =>
  .thn p8.2 (sStore 1 p8.1 (.int .i64 0) p8.2) fun p9 =>
  .thn p9.2 (sLoad (some 1) v12 p9.2) fun p10 =>
  .thn p10.2 (K.go (.call n_ir_Program_Instrs [p10.1]) p10.2) fun p11 =>
  refinerylaw03_IrPrograms_j8 J v1 v6 v7 v11 v12 v13 v14 v16 p8.1 v26 v27 p11.1 p11.2) := (go_eq hJ _ _ _ _).trans (by kernel_rfl)
theorem refinerylaw03_IrPrograms_l2_eq (K : Ctx) (J : JT (Value × St)) (v1 : Value) (v6 : Value) (v7 : Value) (v8 : Value) (v11 : Value) (v12 : Value) (v13 : Value) (v14 : Value) (v15 : Value) (v16 : Value) (v18 : Value) (v26 : Value) (v27 : Value) (v96 : Value) (v97 : Value) (v98 : Value) (v113 : Value) (v114 : Value) (v115 : Value) (st : St) : inX K J (retK refinerylaw03_IrPrograms_c.results) refinerylaw03_IrPrograms_c.body [1, 1, 1, 1, 1, 1, 1, 1, 1, 1, 1, 1, 1, 1, 1, 1, 1, 1, 0, 1, 0, 1, 0, 0, 1, 1, 1, 0, 0, 1, 1, 0, 1, 0, 1] (envT [(1, v1), (6, v6), (7, v7), (8, v8), (11, v11), (12, v12), (13, v13), (14, v14), (15, v15), (16, v16), (18, v18), (26, v26), (27, v27), (96, v96), (97, v97), (98, v98), (113, v113), (114, v114), (115, v115)]) st =
  (.thn st (sBin .lss v115 v114 st) fun p1 =>
  condX p1.1
  (refinerylaw03_IrPrograms_j9 J v1 v6 v7 v8 v11 v12 v13 v14 v15 v16 v18 v26 v27 v96 v97 v98 v113 v114 v115 p1.2)
  (refinerylaw03_IrPrograms_j10 J v1 v6 v7 v8 v11 v12 v13 v14 v15 v16 v18 v26 v27 v96 v97 v98 p1.2)) := by kernel_rfl
theorem refinerylaw03_IrPrograms_l2_of {K : Ctx} (hF : Fix pgF K) {J : JT (Value × St)} (hJ : IsJ K (retK refinerylaw03_IrPrograms_c.results) J) {v1 : Value} {v6 : Value} {v7 : Value} {v8 : Value} {v11 : Value} {v12 : Value} {v13 : Value} {v14 : Value} {v15 : Value} {v16 : Value} {v18 : Value} {v26 : Value} {v27 : Value} {v96 : Value} {v97 : Value} {v98 : Value} {v113 : Value} {v114 : Value} {v115 : Value} {st : St} {Q : Value × St → Prop} (h : Ok (inX K J (retK refinerylaw03_IrPrograms_c.results) refinerylaw03_IrPrograms_c.body [1, 1, 1, 1, 1, 1, 1, 1, 1, 1, 1, 1, 1, 1, 1, 1, 1, 1, 0, 1, 0, 1, 0, 0, 1, 1, 1, 0, 0, 1, 1, 0, 1, 0, 1] (envT [(1, v1), (6, v6), (7, v7), (8, v8), (11, v11), (12, v12), (13, v13), (14, v14), (15, v15), (16, v16), (18, v18), (26, v26), (27, v27), (96, v96), (97, v97), (98, v98), (113, v113), (114, v114), (115, v115)]) st) Q) : Ok (refinerylaw03_IrPrograms_l2 J v1 v6 v7 v8 v11 v12 v13 v14 v15 v16 v18 v26 v27 v96 v97 v98 v113 v114 v115 st) Q := loop_of hF hJ h
theorem refinerylaw03_IrPrograms_j8_eq {K : Ctx} {J : JT (Value × St)} (hJ : IsJ K (retK refinerylaw03_IrPrograms_c.results) J) (v1 : Value) (v6 : Value) (v7 : Value) (v11 : Value) (v12 : Value) (v13 : Value) (v14 : Value) (v16 : Value) (v25 : Value) (v26 : Value) (v27 : Value) (v160 : Value) (st : St) : refinerylaw03_IrPrograms_j8 J v1 v6 v7 v11 v12 v13 v14 v16 v25 v26 v27 v160 st =
  (sRange K v160 st (.loop (envT [(1, v1), (6, v6), (7, v7), (11, v11), (12, v12), (13, v13), (14, v14), (16, v16), (25, v25), (26, v26), (27, v27), (160, v160)]) [161, 162] (posC refinerylaw03_IrPrograms_c.body [1, 1, 1, 1, 1, 1, 1, 1, 1, 1, 1, 1, 1, 1, 1, 1, 1, 1, 1, 1, 1, 1, 1, 0, 1, 0, 1, 0]) (posC refinerylaw03_IrPrograms_c.body [1, 1, 1, 1, 1, 1, 1, 1, 1, 1, 1, 1, 1, 1, 1, 1, 1, 1, 1, 1, 1, 1, 1, 0, 1, 0, 1, 1]) .ready .normal) (fun x s => refinerylaw03_IrPrograms_x0 K J x v1 v6 v7 v11 v12 v13 v14 v16 v25 v26 v27 v160 s)) := (go_eq hJ _ _ _ _).trans (by kernel_rfl)
theorem refinerylaw03_IrPrograms_j9_eq {K : Ctx} {J : JT (Value × St)} (hJ : IsJ K (retK refinerylaw03_IrPrograms_c.results) J) (v1 : Value) (v6 : Value) (v7 : Value) (v8 : Value) (v11 : Value) (v12 : Value) (v13 : Value) (v14 : Value) (v15 : Value) (v16 : Value) (v18 : Value) (v26 : Value) (v27 : Value) (v96 : Value) (v97 : Value) (v98 : Value) (v113 : Value) (v114 : Value) (v115 : Value) (st : St) : refinerylaw03_IrPrograms_j9 J v1 v6 v7 v8 v11 v12 v13 v14 v15 v16 v18 v26 v27 v96 v97 v98 v113 v114 v115 st =
  (.thn st (sIxA 7 none v113 v115 st) fun p1 =>
  .thn p1.2 (sLoad (some 7) p1.1 p1.2) fun p2 =>
  .thn p2.2 (sLnew [(.int .u8 0), (.int .u8 0), (.int .i64 0), (.int .i64 0), (.int .i64 0), (.int .i64 0), (.int .i64 0)] p2.2) fun p3 =>
  .thn p3.2 (sUpd 7 0 p3.1 p2.1 p3.2) fun p4 =>
  .thn p4.2 (sLoad none v16 p4.2) fun p5 =>
  .thn p5.2 (sField (some 7) 0 p4.1 p5.2) fun p6 =>
  .thn p6.2 (sLit 7 1 [(.int .u8 0), (.int .u8 0), (.int .i64 0), (.int .i64 0), (.int .i64 0), (.int .i64 0), (.int .i64 0)] [(0, 7, p6.1)] p6.2) fun p7 =>
  .thn p7.2 (sAppend 7 48 p5.1 p7.1 p7.2) fun p8 =>
  .thn p8.2 (sStore 1 v16 p8.1 p8.2) fun p9 =>
  .thn p9.2 (sField (some 7) 0 p4.1 p9.2) fun p10 =>
  .thn p10.2 (K.go (.call n_ir_Instr_Reads [p10.1]) p10.2) fun p11 =>
  .thn p11.2 (sCall K v15 [p11.1] p11.2) fun p12 =>
  .thn p12.2 (sField (some 7) 0 p4.1 p12.2) fun p13 =>
  .thn p13.2 (K.go (.call n_ir_Instr_Sets [p13.1]) p13.2) fun p14 =>
  .thn p14.2 (sExtract p14.1 0 p14.2) fun p15 =>
  .thn p15.2 (sExtract p14.1 1 p15.2) fun p16 =>
  condX p16.1
  (.thn p16.2 (sLit 1 1 [(.int .i64 0)] [(0, 1, p15.1)] p16.2) fun p17 =>
  .thn p17.2 (sCall K v15 [p17.1] p17.2) fun p18 =>
  refinerylaw03_IrPrograms_j11 J v1 v6 v7 v8 v11 v12 v13 v14 v15 v16 v18 v26 v27 v96 v97 v98 v113 v114 v115 p18.2)
  (refinerylaw03_IrPrograms_j11 J v1 v6 v7 v8 v11 v12 v13 v14 v15 v16 v18 v26 v27 v96 v97 v98 v113 v114 v115 p16.2)) := (go_eq hJ _ _ _ _).trans (by kernel_rfl)
theorem refinerylaw03_IrPrograms_j10_eq {K : Ctx} {J : JT (Value × St)} (hJ : IsJ K (retK refinerylaw03_IrPrograms_c.results) J) (v1 : Value) (v6 : Value) (v7 : Value) (v8 : Value) (v11 : Value) (v12 : Value) (v13 : Value) (v14 : Value) (v15 : Value) (v16 : Value) (v18 : Value) (v26 : Value) (v27 : Value) (v96 : Value) (v97 : Value) (v98 : Value) (st : St) : refinerylaw03_IrPrograms_j10 J v1 v6 v7 v8 v11 v12 v13 v14 v15 v16 v18 v26 v27 v96 v97 v98 st =
  (.thn st (sLref v18 st) fun p1 =>
  .thn p1.2 (sField (some 4) 3 v18 p1.2) fun p2 =>
  .thn p2.2 (K.go (.call n_ir_Last_Reads [p2.1]) p2.2) fun p3 =>
  .thn p3.2 (sExtract p3.1 0 p3.2) fun p4 =>
  .thn p4.2 (sExtract p3.1 1 p4.2) fun p5 =>
  condX p5.1
  (.thn p5.2 (sLit 1 1 [(.int .i64 0)] [(0, 1, p4.1)] p5.2) fun p6 =>
  .thn p6.2 (sCall K v15 [p6.1] p6.2) fun p7 =>
  refinerylaw03_IrPrograms_j12 J v1 v6 v7 v8 v11 v12 v13 v14 v15 v16 v26 v27 v96 v97 v98 p7.2)
  (refinerylaw03_IrPrograms_j12 J v1 v6 v7 v8 v11 v12 v13 v14 v15 v16 v26 v27 v96 v97 v98 p5.2)) := (go_eq hJ _ _ _ _).trans (by kernel_rfl)
theorem refinerylaw03_IrPrograms_x0_n (K : Ctx) (J : JT (Value × St)) (v1 : Value) (v6 : Value) (v7 : Value) (v11 : Value) (v12 : Value) (v13 : Value) (v14 : Value) (v16 : Value) (v25 : Value) (v26 : Value) (v27 : Value) (v160 : Value) (st : St) : refinerylaw03_IrPrograms_x0 K J .normal v1 v6 v7 v11 v12 v13 v14 v16 v25 v26 v27 v160 st =
  (refinerylaw03_IrPrograms_j13 J v1 v6 v7 v11 v12 v13 v14 v16 v25 st) := by kernel_rfl
theorem refinerylaw03_IrPrograms_x0_r (K : Ctx) (J : JT (Value × St)) (v1 : Value) (v6 : Value) (v7 : Value) (v11 : Value) (v12 : Value) (v13 : Value) (v14 : Value) (v16 : Value) (v25 : Value) (v26 : Value) (v27 : Value) (v160 : Value) (st : St) : refinerylaw03_IrPrograms_x0 K J .ret v1 v6 v7 v11 v12 v13 v14 v16 v25 v26 v27 v160 st =
  ((sLoad none v6 st >>= fun p1 => .ok [p1.1]) >>= fun vs => .ok (oneOf vs, st)) := by kernel_rfl
theorem refinerylaw03_IrPrograms_j11_eq {K : Ctx} {J : JT (Value × St)} (hJ : IsJ K (retK refinerylaw03_IrPrograms_c.results) J) (v1 : Value) (v6 : Value) (v7 : Value) (v8 : Value) (v11 : Value) (v12 : Value) (v13 : Value) (v14 : Value) (v15 : Value) (v16 : Value) (v18 : Value) (v26 : Value) (v27 : Value) (v96 : Value) (v97 : Value) (v98 : Value) (v113 : Value) (v114 : Value) (v115 : Value) (st : St) : refinerylaw03_IrPrograms_j11 J v1 v6 v7 v8 v11 v12 v13 v14 v15 v16 v18 v26 v27 v96 v97 v98 v113 v114 v115 st =
  (.thn st (sBin .add v115 (.int .i64 1) st) fun p1 =>
  refinerylaw03_IrPrograms_l2 J v1 v6 v7 v8 v11 v12 v13 v14 v15 v16 v18 v26 v27 v96 v97 v98 v113 v114 p1.1 p1.2) := (go_eq hJ _ _ _ _).trans (by kernel_rfl)
theorem refinerylaw03_IrPrograms_j12_eq {K : Ctx} {J : JT (Value × St)} (hJ : IsJ K (retK refinerylaw03_IrPrograms_c.results) J) (v1 : Value) (v6 : Value) (v7 : Value) (v8 : Value) (v11 : Value) (v12 : Value) (v13 : Value) (v14 : Value) (v15 : Value) (v16 : Value) (v26 : Value) (v27 : Value) (v96 : Value) (v97 : Value) (v98 : Value) (st : St) : refinerylaw03_IrPrograms_j12 J v1 v6 v7 v8 v11 v12 v13 v14 v15 v16 v26 v27 v96 v97 v98 st =
  (.thn st (sBin .add v98 (.int .i64 1) st) fun p1 =>
  refinerylaw03_IrPrograms_l1 J v1 v6 v7 v8 v11 v12 v13 v14 v15 v16 v26 v27 v96 v97 p1.1 p1.2) := (go_eq hJ _ _ _ _).trans (by kernel_rfl)
theorem refinerylaw03_IrPrograms_j13_eq {K : Ctx} {J : JT (Value × St)} (hJ : IsJ K (retK refinerylaw03_IrPrograms_c.results) J) (v1 : Value) (v6 : Value) (v7 : Value) (v11 : Value) (v12 : Value) (v13 : Value) (v14 : Value) (v16 : Value) (v25 : Value) (st : St) : refinerylaw03_IrPrograms_j13 J v1 v6 v7 v11 v12 v13 v14 v16 v25 st =
  (.thn st (sLoad (some 1) v12 st) fun p1 =>
  .thn p1.2 (K.go (.call n_ir_Program_Clone [p1.1]) p1.2) fun p2 =>
  .thn p2.2 (sLnew [(.slice none 0 0)] p2.2) fun p3 =>
  .thn p3.2 (sUpd 1 0 p3.1 p2.1 p3.2) fun p4 =>
  .thn p4.2 (sLoad (some 1) v12 p4.2) fun p5 =>
  .thn p5.2 (sField (some 1) 0 p4.1 p5.2) fun p6 =>
  .thn p6.2 (K.go (.call n_ir_Same [p5.1, p6.1]) p6.2) fun p7 =>
  .thn p7.2 (sUn .not p7.1 p7.2) fun p8 =>
  .thn p8.2 (sGo p8.1 false (sField (some 1) 0 v7 p8.2) p8.2) fun p9 =>
  .thn p9.2 (sGo p8.1 false (sLoad (some 1) v12 p9.2) p9.2) fun p11 =>
  .thn p11.2 (gd p8.1 false >>= fun b => bif b then (K.go (.call n_ir_Same [p9.1, p11.1]) p11.2 >>= fun p13 => Res.ok (p13.1, p13.2, p11.2 :: (p6.2 :: []), p13.2.next)) else Res.ok (skipped, p11.2, (p6.2 :: []), p7.2.next)) fun p14 =>
  .thn p14.2.1 (sPick p8.1 (.bool true) p14.1 p14.2.1) fun p15 =>
  .thn p15.2 (sGo p15.1 false (sLoad (some 1) v12 p15.2) p15.2) fun p16 =>
  .thn p16.2 (gd p15.1 false >>= fun b => bif b then (K.go (.call n_ir_Program_Count [p16.1]) p16.2 >>= fun p18 => Res.ok (p18.1, p18.2, p16.2 :: p14.2.2.1, p18.2.next)) else Res.ok (skipped, p16.2, p14.2.2.1, p14.2.2.2)) fun p19 =>
  .thn p19.2.1 (sGo p15.1 false (Res.ok (v13, p19.2.1)) p19.2.1) fun p20 =>
  .thn p20.2 (sGo p15.1 false (sBin .neq p19.1 p20.1 p20.2) p20.2) fun p22 =>
  .thn p22.2 (sPick p15.1 (.bool true) p22.1 p22.2) fun p24 =>
  .thn p24.2 (sGo p24.1 false (sLoad (some 1) v12 p24.2) p24.2) fun p25 =>
  .thn p25.2 (gd p24.1 false >>= fun b => bif b then (K.go (.call n_ir_Program_Regs [p25.1]) p25.2 >>= fun p27 => Res.ok (p27.1, p27.2, p25.2 :: p19.2.2.1, p27.2.next)) else Res.ok (skipped, p25.2, p19.2.2.1, p19.2.2.2)) fun p28 =>
  .thn p28.2.1 (gd p24.1 false >>= fun b => bif b then (sLoad none v14 p28.2.1 >>= fun p30 => Res.need (sStays (List.take 1 p28.2.2.1) p28.2.2.2 v14 (fun s => sLoad none v14 s) p30.1) "order" >>= fun _ => .ok p30) else .ok (skipped, p28.2.1)) fun p29 =>
  .thn p29.2 (sGo p24.1 false (sBin .neq p28.1 p29.1 p29.2) p29.2) fun p31 =>
  .thn p31.2 (sPick p24.1 (.bool true) p31.1 p31.2) fun p33 =>
  .thn p33.2 (sGo p33.1 false (sLoad none v25 p33.2) p33.2) fun p34 =>
  .thn p34.2 (sGo p33.1 false (sLoad none v16 p34.2) p34.2) fun p36 =>
  .thn p36.2 (sGo p33.1 false (sLen .slice p36.1 p36.2) p36.2) fun p38 =>
  .thn p38.2 (sGo p33.1 false (sBin .neq p34.1 p38.1 p38.2) p38.2) fun p40 =>
  .thn p40.2 (sPick p33.1 (.bool true) p40.1 p40.2) fun p42 =>
  .thn p42.2 (sGo p42.1 false (sLoad (some 1) v12 p42.2) p42.2) fun p43 =>
  .thn p43.2 (gd p42.1 false >>= fun b => bif b then (K.go (.call n_ir_Program_Plain [p43.1]) p43.2 >>= fun p45 => Res.ok (p45.1, p45.2, p43.2 :: p28.2.2.1, p45.2.next)) else Res.ok (skipped, p43.2, p28.2.2.1, p28.2.2.2)) fun p46 =>
  .thn p46.2.1 (sPick p42.1 (.bool true) p46.1 p46.2.1) fun p47 =>
  .thn p47.2 (sGo p47.1 false (sLoad (some 1) v12 p47.2) p47.2) fun p48 =>
  .thn p48.2 (gd p47.1 false >>= fun b => bif b then (K.go (.call n_ir_Program_Check [p48.1]) p48.2 >>= fun p50 => Res.ok (p50.1, p50.2, p48.2 :: p46.2.2.1, p50.2.next)) else Res.ok (skipped, p48.2, p46.2.2.1, p46.2.2.2)) fun p51 =>
  .thn p51.2.1 (sGo p47.1 false (sBin .eql p51.1 (.int .i64 0) p51.2.1) p51.2.1) fun p52 =>
  .thn p52.2 (sGo p47.1 false (Res.ok (v11, p52.2)) p52.2) fun p54 =>
  .thn p54.2 (sGo p47.1 false (sEq true .bools p52.1 p54.1 p54.2) p54.2) fun p56 =>
  .thn p56.2 (sPick p47.1 (.bool true) p56.1 p56.2) fun p58 =>
  condX p58.1
  (.thn p58.2 (sStore 1 v6 (.bool false) p58.2) fun p59 =>
  (sLoad none v6 p59.2 >>= fun p60 => .ok [p60.1]) >>= fun vs => .ok (oneOf vs, p59.2))
  (refinerylaw03_IrPrograms_j14 J v1 v6 v12 p4.1 p58.2)) := (go_eq hJ _ _ _ _).trans (by kernel_rfl)
theorem refinerylaw03_IrPrograms_j14_eq {K : Ctx} {J : JT (Value × St)} (hJ : IsJ K (retK refinerylaw03_IrPrograms_c.results) J) (v1 : Value) (v6 : Value) (v12 : Value) (v28 : Value) (st : St) : refinerylaw03_IrPrograms_j14 J v1 v6 v12 v28 st =
  (.thn st (sLref v28 st) fun p1 =>
  .thn p1.2 (sField none 0 v28 p1.2) fun p2 =>
  .thn p2.2 (sIxA 7 none p2.1 (.int .i64 0) p2.2) fun p3 =>
  .thn p3.2 (sOff 1 p3.1 p3.2) fun p4 =>
  .thn p4.2 (sLoad none p4.1 p4.2) fun p5 =>
  .thn p5.2 (sIxA 3 none p5.1 (.int .i64 0) p5.2) fun p6 =>
  .thn p6.2 (sOff 0 p6.1 p6.2) fun p7 =>
  .thn p7.2 (sLoad none p7.1 p7.2) fun p8 =>
  .thn p8.2 (sBin .add p8.1 (.int .i64 1) p8.2) fun p9 =>
  .thn p9.2 (sIxA 3 none p5.1 (.int .i64 0) p9.2) fun p10 =>
  .thn p10.2 (sOff 0 p10.1 p10.2) fun p11 =>
  .thn p11.2 (sStore 1 p11.1 p9.1 p11.2) fun p12 =>
  .thn p12.2 (sLref v28 p12.2) fun p13 =>
  .thn p13.2 (sField none 0 v28 p13.2) fun p14 =>
  .thn p14.2 (sIxA 7 none p14.1 (.int .i64 0) p14.2) fun p15 =>
  .thn p15.2 (sOff 2 p15.1 p15.2) fun p16 =>
  .thn p16.2 (sLoad none p16.1 p16.2) fun p17 =>
  .thn p17.2 (sLen .slice p17.1 p17.2) fun p18 =>
  .thn p18.2 (sBin .gtr p18.1 (.int .i64 0) p18.2) fun p19 =>
  condX p19.1
  (.thn p19.2 (sLref v28 p19.2) fun p20 =>
  .thn p20.2 (sField none 0 v28 p20.2) fun p21 =>
  .thn p21.2 (sIxA 7 none p21.1 (.int .i64 0) p21.2) fun p22 =>
  .thn p22.2 (sOff 2 p22.1 p22.2) fun p23 =>
  .thn p23.2 (sLoad none p23.1 p23.2) fun p24 =>
  .thn p24.2 (sIxA 7 none p24.1 (.int .i64 0) p24.2) fun p25 =>
  .thn p25.2 (sOff 5 p25.1 p25.2) fun p26 =>
  .thn p26.2 (sLoad none p26.1 p26.2) fun p27 =>
  .thn p27.2 (sBin .add p27.1 (.int .i64 1) p27.2) fun p28 =>
  .thn p28.2 (sIxA 7 none p24.1 (.int .i64 0) p28.2) fun p29 =>
  .thn p29.2 (sOff 5 p29.1 p29.2) fun p30 =>
  .thn p30.2 (sStore 1 p30.1 p28.1 p30.2) fun p31 =>
  refinerylaw03_IrPrograms_j15 J v1 v6 v12 v28 p31.2)
  (refinerylaw03_IrPrograms_j15 J v1 v6 v12 v28 p19.2)) := (go_eq hJ _ _ _ _).trans (by kernel_rfl)
theorem refinerylaw03_IrPrograms_j15_eq {K : Ctx} {J : JT (Value × St)} (hJ : IsJ K (retK refinerylaw03_IrPrograms_c.results) J) (v1 : Value) (v6 : Value) (v12 : Value) (v28 : Value) (st : St) : refinerylaw03_IrPrograms_j15 J v1 v6 v12 v28 st =
  (.thn st (sLoad (some 1) v12 st) fun p1 =>
  .thn p1.2 (sField (some 1) 0 v28 p1.2) fun p2 =>
  .thn p2.2 (K.go (.call n_ir_Same [p1.1, p2.1]) p2.2) fun p3 =>
  .thn p3.2 (sUn .not p3.1 p3.2) fun p4 =>
  .thn p4.2 (sG p4.1 true (sOff 0 v12 p4.2) p4.2) fun p5 =>
  .thn p5.2 (sG p4.1 true (sLoad none p5.1 p5.2) p5.2) fun p6 =>
  .thn p6.2 (sG p4.1 true (sIxA 7 none p6.1 (.int .i64 0) p6.2) p6.2) fun p7 =>
  .thn p7.2 (sG p4.1 true (sOff 1 p7.1 p7.2) p7.2) fun p8 =>
  .thn p8.2 (sG p4.1 true (sLoad none p8.1 p8.2) p8.2) fun p9 =>
  .thn p9.2 (sG p4.1 true (sIxA 3 none p9.1 (.int .i64 0) p9.2) p9.2) fun p10 =>
  .thn p10.2 (sG p4.1 true (sOff 0 p10.1 p10.2) p10.2) fun p11 =>
  .thn p11.2 (sG p4.1 true (sLoad none p11.1 p11.2) p11.2) fun p12 =>
  .thn p12.2 (sG p4.1 true (.ok (v1, p12.2)) p12.2) fun p13 =>
  .thn p13.2 (sG p4.1 true (sConv (.int .i64) p13.1 p13.2) p13.2) fun p14 =>
  .thn p14.2 (sG p4.1 true (sBin .eql p12.1 p14.1 p14.2) p14.2) fun p15 =>
  .thn p15.2 (sPick p4.1 p15.1 (.bool false) p15.2) fun p16 =>
  .thn p16.2 (sStore 1 v6 p16.1 p16.2) fun p17 =>
  (sLoad none v6 p17.2 >>= fun p18 => .ok [p18.1]) >>= fun vs => .ok (oneOf vs, p17.2)) := (go_eq hJ _ _ _ _).trans (by kernel_rfl)
theorem refinerylaw03_IrPrograms_jr1111111111111111111111101011_0_eq {K : Ctx} {J : JT (AExit × St)} (hJ : IsJ K rawK J) (v6 : Value) (v12 : Value) (v16 : Value) (v25 : Value) (v26 : Value) (v27 : Value) (st : St) : refinerylaw03_IrPrograms_jr1111111111111111111111101011_0 J v6 v12 v16 v25 v26 v27 st =
  (.thn st (sField (some 7) 0 v27 st) fun p1 =>
  .thn p1.2 (sLoad none v16 p1.2) fun p2 =>
  .thn p2.2 (sLoad none v25 p2.2) fun p3 =>
  .thn p3.2 (sIxA 7 none p2.1 p3.1 p3.2) fun p4 =>
  .thn p4.2 (sLoad (some 7) p4.1 p4.2) fun p5 =>
  .thn p5.2 (sEq true (.fields [(0, .int), (1, .int), (2, .int), (3, .int), (4, .int), (5, .int), (6, .int)]) p1.1 p5.1 p5.2) fun p6 =>
  .thn p6.2 (sGo p6.1 false (sOff 0 v12 p6.2) p6.2) fun p7 =>
  .thn p7.2 (sGo p6.1 false (sLoad none p7.1 p7.2) p7.2) fun p9 =>
  .thn p9.2 (sGo p6.1 false (Res.ok (v26, p9.2)) p9.2) fun p11 =>
  .thn p11.2 (sGo p6.1 false (sIxA 7 none p9.1 p11.1 p11.2) p11.2) fun p13 =>
  .thn p13.2 (sGo p6.1 false (sOff 2 p13.1 p13.2) p13.2) fun p15 =>
  .thn p15.2 (sGo p6.1 false (sLoad none p15.1 p15.2) p15.2) fun p17 =>
  .thn p17.2 (sGo p6.1 false (sField (some 7) 0 v27 p17.2) p17.2) fun p19 =>
  .thn p19.2 (gd p6.1 false >>= fun b => bif b then (K.go (.call n_slices_Contains_irInstr [p17.1, p19.1]) p19.2 >>= fun p21 => Res.ok (p21.1, p21.2, p19.2 :: [], p21.2.next)) else Res.ok (skipped, p19.2, [], st.next)) fun p22 =>
  .thn p22.2.1 (sGo p6.1 false (sUn .not p22.1 p22.2.1) p22.2.1) fun p23 =>
  .thn p23.2 (sPick p6.1 (.bool true) p23.1 p23.2) fun p25 =>
  condX p25.1
  (.thn p25.2 (sStore 1 v6 (.bool false) p25.2) fun p26 =>
  .ok (.ret, p26.2))
  (refinerylaw03_IrPrograms_jr1111111111111111111111101011_1 J v25 p25.2)) := (go_eq hJ _ _ _ _).trans (by kernel_rfl)
theorem refinerylaw03_IrPrograms_jr1111111111111111111111101011_1_eq {K : Ctx} {J : JT (AExit × St)} (hJ : IsJ K rawK J) (v25 : Value) (st : St) : refinerylaw03_IrPrograms_jr1111111111111111111111101011_1 J v25 st =
  (.thn st (sLoad none v25 st) fun p1 =>
  .thn p1.2 (sBin .add p1.1 (.int .i64 1) p1.2) fun p2 =>
  .thn p2.2 (sStore 1 v25 p2.1 p2.2) fun p3 =>
  .ok (.normal, p3.2)) := (go_eq hJ _ _ _ _).trans (by kernel_rfl)
theorem refinerylaw03_IrPrograms_r1111111111111111111111101011_body (K : Ctx) (J : JT (AExit × St)) (v1 : Value) (v6 : Value) (v7 : Value) (v11 : Value) (v12 : Value) (v13 : Value) (v14 : Value) (v16 : Value) (v25 : Value) (v26 : Value) (v27 : Value) (v160 : Value) (v161 : Value) (v162 : Value) (st : St) : atR K J (posC refinerylaw03_IrPrograms_c.body [1, 1, 1, 1, 1, 1, 1, 1, 1, 1, 1, 1, 1, 1, 1, 1, 1, 1, 1, 1, 1, 1, 1, 0, 1, 0, 1, 1]) (envT [(1, v1), (6, v6), (7, v7), (11, v11), (12, v12), (13, v13), (14, v14), (16, v16), (25, v25), (26, v26), (27, v27), (160, v160), (161, v161), (162, v162)]) st =
  (refinerylaw03_IrPrograms_jr1111111111111111111111101011_0 J v6 v12 v16 v25 v26 v27 st) := by kernel_rfl
end Go.Proofs.Ytfknooeebmdfoaa.Sh
