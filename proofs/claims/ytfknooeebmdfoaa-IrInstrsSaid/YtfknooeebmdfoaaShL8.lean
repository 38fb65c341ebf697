/-
  The functions of the program, operation by operation, as the abstract machine has them.
-/
import Derived.Test.YtfknooeebmdfoaaProg
import Derived.Test.YtfknooeebmdfoaaShN
set_option linter.unusedVariables false
set_option maxRecDepth 100000
namespace Go.Proofs.Ytfknooeebmdfoaa.Sh
open Go Go.AM Go.Proofs

/-! ### refinery/refinerylaw03.IrInstrs -/
open C in
noncomputable def refinerylaw03_IrInstrs_c : AFun := ⟨4, [.tmp 8],
 (s (.ops [o 4 (.lbox (t 0)), o 6 (.box (t 2)), o 7 (.lbox (t 3)), o 8 (.mv (c (.bool false)))])
 (s (s (.ops [o 21 (.call (f 13) []), o 22 (.un .not (t 21))])
 (.cond (t 22) (s (.ops [o 8 (.mv (c (.bool false)))])
 .ret) .skip))
 (s (.keep [1, 4, 6, 7])
 (s (.ops [o 23 (.mv (t 1)), o 24 (.bin .rem (t 23) (c (u 11))), o 25 (.lref (t 4)), o 4 (.upd 1 0 (t 4) (t 24))])
 (s (s (.draw [d 1 0 false (o 27 (.field (some 7) 0 (t 7))), d 2 0 true (o 28 (.call (f 25) [(t 27), (c (i 6))])), d 0 1 false (o 26 (.field (some 7) 0 (t 4))), d 3 0 false (o 29 (.lit 7 2 [(u 0), (u 0), (i 0), (i 0), (i 0), (i 0), (i 0), (u 0), (u 0), (i 0), (i 0), (i 0), (i 0), (i 0)] [(0, 7, (t 26)), (7, 7, (t 28))])), d 4 0 false (o 30 (.len .slice (t 29))), d 5 0 false (o 31 (.mv (c (i 0))))])
 (.block 0 (s (.keep [6, 29, 30, 31])
 (.loop (s (s (.ops [o 32 (.bin .lss (t 31) (t 30))])
 (s (.cond (t 32) .skip (.exit 0))
 (s (.keep [6, 29, 30, 31])
 (s (.block 1 (s (.ops [o 33 (.ixA 7 none (t 29) (t 31)), o 34 (.load (some 7) (t 33)), o 10 (.lnew [(u 0), (u 0), (i 0), (i 0), (i 0), (i 0), (i 0)]), o 10 (.upd 7 0 (t 10) (t 34))])
 (s (.ops [o 35 (.lref (t 10)), o 36 (.field none 0 (t 10)), o 37 (.bin .leq (t 36) (c (u 3))), o 38 (.mv (t 37)), g 39 true 38 (.lref (t 10)), g 40 true 38 (.field none 0 (t 10)), g 41 true 38 (.bin .neq (t 40) (c (u 4))), o 42 (.pick (t 38) (t 41) (c (.bool false))), o 43 (.mv (t 42)), g 44 false 43 (.lref (t 10)), g 45 false 43 (.field none 0 (t 10)), g 46 false 43 (.bin .eql (t 45) (c (u 5))), o 47 (.pick (t 43) (c (.bool true)) (t 46)), o 48 (.mv (t 47)), g 49 false 48 (.lref (t 10)), g 50 false 48 (.field none 0 (t 10)), g 51 false 48 (.bin .eql (t 50) (c (u 7))), o 52 (.pick (t 48) (c (.bool true)) (t 51)), o 11 (.mv (t 52))])
 (s (.ops [o 12 (.mv (c (.slice none 0 0)))])
 (s (s (.ops [o 53 (.lref (t 10)), o 54 (.field none 0 (t 10))])
 (.block 2 (s (s (.ops [o 56 (.bin .eql (t 54) (c (u 1))), o 55 (.mv (t 56))])
 (.cond (t 55) .skip (s (.ops [o 57 (.bin .eql (t 54) (c (u 4))), o 55 (.mv (t 57))])
 (.cond (t 55) .skip (s (.ops [o 58 (.bin .eql (t 54) (c (u 6))), o 55 (.mv (t 58))])
 (.cond (t 55) .skip (.ops [o 59 (.bin .eql (t 54) (c (u 7))), o 55 (.mv (t 59))])))))))
 (s (.keep [6, 10, 11, 12, 29, 30, 31, 54, 55])
 (.cond (t 55) (.ops [o 60 (.lref (t 10)), o 61 (.field none 3 (t 10)), o 62 (.lit 1 1 [(i 0)] [(0, 1, (t 61))]), o 12 (.mv (t 62))]) (s (s (.ops [o 64 (.bin .eql (t 54) (c (u 2))), o 63 (.mv (t 64))])
 (.cond (t 63) .skip (.ops [o 65 (.bin .eql (t 54) (c (u 8))), o 63 (.mv (t 65))])))
 (s (.keep [6, 10, 11, 12, 29, 30, 31, 63])
 (.cond (t 63) (.ops [o 66 (.lref (t 10)), o 67 (.field none 3 (t 10)), o 68 (.lref (t 10)), o 69 (.field none 4 (t 10)), o 70 (.lit 1 2 [(i 0), (i 0)] [(0, 1, (t 67)), (1, 1, (t 69))]), o 12 (.mv (t 70))]) .skip))))))))
 (s (.keep [6, 10, 11, 12, 29, 30, 31])
 (s (.ops [o 72 (.field (some 7) 0 (t 10)), o 73 (.call (f 26) [(t 72)]), o 71 (.mv (t 73)), o 74 (.extract (t 71) 0), o 75 (.extract (t 71) 1), o 13 (.mv (t 74)), o 14 (.mv (t 75))])
 (s (.ops [o 76 (.field (some 7) 0 (t 10)), o 77 (.fn 28 [] [(t 6)]), o 78 (.call (f 27) [(t 76), (t 77)]), o 15 (.lnew [(u 0), (u 0), (i 0), (i 0), (i 0), (i 0), (i 0)]), o 15 (.upd 7 0 (t 15) (t 78))])
 (s (.ops [o 16 (.mv (c (.slice none 0 0)))])
 (s (s (.ops [o 79 (.mv (t 12)), o 80 (.len .slice (t 79)), o 81 (.mv (c (i 0)))])
 (.block 3 (s (.keep [6, 10, 11, 12, 13, 14, 15, 16, 29, 30, 31, 79, 80, 81])
 (.loop (s (s (.ops [o 82 (.bin .lss (t 81) (t 80))])
 (s (.cond (t 82) .skip (.exit 3))
 (s (.keep [6, 10, 11, 12, 13, 14, 15, 16, 29, 30, 31, 79, 80, 81])
 (s (.block 4 (s (.ops [o 83 (.ixA 1 none (t 79) (t 81)), o 84 (.load none (t 83)), o 18 (.mv (t 84))])
 (.ops [o 85 (.mv (t 16)), o 86 (.mv (t 18)), o 87 (.load none (t 6)), o 88 (.bin .xor (t 86) (t 87)), o 89 (.lit 1 1 [(i 0)] [(0, 1, (t 88))]), o 90 (.append 1 8 (t 85) (t 89)), o 16 (.mv (t 90))])))
 (s (.keep [6, 10, 11, 12, 13, 14, 15, 16, 29, 30, 31, 79, 80, 81])
 (.ops [o 91 (.bin .add (t 81) (c (i 1))), o 81 (.mv (t 91))]))))))
 (.keep [6, 10, 11, 12, 13, 14, 15, 16, 29, 30, 31, 79, 80, 81]))))))
 (s (.keep [6, 10, 11, 12, 13, 14, 15, 16, 29, 30, 31])
 (s (.ops [o 92 (.field (some 7) 0 (t 10)), o 93 (.call (f 20) [(t 92)]), o 19 (.lnew [(u 0), (u 0), (i 0), (i 0), (i 0), (i 0), (i 0)]), o 19 (.upd 7 0 (t 19) (t 93))])
 (s (s (.ops [o 94 (.mv (t 14)), o 95 (.mv (t 11)), o 96 (.eq true .bools (t 94) (t 95)), o 97 (.mv (t 96)), g 98 false 97 (.mv (t 14)), g 99 false 97 (.mv (t 98)), g 100 true 99 (.mv (t 13)), g 101 true 99 (.lref (t 10)), g 102 true 99 (.field none 2 (t 10)), g 103 true 99 (.bin .neq (t 100) (t 102)), g 104 false 97 (.pick (t 99) (t 103) (c (.bool false))), o 105 (.pick (t 97) (c (.bool true)) (t 104)), o 106 (.mv (t 105)), g 107 false 106 (.mv (t 14)), g 108 false 106 (.un .not (t 107)), g 109 false 106 (.mv (t 108)), g 110 true 109 (.mv (t 13)), g 111 true 109 (.bin .neq (t 110) (c (i 0))), g 112 false 106 (.pick (t 109) (t 111) (c (.bool false))), o 113 (.pick (t 106) (c (.bool true)) (t 112)), o 114 (.mv (t 113)), g 115 false 114 (.field (some 7) 0 (t 10)), g 116 false 114 (.call (f 29) [(t 115)]), g 117 false 114 (.mv (t 12)), g 118 false 114 (.call (f 22) [(t 116), (t 117)]), g 119 false 114 (.un .not (t 118)), o 120 (.pick (t 114) (c (.bool true)) (t 119)), o 121 (.mv (t 120)), g 122 false 121 (.field (some 7) 0 (t 15)), g 123 false 121 (.call (f 29) [(t 122)]), g 124 false 121 (.mv (t 16)), g 125 false 121 (.call (f 22) [(t 123), (t 124)]), g 126 false 121 (.un .not (t 125)), o 127 (.pick (t 121) (c (.bool true)) (t 126)), o 128 (.mv (t 127)), g 129 false 128 (.lref (t 15)), g 130 false 128 (.field none 2 (t 15)), g 131 false 128 (.lref (t 10)), g 132 false 128 (.field none 2 (t 10)), g 133 false 128 (.bin .neq (t 130) (t 132)), o 134 (.pick (t 128) (c (.bool true)) (t 133)), o 135 (.mv (t 134)), g 136 false 135 (.lref (t 15)), g 137 false 135 (.field none 5 (t 15)), g 138 false 135 (.lref (t 10)), g 139 false 135 (.field none 5 (t 10)), g 140 false 135 (.bin .neq (t 137) (t 139)), o 141 (.pick (t 135) (c (.bool true)) (t 140)), o 142 (.mv (t 141)), g 143 false 142 (.lref (t 15)), g 144 false 142 (.field none 0 (t 15)), g 145 false 142 (.lref (t 10)), g 146 false 142 (.field none 0 (t 10)), g 147 false 142 (.bin .neq (t 144) (t 146)), o 148 (.pick (t 142) (c (.bool true)) (t 147))])
 (.cond (t 148) (s (.ops [o 8 (.mv (c (.bool false)))])
 .ret) .skip))
 (s (.keep [6, 10, 11, 12, 19, 29, 30, 31])
 (s (.ops [o 149 (.lref (t 10)), o 150 (.field none 0 (t 10)), o 151 (.bin .eql (t 150) (c (u 0))), o 152 (.mv (t 151)), g 153 false 152 (.lref (t 10)), g 154 false 152 (.field none 0 (t 10)), g 155 false 152 (.bin .eql (t 154) (c (u 1))), o 156 (.pick (t 152) (c (.bool true)) (t 155)), o 157 (.mv (t 156)), g 158 false 157 (.lref (t 10)), g 159 false 157 (.field none 0 (t 10)), g 160 false 157 (.bin .eql (t 159) (c (u 2))), g 161 false 157 (.mv (t 160)), g 162 true 161 (.lref (t 10)), g 163 true 161 (.field none 1 (t 10)), g 164 true 161 (.bin .neq (t 163) (c (u 3))), g 165 false 157 (.pick (t 161) (t 164) (c (.bool false))), g 166 false 157 (.mv (t 165)), g 167 true 166 (.lref (t 10)), g 168 true 166 (.field none 1 (t 10)), g 169 true 166 (.bin .neq (t 168) (c (u 4))), g 170 false 157 (.pick (t 166) (t 169) (c (.bool false))), o 171 (.pick (t 157) (c (.bool true)) (t 170)), o 20 (.mv (t 171))])
 (s (s (.draw [d 0 0 false (o 172 (.field (some 7) 0 (t 10))), d 1 0 true (o 173 (.call (f 30) [(t 172)])), d 2 0 false (o 174 (.mv (t 20))), d 3 0 false (o 175 (.eq true .bools (t 173) (t 174))), d 4 0 false (o 176 (.mv (t 175))), d 6 0 false (g 178 false 176 (.field (some 7) 0 (t 19))), d 7 0 true (g 179 false 176 (.call (f 20) [(t 178)])), d 5 1 false (g 177 false 176 (.field (some 7) 0 (t 19))), d 8 0 false (g 180 false 176 (.eq true (.fields [(0, .int), (1, .int), (2, .int), (3, .int), (4, .int), (5, .int), (6, .int)]) (t 177) (t 179))), d 9 0 false (o 181 (.pick (t 176) (c (.bool true)) (t 180))), d 10 0 false (o 182 (.mv (t 181))), d 11 0 false (g 183 false 182 (.field (some 7) 0 (t 19))), d 12 0 true (g 184 false 182 (.call (f 29) [(t 183)])), d 13 0 false (g 185 false 182 (.mv (t 12))), d 14 0 true (g 186 false 182 (.call (f 22) [(t 184), (t 185)])), d 15 0 false (g 187 false 182 (.un .not (t 186))), d 16 0 false (o 188 (.pick (t 182) (c (.bool true)) (t 187))), d 17 0 false (o 189 (.mv (t 188))), d 18 0 false (g 190 false 189 (.lref (t 19))), d 19 0 false (g 191 false 189 (.field none 0 (t 19))), d 20 0 false (g 192 false 189 (.lref (t 10))), d 21 0 false (g 193 false 189 (.field none 0 (t 10))), d 22 0 false (g 194 false 189 (.bin .neq (t 191) (t 193))), d 23 0 false (o 195 (.pick (t 189) (c (.bool true)) (t 194))), d 24 0 false (o 196 (.mv (t 195))), d 25 0 false (g 197 false 196 (.lref (t 19))), d 26 0 false (g 198 false 196 (.field none 5 (t 19))), d 27 0 false (g 199 false 196 (.bin .neq (t 198) (c (i 0)))), d 28 0 false (g 200 false 196 (.mv (t 199))), d 29 0 false (g 201 true 200 (.lref (t 19))), d 30 0 false (g 202 true 200 (.field none 0 (t 19))), d 31 0 false (g 203 true 200 (.bin .neq (t 202) (c (u 0)))), d 32 0 false (g 204 false 196 (.pick (t 200) (t 203) (c (.bool false)))), d 33 0 false (o 205 (.pick (t 196) (c (.bool true)) (t 204))), d 34 0 false (o 206 (.mv (t 205))), d 35 0 false (g 207 false 206 (.lref (t 19))), d 36 0 false (g 208 false 206 (.field none 6 (t 19))), d 37 0 false (g 209 false 206 (.bin .neq (t 208) (c (i 0)))), d 38 0 false (g 210 false 206 (.mv (t 209))), d 39 0 false (g 211 true 210 (.lref (t 19))), d 40 0 false (g 212 true 210 (.field none 0 (t 19))), d 41 0 false (g 213 true 210 (.bin .neq (t 212) (c (u 5)))), d 42 0 false (g 214 false 206 (.pick (t 210) (t 213) (c (.bool false)))), d 43 0 false (g 215 false 206 (.mv (t 214))), d 44 0 false (g 216 true 215 (.lref (t 19))), d 45 0 false (g 217 true 215 (.field none 0 (t 19))), d 46 0 false (g 218 true 215 (.bin .neq (t 217) (c (u 6)))), d 47 0 false (g 219 false 206 (.pick (t 215) (t 218) (c (.bool false)))), d 48 0 false (o 220 (.pick (t 206) (c (.bool true)) (t 219))), d 49 0 false (o 221 (.mv (t 220))), d 50 0 false (g 222 false 221 (.lref (t 19))), d 51 0 false (g 223 false 221 (.field none 1 (t 19))), d 52 0 false (g 224 false 221 (.bin .neq (t 223) (c (u 0)))), d 53 0 false (g 225 false 221 (.mv (t 224))), d 54 0 false (g 226 true 225 (.lref (t 19))), d 55 0 false (g 227 true 225 (.field none 0 (t 19))), d 56 0 false (g 228 true 225 (.bin .neq (t 227) (c (u 2)))), d 57 0 false (g 229 false 221 (.pick (t 225) (t 228) (c (.bool false)))), d 58 0 false (o 230 (.pick (t 221) (c (.bool true)) (t 229)))])
 (.cond (t 230) (s (.ops [o 8 (.mv (c (.bool false)))])
 .ret) .skip))
 (s (.keep [6, 10, 11, 19, 29, 30, 31])
 (s (.ops [o 231 (.lref (t 10)), o 232 (.field none 0 (t 10)), o 233 (.bin .eql (t 232) (c (u 0))), o 234 (.mv (t 233)), g 235 true 234 (.lref (t 19)), g 236 true 234 (.field none 5 (t 19)), g 237 true 234 (.lref (t 10)), g 238 true 234 (.field none 5 (t 10)), g 239 true 234 (.bin .neq (t 236) (t 238)), o 240 (.pick (t 234) (t 239) (c (.bool false))), o 241 (.mv (t 240)), g 242 false 241 (.lref (t 10)), g 243 false 241 (.field none 0 (t 10)), g 244 false 241 (.bin .eql (t 243) (c (u 2))), g 245 false 241 (.mv (t 244)), g 246 true 245 (.lref (t 19)), g 247 true 245 (.field none 1 (t 19)), g 248 true 245 (.lref (t 10)), g 249 true 245 (.field none 1 (t 10)), g 250 true 245 (.bin .neq (t 247) (t 249)), g 251 false 241 (.pick (t 245) (t 250) (c (.bool false))), o 252 (.pick (t 241) (c (.bool true)) (t 251)), o 253 (.mv (t 252)), g 254 false 253 (.lref (t 10)), g 255 false 253 (.field none 0 (t 10)), g 256 false 253 (.bin .eql (t 255) (c (u 5))), g 257 false 253 (.mv (t 256)), g 258 false 257 (.lref (t 10)), g 259 false 257 (.field none 0 (t 10)), g 260 false 257 (.bin .eql (t 259) (c (u 6))), g 261 false 253 (.pick (t 257) (c (.bool true)) (t 260)), g 262 false 253 (.mv (t 261)), g 263 true 262 (.lref (t 19)), g 264 true 262 (.field none 6 (t 19)), g 265 true 262 (.lref (t 10)), g 266 true 262 (.field none 6 (t 10)), g 267 true 262 (.bin .neq (t 264) (t 266)), g 268 false 253 (.pick (t 262) (t 267) (c (.bool false))), o 269 (.pick (t 253) (c (.bool true)) (t 268)), o 270 (.mv (t 269)), g 271 false 270 (.mv (t 11)), g 272 false 270 (.mv (t 271)), g 273 true 272 (.lref (t 19)), g 274 true 272 (.field none 2 (t 19)), g 275 true 272 (.lref (t 10)), g 276 true 272 (.field none 2 (t 10)), g 277 true 272 (.bin .neq (t 274) (t 276)), g 278 false 270 (.pick (t 272) (t 277) (c (.bool false))), o 279 (.pick (t 270) (c (.bool true)) (t 278))])
 (.cond (t 279) (s (.ops [o 8 (.mv (c (.bool false)))])
 .ret) .skip)))))))))))))))))))
 (s (.keep [6, 29, 30, 31])
 (.ops [o 280 (.bin .add (t 31) (c (i 1))), o 31 (.mv (t 280))]))))))
 (.keep [6, 29, 30, 31]))))))
 (s (.keep [])
 (s (.ops [o 8 (.mv (c (.bool true)))])
 .ret)))))))⟩
theorem refinerylaw03_IrInstrs_is : pgF n_refinerylaw03_IrInstrs = some refinerylaw03_IrInstrs_c := by kernel_rfl
noncomputable def refinerylaw03_IrInstrs_j0 (J : JT (Value × St)) (v1 : Value) (v4 : Value) (v6 : Value) (v7 : Value) (st : St) : Res (Value × St) := goX J refinerylaw03_IrInstrs_c.body [1, 1, 1] (envT [(1, v1), (4, v4), (6, v6), (7, v7)]) st
noncomputable def refinerylaw03_IrInstrs_l0 (J : JT (Value × St)) (v6 : Value) (v29 : Value) (v30 : Value) (v31 : Value) (st : St) : Res (Value × St) := lpX J refinerylaw03_IrInstrs_c.body [1, 1, 1, 1, 0, 1, 0, 1] (envT [(6, v6), (29, v29), (30, v30), (31, v31)]) st
noncomputable def refinerylaw03_IrInstrs_j1 (J : JT (Value × St)) (v6 : Value) (v29 : Value) (v30 : Value) (v31 : Value) (st : St) : Res (Value × St) := goX J refinerylaw03_IrInstrs_c.body [1, 1, 1, 1, 0, 1, 0, 1, 0, 0, 1, 1, 1] (envT [(6, v6), (29, v29), (30, v30), (31, v31)]) st
noncomputable def refinerylaw03_IrInstrs_j2 (J : JT (Value × St)) (st : St) : Res (Value × St) := goX J refinerylaw03_IrInstrs_c.body [1, 1, 1, 1, 1, 1] (envT []) st
noncomputable def refinerylaw03_IrInstrs_j3 (J : JT (Value × St)) (v6 : Value) (v10 : Value) (v11 : Value) (v12 : Value) (v29 : Value) (v30 : Value) (v31 : Value) (v54 : Value) (v55 : Value) (st : St) : Res (Value × St) := goX J refinerylaw03_IrInstrs_c.body [1, 1, 1, 1, 0, 1, 0, 1, 0, 0, 1, 1, 1, 0, 0, 1, 1, 1, 0, 1, 0, 1, 1] (envT [(6, v6), (10, v10), (11, v11), (12, v12), (29, v29), (30, v30), (31, v31), (54, v54), (55, v55)]) st
noncomputable def refinerylaw03_IrInstrs_j4 (J : JT (Value × St)) (v6 : Value) (v10 : Value) (v11 : Value) (v12 : Value) (v29 : Value) (v30 : Value) (v31 : Value) (st : St) : Res (Value × St) := goX J refinerylaw03_IrInstrs_c.body [1, 1, 1, 1, 0, 1, 0, 1, 0, 0, 1, 1, 1, 0, 0, 1, 1, 1, 1, 1] (envT [(6, v6), (10, v10), (11, v11), (12, v12), (29, v29), (30, v30), (31, v31)]) st
noncomputable def refinerylaw03_IrInstrs_j5 (J : JT (Value × St)) (v6 : Value) (v10 : Value) (v11 : Value) (v12 : Value) (v29 : Value) (v30 : Value) (v31 : Value) (v63 : Value) (st : St) : Res (Value × St) := goX J refinerylaw03_IrInstrs_c.body [1, 1, 1, 1, 0, 1, 0, 1, 0, 0, 1, 1, 1, 0, 0, 1, 1, 1, 0, 1, 0, 1, 1, 1, 1, 1] (envT [(6, v6), (10, v10), (11, v11), (12, v12), (29, v29), (30, v30), (31, v31), (63, v63)]) st
noncomputable def refinerylaw03_IrInstrs_l1 (J : JT (Value × St)) (v6 : Value) (v10 : Value) (v11 : Value) (v12 : Value) (v13 : Value) (v14 : Value) (v15 : Value) (v16 : Value) (v29 : Value) (v30 : Value) (v31 : Value) (v79 : Value) (v80 : Value) (v81 : Value) (st : St) : Res (Value × St) := lpX J refinerylaw03_IrInstrs_c.body [1, 1, 1, 1, 0, 1, 0, 1, 0, 0, 1, 1, 1, 0, 0, 1, 1, 1, 1, 1, 1, 1, 1, 0, 1, 0, 1] (envT [(6, v6), (10, v10), (11, v11), (12, v12), (13, v13), (14, v14), (15, v15), (16, v16), (29, v29), (30, v30), (31, v31), (79, v79), (80, v80), (81, v81)]) st
noncomputable def refinerylaw03_IrInstrs_j6 (J : JT (Value × St)) (v6 : Value) (v10 : Value) (v11 : Value) (v12 : Value) (v13 : Value) (v14 : Value) (v15 : Value) (v16 : Value) (v29 : Value) (v30 : Value) (v31 : Value) (v79 : Value) (v80 : Value) (v81 : Value) (st : St) : Res (Value × St) := goX J refinerylaw03_IrInstrs_c.body [1, 1, 1, 1, 0, 1, 0, 1, 0, 0, 1, 1, 1, 0, 0, 1, 1, 1, 1, 1, 1, 1, 1, 0, 1, 0, 1, 0, 0, 1, 1, 1] (envT [(6, v6), (10, v10), (11, v11), (12, v12), (13, v13), (14, v14), (15, v15), (16, v16), (29, v29), (30, v30), (31, v31), (79, v79), (80, v80), (81, v81)]) st
noncomputable def refinerylaw03_IrInstrs_j7 (J : JT (Value × St)) (v6 : Value) (v10 : Value) (v11 : Value) (v12 : Value) (v13 : Value) (v14 : Value) (v15 : Value) (v16 : Value) (v29 : Value) (v30 : Value) (v31 : Value) (st : St) : Res (Value × St) := goX J refinerylaw03_IrInstrs_c.body [1, 1, 1, 1, 0, 1, 0, 1, 0, 0, 1, 1, 1, 0, 0, 1, 1, 1, 1, 1, 1, 1, 1, 1, 1] (envT [(6, v6), (10, v10), (11, v11), (12, v12), (13, v13), (14, v14), (15, v15), (16, v16), (29, v29), (30, v30), (31, v31)]) st
noncomputable def refinerylaw03_IrInstrs_j8 (J : JT (Value × St)) (v6 : Value) (v10 : Value) (v11 : Value) (v12 : Value) (v13 : Value) (v14 : Value) (v15 : Value) (v16 : Value) (v29 : Value) (v30 : Value) (v31 : Value) (v79 : Value) (v80 : Value) (v81 : Value) (st : St) : Res (Value × St) := goX J refinerylaw03_IrInstrs_c.body [1, 1, 1, 1, 0, 1, 0, 1, 0, 0, 1, 1, 1, 0, 0, 1, 1, 1, 1, 1, 1, 1, 1, 0, 1, 0, 1, 0, 0, 1, 1, 1, 1, 1] (envT [(6, v6), (10, v10), (11, v11), (12, v12), (13, v13), (14, v14), (15, v15), (16, v16), (29, v29), (30, v30), (31, v31), (79, v79), (80, v80), (81, v81)]) st
noncomputable def refinerylaw03_IrInstrs_j9 (J : JT (Value × St)) (v6 : Value) (v10 : Value) (v11 : Value) (v12 : Value) (v19 : Value) (v29 : Value) (v30 : Value) (v31 : Value) (st : St) : Res (Value × St) := goX J refinerylaw03_IrInstrs_c.body [1, 1, 1, 1, 0, 1, 0, 1, 0, 0, 1, 1, 1, 0, 0, 1, 1, 1, 1, 1, 1, 1, 1, 1, 1, 1, 1, 1] (envT [(6, v6), (10, v10), (11, v11), (12, v12), (19, v19), (29, v29), (30, v30), (31, v31)]) st
noncomputable def refinerylaw03_IrInstrs_j10 (J : JT (Value × St)) (v6 : Value) (v10 : Value) (v11 : Value) (v19 : Value) (v29 : Value) (v30 : Value) (v31 : Value) (st : St) : Res (Value × St) := goX J refinerylaw03_IrInstrs_c.body [1, 1, 1, 1, 0, 1, 0, 1, 0, 0, 1, 1, 1, 0, 0, 1, 1, 1, 1, 1, 1, 1, 1, 1, 1, 1, 1, 1, 1, 1, 1] (envT [(6, v6), (10, v10), (11, v11), (19, v19), (29, v29), (30, v30), (31, v31)]) st
noncomputable def refinerylaw03_IrInstrs_j11 (J : JT (Value × St)) (v6 : Value) (v29 : Value) (v30 : Value) (v31 : Value) (st : St) : Res (Value × St) := goX J refinerylaw03_IrInstrs_c.body [1, 1, 1, 1, 0, 1, 0, 1, 0, 0, 1, 1, 1, 1, 1] (envT [(6, v6), (29, v29), (30, v30), (31, v31)]) st
theorem refinerylaw03_IrInstrs_eq (K : Ctx) (J : JT (Value × St)) (a0 a1 a2 a3 : Value) (st : St) : atX K J refinerylaw03_IrInstrs_c (AM.start [a0, a1, a2, a3]) st =
  (.thn st (sLbox a0 st) fun p1 =>
  .thn p1.2 (sBox a2 p1.2) fun p2 =>
  .thn p2.2 (sLbox a3 p2.2) fun p3 =>
  .thn p3.2 (K.go (.call n_refinerylaw03_Awake []) p3.2) fun p4 =>
  .thn p4.2 (sUn .not p4.1 p4.2) fun p5 =>
  condX p5.1
  (.ok ((.bool false), p5.2))
  (refinerylaw03_IrInstrs_j0 J a1 p1.1 p2.1 p3.1 p5.2)) := by kernel_rfl
theorem refinerylaw03_IrInstrs_of {K : Ctx} (hF : Fix pgF K) {a0 a1 a2 a3 : Value} {st : St} {Q : Value × St → Prop} (h : ∀ J, IsJ K (retK refinerylaw03_IrInstrs_c.results) J → Ok (atX K J refinerylaw03_IrInstrs_c (AM.start [a0, a1, a2, a3]) st) Q) : Ok (K.go (.call n_refinerylaw03_IrInstrs [a0, a1, a2, a3]) st) Q := call_of hF refinerylaw03_IrInstrs_is rfl h
theorem refinerylaw03_IrInstrs_j0_eq {K : Ctx} {J : JT (Value × St)} (hJ : IsJ K (retK refinerylaw03_IrInstrs_c.results) J) (v1 : Value) (v4 : Value) (v6 : Value) (v7 : Value) (st : St) : refinerylaw03_IrInstrs_j0 J v1 v4 v6 v7 st =
  (.thn st (sBin .rem v1 (.int .u8 11) st) fun p1 =>
  .thn p1.2 (sLref v4 p1.2) fun p2 =>
  .thn p2.2 (sUpd 1 0 v4 p1.1 p2.2) fun p3 =>
  .thn p3.2 (sField (some 7) 0 v7 p3.2) fun p4 =>
  .thn p4.2 (K.go (.call n_refinerylaw03_Line_Instr [p4.1, (.int .i64 6)]) p4.2) fun p5 =>
  .thn p5.2 (sField (some 7) 0 p3.1 p5.2) fun p6 =>
  Res.need (sStays (List.take 1 (p4.2 :: [])) p5.2.next nothing (fun s => sField (some 7) 0 p3.1 s) p6.1) "order" >>= fun _ =>
  .thn p6.2 (sLit 7 2 [(.int .u8 0), (.int .u8 0), (.int .i64 0), (.int .i64 0), (.int .i64 0), (.int .i64 0), (.int .i64 0), (.int .u8 0), (.int .u8 0), (.int .i64 0), (.int .i64 0), (.int .i64 0), (.int .i64 0), (.int .i64 0)] [(0, 7, p6.1), (7, 7, p5.1)] p6.2) fun p7 =>
  .thn p7.2 (sLen .slice p7.1 p7.2) fun p8 =>
  refinerylaw03_IrInstrs_l0 J v6 p7.1 p8.1 (.int .i64 0) p8.2) := (go_eq hJ _ _ _ _).trans (by kernel_rfl)
theorem refinerylaw03_IrInstrs_l0_eq (K : Ctx) (J : JT (Value × St)) (v6 : Value) (v29 : Value) (v30 : Value) (v31 : Value) (st : St) : inX K J (retK refinerylaw03_IrInstrs_c.results) refinerylaw03_IrInstrs_c.body [1, 1, 1, 1, 0, 1, 0, 1] (envT [(6, v6), (29, v29), (30, v30), (31, v31)]) st =
  (.thn st (sBin .lss v31 v30 st) fun p1 =>
  condX p1.1
  (refinerylaw03_IrInstrs_j1 J v6 v29 v30 v31 p1.2)
  (refinerylaw03_IrInstrs_j2 J p1.2)) := by kernel_rfl
theorem refinerylaw03_IrInstrs_l0_of {K : Ctx} (hF : Fix pgF K) {J : JT (Value × St)} (hJ : IsJ K (retK refinerylaw03_IrInstrs_c.results) J) {v6 : Value} {v29 : Value} {v30 : Value} {v31 : Value} {st : St} {Q : Value × St → Prop} (h : Ok (inX K J (retK refinerylaw03_IrInstrs_c.results) refinerylaw03_IrInstrs_c.body [1, 1, 1, 1, 0, 1, 0, 1] (envT [(6, v6), (29, v29), (30, v30), (31, v31)]) st) Q) : Ok (refinerylaw03_IrInstrs_l0 J v6 v29 v30 v31 st) Q := loop_of hF hJ h
theorem refinerylaw03_IrInstrs_j1_eq {K : Ctx} {J : JT (Value × St)} (hJ : IsJ K (retK refinerylaw03_IrInstrs_c.results) J) (v6 : Value) (v29 : Value) (v30 : Value) (v31 : Value) (st : St) : refinerylaw03_IrInstrs_j1 J v6 v29 v30 v31 st =
  (.thn st (sIxA 7 none v29 v31 st) fun p1 =>
  .thn p1.2 (sLoad (some 7) p1.1 p1.2) fun p2 =>
  .thn p2.2 (sLnew [(.int .u8 0), (.int .u8 0), (.int .i64 0), (.int .i64 0), (.int .i64 0), (.int .i64 0), (.int .i64 0)] p2.2) fun p3 =>
  .thn p3.2 (sUpd 7 0 p3.1 p2.1 p3.2) fun p4 =>
  .thn p4.2 (sLref p4.1 p4.2) fun p5 =>
  .thn p5.2 (sField none 0 p4.1 p5.2) fun p6 =>
  .thn p6.2 (sBin .leq p6.1 (.int .u8 3) p6.2) fun p7 =>
  .thn p7.2 (sG p7.1 true (sLref p4.1 p7.2) p7.2) fun p8 =>
  .thn p8.2 (sG p7.1 true (sField none 0 p4.1 p8.2) p8.2) fun p9 =>
  .thn p9.2 (sG p7.1 true (sBin .neq p9.1 (.int .u8 4) p9.2) p9.2) fun p10 =>
  .thn p10.2 (sPick p7.1 p10.1 (.bool false) p10.2) fun p11 =>
  .thn p11.2 (sG p11.1 false (sLref p4.1 p11.2) p11.2) fun p12 =>
  .thn p12.2 (sG p11.1 false (sField none 0 p4.1 p12.2) p12.2) fun p13 =>
  .thn p13.2 (sG p11.1 false (sBin .eql p13.1 (.int .u8 5) p13.2) p13.2) fun p14 =>
  .thn p14.2 (sPick p11.1 (.bool true) p14.1 p14.2) fun p15 =>
  .thn p15.2 (sG p15.1 false (sLref p4.1 p15.2) p15.2) fun p16 =>
  .thn p16.2 (sG p15.1 false (sField none 0 p4.1 p16.2) p16.2) fun p17 =>
  .thn p17.2 (sG p15.1 false (sBin .eql p17.1 (.int .u8 7) p17.2) p17.2) fun p18 =>
  .thn p18.2 (sPick p15.1 (.bool true) p18.1 p18.2) fun p19 =>
  .thn p19.2 (sLref p4.1 p19.2) fun p20 =>
  .thn p20.2 (sField none 0 p4.1 p20.2) fun p21 =>
  .thn p21.2 (sBin .eql p21.1 (.int .u8 1) p21.2) fun p22 =>
  condX p22.1
  (refinerylaw03_IrInstrs_j3 J v6 p4.1 p19.1 (.slice none 0 0) v29 v30 v31 p21.1 p22.1 p22.2)
  (.thn p22.2 (sBin .eql p21.1 (.int .u8 4) p22.2) fun p23 =>
  condX p23.1
  (refinerylaw03_IrInstrs_j3 J v6 p4.1 p19.1 (.slice none 0 0) v29 v30 v31 p21.1 p23.1 p23.2)
  (.thn p23.2 (sBin .eql p21.1 (.int .u8 6) p23.2) fun p24 =>
  condX p24.1
  (refinerylaw03_IrInstrs_j3 J v6 p4.1 p19.1 (.slice none 0 0) v29 v30 v31 p21.1 p24.1 p24.2)
  (.thn p24.2 (sBin .eql p21.1 (.int .u8 7) p24.2) fun p25 =>
  refinerylaw03_IrInstrs_j3 J v6 p4.1 p19.1 (.slice none 0 0) v29 v30 v31 p21.1 p25.1 p25.2)))) := (go_eq hJ _ _ _ _).trans (by kernel_rfl)
theorem refinerylaw03_IrInstrs_j2_eq {K : Ctx} {J : JT (Value × St)} (hJ : IsJ K (retK refinerylaw03_IrInstrs_c.results) J) (st : St) : refinerylaw03_IrInstrs_j2 J st =
  (.ok ((.bool true), st)) := (go_eq hJ _ _ _ _).trans (by kernel_rfl)
theorem refinerylaw03_IrInstrs_j3_eq {K : Ctx} {J : JT (Value × St)} (hJ : IsJ K (retK refinerylaw03_IrInstrs_c.results) J) (v6 : Value) (v10 : Value) (v11 : Value) (v12 : Value) (v29 : Value) (v30 : Value) (v31 : Value) (v54 : Value) (v55 : Value) (st : St) : refinerylaw03_IrInstrs_j3 J v6 v10 v11 v12 v29 v30 v31 v54 v55 st =
  (condX v55
  (.thn st (sLref v10 st) fun p1 =>
  .thn p1.2 (sField none 3 v10 p1.2) fun p2 =>
  .thn p2.2 (sLit 1 1 [(.int .i64 0)] [(0, 1, p2.1)] p2.2) fun p3 =>
  refinerylaw03_IrInstrs_j4 J v6 v10 v11 p3.1 v29 v30 v31 p3.2)
  (.thn st (sBin .eql v54 (.int .u8 2) st) fun p4 =>
  condX p4.1
  (refinerylaw03_IrInstrs_j5 J v6 v10 v11 v12 v29 v30 v31 p4.1 p4.2)
  (.thn p4.2 (sBin .eql v54 (.int .u8 8) p4.2) fun p5 =>
  refinerylaw03_IrInstrs_j5 J v6 v10 v11 v12 v29 v30 v31 p5.1 p5.2))) := (go_eq hJ _ _ _ _).trans (by kernel_rfl)
theorem refinerylaw03_IrInstrs_j4_eq {K : Ctx} {J : JT (Value × St)} (hJ : IsJ K (retK refinerylaw03_IrInstrs_c.results) J) (v6 : Value) (v10 : Value) (v11 : Value) (v12 : Value) (v29 : Value) (v30 : Value) (v31 : Value) (st : St) : refinerylaw03_IrInstrs_j4 J v6 v10 v11 v12 v29 v30 v31 st =
  (.thn st (sField (some 7) 0 v10 st) fun p1 =>
  .thn p1.2 (K.go (.call n_ir_Instr_Sets [p1.1]) p1.2) fun p2 =>
  .thn p2.2 (sExtract p2.1 0 p2.2) fun p3 =>
  .thn p3.2 (sExtract p2.1 1 p3.2) fun p4 =>
  .thn p4.2 (sField (some 7) 0 v10 p4.2) fun p5 =>
  .thn p5.2 (K.go (.call n_ir_Instr_Turned [p5.1, (.func (.func n_refinerylaw03_IrInstrs_1) #[] #[v6])]) p5.2) fun p6 =>
  .thn p6.2 (sLnew [(.int .u8 0), (.int .u8 0), (.int .i64 0), (.int .i64 0), (.int .i64 0), (.int .i64 0), (.int .i64 0)] p6.2) fun p7 =>
  .thn p7.2 (sUpd 7 0 p7.1 p6.1 p7.2) fun p8 =>
  .thn p8.2 (sLen .slice v12 p8.2) fun p9 =>
  refinerylaw03_IrInstrs_l1 J v6 v10 v11 v12 p3.1 p4.1 p8.1 (.slice none 0 0) v29 v30 v31 v12 p9.1 (.int .i64 0) p9.2) := (go_eq hJ _ _ _ _).trans (by kernel_rfl)
theorem refinerylaw03_IrInstrs_j5_eq {K : Ctx} {J : JT (Value × St)} (hJ : IsJ K (retK refinerylaw03_IrInstrs_c.results) J) (v6 : Value) (v10 : Value) (v11 : Value) (v12 : Value) (v29 : Value) (v30 : Value) (v31 : Value) (v63 : Value) (st : St) : refinerylaw03_IrInstrs_j5 J v6 v10 v11 v12 v29 v30 v31 v63 st =
  (condX v63
  (.thn st (sLref v10 st) fun p1 =>
  .thn p1.2 (sField none 3 v10 p1.2) fun p2 =>
  .thn p2.2 (sLref v10 p2.2) fun p3 =>
  .thn p3.2 (sField none 4 v10 p3.2) fun p4 =>
  .thn p4.2 (sLit 1 2 [(.int .i64 0), (.int .i64 0)] [(0, 1, p2.1), (1, 1, p4.1)] p4.2) fun p5 =>
  refinerylaw03_IrInstrs_j4 J v6 v10 v11 p5.1 v29 v30 v31 p5.2)
  (refinerylaw03_IrInstrs_j4 J v6 v10 v11 v12 v29 v30 v31 st)) := (go_eq hJ _ _ _ _).trans (by kernel_rfl)
theorem refinerylaw03_IrInstrs_l1_eq (K : Ctx) (J : JT (Value × St)) (v6 : Value) (v10 : Value) (v11 : Value) (v12 : Value) (v13 : Value) (v14 : Value) (v15 : Value) (v16 : Value) (v29 : Value) (v30 : Value) (v31 : Value) (v79 : Value) (v80 : Value) (v81 : Value) (st : St) : inX K J (retK refinerylaw03_IrInstrs_c.results) refinerylaw03_IrInstrs_c.body [1, 1, 1, 1, 0, 1, 0, 1, 0, 0, 1, 1, 1, 0, 0, 1, 1, 1, 1, 1, 1, 1, 1, 0, 1, 0, 1] (envT [(6, v6), (10, v10), (11, v11), (12, v12), (13, v13), (14, v14), (15, v15), (16, v16), (29, v29), (30, v30), (31, v31), (79, v79), (80, v80), (81, v81)]) st =
  (.thn st (sBin .lss v81 v80 st) fun p1 =>
  condX p1.1
  (refinerylaw03_IrInstrs_j6 J v6 v10 v11 v12 v13 v14 v15 v16 v29 v30 v31 v79 v80 v81 p1.2)
  (refinerylaw03_IrInstrs_j7 J v6 v10 v11 v12 v13 v14 v15 v16 v29 v30 v31 p1.2)) := by kernel_rfl
theorem refinerylaw03_IrInstrs_l1_of {K : Ctx} (hF : Fix pgF K) {J : JT (Value × St)} (hJ : IsJ K (retK refinerylaw03_IrInstrs_c.results) J) {v6 : Value} {v10 : Value} {v11 : Value} {v12 : Value} {v13 : Value} {v14 : Value} {v15 : Value} {v16 : Value} {v29 : Value} {v30 : Value} {v31 : Value} {v79 : Value} {v80 : Value} {v81 : Value} {st : St} {Q : Value × St → Prop} (h : Ok (inX K J (retK refinerylaw03_IrInstrs_c.results) refinerylaw03_IrInstrs_c.body [1, 1, 1, 1, 0, 1, 0, 1, 0, 0, 1, 1, 1, 0, 0, 1, 1, 1, 1, 1, 1, 1, 1, 0, 1, 0, 1] (envT [(6, v6), (10, v10), (11, v11), (12, v12), (13, v13), (14, v14), (15, v15), (16, v16), (29, v29), (30, v30), (31, v31), (79, v79), (80, v80), (81, v81)]) st) Q) : Ok (refinerylaw03_IrInstrs_l1 J v6 v10 v11 v12 v13 v14 v15 v16 v29 v30 v31 v79 v80 v81 st) Q := loop_of hF hJ h
theorem refinerylaw03_IrInstrs_j6_eq {K : Ctx} {J : JT (Value × St)} (hJ : IsJ K (retK refinerylaw03_IrInstrs_c.results) J) (v6 : Value) (v10 : Value) (v11 : Value) (v12 : Value) (v13 : Value) (v14 : Value) (v15 : Value) (v16 : Value) (v29 : Value) (v30 : Value) (v31 : Value) (v79 : Value) (v80 : Value) (v81 : Value) (st : St) : refinerylaw03_IrInstrs_j6 J v6 v10 v11 v12 v13 v14 v15 v16 v29 v30 v31 v79 v80 v81 st =
  (.thn st (sIxA 1 none v79 v81 st) fun p1 =>
  .thn p1.2 (sLoad none p1.1 p1.2) fun p2 =>
  .thn p2.2 (sLoad none v6 p2.2) fun p3 =>
  .thn p3.2 (sBin .xor p2.1 p3.1 p3.2) fun p4 =>
  .thn p4.2 (sLit 1 1 [(.int .i64 0)] [(0, 1, p4.1)] p4.2) fun p5 =>
  .thn p5.2 (sAppend 1 8 v16 p5.1 p5.2) fun p6 =>
  refinerylaw03_IrInstrs_j8 J v6 v10 v11 v12 v13 v14 v15 p6.1 v29 v30 v31 v79 v80 v81 p6.2) := (go_eq hJ _ _ _ _).trans (by kernel_rfl)
theorem refinerylaw03_IrInstrs_j7_eq {K : Ctx} {J : JT (Value × St)} (hJ : IsJ K (retK refinerylaw03_IrInstrs_c.results) J) (v6 : Value) (v10 : Value) (v11 : Value) (v12 : Value) (v13 : Value) (v14 : Value) (v15 : Value) (v16 : Value) (v29 : Value) (v30 : Value) (v31 : Value) (st : St) : refinerylaw03_IrInstrs_j7 J v6 v10 v11 v12 v13 v14 v15 v16 v29 v30 v31 st =
  (.thn st (sField (some 7) 0 v10 st) fun p1 =>
  .thn p1.2 (K.go (.call n_ir_Instr_Only [p1.1]) p1.2) fun p2 =>
  .thn p2.2 (sLnew [(.int .u8 0), (.int .u8 0), (.int .i64 0), (.int .i64 0), (.int .i64 0), (.int .i64 0), (.int .i64 0)] p2.2) fun p3 =>
  .thn p3.2 (sUpd 7 0 p3.1 p2.1 p3.2) fun p4 =>
  .thn p4.2 (sEq true .bools v14 v11 p4.2) fun p5 =>
  .thn p5.2 (sG p5.1 false (.ok (v14, p5.2)) p5.2) fun p6 =>
  .thn p6.2 (sG p5.1 false (.ok (p6.1, p6.2)) p6.2) fun p7 =>
  .thn p7.2 (sG p7.1 true (.ok (v13, p7.2)) p7.2) fun p8 =>
  .thn p8.2 (sG p7.1 true (sLref v10 p8.2) p8.2) fun p9 =>
  .thn p9.2 (sG p7.1 true (sField none 2 v10 p9.2) p9.2) fun p10 =>
  .thn p10.2 (sG p7.1 true (sBin .neq p8.1 p10.1 p10.2) p10.2) fun p11 =>
  .thn p11.2 (sG p5.1 false (sPick p7.1 p11.1 (.bool false) p11.2) p11.2) fun p12 =>
  .thn p12.2 (sPick p5.1 (.bool true) p12.1 p12.2) fun p13 =>
  .thn p13.2 (sG p13.1 false (.ok (v14, p13.2)) p13.2) fun p14 =>
  .thn p14.2 (sG p13.1 false (sUn .not p14.1 p14.2) p14.2) fun p15 =>
  .thn p15.2 (sG p13.1 false (.ok (p15.1, p15.2)) p15.2) fun p16 =>
  .thn p16.2 (sG p16.1 true (.ok (v13, p16.2)) p16.2) fun p17 =>
  .thn p17.2 (sG p16.1 true (sBin .neq p17.1 (.int .i64 0) p17.2) p17.2) fun p18 =>
  .thn p18.2 (sG p13.1 false (sPick p16.1 p18.1 (.bool false) p18.2) p18.2) fun p19 =>
  .thn p19.2 (sPick p13.1 (.bool true) p19.1 p19.2) fun p20 =>
  .thn p20.2 (sG p20.1 false (sField (some 7) 0 v10 p20.2) p20.2) fun p21 =>
  .thn p21.2 (sG p20.1 false (K.go (.call n_ir_Instr_Reads [p21.1]) p21.2) p21.2) fun p22 =>
  .thn p22.2 (sG p20.1 false (.ok (v12, p22.2)) p22.2) fun p23 =>
  .thn p23.2 (sG p20.1 false (K.go (.call n_slices_Equal_int [p22.1, p23.1]) p23.2) p23.2) fun p24 =>
  .thn p24.2 (sG p20.1 false (sUn .not p24.1 p24.2) p24.2) fun p25 =>
  .thn p25.2 (sPick p20.1 (.bool true) p25.1 p25.2) fun p26 =>
  .thn p26.2 (sG p26.1 false (sField (some 7) 0 v15 p26.2) p26.2) fun p27 =>
  .thn p27.2 (sG p26.1 false (K.go (.call n_ir_Instr_Reads [p27.1]) p27.2) p27.2) fun p28 =>
  .thn p28.2 (sG p26.1 false (.ok (v16, p28.2)) p28.2) fun p29 =>
  .thn p29.2 (sG p26.1 false (K.go (.call n_slices_Equal_int [p28.1, p29.1]) p29.2) p29.2) fun p30 =>
  .thn p30.2 (sG p26.1 false (sUn .not p30.1 p30.2) p30.2) fun p31 =>
  .thn p31.2 (sPick p26.1 (.bool true) p31.1 p31.2) fun p32 =>
  .thn p32.2 (sG p32.1 false (sLref v15 p32.2) p32.2) fun p33 =>
  .thn p33.2 (sG p32.1 false (sField none 2 v15 p33.2) p33.2) fun p34 =>
  .thn p34.2 (sG p32.1 false (sLref v10 p34.2) p34.2) fun p35 =>
  .thn p35.2 (sG p32.1 false (sField none 2 v10 p35.2) p35.2) fun p36 =>
  .thn p36.2 (sG p32.1 false (sBin .neq p34.1 p36.1 p36.2) p36.2) fun p37 =>
  .thn p37.2 (sPick p32.1 (.bool true) p37.1 p37.2) fun p38 =>
  .thn p38.2 (sG p38.1 false (sLref v15 p38.2) p38.2) fun p39 =>
  .thn p39.2 (sG p38.1 false (sField none 5 v15 p39.2) p39.2) fun p40 =>
  .thn p40.2 (sG p38.1 false (sLref v10 p40.2) p40.2) fun p41 =>
  .thn p41.2 (sG p38.1 false (sField none 5 v10 p41.2) p41.2) fun p42 =>
  .thn p42.2 (sG p38.1 false (sBin .neq p40.1 p42.1 p42.2) p42.2) fun p43 =>
  .thn p43.2 (sPick p38.1 (.bool true) p43.1 p43.2) fun p44 =>
  .thn p44.2 (sG p44.1 false (sLref v15 p44.2) p44.2) fun p45 =>
  .thn p45.2 (sG p44.1 false (sField none 0 v15 p45.2) p45.2) fun p46 =>
  .thn p46.2 (sG p44.1 false (sLref v10 p46.2) p46.2) fun p47 =>
  .thn p47.2 (sG p44.1 false (sField none 0 v10 p47.2) p47.2) fun p48 =>
  .thn p48.2 (sG p44.1 false (sBin .neq p46.1 p48.1 p48.2) p48.2) fun p49 =>
  .thn p49.2 (sPick p44.1 (.bool true) p49.1 p49.2) fun p50 =>
  condX p50.1
  (.ok ((.bool false), p50.2))
  (refinerylaw03_IrInstrs_j9 J v6 v10 v11 v12 p4.1 v29 v30 v31 p50.2)) := (go_eq hJ _ _ _ _).trans (by kernel_rfl)
theorem refinerylaw03_IrInstrs_j8_eq {K : Ctx} {J : JT (Value × St)} (hJ : IsJ K (retK refinerylaw03_IrInstrs_c.results) J) (v6 : Value) (v10 : Value) (v11 : Value) (v12 : Value) (v13 : Value) (v14 : Value) (v15 : Value) (v16 : Value) (v29 : Value) (v30 : Value) (v31 : Value) (v79 : Value) (v80 : Value) (v81 : Value) (st : St) : refinerylaw03_IrInstrs_j8 J v6 v10 v11 v12 v13 v14 v15 v16 v29 v30 v31 v79 v80 v81 st =
  (.thn st (sBin .add v81 (.int .i64 1) st) fun p1 =>
  refinerylaw03_IrInstrs_l1 J v6 v10 v11 v12 v13 v14 v15 v16 v29 v30 v31 v79 v80 p1.1 p1.2) := (go_eq hJ _ _ _ _).trans (by kernel_rfl)
theorem refinerylaw03_IrInstrs_j9_eq {K : Ctx} {J : JT (Value × St)} (hJ : IsJ K (retK refinerylaw03_IrInstrs_c.results) J) (v6 : Value) (v10 : Value) (v11 : Value) (v12 : Value) (v19 : Value) (v29 : Value) (v30 : Value) (v31 : Value) (st : St) : refinerylaw03_IrInstrs_j9 J v6 v10 v11 v12 v19 v29 v30 v31 st =
  (.thn st (sLref v10 st) fun p1 =>
  .thn p1.2 (sField none 0 v10 p1.2) fun p2 =>
  .thn p2.2 (sBin .eql p2.1 (.int .u8 0) p2.2) fun p3 =>
  .thn p3.2 (sG p3.1 false (sLref v10 p3.2) p3.2) fun p4 =>
  .thn p4.2 (sG p3.1 false (sField none 0 v10 p4.2) p4.2) fun p5 =>
  .thn p5.2 (sG p3.1 false (sBin .eql p5.1 (.int .u8 1) p5.2) p5.2) fun p6 =>
  .thn p6.2 (sPick p3.1 (.bool true) p6.1 p6.2) fun p7 =>
  .thn p7.2 (sG p7.1 false (sLref v10 p7.2) p7.2) fun p8 =>
  .thn p8.2 (sG p7.1 false (sField none 0 v10 p8.2) p8.2) fun p9 =>
  .thn p9.2 (sG p7.1 false (sBin .eql p9.1 (.int .u8 2) p9.2) p9.2) fun p10 =>
  .thn p10.2 (sG p7.1 false (.ok (p10.1, p10.2)) p10.2) fun p11 =>
  .thn p11.2 (sG p11.1 true (sLref v10 p11.2) p11.2) fun p12 =>
  .thn p12.2 (sG p11.1 true (sField none 1 v10 p12.2) p12.2) fun p13 =>
  .thn p13.2 (sG p11.1 true (sBin .neq p13.1 (.int .u8 3) p13.2) p13.2) fun p14 =>
  .thn p14.2 (sG p7.1 false (sPick p11.1 p14.1 (.bool false) p14.2) p14.2) fun p15 =>
  .thn p15.2 (sG p7.1 false (.ok (p15.1, p15.2)) p15.2) fun p16 =>
  .thn p16.2 (sG p16.1 true (sLref v10 p16.2) p16.2) fun p17 =>
  .thn p17.2 (sG p16.1 true (sField none 1 v10 p17.2) p17.2) fun p18 =>
  .thn p18.2 (sG p16.1 true (sBin .neq p18.1 (.int .u8 4) p18.2) p18.2) fun p19 =>
  .thn p19.2 (sG p7.1 false (sPick p16.1 p19.1 (.bool false) p19.2) p19.2) fun p20 =>
  .thn p20.2 (sPick p7.1 (.bool true) p20.1 p20.2) fun p21 =>
  .thn p21.2 (sField (some 7) 0 v10 p21.2) fun p22 =>
  .thn p22.2 (K.go (.call n_ir_Instr_Pure [p22.1]) p22.2) fun p23 =>
  .thn p23.2 (sEq true .bools p23.1 p21.1 p23.2) fun p24 =>
  .thn p24.2 (sGo p24.1 false (sField (some 7) 0 v19 p24.2) p24.2) fun p25 =>
  .thn p25.2 (gd p24.1 false >>= fun b => bif b then (K.go (.call n_ir_Instr_Only [p25.1]) p25.2 >>= fun p27 => Res.ok (p27.1, p27.2, p25.2 :: (p22.2 :: []), p27.2.next)) else Res.ok (skipped, p25.2, (p22.2 :: []), p23.2.next)) fun p28 =>
  .thn p28.2.1 (gd p24.1 false >>= fun b => bif b then (sField (some 7) 0 v19 p28.2.1 >>= fun p30 => Res.need (sStays (List.take 1 p28.2.2.1) p28.2.2.2 nothing (fun s => sField (some 7) 0 v19 s) p30.1) "order" >>= fun _ => .ok p30) else .ok (skipped, p28.2.1)) fun p29 =>
  .thn p29.2 (sGo p24.1 false (sEq true (.fields [(0, .int), (1, .int), (2, .int), (3, .int), (4, .int), (5, .int), (6, .int)]) p29.1 p28.1 p29.2) p29.2) fun p31 =>
  .thn p31.2 (sPick p24.1 (.bool true) p31.1 p31.2) fun p33 =>
  .thn p33.2 (sGo p33.1 false (sField (some 7) 0 v19 p33.2) p33.2) fun p34 =>
  .thn p34.2 (gd p33.1 false >>= fun b => bif b then (K.go (.call n_ir_Instr_Reads [p34.1]) p34.2 >>= fun p36 => Res.ok (p36.1, p36.2, p34.2 :: p28.2.2.1, p36.2.next)) else Res.ok (skipped, p34.2, p28.2.2.1, p28.2.2.2)) fun p37 =>
  .thn p37.2.1 (sGo p33.1 false (Res.ok (v12, p37.2.1)) p37.2.1) fun p38 =>
  .thn p38.2 (gd p33.1 false >>= fun b => bif b then (K.go (.call n_slices_Equal_int [p37.1, p38.1]) p38.2 >>= fun p40 => Res.ok (p40.1, p40.2, p38.2 :: p37.2.2.1, p40.2.next)) else Res.ok (skipped, p38.2, p37.2.2.1, p37.2.2.2)) fun p41 =>
  .thn p41.2.1 (sGo p33.1 false (sUn .not p41.1 p41.2.1) p41.2.1) fun p42 =>
  .thn p42.2 (sPick p33.1 (.bool true) p42.1 p42.2) fun p44 =>
  .thn p44.2 (sGo p44.1 false (sLref v19 p44.2) p44.2) fun p45 =>
  .thn p45.2 (sGo p44.1 false (sField none 0 v19 p45.2) p45.2) fun p47 =>
  .thn p47.2 (sGo p44.1 false (sLref v10 p47.2) p47.2) fun p49 =>
  .thn p49.2 (sGo p44.1 false (sField none 0 v10 p49.2) p49.2) fun p51 =>
  .thn p51.2 (sGo p44.1 false (sBin .neq p47.1 p51.1 p51.2) p51.2) fun p53 =>
  .thn p53.2 (sPick p44.1 (.bool true) p53.1 p53.2) fun p55 =>
  .thn p55.2 (sGo p55.1 false (sLref v19 p55.2) p55.2) fun p56 =>
  .thn p56.2 (sGo p55.1 false (sField none 5 v19 p56.2) p56.2) fun p58 =>
  .thn p58.2 (sGo p55.1 false (sBin .neq p58.1 (.int .i64 0) p58.2) p58.2) fun p60 =>
  .thn p60.2 (sGo p55.1 false (Res.ok (p60.1, p60.2)) p60.2) fun p62 =>
  .thn p62.2 (sGo p62.1 true (sLref v19 p62.2) p62.2) fun p64 =>
  .thn p64.2 (sGo p62.1 true (sField none 0 v19 p64.2) p64.2) fun p66 =>
  .thn p66.2 (sGo p62.1 true (sBin .neq p66.1 (.int .u8 0) p66.2) p66.2) fun p68 =>
  .thn p68.2 (sGo p55.1 false (sPick p62.1 p68.1 (.bool false) p68.2) p68.2) fun p70 =>
  .thn p70.2 (sPick p55.1 (.bool true) p70.1 p70.2) fun p72 =>
  .thn p72.2 (sGo p72.1 false (sLref v19 p72.2) p72.2) fun p73 =>
  .thn p73.2 (sGo p72.1 false (sField none 6 v19 p73.2) p73.2) fun p75 =>
  .thn p75.2 (sGo p72.1 false (sBin .neq p75.1 (.int .i64 0) p75.2) p75.2) fun p77 =>
  .thn p77.2 (sGo p72.1 false (Res.ok (p77.1, p77.2)) p77.2) fun p79 =>
  .thn p79.2 (sGo p79.1 true (sLref v19 p79.2) p79.2) fun p81 =>
  .thn p81.2 (sGo p79.1 true (sField none 0 v19 p81.2) p81.2) fun p83 =>
  .thn p83.2 (sGo p79.1 true (sBin .neq p83.1 (.int .u8 5) p83.2) p83.2) fun p85 =>
  .thn p85.2 (sGo p72.1 false (sPick p79.1 p85.1 (.bool false) p85.2) p85.2) fun p87 =>
  .thn p87.2 (sGo p72.1 false (Res.ok (p87.1, p87.2)) p87.2) fun p89 =>
  .thn p89.2 (sGo p89.1 true (sLref v19 p89.2) p89.2) fun p91 =>
  .thn p91.2 (sGo p89.1 true (sField none 0 v19 p91.2) p91.2) fun p93 =>
  .thn p93.2 (sGo p89.1 true (sBin .neq p93.1 (.int .u8 6) p93.2) p93.2) fun p95 =>
  .thn p95.2 (sGo p72.1 false (sPick p89.1 p95.1 (.bool false) p95.2) p95.2) fun p97 =>
  .thn p97.2 (sPick p72.1 (.bool true) p97.1 p97.2) fun p99 =>
  .thn p99.2 (sGo p99.1 false (sLref v19 p99.2) p99.2) fun p100 =>
  .thn p100.2 (sGo p99.1 false (sField none 1 v19 p100.2) p100.2) fun p102 =>
  .thn p102.2 (sGo p99.1 false (sBin .neq p102.1 (.int .u8 0) p102.2) p102.2) fun p104 =>
  .thn p104.2 (sGo p99.1 false (Res.ok (p104.1, p104.2)) p104.2) fun p106 =>
  .thn p106.2 (sGo p106.1 true (sLref v19 p106.2) p106.2) fun p108 =>
  .thn p108.2 (sGo p106.1 true (sField none 0 v19 p108.2) p108.2) fun p110 =>
  .thn p110.2 (sGo p106.1 true (sBin .neq p110.1 (.int .u8 2) p110.2) p110.2) fun p112 =>
  .thn p112.2 (sGo p99.1 false (sPick p106.1 p112.1 (.bool false) p112.2) p112.2) fun p114 =>
  .thn p114.2 (sPick p99.1 (.bool true) p114.1 p114.2) fun p116 =>
  condX p116.1
  (.ok ((.bool false), p116.2))
  (refinerylaw03_IrInstrs_j10 J v6 v10 v11 v19 v29 v30 v31 p116.2)) := (go_eq hJ _ _ _ _).trans (by kernel_rfl)
theorem refinerylaw03_IrInstrs_j10_eq {K : Ctx} {J : JT (Value × St)} (hJ : IsJ K (retK refinerylaw03_IrInstrs_c.results) J) (v6 : Value) (v10 : Value) (v11 : Value) (v19 : Value) (v29 : Value) (v30 : Value) (v31 : Value) (st : St) : refinerylaw03_IrInstrs_j10 J v6 v10 v11 v19 v29 v30 v31 st =
  (.thn st (sLref v10 st) fun p1 =>
  .thn p1.2 (sField none 0 v10 p1.2) fun p2 =>
  .thn p2.2 (sBin .eql p2.1 (.int .u8 0) p2.2) fun p3 =>
  .thn p3.2 (sG p3.1 true (sLref v19 p3.2) p3.2) fun p4 =>
  .thn p4.2 (sG p3.1 true (sField none 5 v19 p4.2) p4.2) fun p5 =>
  .thn p5.2 (sG p3.1 true (sLref v10 p5.2) p5.2) fun p6 =>
  .thn p6.2 (sG p3.1 true (sField none 5 v10 p6.2) p6.2) fun p7 =>
  .thn p7.2 (sG p3.1 true (sBin .neq p5.1 p7.1 p7.2) p7.2) fun p8 =>
  .thn p8.2 (sPick p3.1 p8.1 (.bool false) p8.2) fun p9 =>
  .thn p9.2 (sG p9.1 false (sLref v10 p9.2) p9.2) fun p10 =>
  .thn p10.2 (sG p9.1 false (sField none 0 v10 p10.2) p10.2) fun p11 =>
  .thn p11.2 (sG p9.1 false (sBin .eql p11.1 (.int .u8 2) p11.2) p11.2) fun p12 =>
  .thn p12.2 (sG p9.1 false (.ok (p12.1, p12.2)) p12.2) fun p13 =>
  .thn p13.2 (sG p13.1 true (sLref v19 p13.2) p13.2) fun p14 =>
  .thn p14.2 (sG p13.1 true (sField none 1 v19 p14.2) p14.2) fun p15 =>
  .thn p15.2 (sG p13.1 true (sLref v10 p15.2) p15.2) fun p16 =>
  .thn p16.2 (sG p13.1 true (sField none 1 v10 p16.2) p16.2) fun p17 =>
  .thn p17.2 (sG p13.1 true (sBin .neq p15.1 p17.1 p17.2) p17.2) fun p18 =>
  .thn p18.2 (sG p9.1 false (sPick p13.1 p18.1 (.bool false) p18.2) p18.2) fun p19 =>
  .thn p19.2 (sPick p9.1 (.bool true) p19.1 p19.2) fun p20 =>
  .thn p20.2 (sG p20.1 false (sLref v10 p20.2) p20.2) fun p21 =>
  .thn p21.2 (sG p20.1 false (sField none 0 v10 p21.2) p21.2) fun p22 =>
  .thn p22.2 (sG p20.1 false (sBin .eql p22.1 (.int .u8 5) p22.2) p22.2) fun p23 =>
  .thn p23.2 (sG p20.1 false (.ok (p23.1, p23.2)) p23.2) fun p24 =>
  .thn p24.2 (sG p24.1 false (sLref v10 p24.2) p24.2) fun p25 =>
  .thn p25.2 (sG p24.1 false (sField none 0 v10 p25.2) p25.2) fun p26 =>
  .thn p26.2 (sG p24.1 false (sBin .eql p26.1 (.int .u8 6) p26.2) p26.2) fun p27 =>
  .thn p27.2 (sG p20.1 false (sPick p24.1 (.bool true) p27.1 p27.2) p27.2) fun p28 =>
  .thn p28.2 (sG p20.1 false (.ok (p28.1, p28.2)) p28.2) fun p29 =>
  .thn p29.2 (sG p29.1 true (sLref v19 p29.2) p29.2) fun p30 =>
  .thn p30.2 (sG p29.1 true (sField none 6 v19 p30.2) p30.2) fun p31 =>
  .thn p31.2 (sG p29.1 true (sLref v10 p31.2) p31.2) fun p32 =>
  .thn p32.2 (sG p29.1 true (sField none 6 v10 p32.2) p32.2) fun p33 =>
  .thn p33.2 (sG p29.1 true (sBin .neq p31.1 p33.1 p33.2) p33.2) fun p34 =>
  .thn p34.2 (sG p20.1 false (sPick p29.1 p34.1 (.bool false) p34.2) p34.2) fun p35 =>
  .thn p35.2 (sPick p20.1 (.bool true) p35.1 p35.2) fun p36 =>
  .thn p36.2 (sG p36.1 false (.ok (v11, p36.2)) p36.2) fun p37 =>
  .thn p37.2 (sG p36.1 false (.ok (p37.1, p37.2)) p37.2) fun p38 =>
  .thn p38.2 (sG p38.1 true (sLref v19 p38.2) p38.2) fun p39 =>
  .thn p39.2 (sG p38.1 true (sField none 2 v19 p39.2) p39.2) fun p40 =>
  .thn p40.2 (sG p38.1 true (sLref v10 p40.2) p40.2) fun p41 =>
  .thn p41.2 (sG p38.1 true (sField none 2 v10 p41.2) p41.2) fun p42 =>
  .thn p42.2 (sG p38.1 true (sBin .neq p40.1 p42.1 p42.2) p42.2) fun p43 =>
  .thn p43.2 (sG p36.1 false (sPick p38.1 p43.1 (.bool false) p43.2) p43.2) fun p44 =>
  .thn p44.2 (sPick p36.1 (.bool true) p44.1 p44.2) fun p45 =>
  condX p45.1
  (.ok ((.bool false), p45.2))
  (refinerylaw03_IrInstrs_j11 J v6 v29 v30 v31 p45.2)) := (go_eq hJ _ _ _ _).trans (by kernel_rfl)
theorem refinerylaw03_IrInstrs_j11_eq {K : Ctx} {J : JT (Value × St)} (hJ : IsJ K (retK refinerylaw03_IrInstrs_c.results) J) (v6 : Value) (v29 : Value) (v30 : Value) (v31 : Value) (st : St) : refinerylaw03_IrInstrs_j11 J v6 v29 v30 v31 st =
  (.thn st (sBin .add v31 (.int .i64 1) st) fun p1 =>
  refinerylaw03_IrInstrs_l0 J v6 v29 v30 p1.1 p1.2) := (go_eq hJ _ _ _ _).trans (by kernel_rfl)
end Go.Proofs.Ytfknooeebmdfoaa.Sh
