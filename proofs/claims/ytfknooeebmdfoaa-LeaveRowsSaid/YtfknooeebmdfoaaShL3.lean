/-
  The functions of the program, operation by operation, as the abstract machine has them.
-/
import Derived.Test.YtfknooeebmdfoaaProg
import Derived.Test.YtfknooeebmdfoaaShN
set_option linter.unusedVariables false
set_option maxRecDepth 100000
namespace Go.Proofs.Ytfknooeebmdfoaa.Sh
open Go Go.AM Go.Proofs

/-! ### refinery/refinerylaw22.LeaveRows -/
open C in
noncomputable def refinerylaw22_LeaveRows_c : AFun := ⟨2, [.tmp 4],
 (s (.ops [o 4 (.mv (c (.bool false)))])
 (s (s (.ops [o 29 (.call (f 11) []), o 30 (.un .not (t 29))])
 (.cond (t 30) (s (.ops [o 4 (.mv (c (.bool false)))])
 .ret) .skip))
 (s (.keep [0, 1])
 (s (s (.ops [o 31 (.mv (t 0)), o 32 (.len .slice (t 31)), o 33 (.bin .gtr (t 32) (c (i 12)))])
 (.cond (t 33) (s (.ops [o 4 (.mv (c (.bool true)))])
 .ret) .skip))
 (s (.keep [0, 1])
 (s (.ops [o 5 (.mv (c (.slice none 0 0)))])
 (s (.ops [o 34 .newMap, o 6 (.mv (t 34))])
 (s (.ops [o 7 (.mv (c (i 0)))])
 (s (s (.ops [o 35 (.mv (t 0)), o 36 (.len .slice (t 35)), o 37 (.mv (c (i 0)))])
 (.block 0 (s (.keep [0, 1, 5, 6, 7, 35, 36, 37])
 (.loop (s (s (.ops [o 38 (.bin .lss (t 37) (t 36))])
 (s (.cond (t 38) .skip (.exit 0))
 (s (.keep [0, 1, 5, 6, 7, 35, 36, 37])
 (s (.block 1 (s (.ops [o 39 (.mv (t 37)), o 40 (.ixA 1 none (t 35) (t 37)), o 41 (.load none (t 40)), o 8 (.mv (t 39)), o 9 (.mv (t 41))])
 (s (.ops [o 42 (.mv (t 8)), o 43 (.mv (t 9)), o 44 (.conv (.int .i64) (t 43)), o 45 (.bin .rem (t 44) (c (i 14))), o 46 (.build [(i 0), (i 0)] [(0, 1, (t 42)), (1, 1, (t 45))]), o 10 (.lnew [(i 0), (i 0)]), o 10 (.upd 2 0 (t 10) (t 46))])
 (s (.ops [o 47 (.mv (t 5)), o 48 (.field (some 2) 0 (t 10)), o 49 (.lit 2 1 [(i 0), (i 0)] [(0, 2, (t 48))]), o 50 (.append 2 16 (t 47) (t 49)), o 5 (.mv (t 50))])
 (s (.ops [o 51 (.mv (t 6)), o 52 (.lref (t 10)), o 53 (.field none 0 (t 10)), o 54 (.lref (t 10)), o 55 (.field none 1 (t 10)), n (.mapSet (.cell .int) (t 51) (t 53) (t 55))])
 (s (.ops [o 56 (.lref (t 10)), o 57 (.field none 0 (t 10)), o 58 (.lref (t 10)), o 59 (.field none 1 (t 10)), o 60 (.bin .neq (t 57) (t 59))])
 (.cond (t 60) (.ops [o 61 (.mv (t 7)), o 62 (.bin .add (t 61) (c (i 1))), o 7 (.mv (t 62))]) .skip)))))))
 (s (.keep [0, 1, 5, 6, 7, 35, 36, 37])
 (.ops [o 63 (.bin .add (t 37) (c (i 1))), o 37 (.mv (t 63))]))))))
 (.keep [0, 1, 5, 6, 7, 35, 36, 37]))))))
 (s (.keep [0, 1, 5, 6, 7])
 (s (.ops [o 64 .newMap, o 11 (.mv (t 64))])
 (s (s (.ops [o 65 (.mv (t 0)), o 66 (.len .slice (t 65)), o 67 (.mv (c (i 0)))])
 (.block 2 (s (.keep [0, 1, 5, 6, 7, 11, 66, 67])
 (.loop (s (s (.ops [o 68 (.bin .lss (t 67) (t 66))])
 (s (.cond (t 68) .skip (.exit 2))
 (s (.keep [0, 1, 5, 6, 7, 11, 66, 67])
 (s (.block 3 (s (.ops [o 69 (.mv (t 67)), o 12 (.mv (t 69))])
 (s (.ops [o 70 (.mv (t 12)), o 13 (.mv (t 70)), o 14 (.mv (c (i 0)))])
 (s (.ops [o 15 (.mv (c (.slice none 0 0)))])
 (.block 4 (s (.keep [0, 1, 5, 6, 7, 11, 12, 13, 14, 15, 66, 67])
 (.loop (s (s (s (.ops [o 71 (.mv (t 14)), o 72 (.mv (t 0)), o 73 (.len .slice (t 72)), o 74 (.bin .leq (t 71) (t 73))])
 (.cond (t 74) .skip (.exit 4)))
 (s (.keep [0, 1, 5, 6, 7, 11, 12, 13, 14, 15, 66, 67])
 (.block 5 (s (.ops [o 76 (.mv (t 6)), o 77 (.mv (t 13)), o 78 (.look (.cell .int) (i 0) true (t 76) (t 77)), o 75 (.mv (t 78)), o 79 (.extract (t 75) 0), o 80 (.extract (t 75) 1), o 16 (.mv (t 79)), o 17 (.mv (t 80))])
 (s (s (.ops [o 81 (.mv (t 17)), o 82 (.un .not (t 81)), o 83 (.mv (t 82)), g 84 false 83 (.mv (t 11)), g 85 false 83 (.mv (t 13)), g 86 false 83 (.look (.cell .int) (.bool false) false (t 84) (t 85)), o 87 (.pick (t 83) (c (.bool true)) (t 86))])
 (.cond (t 87) (.exit 4) .skip))
 (s (.keep [0, 1, 5, 6, 7, 11, 12, 13, 14, 15, 16, 66, 67])
 (s (.ops [o 88 (.mv (t 15)), o 89 (.mv (t 13)), o 90 (.lit 1 1 [(i 0)] [(0, 1, (t 89))]), o 91 (.append 1 8 (t 88) (t 90)), o 15 (.mv (t 91))])
 (s (s (.ops [o 92 (.mv (t 16)), o 13 (.mv (t 92))])
 (s (.ops [o 93 (.mv (t 13)), o 94 (.mv (t 12)), o 95 (.bin .eql (t 93) (t 94))])
 (.cond (t 95) (s (s (.ops [o 96 (.mv (t 15)), o 97 (.len .slice (t 96)), o 98 (.bin .gtr (t 97) (c (i 1)))])
 (.cond (t 98) (.ops [o 99 (.mv (t 7)), o 100 (.bin .add (t 99) (c (i 1))), o 7 (.mv (t 100))]) .skip))
 (s (.keep [0, 1, 5, 6, 7, 11, 15, 66, 67])
 (s (s (.ops [o 101 (.mv (t 15)), o 102 (.len .slice (t 101)), o 103 (.mv (c (i 0)))])
 (.block 6 (s (.keep [0, 1, 5, 6, 7, 11, 66, 67, 101, 102, 103])
 (.loop (s (s (.ops [o 104 (.bin .lss (t 103) (t 102))])
 (s (.cond (t 104) .skip (.exit 6))
 (s (.keep [0, 1, 5, 6, 7, 11, 66, 67, 101, 102, 103])
 (s (.block 7 (s (.ops [o 105 (.ixA 1 none (t 101) (t 103)), o 106 (.load none (t 105)), o 19 (.mv (t 106))])
 (.ops [o 107 (.mv (t 11)), o 108 (.mv (t 19)), n (.mapSet (.cell .int) (t 107) (t 108) (c (.bool true)))])))
 (s (.keep [0, 1, 5, 6, 7, 11, 66, 67, 101, 102, 103])
 (.ops [o 109 (.bin .add (t 103) (c (i 1))), o 103 (.mv (t 109))]))))))
 (.keep [0, 1, 5, 6, 7, 11, 66, 67, 101, 102, 103]))))))
 (s (.keep [0, 1, 5, 6, 7, 11, 66, 67])
 (.exit 4))))) .skip)))
 (s (.keep [0, 1, 5, 6, 7, 11, 12, 13, 14, 15, 66, 67])
 (.ops [o 110 (.mv (t 14)), o 111 (.bin .add (t 110) (c (i 1))), o 14 (.mv (t 111))]))))))))))
 (.keep [0, 1, 5, 6, 7, 11, 12, 13, 14, 15, 66, 67])))))))))
 (s (.keep [0, 1, 5, 6, 7, 11, 66, 67])
 (.ops [o 112 (.bin .add (t 67) (c (i 1))), o 67 (.mv (t 112))]))))))
 (.keep [0, 1, 5, 6, 7, 11, 66, 67]))))))
 (s (.keep [1, 5, 6, 7])
 (s (.ops [o 113 (.mv (t 5)), o 114 (.call (f 12) [(t 113), (c (i 20))]), o 20 (.mv (t 114))])
 (s (s (.ops [o 115 (.mv (t 20)), o 116 (.len .slice (t 115)), o 117 (.mv (t 7)), o 118 (.bin .neq (t 116) (t 117))])
 (.cond (t 118) (s (.ops [o 4 (.mv (c (.bool false)))])
 .ret) .skip))
 (s (.keep [1, 6, 20])
 (s (.ops [o 21 (.new [(i 0), (i 0), (i 0), (i 0), (i 0), (i 0), (i 0), (i 0), (i 0), (i 0), (i 0), (i 0), (i 0), (i 0), (i 0), (i 0), (i 0), (i 0), (i 0), (i 0), (i 0)])])
 (s (s (.ops [o 119 (.mv (c (i 0)))])
 (.block 8 (s (.keep [1, 6, 20, 21, 119])
 (.loop (s (s (.ops [o 120 (.bin .lss (t 119) (c (i 21)))])
 (s (.cond (t 120) .skip (.exit 8))
 (s (.keep [1, 6, 20, 21, 119])
 (s (.block 9 (s (.ops [o 121 (.mv (t 119)), o 22 (.mv (t 121))])
 (.ops [o 122 (.mv (t 22)), o 123 (.mv (t 1)), o 124 (.mv (t 22)), o 125 (.mv (t 22)), o 126 (.bin .mul (t 124) (t 125)), o 127 (.bin .add (t 123) (t 126)), o 128 (.ixA 1 (some 21) (t 21) (t 122)), n (.store 1 (t 128) (t 127))])))
 (s (.keep [1, 6, 20, 21, 119])
 (.ops [o 129 (.bin .add (t 119) (c (i 1))), o 119 (.mv (t 129))]))))))
 (.keep [1, 6, 20, 21, 119]))))))
 (s (.keep [6, 20, 21])
 (s (.ops [o 130 (.load (some 21) (t 21)), o 23 (.new [(i 0), (i 0), (i 0), (i 0), (i 0), (i 0), (i 0), (i 0), (i 0), (i 0), (i 0), (i 0), (i 0), (i 0), (i 0), (i 0), (i 0), (i 0), (i 0), (i 0), (i 0)]), n (.store 21 (t 23) (t 130))])
 (s (s (.ops [o 131 (.mv (t 20)), o 132 (.len .slice (t 131)), o 133 (.mv (c (i 0)))])
 (.block 10 (s (.keep [6, 21, 23, 131, 132, 133])
 (.loop (s (s (.ops [o 134 (.bin .lss (t 133) (t 132))])
 (s (.cond (t 134) .skip (.exit 10))
 (s (.keep [6, 21, 23, 131, 132, 133])
 (s (.block 11 (s (.ops [o 135 (.ixA 7 none (t 131) (t 133)), o 136 (.load (some 7) (t 135)), o 25 (.lnew [(u 0), (u 0), (i 0), (i 0), (i 0), (i 0), (i 0)]), o 25 (.upd 7 0 (t 25) (t 136))])
 (s (s (.ops [o 137 (.lref (t 25)), o 138 (.field none 0 (t 25)), o 139 (.bin .neq (t 138) (c (u 1))), o 140 (.mv (t 139)), g 141 false 140 (.lref (t 25)), g 142 false 140 (.field none 2 (t 25)), g 143 false 140 (.bin .lss (t 142) (c (i 0))), o 144 (.pick (t 140) (c (.bool true)) (t 143)), o 145 (.mv (t 144)), g 146 false 145 (.lref (t 25)), g 147 false 145 (.field none 2 (t 25)), g 148 false 145 (.bin .gtr (t 147) (c (i 20))), o 149 (.pick (t 145) (c (.bool true)) (t 148)), o 150 (.mv (t 149)), g 151 false 150 (.lref (t 25)), g 152 false 150 (.field none 3 (t 25)), g 153 false 150 (.bin .lss (t 152) (c (i 0))), o 154 (.pick (t 150) (c (.bool true)) (t 153)), o 155 (.mv (t 154)), g 156 false 155 (.lref (t 25)), g 157 false 155 (.field none 3 (t 25)), g 158 false 155 (.bin .gtr (t 157) (c (i 20))), o 159 (.pick (t 155) (c (.bool true)) (t 158))])
 (.cond (t 159) (s (.ops [o 4 (.mv (c (.bool false)))])
 .ret) .skip))
 (s (.keep [6, 21, 23, 25, 131, 132, 133])
 (.draw [d 0 0 false (o 160 (.lref (t 25))), d 1 0 false (o 161 (.field none 2 (t 25))), d 2 0 false (o 162 (.lref (t 25))), d 3 0 false (o 163 (.field none 3 (t 25))), d 4 0 false (o 164 (.ixA 1 (some 21) (t 21) (t 163))), d 5 0 false (o 165 (.load none (t 164))), d 6 0 false (o 166 (.ixA 1 (some 21) (t 21) (t 161))), d 7 0 true (n (.store 1 (t 166) (t 165)))])))))
 (s (.keep [6, 21, 23, 131, 132, 133])
 (.ops [o 167 (.bin .add (t 133) (c (i 1))), o 133 (.mv (t 167))]))))))
 (.keep [6, 21, 23, 131, 132, 133]))))))
 (s (.keep [6, 21, 23])
 (s (s (.ops [o 168 (.mv (c (i 0)))])
 (.block 12 (s (.keep [6, 21, 23, 168])
 (.loop (s (s (.ops [o 169 (.bin .lss (t 168) (c (i 20)))])
 (s (.cond (t 169) .skip (.exit 12))
 (s (.keep [6, 21, 23, 168])
 (s (.block 13 (s (.ops [o 170 (.mv (t 168)), o 26 (.mv (t 170))])
 (s (.ops [o 172 (.mv (t 6)), o 173 (.mv (t 26)), o 174 (.look (.cell .int) (i 0) true (t 172) (t 173)), o 171 (.mv (t 174)), o 175 (.extract (t 171) 0), o 176 (.extract (t 171) 1), o 27 (.mv (t 175)), o 28 (.mv (t 176))])
 (s (s (.ops [o 177 (.mv (t 28)), o 178 (.un .not (t 177))])
 (.cond (t 178) (.ops [o 179 (.mv (t 26)), o 27 (.mv (t 179))]) .skip))
 (s (.keep [6, 21, 23, 26, 27, 168])
 (s (.draw [d 0 0 false (o 180 (.mv (t 26))), d 1 0 false (o 181 (.ixA 1 (some 21) (t 21) (t 180))), d 2 0 false (o 182 (.load none (t 181))), d 3 0 false (o 183 (.mv (t 27))), d 4 0 false (o 184 (.ixA 1 (some 21) (t 23) (t 183))), d 5 0 false (o 185 (.load none (t 184))), d 6 0 false (o 186 (.bin .neq (t 182) (t 185)))])
 (.cond (t 186) (s (.ops [o 4 (.mv (c (.bool false)))])
 .ret) .skip)))))))
 (s (.keep [6, 21, 23, 168])
 (.ops [o 187 (.bin .add (t 168) (c (i 1))), o 168 (.mv (t 187))]))))))
 (.keep [6, 21, 23, 168]))))))
 (s (.keep [])
 (s (.ops [o 4 (.mv (c (.bool true)))])
 .ret)))))))))))))))))))))))))⟩
theorem refinerylaw22_LeaveRows_is : pgF n_refinerylaw22_LeaveRows = some refinerylaw22_LeaveRows_c := by kernel_rfl
noncomputable def refinerylaw22_LeaveRows_j0 (J : JT (Value × St)) (v0 : Value) (v1 : Value) (st : St) : Res (Value × St) := goX J refinerylaw22_LeaveRows_c.body [1, 1, 1] (envT [(0, v0), (1, v1)]) st
noncomputable def refinerylaw22_LeaveRows_j1 (J : JT (Value × St)) (v0 : Value) (v1 : Value) (st : St) : Res (Value × St) := goX J refinerylaw22_LeaveRows_c.body [1, 1, 1, 1, 1] (envT [(0, v0), (1, v1)]) st
noncomputable def refinerylaw22_LeaveRows_l0 (J : JT (Value × St)) (v0 : Value) (v1 : Value) (v5 : Value) (v6 : Value) (v7 : Value) (v35 : Value) (v36 : Value) (v37 : Value) (st : St) : Res (Value × St) := lpX J refinerylaw22_LeaveRows_c.body [1, 1, 1, 1, 1, 1, 1, 1, 0, 1, 0, 1] (envT [(0, v0), (1, v1), (5, v5), (6, v6), (7, v7), (35, v35), (36, v36), (37, v37)]) st
noncomputable def refinerylaw22_LeaveRows_j2 (J : JT (Value × St)) (v0 : Value) (v1 : Value) (v5 : Value) (v6 : Value) (v7 : Value) (v35 : Value) (v36 : Value) (v37 : Value) (st : St) : Res (Value × St) := goX J refinerylaw22_LeaveRows_c.body [1, 1, 1, 1, 1, 1, 1, 1, 0, 1, 0, 1, 0, 0, 1, 1, 1] (envT [(0, v0), (1, v1), (5, v5), (6, v6), (7, v7), (35, v35), (36, v36), (37, v37)]) st
noncomputable def refinerylaw22_LeaveRows_j3 (J : JT (Value × St)) (v0 : Value) (v1 : Value) (v5 : Value) (v6 : Value) (v7 : Value) (st : St) : Res (Value × St) := goX J refinerylaw22_LeaveRows_c.body [1, 1, 1, 1, 1, 1, 1, 1, 1, 1] (envT [(0, v0), (1, v1), (5, v5), (6, v6), (7, v7)]) st
noncomputable def refinerylaw22_LeaveRows_j4 (J : JT (Value × St)) (v0 : Value) (v1 : Value) (v5 : Value) (v6 : Value) (v7 : Value) (v35 : Value) (v36 : Value) (v37 : Value) (st : St) : Res (Value × St) := goX J refinerylaw22_LeaveRows_c.body [1, 1, 1, 1, 1, 1, 1, 1, 0, 1, 0, 1, 0, 0, 1, 1, 1, 1, 1] (envT [(0, v0), (1, v1), (5, v5), (6, v6), (7, v7), (35, v35), (36, v36), (37, v37)]) st
noncomputable def refinerylaw22_LeaveRows_l1 (J : JT (Value × St)) (v0 : Value) (v1 : Value) (v5 : Value) (v6 : Value) (v7 : Value) (v11 : Value) (v66 : Value) (v67 : Value) (st : St) : Res (Value × St) := lpX J refinerylaw22_LeaveRows_c.body [1, 1, 1, 1, 1, 1, 1, 1, 1, 1, 1, 0, 1, 0, 1] (envT [(0, v0), (1, v1), (5, v5), (6, v6), (7, v7), (11, v11), (66, v66), (67, v67)]) st
noncomputable def refinerylaw22_LeaveRows_j5 (J : JT (Value × St)) (v0 : Value) (v1 : Value) (v5 : Value) (v6 : Value) (v7 : Value) (v11 : Value) (v66 : Value) (v67 : Value) (st : St) : Res (Value × St) := goX J refinerylaw22_LeaveRows_c.body [1, 1, 1, 1, 1, 1, 1, 1, 1, 1, 1, 0, 1, 0, 1, 0, 0, 1, 1, 1] (envT [(0, v0), (1, v1), (5, v5), (6, v6), (7, v7), (11, v11), (66, v66), (67, v67)]) st
noncomputable def refinerylaw22_LeaveRows_j6 (J : JT (Value × St)) (v1 : Value) (v5 : Value) (v6 : Value) (v7 : Value) (st : St) : Res (Value × St) := goX J refinerylaw22_LeaveRows_c.body [1, 1, 1, 1, 1, 1, 1, 1, 1, 1, 1, 1, 1] (envT [(1, v1), (5, v5), (6, v6), (7, v7)]) st
noncomputable def refinerylaw22_LeaveRows_l2 (J : JT (Value × St)) (v0 : Value) (v1 : Value) (v5 : Value) (v6 : Value) (v7 : Value) (v11 : Value) (v12 : Value) (v13 : Value) (v14 : Value) (v15 : Value) (v66 : Value) (v67 : Value) (st : St) : Res (Value × St) := lpX J refinerylaw22_LeaveRows_c.body [1, 1, 1, 1, 1, 1, 1, 1, 1, 1, 1, 0, 1, 0, 1, 0, 0, 1, 1, 1, 0, 0, 1, 1, 1, 0, 1] (envT [(0, v0), (1, v1), (5, v5), (6, v6), (7, v7), (11, v11), (12, v12), (13, v13), (14, v14), (15, v15), (66, v66), (67, v67)]) st
noncomputable def refinerylaw22_LeaveRows_j7 (J : JT (Value × St)) (v1 : Value) (v6 : Value) (v20 : Value) (st : St) : Res (Value × St) := goX J refinerylaw22_LeaveRows_c.body [1, 1, 1, 1, 1, 1, 1, 1, 1, 1, 1, 1, 1, 1, 1, 1] (envT [(1, v1), (6, v6), (20, v20)]) st
noncomputable def refinerylaw22_LeaveRows_j8 (J : JT (Value × St)) (v0 : Value) (v1 : Value) (v5 : Value) (v6 : Value) (v7 : Value) (v11 : Value) (v12 : Value) (v13 : Value) (v14 : Value) (v15 : Value) (v66 : Value) (v67 : Value) (st : St) : Res (Value × St) := goX J refinerylaw22_LeaveRows_c.body [1, 1, 1, 1, 1, 1, 1, 1, 1, 1, 1, 0, 1, 0, 1, 0, 0, 1, 1, 1, 0, 0, 1, 1, 1, 0, 1, 0, 0, 1, 1] (envT [(0, v0), (1, v1), (5, v5), (6, v6), (7, v7), (11, v11), (12, v12), (13, v13), (14, v14), (15, v15), (66, v66), (67, v67)]) st
noncomputable def refinerylaw22_LeaveRows_j9 (J : JT (Value × St)) (v0 : Value) (v1 : Value) (v5 : Value) (v6 : Value) (v7 : Value) (v11 : Value) (v66 : Value) (v67 : Value) (st : St) : Res (Value × St) := goX J refinerylaw22_LeaveRows_c.body [1, 1, 1, 1, 1, 1, 1, 1, 1, 1, 1, 0, 1, 0, 1, 0, 0, 1, 1, 1, 1, 1] (envT [(0, v0), (1, v1), (5, v5), (6, v6), (7, v7), (11, v11), (66, v66), (67, v67)]) st
noncomputable def refinerylaw22_LeaveRows_l3 (J : JT (Value × St)) (v1 : Value) (v6 : Value) (v20 : Value) (v21 : Value) (v119 : Value) (st : St) : Res (Value × St) := lpX J refinerylaw22_LeaveRows_c.body [1, 1, 1, 1, 1, 1, 1, 1, 1, 1, 1, 1, 1, 1, 1, 1, 1, 0, 1, 0, 1] (envT [(1, v1), (6, v6), (20, v20), (21, v21), (119, v119)]) st
noncomputable def refinerylaw22_LeaveRows_j10 (J : JT (Value × St)) (v0 : Value) (v1 : Value) (v5 : Value) (v6 : Value) (v7 : Value) (v11 : Value) (v12 : Value) (v13 : Value) (v14 : Value) (v15 : Value) (v16 : Value) (v66 : Value) (v67 : Value) (st : St) : Res (Value × St) := goX J refinerylaw22_LeaveRows_c.body [1, 1, 1, 1, 1, 1, 1, 1, 1, 1, 1, 0, 1, 0, 1, 0, 0, 1, 1, 1, 0, 0, 1, 1, 1, 0, 1, 0, 0, 1, 1, 0, 1, 1, 1] (envT [(0, v0), (1, v1), (5, v5), (6, v6), (7, v7), (11, v11), (12, v12), (13, v13), (14, v14), (15, v15), (16, v16), (66, v66), (67, v67)]) st
noncomputable def refinerylaw22_LeaveRows_j11 (J : JT (Value × St)) (v1 : Value) (v6 : Value) (v20 : Value) (v21 : Value) (v119 : Value) (st : St) : Res (Value × St) := goX J refinerylaw22_LeaveRows_c.body [1, 1, 1, 1, 1, 1, 1, 1, 1, 1, 1, 1, 1, 1, 1, 1, 1, 0, 1, 0, 1, 0, 0, 1, 1, 1] (envT [(1, v1), (6, v6), (20, v20), (21, v21), (119, v119)]) st
noncomputable def refinerylaw22_LeaveRows_j12 (J : JT (Value × St)) (v6 : Value) (v20 : Value) (v21 : Value) (st : St) : Res (Value × St) := goX J refinerylaw22_LeaveRows_c.body [1, 1, 1, 1, 1, 1, 1, 1, 1, 1, 1, 1, 1, 1, 1, 1, 1, 1, 1] (envT [(6, v6), (20, v20), (21, v21)]) st
noncomputable def refinerylaw22_LeaveRows_j13 (J : JT (Value × St)) (v0 : Value) (v1 : Value) (v5 : Value) (v6 : Value) (v7 : Value) (v11 : Value) (v15 : Value) (v66 : Value) (v67 : Value) (st : St) : Res (Value × St) := goX J refinerylaw22_LeaveRows_c.body [1, 1, 1, 1, 1, 1, 1, 1, 1, 1, 1, 0, 1, 0, 1, 0, 0, 1, 1, 1, 0, 0, 1, 1, 1, 0, 1, 0, 0, 1, 1, 0, 1, 1, 1, 1, 0, 1, 1, 0, 1, 1] (envT [(0, v0), (1, v1), (5, v5), (6, v6), (7, v7), (11, v11), (15, v15), (66, v66), (67, v67)]) st
noncomputable def refinerylaw22_LeaveRows_j14 (J : JT (Value × St)) (v0 : Value) (v1 : Value) (v5 : Value) (v6 : Value) (v7 : Value) (v11 : Value) (v12 : Value) (v13 : Value) (v14 : Value) (v15 : Value) (v66 : Value) (v67 : Value) (st : St) : Res (Value × St) := goX J refinerylaw22_LeaveRows_c.body [1, 1, 1, 1, 1, 1, 1, 1, 1, 1, 1, 0, 1, 0, 1, 0, 0, 1, 1, 1, 0, 0, 1, 1, 1, 0, 1, 0, 0, 1, 1, 0, 1, 1, 1, 1, 1, 1] (envT [(0, v0), (1, v1), (5, v5), (6, v6), (7, v7), (11, v11), (12, v12), (13, v13), (14, v14), (15, v15), (66, v66), (67, v67)]) st
noncomputable def refinerylaw22_LeaveRows_j15 (J : JT (Value × St)) (v1 : Value) (v6 : Value) (v20 : Value) (v21 : Value) (v119 : Value) (st : St) : Res (Value × St) := goX J refinerylaw22_LeaveRows_c.body [1, 1, 1, 1, 1, 1, 1, 1, 1, 1, 1, 1, 1, 1, 1, 1, 1, 0, 1, 0, 1, 0, 0, 1, 1, 1, 1, 1] (envT [(1, v1), (6, v6), (20, v20), (21, v21), (119, v119)]) st
noncomputable def refinerylaw22_LeaveRows_l4 (J : JT (Value × St)) (v6 : Value) (v21 : Value) (v23 : Value) (v131 : Value) (v132 : Value) (v133 : Value) (st : St) : Res (Value × St) := lpX J refinerylaw22_LeaveRows_c.body [1, 1, 1, 1, 1, 1, 1, 1, 1, 1, 1, 1, 1, 1, 1, 1, 1, 1, 1, 1, 0, 1, 0, 1] (envT [(6, v6), (21, v21), (23, v23), (131, v131), (132, v132), (133, v133)]) st
noncomputable def refinerylaw22_LeaveRows_l5 (J : JT (Value × St)) (v0 : Value) (v1 : Value) (v5 : Value) (v6 : Value) (v7 : Value) (v11 : Value) (v66 : Value) (v67 : Value) (v101 : Value) (v102 : Value) (v103 : Value) (st : St) : Res (Value × St) := lpX J refinerylaw22_LeaveRows_c.body [1, 1, 1, 1, 1, 1, 1, 1, 1, 1, 1, 0, 1, 0, 1, 0, 0, 1, 1, 1, 0, 0, 1, 1, 1, 0, 1, 0, 0, 1, 1, 0, 1, 1, 1, 1, 0, 1, 1, 0, 1, 1, 0, 1, 0, 1] (envT [(0, v0), (1, v1), (5, v5), (6, v6), (7, v7), (11, v11), (66, v66), (67, v67), (101, v101), (102, v102), (103, v103)]) st
noncomputable def refinerylaw22_LeaveRows_j16 (J : JT (Value × St)) (v6 : Value) (v21 : Value) (v23 : Value) (v131 : Value) (v132 : Value) (v133 : Value) (st : St) : Res (Value × St) := goX J refinerylaw22_LeaveRows_c.body [1, 1, 1, 1, 1, 1, 1, 1, 1, 1, 1, 1, 1, 1, 1, 1, 1, 1, 1, 1, 0, 1, 0, 1, 0, 0, 1, 1, 1] (envT [(6, v6), (21, v21), (23, v23), (131, v131), (132, v132), (133, v133)]) st
noncomputable def refinerylaw22_LeaveRows_j17 (J : JT (Value × St)) (v6 : Value) (v21 : Value) (v23 : Value) (st : St) : Res (Value × St) := goX J refinerylaw22_LeaveRows_c.body [1, 1, 1, 1, 1, 1, 1, 1, 1, 1, 1, 1, 1, 1, 1, 1, 1, 1, 1, 1, 1, 1] (envT [(6, v6), (21, v21), (23, v23)]) st
noncomputable def refinerylaw22_LeaveRows_j18 (J : JT (Value × St)) (v0 : Value) (v1 : Value) (v5 : Value) (v6 : Value) (v7 : Value) (v11 : Value) (v66 : Value) (v67 : Value) (v101 : Value) (v102 : Value) (v103 : Value) (st : St) : Res (Value × St) := goX J refinerylaw22_LeaveRows_c.body [1, 1, 1, 1, 1, 1, 1, 1, 1, 1, 1, 0, 1, 0, 1, 0, 0, 1, 1, 1, 0, 0, 1, 1, 1, 0, 1, 0, 0, 1, 1, 0, 1, 1, 1, 1, 0, 1, 1, 0, 1, 1, 0, 1, 0, 1, 0, 0, 1, 1, 1] (envT [(0, v0), (1, v1), (5, v5), (6, v6), (7, v7), (11, v11), (66, v66), (67, v67), (101, v101), (102, v102), (103, v103)]) st
noncomputable def refinerylaw22_LeaveRows_j19 (J : JT (Value × St)) (v0 : Value) (v1 : Value) (v5 : Value) (v6 : Value) (v7 : Value) (v11 : Value) (v66 : Value) (v67 : Value) (st : St) : Res (Value × St) := goX J refinerylaw22_LeaveRows_c.body [1, 1, 1, 1, 1, 1, 1, 1, 1, 1, 1, 0, 1, 0, 1, 0, 0, 1, 1, 1, 0, 0, 1, 1, 1, 0, 1, 0, 0, 1, 1, 0, 1, 1, 1, 1, 0, 1, 1, 0, 1, 1, 1, 1] (envT [(0, v0), (1, v1), (5, v5), (6, v6), (7, v7), (11, v11), (66, v66), (67, v67)]) st
noncomputable def refinerylaw22_LeaveRows_j20 (J : JT (Value × St)) (v6 : Value) (v21 : Value) (v23 : Value) (v25 : Value) (v131 : Value) (v132 : Value) (v133 : Value) (st : St) : Res (Value × St) := goX J refinerylaw22_LeaveRows_c.body [1, 1, 1, 1, 1, 1, 1, 1, 1, 1, 1, 1, 1, 1, 1, 1, 1, 1, 1, 1, 0, 1, 0, 1, 0, 0, 1, 1, 1, 0, 0, 1, 1, 1] (envT [(6, v6), (21, v21), (23, v23), (25, v25), (131, v131), (132, v132), (133, v133)]) st
noncomputable def refinerylaw22_LeaveRows_l6 (J : JT (Value × St)) (v6 : Value) (v21 : Value) (v23 : Value) (v168 : Value) (st : St) : Res (Value × St) := lpX J refinerylaw22_LeaveRows_c.body [1, 1, 1, 1, 1, 1, 1, 1, 1, 1, 1, 1, 1, 1, 1, 1, 1, 1, 1, 1, 1, 1, 0, 1, 0, 1] (envT [(6, v6), (21, v21), (23, v23), (168, v168)]) st
noncomputable def refinerylaw22_LeaveRows_j21 (J : JT (Value × St)) (v0 : Value) (v1 : Value) (v5 : Value) (v6 : Value) (v7 : Value) (v11 : Value) (v66 : Value) (v67 : Value) (v101 : Value) (v102 : Value) (v103 : Value) (st : St) : Res (Value × St) := goX J refinerylaw22_LeaveRows_c.body [1, 1, 1, 1, 1, 1, 1, 1, 1, 1, 1, 0, 1, 0, 1, 0, 0, 1, 1, 1, 0, 0, 1, 1, 1, 0, 1, 0, 0, 1, 1, 0, 1, 1, 1, 1, 0, 1, 1, 0, 1, 1, 0, 1, 0, 1, 0, 0, 1, 1, 1, 1, 1] (envT [(0, v0), (1, v1), (5, v5), (6, v6), (7, v7), (11, v11), (66, v66), (67, v67), (101, v101), (102, v102), (103, v103)]) st
noncomputable def refinerylaw22_LeaveRows_j22 (J : JT (Value × St)) (v6 : Value) (v21 : Value) (v23 : Value) (v131 : Value) (v132 : Value) (v133 : Value) (st : St) : Res (Value × St) := goX J refinerylaw22_LeaveRows_c.body [1, 1, 1, 1, 1, 1, 1, 1, 1, 1, 1, 1, 1, 1, 1, 1, 1, 1, 1, 1, 0, 1, 0, 1, 0, 0, 1, 1, 1, 1, 1] (envT [(6, v6), (21, v21), (23, v23), (131, v131), (132, v132), (133, v133)]) st
noncomputable def refinerylaw22_LeaveRows_j23 (J : JT (Value × St)) (v6 : Value) (v21 : Value) (v23 : Value) (v168 : Value) (st : St) : Res (Value × St) := goX J refinerylaw22_LeaveRows_c.body [1, 1, 1, 1, 1, 1, 1, 1, 1, 1, 1, 1, 1, 1, 1, 1, 1, 1, 1, 1, 1, 1, 0, 1, 0, 1, 0, 0, 1, 1, 1] (envT [(6, v6), (21, v21), (23, v23), (168, v168)]) st
noncomputable def refinerylaw22_LeaveRows_j24 (J : JT (Value × St)) (st : St) : Res (Value × St) := goX J refinerylaw22_LeaveRows_c.body [1, 1, 1, 1, 1, 1, 1, 1, 1, 1, 1, 1, 1, 1, 1, 1, 1, 1, 1, 1, 1, 1, 1, 1] (envT []) st
noncomputable def refinerylaw22_LeaveRows_j25 (J : JT (Value × St)) (v6 : Value) (v21 : Value) (v23 : Value) (v26 : Value) (v27 : Value) (v168 : Value) (st : St) : Res (Value × St) := goX J refinerylaw22_LeaveRows_c.body [1, 1, 1, 1, 1, 1, 1, 1, 1, 1, 1, 1, 1, 1, 1, 1, 1, 1, 1, 1, 1, 1, 0, 1, 0, 1, 0, 0, 1, 1, 1, 0, 0, 1, 1, 1, 1] (envT [(6, v6), (21, v21), (23, v23), (26, v26), (27, v27), (168, v168)]) st
noncomputable def refinerylaw22_LeaveRows_j26 (J : JT (Value × St)) (v6 : Value) (v21 : Value) (v23 : Value) (v168 : Value) (st : St) : Res (Value × St) := goX J refinerylaw22_LeaveRows_c.body [1, 1, 1, 1, 1, 1, 1, 1, 1, 1, 1, 1, 1, 1, 1, 1, 1, 1, 1, 1, 1, 1, 0, 1, 0, 1, 0, 0, 1, 1, 1, 1, 1] (envT [(6, v6), (21, v21), (23, v23), (168, v168)]) st
theorem refinerylaw22_LeaveRows_eq (K : Ctx) (J : JT (Value × St)) (a0 a1 : Value) (st : St) : atX K J refinerylaw22_LeaveRows_c (AM.start [a0, a1]) st =
  (.thn st (K.go (.call n_refinerylaw22_Awake []) st) fun p1 =>
  .thn p1.2 (sUn .not p1.1 p1.2) fun p2 =>
  condX p2.1
  (.ok ((.bool false), p2.2))
  (refinerylaw22_LeaveRows_j0 J a0 a1 p2.2)) := by kernel_rfl
theorem refinerylaw22_LeaveRows_of {K : Ctx} (hF : Fix pgF K) {a0 a1 : Value} {st : St} {Q : Value × St → Prop} (h : ∀ J, IsJ K (retK refinerylaw22_LeaveRows_c.results) J → Ok (atX K J refinerylaw22_LeaveRows_c (AM.start [a0, a1]) st) Q) : Ok (K.go (.call n_refinerylaw22_LeaveRows [a0, a1]) st) Q := call_of hF refinerylaw22_LeaveRows_is rfl h
theorem refinerylaw22_LeaveRows_j0_eq {K : Ctx} {J : JT (Value × St)} (hJ : IsJ K (retK refinerylaw22_LeaveRows_c.results) J) (v0 : Value) (v1 : Value) (st : St) : refinerylaw22_LeaveRows_j0 J v0 v1 st =
  (.thn st (sLen .slice v0 st) fun p1 =>
  .thn p1.2 (sBin .gtr p1.1 (.int .i64 12) p1.2) fun p2 =>
  condX p2.1
  (.ok ((.bool true), p2.2))
  (refinerylaw22_LeaveRows_j1 J v0 v1 p2.2)) := (go_eq hJ _ _ _ _).trans (by kernel_rfl)
theorem refinerylaw22_LeaveRows_j1_eq {K : Ctx} {J : JT (Value × St)} (hJ : IsJ K (retK refinerylaw22_LeaveRows_c.results) J) (v0 : Value) (v1 : Value) (st : St) : refinerylaw22_LeaveRows_j1 J v0 v1 st =
  (.thn st (sNewMap st) fun p1 =>
  .thn p1.2 (sLen .slice v0 p1.2) fun p2 =>
  refinerylaw22_LeaveRows_l0 J v0 v1 (.slice none 0 0) p1.1 (.int .i64 0) v0 p2.1 (.int .i64 0) p2.2) := (go_eq hJ _ _ _ _).trans (by kernel_rfl)
theorem refinerylaw22_LeaveRows_l0_eq (K : Ctx) (J : JT (Value × St)) (v0 : Value) (v1 : Value) (v5 : Value) (v6 : Value) (v7 : Value) (v35 : Value) (v36 : Value) (v37 : Value) (st : St) : inX K J (retK refinerylaw22_LeaveRows_c.results) refinerylaw22_LeaveRows_c.body [1, 1, 1, 1, 1, 1, 1, 1, 0, 1, 0, 1] (envT [(0, v0), (1, v1), (5, v5), (6, v6), (7, v7), (35, v35), (36, v36), (37, v37)]) st =
  (.thn st (sBin .lss v37 v36 st) fun p1 =>
  condX p1.1
  (refinerylaw22_LeaveRows_j2 J v0 v1 v5 v6 v7 v35 v36 v37 p1.2)
  (refinerylaw22_LeaveRows_j3 J v0 v1 v5 v6 v7 p1.2)) := by kernel_rfl
theorem refinerylaw22_LeaveRows_l0_of {K : Ctx} (hF : Fix pgF K) {J : JT (Value × St)} (hJ : IsJ K (retK refinerylaw22_LeaveRows_c.results) J) {v0 : Value} {v1 : Value} {v5 : Value} {v6 : Value} {v7 : Value} {v35 : Value} {v36 : Value} {v37 : Value} {st : St} {Q : Value × St → Prop} (h : Ok (inX K J (retK refinerylaw22_LeaveRows_c.results) refinerylaw22_LeaveRows_c.body [1, 1, 1, 1, 1, 1, 1, 1, 0, 1, 0, 1] (envT [(0, v0), (1, v1), (5, v5), (6, v6), (7, v7), (35, v35), (36, v36), (37, v37)]) st) Q) : Ok (refinerylaw22_LeaveRows_l0 J v0 v1 v5 v6 v7 v35 v36 v37 st) Q := loop_of hF hJ h
theorem refinerylaw22_LeaveRows_j2_eq {K : Ctx} {J : JT (Value × St)} (hJ : IsJ K (retK refinerylaw22_LeaveRows_c.results) J) (v0 : Value) (v1 : Value) (v5 : Value) (v6 : Value) (v7 : Value) (v35 : Value) (v36 : Value) (v37 : Value) (st : St) : refinerylaw22_LeaveRows_j2 J v0 v1 v5 v6 v7 v35 v36 v37 st =
  (.thn st (sIxA 1 none v35 v37 st) fun p1 =>
  .thn p1.2 (sLoad none p1.1 p1.2) fun p2 =>
  .thn p2.2 (sConv (.int .i64) p2.1 p2.2) fun p3 =>
  .thn p3.2 (sBin .rem p3.1 (.int .i64 14) p3.2) fun p4 =>
  .thn p4.2 (sBuild [(.int .i64 0), (.int .i64 0)] [(0, 1, v37), (1, 1, p4.1)] p4.2) fun p5 =>
  .thn p5.2 (sLnew [(.int .i64 0), (.int .i64 0)] p5.2) fun p6 =>
  .thn p6.2 (sUpd 2 0 p6.1 p5.1 p6.2) fun p7 =>
  .thn p7.2 (sField (some 2) 0 p7.1 p7.2) fun p8 =>
  .thn p8.2 (sLit 2 1 [(.int .i64 0), (.int .i64 0)] [(0, 2, p8.1)] p8.2) fun p9 =>
  .thn p9.2 (sAppend 2 16 v5 p9.1 p9.2) fun p10 =>
  .thn p10.2 (sLref p7.1 p10.2) fun p11 =>
  .thn p11.2 (sField none 0 p7.1 p11.2) fun p12 =>
  .thn p12.2 (sLref p7.1 p12.2) fun p13 =>
  .thn p13.2 (sField none 1 p7.1 p13.2) fun p14 =>
  .thn p14.2 (sMapSet (.cell .int) v6 p12.1 p14.1 p14.2) fun p15 =>
  .thn p15.2 (sLref p7.1 p15.2) fun p16 =>
  .thn p16.2 (sField none 0 p7.1 p16.2) fun p17 =>
  .thn p17.2 (sLref p7.1 p17.2) fun p18 =>
  .thn p18.2 (sField none 1 p7.1 p18.2) fun p19 =>
  .thn p19.2 (sBin .neq p17.1 p19.1 p19.2) fun p20 =>
  condX p20.1
  (.thn p20.2 (sBin .add v7 (.int .i64 1) p20.2) fun p21 =>
  refinerylaw22_LeaveRows_j4 J v0 v1 p10.1 v6 p21.1 v35 v36 v37 p21.2)
  (refinerylaw22_LeaveRows_j4 J v0 v1 p10.1 v6 v7 v35 v36 v37 p20.2)) := (go_eq hJ _ _ _ _).trans (by kernel_rfl)
theorem refinerylaw22_LeaveRows_j3_eq {K : Ctx} {J : JT (Value × St)} (hJ : IsJ K (retK refinerylaw22_LeaveRows_c.results) J) (v0 : Value) (v1 : Value) (v5 : Value) (v6 : Value) (v7 : Value) (st : St) : refinerylaw22_LeaveRows_j3 J v0 v1 v5 v6 v7 st =
  (.thn st (sNewMap st) fun p1 =>
  .thn p1.2 (sLen .slice v0 p1.2) fun p2 =>
  refinerylaw22_LeaveRows_l1 J v0 v1 v5 v6 v7 p1.1 p2.1 (.int .i64 0) p2.2) := (go_eq hJ _ _ _ _).trans (by kernel_rfl)
theorem refinerylaw22_LeaveRows_j4_eq {K : Ctx} {J : JT (Value × St)} (hJ : IsJ K (retK refinerylaw22_LeaveRows_c.results) J) (v0 : Value) (v1 : Value) (v5 : Value) (v6 : Value) (v7 : Value) (v35 : Value) (v36 : Value) (v37 : Value) (st : St) : refinerylaw22_LeaveRows_j4 J v0 v1 v5 v6 v7 v35 v36 v37 st =
  (.thn st (sBin .add v37 (.int .i64 1) st) fun p1 =>
  refinerylaw22_LeaveRows_l0 J v0 v1 v5 v6 v7 v35 v36 p1.1 p1.2) := (go_eq hJ _ _ _ _).trans (by kernel_rfl)
theorem refinerylaw22_LeaveRows_l1_eq (K : Ctx) (J : JT (Value × St)) (v0 : Value) (v1 : Value) (v5 : Value) (v6 : Value) (v7 : Value) (v11 : Value) (v66 : Value) (v67 : Value) (st : St) : inX K J (retK refinerylaw22_LeaveRows_c.results) refinerylaw22_LeaveRows_c.body [1, 1, 1, 1, 1, 1, 1, 1, 1, 1, 1, 0, 1, 0, 1] (envT [(0, v0), (1, v1), (5, v5), (6, v6), (7, v7), (11, v11), (66, v66), (67, v67)]) st =
  (.thn st (sBin .lss v67 v66 st) fun p1 =>
  condX p1.1
  (refinerylaw22_LeaveRows_j5 J v0 v1 v5 v6 v7 v11 v66 v67 p1.2)
  (refinerylaw22_LeaveRows_j6 J v1 v5 v6 v7 p1.2)) := by kernel_rfl
theorem refinerylaw22_LeaveRows_l1_of {K : Ctx} (hF : Fix pgF K) {J : JT (Value × St)} (hJ : IsJ K (retK refinerylaw22_LeaveRows_c.results) J) {v0 : Value} {v1 : Value} {v5 : Value} {v6 : Value} {v7 : Value} {v11 : Value} {v66 : Value} {v67 : Value} {st : St} {Q : Value × St → Prop} (h : Ok (inX K J (retK refinerylaw22_LeaveRows_c.results) refinerylaw22_LeaveRows_c.body [1, 1, 1, 1, 1, 1, 1, 1, 1, 1, 1, 0, 1, 0, 1] (envT [(0, v0), (1, v1), (5, v5), (6, v6), (7, v7), (11, v11), (66, v66), (67, v67)]) st) Q) : Ok (refinerylaw22_LeaveRows_l1 J v0 v1 v5 v6 v7 v11 v66 v67 st) Q := loop_of hF hJ h
theorem refinerylaw22_LeaveRows_j5_eq {K : Ctx} {J : JT (Value × St)} (hJ : IsJ K (retK refinerylaw22_LeaveRows_c.results) J) (v0 : Value) (v1 : Value) (v5 : Value) (v6 : Value) (v7 : Value) (v11 : Value) (v66 : Value) (v67 : Value) (st : St) : refinerylaw22_LeaveRows_j5 J v0 v1 v5 v6 v7 v11 v66 v67 st =
  (refinerylaw22_LeaveRows_l2 J v0 v1 v5 v6 v7 v11 v67 v67 (.int .i64 0) (.slice none 0 0) v66 v67 st) := (go_eq hJ _ _ _ _).trans (by kernel_rfl)
theorem refinerylaw22_LeaveRows_j6_eq {K : Ctx} {J : JT (Value × St)} (hJ : IsJ K (retK refinerylaw22_LeaveRows_c.results) J) (v1 : Value) (v5 : Value) (v6 : Value) (v7 : Value) (st : St) : refinerylaw22_LeaveRows_j6 J v1 v5 v6 v7 st =
  (.thn st (K.go (.call n_leave_Row [v5, (.int .i64 20)]) st) fun p1 =>
  .thn p1.2 (sLen .slice p1.1 p1.2) fun p2 =>
  .thn p2.2 (sBin .neq p2.1 v7 p2.2) fun p3 =>
  condX p3.1
  (.ok ((.bool false), p3.2))
  (refinerylaw22_LeaveRows_j7 J v1 v6 p1.1 p3.2)) := (go_eq hJ _ _ _ _).trans (by kernel_rfl)
theorem refinerylaw22_LeaveRows_l2_eq (K : Ctx) (J : JT (Value × St)) (v0 : Value) (v1 : Value) (v5 : Value) (v6 : Value) (v7 : Value) (v11 : Value) (v12 : Value) (v13 : Value) (v14 : Value) (v15 : Value) (v66 : Value) (v67 : Value) (st : St) : inX K J (retK refinerylaw22_LeaveRows_c.results) refinerylaw22_LeaveRows_c.body [1, 1, 1, 1, 1, 1, 1, 1, 1, 1, 1, 0, 1, 0, 1, 0, 0, 1, 1, 1, 0, 0, 1, 1, 1, 0, 1] (envT [(0, v0), (1, v1), (5, v5), (6, v6), (7, v7), (11, v11), (12, v12), (13, v13), (14, v14), (15, v15), (66, v66), (67, v67)]) st =
  (.thn st (sLen .slice v0 st) fun p1 =>
  .thn p1.2 (sBin .leq v14 p1.1 p1.2) fun p2 =>
  condX p2.1
  (refinerylaw22_LeaveRows_j8 J v0 v1 v5 v6 v7 v11 v12 v13 v14 v15 v66 v67 p2.2)
  (refinerylaw22_LeaveRows_j9 J v0 v1 v5 v6 v7 v11 v66 v67 p2.2)) := by kernel_rfl
theorem refinerylaw22_LeaveRows_l2_of {K : Ctx} (hF : Fix pgF K) {J : JT (Value × St)} (hJ : IsJ K (retK refinerylaw22_LeaveRows_c.results) J) {v0 : Value} {v1 : Value} {v5 : Value} {v6 : Value} {v7 : Value} {v11 : Value} {v12 : Value} {v13 : Value} {v14 : Value} {v15 : Value} {v66 : Value} {v67 : Value} {st : St} {Q : Value × St → Prop} (h : Ok (inX K J (retK refinerylaw22_LeaveRows_c.results) refinerylaw22_LeaveRows_c.body [1, 1, 1, 1, 1, 1, 1, 1, 1, 1, 1, 0, 1, 0, 1, 0, 0, 1, 1, 1, 0, 0, 1, 1, 1, 0, 1] (envT [(0, v0), (1, v1), (5, v5), (6, v6), (7, v7), (11, v11), (12, v12), (13, v13), (14, v14), (15, v15), (66, v66), (67, v67)]) st) Q) : Ok (refinerylaw22_LeaveRows_l2 J v0 v1 v5 v6 v7 v11 v12 v13 v14 v15 v66 v67 st) Q := loop_of hF hJ h
theorem refinerylaw22_LeaveRows_j7_eq {K : Ctx} {J : JT (Value × St)} (hJ : IsJ K (retK refinerylaw22_LeaveRows_c.results) J) (v1 : Value) (v6 : Value) (v20 : Value) (st : St) : refinerylaw22_LeaveRows_j7 J v1 v6 v20 st =
  (.thn st (sNew [(.int .i64 0), (.int .i64 0), (.int .i64 0), (.int .i64 0), (.int .i64 0), (.int .i64 0), (.int .i64 0), (.int .i64 0), (.int .i64 0), (.int .i64 0), (.int .i64 0), (.int .i64 0), (.int .i64 0), (.int .i64 0), (.int .i64 0), (.int .i64 0), (.int .i64 0), (.int .i64 0), (.int .i64 0), (.int .i64 0), (.int .i64 0)] st) fun p1 =>
  refinerylaw22_LeaveRows_l3 J v1 v6 v20 p1.1 (.int .i64 0) p1.2) := (go_eq hJ _ _ _ _).trans (by kernel_rfl)
theorem refinerylaw22_LeaveRows_j8_eq {K : Ctx} {J : JT (Value × St)} (hJ : IsJ K (retK refinerylaw22_LeaveRows_c.results) J) (v0 : Value) (v1 : Value) (v5 : Value) (v6 : Value) (v7 : Value) (v11 : Value) (v12 : Value) (v13 : Value) (v14 : Value) (v15 : Value) (v66 : Value) (v67 : Value) (st : St) : refinerylaw22_LeaveRows_j8 J v0 v1 v5 v6 v7 v11 v12 v13 v14 v15 v66 v67 st =
  (.thn st (sLook (.cell .int) (.int .i64 0) true v6 v13 st) fun p1 =>
  .thn p1.2 (sExtract p1.1 0 p1.2) fun p2 =>
  .thn p2.2 (sExtract p1.1 1 p2.2) fun p3 =>
  .thn p3.2 (sUn .not p3.1 p3.2) fun p4 =>
  .thn p4.2 (sG p4.1 false (.ok (v11, p4.2)) p4.2) fun p5 =>
  .thn p5.2 (sG p4.1 false (.ok (v13, p5.2)) p5.2) fun p6 =>
  .thn p6.2 (sG p4.1 false (sLook (.cell .int) (.bool false) false p5.1 p6.1 p6.2) p6.2) fun p7 =>
  .thn p7.2 (sPick p4.1 (.bool true) p7.1 p7.2) fun p8 =>
  condX p8.1
  (refinerylaw22_LeaveRows_j9 J v0 v1 v5 v6 v7 v11 v66 v67 p8.2)
  (refinerylaw22_LeaveRows_j10 J v0 v1 v5 v6 v7 v11 v12 v13 v14 v15 p2.1 v66 v67 p8.2)) := (go_eq hJ _ _ _ _).trans (by kernel_rfl)
theorem refinerylaw22_LeaveRows_j9_eq {K : Ctx} {J : JT (Value × St)} (hJ : IsJ K (retK refinerylaw22_LeaveRows_c.results) J) (v0 : Value) (v1 : Value) (v5 : Value) (v6 : Value) (v7 : Value) (v11 : Value) (v66 : Value) (v67 : Value) (st : St) : refinerylaw22_LeaveRows_j9 J v0 v1 v5 v6 v7 v11 v66 v67 st =
  (.thn st (sBin .add v67 (.int .i64 1) st) fun p1 =>
  refinerylaw22_LeaveRows_l1 J v0 v1 v5 v6 v7 v11 v66 p1.1 p1.2) := (go_eq hJ _ _ _ _).trans (by kernel_rfl)
theorem refinerylaw22_LeaveRows_l3_eq (K : Ctx) (J : JT (Value × St)) (v1 : Value) (v6 : Value) (v20 : Value) (v21 : Value) (v119 : Value) (st : St) : inX K J (retK refinerylaw22_LeaveRows_c.results) refinerylaw22_LeaveRows_c.body [1, 1, 1, 1, 1, 1, 1, 1, 1, 1, 1, 1, 1, 1, 1, 1, 1, 0, 1, 0, 1] (envT [(1, v1), (6, v6), (20, v20), (21, v21), (119, v119)]) st =
  (.thn st (sBin .lss v119 (.int .i64 21) st) fun p1 =>
  condX p1.1
  (refinerylaw22_LeaveRows_j11 J v1 v6 v20 v21 v119 p1.2)
  (refinerylaw22_LeaveRows_j12 J v6 v20 v21 p1.2)) := by kernel_rfl
theorem refinerylaw22_LeaveRows_l3_of {K : Ctx} (hF : Fix pgF K) {J : JT (Value × St)} (hJ : IsJ K (retK refinerylaw22_LeaveRows_c.results) J) {v1 : Value} {v6 : Value} {v20 : Value} {v21 : Value} {v119 : Value} {st : St} {Q : Value × St → Prop} (h : Ok (inX K J (retK refinerylaw22_LeaveRows_c.results) refinerylaw22_LeaveRows_c.body [1, 1, 1, 1, 1, 1, 1, 1, 1, 1, 1, 1, 1, 1, 1, 1, 1, 0, 1, 0, 1] (envT [(1, v1), (6, v6), (20, v20), (21, v21), (119, v119)]) st) Q) : Ok (refinerylaw22_LeaveRows_l3 J v1 v6 v20 v21 v119 st) Q := loop_of hF hJ h
theorem refinerylaw22_LeaveRows_j10_eq {K : Ctx} {J : JT (Value × St)} (hJ : IsJ K (retK refinerylaw22_LeaveRows_c.results) J) (v0 : Value) (v1 : Value) (v5 : Value) (v6 : Value) (v7 : Value) (v11 : Value) (v12 : Value) (v13 : Value) (v14 : Value) (v15 : Value) (v16 : Value) (v66 : Value) (v67 : Value) (st : St) : refinerylaw22_LeaveRows_j10 J v0 v1 v5 v6 v7 v11 v12 v13 v14 v15 v16 v66 v67 st =
  (.thn st (sLit 1 1 [(.int .i64 0)] [(0, 1, v13)] st) fun p1 =>
  .thn p1.2 (sAppend 1 8 v15 p1.1 p1.2) fun p2 =>
  .thn p2.2 (sBin .eql v16 v12 p2.2) fun p3 =>
  condX p3.1
  (.thn p3.2 (sLen .slice p2.1 p3.2) fun p4 =>
  .thn p4.2 (sBin .gtr p4.1 (.int .i64 1) p4.2) fun p5 =>
  condX p5.1
  (.thn p5.2 (sBin .add v7 (.int .i64 1) p5.2) fun p6 =>
  refinerylaw22_LeaveRows_j13 J v0 v1 v5 v6 p6.1 v11 p2.1 v66 v67 p6.2)
  (refinerylaw22_LeaveRows_j13 J v0 v1 v5 v6 v7 v11 p2.1 v66 v67 p5.2))
  (refinerylaw22_LeaveRows_j14 J v0 v1 v5 v6 v7 v11 v12 v16 v14 p2.1 v66 v67 p3.2)) := (go_eq hJ _ _ _ _).trans (by kernel_rfl)
theorem refinerylaw22_LeaveRows_j11_eq {K : Ctx} {J : JT (Value × St)} (hJ : IsJ K (retK refinerylaw22_LeaveRows_c.results) J) (v1 : Value) (v6 : Value) (v20 : Value) (v21 : Value) (v119 : Value) (st : St) : refinerylaw22_LeaveRows_j11 J v1 v6 v20 v21 v119 st =
  (.thn st (sBin .mul v119 v119 st) fun p1 =>
  .thn p1.2 (sBin .add v1 p1.1 p1.2) fun p2 =>
  .thn p2.2 (sIxA 1 (some 21) v21 v119 p2.2) fun p3 =>
  .thn p3.2 (sStore 1 p3.1 p2.1 p3.2) fun p4 =>
  refinerylaw22_LeaveRows_j15 J v1 v6 v20 v21 v119 p4.2) := (go_eq hJ _ _ _ _).trans (by kernel_rfl)
theorem refinerylaw22_LeaveRows_j12_eq {K : Ctx} {J : JT (Value × St)} (hJ : IsJ K (retK refinerylaw22_LeaveRows_c.results) J) (v6 : Value) (v20 : Value) (v21 : Value) (st : St) : refinerylaw22_LeaveRows_j12 J v6 v20 v21 st =
  (.thn st (sLoad (some 21) v21 st) fun p1 =>
  .thn p1.2 (sNew [(.int .i64 0), (.int .i64 0), (.int .i64 0), (.int .i64 0), (.int .i64 0), (.int .i64 0), (.int .i64 0), (.int .i64 0), (.int .i64 0), (.int .i64 0), (.int .i64 0), (.int .i64 0), (.int .i64 0), (.int .i64 0), (.int .i64 0), (.int .i64 0), (.int .i64 0), (.int .i64 0), (.int .i64 0), (.int .i64 0), (.int .i64 0)] p1.2) fun p2 =>
  .thn p2.2 (sStore 21 p2.1 p1.1 p2.2) fun p3 =>
  .thn p3.2 (sLen .slice v20 p3.2) fun p4 =>
  refinerylaw22_LeaveRows_l4 J v6 v21 p2.1 v20 p4.1 (.int .i64 0) p4.2) := (go_eq hJ _ _ _ _).trans (by kernel_rfl)
theorem refinerylaw22_LeaveRows_j13_eq {K : Ctx} {J : JT (Value × St)} (hJ : IsJ K (retK refinerylaw22_LeaveRows_c.results) J) (v0 : Value) (v1 : Value) (v5 : Value) (v6 : Value) (v7 : Value) (v11 : Value) (v15 : Value) (v66 : Value) (v67 : Value) (st : St) : refinerylaw22_LeaveRows_j13 J v0 v1 v5 v6 v7 v11 v15 v66 v67 st =
  (.thn st (sLen .slice v15 st) fun p1 =>
  refinerylaw22_LeaveRows_l5 J v0 v1 v5 v6 v7 v11 v66 v67 v15 p1.1 (.int .i64 0) p1.2) := (go_eq hJ _ _ _ _).trans (by kernel_rfl)
theorem refinerylaw22_LeaveRows_j14_eq {K : Ctx} {J : JT (Value × St)} (hJ : IsJ K (retK refinerylaw22_LeaveRows_c.results) J) (v0 : Value) (v1 : Value) (v5 : Value) (v6 : Value) (v7 : Value) (v11 : Value) (v12 : Value) (v13 : Value) (v14 : Value) (v15 : Value) (v66 : Value) (v67 : Value) (st : St) : refinerylaw22_LeaveRows_j14 J v0 v1 v5 v6 v7 v11 v12 v13 v14 v15 v66 v67 st =
  (.thn st (sBin .add v14 (.int .i64 1) st) fun p1 =>
  refinerylaw22_LeaveRows_l2 J v0 v1 v5 v6 v7 v11 v12 v13 p1.1 v15 v66 v67 p1.2) := (go_eq hJ _ _ _ _).trans (by kernel_rfl)
theorem refinerylaw22_LeaveRows_j15_eq {K : Ctx} {J : JT (Value × St)} (hJ : IsJ K (retK refinerylaw22_LeaveRows_c.results) J) (v1 : Value) (v6 : Value) (v20 : Value) (v21 : Value) (v119 : Value) (st : St) : refinerylaw22_LeaveRows_j15 J v1 v6 v20 v21 v119 st =
  (.thn st (sBin .add v119 (.int .i64 1) st) fun p1 =>
  refinerylaw22_LeaveRows_l3 J v1 v6 v20 v21 p1.1 p1.2) := (go_eq hJ _ _ _ _).trans (by kernel_rfl)
theorem refinerylaw22_LeaveRows_l4_eq (K : Ctx) (J : JT (Value × St)) (v6 : Value) (v21 : Value) (v23 : Value) (v131 : Value) (v132 : Value) (v133 : Value) (st : St) : inX K J (retK refinerylaw22_LeaveRows_c.results) refinerylaw22_LeaveRows_c.body [1, 1, 1, 1, 1, 1, 1, 1, 1, 1, 1, 1, 1, 1, 1, 1, 1, 1, 1, 1, 0, 1, 0, 1] (envT [(6, v6), (21, v21), (23, v23), (131, v131), (132, v132), (133, v133)]) st =
  (.thn st (sBin .lss v133 v132 st) fun p1 =>
  condX p1.1
  (refinerylaw22_LeaveRows_j16 J v6 v21 v23 v131 v132 v133 p1.2)
  (refinerylaw22_LeaveRows_j17 J v6 v21 v23 p1.2)) := by kernel_rfl
theorem refinerylaw22_LeaveRows_l4_of {K : Ctx} (hF : Fix pgF K) {J : JT (Value × St)} (hJ : IsJ K (retK refinerylaw22_LeaveRows_c.results) J) {v6 : Value} {v21 : Value} {v23 : Value} {v131 : Value} {v132 : Value} {v133 : Value} {st : St} {Q : Value × St → Prop} (h : Ok (inX K J (retK refinerylaw22_LeaveRows_c.results) refinerylaw22_LeaveRows_c.body [1, 1, 1, 1, 1, 1, 1, 1, 1, 1, 1, 1, 1, 1, 1, 1, 1, 1, 1, 1, 0, 1, 0, 1] (envT [(6, v6), (21, v21), (23, v23), (131, v131), (132, v132), (133, v133)]) st) Q) : Ok (refinerylaw22_LeaveRows_l4 J v6 v21 v23 v131 v132 v133 st) Q := loop_of hF hJ h
theorem refinerylaw22_LeaveRows_l5_eq (K : Ctx) (J : JT (Value × St)) (v0 : Value) (v1 : Value) (v5 : Value) (v6 : Value) (v7 : Value) (v11 : Value) (v66 : Value) (v67 : Value) (v101 : Value) (v102 : Value) (v103 : Value) (st : St) : inX K J (retK refinerylaw22_LeaveRows_c.results) refinerylaw22_LeaveRows_c.body [1, 1, 1, 1, 1, 1, 1, 1, 1, 1, 1, 0, 1, 0, 1, 0, 0, 1, 1, 1, 0, 0, 1, 1, 1, 0, 1, 0, 0, 1, 1, 0, 1, 1, 1, 1, 0, 1, 1, 0, 1, 1, 0, 1, 0, 1] (envT [(0, v0), (1, v1), (5, v5), (6, v6), (7, v7), (11, v11), (66, v66), (67, v67), (101, v101), (102, v102), (103, v103)]) st =
  (.thn st (sBin .lss v103 v102 st) fun p1 =>
  condX p1.1
  (refinerylaw22_LeaveRows_j18 J v0 v1 v5 v6 v7 v11 v66 v67 v101 v102 v103 p1.2)
  (refinerylaw22_LeaveRows_j19 J v0 v1 v5 v6 v7 v11 v66 v67 p1.2)) := by kernel_rfl
theorem refinerylaw22_LeaveRows_l5_of {K : Ctx} (hF : Fix pgF K) {J : JT (Value × St)} (hJ : IsJ K (retK refinerylaw22_LeaveRows_c.results) J) {v0 : Value} {v1 : Value} {v5 : Value} {v6 : Value} {v7 : Value} {v11 : Value} {v66 : Value} {v67 : Value} {v101 : Value} {v102 : Value} {v103 : Value} {st : St} {Q : Value × St → Prop} (h : Ok (inX K J (retK refinerylaw22_LeaveRows_c.results) refinerylaw22_LeaveRows_c.body [1, 1, 1, 1, 1, 1, 1, 1, 1, 1, 1, 0, 1, 0, 1, 0, 0, 1, 1, 1, 0, 0, 1, 1, 1, 0, 1, 0, 0, 1, 1, 0, 1, 1, 1, 1, 0, 1, 1, 0, 1, 1, 0, 1, 0, 1] (envT [(0, v0), (1, v1), (5, v5), (6, v6), (7, v7), (11, v11), (66, v66), (67, v67), (101, v101), (102, v102), (103, v103)]) st) Q) : Ok (refinerylaw22_LeaveRows_l5 J v0 v1 v5 v6 v7 v11 v66 v67 v101 v102 v103 st) Q := loop_of hF hJ h
theorem refinerylaw22_LeaveRows_j16_eq {K : Ctx} {J : JT (Value × St)} (hJ : IsJ K (retK refinerylaw22_LeaveRows_c.results) J) (v6 : Value) (v21 : Value) (v23 : Value) (v131 : Value) (v132 : Value) (v133 : Value) (st : St) : refinerylaw22_LeaveRows_j16 J v6 v21 v23 v131 v132 v133 st =
  (.thn st (sIxA 7 none v131 v133 st) fun p1 =>
  .thn p1.2 (sLoad (some 7) p1.1 p1.2) fun p2 =>
  .thn p2.2 (sLnew [(.int .u8 0), (.int .u8 0), (.int .i64 0), (.int .i64 0), (.int .i64 0), (.int .i64 0), (.int .i64 0)] p2.2) fun p3 =>
  .thn p3.2 (sUpd 7 0 p3.1 p2.1 p3.2) fun p4 =>
  .thn p4.2 (sLref p4.1 p4.2) fun p5 =>
  .thn p5.2 (sField none 0 p4.1 p5.2) fun p6 =>
  .thn p6.2 (sBin .neq p6.1 (.int .u8 1) p6.2) fun p7 =>
  .thn p7.2 (sG p7.1 false (sLref p4.1 p7.2) p7.2) fun p8 =>
  .thn p8.2 (sG p7.1 false (sField none 2 p4.1 p8.2) p8.2) fun p9 =>
  .thn p9.2 (sG p7.1 false (sBin .lss p9.1 (.int .i64 0) p9.2) p9.2) fun p10 =>
  .thn p10.2 (sPick p7.1 (.bool true) p10.1 p10.2) fun p11 =>
  .thn p11.2 (sG p11.1 false (sLref p4.1 p11.2) p11.2) fun p12 =>
  .thn p12.2 (sG p11.1 false (sField none 2 p4.1 p12.2) p12.2) fun p13 =>
  .thn p13.2 (sG p11.1 false (sBin .gtr p13.1 (.int .i64 20) p13.2) p13.2) fun p14 =>
  .thn p14.2 (sPick p11.1 (.bool true) p14.1 p14.2) fun p15 =>
  .thn p15.2 (sG p15.1 false (sLref p4.1 p15.2) p15.2) fun p16 =>
  .thn p16.2 (sG p15.1 false (sField none 3 p4.1 p16.2) p16.2) fun p17 =>
  .thn p17.2 (sG p15.1 false (sBin .lss p17.1 (.int .i64 0) p17.2) p17.2) fun p18 =>
  .thn p18.2 (sPick p15.1 (.bool true) p18.1 p18.2) fun p19 =>
  .thn p19.2 (sG p19.1 false (sLref p4.1 p19.2) p19.2) fun p20 =>
  .thn p20.2 (sG p19.1 false (sField none 3 p4.1 p20.2) p20.2) fun p21 =>
  .thn p21.2 (sG p19.1 false (sBin .gtr p21.1 (.int .i64 20) p21.2) p21.2) fun p22 =>
  .thn p22.2 (sPick p19.1 (.bool true) p22.1 p22.2) fun p23 =>
  condX p23.1
  (.ok ((.bool false), p23.2))
  (refinerylaw22_LeaveRows_j20 J v6 v21 v23 p4.1 v131 v132 v133 p23.2)) := (go_eq hJ _ _ _ _).trans (by kernel_rfl)
theorem refinerylaw22_LeaveRows_j17_eq {K : Ctx} {J : JT (Value × St)} (hJ : IsJ K (retK refinerylaw22_LeaveRows_c.results) J) (v6 : Value) (v21 : Value) (v23 : Value) (st : St) : refinerylaw22_LeaveRows_j17 J v6 v21 v23 st =
  (refinerylaw22_LeaveRows_l6 J v6 v21 v23 (.int .i64 0) st) := (go_eq hJ _ _ _ _).trans (by kernel_rfl)
theorem refinerylaw22_LeaveRows_j18_eq {K : Ctx} {J : JT (Value × St)} (hJ : IsJ K (retK refinerylaw22_LeaveRows_c.results) J) (v0 : Value) (v1 : Value) (v5 : Value) (v6 : Value) (v7 : Value) (v11 : Value) (v66 : Value) (v67 : Value) (v101 : Value) (v102 : Value) (v103 : Value) (st : St) : refinerylaw22_LeaveRows_j18 J v0 v1 v5 v6 v7 v11 v66 v67 v101 v102 v103 st =
  (.thn st (sIxA 1 none v101 v103 st) fun p1 =>
  .thn p1.2 (sLoad none p1.1 p1.2) fun p2 =>
  .thn p2.2 (sMapSet (.cell .int) v11 p2.1 (.bool true) p2.2) fun p3 =>
  refinerylaw22_LeaveRows_j21 J v0 v1 v5 v6 v7 v11 v66 v67 v101 v102 v103 p3.2) := (go_eq hJ _ _ _ _).trans (by kernel_rfl)
theorem refinerylaw22_LeaveRows_j19_eq {K : Ctx} {J : JT (Value × St)} (hJ : IsJ K (retK refinerylaw22_LeaveRows_c.results) J) (v0 : Value) (v1 : Value) (v5 : Value) (v6 : Value) (v7 : Value) (v11 : Value) (v66 : Value) (v67 : Value) (st : St) : refinerylaw22_LeaveRows_j19 J v0 v1 v5 v6 v7 v11 v66 v67 st =
  (refinerylaw22_LeaveRows_j9 J v0 v1 v5 v6 v7 v11 v66 v67 st) := (go_eq hJ _ _ _ _).trans (by kernel_rfl)
theorem refinerylaw22_LeaveRows_j20_eq {K : Ctx} {J : JT (Value × St)} (hJ : IsJ K (retK refinerylaw22_LeaveRows_c.results) J) (v6 : Value) (v21 : Value) (v23 : Value) (v25 : Value) (v131 : Value) (v132 : Value) (v133 : Value) (st : St) : refinerylaw22_LeaveRows_j20 J v6 v21 v23 v25 v131 v132 v133 st =
  (.thn st (sLref v25 st) fun p1 =>
  .thn p1.2 (sField none 2 v25 p1.2) fun p2 =>
  .thn p2.2 (sLref v25 p2.2) fun p3 =>
  .thn p3.2 (sField none 3 v25 p3.2) fun p4 =>
  .thn p4.2 (sIxA 1 (some 21) v21 p4.1 p4.2) fun p5 =>
  .thn p5.2 (sLoad none p5.1 p5.2) fun p6 =>
  .thn p6.2 (sIxA 1 (some 21) v21 p2.1 p6.2) fun p7 =>
  .thn p7.2 (sStore 1 p7.1 p6.1 p7.2) fun p8 =>
  refinerylaw22_LeaveRows_j22 J v6 v21 v23 v131 v132 v133 p8.2) := (go_eq hJ _ _ _ _).trans (by kernel_rfl)
theorem refinerylaw22_LeaveRows_l6_eq (K : Ctx) (J : JT (Value × St)) (v6 : Value) (v21 : Value) (v23 : Value) (v168 : Value) (st : St) : inX K J (retK refinerylaw22_LeaveRows_c.results) refinerylaw22_LeaveRows_c.body [1, 1, 1, 1, 1, 1, 1, 1, 1, 1, 1, 1, 1, 1, 1, 1, 1, 1, 1, 1, 1, 1, 0, 1, 0, 1] (envT [(6, v6), (21, v21), (23, v23), (168, v168)]) st =
  (.thn st (sBin .lss v168 (.int .i64 20) st) fun p1 =>
  condX p1.1
  (refinerylaw22_LeaveRows_j23 J v6 v21 v23 v168 p1.2)
  (refinerylaw22_LeaveRows_j24 J p1.2)) := by kernel_rfl
theorem refinerylaw22_LeaveRows_l6_of {K : Ctx} (hF : Fix pgF K) {J : JT (Value × St)} (hJ : IsJ K (retK refinerylaw22_LeaveRows_c.results) J) {v6 : Value} {v21 : Value} {v23 : Value} {v168 : Value} {st : St} {Q : Value × St → Prop} (h : Ok (inX K J (retK refinerylaw22_LeaveRows_c.results) refinerylaw22_LeaveRows_c.body [1, 1, 1, 1, 1, 1, 1, 1, 1, 1, 1, 1, 1, 1, 1, 1, 1, 1, 1, 1, 1, 1, 0, 1, 0, 1] (envT [(6, v6), (21, v21), (23, v23), (168, v168)]) st) Q) : Ok (refinerylaw22_LeaveRows_l6 J v6 v21 v23 v168 st) Q := loop_of hF hJ h
theorem refinerylaw22_LeaveRows_j21_eq {K : Ctx} {J : JT (Value × St)} (hJ : IsJ K (retK refinerylaw22_LeaveRows_c.results) J) (v0 : Value) (v1 : Value) (v5 : Value) (v6 : Value) (v7 : Value) (v11 : Value) (v66 : Value) (v67 : Value) (v101 : Value) (v102 : Value) (v103 : Value) (st : St) : refinerylaw22_LeaveRows_j21 J v0 v1 v5 v6 v7 v11 v66 v67 v101 v102 v103 st =
  (.thn st (sBin .add v103 (.int .i64 1) st) fun p1 =>
  refinerylaw22_LeaveRows_l5 J v0 v1 v5 v6 v7 v11 v66 v67 v101 v102 p1.1 p1.2) := (go_eq hJ _ _ _ _).trans (by kernel_rfl)
theorem refinerylaw22_LeaveRows_j22_eq {K : Ctx} {J : JT (Value × St)} (hJ : IsJ K (retK refinerylaw22_LeaveRows_c.results) J) (v6 : Value) (v21 : Value) (v23 : Value) (v131 : Value) (v132 : Value) (v133 : Value) (st : St) : refinerylaw22_LeaveRows_j22 J v6 v21 v23 v131 v132 v133 st =
  (.thn st (sBin .add v133 (.int .i64 1) st) fun p1 =>
  refinerylaw22_LeaveRows_l4 J v6 v21 v23 v131 v132 p1.1 p1.2) := (go_eq hJ _ _ _ _).trans (by kernel_rfl)
theorem refinerylaw22_LeaveRows_j23_eq {K : Ctx} {J : JT (Value × St)} (hJ : IsJ K (retK refinerylaw22_LeaveRows_c.results) J) (v6 : Value) (v21 : Value) (v23 : Value) (v168 : Value) (st : St) : refinerylaw22_LeaveRows_j23 J v6 v21 v23 v168 st =
  (.thn st (sLook (.cell .int) (.int .i64 0) true v6 v168 st) fun p1 =>
  .thn p1.2 (sExtract p1.1 0 p1.2) fun p2 =>
  .thn p2.2 (sExtract p1.1 1 p2.2) fun p3 =>
  .thn p3.2 (sUn .not p3.1 p3.2) fun p4 =>
  condX p4.1
  (refinerylaw22_LeaveRows_j25 J v6 v21 v23 v168 v168 v168 p4.2)
  (refinerylaw22_LeaveRows_j25 J v6 v21 v23 v168 p2.1 v168 p4.2)) := (go_eq hJ _ _ _ _).trans (by kernel_rfl)
theorem refinerylaw22_LeaveRows_j24_eq {K : Ctx} {J : JT (Value × St)} (hJ : IsJ K (retK refinerylaw22_LeaveRows_c.results) J) (st : St) : refinerylaw22_LeaveRows_j24 J st =
  (.ok ((.bool true), st)) := (go_eq hJ _ _ _ _).trans (by kernel_rfl)
theorem refinerylaw22_LeaveRows_j25_eq {K : Ctx} {J : JT (Value × St)} (hJ : IsJ K (retK refinerylaw22_LeaveRows_c.results) J) (v6 : Value) (v21 : Value) (v23 : Value) (v26 : Value) (v27 : Value) (v168 : Value) (st : St) : refinerylaw22_LeaveRows_j25 J v6 v21 v23 v26 v27 v168 st =
  (.thn st (sIxA 1 (some 21) v21 v26 st) fun p1 =>
  .thn p1.2 (sLoad none p1.1 p1.2) fun p2 =>
  .thn p2.2 (sIxA 1 (some 21) v23 v27 p2.2) fun p3 =>
  .thn p3.2 (sLoad none p3.1 p3.2) fun p4 =>
  .thn p4.2 (sBin .neq p2.1 p4.1 p4.2) fun p5 =>
  condX p5.1
  (.ok ((.bool false), p5.2))
  (refinerylaw22_LeaveRows_j26 J v6 v21 v23 v168 p5.2)) := (go_eq hJ _ _ _ _).trans (by kernel_rfl)
theorem refinerylaw22_LeaveRows_j26_eq {K : Ctx} {J : JT (Value × St)} (hJ : IsJ K (retK refinerylaw22_LeaveRows_c.results) J) (v6 : Value) (v21 : Value) (v23 : Value) (v168 : Value) (st : St) : refinerylaw22_LeaveRows_j26 J v6 v21 v23 v168 st =
  (.thn st (sBin .add v168 (.int .i64 1) st) fun p1 =>
  refinerylaw22_LeaveRows_l6 J v6 v21 v23 p1.1 p1.2) := (go_eq hJ _ _ _ _).trans (by kernel_rfl)
end Go.Proofs.Ytfknooeebmdfoaa.Sh
