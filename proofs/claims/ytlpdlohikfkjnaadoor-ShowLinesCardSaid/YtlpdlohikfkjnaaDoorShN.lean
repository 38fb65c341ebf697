/-
  The numbers of the functions, by name.
-/
import Derived.Test.YtlpdlohikfkjnaaDoorProg
import Derived.Test.YtlpdlohikfkjnaaDoorAmC
import Derived.Test.YtlpdlohikfkjnaaDoorTx0
import Derived.Test.YtlpdlohikfkjnaaDoorSd
set_option linter.unusedVariables false
namespace Go.Proofs.YtlpdlohikfkjnaaDoor.Sh
open Go Go.AM Go.Proofs
noncomputable abbrev pg : Program := Tryd.prog
abbrev n_refinerylaw06_ShowLines : FuncId := 3
abbrev n_refinerylaw06_Awake : FuncId := 6
abbrev n_refinerylaw03_Line_Instr : FuncId := 7
abbrev n_refinerylaw03_Block_Last : FuncId := 8
abbrev n_show_Instr : FuncId := 9
abbrev n_show_Last : FuncId := 10
abbrev n_show_Program : FuncId := 13
abbrev n_ir_Instr_Only : FuncId := 18
abbrev n_refinerylaw03_Label : FuncId := 19
abbrev n_ir_Last_Only : FuncId := 20
abbrev n_ir_Instr_Sets : FuncId := 21
abbrev n_ir_Instr_Reads : FuncId := 37
abbrev n_ir_Last_Reads : FuncId := 38
abbrev n_strconv_FormatInt : FuncId := 41
abbrev n_strconv_ParseInt : FuncId := 82
theorem gq {R : Type} {K : Ctx} {J : JT R} {fin : AExit → Env → St → Res R} (hJ : IsJ K fin J) {c : ACode} {p : List Nat} {e : Env} {st : St} {r : Res R} (h : onX K J fin c p e st = r) : goX J c p e st = r := (go_eq hJ _ _ _ _).trans h
/-- Which boxes are kept in slots. -/
def hints : List (Nat × Hint) := [(3, ⟨5, [5, 6, 7, 8, 11, 12, 13, 14], [], []⟩),
 (4, ⟨1, [1, 3, 5], [], []⟩),
 (5, ⟨4, [5, 12, 16], [], []⟩),
 (7, ⟨2, [2, 4], [5, 8, 11, 16, 21, 26, 29], []⟩),
 (8, ⟨3, [3, 6], [18, 24, 8, 13], []⟩),
 (11, ⟨1, [1, 4], [5, 12, 17], []⟩),
 (12, ⟨1, [1, 2, 5, 7, 10], [11, 16, 31, 39, 48, 51, 55, 66, 73, 75, 83, 84, 87, 88, 93], []⟩),
 (14, ⟨1, [2, 9], [], []⟩),
 (15, ⟨2, [2, 3], [5, 7], []⟩),
 (16, ⟨1, [1, 5, 7], [8, 16, 22, 37], []⟩),
 (18, ⟨1, [1, 2, 3], [5, 13, 23, 32, 33, 34, 38, 40, 43, 45, 49, 51], []⟩),
 (20, ⟨1, [1, 2, 3], [4, 12, 13, 17, 21, 22, 26, 28, 31, 35, 33, 36], []⟩),
 (21, ⟨1, [1], [4, 13], []⟩),
 (25, ⟨1, [1], [9, 15, 18, 33, 40], []⟩),
 (26, ⟨1, [], [14], [[6]]⟩),
 (27, ⟨1, [2, 3], [10, 16], []⟩),
 (28, ⟨1, [1, 5, 7, 9, 12], [15, 20, 29, 36, 40, 45, 49, 52, 59, 73, 86], []⟩),
 (29, ⟨3, [8, 9], [], []⟩),
 (30, ⟨2, [2, 3], [5, 7, 11, 13, 18, 20, 25, 27], []⟩),
 (32, ⟨3, [8, 9], [], []⟩),
 (33, ⟨2, [2, 3], [5, 7, 11, 13, 18, 20], []⟩),
 (35, ⟨1, [1], [5, 9, 13, 18, 26, 40, 43, 35, 62, 69, 76, 80, 83], []⟩),
 (36, ⟨1, [1], [4, 9, 15, 19, 23, 29], []⟩),
 (37, ⟨1, [1], [3, 10, 16, 18], []⟩),
 (38, ⟨1, [1], [4, 6, 10], []⟩),
 (44, ⟨3, [7], [24, 33], []⟩),
 (45, ⟨1, [2, 3, 4], [27, 28, 34], []⟩),
 (46, ⟨3, [6, 7], [24, 33], []⟩),
 (47, ⟨1, [1, 5], [6, 14, 17], []⟩),
 (48, ⟨2, [2], [7, 10, 14, 18, 36, 45], []⟩),
 (49, ⟨1, [1], [4, 8, 12, 23, 28, 34, 40, 45], []⟩),
 (50, ⟨2, [2], [8, 17], []⟩),
 (57, ⟨2, [4], [], []⟩),
 (58, ⟨2, [4, 6], [25, 40, 41, 58, 74, 87, 88, 97, 98], []⟩),
 (60, ⟨1, [2, 4], [19, 31, 32, 37, 42, 54, 55, 65], []⟩),
 (61, ⟨1, [2, 3, 4, 6], [37, 55, 64], []⟩),
 (64, ⟨1, [1], [4, 8, 12, 14, 19, 23, 26, 28], []⟩),
 (73, ⟨3, [7], [22, 37], []⟩),
 (76, ⟨1, [2, 6], [57], []⟩)]
noncomputable def pgX : Funs := fun f => bif Nat.beq f 41 then some (extFun 2 gFI [(1, some Lib.pow10Tab)]) else bif Nat.beq f 82 then some (extFun 3 (gPI 158) [(4, none), (5, none)]) else bif Nat.beq f 9 then some (extFun 1 (gSI 0) [(1, some Lib.pow10Tab)]) else bif Nat.beq f 10 then some (extFun 1 gSL [(1, some Lib.pow10Tab)]) else bif Nat.beq f 13 then some (extFun 1 (gSP 0) [(1, some Lib.pow10Tab)]) else funs pg f
noncomputable def pgF : Funs := hide pgX hints
def Of0 (f : FuncId) (c : AFun) : Prop := ∀ {K : Ctx} (_ : Fix pgF K) {st : St} {Q : Value × St → Prop} (_ : ∀ J, IsJ K (retK c.results) J → Ok (atX K J c (AM.start []) st) Q), Ok (K.go (.call f []) st) Q
def Of1 (f : FuncId) (c : AFun) : Prop := ∀ {K : Ctx} (_ : Fix pgF K) {a0 : Value} {st : St} {Q : Value × St → Prop} (_ : ∀ J, IsJ K (retK c.results) J → Ok (atX K J c (AM.start [a0]) st) Q), Ok (K.go (.call f [a0]) st) Q
def Of2 (f : FuncId) (c : AFun) : Prop := ∀ {K : Ctx} (_ : Fix pgF K) {a0 a1 : Value} {st : St} {Q : Value × St → Prop} (_ : ∀ J, IsJ K (retK c.results) J → Ok (atX K J c (AM.start [a0, a1]) st) Q), Ok (K.go (.call f [a0, a1]) st) Q
def Of3 (f : FuncId) (c : AFun) : Prop := ∀ {K : Ctx} (_ : Fix pgF K) {a0 a1 a2 : Value} {st : St} {Q : Value × St → Prop} (_ : ∀ J, IsJ K (retK c.results) J → Ok (atX K J c (AM.start [a0, a1, a2]) st) Q), Ok (K.go (.call f [a0, a1, a2]) st) Q
def Of5 (f : FuncId) (c : AFun) : Prop := ∀ {K : Ctx} (_ : Fix pgF K) {a0 a1 a2 a3 a4 : Value} {st : St} {Q : Value × St → Prop} (_ : ∀ J, IsJ K (retK c.results) J → Ok (atX K J c (AM.start [a0, a1, a2, a3, a4]) st) Q), Ok (K.go (.call f [a0, a1, a2, a3, a4]) st) Q
end Go.Proofs.YtlpdlohikfkjnaaDoor.Sh
