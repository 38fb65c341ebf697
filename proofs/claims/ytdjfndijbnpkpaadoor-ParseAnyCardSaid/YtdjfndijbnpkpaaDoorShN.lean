/-
  The numbers of the functions, by name.
-/
import Derived.Test.YtdjfndijbnpkpaaDoorProg
import Derived.Test.YtdjfndijbnpkpaaDoorAmC
import Derived.Test.YtdjfndijbnpkpaaDoorTx0
set_option linter.unusedVariables false
namespace Go.Proofs.YtdjfndijbnpkpaaDoor.Sh
open Go Go.AM Go.Proofs
noncomputable abbrev pg : Program := Tryd.prog
abbrev n_refinerylaw05_ParseAny : FuncId := 9
abbrev n_refinerylaw05_Awake : FuncId := 10
abbrev n_refinerylaw03_Small_Light : FuncId := 11
abbrev n_refinerylaw05_Tokens : FuncId := 12
abbrev n_refinerylaw03_Small_Program : FuncId := 13
abbrev n_refinerylaw05_Text : FuncId := 14
abbrev n_parse_Parse : FuncId := 15
abbrev n_ir_Same : FuncId := 16
abbrev n_refinerylaw03_Line_Instr : FuncId := 17
abbrev n_ir_Last_Only : FuncId := 18
abbrev n_refinerylaw05_reg : FuncId := 19
abbrev n_refinerylaw05_number : FuncId := 20
abbrev n_ir_Program_Check : FuncId := 21
abbrev n_ir_Program_Plain : FuncId := 22
abbrev n_lex_Split : FuncId := 23
abbrev n_refinerylaw05_Instr : FuncId := 24
abbrev n_refinerylaw05_Last : FuncId := 25
abbrev n_refinerylaw03_Label : FuncId := 26
abbrev n_refinerylaw03_Block_Last : FuncId := 27
abbrev n_parse_reader_program : FuncId := 28
abbrev n_slices_EqualFunc_irBlock : FuncId := 29
abbrev n_ir_Same_1 : FuncId := 30
abbrev n_slices_Equal_irInstr : FuncId := 31
abbrev n_slices_EqualFunc_irPhi : FuncId := 32
abbrev n_ir_Phi_same : FuncId := 33
abbrev n_ir_Instr_Only : FuncId := 34
abbrev n_ir_Last_Reads : FuncId := 35
abbrev n_ir_Program_Count : FuncId := 36
abbrev n_ir_Phi_check : FuncId := 37
abbrev n_ir_Instr_check : FuncId := 38
abbrev n_ir_Last_check : FuncId := 39
abbrev n_slices_ContainsFunc_irBlock : FuncId := 40
abbrev n_ir_Program_Plain_1 : FuncId := 41
abbrev n_lex_Tokens : FuncId := 42
abbrev n_refinerylaw05_Last_1 : FuncId := 43
abbrev n_parse_reader_lines : FuncId := 44
abbrev n_parse_reader_is : FuncId := 45
abbrev n_parse_reader_block : FuncId := 46
abbrev n_parse_reader_take : FuncId := 47
abbrev n_slices_Equal_int : FuncId := 48
abbrev n_ir_Instr_Sets : FuncId := 49
abbrev n_ir_Instr_Reads : FuncId := 50
abbrev n_ir_reg : FuncId := 51
abbrev n_ir_Last_Labels : FuncId := 52
abbrev n_slices_IndexFunc_irBlock : FuncId := 53
abbrev n_lex_Tokens_1 : FuncId := 54
abbrev n_lex_next : FuncId := 55
abbrev n_parse_reader_label : FuncId := 56
abbrev n_parse_reader_last : FuncId := 57
abbrev n_parse_reader_instr : FuncId := 58
abbrev n_parse_reader_fail : FuncId := 59
abbrev n_lex_digits : FuncId := 60
abbrev n_lex_number : FuncId := 61
abbrev n_lex_letters : FuncId := 62
abbrev n_parse_reader_below : FuncId := 63
abbrev n_parse_reader_word : FuncId := 64
abbrev n_parse_reader_reg : FuncId := 65
abbrev n_parse_reader_right : FuncId := 66
abbrev n_strconv_ParseInt : FuncId := 67
abbrev n_strconv_FormatInt : FuncId := 68
abbrev n_word_Find : FuncId := 69
theorem gq {R : Type} {K : Ctx} {J : JT R} {fin : AExit → Env → St → Res R} (hJ : IsJ K fin J) {c : ACode} {p : List Nat} {e : Env} {st : St} {r : Res R} (h : onX K J fin c p e st = r) : goX J c p e st = r := (go_eq hJ _ _ _ _).trans h
/-- Which boxes are kept in slots. -/
def hints : List (Nat × Hint) := [(3, ⟨3, [3, 10, 13, 16, 19], [82], []⟩),
 (4, ⟨3, [3, 7, 9], [], []⟩),
 (5, ⟨4, [4, 11, 14], [], []⟩),
 (6, ⟨5, [5, 11, 12, 13, 14], [21, 25], []⟩),
 (7, ⟨2, [2, 3, 5, 6, 9, 14], [45, 51, 60, 124, 126], []⟩),
 (8, ⟨1, [4, 7], [33, 40], []⟩),
 (9, ⟨5, [6, 16, 19], [133], []⟩),
 (10, ⟨0, [1], [12, 18], []⟩),
 (11, ⟨1, [1, 4], [5, 12, 17], []⟩),
 (12, ⟨1, [1, 5, 7], [8, 16, 22, 37], []⟩),
 (13, ⟨1, [1, 2, 5, 7, 10], [11, 16, 31, 39, 48, 51, 55, 66, 73, 75, 83, 84, 87, 88, 93], []⟩),
 (15, ⟨1, [2, 9], [], []⟩),
 (16, ⟨2, [2, 3], [5, 7], []⟩),
 (17, ⟨2, [2, 4], [5, 8, 11, 16, 21, 26, 29], []⟩),
 (18, ⟨1, [1, 2, 3], [4, 12, 13, 17, 21, 22, 26, 28, 31, 35, 33, 36], []⟩),
 (21, ⟨1, [1, 5, 7, 9, 12], [15, 20, 29, 36, 40, 45, 49, 52, 59, 73, 86], []⟩),
 (22, ⟨1, [1], [3], []⟩),
 (23, ⟨1, [], [14], [[6]]⟩),
 (24, ⟨1, [1], [5, 9, 13, 18, 26, 40, 43, 35, 62, 69, 76, 80, 83], []⟩),
 (25, ⟨1, [1], [4, 9, 15, 19, 23, 29], []⟩),
 (27, ⟨3, [3, 6], [18, 24, 8, 13], []⟩),
 (28, ⟨1, [2, 3], [10, 16], []⟩),
 (29, ⟨3, [8, 9], [], []⟩),
 (30, ⟨2, [2, 3], [5, 7, 11, 13, 18, 20, 25, 27], []⟩),
 (32, ⟨3, [8, 9], [], []⟩),
 (33, ⟨2, [2, 3], [5, 7, 11, 13, 18, 20], []⟩),
 (34, ⟨1, [1, 2, 3], [5, 13, 23, 32, 33, 34, 38, 40, 43, 45, 49, 51], []⟩),
 (35, ⟨1, [1], [4, 6, 10], []⟩),
 (36, ⟨1, [1, 5], [6, 14, 17], []⟩),
 (37, ⟨2, [2], [7, 10, 14, 18, 36, 45], []⟩),
 (38, ⟨1, [1], [4, 8, 12, 23, 28, 34, 40, 45], []⟩),
 (39, ⟨2, [2], [8, 17], []⟩),
 (41, ⟨1, [1], [3], []⟩),
 (45, ⟨3, [7], [24, 33], []⟩),
 (46, ⟨1, [2, 3, 4], [27, 28, 34], []⟩),
 (47, ⟨3, [6, 7], [24, 33], []⟩),
 (49, ⟨1, [1], [4, 13], []⟩),
 (50, ⟨1, [1], [3, 10, 16, 18], []⟩),
 (52, ⟨1, [1], [4, 8, 12, 14, 19, 23, 26, 28], []⟩),
 (54, ⟨2, [4], [], []⟩),
 (55, ⟨2, [4, 6], [25, 40, 41, 58, 74, 87, 88, 97, 98], []⟩),
 (57, ⟨1, [2, 4], [19, 31, 32, 37, 42, 54, 55, 65], []⟩),
 (58, ⟨1, [2, 3, 4, 6], [37, 55, 64], []⟩),
 (63, ⟨3, [7], [22, 37], []⟩),
 (66, ⟨1, [2, 6], [57], []⟩)]
noncomputable def pgX : Funs := fun f => bif Nat.beq f 68 then some (extFun 2 gFI [(3, some Lib.pow10Tab)]) else bif Nat.beq f 67 then some (extFun 3 (gPI 137) [(1, none), (2, none)]) else funs pg f
noncomputable def pgF : Funs := hide pgX hints
def Of0 (f : FuncId) (c : AFun) : Prop := ∀ {K : Ctx} (_ : Fix pgF K) {st : St} {Q : Value × St → Prop} (_ : ∀ J, IsJ K (retK c.results) J → Ok (atX K J c (AM.start []) st) Q), Ok (K.go (.call f []) st) Q
def Of1 (f : FuncId) (c : AFun) : Prop := ∀ {K : Ctx} (_ : Fix pgF K) {a0 : Value} {st : St} {Q : Value × St → Prop} (_ : ∀ J, IsJ K (retK c.results) J → Ok (atX K J c (AM.start [a0]) st) Q), Ok (K.go (.call f [a0]) st) Q
def Of2 (f : FuncId) (c : AFun) : Prop := ∀ {K : Ctx} (_ : Fix pgF K) {a0 a1 : Value} {st : St} {Q : Value × St → Prop} (_ : ∀ J, IsJ K (retK c.results) J → Ok (atX K J c (AM.start [a0, a1]) st) Q), Ok (K.go (.call f [a0, a1]) st) Q
def Of3 (f : FuncId) (c : AFun) : Prop := ∀ {K : Ctx} (_ : Fix pgF K) {a0 a1 a2 : Value} {st : St} {Q : Value × St → Prop} (_ : ∀ J, IsJ K (retK c.results) J → Ok (atX K J c (AM.start [a0, a1, a2]) st) Q), Ok (K.go (.call f [a0, a1, a2]) st) Q
def Of5 (f : FuncId) (c : AFun) : Prop := ∀ {K : Ctx} (_ : Fix pgF K) {a0 a1 a2 a3 a4 : Value} {st : St} {Q : Value × St → Prop} (_ : ∀ J, IsJ K (retK c.results) J → Ok (atX K J c (AM.start [a0, a1, a2, a3, a4]) st) Q), Ok (K.go (.call f [a0, a1, a2, a3, a4]) st) Q
end Go.Proofs.YtdjfndijbnpkpaaDoor.Sh
