/-
  The numbers of the functions, by name.
-/
import Derived.Test.YtfknooeebmdfoaaProg
import Derived.Test.YtfknooeebmdfoaaAmC
set_option linter.unusedVariables false
namespace Go.Proofs.Ytfknooeebmdfoaa.Sh
open Go Go.AM Go.Proofs
noncomputable abbrev pg : Program := Try.prog
abbrev n_main_main : FuncId := 0
abbrev n_gosem_cut : FuncId := 1
abbrev n_gosem_cut_init : FuncId := 2
abbrev n_refinerylaw22_LeaveRows : FuncId := 3
abbrev n_refinerylaw22_LeaveLine : FuncId := 4
abbrev n_refinerylaw03_IrChecks : FuncId := 5
abbrev n_refinerylaw03_IrOnly : FuncId := 6
abbrev n_refinerylaw03_IrLasts : FuncId := 7
abbrev n_refinerylaw03_IrInstrs : FuncId := 8
abbrev n_refinerylaw03_IrCounts : FuncId := 9
abbrev n_refinerylaw03_IrPrograms : FuncId := 10
abbrev n_refinerylaw22_Awake : FuncId := 11
abbrev n_leave_Row : FuncId := 12
abbrev n_refinerylaw03_Awake : FuncId := 13
abbrev n_refinerylaw03_Small_Light : FuncId := 14
abbrev n_refinerylaw03_Small_Program : FuncId := 15
abbrev n_refinerylaw03_IrChecks_1 : FuncId := 16
abbrev n_refinerylaw03_IrChecks_2 : FuncId := 17
abbrev n_ir_Program_Check : FuncId := 18
abbrev n_refinerylaw03_IrOnly_1 : FuncId := 19
abbrev n_ir_Instr_Only : FuncId := 20
abbrev n_ir_Last_Reads : FuncId := 21
abbrev n_slices_Equal_int : FuncId := 22
abbrev n_ir_Last_Labels : FuncId := 23
abbrev n_ir_Last_Only : FuncId := 24
abbrev n_refinerylaw03_Line_Instr : FuncId := 25
abbrev n_ir_Instr_Sets : FuncId := 26
abbrev n_ir_Instr_Turned : FuncId := 27
abbrev n_refinerylaw03_IrInstrs_1 : FuncId := 28
abbrev n_ir_Instr_Reads : FuncId := 29
abbrev n_ir_Instr_Pure : FuncId := 30
abbrev n_ir_Program_Clone : FuncId := 31
abbrev n_ir_Program_Count : FuncId := 32
abbrev n_ir_Program_Regs : FuncId := 33
abbrev n_ir_Program_Plain : FuncId := 34
abbrev n_slices_IsSorted_int : FuncId := 35
abbrev n_refinerylaw03_IrPrograms_1 : FuncId := 36
abbrev n_ir_Program_Instrs : FuncId := 37
abbrev n_slices_Contains_irInstr : FuncId := 38
abbrev n_ir_Same : FuncId := 39
abbrev n_slices_DeleteFunc_leaveMove : FuncId := 40
abbrev n_slices_Clone_leaveMove : FuncId := 41
abbrev n_leave_Row_1 : FuncId := 42
abbrev n_leave_Row_2 : FuncId := 43
abbrev n_slices_IndexFunc_leaveMove : FuncId := 44
abbrev n_leave_Row_3 : FuncId := 45
abbrev n_slices_ContainsFunc_leaveMove : FuncId := 46
abbrev n_leave_Row_3_1 : FuncId := 47
abbrev n_slices_Delete_leaveMove : FuncId := 48
abbrev n_refinerylaw03_Label : FuncId := 49
abbrev n_refinerylaw03_Block_Last : FuncId := 50
abbrev n_ir_Phi_check : FuncId := 51
abbrev n_ir_Instr_check : FuncId := 52
abbrev n_ir_Last_check : FuncId := 53
abbrev n_word_Op_Traps : FuncId := 54
abbrev n_slices_Clone_irInstr : FuncId := 55
abbrev n_slices_Clone_int : FuncId := 56
abbrev n_ir_Program_Regs_1 : FuncId := 57
abbrev n_slices_ContainsFunc_irBlock : FuncId := 58
abbrev n_ir_Program_Plain_1 : FuncId := 59
abbrev n_cmp_Less_int : FuncId := 60
abbrev n_ir_Program_Instrs_1 : FuncId := 61
abbrev n_slices_Index_irInstr : FuncId := 62
abbrev n_slices_EqualFunc_irBlock : FuncId := 63
abbrev n_ir_Same_1 : FuncId := 64
abbrev n_slices_Equal_irInstr : FuncId := 65
abbrev n_slices_EqualFunc_irPhi : FuncId := 66
abbrev n_ir_Phi_same : FuncId := 67
abbrev n_ir_reg : FuncId := 68
abbrev n_slices_IndexFunc_irBlock : FuncId := 69
abbrev n_cmp_isNaN_int : FuncId := 70
abbrev n_runtime_boundsError_Error : FuncId := 71
abbrev n_runtime_boundsError_RuntimeError : FuncId := 72
abbrev n_runtime_errorString_Error : FuncId := 73
abbrev n_runtime_errorString_RuntimeError : FuncId := 74
abbrev n_runtime_plainError_Error : FuncId := 75
abbrev n_runtime_plainError_RuntimeError : FuncId := 76
abbrev n_runtime_errorAddressString_Error : FuncId := 77
abbrev n_runtime_errorAddressString_RuntimeError : FuncId := 78
abbrev n_runtime_TypeAssertionError_Error : FuncId := 79
abbrev n_runtime_TypeAssertionError_RuntimeError : FuncId := 80
abbrev n_runtime_PanicNilError_Error : FuncId := 81
abbrev n_runtime_PanicNilError_RuntimeError : FuncId := 82
abbrev n_internal_abi_Type_Align : FuncId := 83
abbrev n_internal_runtime_maps_unhashableTypeError_Error : FuncId := 84
abbrev n_internal_runtime_maps_unhashableTypeError_RuntimeError : FuncId := 85
abbrev n_word_Op_Name : FuncId := 86
abbrev n_api_Errno_Error : FuncId := 87
abbrev n_internal_abi_Kind_String : FuncId := 88
/-- Which boxes are kept in slots. -/
def hints : List (Nat × Hint) := [(3, ⟨2, [10, 25], [52, 54, 56, 58, 137, 141, 146, 151, 156, 160, 162], []⟩),
 (4, ⟨2, [8, 11], [], []⟩),
 (5, ⟨3, [3, 7], [19, 21, 48, 67, 74], []⟩),
 (6, ⟨7, [7], [29], []⟩),
 (7, ⟨3, [3, 8], [15, 17, 19, 20, 23, 27, 30, 32, 35, 37, 40, 46, 42, 47, 44, 48, 49, 51, 58, 60, 67, 71, 81], []⟩),
 (8, ⟨4, [4, 7, 10, 15, 19], [25, 35, 39, 44, 49, 53, 60, 66, 68, 101, 129, 131, 136, 138, 143, 145, 149, 153, 158, 162, 167, 190, 192, 197, 201, 207, 211, 216, 222, 226, 231, 235, 237, 242, 246, 248, 254, 258, 263, 265, 273, 275], []⟩),
 (9, ⟨3, [3, 4, 7, 8, 9, 10], [28, 36, 34], []⟩),
 (10, ⟨3, [3, 7, 8, 18, 20, 28], [57, 61, 63, 71, 77, 78, 82, 83, 103, 107, 112, 139, 151, 156, 222, 233, 240], [[27]]⟩),
 (13, ⟨0, [1], [], []⟩),
 (14, ⟨1, [1, 4], [5, 12, 17], []⟩),
 (15, ⟨1, [1, 2, 5, 7, 10], [11, 16, 31, 39, 48, 51, 55, 66, 73, 75, 83, 84, 87, 88, 93], []⟩),
 (17, ⟨2, [2], [], []⟩),
 (18, ⟨1, [1, 5, 7, 9, 12], [15, 20, 29, 36, 40, 45, 49, 52, 59, 73, 86], []⟩),
 (19, ⟨1, [1], [], []⟩),
 (20, ⟨1, [1, 2, 3], [5, 13, 23, 32, 33, 34, 38, 40, 43, 45, 49, 51], []⟩),
 (21, ⟨1, [1], [4, 6, 10], []⟩),
 (23, ⟨1, [1], [4, 8, 12, 14, 19, 23, 26, 28], []⟩),
 (24, ⟨1, [1, 2, 3], [4, 12, 13, 17, 21, 22, 26, 28, 31, 35, 33, 36], []⟩),
 (25, ⟨2, [2, 4], [5, 8, 11, 16, 21, 26, 29], []⟩),
 (26, ⟨1, [1], [4, 13], []⟩),
 (27, ⟨2, [2, 4], [8, 16, 19, 24, 28, 31, 32], []⟩),
 (29, ⟨1, [1], [3, 10, 16, 18], []⟩),
 (30, ⟨1, [1], [3, 7, 12, 16], []⟩),
 (31, ⟨1, [1, 2, 3, 5, 6, 8], [9, 17, 20, 21, 22, 33, 36, 29, 31, 42, 44, 49], []⟩),
 (32, ⟨1, [1, 5], [6, 14, 17], []⟩),
 (33, ⟨1, [1, 6, 8, 12], [20, 27, 35, 38, 50, 79], []⟩),
 (34, ⟨1, [1], [3], []⟩),
 (38, ⟨2, [3], [], []⟩),
 (39, ⟨2, [2, 3], [5, 7], []⟩),
 (40, ⟨2, [7], [], []⟩),
 (42, ⟨1, [1], [3, 5], []⟩),
 (43, ⟨2, [2], [4, 6], []⟩),
 (47, ⟨2, [2], [4], []⟩),
 (50, ⟨3, [3, 6], [18, 24, 8, 13], []⟩),
 (51, ⟨2, [2], [7, 10, 14, 18, 36, 45], []⟩),
 (52, ⟨1, [1], [4, 8, 12, 23, 28, 34, 40, 45], []⟩),
 (53, ⟨2, [2], [8, 17], []⟩),
 (59, ⟨1, [1], [3], []⟩),
 (61, ⟨2, [4, 6], [15], []⟩),
 (62, ⟨2, [3], [], []⟩),
 (63, ⟨3, [8, 9], [], []⟩),
 (64, ⟨2, [2, 3], [5, 7, 11, 13, 18, 20, 25, 27], []⟩),
 (66, ⟨3, [8, 9], [], []⟩),
 (67, ⟨2, [2, 3], [5, 7, 11, 13, 18, 20], []⟩)]
noncomputable def pgF : Funs := hide (funs pg) hints
end Go.Proofs.Ytfknooeebmdfoaa.Sh
