/-
  The numbers of the functions, by name.
-/
import Derived.Test.YtenfblnmmmppbaaProg
import Derived.Test.YtenfblnmmmppbaaAmC
set_option linter.unusedVariables false
namespace Go.Proofs.Ytenfblnmmmppbaa.Sh
open Go Go.AM Go.Proofs
noncomputable abbrev pg : Program := Try.prog
abbrev n_main_main : FuncId := 0
abbrev n_gosem_cut : FuncId := 1
abbrev n_gosem_cut_init : FuncId := 2
abbrev n_refinerylaw21_SweepDoes : FuncId := 3
abbrev n_refinerylaw17_StrictLine : FuncId := 4
abbrev n_refinerylaw19_ShareCopies : FuncId := 5
abbrev n_refinerylaw18_FoldMeets : FuncId := 6
abbrev n_refinerylaw21_Awake : FuncId := 7
abbrev n_sweep_Does : FuncId := 8
abbrev n_refinerylaw17_Awake : FuncId := 9
abbrev n_refinerylaw03_Line_Instr : FuncId := 10
abbrev n_ir_Instr_Reads : FuncId := 11
abbrev n_ir_Instr_Sets : FuncId := 12
abbrev n_strict_Check : FuncId := 13
abbrev n_refinerylaw19_Awake : FuncId := 14
abbrev n_share_Share : FuncId := 15
abbrev n_ir_Same : FuncId := 16
abbrev n_refinerylaw18_Awake : FuncId := 17
abbrev n_refinerylaw18_FoldMeets_1 : FuncId := 18
abbrev n_fold_Meet : FuncId := 19
abbrev n_sweep_Sweep : FuncId := 20
abbrev n_ir_Instr_Pure : FuncId := 21
abbrev n_ir_Instr_Only : FuncId := 22
abbrev n_ir_Program_Check : FuncId := 23
abbrev n_graph_Of : FuncId := 24
abbrev n_slices_Contains_bool : FuncId := 25
abbrev n_graph_Graph_Reached : FuncId := 26
abbrev n_graph_Graph_Ahead : FuncId := 27
abbrev n_strict_places : FuncId := 28
abbrev n_slices_Sort_int : FuncId := 29
abbrev n_slices_Equal_int : FuncId := 30
abbrev n_strict_reads : FuncId := 31
abbrev n_dom_Of : FuncId := 32
abbrev n_ir_Program_Clone : FuncId := 33
abbrev n_share_sharer_block : FuncId := 34
abbrev n_share_sharer_of : FuncId := 35
abbrev n_ir_Instr_Turned : FuncId := 36
abbrev n_ir_Last_Reads : FuncId := 37
abbrev n_slices_EqualFunc_irBlock : FuncId := 38
abbrev n_ir_Same_1 : FuncId := 39
abbrev n_slices_Equal_irInstr : FuncId := 40
abbrev n_slices_EqualFunc_irPhi : FuncId := 41
abbrev n_ir_Phi_same : FuncId := 42
abbrev n_fold_Fold : FuncId := 43
abbrev n_sweep_Needed : FuncId := 44
abbrev n_bag_Set_int_Has : FuncId := 45
abbrev n_word_Op_Traps : FuncId := 46
abbrev n_ir_Program_Count : FuncId := 47
abbrev n_ir_Phi_check : FuncId := 48
abbrev n_ir_Instr_check : FuncId := 49
abbrev n_ir_Last_check : FuncId := 50
abbrev n_graph_New : FuncId := 51
abbrev n_ir_Last_Labels : FuncId := 52
abbrev n_graph_Graph_Join : FuncId := 53
abbrev n_slices_Index_bool : FuncId := 54
abbrev n_graph_Graph_Len : FuncId := 55
abbrev n_graph_Graph_walk : FuncId := 56
abbrev n_graph_Graph_Reached_1 : FuncId := 57
abbrev n_graph_Graph_Reached_2 : FuncId := 58
abbrev n_slices_Clone_int : FuncId := 59
abbrev n_strict_places_1 : FuncId := 60
abbrev n_slices_pdqsortOrdered_int : FuncId := 61
abbrev n_math_bits_Len : FuncId := 62
abbrev n_strict_reads_1 : FuncId := 63
abbrev n_dom_Tree_Over : FuncId := 64
abbrev n_dom_Of_1 : FuncId := 65
abbrev n_slices_Repeat_int : FuncId := 66
abbrev n_dom_finder_visit : FuncId := 67
abbrev n_dom_finder_eval : FuncId := 68
abbrev n_dom_tree : FuncId := 69
abbrev n_slices_Clone_irInstr : FuncId := 70
abbrev n_share_sharer_one : FuncId := 71
abbrev n_share_sharer_reckons : FuncId := 72
abbrev n_share_scope_find : FuncId := 73
abbrev n_dom_Tree_Below : FuncId := 74
abbrev n_fold_solve : FuncId := 75
abbrev n_clean_Reached : FuncId := 76
abbrev n_sweep_Needed_1 : FuncId := 77
abbrev n_bag_Set_int_Add : FuncId := 78
abbrev n_bag_Queue_int_Put : FuncId := 79
abbrev n_bag_Queue_int_Drain : FuncId := 80
abbrev n_slices_BinarySearch_int : FuncId := 81
abbrev n_ir_reg : FuncId := 82
abbrev n_ir_Last_Only : FuncId := 83
abbrev n_slices_Contains_int : FuncId := 84
abbrev n_slices_insertionSortOrdered_int : FuncId := 85
abbrev n_slices_heapSortOrdered_int : FuncId := 86
abbrev n_slices_breakPatternsOrdered_int : FuncId := 87
abbrev n_slices_choosePivotOrdered_int : FuncId := 88
abbrev n_slices_reverseRangeOrdered_int : FuncId := 89
abbrev n_slices_partialInsertionSortOrdered_int : FuncId := 90
abbrev n_cmp_Less_int : FuncId := 91
abbrev n_slices_partitionEqualOrdered_int : FuncId := 92
abbrev n_slices_partitionOrdered_int : FuncId := 93
abbrev n_math_bits_Len32 : FuncId := 94
abbrev n_math_bits_Len64 : FuncId := 95
abbrev n_math_bits_Mul : FuncId := 96
abbrev n_graph_Graph_Behind : FuncId := 97
abbrev n_dom_finder_pass : FuncId := 98
abbrev n_word_Op_Turns : FuncId := 99
abbrev n_fold_solver_read : FuncId := 100
abbrev n_fold_solver_block : FuncId := 101
abbrev n_bag_Queue_foldedge_Len : FuncId := 102
abbrev n_bag_Queue_int_Len : FuncId := 103
abbrev n_bag_Queue_foldedge_Drain : FuncId := 104
abbrev n_fold_solver_way : FuncId := 105
abbrev n_bag_Queue_int_Take : FuncId := 106
abbrev n_bag_Set_int_All : FuncId := 107
abbrev n_clean_Ways : FuncId := 108
abbrev n_slices_Insert_int : FuncId := 109
abbrev n_bag_Queue_int_Drain_1 : FuncId := 110
abbrev n_slices_isNaN_int : FuncId := 111
abbrev n_slices_Index_int : FuncId := 112
abbrev n_slices_siftDownOrdered_int : FuncId := 113
abbrev n_slices_nextPowerOfTwo : FuncId := 114
abbrev n_slices_xorshift_Next : FuncId := 115
abbrev n_slices_medianAdjacentOrdered_int : FuncId := 116
abbrev n_slices_medianOrdered_int : FuncId := 117
abbrev n_cmp_isNaN_int : FuncId := 118
abbrev n_math_bits_Mul32 : FuncId := 119
abbrev n_math_bits_Mul64 : FuncId := 120
abbrev n_fold_solver_read_1 : FuncId := 121
abbrev n_fold_solver_know : FuncId := 122
abbrev n_fold_solver_instr : FuncId := 123
abbrev n_fold_solver_may : FuncId := 124
abbrev n_bag_Queue_foldedge_Put : FuncId := 125
abbrev n_bag_Queue_foldedge_Drain_1 : FuncId := 126
abbrev n_bag_Queue_foldedge_Take : FuncId := 127
abbrev n_bag_Set_int_All_1 : FuncId := 128
abbrev n_slices_overlaps_int : FuncId := 129
abbrev n_slices_rotateRight_int : FuncId := 130
abbrev n_slices_order2Ordered_int : FuncId := 131
abbrev n_word_Op_Do : FuncId := 132
abbrev n_slices_rotateLeft_int : FuncId := 133
abbrev n_word_bit : FuncId := 134
abbrev n_slices_Reverse_int : FuncId := 135
abbrev n_runtime_boundsError_Error : FuncId := 136
abbrev n_runtime_boundsError_RuntimeError : FuncId := 137
abbrev n_runtime_errorString_Error : FuncId := 138
abbrev n_runtime_errorString_RuntimeError : FuncId := 139
abbrev n_runtime_plainError_Error : FuncId := 140
abbrev n_runtime_plainError_RuntimeError : FuncId := 141
abbrev n_runtime_errorAddressString_Error : FuncId := 142
abbrev n_runtime_errorAddressString_RuntimeError : FuncId := 143
abbrev n_runtime_TypeAssertionError_Error : FuncId := 144
abbrev n_runtime_TypeAssertionError_RuntimeError : FuncId := 145
abbrev n_runtime_PanicNilError_Error : FuncId := 146
abbrev n_runtime_PanicNilError_RuntimeError : FuncId := 147
abbrev n_internal_abi_Type_Align : FuncId := 148
abbrev n_internal_runtime_maps_unhashableTypeError_Error : FuncId := 149
abbrev n_internal_runtime_maps_unhashableTypeError_RuntimeError : FuncId := 150
abbrev n_word_Op_Name : FuncId := 151
abbrev n_api_Errno_Error : FuncId := 152
abbrev n_dom_Tree_Up : FuncId := 153
abbrev n_bag_Set_int_Len : FuncId := 154
abbrev n_internal_abi_Kind_String : FuncId := 155
/-- Which boxes are kept in slots. -/
def hints : List (Nat × Hint) := [(3, ⟨3, [3], [14, 15, 16, 24, 28], []⟩),
 (4, ⟨2, [5, 10, 11], [65, 70], []⟩),
 (5, ⟨2, [6, 8], [24, 32, 34, 44], []⟩),
 (6, ⟨4, [4, 5, 6, 10], [23, 25, 31, 36], []⟩),
 (7, ⟨0, [1, 2], [12, 17, 26], []⟩),
 (8, ⟨1, [1], [7], []⟩),
 (9, ⟨0, [1], [], []⟩),
 (10, ⟨2, [2, 4], [5, 8, 11, 16, 21, 26, 29], []⟩),
 (11, ⟨1, [1], [3, 10, 16, 18], []⟩),
 (12, ⟨1, [1], [4, 13], []⟩),
 (13, ⟨1, [1, 4, 8, 13], [37, 54, 65, 72], []⟩),
 (14, ⟨0, [1, 2], [14, 19, 28], []⟩),
 (15, ⟨1, [1, 2, 7, 11], [30, 61, 69], []⟩),
 (16, ⟨2, [2, 3], [5, 7], []⟩),
 (17, ⟨0, [1, 2], [12, 17], []⟩),
 (18, ⟨1, [1, 2], [3, 6, 7, 10], []⟩),
 (19, ⟨2, [2, 3, 4], [6, 11], []⟩),
 (20, ⟨1, [1, 2, 3, 8, 11], [23, 29, 43], []⟩),
 (21, ⟨1, [1], [3, 7, 12, 16], []⟩),
 (22, ⟨1, [1, 2, 3], [5, 13, 23, 32, 33, 34, 38, 40, 43, 45, 49, 51], []⟩),
 (23, ⟨1, [1, 5, 7, 9, 12], [15, 20, 29, 36, 40, 45, 49, 52, 59, 73, 86], []⟩),
 (24, ⟨1, [1, 2, 5, 6, 8], [14, 23, 27, 31, 39], []⟩),
 (26, ⟨1, [1], [], []⟩),
 (27, ⟨2, [2], [13], []⟩),
 (28, ⟨1, [1, 8, 10, 12], [17, 25, 33, 39], []⟩),
 (31, ⟨3, [3, 9, 12, 14, 19], [25, 34, 39, 47, 54, 63, 72, 83, 107, 117], []⟩),
 (32, ⟨1, [1, 2], [], []⟩),
 (33, ⟨1, [1, 2, 3, 5, 6, 8], [9, 17, 20, 21, 22, 33, 36, 29, 31, 42, 44, 49], []⟩),
 (34, ⟨3, [10, 15, 16], [53, 74, 81, 83, 108, 116], []⟩),
 (36, ⟨2, [2, 4], [8, 16, 19, 24, 28, 31, 32], []⟩),
 (37, ⟨1, [1], [4, 6, 10], []⟩),
 (38, ⟨3, [8, 9], [], []⟩),
 (39, ⟨2, [2, 3], [5, 7, 11, 13, 18, 20, 25, 27], []⟩),
 (41, ⟨3, [8, 9], [], []⟩),
 (42, ⟨2, [2, 3], [5, 7, 11, 13, 18, 20], []⟩),
 (43, ⟨1, [1, 2, 9, 10, 12, 15], [26, 32, 49, 52, 56, 58, 140, 149], []⟩),
 (44, ⟨1, [1, 2, 8, 10, 12], [20, 27, 38, 41, 35, 45, 74], []⟩),
 (45, ⟨2, [2], [8], []⟩),
 (47, ⟨1, [1, 5], [6, 14, 17], []⟩),
 (48, ⟨2, [2], [7, 10, 14, 18, 36, 45], []⟩),
 (49, ⟨1, [1], [4, 8, 12, 23, 28, 34, 40, 45], []⟩),
 (50, ⟨2, [2], [8, 17], []⟩),
 (51, ⟨1, [2], [], []⟩),
 (52, ⟨1, [1], [4, 8, 12, 14, 19, 23, 26, 28], []⟩),
 (53, ⟨3, [3], [25, 36, 33, 48, 45, 57], []⟩),
 (55, ⟨1, [1], [3], []⟩),
 (56, ⟨5, [5], [18], []⟩),
 (60, ⟨4, [5, 6], [], []⟩),
 (63, ⟨5, [9], [19, 24, 30, 36], []⟩),
 (64, ⟨3, [3], [15, 22, 28, 36, 43, 48, 54], []⟩),
 (67, ⟨3, [4], [], []⟩),
 (69, ⟨2, [4, 5], [28, 32, 35, 58, 55], []⟩),
 (71, ⟨2, [3], [10, 21], []⟩),
 (72, ⟨2, [3, 4, 6], [7, 9, 11, 13, 15, 18, 22, 27, 29, 33, 35, 37, 38, 40, 44], []⟩),
 (73, ⟨2, [3], [], []⟩),
 (74, ⟨2, [2], [9, 14], []⟩),
 (75, ⟨1, [1, 5], [16, 23, 35, 43], [[6]]⟩),
 (76, ⟨1, [1, 2, 3], [16, 18, 25], []⟩),
 (83, ⟨1, [1, 2, 3], [4, 12, 13, 17, 21, 22, 26, 28, 31, 35, 33, 36], []⟩),
 (97, ⟨2, [2], [13], []⟩),
 (100, ⟨3, [5, 8, 12], [18, 25, 37, 57], []⟩),
 (101, ⟨2, [4, 6, 10], [29, 36, 58, 64, 73, 105], []⟩),
 (105, ⟨2, [3], [16], []⟩),
 (108, ⟨1, [1, 2, 3, 9, 10], [17, 33, 40, 52, 54, 55, 68, 73, 78, 80, 87, 88, 90], []⟩),
 (122, ⟨3, [5, 6, 7], [], []⟩),
 (123, ⟨2, [3, 4, 5, 6], [13, 20, 23, 27, 35, 39, 44, 48, 53, 55, 57], []⟩),
 (124, ⟨3, [4, 7], [8, 15, 19, 23, 27, 32, 36, 40], []⟩),
 (125, ⟨2, [3], [], []⟩),
 (126, ⟨2, [3], [], []⟩),
 (127, ⟨1, [2, 4, 5], [], []⟩)]
noncomputable def pgF : Funs := hide (funs pg) hints
end Go.Proofs.Ytenfblnmmmppbaa.Sh
