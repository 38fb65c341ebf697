/-
  The numbers of the functions, by name.
-/
import Derived.Test.YtefdkodjpcabmaaDoorProg
import Derived.Test.YtefdkodjpcabmaaDoorAmC
import Derived.Test.YtefdkodjpcabmaaDoorTx0
set_option linter.unusedVariables false
namespace Go.Proofs.YtefdkodjpcabmaaDoor.Sh
open Go Go.AM Go.Proofs
noncomputable abbrev pg : Program := Tryd.prog
abbrev n_main_main : FuncId := 0
abbrev n_gosem_cut : FuncId := 1
abbrev n_gosem_cut_init : FuncId := 2
abbrev n_refinerylaw06_ShowLines : FuncId := 3
abbrev n_refinerylaw04_LexReads : FuncId := 4
abbrev n_refinerylaw04_LexAny : FuncId := 5
abbrev n_refinerylaw04_LexStops : FuncId := 6
abbrev n_refinerylaw04_LexNumbers : FuncId := 7
abbrev n_refinerylaw04_LexJoins : FuncId := 8
abbrev n_refinerylaw06_Awake : FuncId := 9
abbrev n_refinerylaw03_Line_Instr : FuncId := 10
abbrev n_refinerylaw03_Block_Last : FuncId := 11
abbrev n_show_Instr : FuncId := 12
abbrev n_show_Last : FuncId := 13
abbrev n_refinerylaw04_Awake : FuncId := 14
abbrev n_refinerylaw04_Piece_Token : FuncId := 15
abbrev n_lex_Split : FuncId := 16
abbrev n_lex_Tokens : FuncId := 17
abbrev n_refinerylaw04_number : FuncId := 18
abbrev n_refinerylaw04_LexJoins_1 : FuncId := 19
abbrev n_show_Program : FuncId := 20
abbrev n_ir_Instr_Only : FuncId := 21
abbrev n_refinerylaw03_Label : FuncId := 22
abbrev n_ir_Last_Only : FuncId := 23
abbrev n_ir_Instr_Sets : FuncId := 24
abbrev n_show_writer_put : FuncId := 25
abbrev n_word_Op_Name : FuncId := 26
abbrev n_strings_Builder_String : FuncId := 27
abbrev n_refinerylaw04_word : FuncId := 28
abbrev n_lex_Tokens_1 : FuncId := 29
abbrev n_lex_next : FuncId := 30
abbrev n_show_Phi : FuncId := 31
abbrev n_ir_Instr_Reads : FuncId := 32
abbrev n_ir_Last_Reads : FuncId := 33
abbrev n_strings_Builder_WriteString : FuncId := 34
abbrev n_strconv_Itoa : FuncId := 35
abbrev n_strconv_FormatInt : FuncId := 36
abbrev n_lex_digits : FuncId := 37
abbrev n_lex_number : FuncId := 38
abbrev n_lex_letters : FuncId := 39
abbrev n_strings_Builder_copyCheck : FuncId := 40
abbrev n_internal_strconv_Itoa : FuncId := 41
abbrev n_internal_strconv_FormatInt : FuncId := 42
abbrev n_strconv_ParseInt : FuncId := 43
abbrev n_internal_abi_NoEscape : FuncId := 44
abbrev n_internal_strconv_small : FuncId := 45
abbrev n_internal_strconv_numDigits : FuncId := 46
abbrev n_internal_strconv_formatBase10 : FuncId := 47
abbrev n_internal_strconv_formatBits : FuncId := 48
abbrev n_internal_strconv_ParseInt : FuncId := 49
abbrev n_strconv_toError : FuncId := 50
abbrev n_internal_strconv_log10Pow2 : FuncId := 51
abbrev n_math_bits_Len64 : FuncId := 52
abbrev n_internal_strconv_bool2_int : FuncId := 53
abbrev n_internal_strconv_isPowerOfTwo : FuncId := 54
abbrev n_math_bits_TrailingZeros : FuncId := 55
abbrev n_internal_strconv_ParseUint : FuncId := 56
abbrev n_strconv_syntaxError : FuncId := 57
abbrev n_strconv_rangeError : FuncId := 58
abbrev n_strconv_baseError : FuncId := 59
abbrev n_strconv_bitSizeError : FuncId := 60
abbrev n_math_bits_TrailingZeros32 : FuncId := 61
abbrev n_math_bits_TrailingZeros64 : FuncId := 62
abbrev n_internal_strconv_lower : FuncId := 63
abbrev n_internal_strconv_underscoreOK : FuncId := 64
abbrev n_internal_stringslite_Clone : FuncId := 65
abbrev n_errors_New : FuncId := 66
abbrev n_runtime_boundsError_Error : FuncId := 67
abbrev n_runtime_boundsError_RuntimeError : FuncId := 68
abbrev n_runtime_errorString_Error : FuncId := 69
abbrev n_runtime_errorString_RuntimeError : FuncId := 70
abbrev n_runtime_plainError_Error : FuncId := 71
abbrev n_runtime_plainError_RuntimeError : FuncId := 72
abbrev n_runtime_errorAddressString_Error : FuncId := 73
abbrev n_runtime_errorAddressString_RuntimeError : FuncId := 74
abbrev n_runtime_TypeAssertionError_Error : FuncId := 75
abbrev n_runtime_TypeAssertionError_RuntimeError : FuncId := 76
abbrev n_runtime_PanicNilError_Error : FuncId := 77
abbrev n_runtime_PanicNilError_RuntimeError : FuncId := 78
abbrev n_internal_abi_Type_Align : FuncId := 79
abbrev n_internal_runtime_maps_unhashableTypeError_Error : FuncId := 80
abbrev n_internal_runtime_maps_unhashableTypeError_RuntimeError : FuncId := 81
abbrev n_ir_Instr_Pure : FuncId := 82
abbrev n_api_Errno_Error : FuncId := 83
abbrev n_ir_Program_Count : FuncId := 84
abbrev n_strings_Builder_Reset : FuncId := 85
abbrev n_ir_Phi_same : FuncId := 86
abbrev n_internal_strconv_Error_Error : FuncId := 87
abbrev n_strconv_NumError_Error : FuncId := 88
abbrev n_errors_errorString_Error : FuncId := 89
abbrev n_internal_abi_Kind_String : FuncId := 90
abbrev n_var_s_door__gosem_cut_vars_holds_initialisers_alone__see_the_manifest_s_row_cutvarsword_look_11__test_files_too : FuncId := 91
abbrev n_var_s_door__internal_strconv_uint64pow10_is_laid_by_its_own_initialiser__plain_data_look_11 : FuncId := 92
abbrev n_var_s_door__math_bits_deBruijn32tab_is_laid_by_its_own_initialiser__plain_data_look_11 : FuncId := 93
abbrev n_var_s_door__math_bits_deBruijn64tab_is_laid_by_its_own_initialiser__plain_data_look_11 : FuncId := 94
abbrev n_var_s_door__word_names_is_laid_by_its_own_initialiser__plain_data_look_11 : FuncId := 95
abbrev n_var_s_door__strconv_ErrRange_is_laid_by_its_own_call_of_errors_New_on_one_literal_look_11 : FuncId := 96
abbrev n_var_s_door__strconv_ErrSyntax_is_laid_by_its_own_call_of_errors_New_on_one_literal_look_11 : FuncId := 97
abbrev n_var_s_door__the_look_of_gosem_cut_vars_went_over_the_folder_that_the_caller_named_as_the_repository_s_root_look_11 : FuncId := 98
abbrev n_gosem_cut_vars : FuncId := 99
/-- Which boxes are kept in slots. -/
def hints : List (Nat × Hint) := [(3, ⟨5, [5, 6, 7, 8, 11, 12, 13, 14], [], []⟩),
 (4, ⟨1, [6, 8, 13], [32, 40, 47], []⟩),
 (5, ⟨2, [], [60, 65, 91, 96, 110, 120, 124, 129, 131, 133, 138, 143], [[15]]⟩),
 (6, ⟨2, [7, 9], [], [[14]]⟩),
 (8, ⟨2, [18, 19], [109, 115], []⟩),
 (10, ⟨2, [2, 4], [5, 8, 11, 16, 21, 26, 29], []⟩),
 (11, ⟨3, [3, 6], [18, 24, 8, 13], []⟩),
 (12, ⟨1, [1], [21, 26, 35, 43, 48, 52, 67, 76, 85, 89, 98, 107, 111], []⟩),
 (13, ⟨1, [1], [6, 12, 21, 25, 29, 38], []⟩),
 (15, ⟨1, [1, 3], [7, 11, 16, 48, 51, 57, 60, 64, 71], []⟩),
 (16, ⟨1, [], [14], [[6]]⟩),
 (19, ⟨1, [5, 7], [], []⟩),
 (20, ⟨1, [1, 5, 7, 9], [12, 21, 27, 43, 61], []⟩),
 (21, ⟨1, [1, 2, 3], [5, 13, 23, 32, 33, 34, 38, 40, 43, 45, 49, 51], []⟩),
 (23, ⟨1, [1, 2, 3], [4, 12, 13, 17, 21, 22, 26, 28, 31, 35, 33, 36], []⟩),
 (24, ⟨1, [1], [4, 13], []⟩),
 (29, ⟨2, [4], [], []⟩),
 (30, ⟨2, [4, 6], [25, 40, 41, 58, 74, 87, 88, 97, 98], []⟩),
 (31, ⟨1, [1], [9, 15, 18, 33, 40], []⟩),
 (32, ⟨1, [1], [3, 10, 16, 18], []⟩),
 (33, ⟨1, [1], [4, 6, 10], []⟩)]
noncomputable def pgX : Funs := fun f => bif Nat.beq f 36 then some (extFun 2 gFI [(1, some Lib.pow10Tab)]) else bif Nat.beq f 43 then some (extFun 3 (gPI 130) [(2, none), (3, none)]) else funs pg f
noncomputable def pgF : Funs := hide pgX hints
end Go.Proofs.YtefdkodjpcabmaaDoor.Sh
