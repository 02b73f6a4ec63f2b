/- What each function does, step by step: printed by a program of ours, checked by the kernel. -/
import Derived.Test.YtkkbcdndkbicbaaPAbsM
import Derived.Test.YtkkbcdndkbicbaaProg

set_option linter.unusedVariables false
set_option maxRecDepth 100000
namespace Go.Ab
open Go.Proofs

@[reducible] def F.law08_RationalMakes : FuncId := 3
@[reducible] def F.law17_GainScores : FuncId := 4
@[reducible] def F.law08_RationalSums : FuncId := 5
@[reducible] def F.law08_RationalCompares : FuncId := 6
@[reducible] def F.law08_RationalBetween : FuncId := 7
@[reducible] def F.law08_RationalAround : FuncId := 8
@[reducible] def F.law17_GainSplits : FuncId := 9
@[reducible] def F.law17_GainBoth : FuncId := 10
@[reducible] def F.law17_GainTurned : FuncId := 11
@[reducible] def F.law08_few : FuncId := 12
@[reducible] def F.law08_awake : FuncId := 13
@[reducible] def F.rational_Make : FuncId := 14
@[reducible] def F.ref08_Make : FuncId := 15
@[reducible] def F.ref08_Same : FuncId := 16
@[reducible] def F.rational_Right : FuncId := 17
@[reducible] def F.ref08_Right : FuncId := 18
@[reducible] def F.law17_awake : FuncId := 19
@[reducible] def F.gain_Score : FuncId := 20
@[reducible] def F.ref17_Score : FuncId := 21
@[reducible] def F.rational_Add : FuncId := 22
@[reducible] def F.ref08_Add : FuncId := 23
@[reducible] def F.rational_Sub : FuncId := 24
@[reducible] def F.ref08_Sub : FuncId := 25
@[reducible] def F.rational_Mul : FuncId := 26
@[reducible] def F.ref08_Mul : FuncId := 27
@[reducible] def F.rational_Floor : FuncId := 28
@[reducible] def F.ref08_Floor : FuncId := 29
@[reducible] def F.ref03_Same : FuncId := 30
@[reducible] def F.rational_Cmp : FuncId := 31
@[reducible] def F.ref08_Cmp : FuncId := 32
@[reducible] def F.ref03_Add : FuncId := 33
@[reducible] def F.ref03_Of : FuncId := 34
@[reducible] def F.gain_Gain : FuncId := 35
@[reducible] def F.ref17_Gain : FuncId := 36
@[reducible] def F.gain_Best : FuncId := 37
@[reducible] def F.modint_Right : FuncId := 38
@[reducible] def F.nat_Right : FuncId := 39
@[reducible] def F.modint_Gcd : FuncId := 40
@[reducible] def F.nat_Div : FuncId := 41
@[reducible] def F.modint_From : FuncId := 42
@[reducible] def F.ref03_Right : FuncId := 43
@[reducible] def F.ref01_Right : FuncId := 44
@[reducible] def F.ref03_Gcd : FuncId := 45
@[reducible] def F.ref01_Div : FuncId := 46
@[reducible] def F.ref03_From : FuncId := 47
@[reducible] def F.ref01_Same : FuncId := 48
@[reducible] def F.nat_Cmp : FuncId := 49
@[reducible] def F.ref01_Cmp : FuncId := 50
@[reducible] def F.ref01_Of : FuncId := 51
@[reducible] def F.gain_may : FuncId := 52
@[reducible] def F.gain_mayLambda : FuncId := 53
@[reducible] def F.modint_Of : FuncId := 54
@[reducible] def F.modint_Mul : FuncId := 55
@[reducible] def F.nat_Of : FuncId := 56
@[reducible] def F.ref16_RightSum : FuncId := 57
@[reducible] def F.ref03_Mul : FuncId := 58
@[reducible] def F.rational_both : FuncId := 59
@[reducible] def F.modint_Add : FuncId := 60
@[reducible] def F.ref08_over : FuncId := 61
@[reducible] def F.ref01_Mul : FuncId := 62
@[reducible] def F.modint_Sub : FuncId := 63
@[reducible] def F.ref03_Neg : FuncId := 64
@[reducible] def F.rational_right : FuncId := 65
@[reducible] def F.nat_Mul : FuncId := 66
@[reducible] def F.modint_Floor : FuncId := 67
@[reducible] def F.ref03_Floor : FuncId := 68
@[reducible] def F.modint_Cmp : FuncId := 69
@[reducible] def F.rational_over : FuncId := 70
@[reducible] def F.ref03_Cmp : FuncId := 71
@[reducible] def F.ref01_Add : FuncId := 72
@[reducible] def F.ref01_Sub : FuncId := 73
@[reducible] def F.gain_right : FuncId := 74
@[reducible] def F.gain_Gain_1 : FuncId := 75
@[reducible] def F.ref17_Right : FuncId := 76
@[reducible] def F.gain_Best_1 : FuncId := 77
@[reducible] def F.slices_Clone_api_Nat_uint64 : FuncId := 78
@[reducible] def F.nat_right : FuncId := 79
@[reducible] def F.nat_compare : FuncId := 80
@[reducible] def F.nat_short : FuncId := 81
@[reducible] def F.nat_long : FuncId := 82
@[reducible] def F.ref01_Rest : FuncId := 83
@[reducible] def F.ref01_div : FuncId := 84
@[reducible] def F.ref01_In : FuncId := 85
@[reducible] def F.ref01_Out : FuncId := 86
@[reducible] def F.ref01_compare : FuncId := 87
@[reducible] def F.modint_right : FuncId := 88
@[reducible] def F.nat_trim : FuncId := 89
@[reducible] def F.nat_Add : FuncId := 90
@[reducible] def F.nat_Sub : FuncId := 91
@[reducible] def F.ref01_told : FuncId := 92
@[reducible] def F.ref01_mul : FuncId := 93
@[reducible] def F.modint_Neg : FuncId := 94
@[reducible] def F.slices_ContainsFunc_api_Frac_api_Frac : FuncId := 95
@[reducible] def F.rational_right_1 : FuncId := 96
@[reducible] def F.nat_told : FuncId := 97
@[reducible] def F.nat_product : FuncId := 98
@[reducible] def F.ref01_add : FuncId := 99
@[reducible] def F.ref01_sub : FuncId := 100
@[reducible] def F.slices_ContainsFunc_api_Nat_api_Nat : FuncId := 101
@[reducible] def F.nat_right_1 : FuncId := 102
@[reducible] def F.math_bits_Div64 : FuncId := 103
@[reducible] def F.math_bits_LeadingZeros64 : FuncId := 104
@[reducible] def F.nat_up : FuncId := 105
@[reducible] def F.nat_guess : FuncId := 106
@[reducible] def F.nat_school : FuncId := 107
@[reducible] def F.nat_less : FuncId := 108
@[reducible] def F.ref01_cut : FuncId := 109
@[reducible] def F.slices_ContainsFunc_api_Int_api_Int : FuncId := 110
@[reducible] def F.modint_right_1 : FuncId := 111
@[reducible] def F.nat_sum : FuncId := 112
@[reducible] def F.slices_IndexFunc_api_Frac_api_Frac : FuncId := 113
@[reducible] def F.nat_product_1 : FuncId := 114
@[reducible] def F.nat_product_1_1 : FuncId := 115
@[reducible] def F.nat_product_1_2 : FuncId := 116
@[reducible] def F.nat_into : FuncId := 117
@[reducible] def F.ref01_digit : FuncId := 118
@[reducible] def F.slices_IndexFunc_api_Nat_api_Nat : FuncId := 119
@[reducible] def F.math_bits_Len64 : FuncId := 120
@[reducible] def F.math_bits_Mul64 : FuncId := 121
@[reducible] def F.slices_IndexFunc_api_Int_api_Int : FuncId := 124
@[reducible] def T.unit : TypeId := 0
@[reducible] def T.func : TypeId := 1
@[reducible] def T.int64 : TypeId := 2
@[reducible] def T.int : TypeId := 3
@[reducible] def T.bool : TypeId := 4
@[reducible] def T.uint8 : TypeId := 5
@[reducible] def T.abi_BoundsErrorCode : TypeId := 6
@[reducible] def T.struct_x_int64_y_int_signed_bool_code_abi_BoundsErrorCode : TypeId := 7
@[reducible] def T.runtime_boundsError : TypeId := 8
@[reducible] def T.string : TypeId := 9
@[reducible] def T.runtime_errorString : TypeId := 10
@[reducible] def T.runtime_plainError : TypeId := 11
@[reducible] def T.uintptr : TypeId := 12
@[reducible] def T.struct_msg_string_addr_uintptr : TypeId := 13
@[reducible] def T.runtime_errorAddressString : TypeId := 14
@[reducible] def T.P_runtime_TypeAssertionError : TypeId := 15
@[reducible] def T.P_runtime_PanicNilError : TypeId := 16
@[reducible] def T.P_abi_Type : TypeId := 17
@[reducible] def T.struct_typ_P_abi_Type : TypeId := 18
@[reducible] def T.maps_unhashableTypeError : TypeId := 19
@[reducible] def T.any : TypeId := 20
@[reducible] def T.int32 : TypeId := 21
@[reducible] def T.L_uint64 : TypeId := 22
@[reducible] def T.api_Nat : TypeId := 23
@[reducible] def T.struct_Neg_bool_Mag_api_Nat : TypeId := 24
@[reducible] def T.api_Int : TypeId := 25
@[reducible] def T.struct_Num_api_Int_Den_api_Nat : TypeId := 26
@[reducible] def T.api_Frac : TypeId := 27
@[reducible] def T.func_api_Frac_bool : TypeId := 28
@[reducible] def T.func_bool : TypeId := 29
@[reducible] def T.api_Errno : TypeId := 30
@[reducible] def T.api_Frac_api_Errno : TypeId := 31
@[reducible] def T.func_api_Int_api_Nat_api_Frac_api_Errno : TypeId := 32
@[reducible] def T.func_api_Frac_api_Frac_bool : TypeId := 33
@[reducible] def T.func_api_Frac_bool_34 : TypeId := 34
@[reducible] def T.struct_G_int_H_int : TypeId := 35
@[reducible] def T.api_Sum : TypeId := 36
@[reducible] def T.func_int_api_Sum_api_Frac_api_Errno : TypeId := 37
@[reducible] def T.func_int_api_Sum_bool : TypeId := 38
@[reducible] def T.func_api_Frac_api_Frac_api_Frac_api_Errno : TypeId := 39
@[reducible] def T.api_Int_api_Errno : TypeId := 40
@[reducible] def T.func_api_Frac_api_Int_api_Errno : TypeId := 41
@[reducible] def T.func_api_Int_api_Int_bool : TypeId := 42
@[reducible] def T.func_api_Frac_api_Frac_int : TypeId := 43
@[reducible] def T.func_api_Int_api_Int_api_Int_api_Errno : TypeId := 44
@[reducible] def T.func_int64_api_Int : TypeId := 45
@[reducible] def T.uint64 : TypeId := 46
@[reducible] def T.func_int_api_Sum_api_Sum_api_Frac_api_Errno : TypeId := 47
@[reducible] def T.func_int_api_Sum_api_Sum_bool : TypeId := 48
@[reducible] def T.A2_int : TypeId := 49
@[reducible] def T.L_api_Sum : TypeId := 50
@[reducible] def T.L_int : TypeId := 51
@[reducible] def T.L_int_api_Errno : TypeId := 52
@[reducible] def T.func_int_int_api_Sum_L_api_Sum_L_int_api_Errno : TypeId := 53
@[reducible] def T.L_bool : TypeId := 54
@[reducible] def T.func_A2_int_api_Sum_L_api_Sum_bool : TypeId := 55
@[reducible] def T.L_api_Frac : TypeId := 56
@[reducible] def T.func_api_Int_bool : TypeId := 57
@[reducible] def T.func_api_Nat_bool : TypeId := 58
@[reducible] def T.api_Nat_api_Errno : TypeId := 59
@[reducible] def T.func_api_Nat_api_Nat_api_Nat_api_Errno : TypeId := 60
@[reducible] def T.api_Nat_api_Nat_api_Errno : TypeId := 61
@[reducible] def T.func_api_Nat_api_Nat_api_Nat_api_Nat_api_Errno : TypeId := 62
@[reducible] def T.func_bool_api_Nat_api_Int : TypeId := 63
@[reducible] def T.func_api_Nat_api_Nat_bool : TypeId := 64
@[reducible] def T.func_api_Nat_api_Nat_int : TypeId := 65
@[reducible] def T.func_uint64_api_Nat : TypeId := 66
@[reducible] def T.func_api_Sum_bool : TypeId := 67
@[reducible] def T.func_int_bool : TypeId := 68
@[reducible] def T.func_api_Frac_api_Frac_func_api_Int_api_Int_api_Int_api_Errno_api_Frac_api_Errno : TypeId := 69
@[reducible] def T.func_api_Frac_api_Frac_api_Int : TypeId := 70
@[reducible] def T.func_api_Int_api_Int : TypeId := 71
@[reducible] def T.api_Int_api_Int_api_Errno : TypeId := 72
@[reducible] def T.func_api_Int_api_Int_api_Int_api_Int_api_Errno : TypeId := 73
@[reducible] def T.func_api_Int_api_Int_int : TypeId := 74
@[reducible] def T.api_Sum_bool : TypeId := 75
@[reducible] def T.func_api_Sum_api_Sum_api_Sum_bool : TypeId := 76
@[reducible] def T.func_api_Sum_api_Frac : TypeId := 77
@[reducible] def T.func_int_api_Frac : TypeId := 78
@[reducible] def T.func_api_Nat_api_Nat : TypeId := 79
@[reducible] def T.func_api_Nat_bool_80 : TypeId := 80
@[reducible] def T.api_Nat_uint64 : TypeId := 81
@[reducible] def T.func_api_Nat_uint64_api_Nat_uint64 : TypeId := 82
@[reducible] def T.api_Nat_api_Nat : TypeId := 83
@[reducible] def T.func_api_Nat_api_Nat_api_Nat_api_Nat : TypeId := 84
@[reducible] def T.func_api_Nat_api_Nat_api_Nat : TypeId := 85
@[reducible] def T.ref01_Digits : TypeId := 86
@[reducible] def T.ref01_Digits_ref01_Digits : TypeId := 87
@[reducible] def T.func_ref01_Digits_ref01_Digits_ref01_Digits_ref01_Digits : TypeId := 88
@[reducible] def T.func_api_Nat_ref01_Digits : TypeId := 89
@[reducible] def T.api_Nat_bool : TypeId := 90
@[reducible] def T.func_ref01_Digits_api_Nat_bool : TypeId := 91
@[reducible] def T.func_ref01_Digits_ref01_Digits_int : TypeId := 92
@[reducible] def T.func_api_Int_bool_93 : TypeId := 93
@[reducible] def T.func_ref01_Digits_api_Nat_api_Errno : TypeId := 94
@[reducible] def T.func_ref01_Digits_ref01_Digits_ref01_Digits : TypeId := 95
@[reducible] def T.func_L_api_Frac_func_api_Frac_bool_bool : TypeId := 96
@[reducible] def T.func_api_Nat_api_Nat_api_Errno : TypeId := 97
@[reducible] def T.A2_bool : TypeId := 98
@[reducible] def T.L_api_Nat : TypeId := 99
@[reducible] def T.func_L_api_Nat_func_api_Nat_bool_bool : TypeId := 100
@[reducible] def T.uint64_uint64 : TypeId := 101
@[reducible] def T.func_uint64_uint64_uint64_uint64_uint64 : TypeId := 102
@[reducible] def T.uint : TypeId := 103
@[reducible] def T.func_uint64_int : TypeId := 104
@[reducible] def T.func_api_Nat_uint_api_Nat : TypeId := 105
@[reducible] def T.func_uint64_uint64_uint64_uint64_uint64_uint64 : TypeId := 106
@[reducible] def T.func_ref01_Digits_ref01_Digits : TypeId := 107
@[reducible] def T.L_api_Int : TypeId := 108
@[reducible] def T.func_L_api_Int_func_api_Int_bool_bool : TypeId := 109
@[reducible] def T.func_L_api_Frac_func_api_Frac_bool_int : TypeId := 110
@[reducible] def T.func_api_Nat_api_Nat_int_111 : TypeId := 111
@[reducible] def T.func_ref01_Digits_int_uint64 : TypeId := 112
@[reducible] def T.func_L_api_Nat_func_api_Nat_bool_int : TypeId := 113
@[reducible] def T.interface_Error_string : TypeId := 114
@[reducible] def T.error : TypeId := 115
@[reducible] def T.func_uint64_uint64_uint64_uint64 : TypeId := 116
@[reducible] def T.func_L_api_Int_func_api_Int_bool_int : TypeId := 117
@[reducible] def T.func_string : TypeId := 118
@[reducible] def T.struct_interface_P_abi_Type_concrete_P_abi_Type_asserted_P_abi_Type_missingMethod_string : TypeId := 119
@[reducible] def T.runtime_TypeAssertionError : TypeId := 120
@[reducible] def T.A0_P_runtime_PanicNilError : TypeId := 121
@[reducible] def T.struct_A0_P_runtime_PanicNilError : TypeId := 122
@[reducible] def T.runtime_PanicNilError : TypeId := 123
@[reducible] def T.func_int : TypeId := 124
@[reducible] def T.uint32 : TypeId := 125
@[reducible] def T.abi_TFlag : TypeId := 126
@[reducible] def T.abi_Kind : TypeId := 127
@[reducible] def T.func_unsafe_Pointer_unsafe_Pointer_bool : TypeId := 128
@[reducible] def T.P_uint8 : TypeId := 129
@[reducible] def T.abi_NameOff : TypeId := 130
@[reducible] def T.abi_TypeOff : TypeId := 131
@[reducible] def T.struct_Size_uintptr_PtrBytes_uintptr_Hash_uint32_TFlag_abi_TFlag_Align_uint8_FieldAlign_uint8_Kind_abi_Kind_Equal_func_unsafe_Pointer_unsafe_Pointer_bool_GCData_P_uint8_Str_abi_NameOff_PtrToThis_abi_TypeOff : TypeId := 132
@[reducible] def T.abi_Type : TypeId := 133
@[reducible] def T.unsafe_Pointer : TypeId := 134
@[reducible] noncomputable def Pg : Program := Try.prog
def keepTab : List (Nat × Nat × List Nat) := [(3, 1000007, [0, 1, 2, 3, 4, 5, 6, 7, 8, 9, 10, 12, 11, 13, 14, 15, 16]), (6, 1000007, [0, 1, 2, 3, 4, 5, 6, 7, 8, 9, 10, 11, 13, 14, 12, 15, 16, 17, 18]), (7, 1000008, [0, 6, 1, 2, 3, 4, 5, 7, 8]), (7, 2000008, [6]), (8, 18, [2, 3, 16, 17]), (11, 13, [8, 9, 11, 13, 15, 16]), (11, 19, [8, 11, 15, 17]), (11, 1000006, [1, 2, 3, 5, 6, 7, 0, 4, 8, 9]), (12, 2, [0, 3]), (23, 1000005, [0, 1, 3, 4, 10, 2, 5, 6, 7, 8, 9, 11, 12]), (23, 2000005, [10]), (25, 1000005, [0, 1, 2, 4, 5, 3, 6, 7, 8, 9, 10, 11]), (28, 1000003, [0, 1, 2, 3, 10, 11, 4, 5, 6, 7, 8, 9, 12, 13, 14]), (28, 2000003, [10, 11]), (29, 1000004, [0, 1, 2, 3, 10, 11, 4, 5, 6, 7, 8, 9, 12, 13, 14]), (29, 2000004, [10, 11]), (31, 1000003, [0, 1, 3, 4, 2, 5, 6, 7]), (32, 1000005, [0, 1, 3, 4, 2, 5, 6, 7]), (35, 1000005, [0, 1, 3, 4, 10, 2, 5, 6, 7, 8, 9, 11, 12]), (35, 2000005, [10]), (37, 7, [0, 6, 10, 13, 47, 48, 49]), (40, 4, [0, 1]), (45, 7, [8, 9]), (48, 4, [0, 1, 5]), (59, 1000003, [0, 1, 2, 4, 5, 11, 3, 6, 7, 8, 9, 10, 12, 13]), (59, 2000003, [11]), (61, 1000001, [0, 1, 2, 3, 9, 4, 5, 6, 7, 8, 10, 11]), (61, 2000001, [9]), (70, 1000001, [0, 1, 2, 3, 9, 4, 5, 6, 7, 8, 10, 11]), (70, 2000001, [9]), (77, 1000003, [0, 2, 1, 3, 4]), (80, 6, [0, 1, 5]), (81, 4, [0, 1, 6, 7, 8]), (82, 6, [6, 7, 8, 9, 10, 11]), (82, 10, [6, 7, 8, 9, 10, 11, 12, 13]), (82, 18, [6, 10, 15, 16, 112, 113]), (84, 4, [0, 1, 6, 7, 8]), (84, 9, [0, 1, 6, 7, 8, 9, 10]), (85, 3, [0, 3, 4]), (85, 7, [0, 3, 4, 5, 6]), (86, 3, [0, 4, 5]), (86, 7, [0, 4, 5, 6, 7]), (87, 6, [0, 1, 5]), (89, 2, [0, 3]), (93, 3, [0, 1, 5, 6]), (93, 7, [0, 1, 5, 6, 7, 8]), (99, 4, [0, 1, 5, 6, 7]), (100, 4, [0, 1, 5, 6, 7]), (100, 1000006, [0, 1, 2, 3, 4, 5, 6, 9, 7, 8, 10, 11]), (103, 3, [0, 1, 2]), (103, 17, [2, 8, 9, 10, 11, 13, 14, 15, 16]), (103, 24, [2, 8, 9, 10, 14, 15, 16, 17, 18]), (105, 3, [1, 5, 12, 13, 14]), (106, 4, [2, 3, 4, 11, 12]), (107, 3, [1, 5, 20, 21, 22]), (107, 7, [1, 5, 6, 7, 8, 20, 21, 22, 27, 28, 29]), (108, 4, [0, 1, 5, 6, 13, 14]), (109, 2, [0, 3]), (112, 6, [0, 1, 5, 6, 21, 22]), (113, 2, [0, 1, 7, 8]), (114, 1000006, [0, 1, 2, 4, 5, 8, 9, 10, 12, 13, 3, 6, 7, 11, 14, 15, 16, 17]), (114, 1000007, [0, 1, 2, 4, 5, 9, 10, 12, 13, 3, 6, 7, 8, 11, 14, 15, 16, 17, 18]), (117, 2, [0, 1, 2, 6, 7]), (119, 2, [0, 1, 7, 8]), (124, 2, [0, 1, 7, 8])]
noncomputable def go : Rec := run Pg (keepOf keepTab)
theorem go_step (k : Key) (h : AH) : go k h = stepA Pg (keepOf keepTab) go k h := run_unfold _ k h
theorem und_int : Pg.underlying T.int = some (.int .i64) := Try.underlying3
theorem cells_int : Pg.cellsOf T.int = 1 := by kernel_rfl
theorem zero_int : zeroCells? Pg T.int = some [.int .i64 0] := by kernel_rfl
theorem bytes_int : Pg.bytesOf T.int = 8 := by kernel_rfl
theorem und_bool : Pg.underlying T.bool = some .bool := Try.underlying4
theorem cells_bool : Pg.cellsOf T.bool = 1 := by kernel_rfl
theorem zero_bool : zeroCells? Pg T.bool = some [.bool false] := by kernel_rfl
theorem bytes_bool : Pg.bytesOf T.bool = 1 := by kernel_rfl
theorem und_api_Nat : Pg.underlying T.api_Nat = some (.slice T.uint64) := Try.underlying23
theorem cells_api_Nat : Pg.cellsOf T.api_Nat = 1 := by kernel_rfl
theorem zero_api_Nat : zeroCells? Pg T.api_Nat = some [(⟨none, 0, .is 0⟩ : Sl).v] := by kernel_rfl
theorem bytes_api_Nat : Pg.bytesOf T.api_Nat = 24 := by kernel_rfl
theorem und_api_Int : Pg.underlying T.api_Int = some (.struct #[{ name := "Neg", type := T.bool, offset := 0, embedded := false, tag := "", pkgPath := "", byteOffset := 0 }, { name := "Mag", type := T.api_Nat, offset := 1, embedded := false, tag := "", pkgPath := "", byteOffset := 8 }]) := Try.underlying25
theorem cells_api_Int : Pg.cellsOf T.api_Int = 2 := by kernel_rfl
theorem zero_api_Int : zeroCells? Pg T.api_Int = some [.bool false, (⟨none, 0, .is 0⟩ : Sl).v] := by kernel_rfl
theorem bytes_api_Int : Pg.bytesOf T.api_Int = 32 := by kernel_rfl
theorem und_api_Frac : Pg.underlying T.api_Frac = some (.struct #[{ name := "Num", type := T.api_Int, offset := 0, embedded := false, tag := "", pkgPath := "", byteOffset := 0 }, { name := "Den", type := T.api_Nat, offset := 2, embedded := false, tag := "", pkgPath := "", byteOffset := 32 }]) := Try.underlying27
theorem cells_api_Frac : Pg.cellsOf T.api_Frac = 3 := by kernel_rfl
theorem zero_api_Frac : zeroCells? Pg T.api_Frac = some [.bool false, (⟨none, 0, .is 0⟩ : Sl).v, (⟨none, 0, .is 0⟩ : Sl).v] := by kernel_rfl
theorem bytes_api_Frac : Pg.bytesOf T.api_Frac = 56 := by kernel_rfl
theorem und_api_Sum : Pg.underlying T.api_Sum = some (.struct #[{ name := "G", type := T.int, offset := 0, embedded := false, tag := "", pkgPath := "", byteOffset := 0 }, { name := "H", type := T.int, offset := 1, embedded := false, tag := "", pkgPath := "", byteOffset := 8 }]) := Try.underlying36
theorem cells_api_Sum : Pg.cellsOf T.api_Sum = 2 := by kernel_rfl
theorem zero_api_Sum : zeroCells? Pg T.api_Sum = some [.int .i64 0, .int .i64 0] := by kernel_rfl
theorem bytes_api_Sum : Pg.bytesOf T.api_Sum = 16 := by kernel_rfl
theorem und_uint64 : Pg.underlying T.uint64 = some (.int .u64) := Try.underlying46
theorem cells_uint64 : Pg.cellsOf T.uint64 = 1 := by kernel_rfl
theorem zero_uint64 : zeroCells? Pg T.uint64 = some [.int .u64 0] := by kernel_rfl
theorem bytes_uint64 : Pg.bytesOf T.uint64 = 8 := by kernel_rfl
theorem und_A2_int : Pg.underlying T.A2_int = some (.array 2 T.int) := Try.underlying49
theorem cells_A2_int : Pg.cellsOf T.A2_int = 2 := by kernel_rfl
theorem zero_A2_int : zeroCells? Pg T.A2_int = some [.int .i64 0, .int .i64 0] := by kernel_rfl
theorem bytes_A2_int : Pg.bytesOf T.A2_int = 16 := by kernel_rfl
theorem und_L_api_Sum : Pg.underlying T.L_api_Sum = some (.slice T.api_Sum) := Try.underlying50
theorem cells_L_api_Sum : Pg.cellsOf T.L_api_Sum = 1 := by kernel_rfl
theorem und_L_int : Pg.underlying T.L_int = some (.slice T.int) := Try.underlying51
theorem cells_L_int : Pg.cellsOf T.L_int = 1 := by kernel_rfl
theorem zero_L_int : zeroCells? Pg T.L_int = some [(⟨none, 0, .is 0⟩ : Sl).v] := by kernel_rfl
theorem bytes_L_int : Pg.bytesOf T.L_int = 24 := by kernel_rfl
noncomputable def Td.law08_RationalAround_18 : List Item := todoAt Try.f8 18
noncomputable def Td.law17_GainTurned_13 : List Item := todoAt Try.f11 13
noncomputable def Td.law17_GainTurned_19 : List Item := todoAt Try.f11 19
noncomputable def Td.law08_few_2 : List Item := todoAt Try.f12 2
noncomputable def Td.gain_Best_7 : List Item := todoAt Try.f37 7
noncomputable def Td.modint_Gcd_4 : List Item := todoAt Try.f40 4
noncomputable def Td.ref03_Gcd_7 : List Item := todoAt Try.f45 7
noncomputable def Td.ref01_Same_4 : List Item := todoAt Try.f48 4
noncomputable def Td.nat_compare_6 : List Item := todoAt Try.f80 6
noncomputable def Td.nat_short_4 : List Item := todoAt Try.f81 4
noncomputable def Td.nat_long_6 : List Item := todoAt Try.f82 6
noncomputable def Td.nat_long_10 : List Item := todoAt Try.f82 10
noncomputable def Td.nat_long_18 : List Item := todoAt Try.f82 18
noncomputable def Td.ref01_div_4 : List Item := todoAt Try.f84 4
noncomputable def Td.ref01_div_9 : List Item := todoAt Try.f84 9
noncomputable def Td.ref01_In_3 : List Item := todoAt Try.f85 3
noncomputable def Td.ref01_In_7 : List Item := todoAt Try.f85 7
noncomputable def Td.ref01_Out_3 : List Item := todoAt Try.f86 3
noncomputable def Td.ref01_Out_7 : List Item := todoAt Try.f86 7
noncomputable def Td.ref01_compare_6 : List Item := todoAt Try.f87 6
noncomputable def Td.nat_trim_2 : List Item := todoAt Try.f89 2
noncomputable def Td.ref01_mul_3 : List Item := todoAt Try.f93 3
noncomputable def Td.ref01_mul_7 : List Item := todoAt Try.f93 7
noncomputable def Td.ref01_add_4 : List Item := todoAt Try.f99 4
noncomputable def Td.ref01_sub_4 : List Item := todoAt Try.f100 4
noncomputable def Td.math_bits_Div64_3 : List Item := todoAt Try.f103 3
noncomputable def Td.math_bits_Div64_17 : List Item := todoAt Try.f103 17
noncomputable def Td.math_bits_Div64_24 : List Item := todoAt Try.f103 24
noncomputable def Td.nat_up_3 : List Item := todoAt Try.f105 3
noncomputable def Td.nat_guess_4 : List Item := todoAt Try.f106 4
noncomputable def Td.nat_school_3 : List Item := todoAt Try.f107 3
noncomputable def Td.nat_school_7 : List Item := todoAt Try.f107 7
noncomputable def Td.nat_less_4 : List Item := todoAt Try.f108 4
noncomputable def Td.ref01_cut_2 : List Item := todoAt Try.f109 2
noncomputable def Td.nat_sum_6 : List Item := todoAt Try.f112 6
noncomputable def Td.slices_IndexFunc_api_Frac_api_Frac_2 : List Item := todoAt Try.f113 2
noncomputable def Td.nat_into_2 : List Item := todoAt Try.f117 2
noncomputable def Td.slices_IndexFunc_api_Nat_api_Nat_2 : List Item := todoAt Try.f119 2
noncomputable def Td.slices_IndexFunc_api_Int_api_Int_2 : List Item := todoAt Try.f124 2
def lit1 : ByteArray := (⟨((List.append (List.append ([0, 1, 2, 2, 3, 3, 3, 3, 4, 4, 4, 4, 4, 4, 4, 4, 5, 5, 5, 5, 5, 5, 5, 5, 5, 5, 5, 5, 5, 5, 5, 5, 6, 6, 6, 6, 6, 6, 6, 6, 6, 6, 6, 6, 6, 6, 6, 6, 6, 6, 6, 6, 6, 6, 6, 6, 6, 6, 6, 6, 6, 6, 6, 6] : List UInt8) ([7, 7, 7, 7, 7, 7, 7, 7, 7, 7, 7, 7, 7, 7, 7, 7, 7, 7, 7, 7, 7, 7, 7, 7, 7, 7, 7, 7, 7, 7, 7, 7, 7, 7, 7, 7, 7, 7, 7, 7, 7, 7, 7, 7, 7, 7, 7, 7, 7, 7, 7, 7, 7, 7, 7, 7, 7, 7, 7, 7, 7, 7, 7, 7] : List UInt8)) (List.append ([8, 8, 8, 8, 8, 8, 8, 8, 8, 8, 8, 8, 8, 8, 8, 8, 8, 8, 8, 8, 8, 8, 8, 8, 8, 8, 8, 8, 8, 8, 8, 8, 8, 8, 8, 8, 8, 8, 8, 8, 8, 8, 8, 8, 8, 8, 8, 8, 8, 8, 8, 8, 8, 8, 8, 8, 8, 8, 8, 8, 8, 8, 8, 8] : List UInt8) ([8, 8, 8, 8, 8, 8, 8, 8, 8, 8, 8, 8, 8, 8, 8, 8, 8, 8, 8, 8, 8, 8, 8, 8, 8, 8, 8, 8, 8, 8, 8, 8, 8, 8, 8, 8, 8, 8, 8, 8, 8, 8, 8, 8, 8, 8, 8, 8, 8, 8, 8, 8, 8, 8, 8, 8, 8, 8, 8, 8, 8, 8, 8, 8] : List UInt8)))).toArray⟩ : ByteArray)

theorem u_law08_RationalMakes (a1 : Bool) (a2 : Sl) (a3 : Sl) (h : AH) : go (.fn F.law08_RationalMakes [.agg [.bool a1, a2.v, a3.v]]) h =
  newK h (.cells [.bool a1, a2.v, a3.v] T.api_Frac) fun h4r h4 =>
  ((h4.cell (h4r.add 0)).bind AV.asBool).bind fun b5 =>
  ((h4.cell (h4r.add 1)).bind AV.asSl).bind fun l6 =>
  ((h4.cell (h4r.add 2)).bind AV.asSl).bind fun l7 =>
  newK h4 (.cells [.bool b5, l6.v, l7.v] T.api_Frac) fun h8r h8 =>
  (go (.fn F.law08_few [(⟨some h8r, 1, .is 1⟩ : Sl).v]) h8).bind fun q9 =>
  ((some q9.1).bind AV.asBool).bind fun b10 =>
  cond (!b10) (
  some (.bool true, q9.2)) (
  (go (.fn F.law08_awake []) q9.2).bind fun q11 =>
  ((some q11.1).bind AV.asBool).bind fun b12 =>
  ((q11.2.cell ((h4r.add 0).add 0)).bind AV.asBool).bind fun b13 =>
  ((q11.2.cell ((h4r.add 0).add 1)).bind AV.asSl).bind fun l14 =>
  ((q11.2.cell (h4r.add 2)).bind AV.asSl).bind fun l15 =>
  (go (.fn F.rational_Make [.agg [.bool b13, l14.v], l15.v]) q11.2).bind fun q16 =>
  (AV.asTup2 q16.1).bind fun p17 =>
  (AV.asAgg p17.1).bind fun cs18 =>
  cond (Nat.beq cs18.length 3) (
  ((cs18[0]?).bind AV.asBool).bind fun b19 =>
  ((cs18[1]?).bind AV.asSl).bind fun l20 =>
  ((cs18[2]?).bind AV.asSl).bind fun l21 =>
  ((some p17.2).bind (AV.asInt .i64)).bind fun n22 =>
  newK q16.2 (.cells [.bool false, (⟨none, 0, .is 0⟩ : Sl).v, (⟨none, 0, .is 0⟩ : Sl).v] T.api_Frac) fun h23r h23 =>
  (h23.puts h23r [.bool b19, l20.v, l21.v]).bind fun h24 =>
  ((h24.cell ((h4r.add 0).add 0)).bind AV.asBool).bind fun b25 =>
  ((h24.cell ((h4r.add 0).add 1)).bind AV.asSl).bind fun l26 =>
  ((h24.cell (h4r.add 2)).bind AV.asSl).bind fun l27 =>
  (go (.fn F.ref08_Make [.agg [.bool b25, l26.v], l27.v]) h24).bind fun q28 =>
  (AV.asTup2 q28.1).bind fun p29 =>
  (AV.asAgg p29.1).bind fun cs30 =>
  cond (Nat.beq cs30.length 3) (
  ((cs30[0]?).bind AV.asBool).bind fun b31 =>
  ((cs30[1]?).bind AV.asSl).bind fun l32 =>
  ((cs30[2]?).bind AV.asSl).bind fun l33 =>
  ((some p29.2).bind (AV.asInt .i64)).bind fun n34 =>
  newK q28.2 (.cells [.bool false, (⟨none, 0, .is 0⟩ : Sl).v, (⟨none, 0, .is 0⟩ : Sl).v] T.api_Frac) fun h35r h35 =>
  (h35.puts h35r [.bool b31, l32.v, l33.v]).bind fun h36 =>
  ((h36.cell (h23r.add 0)).bind AV.asBool).bind fun b37 =>
  ((h36.cell (h23r.add 1)).bind AV.asSl).bind fun l38 =>
  ((h36.cell (h23r.add 2)).bind AV.asSl).bind fun l39 =>
  ((h36.cell (h35r.add 0)).bind AV.asBool).bind fun b40 =>
  ((h36.cell (h35r.add 1)).bind AV.asSl).bind fun l41 =>
  ((h36.cell (h35r.add 2)).bind AV.asSl).bind fun l42 =>
  (go (.fn F.ref08_Same [.agg [.bool b37, l38.v, l39.v], .agg [.bool b40, l41.v, l42.v]]) h36).bind fun q43 =>
  ((some q43.1).bind AV.asBool).bind fun b44 =>
  cond b12 (
  cond b44 (
  cond (decide (n22 = n34)) (
  ((q43.2.cell (h4r.add 0)).bind AV.asBool).bind fun b45 =>
  ((q43.2.cell (h4r.add 1)).bind AV.asSl).bind fun l46 =>
  ((q43.2.cell (h4r.add 2)).bind AV.asSl).bind fun l47 =>
  ((q43.2.cell (h4r.add 0)).bind AV.asBool).bind fun b48 =>
  ((q43.2.cell (h4r.add 1)).bind AV.asSl).bind fun l49 =>
  ((q43.2.cell (h4r.add 2)).bind AV.asSl).bind fun l50 =>
  (go (.fn F.rational_Right [.agg [.bool b45, l46.v, l47.v]]) q43.2).bind fun q51 =>
  ((some q51.1).bind AV.asBool).bind fun b52 =>
  whenK (SameAt q43.2 q51.2 h4r 3) (
  (go (.fn F.ref08_Right [.agg [.bool b48, l49.v, l50.v]]) q51.2).bind fun q53 =>
  ((some q53.1).bind AV.asBool).bind fun b54 =>
  some (.bool (b52 == b54), q53.2))) (
  whenK (SameAt q43.2 q43.2 h4r 3) (
  some (.bool false, q43.2)))) (
  whenK (SameAt q43.2 q43.2 h4r 3) (
  some (.bool false, q43.2)))) (
  whenK (SameAt q43.2 q43.2 h4r 3) (
  some (.bool false, q43.2)))) none) none) := (go_step _ h).trans (by kernel_rfl)

theorem u_law08_RationalSums (a1 : Bool) (a2 : Sl) (a3 : Sl) (a4 : Bool) (a5 : Sl) (a6 : Sl) (h : AH) : go (.fn F.law08_RationalSums [.agg [.bool a1, a2.v, a3.v], .agg [.bool a4, a5.v, a6.v]]) h =
  newK h (.cells [.bool a1, a2.v, a3.v] T.api_Frac) fun h7r h7 =>
  newK h7 (.cells [.bool a4, a5.v, a6.v] T.api_Frac) fun h8r h8 =>
  ((h8.cell (h7r.add 0)).bind AV.asBool).bind fun b9 =>
  ((h8.cell (h7r.add 1)).bind AV.asSl).bind fun l10 =>
  ((h8.cell (h7r.add 2)).bind AV.asSl).bind fun l11 =>
  ((h8.cell (h8r.add 0)).bind AV.asBool).bind fun b12 =>
  ((h8.cell (h8r.add 1)).bind AV.asSl).bind fun l13 =>
  ((h8.cell (h8r.add 2)).bind AV.asSl).bind fun l14 =>
  newK h8 (.cells [.bool b9, l10.v, l11.v, .bool b12, l13.v, l14.v] T.api_Frac) fun h15r h15 =>
  (go (.fn F.law08_few [(⟨some h15r, 2, .is 2⟩ : Sl).v]) h15).bind fun q16 =>
  ((some q16.1).bind AV.asBool).bind fun b17 =>
  cond (!b17) (
  some (.bool true, q16.2)) (
  (go (.fn F.law08_awake []) q16.2).bind fun q18 =>
  ((some q18.1).bind AV.asBool).bind fun b19 =>
  ((q18.2.cell (h7r.add 0)).bind AV.asBool).bind fun b20 =>
  ((q18.2.cell (h7r.add 1)).bind AV.asSl).bind fun l21 =>
  ((q18.2.cell (h7r.add 2)).bind AV.asSl).bind fun l22 =>
  ((q18.2.cell (h8r.add 0)).bind AV.asBool).bind fun b23 =>
  ((q18.2.cell (h8r.add 1)).bind AV.asSl).bind fun l24 =>
  ((q18.2.cell (h8r.add 2)).bind AV.asSl).bind fun l25 =>
  (go (.fn F.rational_Add [.agg [.bool b20, l21.v, l22.v], .agg [.bool b23, l24.v, l25.v]]) q18.2).bind fun q26 =>
  (AV.asTup2 q26.1).bind fun p27 =>
  (AV.asAgg p27.1).bind fun cs28 =>
  cond (Nat.beq cs28.length 3) (
  ((cs28[0]?).bind AV.asBool).bind fun b29 =>
  ((cs28[1]?).bind AV.asSl).bind fun l30 =>
  ((cs28[2]?).bind AV.asSl).bind fun l31 =>
  ((some p27.2).bind (AV.asInt .i64)).bind fun n32 =>
  newK q26.2 (.cells [.bool false, (⟨none, 0, .is 0⟩ : Sl).v, (⟨none, 0, .is 0⟩ : Sl).v] T.api_Frac) fun h33r h33 =>
  (h33.puts h33r [.bool b29, l30.v, l31.v]).bind fun h34 =>
  ((h34.cell (h7r.add 0)).bind AV.asBool).bind fun b35 =>
  ((h34.cell (h7r.add 1)).bind AV.asSl).bind fun l36 =>
  ((h34.cell (h7r.add 2)).bind AV.asSl).bind fun l37 =>
  ((h34.cell (h8r.add 0)).bind AV.asBool).bind fun b38 =>
  ((h34.cell (h8r.add 1)).bind AV.asSl).bind fun l39 =>
  ((h34.cell (h8r.add 2)).bind AV.asSl).bind fun l40 =>
  (go (.fn F.ref08_Add [.agg [.bool b35, l36.v, l37.v], .agg [.bool b38, l39.v, l40.v]]) h34).bind fun q41 =>
  (AV.asTup2 q41.1).bind fun p42 =>
  (AV.asAgg p42.1).bind fun cs43 =>
  cond (Nat.beq cs43.length 3) (
  ((cs43[0]?).bind AV.asBool).bind fun b44 =>
  ((cs43[1]?).bind AV.asSl).bind fun l45 =>
  ((cs43[2]?).bind AV.asSl).bind fun l46 =>
  ((some p42.2).bind (AV.asInt .i64)).bind fun n47 =>
  newK q41.2 (.cells [.bool false, (⟨none, 0, .is 0⟩ : Sl).v, (⟨none, 0, .is 0⟩ : Sl).v] T.api_Frac) fun h48r h48 =>
  (h48.puts h48r [.bool b44, l45.v, l46.v]).bind fun h49 =>
  ((h49.cell (h33r.add 0)).bind AV.asBool).bind fun b50 =>
  ((h49.cell (h33r.add 1)).bind AV.asSl).bind fun l51 =>
  ((h49.cell (h33r.add 2)).bind AV.asSl).bind fun l52 =>
  ((h49.cell (h48r.add 0)).bind AV.asBool).bind fun b53 =>
  ((h49.cell (h48r.add 1)).bind AV.asSl).bind fun l54 =>
  ((h49.cell (h48r.add 2)).bind AV.asSl).bind fun l55 =>
  (go (.fn F.ref08_Same [.agg [.bool b50, l51.v, l52.v], .agg [.bool b53, l54.v, l55.v]]) h49).bind fun q56 =>
  ((some q56.1).bind AV.asBool).bind fun b57 =>
  cond (!b19) (
  some (.bool false, q56.2)) (
  cond (!b57) (
  some (.bool false, q56.2)) (
  cond (!decide (n32 = n47)) (
  some (.bool false, q56.2)) (
  ((q56.2.cell (h7r.add 0)).bind AV.asBool).bind fun b58 =>
  ((q56.2.cell (h7r.add 1)).bind AV.asSl).bind fun l59 =>
  ((q56.2.cell (h7r.add 2)).bind AV.asSl).bind fun l60 =>
  ((q56.2.cell (h8r.add 0)).bind AV.asBool).bind fun b61 =>
  ((q56.2.cell (h8r.add 1)).bind AV.asSl).bind fun l62 =>
  ((q56.2.cell (h8r.add 2)).bind AV.asSl).bind fun l63 =>
  (go (.fn F.rational_Sub [.agg [.bool b58, l59.v, l60.v], .agg [.bool b61, l62.v, l63.v]]) q56.2).bind fun q64 =>
  (AV.asTup2 q64.1).bind fun p65 =>
  (AV.asAgg p65.1).bind fun cs66 =>
  cond (Nat.beq cs66.length 3) (
  ((cs66[0]?).bind AV.asBool).bind fun b67 =>
  ((cs66[1]?).bind AV.asSl).bind fun l68 =>
  ((cs66[2]?).bind AV.asSl).bind fun l69 =>
  ((some p65.2).bind (AV.asInt .i64)).bind fun n70 =>
  (q64.2.puts h33r [.bool b67, l68.v, l69.v]).bind fun h71 =>
  ((h71.cell (h7r.add 0)).bind AV.asBool).bind fun b72 =>
  ((h71.cell (h7r.add 1)).bind AV.asSl).bind fun l73 =>
  ((h71.cell (h7r.add 2)).bind AV.asSl).bind fun l74 =>
  ((h71.cell (h8r.add 0)).bind AV.asBool).bind fun b75 =>
  ((h71.cell (h8r.add 1)).bind AV.asSl).bind fun l76 =>
  ((h71.cell (h8r.add 2)).bind AV.asSl).bind fun l77 =>
  (go (.fn F.ref08_Sub [.agg [.bool b72, l73.v, l74.v], .agg [.bool b75, l76.v, l77.v]]) h71).bind fun q78 =>
  (AV.asTup2 q78.1).bind fun p79 =>
  (AV.asAgg p79.1).bind fun cs80 =>
  cond (Nat.beq cs80.length 3) (
  ((cs80[0]?).bind AV.asBool).bind fun b81 =>
  ((cs80[1]?).bind AV.asSl).bind fun l82 =>
  ((cs80[2]?).bind AV.asSl).bind fun l83 =>
  ((some p79.2).bind (AV.asInt .i64)).bind fun n84 =>
  (q78.2.puts h48r [.bool b81, l82.v, l83.v]).bind fun h85 =>
  ((h85.cell (h33r.add 0)).bind AV.asBool).bind fun b86 =>
  ((h85.cell (h33r.add 1)).bind AV.asSl).bind fun l87 =>
  ((h85.cell (h33r.add 2)).bind AV.asSl).bind fun l88 =>
  ((h85.cell (h48r.add 0)).bind AV.asBool).bind fun b89 =>
  ((h85.cell (h48r.add 1)).bind AV.asSl).bind fun l90 =>
  ((h85.cell (h48r.add 2)).bind AV.asSl).bind fun l91 =>
  (go (.fn F.ref08_Same [.agg [.bool b86, l87.v, l88.v], .agg [.bool b89, l90.v, l91.v]]) h85).bind fun q92 =>
  ((some q92.1).bind AV.asBool).bind fun b93 =>
  cond (!b93) (
  some (.bool false, q92.2)) (
  cond (!decide (n70 = n84)) (
  some (.bool false, q92.2)) (
  ((q92.2.cell (h7r.add 0)).bind AV.asBool).bind fun b94 =>
  ((q92.2.cell (h7r.add 1)).bind AV.asSl).bind fun l95 =>
  ((q92.2.cell (h7r.add 2)).bind AV.asSl).bind fun l96 =>
  ((q92.2.cell (h8r.add 0)).bind AV.asBool).bind fun b97 =>
  ((q92.2.cell (h8r.add 1)).bind AV.asSl).bind fun l98 =>
  ((q92.2.cell (h8r.add 2)).bind AV.asSl).bind fun l99 =>
  (go (.fn F.rational_Mul [.agg [.bool b94, l95.v, l96.v], .agg [.bool b97, l98.v, l99.v]]) q92.2).bind fun q100 =>
  (AV.asTup2 q100.1).bind fun p101 =>
  (AV.asAgg p101.1).bind fun cs102 =>
  cond (Nat.beq cs102.length 3) (
  ((cs102[0]?).bind AV.asBool).bind fun b103 =>
  ((cs102[1]?).bind AV.asSl).bind fun l104 =>
  ((cs102[2]?).bind AV.asSl).bind fun l105 =>
  ((some p101.2).bind (AV.asInt .i64)).bind fun n106 =>
  (q100.2.puts h33r [.bool b103, l104.v, l105.v]).bind fun h107 =>
  ((h107.cell (h7r.add 0)).bind AV.asBool).bind fun b108 =>
  ((h107.cell (h7r.add 1)).bind AV.asSl).bind fun l109 =>
  ((h107.cell (h7r.add 2)).bind AV.asSl).bind fun l110 =>
  ((h107.cell (h8r.add 0)).bind AV.asBool).bind fun b111 =>
  ((h107.cell (h8r.add 1)).bind AV.asSl).bind fun l112 =>
  ((h107.cell (h8r.add 2)).bind AV.asSl).bind fun l113 =>
  (go (.fn F.ref08_Mul [.agg [.bool b108, l109.v, l110.v], .agg [.bool b111, l112.v, l113.v]]) h107).bind fun q114 =>
  (AV.asTup2 q114.1).bind fun p115 =>
  (AV.asAgg p115.1).bind fun cs116 =>
  cond (Nat.beq cs116.length 3) (
  ((cs116[0]?).bind AV.asBool).bind fun b117 =>
  ((cs116[1]?).bind AV.asSl).bind fun l118 =>
  ((cs116[2]?).bind AV.asSl).bind fun l119 =>
  ((some p115.2).bind (AV.asInt .i64)).bind fun n120 =>
  (q114.2.puts h48r [.bool b117, l118.v, l119.v]).bind fun h121 =>
  ((h121.cell (h33r.add 0)).bind AV.asBool).bind fun b122 =>
  ((h121.cell (h33r.add 1)).bind AV.asSl).bind fun l123 =>
  ((h121.cell (h33r.add 2)).bind AV.asSl).bind fun l124 =>
  ((h121.cell (h48r.add 0)).bind AV.asBool).bind fun b125 =>
  ((h121.cell (h48r.add 1)).bind AV.asSl).bind fun l126 =>
  ((h121.cell (h48r.add 2)).bind AV.asSl).bind fun l127 =>
  (go (.fn F.ref08_Same [.agg [.bool b122, l123.v, l124.v], .agg [.bool b125, l126.v, l127.v]]) h121).bind fun q128 =>
  ((some q128.1).bind AV.asBool).bind fun b129 =>
  cond b129 (
  some (.bool (decide (n106 = n120)), q128.2)) (
  some (.bool false, q128.2))) none) none))) none) none)))) none) none) := (go_step _ h).trans (by kernel_rfl)

theorem u_law08_RationalCompares (a1 : Bool) (a2 : Sl) (a3 : Sl) (a4 : Bool) (a5 : Sl) (a6 : Sl) (h : AH) : go (.fn F.law08_RationalCompares [.agg [.bool a1, a2.v, a3.v], .agg [.bool a4, a5.v, a6.v]]) h =
  newK h (.cells [.bool a1, a2.v, a3.v] T.api_Frac) fun h7r h7 =>
  newK h7 (.cells [.bool a4, a5.v, a6.v] T.api_Frac) fun h8r h8 =>
  ((h8.cell (h7r.add 0)).bind AV.asBool).bind fun b9 =>
  ((h8.cell (h7r.add 1)).bind AV.asSl).bind fun l10 =>
  ((h8.cell (h7r.add 2)).bind AV.asSl).bind fun l11 =>
  ((h8.cell (h8r.add 0)).bind AV.asBool).bind fun b12 =>
  ((h8.cell (h8r.add 1)).bind AV.asSl).bind fun l13 =>
  ((h8.cell (h8r.add 2)).bind AV.asSl).bind fun l14 =>
  newK h8 (.cells [.bool b9, l10.v, l11.v, .bool b12, l13.v, l14.v] T.api_Frac) fun h15r h15 =>
  (go (.fn F.law08_few [(⟨some h15r, 2, .is 2⟩ : Sl).v]) h15).bind fun q16 =>
  ((some q16.1).bind AV.asBool).bind fun b17 =>
  cond (!b17) (
  some (.bool true, q16.2)) (
  (go (.fn F.law08_awake []) q16.2).bind fun q18 =>
  ((some q18.1).bind AV.asBool).bind fun b19 =>
  ((q18.2.cell (h7r.add 0)).bind AV.asBool).bind fun b20 =>
  ((q18.2.cell (h7r.add 1)).bind AV.asSl).bind fun l21 =>
  ((q18.2.cell (h7r.add 2)).bind AV.asSl).bind fun l22 =>
  (go (.fn F.rational_Floor [.agg [.bool b20, l21.v, l22.v]]) q18.2).bind fun q23 =>
  (AV.asTup2 q23.1).bind fun p24 =>
  (AV.asAgg p24.1).bind fun cs25 =>
  cond (Nat.beq cs25.length 2) (
  ((cs25[0]?).bind AV.asBool).bind fun b26 =>
  ((cs25[1]?).bind AV.asSl).bind fun l27 =>
  ((some p24.2).bind (AV.asInt .i64)).bind fun n28 =>
  newK q23.2 (.cells [.bool false, (⟨none, 0, .is 0⟩ : Sl).v] T.api_Int) fun h29r h29 =>
  (h29.puts h29r [.bool b26, l27.v]).bind fun h30 =>
  ((h30.cell (h7r.add 0)).bind AV.asBool).bind fun b31 =>
  ((h30.cell (h7r.add 1)).bind AV.asSl).bind fun l32 =>
  ((h30.cell (h7r.add 2)).bind AV.asSl).bind fun l33 =>
  (go (.fn F.ref08_Floor [.agg [.bool b31, l32.v, l33.v]]) h30).bind fun q34 =>
  (AV.asTup2 q34.1).bind fun p35 =>
  (AV.asAgg p35.1).bind fun cs36 =>
  cond (Nat.beq cs36.length 2) (
  ((cs36[0]?).bind AV.asBool).bind fun b37 =>
  ((cs36[1]?).bind AV.asSl).bind fun l38 =>
  ((some p35.2).bind (AV.asInt .i64)).bind fun n39 =>
  newK q34.2 (.cells [.bool false, (⟨none, 0, .is 0⟩ : Sl).v] T.api_Int) fun h40r h40 =>
  (h40.puts h40r [.bool b37, l38.v]).bind fun h41 =>
  ((h41.cell (h29r.add 0)).bind AV.asBool).bind fun b42 =>
  ((h41.cell (h29r.add 1)).bind AV.asSl).bind fun l43 =>
  ((h41.cell (h40r.add 0)).bind AV.asBool).bind fun b44 =>
  ((h41.cell (h40r.add 1)).bind AV.asSl).bind fun l45 =>
  (go (.fn F.ref03_Same [.agg [.bool b42, l43.v], .agg [.bool b44, l45.v]]) h41).bind fun q46 =>
  ((some q46.1).bind AV.asBool).bind fun b47 =>
  cond b19 (
  cond b47 (
  cond (decide (n28 = n39)) (
  ((q46.2.cell (h7r.add 0)).bind AV.asBool).bind fun b48 =>
  ((q46.2.cell (h7r.add 1)).bind AV.asSl).bind fun l49 =>
  ((q46.2.cell (h7r.add 2)).bind AV.asSl).bind fun l50 =>
  ((q46.2.cell (h8r.add 0)).bind AV.asBool).bind fun b51 =>
  ((q46.2.cell (h8r.add 1)).bind AV.asSl).bind fun l52 =>
  ((q46.2.cell (h8r.add 2)).bind AV.asSl).bind fun l53 =>
  ((q46.2.cell (h7r.add 0)).bind AV.asBool).bind fun b54 =>
  ((q46.2.cell (h7r.add 1)).bind AV.asSl).bind fun l55 =>
  ((q46.2.cell (h7r.add 2)).bind AV.asSl).bind fun l56 =>
  ((q46.2.cell (h8r.add 0)).bind AV.asBool).bind fun b57 =>
  ((q46.2.cell (h8r.add 1)).bind AV.asSl).bind fun l58 =>
  ((q46.2.cell (h8r.add 2)).bind AV.asSl).bind fun l59 =>
  (go (.fn F.rational_Cmp [.agg [.bool b48, l49.v, l50.v], .agg [.bool b51, l52.v, l53.v]]) q46.2).bind fun q60 =>
  ((some q60.1).bind (AV.asInt .i64)).bind fun n61 =>
  whenK (SameAt q46.2 q60.2 h8r 3) (
  whenK (SameAt q46.2 q60.2 h7r 3) (
  (go (.fn F.ref08_Cmp [.agg [.bool b54, l55.v, l56.v], .agg [.bool b57, l58.v, l59.v]]) q60.2).bind fun q62 =>
  ((some q62.1).bind (AV.asInt .i64)).bind fun n63 =>
  some (.bool (decide (n61 = n63)), q62.2)))) (
  whenK (SameAt q46.2 q46.2 h8r 3) (
  whenK (SameAt q46.2 q46.2 h7r 3) (
  some (.bool false, q46.2))))) (
  whenK (SameAt q46.2 q46.2 h8r 3) (
  whenK (SameAt q46.2 q46.2 h7r 3) (
  some (.bool false, q46.2))))) (
  whenK (SameAt q46.2 q46.2 h8r 3) (
  whenK (SameAt q46.2 q46.2 h7r 3) (
  some (.bool false, q46.2))))) none) none) := (go_step _ h).trans (by kernel_rfl)

theorem u_law08_RationalBetween (a1 : Bool) (a2 : Sl) (a3 : Sl) (h : AH) : go (.fn F.law08_RationalBetween [.agg [.bool a1, a2.v, a3.v]]) h =
  newK h (.cells [.bool a1, a2.v, a3.v] T.api_Frac) fun h4r h4 =>
  ((h4.cell (h4r.add 0)).bind AV.asBool).bind fun b5 =>
  ((h4.cell (h4r.add 1)).bind AV.asSl).bind fun l6 =>
  ((h4.cell (h4r.add 2)).bind AV.asSl).bind fun l7 =>
  newK h4 (.cells [.bool b5, l6.v, l7.v] T.api_Frac) fun h8r h8 =>
  (go (.fn F.law08_few [(⟨some h8r, 1, .is 1⟩ : Sl).v]) h8).bind fun q9 =>
  ((some q9.1).bind AV.asBool).bind fun b10 =>
  cond (!b10) (
  some (.bool true, q9.2)) (
  (go (.fn F.law08_awake []) q9.2).bind fun q11 =>
  ((some q11.1).bind AV.asBool).bind fun b12 =>
  ((q11.2.cell (h4r.add 0)).bind AV.asBool).bind fun b13 =>
  ((q11.2.cell (h4r.add 1)).bind AV.asSl).bind fun l14 =>
  ((q11.2.cell (h4r.add 2)).bind AV.asSl).bind fun l15 =>
  (go (.fn F.ref08_Right [.agg [.bool b13, l14.v, l15.v]]) q11.2).bind fun q16 =>
  ((some q16.1).bind AV.asBool).bind fun b17 =>
  cond (!b12) (
  some (.bool b12, q16.2)) (
  cond (!b17) (
  some (.bool b12, q16.2)) (
  ((q16.2.cell (h4r.add 0)).bind AV.asBool).bind fun b18 =>
  ((q16.2.cell (h4r.add 1)).bind AV.asSl).bind fun l19 =>
  ((q16.2.cell (h4r.add 2)).bind AV.asSl).bind fun l20 =>
  (go (.fn F.rational_Floor [.agg [.bool b18, l19.v, l20.v]]) q16.2).bind fun q21 =>
  (AV.asTup2 q21.1).bind fun p22 =>
  (AV.asAgg p22.1).bind fun cs23 =>
  cond (Nat.beq cs23.length 2) (
  ((cs23[0]?).bind AV.asBool).bind fun b24 =>
  ((cs23[1]?).bind AV.asSl).bind fun l25 =>
  ((some p22.2).bind (AV.asInt .i64)).bind fun n26 =>
  newK q21.2 (.cells [.bool false, (⟨none, 0, .is 0⟩ : Sl).v] T.api_Int) fun h27r h27 =>
  (h27.puts h27r [.bool b24, l25.v]).bind fun h28 =>
  newK h28 (.cells [.bool false, (⟨none, 0, .is 0⟩ : Sl).v] T.api_Int) fun h29r h29 =>
  ((h29.cell (h27r.add 0)).bind AV.asBool).bind fun b30 =>
  ((h29.cell (h27r.add 1)).bind AV.asSl).bind fun l31 =>
  (go (.fn F.ref03_Of [.int .i64 1]) h29).bind fun q32 =>
  (AV.asAgg q32.1).bind fun cs33 =>
  cond (Nat.beq cs33.length 2) (
  ((cs33[0]?).bind AV.asBool).bind fun b34 =>
  ((cs33[1]?).bind AV.asSl).bind fun l35 =>
  whenK (SameAt h29 q32.2 h27r 2) (
  whenK (SameAt h29 q32.2 h29r 0) (
  (go (.fn F.ref03_Add [.agg [.bool b30, l31.v], .agg [.bool b34, l35.v]]) q32.2).bind fun q36 =>
  (AV.asTup2 q36.1).bind fun p37 =>
  (AV.asAgg p37.1).bind fun cs38 =>
  cond (Nat.beq cs38.length 2) (
  ((cs38[0]?).bind AV.asBool).bind fun b39 =>
  ((cs38[1]?).bind AV.asSl).bind fun l40 =>
  ((some p37.2).bind (AV.asInt .i64)).bind fun n41 =>
  whenK (SameAt q32.2 q36.2 h29r 0) (
  (q36.2.puts h29r [.bool b39, l40.v]).bind fun h42 =>
  cond (!decide (n26 = 0)) (
  some (.bool (decide (n26 = 0)), h42)) (
  ((h42.cell (h27r.add 1)).bind AV.asSl).bind fun l43 =>
  cond (decide ((l43.len : Int) > 16)) (
  some (.bool (decide (n26 = 0)), h42)) (
  ((h42.cell (h29r.add 1)).bind AV.asSl).bind fun l44 =>
  cond (decide ((l44.len : Int) > 16)) (
  some (.bool (decide (n26 = 0)), h42)) (
  ((h42.cell (h27r.add 0)).bind AV.asBool).bind fun b45 =>
  ((h42.cell (h27r.add 1)).bind AV.asSl).bind fun l46 =>
  newK h42 (.cells [.int .u64 1] T.uint64) fun h47r h47 =>
  newK h47 (.cells [.bool false, (⟨none, 0, .is 0⟩ : Sl).v, (⟨none, 0, .is 0⟩ : Sl).v] T.api_Frac) fun h48r h48 =>
  (h48.puts h48r [.bool b45, l46.v, (⟨some h47r, 1, .is 1⟩ : Sl).v]).bind fun h49 =>
  ((h49.cell (h29r.add 0)).bind AV.asBool).bind fun b50 =>
  ((h49.cell (h29r.add 1)).bind AV.asSl).bind fun l51 =>
  newK h49 (.cells [.int .u64 1] T.uint64) fun h52r h52 =>
  newK h52 (.cells [.bool false, (⟨none, 0, .is 0⟩ : Sl).v, (⟨none, 0, .is 0⟩ : Sl).v] T.api_Frac) fun h53r h53 =>
  (h53.puts h53r [.bool b50, l51.v, (⟨some h52r, 1, .is 1⟩ : Sl).v]).bind fun h54 =>
  ((h54.cell (h48r.add 0)).bind AV.asBool).bind fun b55 =>
  ((h54.cell (h48r.add 1)).bind AV.asSl).bind fun l56 =>
  ((h54.cell (h48r.add 2)).bind AV.asSl).bind fun l57 =>
  ((h54.cell (h4r.add 0)).bind AV.asBool).bind fun b58 =>
  ((h54.cell (h4r.add 1)).bind AV.asSl).bind fun l59 =>
  ((h54.cell (h4r.add 2)).bind AV.asSl).bind fun l60 =>
  (go (.fn F.rational_Cmp [.agg [.bool b55, l56.v, l57.v], .agg [.bool b58, l59.v, l60.v]]) h54).bind fun q61 =>
  ((some q61.1).bind (AV.asInt .i64)).bind fun n62 =>
  cond (decide (n62 ≤ 0)) (
  ((q61.2.cell (h4r.add 0)).bind AV.asBool).bind fun b63 =>
  ((q61.2.cell (h4r.add 1)).bind AV.asSl).bind fun l64 =>
  ((q61.2.cell (h4r.add 2)).bind AV.asSl).bind fun l65 =>
  ((q61.2.cell (h53r.add 0)).bind AV.asBool).bind fun b66 =>
  ((q61.2.cell (h53r.add 1)).bind AV.asSl).bind fun l67 =>
  ((q61.2.cell (h53r.add 2)).bind AV.asSl).bind fun l68 =>
  (go (.fn F.rational_Cmp [.agg [.bool b63, l64.v, l65.v], .agg [.bool b66, l67.v, l68.v]]) q61.2).bind fun q69 =>
  ((some q69.1).bind (AV.asInt .i64)).bind fun n70 =>
  some (.bool (decide (n70 = (-1))), q69.2)) (
  some (.bool false, q61.2))))))) none))) none) none))) := (go_step _ h).trans (by kernel_rfl)

theorem u_law08_RationalAround (a1 : Bool) (a2 : Sl) (a3 : Sl) (a4 : Bool) (a5 : Sl) (a6 : Sl) (h : AH) : go (.fn F.law08_RationalAround [.agg [.bool a1, a2.v, a3.v], .agg [.bool a4, a5.v, a6.v]]) h =
  newK h (.cells [.bool a1, a2.v, a3.v] T.api_Frac) fun h7r h7 =>
  newK h7 (.cells [.bool a4, a5.v, a6.v] T.api_Frac) fun h8r h8 =>
  ((h8.cell (h7r.add 0)).bind AV.asBool).bind fun b9 =>
  ((h8.cell (h7r.add 1)).bind AV.asSl).bind fun l10 =>
  ((h8.cell (h7r.add 2)).bind AV.asSl).bind fun l11 =>
  ((h8.cell (h8r.add 0)).bind AV.asBool).bind fun b12 =>
  ((h8.cell (h8r.add 1)).bind AV.asSl).bind fun l13 =>
  ((h8.cell (h8r.add 2)).bind AV.asSl).bind fun l14 =>
  newK h8 (.cells [.bool b9, l10.v, l11.v, .bool b12, l13.v, l14.v] T.api_Frac) fun h15r h15 =>
  (go (.fn F.law08_few [(⟨some h15r, 2, .is 2⟩ : Sl).v]) h15).bind fun q16 =>
  ((some q16.1).bind AV.asBool).bind fun b17 =>
  cond (!b17) (
  some (.bool true, q16.2)) (
  (go (.fn F.law08_awake []) q16.2).bind fun q18 =>
  ((some q18.1).bind AV.asBool).bind fun b19 =>
  ((q18.2.cell (h7r.add 0)).bind AV.asBool).bind fun b20 =>
  ((q18.2.cell (h7r.add 1)).bind AV.asSl).bind fun l21 =>
  ((q18.2.cell (h7r.add 2)).bind AV.asSl).bind fun l22 =>
  ((q18.2.cell (h8r.add 0)).bind AV.asBool).bind fun b23 =>
  ((q18.2.cell (h8r.add 1)).bind AV.asSl).bind fun l24 =>
  ((q18.2.cell (h8r.add 2)).bind AV.asSl).bind fun l25 =>
  (go (.fn F.rational_Add [.agg [.bool b20, l21.v, l22.v], .agg [.bool b23, l24.v, l25.v]]) q18.2).bind fun q26 =>
  (AV.asTup2 q26.1).bind fun p27 =>
  (AV.asAgg p27.1).bind fun cs28 =>
  cond (Nat.beq cs28.length 3) (
  ((cs28[0]?).bind AV.asBool).bind fun b29 =>
  ((cs28[1]?).bind AV.asSl).bind fun l30 =>
  ((cs28[2]?).bind AV.asSl).bind fun l31 =>
  ((some p27.2).bind (AV.asInt .i64)).bind fun n32 =>
  newK q26.2 (.cells [.bool false, (⟨none, 0, .is 0⟩ : Sl).v, (⟨none, 0, .is 0⟩ : Sl).v] T.api_Frac) fun h33r h33 =>
  (h33.puts h33r [.bool b29, l30.v, l31.v]).bind fun h34 =>
  ((h34.cell (h8r.add 0)).bind AV.asBool).bind fun b35 =>
  ((h34.cell (h8r.add 1)).bind AV.asSl).bind fun l36 =>
  ((h34.cell (h8r.add 2)).bind AV.asSl).bind fun l37 =>
  ((h34.cell (h7r.add 0)).bind AV.asBool).bind fun b38 =>
  ((h34.cell (h7r.add 1)).bind AV.asSl).bind fun l39 =>
  ((h34.cell (h7r.add 2)).bind AV.asSl).bind fun l40 =>
  (go (.fn F.rational_Add [.agg [.bool b35, l36.v, l37.v], .agg [.bool b38, l39.v, l40.v]]) h34).bind fun q41 =>
  (AV.asTup2 q41.1).bind fun p42 =>
  (AV.asAgg p42.1).bind fun cs43 =>
  cond (Nat.beq cs43.length 3) (
  ((cs43[0]?).bind AV.asBool).bind fun b44 =>
  ((cs43[1]?).bind AV.asSl).bind fun l45 =>
  ((cs43[2]?).bind AV.asSl).bind fun l46 =>
  ((some p42.2).bind (AV.asInt .i64)).bind fun n47 =>
  newK q41.2 (.cells [.bool false, (⟨none, 0, .is 0⟩ : Sl).v, (⟨none, 0, .is 0⟩ : Sl).v] T.api_Frac) fun h48r h48 =>
  (h48.puts h48r [.bool b44, l45.v, l46.v]).bind fun h49 =>
  ((h49.cell (h7r.add 0)).bind AV.asBool).bind fun b50 =>
  ((h49.cell (h7r.add 1)).bind AV.asSl).bind fun l51 =>
  ((h49.cell (h7r.add 2)).bind AV.asSl).bind fun l52 =>
  ((h49.cell (h8r.add 0)).bind AV.asBool).bind fun b53 =>
  ((h49.cell (h8r.add 1)).bind AV.asSl).bind fun l54 =>
  ((h49.cell (h8r.add 2)).bind AV.asSl).bind fun l55 =>
  (go (.fn F.rational_Mul [.agg [.bool b50, l51.v, l52.v], .agg [.bool b53, l54.v, l55.v]]) h49).bind fun q56 =>
  (AV.asTup2 q56.1).bind fun p57 =>
  (AV.asAgg p57.1).bind fun cs58 =>
  cond (Nat.beq cs58.length 3) (
  ((cs58[0]?).bind AV.asBool).bind fun b59 =>
  ((cs58[1]?).bind AV.asSl).bind fun l60 =>
  ((cs58[2]?).bind AV.asSl).bind fun l61 =>
  ((some p57.2).bind (AV.asInt .i64)).bind fun n62 =>
  newK q56.2 (.cells [.bool false, (⟨none, 0, .is 0⟩ : Sl).v, (⟨none, 0, .is 0⟩ : Sl).v] T.api_Frac) fun h63r h63 =>
  (h63.puts h63r [.bool b59, l60.v, l61.v]).bind fun h64 =>
  ((h64.cell (h8r.add 0)).bind AV.asBool).bind fun b65 =>
  ((h64.cell (h8r.add 1)).bind AV.asSl).bind fun l66 =>
  ((h64.cell (h8r.add 2)).bind AV.asSl).bind fun l67 =>
  ((h64.cell (h7r.add 0)).bind AV.asBool).bind fun b68 =>
  ((h64.cell (h7r.add 1)).bind AV.asSl).bind fun l69 =>
  ((h64.cell (h7r.add 2)).bind AV.asSl).bind fun l70 =>
  (go (.fn F.rational_Mul [.agg [.bool b65, l66.v, l67.v], .agg [.bool b68, l69.v, l70.v]]) h64).bind fun q71 =>
  (AV.asTup2 q71.1).bind fun p72 =>
  (AV.asAgg p72.1).bind fun cs73 =>
  cond (Nat.beq cs73.length 3) (
  ((cs73[0]?).bind AV.asBool).bind fun b74 =>
  ((cs73[1]?).bind AV.asSl).bind fun l75 =>
  ((cs73[2]?).bind AV.asSl).bind fun l76 =>
  ((some p72.2).bind (AV.asInt .i64)).bind fun n77 =>
  newK q71.2 (.cells [.bool false, (⟨none, 0, .is 0⟩ : Sl).v, (⟨none, 0, .is 0⟩ : Sl).v] T.api_Frac) fun h78r h78 =>
  (h78.puts h78r [.bool b74, l75.v, l76.v]).bind fun h79 =>
  ((h79.cell (h33r.add 0)).bind AV.asBool).bind fun b80 =>
  ((h79.cell (h33r.add 1)).bind AV.asSl).bind fun l81 =>
  ((h79.cell (h33r.add 2)).bind AV.asSl).bind fun l82 =>
  ((h79.cell (h48r.add 0)).bind AV.asBool).bind fun b83 =>
  ((h79.cell (h48r.add 1)).bind AV.asSl).bind fun l84 =>
  ((h79.cell (h48r.add 2)).bind AV.asSl).bind fun l85 =>
  (go (.fn F.ref08_Same [.agg [.bool b80, l81.v, l82.v], .agg [.bool b83, l84.v, l85.v]]) h79).bind fun q86 =>
  ((some q86.1).bind AV.asBool).bind fun b87 =>
  ((q86.2.cell (h63r.add 0)).bind AV.asBool).bind fun b88 =>
  ((q86.2.cell (h63r.add 1)).bind AV.asSl).bind fun l89 =>
  ((q86.2.cell (h63r.add 2)).bind AV.asSl).bind fun l90 =>
  ((q86.2.cell (h78r.add 0)).bind AV.asBool).bind fun b91 =>
  ((q86.2.cell (h78r.add 1)).bind AV.asSl).bind fun l92 =>
  ((q86.2.cell (h78r.add 2)).bind AV.asSl).bind fun l93 =>
  (go (.fn F.ref08_Same [.agg [.bool b88, l89.v, l90.v], .agg [.bool b91, l92.v, l93.v]]) q86.2).bind fun q94 =>
  ((some q94.1).bind AV.asBool).bind fun b95 =>
  cond (!b19) (
  some (.bool false, q94.2)) (
  cond (!b87) (
  some (.bool false, q94.2)) (
  cond (!b95) (
  some (.bool false, q94.2)) (
  cond (!decide (n32 = n47)) (
  some (.bool false, q94.2)) (
  cond (!decide (n62 = n77)) (
  some (.bool false, q94.2)) (
  ((q94.2.cell (h7r.add 0)).bind AV.asBool).bind fun b96 =>
  ((q94.2.cell (h7r.add 1)).bind AV.asSl).bind fun l97 =>
  ((q94.2.cell (h7r.add 2)).bind AV.asSl).bind fun l98 =>
  ((q94.2.cell (h8r.add 0)).bind AV.asBool).bind fun b99 =>
  ((q94.2.cell (h8r.add 1)).bind AV.asSl).bind fun l100 =>
  ((q94.2.cell (h8r.add 2)).bind AV.asSl).bind fun l101 =>
  (go (.fn F.rational_Sub [.agg [.bool b96, l97.v, l98.v], .agg [.bool b99, l100.v, l101.v]]) q94.2).bind fun q102 =>
  (AV.asTup2 q102.1).bind fun p103 =>
  (AV.asAgg p103.1).bind fun cs104 =>
  cond (Nat.beq cs104.length 3) (
  ((cs104[0]?).bind AV.asBool).bind fun b105 =>
  ((cs104[1]?).bind AV.asSl).bind fun l106 =>
  ((cs104[2]?).bind AV.asSl).bind fun l107 =>
  ((some p103.2).bind (AV.asInt .i64)).bind fun n108 =>
  newK q102.2 (.cells [.bool false, (⟨none, 0, .is 0⟩ : Sl).v, (⟨none, 0, .is 0⟩ : Sl).v] T.api_Frac) fun h109r h109 =>
  (h109.puts h109r [.bool b105, l106.v, l107.v]).bind fun h110 =>
  cond (decide (n32 = 0)) (
  ((h110.cell (h33r.add 0)).bind AV.asBool).bind fun b111 =>
  ((h110.cell (h33r.add 1)).bind AV.asSl).bind fun l112 =>
  ((h110.cell (h33r.add 2)).bind AV.asSl).bind fun l113 =>
  ((h110.cell (h8r.add 0)).bind AV.asBool).bind fun b114 =>
  ((h110.cell (h8r.add 1)).bind AV.asSl).bind fun l115 =>
  ((h110.cell (h8r.add 2)).bind AV.asSl).bind fun l116 =>
  (go (.fn F.rational_Sub [.agg [.bool b111, l112.v, l113.v], .agg [.bool b114, l115.v, l116.v]]) h110).bind fun q117 =>
  (AV.asTup2 q117.1).bind fun p118 =>
  (AV.asAgg p118.1).bind fun cs119 =>
  cond (Nat.beq cs119.length 3) (
  ((cs119[0]?).bind AV.asBool).bind fun b120 =>
  ((cs119[1]?).bind AV.asSl).bind fun l121 =>
  ((cs119[2]?).bind AV.asSl).bind fun l122 =>
  ((some p118.2).bind (AV.asInt .i64)).bind fun n123 =>
  newK q117.2 (.cells [.bool false, (⟨none, 0, .is 0⟩ : Sl).v, (⟨none, 0, .is 0⟩ : Sl).v] T.api_Frac) fun h124r h124 =>
  (h124.puts h124r [.bool b120, l121.v, l122.v]).bind fun h125 =>
  ((h125.cell (h124r.add 0)).bind AV.asBool).bind fun b126 =>
  ((h125.cell (h124r.add 1)).bind AV.asSl).bind fun l127 =>
  ((h125.cell (h124r.add 2)).bind AV.asSl).bind fun l128 =>
  ((h125.cell (h7r.add 0)).bind AV.asBool).bind fun b129 =>
  ((h125.cell (h7r.add 1)).bind AV.asSl).bind fun l130 =>
  ((h125.cell (h7r.add 2)).bind AV.asSl).bind fun l131 =>
  (go (.fn F.ref08_Same [.agg [.bool b126, l127.v, l128.v], .agg [.bool b129, l130.v, l131.v]]) h125).bind fun q132 =>
  ((some q132.1).bind AV.asBool).bind fun b133 =>
  cond (!decide (n123 = 0)) (
  some (.bool false, q132.2)) (
  cond (!b133) (
  some (.bool false, q132.2)) (
  go (.pt F.law08_RationalAround Td.law08_RationalAround_18 [(2, .ptr (some h7r)), (3, .ptr (some h8r)), (16, .ptr (some h109r)), (17, .int .i64 n108)]) q132.2))) none) (
  go (.pt F.law08_RationalAround Td.law08_RationalAround_18 [(2, .ptr (some h7r)), (3, .ptr (some h8r)), (16, .ptr (some h109r)), (17, .int .i64 n108)]) h110)) none)))))) none) none) none) none) := (go_step _ h).trans (by kernel_rfl)

theorem u_law17_GainScores (a1 : Int) (a2 : Int) (a3 : Int) (h : AH) : go (.fn F.law17_GainScores [.int .i64 a1, .agg [.int .i64 a2, .int .i64 a3]]) h =
  newK h (.cells [.int .i64 a2, .int .i64 a3] T.api_Sum) fun h4r h4 =>
  (go (.fn F.law17_awake []) h4).bind fun q5 =>
  ((some q5.1).bind AV.asBool).bind fun b6 =>
  ((q5.2.cell (h4r.add 0)).bind (AV.asInt .i64)).bind fun n7 =>
  ((q5.2.cell (h4r.add 1)).bind (AV.asInt .i64)).bind fun n8 =>
  (go (.fn F.gain_Score [.int .i64 a1, .agg [.int .i64 n7, .int .i64 n8]]) q5.2).bind fun q9 =>
  (AV.asTup2 q9.1).bind fun p10 =>
  (AV.asAgg p10.1).bind fun cs11 =>
  cond (Nat.beq cs11.length 3) (
  ((cs11[0]?).bind AV.asBool).bind fun b12 =>
  ((cs11[1]?).bind AV.asSl).bind fun l13 =>
  ((cs11[2]?).bind AV.asSl).bind fun l14 =>
  ((some p10.2).bind (AV.asInt .i64)).bind fun n15 =>
  newK q9.2 (.cells [.bool false, (⟨none, 0, .is 0⟩ : Sl).v, (⟨none, 0, .is 0⟩ : Sl).v] T.api_Frac) fun h16r h16 =>
  (h16.puts h16r [.bool b12, l13.v, l14.v]).bind fun h17 =>
  ((h17.cell (h4r.add 0)).bind (AV.asInt .i64)).bind fun n18 =>
  ((h17.cell (h4r.add 1)).bind (AV.asInt .i64)).bind fun n19 =>
  (go (.fn F.ref17_Score [.int .i64 a1, .agg [.int .i64 n18, .int .i64 n19]]) h17).bind fun q20 =>
  (AV.asTup2 q20.1).bind fun p21 =>
  (AV.asAgg p21.1).bind fun cs22 =>
  cond (Nat.beq cs22.length 3) (
  ((cs22[0]?).bind AV.asBool).bind fun b23 =>
  ((cs22[1]?).bind AV.asSl).bind fun l24 =>
  ((cs22[2]?).bind AV.asSl).bind fun l25 =>
  ((some p21.2).bind (AV.asInt .i64)).bind fun n26 =>
  newK q20.2 (.cells [.bool false, (⟨none, 0, .is 0⟩ : Sl).v, (⟨none, 0, .is 0⟩ : Sl).v] T.api_Frac) fun h27r h27 =>
  (h27.puts h27r [.bool b23, l24.v, l25.v]).bind fun h28 =>
  ((h28.cell (h16r.add 0)).bind AV.asBool).bind fun b29 =>
  ((h28.cell (h16r.add 1)).bind AV.asSl).bind fun l30 =>
  ((h28.cell (h16r.add 2)).bind AV.asSl).bind fun l31 =>
  ((h28.cell (h27r.add 0)).bind AV.asBool).bind fun b32 =>
  ((h28.cell (h27r.add 1)).bind AV.asSl).bind fun l33 =>
  ((h28.cell (h27r.add 2)).bind AV.asSl).bind fun l34 =>
  (go (.fn F.ref08_Same [.agg [.bool b29, l30.v, l31.v], .agg [.bool b32, l33.v, l34.v]]) h28).bind fun q35 =>
  ((some q35.1).bind AV.asBool).bind fun b36 =>
  cond b6 (
  cond b36 (
  some (.bool (decide (n15 = n26)), q35.2)) (
  some (.bool false, q35.2))) (
  some (.bool false, q35.2))) none) none := (go_step _ h).trans (by kernel_rfl)

theorem u_law17_GainSplits (a1 : Int) (a2 : Int) (a3 : Int) (a4 : Int) (a5 : Int) (h : AH) : go (.fn F.law17_GainSplits [.int .i64 a1, .agg [.int .i64 a2, .int .i64 a3], .agg [.int .i64 a4, .int .i64 a5]]) h =
  newK h (.cells [.int .i64 a2, .int .i64 a3] T.api_Sum) fun h6r h6 =>
  newK h6 (.cells [.int .i64 a4, .int .i64 a5] T.api_Sum) fun h7r h7 =>
  (go (.fn F.law17_awake []) h7).bind fun q8 =>
  ((some q8.1).bind AV.asBool).bind fun b9 =>
  ((q8.2.cell (h6r.add 0)).bind (AV.asInt .i64)).bind fun n10 =>
  ((q8.2.cell (h6r.add 1)).bind (AV.asInt .i64)).bind fun n11 =>
  ((q8.2.cell (h7r.add 0)).bind (AV.asInt .i64)).bind fun n12 =>
  ((q8.2.cell (h7r.add 1)).bind (AV.asInt .i64)).bind fun n13 =>
  (go (.fn F.gain_Gain [.int .i64 a1, .agg [.int .i64 n10, .int .i64 n11], .agg [.int .i64 n12, .int .i64 n13]]) q8.2).bind fun q14 =>
  (AV.asTup2 q14.1).bind fun p15 =>
  (AV.asAgg p15.1).bind fun cs16 =>
  cond (Nat.beq cs16.length 3) (
  ((cs16[0]?).bind AV.asBool).bind fun b17 =>
  ((cs16[1]?).bind AV.asSl).bind fun l18 =>
  ((cs16[2]?).bind AV.asSl).bind fun l19 =>
  ((some p15.2).bind (AV.asInt .i64)).bind fun n20 =>
  newK q14.2 (.cells [.bool false, (⟨none, 0, .is 0⟩ : Sl).v, (⟨none, 0, .is 0⟩ : Sl).v] T.api_Frac) fun h21r h21 =>
  (h21.puts h21r [.bool b17, l18.v, l19.v]).bind fun h22 =>
  ((h22.cell (h6r.add 0)).bind (AV.asInt .i64)).bind fun n23 =>
  ((h22.cell (h6r.add 1)).bind (AV.asInt .i64)).bind fun n24 =>
  ((h22.cell (h7r.add 0)).bind (AV.asInt .i64)).bind fun n25 =>
  ((h22.cell (h7r.add 1)).bind (AV.asInt .i64)).bind fun n26 =>
  (go (.fn F.ref17_Gain [.int .i64 a1, .agg [.int .i64 n23, .int .i64 n24], .agg [.int .i64 n25, .int .i64 n26]]) h22).bind fun q27 =>
  (AV.asTup2 q27.1).bind fun p28 =>
  (AV.asAgg p28.1).bind fun cs29 =>
  cond (Nat.beq cs29.length 3) (
  ((cs29[0]?).bind AV.asBool).bind fun b30 =>
  ((cs29[1]?).bind AV.asSl).bind fun l31 =>
  ((cs29[2]?).bind AV.asSl).bind fun l32 =>
  ((some p28.2).bind (AV.asInt .i64)).bind fun n33 =>
  newK q27.2 (.cells [.bool false, (⟨none, 0, .is 0⟩ : Sl).v, (⟨none, 0, .is 0⟩ : Sl).v] T.api_Frac) fun h34r h34 =>
  (h34.puts h34r [.bool b30, l31.v, l32.v]).bind fun h35 =>
  ((h35.cell (h21r.add 0)).bind AV.asBool).bind fun b36 =>
  ((h35.cell (h21r.add 1)).bind AV.asSl).bind fun l37 =>
  ((h35.cell (h21r.add 2)).bind AV.asSl).bind fun l38 =>
  ((h35.cell (h34r.add 0)).bind AV.asBool).bind fun b39 =>
  ((h35.cell (h34r.add 1)).bind AV.asSl).bind fun l40 =>
  ((h35.cell (h34r.add 2)).bind AV.asSl).bind fun l41 =>
  (go (.fn F.ref08_Same [.agg [.bool b36, l37.v, l38.v], .agg [.bool b39, l40.v, l41.v]]) h35).bind fun q42 =>
  ((some q42.1).bind AV.asBool).bind fun b43 =>
  cond b9 (
  cond b43 (
  some (.bool (decide (n20 = n33)), q42.2)) (
  some (.bool false, q42.2))) (
  some (.bool false, q42.2))) none) none := (go_step _ h).trans (by kernel_rfl)

theorem u_law17_GainBoth (a1 : Int) (a2 : Int) (a3 : Int) (a4 : Int) (a5 : Int) (h : AH) : go (.fn F.law17_GainBoth [.int .i64 a1, .agg [.int .i64 a2, .int .i64 a3], .agg [.int .i64 a4, .int .i64 a5]]) h =
  newK h (.cells [.int .i64 a2, .int .i64 a3] T.api_Sum) fun h6r h6 =>
  newK h6 (.cells [.int .i64 a4, .int .i64 a5] T.api_Sum) fun h7r h7 =>
  (go (.fn F.law17_awake []) h7).bind fun q8 =>
  ((some q8.1).bind AV.asBool).bind fun b9 =>
  ((q8.2.cell (h6r.add 0)).bind (AV.asInt .i64)).bind fun n10 =>
  ((q8.2.cell (h6r.add 1)).bind (AV.asInt .i64)).bind fun n11 =>
  ((q8.2.cell (h7r.add 0)).bind (AV.asInt .i64)).bind fun n12 =>
  ((q8.2.cell (h7r.add 1)).bind (AV.asInt .i64)).bind fun n13 =>
  (go (.fn F.gain_Gain [.int .i64 a1, .agg [.int .i64 n10, .int .i64 n11], .agg [.int .i64 n12, .int .i64 n13]]) q8.2).bind fun q14 =>
  (AV.asTup2 q14.1).bind fun p15 =>
  (AV.asAgg p15.1).bind fun cs16 =>
  cond (Nat.beq cs16.length 3) (
  ((cs16[0]?).bind AV.asBool).bind fun b17 =>
  ((cs16[1]?).bind AV.asSl).bind fun l18 =>
  ((cs16[2]?).bind AV.asSl).bind fun l19 =>
  ((some p15.2).bind (AV.asInt .i64)).bind fun n20 =>
  newK q14.2 (.cells [.bool false, (⟨none, 0, .is 0⟩ : Sl).v, (⟨none, 0, .is 0⟩ : Sl).v] T.api_Frac) fun h21r h21 =>
  (h21.puts h21r [.bool b17, l18.v, l19.v]).bind fun h22 =>
  cond (!b9) (
  cond b9 (
  some (.bool (decide (n20 = 1)), h22)) (
  some (.bool false, h22))) (
  cond (!decide (n20 = 0)) (
  cond b9 (
  some (.bool (decide (n20 = 1)), h22)) (
  some (.bool false, h22))) (
  ((h22.cell (h7r.add 0)).bind (AV.asInt .i64)).bind fun n23 =>
  ((h22.cell (h6r.add 0)).bind (AV.asInt .i64)).bind fun n24 =>
  ((h22.cell (h7r.add 1)).bind (AV.asInt .i64)).bind fun n25 =>
  ((h22.cell (h6r.add 1)).bind (AV.asInt .i64)).bind fun n26 =>
  ((h22.cell (h7r.add 0)).bind (AV.asInt .i64)).bind fun n27 =>
  ((h22.cell (h7r.add 1)).bind (AV.asInt .i64)).bind fun n28 =>
  (go (.fn F.gain_Gain [.int .i64 a1, .agg [.int .i64 (IntKind.wrap .i64 (n23 - n24)), .int .i64 (IntKind.wrap .i64 (n25 - n26))], .agg [.int .i64 n27, .int .i64 n28]]) h22).bind fun q29 =>
  (AV.asTup2 q29.1).bind fun p30 =>
  (AV.asAgg p30.1).bind fun cs31 =>
  cond (Nat.beq cs31.length 3) (
  ((cs31[0]?).bind AV.asBool).bind fun b32 =>
  ((cs31[1]?).bind AV.asSl).bind fun l33 =>
  ((cs31[2]?).bind AV.asSl).bind fun l34 =>
  ((some p30.2).bind (AV.asInt .i64)).bind fun n35 =>
  newK q29.2 (.cells [.bool false, (⟨none, 0, .is 0⟩ : Sl).v, (⟨none, 0, .is 0⟩ : Sl).v] T.api_Frac) fun h36r h36 =>
  (h36.puts h36r [.bool b32, l33.v, l34.v]).bind fun h37 =>
  ((h37.cell (h21r.add 0)).bind AV.asBool).bind fun b38 =>
  ((h37.cell (h21r.add 1)).bind AV.asSl).bind fun l39 =>
  ((h37.cell (h21r.add 2)).bind AV.asSl).bind fun l40 =>
  ((h37.cell (h36r.add 0)).bind AV.asBool).bind fun b41 =>
  ((h37.cell (h36r.add 1)).bind AV.asSl).bind fun l42 =>
  ((h37.cell (h36r.add 2)).bind AV.asSl).bind fun l43 =>
  (go (.fn F.ref08_Same [.agg [.bool b38, l39.v, l40.v], .agg [.bool b41, l42.v, l43.v]]) h37).bind fun q44 =>
  ((some q44.1).bind AV.asBool).bind fun b45 =>
  ((q44.2.cell (h7r.add 0)).bind (AV.asInt .i64)).bind fun n46 =>
  ((q44.2.cell (h7r.add 1)).bind (AV.asInt .i64)).bind fun n47 =>
  (go (.fn F.gain_Gain [.int .i64 a1, .agg [.int .i64 0, .int .i64 0], .agg [.int .i64 n46, .int .i64 n47]]) q44.2).bind fun q48 =>
  (AV.asTup2 q48.1).bind fun p49 =>
  (AV.asAgg p49.1).bind fun cs50 =>
  cond (Nat.beq cs50.length 3) (
  ((cs50[0]?).bind AV.asBool).bind fun b51 =>
  ((cs50[1]?).bind AV.asSl).bind fun l52 =>
  ((cs50[2]?).bind AV.asSl).bind fun l53 =>
  ((some p49.2).bind (AV.asInt .i64)).bind fun n54 =>
  newK q48.2 (.cells [.bool false, (⟨none, 0, .is 0⟩ : Sl).v, (⟨none, 0, .is 0⟩ : Sl).v] T.api_Frac) fun h55r h55 =>
  (h55.puts h55r [.bool b51, l52.v, l53.v]).bind fun h56 =>
  cond (decide (n35 = 0)) (
  cond (decide (n54 = 0)) (
  cond b45 (
  ((h56.cell ((h55r.add 0).add 1)).bind AV.asSl).bind fun l57 =>
  cond (decide ((l57.len : Int) = 0)) (
  ((h56.cell (h55r.add 2)).bind AV.asSl).bind fun l58 =>
  some (.bool (decide ((l58.len : Int) = 1)), h56)) (
  some (.bool false, h56))) (
  some (.bool false, h56))) (
  some (.bool false, h56))) (
  some (.bool false, h56))) none) none))) none := (go_step _ h).trans (by kernel_rfl)

theorem u_law17_GainTurned (a1 : Int) (a2 : Int) (a3 : Int) (a4 : Int) (a5 : Sl) (h : AH) : go (.fn F.law17_GainTurned [.agg [.int .i64 a1, .int .i64 a2], .agg [.int .i64 a3, .int .i64 a4], a5.v]) h =
  newK h (.cells [.int .i64 a1, .int .i64 a2] T.A2_int) fun h6r h6 =>
  newK h6 (.cells [.int .i64 a3, .int .i64 a4] T.api_Sum) fun h7r h7 =>
  (go (.fn F.law17_awake []) h7).bind fun q8 =>
  ((some q8.1).bind AV.asBool).bind fun b9 =>
  cond (!b9) (
  some (.bool b9, q8.2)) (
  cond (decide ((a5.len : Int) = 0)) (
  some (.bool b9, q8.2)) (
  cond (decide ((a5.len : Int) > 500)) (
  some (.bool b9, q8.2)) (
  (cutSl a5 (IntKind.wrap .i64 (Int.tdiv (a5.len : Int) 2)) (a5.len : Int) 2).bind fun l10 =>
  (cutSl a5 0 (IntKind.wrap .i64 (Int.tdiv (a5.len : Int) 2)) 2).bind fun l11 =>
  newK q8.2 (.cells [] T.api_Sum) fun h12r h12 =>
  (appendArgs Pg T.api_Sum l10.v h12).bind fun p14 =>
  (appendH Pg (⟨some h12r, 0, .is 0⟩ : Sl) p14.1 p14.2 T.api_Sum 2 h12).bind fun q13 =>
  (AV.asSl q13.1).bind fun l15 =>
  (appendArgs Pg T.api_Sum l11.v q13.2).bind fun p17 =>
  (appendH Pg l15 p17.1 p17.2 T.api_Sum 2 q13.2).bind fun q16 =>
  (AV.asSl q16.1).bind fun l18 =>
  (idx (some h6r) 2 0 1).bind fun r19 =>
  ((q16.2.cell r19).bind (AV.asInt .i64)).bind fun n20 =>
  (idx (some h6r) 2 1 1).bind fun r21 =>
  ((q16.2.cell r21).bind (AV.asInt .i64)).bind fun n22 =>
  ((q16.2.cell (h7r.add 0)).bind (AV.asInt .i64)).bind fun n23 =>
  ((q16.2.cell (h7r.add 1)).bind (AV.asInt .i64)).bind fun n24 =>
  (go (.fn F.gain_Best [.int .i64 n20, .int .i64 n22, .agg [.int .i64 n23, .int .i64 n24], a5.v]) q16.2).bind fun q25 =>
  (AV.asTup2 q25.1).bind fun p26 =>
  ((some p26.1).bind AV.asSl).bind fun l27 =>
  ((some p26.2).bind (AV.asInt .i64)).bind fun n28 =>
  (idx (some h6r) 2 0 1).bind fun r29 =>
  ((q25.2.cell r29).bind (AV.asInt .i64)).bind fun n30 =>
  (idx (some h6r) 2 1 1).bind fun r31 =>
  ((q25.2.cell r31).bind (AV.asInt .i64)).bind fun n32 =>
  ((q25.2.cell (h7r.add 0)).bind (AV.asInt .i64)).bind fun n33 =>
  ((q25.2.cell (h7r.add 1)).bind (AV.asInt .i64)).bind fun n34 =>
  (go (.fn F.gain_Best [.int .i64 n30, .int .i64 n32, .agg [.int .i64 n33, .int .i64 n34], l18.v]) q25.2).bind fun q35 =>
  (AV.asTup2 q35.1).bind fun p36 =>
  ((some p36.1).bind AV.asSl).bind fun l37 =>
  ((some p36.2).bind (AV.asInt .i64)).bind fun n38 =>
  cond (!decide (n28 = n38)) (
  some (.bool false, q35.2)) (
  cond (!decide ((l27.len : Int) = (l37.len : Int))) (
  some (.bool false, q35.2)) (
  (makeSliceH (a5.len : Int) (a5.len : Int) T.bool (Pg.bytesOf T.bool) [.bool false] q35.2).bind fun q39 =>
  go (.pt F.law17_GainTurned Td.law17_GainTurned_13 [(8, .int .i64 (a5.len : Int)), (9, .int .i64 (IntKind.wrap .i64 (Int.tdiv (a5.len : Int) 2))), (11, l27.v), (13, l37.v), (15, q39.1.v), (16, .int .i64 0)]) q39.2))))) := (go_step _ h).trans (by kernel_rfl)

theorem u_nat_product_1 (a1 : Sl) (a2 : Sl) (a3 : Ref) (h : AH) : go (.fn F.nat_product_1 [a1.v, a2.v, .ptr (some a3)]) h =
  cond (decide ((a1.len : Int) < 24)) (
  (go (.fn F.nat_school [a1.v, a2.v]) h).bind fun q4 =>
  ((some q4.1).bind AV.asSl).bind fun l5 =>
  some (l5.v, q4.2)) (
  cond (decide ((a2.len : Int) < 24)) (
  (go (.fn F.nat_school [a1.v, a2.v]) h).bind fun q6 =>
  ((some q6.1).bind AV.asSl).bind fun l7 =>
  some (l7.v, q6.2)) (
  newK h (.cells [.int .i64 0] T.int) fun h8r h8 =>
  (h8.puts h8r [.int .i64 (IntKind.wrap .i64 (Int.tdiv (IntKind.wrap .i64 ((imax (a1.len : Int) (a2.len : Int)) + 1)) 2))]).bind fun h9 =>
  (h9.cell a3).bind fun v10 =>
  (h9.cell a3).bind fun v11 =>
  (go (.fn F.nat_product_1_1 [a1.v, .ptr (some h8r)]) h9).bind fun q12 =>
  ((some q12.1).bind AV.asSl).bind fun l13 =>
  whenK (SameAt h9 q12.2 a3 1) (
  whenK (SameAt h9 q12.2 a3 1) (
  (go (.fn F.nat_product_1_1 [a2.v, .ptr (some h8r)]) q12.2).bind fun q14 =>
  ((some q14.1).bind AV.asSl).bind fun l15 =>
  whenK (SameAt q12.2 q14.2 a3 1) (
  whenK (SameAt q12.2 q14.2 a3 1) (
  (callV Pg go v10 [l13.v, l15.v] q14.2).bind fun q16 =>
  ((some q16.1).bind AV.asSl).bind fun l17 =>
  whenK (SameAt q14.2 q16.2 a3 1) (
  (go (.fn F.nat_product_1_2 [a1.v, .ptr (some h8r)]) q16.2).bind fun q18 =>
  ((some q18.1).bind AV.asSl).bind fun l19 =>
  whenK (SameAt q16.2 q18.2 a3 1) (
  (go (.fn F.nat_product_1_2 [a2.v, .ptr (some h8r)]) q18.2).bind fun q20 =>
  ((some q20.1).bind AV.asSl).bind fun l21 =>
  whenK (SameAt q18.2 q20.2 a3 1) (
  (callV Pg go v11 [l19.v, l21.v] q20.2).bind fun q22 =>
  ((some q22.1).bind AV.asSl).bind fun l23 =>
  (q22.2.cell a3).bind fun v24 =>
  (go (.fn F.nat_product_1_1 [a1.v, .ptr (some h8r)]) q22.2).bind fun q25 =>
  ((some q25.1).bind AV.asSl).bind fun l26 =>
  whenK (SameAt q22.2 q25.2 a3 1) (
  (go (.fn F.nat_product_1_2 [a1.v, .ptr (some h8r)]) q25.2).bind fun q27 =>
  ((some q27.1).bind AV.asSl).bind fun l28 =>
  whenK (SameAt q25.2 q27.2 a3 1) (
  (go (.fn F.nat_sum [l26.v, l28.v]) q27.2).bind fun q29 =>
  ((some q29.1).bind AV.asSl).bind fun l30 =>
  whenK (SameAt q27.2 q29.2 a3 1) (
  (go (.fn F.nat_trim [l30.v]) q29.2).bind fun q31 =>
  ((some q31.1).bind AV.asSl).bind fun l32 =>
  whenK (SameAt q29.2 q31.2 a3 1) (
  (go (.fn F.nat_product_1_1 [a2.v, .ptr (some h8r)]) q31.2).bind fun q33 =>
  ((some q33.1).bind AV.asSl).bind fun l34 =>
  whenK (SameAt q31.2 q33.2 a3 1) (
  (go (.fn F.nat_product_1_2 [a2.v, .ptr (some h8r)]) q33.2).bind fun q35 =>
  ((some q35.1).bind AV.asSl).bind fun l36 =>
  whenK (SameAt q33.2 q35.2 a3 1) (
  (go (.fn F.nat_sum [l34.v, l36.v]) q35.2).bind fun q37 =>
  ((some q37.1).bind AV.asSl).bind fun l38 =>
  whenK (SameAt q35.2 q37.2 a3 1) (
  (go (.fn F.nat_trim [l38.v]) q37.2).bind fun q39 =>
  ((some q39.1).bind AV.asSl).bind fun l40 =>
  whenK (SameAt q37.2 q39.2 a3 1) (
  (callV Pg go v24 [l32.v, l40.v] q39.2).bind fun q41 =>
  ((some q41.1).bind AV.asSl).bind fun l42 =>
  (go (.fn F.nat_less [l42.v, l17.v]) q41.2).bind fun q43 =>
  ((some q43.1).bind AV.asSl).bind fun l44 =>
  (go (.fn F.nat_trim [l44.v]) q43.2).bind fun q45 =>
  ((some q45.1).bind AV.asSl).bind fun l46 =>
  (go (.fn F.nat_less [l46.v, l23.v]) q45.2).bind fun q47 =>
  ((some q47.1).bind AV.asSl).bind fun l48 =>
  (go (.fn F.nat_trim [l48.v]) q47.2).bind fun q49 =>
  ((some q49.1).bind AV.asSl).bind fun l50 =>
  (makeSliceH (IntKind.wrap .i64 ((IntKind.wrap .i64 ((a1.len : Int) + (a2.len : Int))) + 1)) (IntKind.wrap .i64 ((IntKind.wrap .i64 ((a1.len : Int) + (a2.len : Int))) + 1)) T.uint64 (Pg.bytesOf T.uint64) [.int .u64 0] q49.2).bind fun q51 =>
  (copyH l17 q51.1 1 q51.2).bind fun h52 =>
  ((h52.cell h8r).bind (AV.asInt .i64)).bind fun n53 =>
  (go (.fn F.nat_into [q51.1.v, l50.v, .int .i64 n53]) h52).bind fun q54 =>
  (AV.asTup0 q54.1).bind fun _ =>
  ((q54.2.cell h8r).bind (AV.asInt .i64)).bind fun n55 =>
  (go (.fn F.nat_into [q51.1.v, l23.v, .int .i64 (IntKind.wrap .i64 (2 * n55))]) q54.2).bind fun q56 =>
  (AV.asTup0 q56.1).bind fun _ =>
  (go (.fn F.nat_trim [q51.1.v]) q56.2).bind fun q57 =>
  ((some q57.1).bind AV.asSl).bind fun l58 =>
  some (l58.v, q57.2)))))))))))))))))) := (go_step _ h).trans (by kernel_rfl)

theorem u_law08_few (a1 : Sl) (h : AH) : go (.fn F.law08_few [a1.v]) h =
  go (.pt F.law08_few Td.law08_few_2 [(0, a1.v), (3, .int .i64 0)]) h := (go_step _ h).trans (by kernel_rfl)

theorem u_law08_awake  (h : AH) : go (.fn F.law08_awake []) h =
  newK h (.cells [.int .u64 6] T.uint64) fun h1r h1 =>
  newK h1 (.cells [.int .u64 4] T.uint64) fun h2r h2 =>
  (go (.fn F.rational_Make [.agg [.bool false, (⟨some h1r, 1, .is 1⟩ : Sl).v], (⟨some h2r, 1, .is 1⟩ : Sl).v]) h2).bind fun q3 =>
  (AV.asTup2 q3.1).bind fun p4 =>
  (AV.asAgg p4.1).bind fun cs5 =>
  cond (Nat.beq cs5.length 3) (
  ((cs5[0]?).bind AV.asBool).bind fun b6 =>
  ((cs5[1]?).bind AV.asSl).bind fun l7 =>
  ((cs5[2]?).bind AV.asSl).bind fun l8 =>
  ((some p4.2).bind (AV.asInt .i64)).bind fun n9 =>
  newK q3.2 (.cells [.bool false, (⟨none, 0, .is 0⟩ : Sl).v, (⟨none, 0, .is 0⟩ : Sl).v] T.api_Frac) fun h10r h10 =>
  (h10.puts h10r [.bool b6, l7.v, l8.v]).bind fun h11 =>
  cond (decide (n9 = 0)) (
  ((h11.cell ((h10r.add 0).add 1)).bind AV.asSl).bind fun l12 =>
  cond (decide ((l12.len : Int) = 1)) (
  ((h11.cell ((h10r.add 0).add 1)).bind AV.asSl).bind fun l13 =>
  (idx l13.ref l13.len 0 1).bind fun r14 =>
  ((h11.cell r14).bind (AV.asInt .u64)).bind fun n15 =>
  cond (decide (n15 = 3)) (
  ((h11.cell (h10r.add 2)).bind AV.asSl).bind fun l16 =>
  cond (decide ((l16.len : Int) = 1)) (
  ((h11.cell (h10r.add 2)).bind AV.asSl).bind fun l17 =>
  (idx l17.ref l17.len 0 1).bind fun r18 =>
  ((h11.cell r18).bind (AV.asInt .u64)).bind fun n19 =>
  some (.bool (decide (n19 = 2)), h11)) (
  some (.bool false, h11))) (
  some (.bool false, h11))) (
  some (.bool false, h11))) (
  some (.bool false, h11))) none := (go_step _ h).trans (by kernel_rfl)

theorem u_rational_Make (a1 : Bool) (a2 : Sl) (a3 : Sl) (h : AH) : go (.fn F.rational_Make [.agg [.bool a1, a2.v], a3.v]) h =
  newK h (.cells [.bool a1, a2.v] T.api_Int) fun h4r h4 =>
  newK h4 (.cells [.bool false, (⟨none, 0, .is 0⟩ : Sl).v, (⟨none, 0, .is 0⟩ : Sl).v] T.api_Frac) fun h5r h5 =>
  ((h5.cell (h4r.add 0)).bind AV.asBool).bind fun b6 =>
  ((h5.cell (h4r.add 1)).bind AV.asSl).bind fun l7 =>
  (go (.fn F.modint_Right [.agg [.bool b6, l7.v]]) h5).bind fun q8 =>
  ((some q8.1).bind AV.asBool).bind fun b9 =>
  cond (!b9) (
  (q8.2.puts h5r [.bool false, (⟨none, 0, .is 0⟩ : Sl).v, (⟨none, 0, .is 0⟩ : Sl).v]).bind fun h10 =>
  ((h10.cell (h5r.add 0)).bind AV.asBool).bind fun b11 =>
  ((h10.cell (h5r.add 1)).bind AV.asSl).bind fun l12 =>
  ((h10.cell (h5r.add 2)).bind AV.asSl).bind fun l13 =>
  some (.tup [.agg [.bool b11, l12.v, l13.v], .int .i64 1], h10)) (
  (go (.fn F.nat_Right [a3.v]) q8.2).bind fun q14 =>
  ((some q14.1).bind AV.asBool).bind fun b15 =>
  cond (!b15) (
  (q14.2.puts h5r [.bool false, (⟨none, 0, .is 0⟩ : Sl).v, (⟨none, 0, .is 0⟩ : Sl).v]).bind fun h16 =>
  ((h16.cell (h5r.add 0)).bind AV.asBool).bind fun b17 =>
  ((h16.cell (h5r.add 1)).bind AV.asSl).bind fun l18 =>
  ((h16.cell (h5r.add 2)).bind AV.asSl).bind fun l19 =>
  some (.tup [.agg [.bool b17, l18.v, l19.v], .int .i64 1], h16)) (
  cond (decide ((a3.len : Int) = 0)) (
  (q14.2.puts h5r [.bool false, (⟨none, 0, .is 0⟩ : Sl).v, (⟨none, 0, .is 0⟩ : Sl).v]).bind fun h20 =>
  ((h20.cell (h5r.add 0)).bind AV.asBool).bind fun b21 =>
  ((h20.cell (h5r.add 1)).bind AV.asSl).bind fun l22 =>
  ((h20.cell (h5r.add 2)).bind AV.asSl).bind fun l23 =>
  some (.tup [.agg [.bool b21, l22.v, l23.v], .int .i64 3], h20)) (
  ((q14.2.cell (h4r.add 1)).bind AV.asSl).bind fun l24 =>
  (go (.fn F.modint_Gcd [l24.v, a3.v]) q14.2).bind fun q25 =>
  (AV.asTup2 q25.1).bind fun p26 =>
  ((some p26.1).bind AV.asSl).bind fun l27 =>
  ((some p26.2).bind (AV.asInt .i64)).bind fun n28 =>
  ((q25.2.cell (h4r.add 1)).bind AV.asSl).bind fun l29 =>
  (go (.fn F.nat_Div [l29.v, l27.v]) q25.2).bind fun q30 =>
  (AV.asTup3 q30.1).bind fun p31 =>
  ((some p31.1).bind AV.asSl).bind fun l32 =>
  ((some p31.2.1).bind AV.asSl).bind fun l33 =>
  ((some p31.2.2).bind (AV.asInt .i64)).bind fun n34 =>
  (go (.fn F.nat_Div [a3.v, l27.v]) q30.2).bind fun q35 =>
  (AV.asTup3 q35.1).bind fun p36 =>
  ((some p36.1).bind AV.asSl).bind fun l37 =>
  ((some p36.2.1).bind AV.asSl).bind fun l38 =>
  ((some p36.2.2).bind (AV.asInt .i64)).bind fun n39 =>
  cond (decide ((imax (l32.len : Int) (l37.len : Int)) > 16)) (
  (q35.2.puts h5r [.bool false, (⟨none, 0, .is 0⟩ : Sl).v, (⟨none, 0, .is 0⟩ : Sl).v]).bind fun h40 =>
  ((h40.cell (h5r.add 0)).bind AV.asBool).bind fun b41 =>
  ((h40.cell (h5r.add 1)).bind AV.asSl).bind fun l42 =>
  ((h40.cell (h5r.add 2)).bind AV.asSl).bind fun l43 =>
  some (.tup [.agg [.bool b41, l42.v, l43.v], .int .i64 4], h40)) (
  ((q35.2.cell (h4r.add 0)).bind AV.asBool).bind fun b44 =>
  (go (.fn F.modint_From [.bool b44, l32.v]) q35.2).bind fun q45 =>
  (AV.asAgg q45.1).bind fun cs46 =>
  cond (Nat.beq cs46.length 2) (
  ((cs46[0]?).bind AV.asBool).bind fun b47 =>
  ((cs46[1]?).bind AV.asSl).bind fun l48 =>
  (q45.2.puts h5r [.bool b47, l48.v, l37.v]).bind fun h49 =>
  ((h49.cell (h5r.add 0)).bind AV.asBool).bind fun b50 =>
  ((h49.cell (h5r.add 1)).bind AV.asSl).bind fun l51 =>
  ((h49.cell (h5r.add 2)).bind AV.asSl).bind fun l52 =>
  some (.tup [.agg [.bool b50, l51.v, l52.v], .int .i64 0], h49)) none)))) := (go_step _ h).trans (by kernel_rfl)

theorem u_ref08_Make (a1 : Bool) (a2 : Sl) (a3 : Sl) (h : AH) : go (.fn F.ref08_Make [.agg [.bool a1, a2.v], a3.v]) h =
  newK h (.cells [.bool a1, a2.v] T.api_Int) fun h4r h4 =>
  newK h4 (.cells [.bool false, (⟨none, 0, .is 0⟩ : Sl).v, (⟨none, 0, .is 0⟩ : Sl).v] T.api_Frac) fun h5r h5 =>
  ((h5.cell (h4r.add 0)).bind AV.asBool).bind fun b6 =>
  ((h5.cell (h4r.add 1)).bind AV.asSl).bind fun l7 =>
  (go (.fn F.ref03_Right [.agg [.bool b6, l7.v]]) h5).bind fun q8 =>
  ((some q8.1).bind AV.asBool).bind fun b9 =>
  (go (.fn F.ref01_Right [a3.v]) q8.2).bind fun q10 =>
  ((some q10.1).bind AV.asBool).bind fun b11 =>
  cond (!b9) (
  (q10.2.puts h5r [.bool false, (⟨none, 0, .is 0⟩ : Sl).v, (⟨none, 0, .is 0⟩ : Sl).v]).bind fun h12 =>
  ((h12.cell (h5r.add 0)).bind AV.asBool).bind fun b13 =>
  ((h12.cell (h5r.add 1)).bind AV.asSl).bind fun l14 =>
  ((h12.cell (h5r.add 2)).bind AV.asSl).bind fun l15 =>
  some (.tup [.agg [.bool b13, l14.v, l15.v], .int .i64 1], h12)) (
  cond (!b11) (
  (q10.2.puts h5r [.bool false, (⟨none, 0, .is 0⟩ : Sl).v, (⟨none, 0, .is 0⟩ : Sl).v]).bind fun h16 =>
  ((h16.cell (h5r.add 0)).bind AV.asBool).bind fun b17 =>
  ((h16.cell (h5r.add 1)).bind AV.asSl).bind fun l18 =>
  ((h16.cell (h5r.add 2)).bind AV.asSl).bind fun l19 =>
  some (.tup [.agg [.bool b17, l18.v, l19.v], .int .i64 1], h16)) (
  cond (decide ((a3.len : Int) = 0)) (
  (q10.2.puts h5r [.bool false, (⟨none, 0, .is 0⟩ : Sl).v, (⟨none, 0, .is 0⟩ : Sl).v]).bind fun h20 =>
  ((h20.cell (h5r.add 0)).bind AV.asBool).bind fun b21 =>
  ((h20.cell (h5r.add 1)).bind AV.asSl).bind fun l22 =>
  ((h20.cell (h5r.add 2)).bind AV.asSl).bind fun l23 =>
  some (.tup [.agg [.bool b21, l22.v, l23.v], .int .i64 3], h20)) (
  ((q10.2.cell (h4r.add 1)).bind AV.asSl).bind fun l24 =>
  (go (.fn F.ref03_Gcd [l24.v, a3.v]) q10.2).bind fun q25 =>
  (AV.asTup2 q25.1).bind fun p26 =>
  ((some p26.1).bind AV.asSl).bind fun l27 =>
  ((some p26.2).bind (AV.asInt .i64)).bind fun n28 =>
  ((q25.2.cell (h4r.add 1)).bind AV.asSl).bind fun l29 =>
  (go (.fn F.ref01_Div [l29.v, l27.v]) q25.2).bind fun q30 =>
  (AV.asTup3 q30.1).bind fun p31 =>
  ((some p31.1).bind AV.asSl).bind fun l32 =>
  ((some p31.2.1).bind AV.asSl).bind fun l33 =>
  ((some p31.2.2).bind (AV.asInt .i64)).bind fun n34 =>
  (go (.fn F.ref01_Div [a3.v, l27.v]) q30.2).bind fun q35 =>
  (AV.asTup3 q35.1).bind fun p36 =>
  ((some p36.1).bind AV.asSl).bind fun l37 =>
  ((some p36.2.1).bind AV.asSl).bind fun l38 =>
  ((some p36.2.2).bind (AV.asInt .i64)).bind fun n39 =>
  cond (decide ((l32.len : Int) > 16)) (
  (q35.2.puts h5r [.bool false, (⟨none, 0, .is 0⟩ : Sl).v, (⟨none, 0, .is 0⟩ : Sl).v]).bind fun h40 =>
  ((h40.cell (h5r.add 0)).bind AV.asBool).bind fun b41 =>
  ((h40.cell (h5r.add 1)).bind AV.asSl).bind fun l42 =>
  ((h40.cell (h5r.add 2)).bind AV.asSl).bind fun l43 =>
  some (.tup [.agg [.bool b41, l42.v, l43.v], .int .i64 4], h40)) (
  cond (decide ((l37.len : Int) > 16)) (
  (q35.2.puts h5r [.bool false, (⟨none, 0, .is 0⟩ : Sl).v, (⟨none, 0, .is 0⟩ : Sl).v]).bind fun h44 =>
  ((h44.cell (h5r.add 0)).bind AV.asBool).bind fun b45 =>
  ((h44.cell (h5r.add 1)).bind AV.asSl).bind fun l46 =>
  ((h44.cell (h5r.add 2)).bind AV.asSl).bind fun l47 =>
  some (.tup [.agg [.bool b45, l46.v, l47.v], .int .i64 4], h44)) (
  ((q35.2.cell (h4r.add 0)).bind AV.asBool).bind fun b48 =>
  (go (.fn F.ref03_From [.bool b48, l32.v]) q35.2).bind fun q49 =>
  (AV.asAgg q49.1).bind fun cs50 =>
  cond (Nat.beq cs50.length 2) (
  ((cs50[0]?).bind AV.asBool).bind fun b51 =>
  ((cs50[1]?).bind AV.asSl).bind fun l52 =>
  (q49.2.puts h5r [.bool b51, l52.v, l37.v]).bind fun h53 =>
  ((h53.cell (h5r.add 0)).bind AV.asBool).bind fun b54 =>
  ((h53.cell (h5r.add 1)).bind AV.asSl).bind fun l55 =>
  ((h53.cell (h5r.add 2)).bind AV.asSl).bind fun l56 =>
  some (.tup [.agg [.bool b54, l55.v, l56.v], .int .i64 0], h53)) none))))) := (go_step _ h).trans (by kernel_rfl)

theorem u_ref08_Same (a1 : Bool) (a2 : Sl) (a3 : Sl) (a4 : Bool) (a5 : Sl) (a6 : Sl) (h : AH) : go (.fn F.ref08_Same [.agg [.bool a1, a2.v, a3.v], .agg [.bool a4, a5.v, a6.v]]) h =
  newK h (.cells [.bool a1, a2.v, a3.v] T.api_Frac) fun h7r h7 =>
  newK h7 (.cells [.bool a4, a5.v, a6.v] T.api_Frac) fun h8r h8 =>
  ((h8.cell ((h7r.add 0).add 0)).bind AV.asBool).bind fun b9 =>
  ((h8.cell ((h7r.add 0).add 1)).bind AV.asSl).bind fun l10 =>
  ((h8.cell ((h8r.add 0).add 0)).bind AV.asBool).bind fun b11 =>
  ((h8.cell ((h8r.add 0).add 1)).bind AV.asSl).bind fun l12 =>
  (go (.fn F.ref03_Same [.agg [.bool b9, l10.v], .agg [.bool b11, l12.v]]) h8).bind fun q13 =>
  ((some q13.1).bind AV.asBool).bind fun b14 =>
  ((q13.2.cell (h7r.add 2)).bind AV.asSl).bind fun l15 =>
  ((q13.2.cell (h8r.add 2)).bind AV.asSl).bind fun l16 =>
  (go (.fn F.ref01_Same [l15.v, l16.v]) q13.2).bind fun q17 =>
  ((some q17.1).bind AV.asBool).bind fun b18 =>
  cond b14 (
  some (.bool b18, q17.2)) (
  some (.bool false, q17.2)) := (go_step _ h).trans (by kernel_rfl)

theorem u_rational_Right (a1 : Bool) (a2 : Sl) (a3 : Sl) (h : AH) : go (.fn F.rational_Right [.agg [.bool a1, a2.v, a3.v]]) h =
  newK h (.cells [.bool a1, a2.v, a3.v] T.api_Frac) fun h4r h4 =>
  ((h4.cell ((h4r.add 0).add 0)).bind AV.asBool).bind fun b5 =>
  ((h4.cell ((h4r.add 0).add 1)).bind AV.asSl).bind fun l6 =>
  (go (.fn F.modint_Right [.agg [.bool b5, l6.v]]) h4).bind fun q7 =>
  ((some q7.1).bind AV.asBool).bind fun b8 =>
  cond (!b8) (
  some (.bool false, q7.2)) (
  ((q7.2.cell (h4r.add 2)).bind AV.asSl).bind fun l9 =>
  (go (.fn F.nat_Right [l9.v]) q7.2).bind fun q10 =>
  ((some q10.1).bind AV.asBool).bind fun b11 =>
  cond (!b11) (
  some (.bool false, q10.2)) (
  ((q10.2.cell (h4r.add 2)).bind AV.asSl).bind fun l12 =>
  cond (decide ((l12.len : Int) = 0)) (
  some (.bool false, q10.2)) (
  ((q10.2.cell (h4r.add 2)).bind AV.asSl).bind fun l13 =>
  cond (decide ((l13.len : Int) > 16)) (
  some (.bool false, q10.2)) (
  ((q10.2.cell ((h4r.add 0).add 1)).bind AV.asSl).bind fun l14 =>
  cond (decide ((l14.len : Int) > 16)) (
  some (.bool false, q10.2)) (
  ((q10.2.cell ((h4r.add 0).add 1)).bind AV.asSl).bind fun l15 =>
  ((q10.2.cell (h4r.add 2)).bind AV.asSl).bind fun l16 =>
  (go (.fn F.modint_Gcd [l15.v, l16.v]) q10.2).bind fun q17 =>
  (AV.asTup2 q17.1).bind fun p18 =>
  ((some p18.1).bind AV.asSl).bind fun l19 =>
  ((some p18.2).bind (AV.asInt .i64)).bind fun n20 =>
  newK q17.2 (.cells [.int .u64 1] T.uint64) fun h21r h21 =>
  (go (.fn F.nat_Cmp [l19.v, (⟨some h21r, 1, .is 1⟩ : Sl).v]) h21).bind fun q22 =>
  ((some q22.1).bind (AV.asInt .i64)).bind fun n23 =>
  some (.bool (decide (n23 = 0)), q22.2)))))) := (go_step _ h).trans (by kernel_rfl)

theorem u_ref08_Right (a1 : Bool) (a2 : Sl) (a3 : Sl) (h : AH) : go (.fn F.ref08_Right [.agg [.bool a1, a2.v, a3.v]]) h =
  newK h (.cells [.bool a1, a2.v, a3.v] T.api_Frac) fun h4r h4 =>
  ((h4.cell ((h4r.add 0).add 0)).bind AV.asBool).bind fun b5 =>
  ((h4.cell ((h4r.add 0).add 1)).bind AV.asSl).bind fun l6 =>
  (go (.fn F.ref03_Right [.agg [.bool b5, l6.v]]) h4).bind fun q7 =>
  ((some q7.1).bind AV.asBool).bind fun b8 =>
  ((q7.2.cell (h4r.add 2)).bind AV.asSl).bind fun l9 =>
  (go (.fn F.ref01_Right [l9.v]) q7.2).bind fun q10 =>
  ((some q10.1).bind AV.asBool).bind fun b11 =>
  cond (!b8) (
  some (.bool false, q10.2)) (
  cond (!b11) (
  some (.bool false, q10.2)) (
  ((q10.2.cell (h4r.add 2)).bind AV.asSl).bind fun l12 =>
  cond (decide ((l12.len : Int) = 0)) (
  some (.bool false, q10.2)) (
  ((q10.2.cell (h4r.add 2)).bind AV.asSl).bind fun l13 =>
  cond (decide ((l13.len : Int) > 16)) (
  some (.bool false, q10.2)) (
  ((q10.2.cell ((h4r.add 0).add 1)).bind AV.asSl).bind fun l14 =>
  cond (decide ((l14.len : Int) > 16)) (
  some (.bool false, q10.2)) (
  ((q10.2.cell ((h4r.add 0).add 1)).bind AV.asSl).bind fun l15 =>
  ((q10.2.cell (h4r.add 2)).bind AV.asSl).bind fun l16 =>
  (go (.fn F.ref03_Gcd [l15.v, l16.v]) q10.2).bind fun q17 =>
  (AV.asTup2 q17.1).bind fun p18 =>
  ((some p18.1).bind AV.asSl).bind fun l19 =>
  ((some p18.2).bind (AV.asInt .i64)).bind fun n20 =>
  (go (.fn F.ref01_Of [.int .u64 1]) q17.2).bind fun q21 =>
  ((some q21.1).bind AV.asSl).bind fun l22 =>
  (go (.fn F.ref01_Cmp [l19.v, l22.v]) q21.2).bind fun q23 =>
  ((some q23.1).bind (AV.asInt .i64)).bind fun n24 =>
  some (.bool (decide (n24 = 0)), q23.2)))))) := (go_step _ h).trans (by kernel_rfl)

theorem u_rational_Add (a1 : Bool) (a2 : Sl) (a3 : Sl) (a4 : Bool) (a5 : Sl) (a6 : Sl) (h : AH) : go (.fn F.rational_Add [.agg [.bool a1, a2.v, a3.v], .agg [.bool a4, a5.v, a6.v]]) h =
  newK h (.cells [.bool a1, a2.v, a3.v] T.api_Frac) fun h7r h7 =>
  newK h7 (.cells [.bool a4, a5.v, a6.v] T.api_Frac) fun h8r h8 =>
  newK h8 (.cells [.bool false, (⟨none, 0, .is 0⟩ : Sl).v, (⟨none, 0, .is 0⟩ : Sl).v] T.api_Frac) fun h9r h9 =>
  ((h9.cell (h7r.add 0)).bind AV.asBool).bind fun b10 =>
  ((h9.cell (h7r.add 1)).bind AV.asSl).bind fun l11 =>
  ((h9.cell (h7r.add 2)).bind AV.asSl).bind fun l12 =>
  ((h9.cell (h8r.add 0)).bind AV.asBool).bind fun b13 =>
  ((h9.cell (h8r.add 1)).bind AV.asSl).bind fun l14 =>
  ((h9.cell (h8r.add 2)).bind AV.asSl).bind fun l15 =>
  (go (.fn F.rational_both [.agg [.bool b10, l11.v, l12.v], .agg [.bool b13, l14.v, l15.v], .func (.func F.modint_Add) [] []]) h9).bind fun q16 =>
  (AV.asTup2 q16.1).bind fun p17 =>
  (AV.asAgg p17.1).bind fun cs18 =>
  cond (Nat.beq cs18.length 3) (
  ((cs18[0]?).bind AV.asBool).bind fun b19 =>
  ((cs18[1]?).bind AV.asSl).bind fun l20 =>
  ((cs18[2]?).bind AV.asSl).bind fun l21 =>
  ((some p17.2).bind (AV.asInt .i64)).bind fun n22 =>
  (q16.2.puts h9r [.bool b19, l20.v, l21.v]).bind fun h23 =>
  ((h23.cell (h9r.add 0)).bind AV.asBool).bind fun b24 =>
  ((h23.cell (h9r.add 1)).bind AV.asSl).bind fun l25 =>
  ((h23.cell (h9r.add 2)).bind AV.asSl).bind fun l26 =>
  some (.tup [.agg [.bool b24, l25.v, l26.v], .int .i64 n22], h23)) none := (go_step _ h).trans (by kernel_rfl)

theorem u_ref08_Add (a1 : Bool) (a2 : Sl) (a3 : Sl) (a4 : Bool) (a5 : Sl) (a6 : Sl) (h : AH) : go (.fn F.ref08_Add [.agg [.bool a1, a2.v, a3.v], .agg [.bool a4, a5.v, a6.v]]) h =
  newK h (.cells [.bool a1, a2.v, a3.v] T.api_Frac) fun h7r h7 =>
  newK h7 (.cells [.bool a4, a5.v, a6.v] T.api_Frac) fun h8r h8 =>
  newK h8 (.cells [.bool false, (⟨none, 0, .is 0⟩ : Sl).v, (⟨none, 0, .is 0⟩ : Sl).v] T.api_Frac) fun h9r h9 =>
  ((h9.cell (h7r.add 0)).bind AV.asBool).bind fun b10 =>
  ((h9.cell (h7r.add 1)).bind AV.asSl).bind fun l11 =>
  ((h9.cell (h7r.add 2)).bind AV.asSl).bind fun l12 =>
  (go (.fn F.ref08_Right [.agg [.bool b10, l11.v, l12.v]]) h9).bind fun q13 =>
  ((some q13.1).bind AV.asBool).bind fun b14 =>
  ((q13.2.cell (h8r.add 0)).bind AV.asBool).bind fun b15 =>
  ((q13.2.cell (h8r.add 1)).bind AV.asSl).bind fun l16 =>
  ((q13.2.cell (h8r.add 2)).bind AV.asSl).bind fun l17 =>
  (go (.fn F.ref08_Right [.agg [.bool b15, l16.v, l17.v]]) q13.2).bind fun q18 =>
  ((some q18.1).bind AV.asBool).bind fun b19 =>
  cond (!b14) (
  (q18.2.puts h9r [.bool false, (⟨none, 0, .is 0⟩ : Sl).v, (⟨none, 0, .is 0⟩ : Sl).v]).bind fun h20 =>
  ((h20.cell (h9r.add 0)).bind AV.asBool).bind fun b21 =>
  ((h20.cell (h9r.add 1)).bind AV.asSl).bind fun l22 =>
  ((h20.cell (h9r.add 2)).bind AV.asSl).bind fun l23 =>
  some (.tup [.agg [.bool b21, l22.v, l23.v], .int .i64 1], h20)) (
  cond (!b19) (
  (q18.2.puts h9r [.bool false, (⟨none, 0, .is 0⟩ : Sl).v, (⟨none, 0, .is 0⟩ : Sl).v]).bind fun h24 =>
  ((h24.cell (h9r.add 0)).bind AV.asBool).bind fun b25 =>
  ((h24.cell (h9r.add 1)).bind AV.asSl).bind fun l26 =>
  ((h24.cell (h9r.add 2)).bind AV.asSl).bind fun l27 =>
  some (.tup [.agg [.bool b25, l26.v, l27.v], .int .i64 1], h24)) (
  newK q18.2 (.cells [.bool false, (⟨none, 0, .is 0⟩ : Sl).v] T.api_Int) fun h28r h28 =>
  ((h28.cell (h7r.add 0)).bind AV.asBool).bind fun b29 =>
  ((h28.cell (h7r.add 1)).bind AV.asSl).bind fun l30 =>
  ((h28.cell (h7r.add 2)).bind AV.asSl).bind fun l31 =>
  ((h28.cell (h8r.add 0)).bind AV.asBool).bind fun b32 =>
  ((h28.cell (h8r.add 1)).bind AV.asSl).bind fun l33 =>
  ((h28.cell (h8r.add 2)).bind AV.asSl).bind fun l34 =>
  ((h28.cell (h8r.add 0)).bind AV.asBool).bind fun b35 =>
  ((h28.cell (h8r.add 1)).bind AV.asSl).bind fun l36 =>
  ((h28.cell (h8r.add 2)).bind AV.asSl).bind fun l37 =>
  ((h28.cell (h7r.add 0)).bind AV.asBool).bind fun b38 =>
  ((h28.cell (h7r.add 1)).bind AV.asSl).bind fun l39 =>
  ((h28.cell (h7r.add 2)).bind AV.asSl).bind fun l40 =>
  (go (.fn F.ref08_over [.agg [.bool b29, l30.v, l31.v], .agg [.bool b32, l33.v, l34.v]]) h28).bind fun q41 =>
  (AV.asAgg q41.1).bind fun cs42 =>
  cond (Nat.beq cs42.length 2) (
  ((cs42[0]?).bind AV.asBool).bind fun b43 =>
  ((cs42[1]?).bind AV.asSl).bind fun l44 =>
  whenK (SameAt h28 q41.2 h7r 3) (
  whenK (SameAt h28 q41.2 h8r 3) (
  whenK (SameAt h28 q41.2 h28r 0) (
  (go (.fn F.ref08_over [.agg [.bool b35, l36.v, l37.v], .agg [.bool b38, l39.v, l40.v]]) q41.2).bind fun q45 =>
  (AV.asAgg q45.1).bind fun cs46 =>
  cond (Nat.beq cs46.length 2) (
  ((cs46[0]?).bind AV.asBool).bind fun b47 =>
  ((cs46[1]?).bind AV.asSl).bind fun l48 =>
  whenK (SameAt q41.2 q45.2 h28r 0) (
  (go (.fn F.ref03_Add [.agg [.bool b43, l44.v], .agg [.bool b47, l48.v]]) q45.2).bind fun q49 =>
  (AV.asTup2 q49.1).bind fun p50 =>
  (AV.asAgg p50.1).bind fun cs51 =>
  cond (Nat.beq cs51.length 2) (
  ((cs51[0]?).bind AV.asBool).bind fun b52 =>
  ((cs51[1]?).bind AV.asSl).bind fun l53 =>
  ((some p50.2).bind (AV.asInt .i64)).bind fun n54 =>
  whenK (SameAt q45.2 q49.2 h28r 0) (
  (q49.2.puts h28r [.bool b52, l53.v]).bind fun h55 =>
  ((h55.cell (h7r.add 2)).bind AV.asSl).bind fun l56 =>
  ((h55.cell (h8r.add 2)).bind AV.asSl).bind fun l57 =>
  (go (.fn F.ref01_Mul [l56.v, l57.v]) h55).bind fun q58 =>
  (AV.asTup2 q58.1).bind fun p59 =>
  ((some p59.1).bind AV.asSl).bind fun l60 =>
  ((some p59.2).bind (AV.asInt .i64)).bind fun n61 =>
  ((q58.2.cell (h28r.add 0)).bind AV.asBool).bind fun b62 =>
  ((q58.2.cell (h28r.add 1)).bind AV.asSl).bind fun l63 =>
  (go (.fn F.ref08_Make [.agg [.bool b62, l63.v], l60.v]) q58.2).bind fun q64 =>
  (AV.asTup2 q64.1).bind fun p65 =>
  (AV.asAgg p65.1).bind fun cs66 =>
  cond (Nat.beq cs66.length 3) (
  ((cs66[0]?).bind AV.asBool).bind fun b67 =>
  ((cs66[1]?).bind AV.asSl).bind fun l68 =>
  ((cs66[2]?).bind AV.asSl).bind fun l69 =>
  ((some p65.2).bind (AV.asInt .i64)).bind fun n70 =>
  (q64.2.puts h9r [.bool b67, l68.v, l69.v]).bind fun h71 =>
  ((h71.cell (h9r.add 0)).bind AV.asBool).bind fun b72 =>
  ((h71.cell (h9r.add 1)).bind AV.asSl).bind fun l73 =>
  ((h71.cell (h9r.add 2)).bind AV.asSl).bind fun l74 =>
  some (.tup [.agg [.bool b72, l73.v, l74.v], .int .i64 n70], h71)) none)) none)) none)))) none)) := (go_step _ h).trans (by kernel_rfl)

theorem u_rational_Sub (a1 : Bool) (a2 : Sl) (a3 : Sl) (a4 : Bool) (a5 : Sl) (a6 : Sl) (h : AH) : go (.fn F.rational_Sub [.agg [.bool a1, a2.v, a3.v], .agg [.bool a4, a5.v, a6.v]]) h =
  newK h (.cells [.bool a1, a2.v, a3.v] T.api_Frac) fun h7r h7 =>
  newK h7 (.cells [.bool a4, a5.v, a6.v] T.api_Frac) fun h8r h8 =>
  newK h8 (.cells [.bool false, (⟨none, 0, .is 0⟩ : Sl).v, (⟨none, 0, .is 0⟩ : Sl).v] T.api_Frac) fun h9r h9 =>
  ((h9.cell (h7r.add 0)).bind AV.asBool).bind fun b10 =>
  ((h9.cell (h7r.add 1)).bind AV.asSl).bind fun l11 =>
  ((h9.cell (h7r.add 2)).bind AV.asSl).bind fun l12 =>
  ((h9.cell (h8r.add 0)).bind AV.asBool).bind fun b13 =>
  ((h9.cell (h8r.add 1)).bind AV.asSl).bind fun l14 =>
  ((h9.cell (h8r.add 2)).bind AV.asSl).bind fun l15 =>
  (go (.fn F.rational_both [.agg [.bool b10, l11.v, l12.v], .agg [.bool b13, l14.v, l15.v], .func (.func F.modint_Sub) [] []]) h9).bind fun q16 =>
  (AV.asTup2 q16.1).bind fun p17 =>
  (AV.asAgg p17.1).bind fun cs18 =>
  cond (Nat.beq cs18.length 3) (
  ((cs18[0]?).bind AV.asBool).bind fun b19 =>
  ((cs18[1]?).bind AV.asSl).bind fun l20 =>
  ((cs18[2]?).bind AV.asSl).bind fun l21 =>
  ((some p17.2).bind (AV.asInt .i64)).bind fun n22 =>
  (q16.2.puts h9r [.bool b19, l20.v, l21.v]).bind fun h23 =>
  ((h23.cell (h9r.add 0)).bind AV.asBool).bind fun b24 =>
  ((h23.cell (h9r.add 1)).bind AV.asSl).bind fun l25 =>
  ((h23.cell (h9r.add 2)).bind AV.asSl).bind fun l26 =>
  some (.tup [.agg [.bool b24, l25.v, l26.v], .int .i64 n22], h23)) none := (go_step _ h).trans (by kernel_rfl)

theorem u_ref08_Sub (a1 : Bool) (a2 : Sl) (a3 : Sl) (a4 : Bool) (a5 : Sl) (a6 : Sl) (h : AH) : go (.fn F.ref08_Sub [.agg [.bool a1, a2.v, a3.v], .agg [.bool a4, a5.v, a6.v]]) h =
  newK h (.cells [.bool a1, a2.v, a3.v] T.api_Frac) fun h7r h7 =>
  newK h7 (.cells [.bool a4, a5.v, a6.v] T.api_Frac) fun h8r h8 =>
  newK h8 (.cells [.bool false, (⟨none, 0, .is 0⟩ : Sl).v, (⟨none, 0, .is 0⟩ : Sl).v] T.api_Frac) fun h9r h9 =>
  ((h9.cell (h7r.add 0)).bind AV.asBool).bind fun b10 =>
  ((h9.cell (h7r.add 1)).bind AV.asSl).bind fun l11 =>
  ((h9.cell (h7r.add 2)).bind AV.asSl).bind fun l12 =>
  (go (.fn F.ref08_Right [.agg [.bool b10, l11.v, l12.v]]) h9).bind fun q13 =>
  ((some q13.1).bind AV.asBool).bind fun b14 =>
  ((q13.2.cell (h8r.add 0)).bind AV.asBool).bind fun b15 =>
  ((q13.2.cell (h8r.add 1)).bind AV.asSl).bind fun l16 =>
  ((q13.2.cell (h8r.add 2)).bind AV.asSl).bind fun l17 =>
  (go (.fn F.ref08_Right [.agg [.bool b15, l16.v, l17.v]]) q13.2).bind fun q18 =>
  ((some q18.1).bind AV.asBool).bind fun b19 =>
  cond (!b14) (
  (q18.2.puts h9r [.bool false, (⟨none, 0, .is 0⟩ : Sl).v, (⟨none, 0, .is 0⟩ : Sl).v]).bind fun h20 =>
  ((h20.cell (h9r.add 0)).bind AV.asBool).bind fun b21 =>
  ((h20.cell (h9r.add 1)).bind AV.asSl).bind fun l22 =>
  ((h20.cell (h9r.add 2)).bind AV.asSl).bind fun l23 =>
  some (.tup [.agg [.bool b21, l22.v, l23.v], .int .i64 1], h20)) (
  cond (!b19) (
  (q18.2.puts h9r [.bool false, (⟨none, 0, .is 0⟩ : Sl).v, (⟨none, 0, .is 0⟩ : Sl).v]).bind fun h24 =>
  ((h24.cell (h9r.add 0)).bind AV.asBool).bind fun b25 =>
  ((h24.cell (h9r.add 1)).bind AV.asSl).bind fun l26 =>
  ((h24.cell (h9r.add 2)).bind AV.asSl).bind fun l27 =>
  some (.tup [.agg [.bool b25, l26.v, l27.v], .int .i64 1], h24)) (
  ((q18.2.cell (h7r.add 0)).bind AV.asBool).bind fun b28 =>
  ((q18.2.cell (h7r.add 1)).bind AV.asSl).bind fun l29 =>
  ((q18.2.cell (h7r.add 2)).bind AV.asSl).bind fun l30 =>
  ((q18.2.cell ((h8r.add 0).add 0)).bind AV.asBool).bind fun b31 =>
  ((q18.2.cell ((h8r.add 0).add 1)).bind AV.asSl).bind fun l32 =>
  ((q18.2.cell (h8r.add 2)).bind AV.asSl).bind fun l33 =>
  (go (.fn F.ref03_Neg [.agg [.bool b31, l32.v]]) q18.2).bind fun q34 =>
  (AV.asAgg q34.1).bind fun cs35 =>
  cond (Nat.beq cs35.length 2) (
  ((cs35[0]?).bind AV.asBool).bind fun b36 =>
  ((cs35[1]?).bind AV.asSl).bind fun l37 =>
  whenK (SameAt q18.2 q34.2 (h8r.add 2) 1) (
  whenK (SameAt q18.2 q34.2 h7r 3) (
  (go (.fn F.ref08_Add [.agg [.bool b28, l29.v, l30.v], .agg [.bool b36, l37.v, l33.v]]) q34.2).bind fun q38 =>
  (AV.asTup2 q38.1).bind fun p39 =>
  (AV.asAgg p39.1).bind fun cs40 =>
  cond (Nat.beq cs40.length 3) (
  ((cs40[0]?).bind AV.asBool).bind fun b41 =>
  ((cs40[1]?).bind AV.asSl).bind fun l42 =>
  ((cs40[2]?).bind AV.asSl).bind fun l43 =>
  ((some p39.2).bind (AV.asInt .i64)).bind fun n44 =>
  (q38.2.puts h9r [.bool b41, l42.v, l43.v]).bind fun h45 =>
  ((h45.cell (h9r.add 0)).bind AV.asBool).bind fun b46 =>
  ((h45.cell (h9r.add 1)).bind AV.asSl).bind fun l47 =>
  ((h45.cell (h9r.add 2)).bind AV.asSl).bind fun l48 =>
  some (.tup [.agg [.bool b46, l47.v, l48.v], .int .i64 n44], h45)) none))) none)) := (go_step _ h).trans (by kernel_rfl)

theorem u_rational_Mul (a1 : Bool) (a2 : Sl) (a3 : Sl) (a4 : Bool) (a5 : Sl) (a6 : Sl) (h : AH) : go (.fn F.rational_Mul [.agg [.bool a1, a2.v, a3.v], .agg [.bool a4, a5.v, a6.v]]) h =
  newK h (.cells [.bool a1, a2.v, a3.v] T.api_Frac) fun h7r h7 =>
  newK h7 (.cells [.bool a4, a5.v, a6.v] T.api_Frac) fun h8r h8 =>
  newK h8 (.cells [.bool false, (⟨none, 0, .is 0⟩ : Sl).v, (⟨none, 0, .is 0⟩ : Sl).v] T.api_Frac) fun h9r h9 =>
  ((h9.cell (h7r.add 0)).bind AV.asBool).bind fun b10 =>
  ((h9.cell (h7r.add 1)).bind AV.asSl).bind fun l11 =>
  ((h9.cell (h7r.add 2)).bind AV.asSl).bind fun l12 =>
  ((h9.cell (h8r.add 0)).bind AV.asBool).bind fun b13 =>
  ((h9.cell (h8r.add 1)).bind AV.asSl).bind fun l14 =>
  ((h9.cell (h8r.add 2)).bind AV.asSl).bind fun l15 =>
  newK h9 (.cells [.bool b10, l11.v, l12.v, .bool b13, l14.v, l15.v] T.api_Frac) fun h16r h16 =>
  (go (.fn F.rational_right [(⟨some h16r, 2, .is 2⟩ : Sl).v]) h16).bind fun q17 =>
  ((some q17.1).bind AV.asBool).bind fun b18 =>
  cond (!b18) (
  (q17.2.puts h9r [.bool false, (⟨none, 0, .is 0⟩ : Sl).v, (⟨none, 0, .is 0⟩ : Sl).v]).bind fun h19 =>
  ((h19.cell (h9r.add 0)).bind AV.asBool).bind fun b20 =>
  ((h19.cell (h9r.add 1)).bind AV.asSl).bind fun l21 =>
  ((h19.cell (h9r.add 2)).bind AV.asSl).bind fun l22 =>
  some (.tup [.agg [.bool b20, l21.v, l22.v], .int .i64 1], h19)) (
  ((q17.2.cell ((h7r.add 0).add 0)).bind AV.asBool).bind fun b23 =>
  ((q17.2.cell ((h7r.add 0).add 1)).bind AV.asSl).bind fun l24 =>
  ((q17.2.cell ((h8r.add 0).add 0)).bind AV.asBool).bind fun b25 =>
  ((q17.2.cell ((h8r.add 0).add 1)).bind AV.asSl).bind fun l26 =>
  (go (.fn F.modint_Mul [.agg [.bool b23, l24.v], .agg [.bool b25, l26.v]]) q17.2).bind fun q27 =>
  (AV.asTup2 q27.1).bind fun p28 =>
  (AV.asAgg p28.1).bind fun cs29 =>
  cond (Nat.beq cs29.length 2) (
  ((cs29[0]?).bind AV.asBool).bind fun b30 =>
  ((cs29[1]?).bind AV.asSl).bind fun l31 =>
  ((some p28.2).bind (AV.asInt .i64)).bind fun n32 =>
  newK q27.2 (.cells [.bool false, (⟨none, 0, .is 0⟩ : Sl).v] T.api_Int) fun h33r h33 =>
  (h33.puts h33r [.bool b30, l31.v]).bind fun h34 =>
  ((h34.cell (h7r.add 2)).bind AV.asSl).bind fun l35 =>
  ((h34.cell (h8r.add 2)).bind AV.asSl).bind fun l36 =>
  (go (.fn F.nat_Mul [l35.v, l36.v]) h34).bind fun q37 =>
  (AV.asTup2 q37.1).bind fun p38 =>
  ((some p38.1).bind AV.asSl).bind fun l39 =>
  ((some p38.2).bind (AV.asInt .i64)).bind fun n40 =>
  ((q37.2.cell (h33r.add 0)).bind AV.asBool).bind fun b41 =>
  ((q37.2.cell (h33r.add 1)).bind AV.asSl).bind fun l42 =>
  (go (.fn F.rational_Make [.agg [.bool b41, l42.v], l39.v]) q37.2).bind fun q43 =>
  (AV.asTup2 q43.1).bind fun p44 =>
  (AV.asAgg p44.1).bind fun cs45 =>
  cond (Nat.beq cs45.length 3) (
  ((cs45[0]?).bind AV.asBool).bind fun b46 =>
  ((cs45[1]?).bind AV.asSl).bind fun l47 =>
  ((cs45[2]?).bind AV.asSl).bind fun l48 =>
  ((some p44.2).bind (AV.asInt .i64)).bind fun n49 =>
  (q43.2.puts h9r [.bool b46, l47.v, l48.v]).bind fun h50 =>
  ((h50.cell (h9r.add 0)).bind AV.asBool).bind fun b51 =>
  ((h50.cell (h9r.add 1)).bind AV.asSl).bind fun l52 =>
  ((h50.cell (h9r.add 2)).bind AV.asSl).bind fun l53 =>
  some (.tup [.agg [.bool b51, l52.v, l53.v], .int .i64 n49], h50)) none) none) := (go_step _ h).trans (by kernel_rfl)

theorem u_ref08_Mul (a1 : Bool) (a2 : Sl) (a3 : Sl) (a4 : Bool) (a5 : Sl) (a6 : Sl) (h : AH) : go (.fn F.ref08_Mul [.agg [.bool a1, a2.v, a3.v], .agg [.bool a4, a5.v, a6.v]]) h =
  newK h (.cells [.bool a1, a2.v, a3.v] T.api_Frac) fun h7r h7 =>
  newK h7 (.cells [.bool a4, a5.v, a6.v] T.api_Frac) fun h8r h8 =>
  newK h8 (.cells [.bool false, (⟨none, 0, .is 0⟩ : Sl).v, (⟨none, 0, .is 0⟩ : Sl).v] T.api_Frac) fun h9r h9 =>
  ((h9.cell (h7r.add 0)).bind AV.asBool).bind fun b10 =>
  ((h9.cell (h7r.add 1)).bind AV.asSl).bind fun l11 =>
  ((h9.cell (h7r.add 2)).bind AV.asSl).bind fun l12 =>
  (go (.fn F.ref08_Right [.agg [.bool b10, l11.v, l12.v]]) h9).bind fun q13 =>
  ((some q13.1).bind AV.asBool).bind fun b14 =>
  ((q13.2.cell (h8r.add 0)).bind AV.asBool).bind fun b15 =>
  ((q13.2.cell (h8r.add 1)).bind AV.asSl).bind fun l16 =>
  ((q13.2.cell (h8r.add 2)).bind AV.asSl).bind fun l17 =>
  (go (.fn F.ref08_Right [.agg [.bool b15, l16.v, l17.v]]) q13.2).bind fun q18 =>
  ((some q18.1).bind AV.asBool).bind fun b19 =>
  cond (!b14) (
  (q18.2.puts h9r [.bool false, (⟨none, 0, .is 0⟩ : Sl).v, (⟨none, 0, .is 0⟩ : Sl).v]).bind fun h20 =>
  ((h20.cell (h9r.add 0)).bind AV.asBool).bind fun b21 =>
  ((h20.cell (h9r.add 1)).bind AV.asSl).bind fun l22 =>
  ((h20.cell (h9r.add 2)).bind AV.asSl).bind fun l23 =>
  some (.tup [.agg [.bool b21, l22.v, l23.v], .int .i64 1], h20)) (
  cond (!b19) (
  (q18.2.puts h9r [.bool false, (⟨none, 0, .is 0⟩ : Sl).v, (⟨none, 0, .is 0⟩ : Sl).v]).bind fun h24 =>
  ((h24.cell (h9r.add 0)).bind AV.asBool).bind fun b25 =>
  ((h24.cell (h9r.add 1)).bind AV.asSl).bind fun l26 =>
  ((h24.cell (h9r.add 2)).bind AV.asSl).bind fun l27 =>
  some (.tup [.agg [.bool b25, l26.v, l27.v], .int .i64 1], h24)) (
  ((q18.2.cell ((h7r.add 0).add 0)).bind AV.asBool).bind fun b28 =>
  ((q18.2.cell ((h7r.add 0).add 1)).bind AV.asSl).bind fun l29 =>
  ((q18.2.cell ((h8r.add 0).add 0)).bind AV.asBool).bind fun b30 =>
  ((q18.2.cell ((h8r.add 0).add 1)).bind AV.asSl).bind fun l31 =>
  (go (.fn F.ref03_Mul [.agg [.bool b28, l29.v], .agg [.bool b30, l31.v]]) q18.2).bind fun q32 =>
  (AV.asTup2 q32.1).bind fun p33 =>
  (AV.asAgg p33.1).bind fun cs34 =>
  cond (Nat.beq cs34.length 2) (
  ((cs34[0]?).bind AV.asBool).bind fun b35 =>
  ((cs34[1]?).bind AV.asSl).bind fun l36 =>
  ((some p33.2).bind (AV.asInt .i64)).bind fun n37 =>
  newK q32.2 (.cells [.bool false, (⟨none, 0, .is 0⟩ : Sl).v] T.api_Int) fun h38r h38 =>
  (h38.puts h38r [.bool b35, l36.v]).bind fun h39 =>
  ((h39.cell (h7r.add 2)).bind AV.asSl).bind fun l40 =>
  ((h39.cell (h8r.add 2)).bind AV.asSl).bind fun l41 =>
  (go (.fn F.ref01_Mul [l40.v, l41.v]) h39).bind fun q42 =>
  (AV.asTup2 q42.1).bind fun p43 =>
  ((some p43.1).bind AV.asSl).bind fun l44 =>
  ((some p43.2).bind (AV.asInt .i64)).bind fun n45 =>
  ((q42.2.cell (h38r.add 0)).bind AV.asBool).bind fun b46 =>
  ((q42.2.cell (h38r.add 1)).bind AV.asSl).bind fun l47 =>
  (go (.fn F.ref08_Make [.agg [.bool b46, l47.v], l44.v]) q42.2).bind fun q48 =>
  (AV.asTup2 q48.1).bind fun p49 =>
  (AV.asAgg p49.1).bind fun cs50 =>
  cond (Nat.beq cs50.length 3) (
  ((cs50[0]?).bind AV.asBool).bind fun b51 =>
  ((cs50[1]?).bind AV.asSl).bind fun l52 =>
  ((cs50[2]?).bind AV.asSl).bind fun l53 =>
  ((some p49.2).bind (AV.asInt .i64)).bind fun n54 =>
  (q48.2.puts h9r [.bool b51, l52.v, l53.v]).bind fun h55 =>
  ((h55.cell (h9r.add 0)).bind AV.asBool).bind fun b56 =>
  ((h55.cell (h9r.add 1)).bind AV.asSl).bind fun l57 =>
  ((h55.cell (h9r.add 2)).bind AV.asSl).bind fun l58 =>
  some (.tup [.agg [.bool b56, l57.v, l58.v], .int .i64 n54], h55)) none) none)) := (go_step _ h).trans (by kernel_rfl)

theorem u_rational_Floor (a1 : Bool) (a2 : Sl) (a3 : Sl) (h : AH) : go (.fn F.rational_Floor [.agg [.bool a1, a2.v, a3.v]]) h =
  newK h (.cells [.bool a1, a2.v, a3.v] T.api_Frac) fun h4r h4 =>
  newK h4 (.cells [.bool false, (⟨none, 0, .is 0⟩ : Sl).v] T.api_Int) fun h5r h5 =>
  ((h5.cell (h4r.add 0)).bind AV.asBool).bind fun b6 =>
  ((h5.cell (h4r.add 1)).bind AV.asSl).bind fun l7 =>
  ((h5.cell (h4r.add 2)).bind AV.asSl).bind fun l8 =>
  (go (.fn F.rational_Right [.agg [.bool b6, l7.v, l8.v]]) h5).bind fun q9 =>
  ((some q9.1).bind AV.asBool).bind fun b10 =>
  cond (!b10) (
  (q9.2.puts h5r [.bool false, (⟨none, 0, .is 0⟩ : Sl).v]).bind fun h11 =>
  ((h11.cell (h5r.add 0)).bind AV.asBool).bind fun b12 =>
  ((h11.cell (h5r.add 1)).bind AV.asSl).bind fun l13 =>
  some (.tup [.agg [.bool b12, l13.v], .int .i64 1], h11)) (
  newK q9.2 (.cells [.bool false, (⟨none, 0, .is 0⟩ : Sl).v] T.api_Int) fun h14r h14 =>
  newK h14 (.cells [.bool false, (⟨none, 0, .is 0⟩ : Sl).v] T.api_Int) fun h15r h15 =>
  ((h15.cell ((h4r.add 0).add 0)).bind AV.asBool).bind fun b16 =>
  ((h15.cell ((h4r.add 0).add 1)).bind AV.asSl).bind fun l17 =>
  ((h15.cell (h4r.add 2)).bind AV.asSl).bind fun l18 =>
  (go (.fn F.modint_From [.bool false, l18.v]) h15).bind fun q19 =>
  (AV.asAgg q19.1).bind fun cs20 =>
  cond (Nat.beq cs20.length 2) (
  ((cs20[0]?).bind AV.asBool).bind fun b21 =>
  ((cs20[1]?).bind AV.asSl).bind fun l22 =>
  whenK (SameAt h15 q19.2 (h4r.add 0) 2) (
  whenK (SameAt h15 q19.2 h15r 0) (
  whenK (SameAt h15 q19.2 h14r 0) (
  (go (.fn F.modint_Floor [.agg [.bool b16, l17.v], .agg [.bool b21, l22.v]]) q19.2).bind fun q23 =>
  (AV.asTup3 q23.1).bind fun p24 =>
  (AV.asAgg p24.1).bind fun cs25 =>
  cond (Nat.beq cs25.length 2) (
  ((cs25[0]?).bind AV.asBool).bind fun b26 =>
  ((cs25[1]?).bind AV.asSl).bind fun l27 =>
  (AV.asAgg p24.2.1).bind fun cs28 =>
  cond (Nat.beq cs28.length 2) (
  ((cs28[0]?).bind AV.asBool).bind fun b29 =>
  ((cs28[1]?).bind AV.asSl).bind fun l30 =>
  ((some p24.2.2).bind (AV.asInt .i64)).bind fun n31 =>
  whenK (SameAt q19.2 q23.2 h15r 0) (
  whenK (SameAt q19.2 q23.2 h14r 0) (
  (q23.2.puts h14r [.bool b26, l27.v]).bind fun h32 =>
  (h32.puts h15r [.bool b29, l30.v]).bind fun h33 =>
  ((h33.cell (h14r.add 0)).bind AV.asBool).bind fun b34 =>
  ((h33.cell (h14r.add 1)).bind AV.asSl).bind fun l35 =>
  (h33.puts h5r [.bool b34, l35.v]).bind fun h36 =>
  ((h36.cell (h5r.add 0)).bind AV.asBool).bind fun b37 =>
  ((h36.cell (h5r.add 1)).bind AV.asSl).bind fun l38 =>
  some (.tup [.agg [.bool b37, l38.v], .int .i64 n31], h36)))) none) none)))) none) := (go_step _ h).trans (by kernel_rfl)

theorem u_ref08_Floor (a1 : Bool) (a2 : Sl) (a3 : Sl) (h : AH) : go (.fn F.ref08_Floor [.agg [.bool a1, a2.v, a3.v]]) h =
  newK h (.cells [.bool a1, a2.v, a3.v] T.api_Frac) fun h4r h4 =>
  newK h4 (.cells [.bool false, (⟨none, 0, .is 0⟩ : Sl).v] T.api_Int) fun h5r h5 =>
  ((h5.cell (h4r.add 0)).bind AV.asBool).bind fun b6 =>
  ((h5.cell (h4r.add 1)).bind AV.asSl).bind fun l7 =>
  ((h5.cell (h4r.add 2)).bind AV.asSl).bind fun l8 =>
  (go (.fn F.ref08_Right [.agg [.bool b6, l7.v, l8.v]]) h5).bind fun q9 =>
  ((some q9.1).bind AV.asBool).bind fun b10 =>
  cond (!b10) (
  (q9.2.puts h5r [.bool false, (⟨none, 0, .is 0⟩ : Sl).v]).bind fun h11 =>
  ((h11.cell (h5r.add 0)).bind AV.asBool).bind fun b12 =>
  ((h11.cell (h5r.add 1)).bind AV.asSl).bind fun l13 =>
  some (.tup [.agg [.bool b12, l13.v], .int .i64 1], h11)) (
  newK q9.2 (.cells [.bool false, (⟨none, 0, .is 0⟩ : Sl).v] T.api_Int) fun h14r h14 =>
  newK h14 (.cells [.bool false, (⟨none, 0, .is 0⟩ : Sl).v] T.api_Int) fun h15r h15 =>
  ((h15.cell ((h4r.add 0).add 0)).bind AV.asBool).bind fun b16 =>
  ((h15.cell ((h4r.add 0).add 1)).bind AV.asSl).bind fun l17 =>
  ((h15.cell (h4r.add 2)).bind AV.asSl).bind fun l18 =>
  (go (.fn F.ref03_From [.bool false, l18.v]) h15).bind fun q19 =>
  (AV.asAgg q19.1).bind fun cs20 =>
  cond (Nat.beq cs20.length 2) (
  ((cs20[0]?).bind AV.asBool).bind fun b21 =>
  ((cs20[1]?).bind AV.asSl).bind fun l22 =>
  whenK (SameAt h15 q19.2 (h4r.add 0) 2) (
  whenK (SameAt h15 q19.2 h15r 0) (
  whenK (SameAt h15 q19.2 h14r 0) (
  (go (.fn F.ref03_Floor [.agg [.bool b16, l17.v], .agg [.bool b21, l22.v]]) q19.2).bind fun q23 =>
  (AV.asTup3 q23.1).bind fun p24 =>
  (AV.asAgg p24.1).bind fun cs25 =>
  cond (Nat.beq cs25.length 2) (
  ((cs25[0]?).bind AV.asBool).bind fun b26 =>
  ((cs25[1]?).bind AV.asSl).bind fun l27 =>
  (AV.asAgg p24.2.1).bind fun cs28 =>
  cond (Nat.beq cs28.length 2) (
  ((cs28[0]?).bind AV.asBool).bind fun b29 =>
  ((cs28[1]?).bind AV.asSl).bind fun l30 =>
  ((some p24.2.2).bind (AV.asInt .i64)).bind fun n31 =>
  whenK (SameAt q19.2 q23.2 h15r 0) (
  whenK (SameAt q19.2 q23.2 h14r 0) (
  (q23.2.puts h14r [.bool b26, l27.v]).bind fun h32 =>
  (h32.puts h15r [.bool b29, l30.v]).bind fun h33 =>
  ((h33.cell (h14r.add 0)).bind AV.asBool).bind fun b34 =>
  ((h33.cell (h14r.add 1)).bind AV.asSl).bind fun l35 =>
  (h33.puts h5r [.bool b34, l35.v]).bind fun h36 =>
  ((h36.cell (h5r.add 0)).bind AV.asBool).bind fun b37 =>
  ((h36.cell (h5r.add 1)).bind AV.asSl).bind fun l38 =>
  some (.tup [.agg [.bool b37, l38.v], .int .i64 0], h36)))) none) none)))) none) := (go_step _ h).trans (by kernel_rfl)

theorem u_ref03_Same (a1 : Bool) (a2 : Sl) (a3 : Bool) (a4 : Sl) (h : AH) : go (.fn F.ref03_Same [.agg [.bool a1, a2.v], .agg [.bool a3, a4.v]]) h =
  newK h (.cells [.bool a1, a2.v] T.api_Int) fun h5r h5 =>
  newK h5 (.cells [.bool a3, a4.v] T.api_Int) fun h6r h6 =>
  ((h6.cell (h5r.add 1)).bind AV.asSl).bind fun l7 =>
  ((h6.cell (h6r.add 1)).bind AV.asSl).bind fun l8 =>
  (go (.fn F.ref01_Same [l7.v, l8.v]) h6).bind fun q9 =>
  ((some q9.1).bind AV.asBool).bind fun b10 =>
  ((q9.2.cell (h5r.add 0)).bind AV.asBool).bind fun b11 =>
  ((q9.2.cell (h6r.add 0)).bind AV.asBool).bind fun b12 =>
  cond (b11 == b12) (
  some (.bool b10, q9.2)) (
  some (.bool false, q9.2)) := (go_step _ h).trans (by kernel_rfl)

theorem u_rational_Cmp (a1 : Bool) (a2 : Sl) (a3 : Sl) (a4 : Bool) (a5 : Sl) (a6 : Sl) (h : AH) : go (.fn F.rational_Cmp [.agg [.bool a1, a2.v, a3.v], .agg [.bool a4, a5.v, a6.v]]) h =
  newK h (.cells [.bool a1, a2.v, a3.v] T.api_Frac) fun h7r h7 =>
  newK h7 (.cells [.bool a4, a5.v, a6.v] T.api_Frac) fun h8r h8 =>
  ((h8.cell (h7r.add 0)).bind AV.asBool).bind fun b9 =>
  ((h8.cell (h7r.add 1)).bind AV.asSl).bind fun l10 =>
  ((h8.cell (h7r.add 2)).bind AV.asSl).bind fun l11 =>
  ((h8.cell (h8r.add 0)).bind AV.asBool).bind fun b12 =>
  ((h8.cell (h8r.add 1)).bind AV.asSl).bind fun l13 =>
  ((h8.cell (h8r.add 2)).bind AV.asSl).bind fun l14 =>
  newK h8 (.cells [.bool b9, l10.v, l11.v, .bool b12, l13.v, l14.v] T.api_Frac) fun h15r h15 =>
  (go (.fn F.rational_right [(⟨some h15r, 2, .is 2⟩ : Sl).v]) h15).bind fun q16 =>
  ((some q16.1).bind AV.asBool).bind fun b17 =>
  cond (!b17) (
  some (.int .i64 0, q16.2)) (
  ((q16.2.cell (h7r.add 0)).bind AV.asBool).bind fun b18 =>
  ((q16.2.cell (h7r.add 1)).bind AV.asSl).bind fun l19 =>
  ((q16.2.cell (h7r.add 2)).bind AV.asSl).bind fun l20 =>
  ((q16.2.cell (h8r.add 0)).bind AV.asBool).bind fun b21 =>
  ((q16.2.cell (h8r.add 1)).bind AV.asSl).bind fun l22 =>
  ((q16.2.cell (h8r.add 2)).bind AV.asSl).bind fun l23 =>
  ((q16.2.cell (h8r.add 0)).bind AV.asBool).bind fun b24 =>
  ((q16.2.cell (h8r.add 1)).bind AV.asSl).bind fun l25 =>
  ((q16.2.cell (h8r.add 2)).bind AV.asSl).bind fun l26 =>
  ((q16.2.cell (h7r.add 0)).bind AV.asBool).bind fun b27 =>
  ((q16.2.cell (h7r.add 1)).bind AV.asSl).bind fun l28 =>
  ((q16.2.cell (h7r.add 2)).bind AV.asSl).bind fun l29 =>
  (go (.fn F.rational_over [.agg [.bool b18, l19.v, l20.v], .agg [.bool b21, l22.v, l23.v]]) q16.2).bind fun q30 =>
  (AV.asAgg q30.1).bind fun cs31 =>
  cond (Nat.beq cs31.length 2) (
  ((cs31[0]?).bind AV.asBool).bind fun b32 =>
  ((cs31[1]?).bind AV.asSl).bind fun l33 =>
  whenK (SameAt q16.2 q30.2 h7r 3) (
  whenK (SameAt q16.2 q30.2 h8r 3) (
  (go (.fn F.rational_over [.agg [.bool b24, l25.v, l26.v], .agg [.bool b27, l28.v, l29.v]]) q30.2).bind fun q34 =>
  (AV.asAgg q34.1).bind fun cs35 =>
  cond (Nat.beq cs35.length 2) (
  ((cs35[0]?).bind AV.asBool).bind fun b36 =>
  ((cs35[1]?).bind AV.asSl).bind fun l37 =>
  (go (.fn F.modint_Cmp [.agg [.bool b32, l33.v], .agg [.bool b36, l37.v]]) q34.2).bind fun q38 =>
  ((some q38.1).bind (AV.asInt .i64)).bind fun n39 =>
  some (.int .i64 n39, q38.2)) none))) none) := (go_step _ h).trans (by kernel_rfl)

theorem u_ref08_Cmp (a1 : Bool) (a2 : Sl) (a3 : Sl) (a4 : Bool) (a5 : Sl) (a6 : Sl) (h : AH) : go (.fn F.ref08_Cmp [.agg [.bool a1, a2.v, a3.v], .agg [.bool a4, a5.v, a6.v]]) h =
  newK h (.cells [.bool a1, a2.v, a3.v] T.api_Frac) fun h7r h7 =>
  newK h7 (.cells [.bool a4, a5.v, a6.v] T.api_Frac) fun h8r h8 =>
  ((h8.cell (h7r.add 0)).bind AV.asBool).bind fun b9 =>
  ((h8.cell (h7r.add 1)).bind AV.asSl).bind fun l10 =>
  ((h8.cell (h7r.add 2)).bind AV.asSl).bind fun l11 =>
  (go (.fn F.ref08_Right [.agg [.bool b9, l10.v, l11.v]]) h8).bind fun q12 =>
  ((some q12.1).bind AV.asBool).bind fun b13 =>
  ((q12.2.cell (h8r.add 0)).bind AV.asBool).bind fun b14 =>
  ((q12.2.cell (h8r.add 1)).bind AV.asSl).bind fun l15 =>
  ((q12.2.cell (h8r.add 2)).bind AV.asSl).bind fun l16 =>
  (go (.fn F.ref08_Right [.agg [.bool b14, l15.v, l16.v]]) q12.2).bind fun q17 =>
  ((some q17.1).bind AV.asBool).bind fun b18 =>
  cond (!b13) (
  some (.int .i64 0, q17.2)) (
  cond (!b18) (
  some (.int .i64 0, q17.2)) (
  ((q17.2.cell (h7r.add 0)).bind AV.asBool).bind fun b19 =>
  ((q17.2.cell (h7r.add 1)).bind AV.asSl).bind fun l20 =>
  ((q17.2.cell (h7r.add 2)).bind AV.asSl).bind fun l21 =>
  ((q17.2.cell (h8r.add 0)).bind AV.asBool).bind fun b22 =>
  ((q17.2.cell (h8r.add 1)).bind AV.asSl).bind fun l23 =>
  ((q17.2.cell (h8r.add 2)).bind AV.asSl).bind fun l24 =>
  ((q17.2.cell (h8r.add 0)).bind AV.asBool).bind fun b25 =>
  ((q17.2.cell (h8r.add 1)).bind AV.asSl).bind fun l26 =>
  ((q17.2.cell (h8r.add 2)).bind AV.asSl).bind fun l27 =>
  ((q17.2.cell (h7r.add 0)).bind AV.asBool).bind fun b28 =>
  ((q17.2.cell (h7r.add 1)).bind AV.asSl).bind fun l29 =>
  ((q17.2.cell (h7r.add 2)).bind AV.asSl).bind fun l30 =>
  (go (.fn F.ref08_over [.agg [.bool b19, l20.v, l21.v], .agg [.bool b22, l23.v, l24.v]]) q17.2).bind fun q31 =>
  (AV.asAgg q31.1).bind fun cs32 =>
  cond (Nat.beq cs32.length 2) (
  ((cs32[0]?).bind AV.asBool).bind fun b33 =>
  ((cs32[1]?).bind AV.asSl).bind fun l34 =>
  whenK (SameAt q17.2 q31.2 h7r 3) (
  whenK (SameAt q17.2 q31.2 h8r 3) (
  (go (.fn F.ref08_over [.agg [.bool b25, l26.v, l27.v], .agg [.bool b28, l29.v, l30.v]]) q31.2).bind fun q35 =>
  (AV.asAgg q35.1).bind fun cs36 =>
  cond (Nat.beq cs36.length 2) (
  ((cs36[0]?).bind AV.asBool).bind fun b37 =>
  ((cs36[1]?).bind AV.asSl).bind fun l38 =>
  (go (.fn F.ref03_Cmp [.agg [.bool b33, l34.v], .agg [.bool b37, l38.v]]) q35.2).bind fun q39 =>
  ((some q39.1).bind (AV.asInt .i64)).bind fun n40 =>
  some (.int .i64 n40, q39.2)) none))) none)) := (go_step _ h).trans (by kernel_rfl)

theorem u_ref03_Of (a1 : Int) (h : AH) : go (.fn F.ref03_Of [.int .i64 a1]) h =
  newK h (.cells [.bool false, (⟨none, 0, .is 0⟩ : Sl).v] T.api_Int) fun h2r h2 =>
  cond (decide (a1 < 0)) (
  (go (.fn F.ref01_Of [.int .u64 (IntKind.wrap .u64 ((IntKind.wrap .u64 (IntKind.wrap .i64 (0 - (IntKind.wrap .i64 (a1 + 1))))) + 1))]) h2).bind fun q3 =>
  ((some q3.1).bind AV.asSl).bind fun l4 =>
  (go (.fn F.ref03_From [.bool true, l4.v]) q3.2).bind fun q5 =>
  (AV.asAgg q5.1).bind fun cs6 =>
  cond (Nat.beq cs6.length 2) (
  ((cs6[0]?).bind AV.asBool).bind fun b7 =>
  ((cs6[1]?).bind AV.asSl).bind fun l8 =>
  (q5.2.puts h2r [.bool b7, l8.v]).bind fun h9 =>
  ((h9.cell (h2r.add 0)).bind AV.asBool).bind fun b10 =>
  ((h9.cell (h2r.add 1)).bind AV.asSl).bind fun l11 =>
  some (.agg [.bool b10, l11.v], h9)) none) (
  (go (.fn F.ref01_Of [.int .u64 (IntKind.wrap .u64 a1)]) h2).bind fun q12 =>
  ((some q12.1).bind AV.asSl).bind fun l13 =>
  (go (.fn F.ref03_From [.bool false, l13.v]) q12.2).bind fun q14 =>
  (AV.asAgg q14.1).bind fun cs15 =>
  cond (Nat.beq cs15.length 2) (
  ((cs15[0]?).bind AV.asBool).bind fun b16 =>
  ((cs15[1]?).bind AV.asSl).bind fun l17 =>
  (q14.2.puts h2r [.bool b16, l17.v]).bind fun h18 =>
  ((h18.cell (h2r.add 0)).bind AV.asBool).bind fun b19 =>
  ((h18.cell (h2r.add 1)).bind AV.asSl).bind fun l20 =>
  some (.agg [.bool b19, l20.v], h18)) none) := (go_step _ h).trans (by kernel_rfl)

theorem u_ref03_Add (a1 : Bool) (a2 : Sl) (a3 : Bool) (a4 : Sl) (h : AH) : go (.fn F.ref03_Add [.agg [.bool a1, a2.v], .agg [.bool a3, a4.v]]) h =
  newK h (.cells [.bool a1, a2.v] T.api_Int) fun h5r h5 =>
  newK h5 (.cells [.bool a3, a4.v] T.api_Int) fun h6r h6 =>
  newK h6 (.cells [.bool false, (⟨none, 0, .is 0⟩ : Sl).v] T.api_Int) fun h7r h7 =>
  ((h7.cell (h5r.add 0)).bind AV.asBool).bind fun b8 =>
  ((h7.cell (h5r.add 1)).bind AV.asSl).bind fun l9 =>
  (go (.fn F.ref03_Right [.agg [.bool b8, l9.v]]) h7).bind fun q10 =>
  ((some q10.1).bind AV.asBool).bind fun b11 =>
  ((q10.2.cell (h6r.add 0)).bind AV.asBool).bind fun b12 =>
  ((q10.2.cell (h6r.add 1)).bind AV.asSl).bind fun l13 =>
  (go (.fn F.ref03_Right [.agg [.bool b12, l13.v]]) q10.2).bind fun q14 =>
  ((some q14.1).bind AV.asBool).bind fun b15 =>
  cond (!b11) (
  (q14.2.puts h7r [.bool false, (⟨none, 0, .is 0⟩ : Sl).v]).bind fun h16 =>
  ((h16.cell (h7r.add 0)).bind AV.asBool).bind fun b17 =>
  ((h16.cell (h7r.add 1)).bind AV.asSl).bind fun l18 =>
  some (.tup [.agg [.bool b17, l18.v], .int .i64 1], h16)) (
  cond (!b15) (
  (q14.2.puts h7r [.bool false, (⟨none, 0, .is 0⟩ : Sl).v]).bind fun h19 =>
  ((h19.cell (h7r.add 0)).bind AV.asBool).bind fun b20 =>
  ((h19.cell (h7r.add 1)).bind AV.asSl).bind fun l21 =>
  some (.tup [.agg [.bool b20, l21.v], .int .i64 1], h19)) (
  ((q14.2.cell (h5r.add 0)).bind AV.asBool).bind fun b22 =>
  ((q14.2.cell (h6r.add 0)).bind AV.asBool).bind fun b23 =>
  cond (b22 == b23) (
  ((q14.2.cell (h5r.add 1)).bind AV.asSl).bind fun l24 =>
  ((q14.2.cell (h6r.add 1)).bind AV.asSl).bind fun l25 =>
  (go (.fn F.ref01_Add [l24.v, l25.v]) q14.2).bind fun q26 =>
  (AV.asTup2 q26.1).bind fun p27 =>
  ((some p27.1).bind AV.asSl).bind fun l28 =>
  ((some p27.2).bind (AV.asInt .i64)).bind fun n29 =>
  ((q26.2.cell (h5r.add 0)).bind AV.asBool).bind fun b30 =>
  (go (.fn F.ref03_From [.bool b30, l28.v]) q26.2).bind fun q31 =>
  (AV.asAgg q31.1).bind fun cs32 =>
  cond (Nat.beq cs32.length 2) (
  ((cs32[0]?).bind AV.asBool).bind fun b33 =>
  ((cs32[1]?).bind AV.asSl).bind fun l34 =>
  (q31.2.puts h7r [.bool b33, l34.v]).bind fun h35 =>
  ((h35.cell (h7r.add 0)).bind AV.asBool).bind fun b36 =>
  ((h35.cell (h7r.add 1)).bind AV.asSl).bind fun l37 =>
  some (.tup [.agg [.bool b36, l37.v], .int .i64 n29], h35)) none) (
  ((q14.2.cell (h5r.add 1)).bind AV.asSl).bind fun l38 =>
  ((q14.2.cell (h6r.add 1)).bind AV.asSl).bind fun l39 =>
  (go (.fn F.ref01_Cmp [l38.v, l39.v]) q14.2).bind fun q40 =>
  ((some q40.1).bind (AV.asInt .i64)).bind fun n41 =>
  cond (decide (n41 ≥ 0)) (
  ((q40.2.cell (h5r.add 1)).bind AV.asSl).bind fun l42 =>
  ((q40.2.cell (h6r.add 1)).bind AV.asSl).bind fun l43 =>
  (go (.fn F.ref01_Sub [l42.v, l43.v]) q40.2).bind fun q44 =>
  (AV.asTup2 q44.1).bind fun p45 =>
  ((some p45.1).bind AV.asSl).bind fun l46 =>
  ((some p45.2).bind (AV.asInt .i64)).bind fun n47 =>
  ((q44.2.cell (h5r.add 0)).bind AV.asBool).bind fun b48 =>
  (go (.fn F.ref03_From [.bool b48, l46.v]) q44.2).bind fun q49 =>
  (AV.asAgg q49.1).bind fun cs50 =>
  cond (Nat.beq cs50.length 2) (
  ((cs50[0]?).bind AV.asBool).bind fun b51 =>
  ((cs50[1]?).bind AV.asSl).bind fun l52 =>
  (q49.2.puts h7r [.bool b51, l52.v]).bind fun h53 =>
  ((h53.cell (h7r.add 0)).bind AV.asBool).bind fun b54 =>
  ((h53.cell (h7r.add 1)).bind AV.asSl).bind fun l55 =>
  some (.tup [.agg [.bool b54, l55.v], .int .i64 0], h53)) none) (
  ((q40.2.cell (h6r.add 1)).bind AV.asSl).bind fun l56 =>
  ((q40.2.cell (h5r.add 1)).bind AV.asSl).bind fun l57 =>
  (go (.fn F.ref01_Sub [l56.v, l57.v]) q40.2).bind fun q58 =>
  (AV.asTup2 q58.1).bind fun p59 =>
  ((some p59.1).bind AV.asSl).bind fun l60 =>
  ((some p59.2).bind (AV.asInt .i64)).bind fun n61 =>
  ((q58.2.cell (h6r.add 0)).bind AV.asBool).bind fun b62 =>
  (go (.fn F.ref03_From [.bool b62, l60.v]) q58.2).bind fun q63 =>
  (AV.asAgg q63.1).bind fun cs64 =>
  cond (Nat.beq cs64.length 2) (
  ((cs64[0]?).bind AV.asBool).bind fun b65 =>
  ((cs64[1]?).bind AV.asSl).bind fun l66 =>
  (q63.2.puts h7r [.bool b65, l66.v]).bind fun h67 =>
  ((h67.cell (h7r.add 0)).bind AV.asBool).bind fun b68 =>
  ((h67.cell (h7r.add 1)).bind AV.asSl).bind fun l69 =>
  some (.tup [.agg [.bool b68, l69.v], .int .i64 0], h67)) none)))) := (go_step _ h).trans (by kernel_rfl)

theorem p_law08_RationalAround_18 (a1 : Ref) (a2 : Ref) (a3 : Ref) (a4 : Int) (h : AH) : go (.pt F.law08_RationalAround Td.law08_RationalAround_18 [(2, .ptr (some a1)), (3, .ptr (some a2)), (16, .ptr (some a3)), (17, .int .i64 a4)]) h =
  cond (!decide (a4 = 0)) (
  some (.bool true, h)) (
  ((h.cell ((a3.add 0).add 0)).bind AV.asBool).bind fun b5 =>
  cond b5 (
  ((h.cell ((a3.add 0).add 1)).bind AV.asSl).bind fun l6 =>
  cond (decide ((l6.len : Int) = 0)) (
  ((h.cell (a1.add 0)).bind AV.asBool).bind fun b7 =>
  ((h.cell (a1.add 1)).bind AV.asSl).bind fun l8 =>
  ((h.cell (a1.add 2)).bind AV.asSl).bind fun l9 =>
  ((h.cell (a2.add 0)).bind AV.asBool).bind fun b10 =>
  ((h.cell (a2.add 1)).bind AV.asSl).bind fun l11 =>
  ((h.cell (a2.add 2)).bind AV.asSl).bind fun l12 =>
  (go (.fn F.rational_Cmp [.agg [.bool b7, l8.v, l9.v], .agg [.bool b10, l11.v, l12.v]]) h).bind fun q13 =>
  ((some q13.1).bind (AV.asInt .i64)).bind fun n14 =>
  some (.bool (decide (n14 = 0)), q13.2)) (
  ((h.cell (a1.add 0)).bind AV.asBool).bind fun b15 =>
  ((h.cell (a1.add 1)).bind AV.asSl).bind fun l16 =>
  ((h.cell (a1.add 2)).bind AV.asSl).bind fun l17 =>
  ((h.cell (a2.add 0)).bind AV.asBool).bind fun b18 =>
  ((h.cell (a2.add 1)).bind AV.asSl).bind fun l19 =>
  ((h.cell (a2.add 2)).bind AV.asSl).bind fun l20 =>
  (go (.fn F.rational_Cmp [.agg [.bool b15, l16.v, l17.v], .agg [.bool b18, l19.v, l20.v]]) h).bind fun q21 =>
  ((some q21.1).bind (AV.asInt .i64)).bind fun n22 =>
  some (.bool (decide (n22 = (-1))), q21.2))) (
  ((h.cell ((a3.add 0).add 1)).bind AV.asSl).bind fun l23 =>
  cond (decide ((l23.len : Int) = 0)) (
  ((h.cell (a1.add 0)).bind AV.asBool).bind fun b24 =>
  ((h.cell (a1.add 1)).bind AV.asSl).bind fun l25 =>
  ((h.cell (a1.add 2)).bind AV.asSl).bind fun l26 =>
  ((h.cell (a2.add 0)).bind AV.asBool).bind fun b27 =>
  ((h.cell (a2.add 1)).bind AV.asSl).bind fun l28 =>
  ((h.cell (a2.add 2)).bind AV.asSl).bind fun l29 =>
  (go (.fn F.rational_Cmp [.agg [.bool b24, l25.v, l26.v], .agg [.bool b27, l28.v, l29.v]]) h).bind fun q30 =>
  ((some q30.1).bind (AV.asInt .i64)).bind fun n31 =>
  some (.bool (decide (n31 = 0)), q30.2)) (
  ((h.cell (a1.add 0)).bind AV.asBool).bind fun b32 =>
  ((h.cell (a1.add 1)).bind AV.asSl).bind fun l33 =>
  ((h.cell (a1.add 2)).bind AV.asSl).bind fun l34 =>
  ((h.cell (a2.add 0)).bind AV.asBool).bind fun b35 =>
  ((h.cell (a2.add 1)).bind AV.asSl).bind fun l36 =>
  ((h.cell (a2.add 2)).bind AV.asSl).bind fun l37 =>
  (go (.fn F.rational_Cmp [.agg [.bool b32, l33.v, l34.v], .agg [.bool b35, l36.v, l37.v]]) h).bind fun q38 =>
  ((some q38.1).bind (AV.asInt .i64)).bind fun n39 =>
  some (.bool (decide (n39 = 1)), q38.2)))) := (go_step _ h).trans (by kernel_rfl)

theorem u_law17_awake  (h : AH) : go (.fn F.law17_awake []) h =
  (go (.fn F.gain_Score [.int .i64 1, .agg [.int .i64 4, .int .i64 1]]) h).bind fun q1 =>
  (AV.asTup2 q1.1).bind fun p2 =>
  (AV.asAgg p2.1).bind fun cs3 =>
  cond (Nat.beq cs3.length 3) (
  ((cs3[0]?).bind AV.asBool).bind fun b4 =>
  ((cs3[1]?).bind AV.asSl).bind fun l5 =>
  ((cs3[2]?).bind AV.asSl).bind fun l6 =>
  ((some p2.2).bind (AV.asInt .i64)).bind fun n7 =>
  newK q1.2 (.cells [.bool false, (⟨none, 0, .is 0⟩ : Sl).v, (⟨none, 0, .is 0⟩ : Sl).v] T.api_Frac) fun h8r h8 =>
  (h8.puts h8r [.bool b4, l5.v, l6.v]).bind fun h9 =>
  cond (decide (n7 = 0)) (
  ((h9.cell ((h8r.add 0).add 1)).bind AV.asSl).bind fun l10 =>
  cond (decide ((l10.len : Int) = 1)) (
  ((h9.cell ((h8r.add 0).add 1)).bind AV.asSl).bind fun l11 =>
  (idx l11.ref l11.len 0 1).bind fun r12 =>
  ((h9.cell r12).bind (AV.asInt .u64)).bind fun n13 =>
  some (.bool (decide (n13 = 8)), h9)) (
  some (.bool false, h9))) (
  some (.bool false, h9))) none := (go_step _ h).trans (by kernel_rfl)

theorem u_gain_Score (a1 : Int) (a2 : Int) (a3 : Int) (h : AH) : go (.fn F.gain_Score [.int .i64 a1, .agg [.int .i64 a2, .int .i64 a3]]) h =
  newK h (.cells [.int .i64 a2, .int .i64 a3] T.api_Sum) fun h4r h4 =>
  newK h4 (.cells [.bool false, (⟨none, 0, .is 0⟩ : Sl).v, (⟨none, 0, .is 0⟩ : Sl).v] T.api_Frac) fun h5r h5 =>
  ((h5.cell (h4r.add 0)).bind (AV.asInt .i64)).bind fun n6 =>
  ((h5.cell (h4r.add 1)).bind (AV.asInt .i64)).bind fun n7 =>
  (go (.fn F.gain_may [.agg [.int .i64 n6, .int .i64 n7]]) h5).bind fun q8 =>
  ((some q8.1).bind AV.asBool).bind fun b9 =>
  cond (!b9) (
  (q8.2.puts h5r [.bool false, (⟨none, 0, .is 0⟩ : Sl).v, (⟨none, 0, .is 0⟩ : Sl).v]).bind fun h10 =>
  ((h10.cell (h5r.add 0)).bind AV.asBool).bind fun b11 =>
  ((h10.cell (h5r.add 1)).bind AV.asSl).bind fun l12 =>
  ((h10.cell (h5r.add 2)).bind AV.asSl).bind fun l13 =>
  some (.tup [.agg [.bool b11, l12.v, l13.v], .int .i64 1], h10)) (
  (go (.fn F.gain_mayLambda [.int .i64 a1]) q8.2).bind fun q14 =>
  ((some q14.1).bind AV.asBool).bind fun b15 =>
  cond (!b15) (
  (q14.2.puts h5r [.bool false, (⟨none, 0, .is 0⟩ : Sl).v, (⟨none, 0, .is 0⟩ : Sl).v]).bind fun h16 =>
  ((h16.cell (h5r.add 0)).bind AV.asBool).bind fun b17 =>
  ((h16.cell (h5r.add 1)).bind AV.asSl).bind fun l18 =>
  ((h16.cell (h5r.add 2)).bind AV.asSl).bind fun l19 =>
  some (.tup [.agg [.bool b17, l18.v, l19.v], .int .i64 1], h16)) (
  ((q14.2.cell (h4r.add 0)).bind (AV.asInt .i64)).bind fun n20 =>
  (go (.fn F.modint_Of [.int .i64 n20]) q14.2).bind fun q21 =>
  (AV.asAgg q21.1).bind fun cs22 =>
  cond (Nat.beq cs22.length 2) (
  ((cs22[0]?).bind AV.asBool).bind fun b23 =>
  ((cs22[1]?).bind AV.asSl).bind fun l24 =>
  newK q21.2 (.cells [.bool false, (⟨none, 0, .is 0⟩ : Sl).v] T.api_Int) fun h25r h25 =>
  (h25.puts h25r [.bool b23, l24.v]).bind fun h26 =>
  ((h26.cell (h25r.add 0)).bind AV.asBool).bind fun b27 =>
  ((h26.cell (h25r.add 1)).bind AV.asSl).bind fun l28 =>
  ((h26.cell (h25r.add 0)).bind AV.asBool).bind fun b29 =>
  ((h26.cell (h25r.add 1)).bind AV.asSl).bind fun l30 =>
  (go (.fn F.modint_Mul [.agg [.bool b27, l28.v], .agg [.bool b29, l30.v]]) h26).bind fun q31 =>
  (AV.asTup2 q31.1).bind fun p32 =>
  (AV.asAgg p32.1).bind fun cs33 =>
  cond (Nat.beq cs33.length 2) (
  ((cs33[0]?).bind AV.asBool).bind fun b34 =>
  ((cs33[1]?).bind AV.asSl).bind fun l35 =>
  ((some p32.2).bind (AV.asInt .i64)).bind fun n36 =>
  newK q31.2 (.cells [.bool false, (⟨none, 0, .is 0⟩ : Sl).v] T.api_Int) fun h37r h37 =>
  (h37.puts h37r [.bool b34, l35.v]).bind fun h38 =>
  ((h38.cell (h37r.add 0)).bind AV.asBool).bind fun b39 =>
  ((h38.cell (h37r.add 1)).bind AV.asSl).bind fun l40 =>
  ((h38.cell (h4r.add 1)).bind (AV.asInt .i64)).bind fun n41 =>
  (go (.fn F.nat_Of [.int .u64 (IntKind.wrap .u64 (IntKind.wrap .i64 (n41 + a1)))]) h38).bind fun q42 =>
  ((some q42.1).bind AV.asSl).bind fun l43 =>
  whenK (SameAt h38 q42.2 h37r 2) (
  (go (.fn F.rational_Make [.agg [.bool b39, l40.v], l43.v]) q42.2).bind fun q44 =>
  (AV.asTup2 q44.1).bind fun p45 =>
  (AV.asAgg p45.1).bind fun cs46 =>
  cond (Nat.beq cs46.length 3) (
  ((cs46[0]?).bind AV.asBool).bind fun b47 =>
  ((cs46[1]?).bind AV.asSl).bind fun l48 =>
  ((cs46[2]?).bind AV.asSl).bind fun l49 =>
  ((some p45.2).bind (AV.asInt .i64)).bind fun n50 =>
  (q44.2.puts h5r [.bool b47, l48.v, l49.v]).bind fun h51 =>
  ((h51.cell (h5r.add 0)).bind AV.asBool).bind fun b52 =>
  ((h51.cell (h5r.add 1)).bind AV.asSl).bind fun l53 =>
  ((h51.cell (h5r.add 2)).bind AV.asSl).bind fun l54 =>
  some (.tup [.agg [.bool b52, l53.v, l54.v], .int .i64 n50], h51)) none)) none) none)) := (go_step _ h).trans (by kernel_rfl)

theorem u_ref17_Score (a1 : Int) (a2 : Int) (a3 : Int) (h : AH) : go (.fn F.ref17_Score [.int .i64 a1, .agg [.int .i64 a2, .int .i64 a3]]) h =
  newK h (.cells [.int .i64 a2, .int .i64 a3] T.api_Sum) fun h4r h4 =>
  newK h4 (.cells [.bool false, (⟨none, 0, .is 0⟩ : Sl).v, (⟨none, 0, .is 0⟩ : Sl).v] T.api_Frac) fun h5r h5 =>
  ((h5.cell (h4r.add 0)).bind (AV.asInt .i64)).bind fun n6 =>
  ((h5.cell (h4r.add 1)).bind (AV.asInt .i64)).bind fun n7 =>
  (go (.fn F.ref16_RightSum [.agg [.int .i64 n6, .int .i64 n7]]) h5).bind fun q8 =>
  ((some q8.1).bind AV.asBool).bind fun b9 =>
  cond (!b9) (
  (q8.2.puts h5r [.bool false, (⟨none, 0, .is 0⟩ : Sl).v, (⟨none, 0, .is 0⟩ : Sl).v]).bind fun h10 =>
  ((h10.cell (h5r.add 0)).bind AV.asBool).bind fun b11 =>
  ((h10.cell (h5r.add 1)).bind AV.asSl).bind fun l12 =>
  ((h10.cell (h5r.add 2)).bind AV.asSl).bind fun l13 =>
  some (.tup [.agg [.bool b11, l12.v, l13.v], .int .i64 1], h10)) (
  cond (decide (a1 < 1)) (
  (q8.2.puts h5r [.bool false, (⟨none, 0, .is 0⟩ : Sl).v, (⟨none, 0, .is 0⟩ : Sl).v]).bind fun h14 =>
  ((h14.cell (h5r.add 0)).bind AV.asBool).bind fun b15 =>
  ((h14.cell (h5r.add 1)).bind AV.asSl).bind fun l16 =>
  ((h14.cell (h5r.add 2)).bind AV.asSl).bind fun l17 =>
  some (.tup [.agg [.bool b15, l16.v, l17.v], .int .i64 1], h14)) (
  cond (decide (a1 > 1048576)) (
  (q8.2.puts h5r [.bool false, (⟨none, 0, .is 0⟩ : Sl).v, (⟨none, 0, .is 0⟩ : Sl).v]).bind fun h18 =>
  ((h18.cell (h5r.add 0)).bind AV.asBool).bind fun b19 =>
  ((h18.cell (h5r.add 1)).bind AV.asSl).bind fun l20 =>
  ((h18.cell (h5r.add 2)).bind AV.asSl).bind fun l21 =>
  some (.tup [.agg [.bool b19, l20.v, l21.v], .int .i64 1], h18)) (
  ((q8.2.cell (h4r.add 0)).bind (AV.asInt .i64)).bind fun n22 =>
  (go (.fn F.ref03_Of [.int .i64 n22]) q8.2).bind fun q23 =>
  (AV.asAgg q23.1).bind fun cs24 =>
  cond (Nat.beq cs24.length 2) (
  ((cs24[0]?).bind AV.asBool).bind fun b25 =>
  ((cs24[1]?).bind AV.asSl).bind fun l26 =>
  newK q23.2 (.cells [.bool false, (⟨none, 0, .is 0⟩ : Sl).v] T.api_Int) fun h27r h27 =>
  (h27.puts h27r [.bool b25, l26.v]).bind fun h28 =>
  ((h28.cell (h27r.add 0)).bind AV.asBool).bind fun b29 =>
  ((h28.cell (h27r.add 1)).bind AV.asSl).bind fun l30 =>
  ((h28.cell (h27r.add 0)).bind AV.asBool).bind fun b31 =>
  ((h28.cell (h27r.add 1)).bind AV.asSl).bind fun l32 =>
  (go (.fn F.ref03_Mul [.agg [.bool b29, l30.v], .agg [.bool b31, l32.v]]) h28).bind fun q33 =>
  (AV.asTup2 q33.1).bind fun p34 =>
  (AV.asAgg p34.1).bind fun cs35 =>
  cond (Nat.beq cs35.length 2) (
  ((cs35[0]?).bind AV.asBool).bind fun b36 =>
  ((cs35[1]?).bind AV.asSl).bind fun l37 =>
  ((some p34.2).bind (AV.asInt .i64)).bind fun n38 =>
  newK q33.2 (.cells [.bool false, (⟨none, 0, .is 0⟩ : Sl).v] T.api_Int) fun h39r h39 =>
  (h39.puts h39r [.bool b36, l37.v]).bind fun h40 =>
  ((h40.cell (h39r.add 0)).bind AV.asBool).bind fun b41 =>
  ((h40.cell (h39r.add 1)).bind AV.asSl).bind fun l42 =>
  ((h40.cell (h4r.add 1)).bind (AV.asInt .i64)).bind fun n43 =>
  (go (.fn F.ref03_Of [.int .i64 (IntKind.wrap .i64 (n43 + a1))]) h40).bind fun q44 =>
  (AV.asAgg q44.1).bind fun cs45 =>
  cond (Nat.beq cs45.length 2) (
  ((cs45[0]?).bind AV.asBool).bind fun b46 =>
  ((cs45[1]?).bind AV.asSl).bind fun l47 =>
  whenK (SameAt h40 q44.2 h39r 2) (
  (go (.fn F.ref08_Make [.agg [.bool b41, l42.v], l47.v]) q44.2).bind fun q48 =>
  (AV.asTup2 q48.1).bind fun p49 =>
  (AV.asAgg p49.1).bind fun cs50 =>
  cond (Nat.beq cs50.length 3) (
  ((cs50[0]?).bind AV.asBool).bind fun b51 =>
  ((cs50[1]?).bind AV.asSl).bind fun l52 =>
  ((cs50[2]?).bind AV.asSl).bind fun l53 =>
  ((some p49.2).bind (AV.asInt .i64)).bind fun n54 =>
  (q48.2.puts h5r [.bool b51, l52.v, l53.v]).bind fun h55 =>
  ((h55.cell (h5r.add 0)).bind AV.asBool).bind fun b56 =>
  ((h55.cell (h5r.add 1)).bind AV.asSl).bind fun l57 =>
  ((h55.cell (h5r.add 2)).bind AV.asSl).bind fun l58 =>
  some (.tup [.agg [.bool b56, l57.v, l58.v], .int .i64 n54], h55)) none)) none) none) none))) := (go_step _ h).trans (by kernel_rfl)

theorem u_gain_Gain (a1 : Int) (a2 : Int) (a3 : Int) (a4 : Int) (a5 : Int) (h : AH) : go (.fn F.gain_Gain [.int .i64 a1, .agg [.int .i64 a2, .int .i64 a3], .agg [.int .i64 a4, .int .i64 a5]]) h =
  newK h (.cells [.int .i64 a1] T.int) fun h6r h6 =>
  newK h6 (.cells [.int .i64 a2, .int .i64 a3] T.api_Sum) fun h7r h7 =>
  newK h7 (.cells [.int .i64 a4, .int .i64 a5] T.api_Sum) fun h8r h8 =>
  newK h8 (.cells [.bool false, (⟨none, 0, .is 0⟩ : Sl).v, (⟨none, 0, .is 0⟩ : Sl).v] T.api_Frac) fun h9r h9 =>
  ((h9.cell (h7r.add 0)).bind (AV.asInt .i64)).bind fun n10 =>
  ((h9.cell (h7r.add 1)).bind (AV.asInt .i64)).bind fun n11 =>
  ((h9.cell (h8r.add 0)).bind (AV.asInt .i64)).bind fun n12 =>
  ((h9.cell (h8r.add 1)).bind (AV.asInt .i64)).bind fun n13 =>
  (go (.fn F.gain_right [.agg [.int .i64 n10, .int .i64 n11], .agg [.int .i64 n12, .int .i64 n13]]) h9).bind fun q14 =>
  (AV.asTup2 q14.1).bind fun p15 =>
  (AV.asAgg p15.1).bind fun cs16 =>
  cond (Nat.beq cs16.length 2) (
  ((cs16[0]?).bind (AV.asInt .i64)).bind fun n17 =>
  ((cs16[1]?).bind (AV.asInt .i64)).bind fun n18 =>
  ((some p15.2).bind AV.asBool).bind fun b19 =>
  newK q14.2 (.cells [.int .i64 0, .int .i64 0] T.api_Sum) fun h20r h20 =>
  (h20.puts h20r [.int .i64 n17, .int .i64 n18]).bind fun h21 =>
  cond (!b19) (
  (h21.puts h9r [.bool false, (⟨none, 0, .is 0⟩ : Sl).v, (⟨none, 0, .is 0⟩ : Sl).v]).bind fun h22 =>
  ((h22.cell (h9r.add 0)).bind AV.asBool).bind fun b23 =>
  ((h22.cell (h9r.add 1)).bind AV.asSl).bind fun l24 =>
  ((h22.cell (h9r.add 2)).bind AV.asSl).bind fun l25 =>
  some (.tup [.agg [.bool b23, l24.v, l25.v], .int .i64 1], h22)) (
  ((h21.cell h6r).bind (AV.asInt .i64)).bind fun n26 =>
  (go (.fn F.gain_mayLambda [.int .i64 n26]) h21).bind fun q27 =>
  ((some q27.1).bind AV.asBool).bind fun b28 =>
  cond (!b28) (
  (q27.2.puts h9r [.bool false, (⟨none, 0, .is 0⟩ : Sl).v, (⟨none, 0, .is 0⟩ : Sl).v]).bind fun h29 =>
  ((h29.cell (h9r.add 0)).bind AV.asBool).bind fun b30 =>
  ((h29.cell (h9r.add 1)).bind AV.asSl).bind fun l31 =>
  ((h29.cell (h9r.add 2)).bind AV.asSl).bind fun l32 =>
  some (.tup [.agg [.bool b30, l31.v, l32.v], .int .i64 1], h29)) (
  newK q27.2 (.cells [.bool false, (⟨none, 0, .is 0⟩ : Sl).v, (⟨none, 0, .is 0⟩ : Sl).v] T.api_Frac) fun h33r h33 =>
  ((h33.cell (h7r.add 0)).bind (AV.asInt .i64)).bind fun n34 =>
  ((h33.cell (h7r.add 1)).bind (AV.asInt .i64)).bind fun n35 =>
  ((h33.cell (h20r.add 0)).bind (AV.asInt .i64)).bind fun n36 =>
  ((h33.cell (h20r.add 1)).bind (AV.asInt .i64)).bind fun n37 =>
  (go (.fn F.gain_Gain_1 [.agg [.int .i64 n34, .int .i64 n35], .ptr (some h6r)]) h33).bind fun q38 =>
  (AV.asAgg q38.1).bind fun cs39 =>
  cond (Nat.beq cs39.length 3) (
  ((cs39[0]?).bind AV.asBool).bind fun b40 =>
  ((cs39[1]?).bind AV.asSl).bind fun l41 =>
  ((cs39[2]?).bind AV.asSl).bind fun l42 =>
  whenK (SameAt h33 q38.2 h20r 2) (
  whenK (SameAt h33 q38.2 h33r 0) (
  (go (.fn F.gain_Gain_1 [.agg [.int .i64 n36, .int .i64 n37], .ptr (some h6r)]) q38.2).bind fun q43 =>
  (AV.asAgg q43.1).bind fun cs44 =>
  cond (Nat.beq cs44.length 3) (
  ((cs44[0]?).bind AV.asBool).bind fun b45 =>
  ((cs44[1]?).bind AV.asSl).bind fun l46 =>
  ((cs44[2]?).bind AV.asSl).bind fun l47 =>
  whenK (SameAt q38.2 q43.2 h33r 0) (
  (go (.fn F.rational_Add [.agg [.bool b40, l41.v, l42.v], .agg [.bool b45, l46.v, l47.v]]) q43.2).bind fun q48 =>
  (AV.asTup2 q48.1).bind fun p49 =>
  (AV.asAgg p49.1).bind fun cs50 =>
  cond (Nat.beq cs50.length 3) (
  ((cs50[0]?).bind AV.asBool).bind fun b51 =>
  ((cs50[1]?).bind AV.asSl).bind fun l52 =>
  ((cs50[2]?).bind AV.asSl).bind fun l53 =>
  ((some p49.2).bind (AV.asInt .i64)).bind fun n54 =>
  whenK (SameAt q43.2 q48.2 h33r 0) (
  (q48.2.puts h33r [.bool b51, l52.v, l53.v]).bind fun h55 =>
  ((h55.cell (h33r.add 0)).bind AV.asBool).bind fun b56 =>
  ((h55.cell (h33r.add 1)).bind AV.asSl).bind fun l57 =>
  ((h55.cell (h33r.add 2)).bind AV.asSl).bind fun l58 =>
  ((h55.cell (h8r.add 0)).bind (AV.asInt .i64)).bind fun n59 =>
  ((h55.cell (h8r.add 1)).bind (AV.asInt .i64)).bind fun n60 =>
  (go (.fn F.gain_Gain_1 [.agg [.int .i64 n59, .int .i64 n60], .ptr (some h6r)]) h55).bind fun q61 =>
  (AV.asAgg q61.1).bind fun cs62 =>
  cond (Nat.beq cs62.length 3) (
  ((cs62[0]?).bind AV.asBool).bind fun b63 =>
  ((cs62[1]?).bind AV.asSl).bind fun l64 =>
  ((cs62[2]?).bind AV.asSl).bind fun l65 =>
  whenK (SameAt h55 q61.2 h33r 3) (
  (go (.fn F.rational_Sub [.agg [.bool b56, l57.v, l58.v], .agg [.bool b63, l64.v, l65.v]]) q61.2).bind fun q66 =>
  (AV.asTup2 q66.1).bind fun p67 =>
  (AV.asAgg p67.1).bind fun cs68 =>
  cond (Nat.beq cs68.length 3) (
  ((cs68[0]?).bind AV.asBool).bind fun b69 =>
  ((cs68[1]?).bind AV.asSl).bind fun l70 =>
  ((cs68[2]?).bind AV.asSl).bind fun l71 =>
  ((some p67.2).bind (AV.asInt .i64)).bind fun n72 =>
  (q66.2.puts h9r [.bool b69, l70.v, l71.v]).bind fun h73 =>
  ((h73.cell (h9r.add 0)).bind AV.asBool).bind fun b74 =>
  ((h73.cell (h9r.add 1)).bind AV.asSl).bind fun l75 =>
  ((h73.cell (h9r.add 2)).bind AV.asSl).bind fun l76 =>
  some (.tup [.agg [.bool b74, l75.v, l76.v], .int .i64 n72], h73)) none)) none)) none)) none))) none))) none := (go_step _ h).trans (by kernel_rfl)

theorem u_ref17_Gain (a1 : Int) (a2 : Int) (a3 : Int) (a4 : Int) (a5 : Int) (h : AH) : go (.fn F.ref17_Gain [.int .i64 a1, .agg [.int .i64 a2, .int .i64 a3], .agg [.int .i64 a4, .int .i64 a5]]) h =
  newK h (.cells [.int .i64 a2, .int .i64 a3] T.api_Sum) fun h6r h6 =>
  newK h6 (.cells [.int .i64 a4, .int .i64 a5] T.api_Sum) fun h7r h7 =>
  newK h7 (.cells [.bool false, (⟨none, 0, .is 0⟩ : Sl).v, (⟨none, 0, .is 0⟩ : Sl).v] T.api_Frac) fun h8r h8 =>
  ((h8.cell (h6r.add 0)).bind (AV.asInt .i64)).bind fun n9 =>
  ((h8.cell (h6r.add 1)).bind (AV.asInt .i64)).bind fun n10 =>
  ((h8.cell (h7r.add 0)).bind (AV.asInt .i64)).bind fun n11 =>
  ((h8.cell (h7r.add 1)).bind (AV.asInt .i64)).bind fun n12 =>
  (go (.fn F.ref17_Right [.agg [.int .i64 n9, .int .i64 n10], .agg [.int .i64 n11, .int .i64 n12]]) h8).bind fun q13 =>
  (AV.asTup2 q13.1).bind fun p14 =>
  (AV.asAgg p14.1).bind fun cs15 =>
  cond (Nat.beq cs15.length 2) (
  ((cs15[0]?).bind (AV.asInt .i64)).bind fun n16 =>
  ((cs15[1]?).bind (AV.asInt .i64)).bind fun n17 =>
  ((some p14.2).bind AV.asBool).bind fun b18 =>
  newK q13.2 (.cells [.int .i64 0, .int .i64 0] T.api_Sum) fun h19r h19 =>
  (h19.puts h19r [.int .i64 n16, .int .i64 n17]).bind fun h20 =>
  cond (!b18) (
  (h20.puts h8r [.bool false, (⟨none, 0, .is 0⟩ : Sl).v, (⟨none, 0, .is 0⟩ : Sl).v]).bind fun h21 =>
  ((h21.cell (h8r.add 0)).bind AV.asBool).bind fun b22 =>
  ((h21.cell (h8r.add 1)).bind AV.asSl).bind fun l23 =>
  ((h21.cell (h8r.add 2)).bind AV.asSl).bind fun l24 =>
  some (.tup [.agg [.bool b22, l23.v, l24.v], .int .i64 1], h21)) (
  cond (decide (a1 < 1)) (
  (h20.puts h8r [.bool false, (⟨none, 0, .is 0⟩ : Sl).v, (⟨none, 0, .is 0⟩ : Sl).v]).bind fun h25 =>
  ((h25.cell (h8r.add 0)).bind AV.asBool).bind fun b26 =>
  ((h25.cell (h8r.add 1)).bind AV.asSl).bind fun l27 =>
  ((h25.cell (h8r.add 2)).bind AV.asSl).bind fun l28 =>
  some (.tup [.agg [.bool b26, l27.v, l28.v], .int .i64 1], h25)) (
  cond (decide (a1 > 1048576)) (
  (h20.puts h8r [.bool false, (⟨none, 0, .is 0⟩ : Sl).v, (⟨none, 0, .is 0⟩ : Sl).v]).bind fun h29 =>
  ((h29.cell (h8r.add 0)).bind AV.asBool).bind fun b30 =>
  ((h29.cell (h8r.add 1)).bind AV.asSl).bind fun l31 =>
  ((h29.cell (h8r.add 2)).bind AV.asSl).bind fun l32 =>
  some (.tup [.agg [.bool b30, l31.v, l32.v], .int .i64 1], h29)) (
  ((h20.cell (h6r.add 0)).bind (AV.asInt .i64)).bind fun n33 =>
  ((h20.cell (h6r.add 1)).bind (AV.asInt .i64)).bind fun n34 =>
  (go (.fn F.ref17_Score [.int .i64 a1, .agg [.int .i64 n33, .int .i64 n34]]) h20).bind fun q35 =>
  (AV.asTup2 q35.1).bind fun p36 =>
  (AV.asAgg p36.1).bind fun cs37 =>
  cond (Nat.beq cs37.length 3) (
  ((cs37[0]?).bind AV.asBool).bind fun b38 =>
  ((cs37[1]?).bind AV.asSl).bind fun l39 =>
  ((cs37[2]?).bind AV.asSl).bind fun l40 =>
  ((some p36.2).bind (AV.asInt .i64)).bind fun n41 =>
  newK q35.2 (.cells [.bool false, (⟨none, 0, .is 0⟩ : Sl).v, (⟨none, 0, .is 0⟩ : Sl).v] T.api_Frac) fun h42r h42 =>
  (h42.puts h42r [.bool b38, l39.v, l40.v]).bind fun h43 =>
  ((h43.cell (h19r.add 0)).bind (AV.asInt .i64)).bind fun n44 =>
  ((h43.cell (h19r.add 1)).bind (AV.asInt .i64)).bind fun n45 =>
  (go (.fn F.ref17_Score [.int .i64 a1, .agg [.int .i64 n44, .int .i64 n45]]) h43).bind fun q46 =>
  (AV.asTup2 q46.1).bind fun p47 =>
  (AV.asAgg p47.1).bind fun cs48 =>
  cond (Nat.beq cs48.length 3) (
  ((cs48[0]?).bind AV.asBool).bind fun b49 =>
  ((cs48[1]?).bind AV.asSl).bind fun l50 =>
  ((cs48[2]?).bind AV.asSl).bind fun l51 =>
  ((some p47.2).bind (AV.asInt .i64)).bind fun n52 =>
  newK q46.2 (.cells [.bool false, (⟨none, 0, .is 0⟩ : Sl).v, (⟨none, 0, .is 0⟩ : Sl).v] T.api_Frac) fun h53r h53 =>
  (h53.puts h53r [.bool b49, l50.v, l51.v]).bind fun h54 =>
  ((h54.cell (h7r.add 0)).bind (AV.asInt .i64)).bind fun n55 =>
  ((h54.cell (h7r.add 1)).bind (AV.asInt .i64)).bind fun n56 =>
  (go (.fn F.ref17_Score [.int .i64 a1, .agg [.int .i64 n55, .int .i64 n56]]) h54).bind fun q57 =>
  (AV.asTup2 q57.1).bind fun p58 =>
  (AV.asAgg p58.1).bind fun cs59 =>
  cond (Nat.beq cs59.length 3) (
  ((cs59[0]?).bind AV.asBool).bind fun b60 =>
  ((cs59[1]?).bind AV.asSl).bind fun l61 =>
  ((cs59[2]?).bind AV.asSl).bind fun l62 =>
  ((some p58.2).bind (AV.asInt .i64)).bind fun n63 =>
  newK q57.2 (.cells [.bool false, (⟨none, 0, .is 0⟩ : Sl).v, (⟨none, 0, .is 0⟩ : Sl).v] T.api_Frac) fun h64r h64 =>
  (h64.puts h64r [.bool b60, l61.v, l62.v]).bind fun h65 =>
  ((h65.cell (h42r.add 0)).bind AV.asBool).bind fun b66 =>
  ((h65.cell (h42r.add 1)).bind AV.asSl).bind fun l67 =>
  ((h65.cell (h42r.add 2)).bind AV.asSl).bind fun l68 =>
  ((h65.cell (h53r.add 0)).bind AV.asBool).bind fun b69 =>
  ((h65.cell (h53r.add 1)).bind AV.asSl).bind fun l70 =>
  ((h65.cell (h53r.add 2)).bind AV.asSl).bind fun l71 =>
  (go (.fn F.ref08_Add [.agg [.bool b66, l67.v, l68.v], .agg [.bool b69, l70.v, l71.v]]) h65).bind fun q72 =>
  (AV.asTup2 q72.1).bind fun p73 =>
  (AV.asAgg p73.1).bind fun cs74 =>
  cond (Nat.beq cs74.length 3) (
  ((cs74[0]?).bind AV.asBool).bind fun b75 =>
  ((cs74[1]?).bind AV.asSl).bind fun l76 =>
  ((cs74[2]?).bind AV.asSl).bind fun l77 =>
  ((some p73.2).bind (AV.asInt .i64)).bind fun n78 =>
  newK q72.2 (.cells [.bool false, (⟨none, 0, .is 0⟩ : Sl).v, (⟨none, 0, .is 0⟩ : Sl).v] T.api_Frac) fun h79r h79 =>
  (h79.puts h79r [.bool b75, l76.v, l77.v]).bind fun h80 =>
  ((h80.cell (h79r.add 0)).bind AV.asBool).bind fun b81 =>
  ((h80.cell (h79r.add 1)).bind AV.asSl).bind fun l82 =>
  ((h80.cell (h79r.add 2)).bind AV.asSl).bind fun l83 =>
  ((h80.cell (h64r.add 0)).bind AV.asBool).bind fun b84 =>
  ((h80.cell (h64r.add 1)).bind AV.asSl).bind fun l85 =>
  ((h80.cell (h64r.add 2)).bind AV.asSl).bind fun l86 =>
  (go (.fn F.ref08_Sub [.agg [.bool b81, l82.v, l83.v], .agg [.bool b84, l85.v, l86.v]]) h80).bind fun q87 =>
  (AV.asTup2 q87.1).bind fun p88 =>
  (AV.asAgg p88.1).bind fun cs89 =>
  cond (Nat.beq cs89.length 3) (
  ((cs89[0]?).bind AV.asBool).bind fun b90 =>
  ((cs89[1]?).bind AV.asSl).bind fun l91 =>
  ((cs89[2]?).bind AV.asSl).bind fun l92 =>
  ((some p88.2).bind (AV.asInt .i64)).bind fun n93 =>
  (q87.2.puts h8r [.bool b90, l91.v, l92.v]).bind fun h94 =>
  ((h94.cell (h8r.add 0)).bind AV.asBool).bind fun b95 =>
  ((h94.cell (h8r.add 1)).bind AV.asSl).bind fun l96 =>
  ((h94.cell (h8r.add 2)).bind AV.asSl).bind fun l97 =>
  some (.tup [.agg [.bool b95, l96.v, l97.v], .int .i64 n93], h94)) none) none) none) none) none)))) none := (go_step _ h).trans (by kernel_rfl)

theorem u_gain_Best (a1 : Int) (a2 : Int) (a3 : Int) (a4 : Int) (a5 : Sl) (h : AH) : go (.fn F.gain_Best [.int .i64 a1, .int .i64 a2, .agg [.int .i64 a3, .int .i64 a4], a5.v]) h =
  newK h (.cells [.int .i64 a3, .int .i64 a4] T.api_Sum) fun h6r h6 =>
  ((h6.cell (h6r.add 0)).bind (AV.asInt .i64)).bind fun n7 =>
  ((h6.cell (h6r.add 1)).bind (AV.asInt .i64)).bind fun n8 =>
  (go (.fn F.gain_may [.agg [.int .i64 n7, .int .i64 n8]]) h6).bind fun q9 =>
  ((some q9.1).bind AV.asBool).bind fun b10 =>
  cond (!b10) (
  some (.tup [(⟨none, 0, .is 0⟩ : Sl).v, .int .i64 1], q9.2)) (
  (go (.fn F.gain_mayLambda [.int .i64 a1]) q9.2).bind fun q11 =>
  ((some q11.1).bind AV.asBool).bind fun b12 =>
  cond (!b12) (
  some (.tup [(⟨none, 0, .is 0⟩ : Sl).v, .int .i64 1], q11.2)) (
  cond (decide (a2 < 0)) (
  some (.tup [(⟨none, 0, .is 0⟩ : Sl).v, .int .i64 1], q11.2)) (
  cond (decide (a2 > 1048576)) (
  some (.tup [(⟨none, 0, .is 0⟩ : Sl).v, .int .i64 1], q11.2)) (
  cond (decide ((a5.len : Int) > 16384)) (
  some (.tup [(⟨none, 0, .is 0⟩ : Sl).v, .int .i64 1], q11.2)) (
  newK q11.2 (.cells [(⟨none, 0, .is 0⟩ : Sl).v] T.L_int) fun h13r h13 =>
  (go (.fn F.modint_Of [.int .i64 a2]) h13).bind fun q14 =>
  (AV.asAgg q14.1).bind fun cs15 =>
  cond (Nat.beq cs15.length 2) (
  ((cs15[0]?).bind AV.asBool).bind fun b16 =>
  ((cs15[1]?).bind AV.asSl).bind fun l17 =>
  newK q14.2 (.cells [.int .u64 1] T.uint64) fun h18r h18 =>
  (go (.fn F.rational_Make [.agg [.bool b16, l17.v], (⟨some h18r, 1, .is 1⟩ : Sl).v]) h18).bind fun q19 =>
  (AV.asTup2 q19.1).bind fun p20 =>
  (AV.asAgg p20.1).bind fun cs21 =>
  cond (Nat.beq cs21.length 3) (
  ((cs21[0]?).bind AV.asBool).bind fun b22 =>
  ((cs21[1]?).bind AV.asSl).bind fun l23 =>
  ((cs21[2]?).bind AV.asSl).bind fun l24 =>
  ((some p20.2).bind (AV.asInt .i64)).bind fun n25 =>
  newK q19.2 (.cells [.bool false, (⟨none, 0, .is 0⟩ : Sl).v, (⟨none, 0, .is 0⟩ : Sl).v] T.api_Frac) fun h26r h26 =>
  (h26.puts h26r [.bool b22, l23.v, l24.v]).bind fun h27 =>
  go (.pt F.gain_Best Td.gain_Best_7 [(0, .int .i64 a1), (6, .ptr (some h6r)), (10, .ptr (some h13r)), (13, .func (.func F.gain_Best_1) [] [.ptr (some h26r), .ptr (some h13r)]), (47, a5.v), (48, .int .i64 (a5.len : Int)), (49, .int .i64 0)]) h27) none) none))))) := (go_step _ h).trans (by kernel_rfl)

theorem p_law17_GainTurned_13 (a1 : Int) (a2 : Int) (a3 : Sl) (a4 : Sl) (a5 : Sl) (a6 : Int) (h : AH) : go (.pt F.law17_GainTurned Td.law17_GainTurned_13 [(8, .int .i64 a1), (9, .int .i64 a2), (11, a3.v), (13, a4.v), (15, a5.v), (16, .int .i64 a6)]) h =
  cond (decide (a6 < (a4.len : Int))) (
  (idx a4.ref a4.len a6 1).bind fun r7 =>
  ((h.cell r7).bind (AV.asInt .i64)).bind fun n8 =>
  cond (decide (n8 < 0)) (
  some (.bool false, h)) (
  (idx a4.ref a4.len a6 1).bind fun r9 =>
  ((h.cell r9).bind (AV.asInt .i64)).bind fun n10 =>
  cond (decide (n10 ≥ a1)) (
  some (.bool false, h)) (
  (idx a4.ref a4.len a6 1).bind fun r11 =>
  ((h.cell r11).bind (AV.asInt .i64)).bind fun n12 =>
  cond (decide (a1 = 0)) none (
  (idx a5.ref a5.len (Int.tmod (IntKind.wrap .i64 (n12 + a2)) a1) 1).bind fun r13 =>
  (h.puts r13 [.bool true]).bind fun h14 =>
  go (.pt F.law17_GainTurned Td.law17_GainTurned_13 [(8, .int .i64 a1), (9, .int .i64 a2), (11, a3.v), (13, a4.v), (15, a5.v), (16, .int .i64 (IntKind.wrap .i64 (a6 + 1)))]) h14)))) (
  go (.pt F.law17_GainTurned Td.law17_GainTurned_19 [(8, .int .i64 a1), (11, a3.v), (15, a5.v), (17, .int .i64 0)]) h) := (go_step _ h).trans (by kernel_rfl)

theorem u_nat_school (a1 : Sl) (a2 : Sl) (h : AH) : go (.fn F.nat_school [a1.v, a2.v]) h =
  (makeSliceH (IntKind.wrap .i64 ((a1.len : Int) + (a2.len : Int))) (IntKind.wrap .i64 ((a1.len : Int) + (a2.len : Int))) T.uint64 (Pg.bytesOf T.uint64) [.int .u64 0] h).bind fun q3 =>
  go (.pt F.nat_school Td.nat_school_3 [(1, a2.v), (5, q3.1.v), (20, a1.v), (21, .int .i64 (a1.len : Int)), (22, .int .i64 0)]) q3.2 := (go_step _ h).trans (by kernel_rfl)

theorem u_nat_product_1_1 (a1 : Sl) (a2 : Ref) (h : AH) : go (.fn F.nat_product_1_1 [a1.v, .ptr (some a2)]) h =
  ((h.cell a2).bind (AV.asInt .i64)).bind fun n3 =>
  (cutSl a1 0 (imin n3 (a1.len : Int)) 1).bind fun l4 =>
  (go (.fn F.nat_trim [l4.v]) h).bind fun q5 =>
  ((some q5.1).bind AV.asSl).bind fun l6 =>
  some (l6.v, q5.2) := (go_step _ h).trans (by kernel_rfl)

theorem u_nat_product_1_2 (a1 : Sl) (a2 : Ref) (h : AH) : go (.fn F.nat_product_1_2 [a1.v, .ptr (some a2)]) h =
  ((h.cell a2).bind (AV.asInt .i64)).bind fun n3 =>
  (cutSl a1 (imin n3 (a1.len : Int)) (a1.len : Int) 1).bind fun l4 =>
  some (l4.v, h) := (go_step _ h).trans (by kernel_rfl)

theorem u_nat_sum (a1 : Sl) (a2 : Sl) (h : AH) : go (.fn F.nat_sum [a1.v, a2.v]) h =
  cond (decide ((a1.len : Int) < (a2.len : Int))) (
  (makeSliceH (IntKind.wrap .i64 ((a2.len : Int) + 1)) (IntKind.wrap .i64 ((a2.len : Int) + 1)) T.uint64 (Pg.bytesOf T.uint64) [.int .u64 0] h).bind fun q3 =>
  go (.pt F.nat_sum Td.nat_sum_6 [(0, a2.v), (1, a1.v), (5, q3.1.v), (6, .int .u64 0), (21, .int .i64 (a2.len : Int)), (22, .int .i64 0)]) q3.2) (
  (makeSliceH (IntKind.wrap .i64 ((a1.len : Int) + 1)) (IntKind.wrap .i64 ((a1.len : Int) + 1)) T.uint64 (Pg.bytesOf T.uint64) [.int .u64 0] h).bind fun q4 =>
  go (.pt F.nat_sum Td.nat_sum_6 [(0, a1.v), (1, a2.v), (5, q4.1.v), (6, .int .u64 0), (21, .int .i64 (a1.len : Int)), (22, .int .i64 0)]) q4.2) := (go_step _ h).trans (by kernel_rfl)

theorem u_nat_trim (a1 : Sl) (h : AH) : go (.fn F.nat_trim [a1.v]) h =
  go (.pt F.nat_trim Td.nat_trim_2 [(0, a1.v), (3, .int .i64 (a1.len : Int))]) h := (go_step _ h).trans (by kernel_rfl)

theorem u_nat_less (a1 : Sl) (a2 : Sl) (h : AH) : go (.fn F.nat_less [a1.v, a2.v]) h =
  (makeSliceH (a1.len : Int) (a1.len : Int) T.uint64 (Pg.bytesOf T.uint64) [.int .u64 0] h).bind fun q3 =>
  go (.pt F.nat_less Td.nat_less_4 [(0, a1.v), (1, a2.v), (5, q3.1.v), (6, .int .u64 0), (13, .int .i64 (a1.len : Int)), (14, .int .i64 0)]) q3.2 := (go_step _ h).trans (by kernel_rfl)

theorem u_nat_into (a1 : Sl) (a2 : Sl) (a3 : Int) (h : AH) : go (.fn F.nat_into [a1.v, a2.v, .int .i64 a3]) h =
  go (.pt F.nat_into Td.nat_into_2 [(0, a1.v), (1, a2.v), (2, .int .i64 a3), (6, .int .u64 0), (7, .int .i64 a3)]) h := (go_step _ h).trans (by kernel_rfl)

theorem p_law08_few_2 (a1 : Sl) (a2 : Int) (h : AH) : go (.pt F.law08_few Td.law08_few_2 [(0, a1.v), (3, .int .i64 a2)]) h =
  cond (decide (a2 < (a1.len : Int))) (
  (idx a1.ref a1.len a2 3).bind fun r3 =>
  ((h.cell ((r3.add 0).add 1)).bind AV.asSl).bind fun l4 =>
  cond (decide ((l4.len : Int) > 20)) (
  some (.bool false, h)) (
  (idx a1.ref a1.len a2 3).bind fun r5 =>
  ((h.cell (r5.add 2)).bind AV.asSl).bind fun l6 =>
  cond (decide ((l6.len : Int) > 20)) (
  some (.bool false, h)) (
  go (.pt F.law08_few Td.law08_few_2 [(0, a1.v), (3, .int .i64 (IntKind.wrap .i64 (a2 + 1)))]) h))) (
  some (.bool true, h)) := (go_step _ h).trans (by kernel_rfl)

theorem u_modint_Right (a1 : Bool) (a2 : Sl) (h : AH) : go (.fn F.modint_Right [.agg [.bool a1, a2.v]]) h =
  newK h (.cells [.bool a1, a2.v] T.api_Int) fun h3r h3 =>
  ((h3.cell (h3r.add 1)).bind AV.asSl).bind fun l4 =>
  (go (.fn F.nat_Right [l4.v]) h3).bind fun q5 =>
  ((some q5.1).bind AV.asBool).bind fun b6 =>
  cond b6 (
  ((q5.2.cell (h3r.add 0)).bind AV.asBool).bind fun b7 =>
  cond (!b7) (
  some (.bool true, q5.2)) (
  ((q5.2.cell (h3r.add 1)).bind AV.asSl).bind fun l8 =>
  some (.bool (decide ((l8.len : Int) > 0)), q5.2))) (
  some (.bool false, q5.2)) := (go_step _ h).trans (by kernel_rfl)

theorem u_nat_Right (a1 : Sl) (h : AH) : go (.fn F.nat_Right [a1.v]) h =
  cond (decide ((a1.len : Int) ≤ 64)) (
  cond (decide ((a1.len : Int) = 0)) (
  some (.bool true, h)) (
  (idx a1.ref a1.len (IntKind.wrap .i64 ((a1.len : Int) - 1)) 1).bind fun r2 =>
  ((h.cell r2).bind (AV.asInt .u64)).bind fun n3 =>
  some (.bool (!decide (n3 = 0)), h))) (
  some (.bool false, h)) := (go_step _ h).trans (by kernel_rfl)

theorem u_modint_Gcd (a1 : Sl) (a2 : Sl) (h : AH) : go (.fn F.modint_Gcd [a1.v, a2.v]) h =
  (go (.fn F.nat_Right [a1.v]) h).bind fun q3 =>
  ((some q3.1).bind AV.asBool).bind fun b4 =>
  cond (!b4) (
  some (.tup [(⟨none, 0, .is 0⟩ : Sl).v, .int .i64 1], q3.2)) (
  (go (.fn F.nat_Right [a2.v]) q3.2).bind fun q5 =>
  ((some q5.1).bind AV.asBool).bind fun b6 =>
  cond (!b6) (
  some (.tup [(⟨none, 0, .is 0⟩ : Sl).v, .int .i64 1], q5.2)) (
  (go (.fn F.slices_Clone_api_Nat_uint64 [a1.v]) q5.2).bind fun q7 =>
  ((some q7.1).bind AV.asSl).bind fun l8 =>
  (go (.fn F.slices_Clone_api_Nat_uint64 [a2.v]) q7.2).bind fun q9 =>
  ((some q9.1).bind AV.asSl).bind fun l10 =>
  go (.pt F.modint_Gcd Td.modint_Gcd_4 [(0, l8.v), (1, l10.v)]) q9.2)) := (go_step _ h).trans (by kernel_rfl)

theorem u_nat_Div (a1 : Sl) (a2 : Sl) (h : AH) : go (.fn F.nat_Div [a1.v, a2.v]) h =
  newK h (.cells [a1.v, a2.v] T.api_Nat) fun h3r h3 =>
  (go (.fn F.nat_right [(⟨some h3r, 2, .is 2⟩ : Sl).v]) h3).bind fun q4 =>
  ((some q4.1).bind AV.asBool).bind fun b5 =>
  cond (!b5) (
  some (.tup [(⟨none, 0, .is 0⟩ : Sl).v, (⟨none, 0, .is 0⟩ : Sl).v, .int .i64 1], q4.2)) (
  cond (decide ((a2.len : Int) = 0)) (
  some (.tup [(⟨none, 0, .is 0⟩ : Sl).v, (⟨none, 0, .is 0⟩ : Sl).v, .int .i64 3], q4.2)) (
  (go (.fn F.nat_compare [a1.v, a2.v]) q4.2).bind fun q6 =>
  ((some q6.1).bind (AV.asInt .i64)).bind fun n7 =>
  cond (decide (n7 < 0)) (
  (go (.fn F.slices_Clone_api_Nat_uint64 [a1.v]) q6.2).bind fun q8 =>
  ((some q8.1).bind AV.asSl).bind fun l9 =>
  some (.tup [(⟨none, 0, .is 0⟩ : Sl).v, l9.v, .int .i64 0], q8.2)) (
  cond (decide ((a2.len : Int) = 1)) (
  (idx a2.ref a2.len 0 1).bind fun r10 =>
  ((q6.2.cell r10).bind (AV.asInt .u64)).bind fun n11 =>
  (go (.fn F.nat_short [a1.v, .int .u64 n11]) q6.2).bind fun q12 =>
  (AV.asTup2 q12.1).bind fun p13 =>
  ((some p13.1).bind AV.asSl).bind fun l14 =>
  ((some p13.2).bind (AV.asInt .u64)).bind fun n15 =>
  (go (.fn F.nat_Of [.int .u64 n15]) q12.2).bind fun q16 =>
  ((some q16.1).bind AV.asSl).bind fun l17 =>
  some (.tup [l14.v, l17.v, .int .i64 0], q16.2)) (
  (go (.fn F.nat_long [a1.v, a2.v]) q6.2).bind fun q18 =>
  (AV.asTup2 q18.1).bind fun p19 =>
  ((some p19.1).bind AV.asSl).bind fun l20 =>
  ((some p19.2).bind AV.asSl).bind fun l21 =>
  some (.tup [l20.v, l21.v, .int .i64 0], q18.2))))) := (go_step _ h).trans (by kernel_rfl)

theorem u_modint_From (a1 : Bool) (a2 : Sl) (h : AH) : go (.fn F.modint_From [.bool a1, a2.v]) h =
  newK h (.cells [.bool false, (⟨none, 0, .is 0⟩ : Sl).v] T.api_Int) fun h3r h3 =>
  (go (.fn F.nat_Right [a2.v]) h3).bind fun q4 =>
  ((some q4.1).bind AV.asBool).bind fun b5 =>
  cond (!b5) (
  (q4.2.puts h3r [.bool false, (⟨none, 0, .is 0⟩ : Sl).v]).bind fun h6 =>
  ((h6.cell (h3r.add 0)).bind AV.asBool).bind fun b7 =>
  ((h6.cell (h3r.add 1)).bind AV.asSl).bind fun l8 =>
  some (.agg [.bool b7, l8.v], h6)) (
  cond (decide ((a2.len : Int) = 0)) (
  (q4.2.puts h3r [.bool false, (⟨none, 0, .is 0⟩ : Sl).v]).bind fun h9 =>
  ((h9.cell (h3r.add 0)).bind AV.asBool).bind fun b10 =>
  ((h9.cell (h3r.add 1)).bind AV.asSl).bind fun l11 =>
  some (.agg [.bool b10, l11.v], h9)) (
  (go (.fn F.slices_Clone_api_Nat_uint64 [a2.v]) q4.2).bind fun q12 =>
  ((some q12.1).bind AV.asSl).bind fun l13 =>
  (q12.2.puts h3r [.bool a1, l13.v]).bind fun h14 =>
  ((h14.cell (h3r.add 0)).bind AV.asBool).bind fun b15 =>
  ((h14.cell (h3r.add 1)).bind AV.asSl).bind fun l16 =>
  some (.agg [.bool b15, l16.v], h14))) := (go_step _ h).trans (by kernel_rfl)

theorem u_ref03_Right (a1 : Bool) (a2 : Sl) (h : AH) : go (.fn F.ref03_Right [.agg [.bool a1, a2.v]]) h =
  newK h (.cells [.bool a1, a2.v] T.api_Int) fun h3r h3 =>
  ((h3.cell (h3r.add 1)).bind AV.asSl).bind fun l4 =>
  (go (.fn F.ref01_Right [l4.v]) h3).bind fun q5 =>
  ((some q5.1).bind AV.asBool).bind fun b6 =>
  cond b6 (
  ((q5.2.cell (h3r.add 0)).bind AV.asBool).bind fun b7 =>
  cond (!b7) (
  some (.bool true, q5.2)) (
  ((q5.2.cell (h3r.add 1)).bind AV.asSl).bind fun l8 =>
  some (.bool (decide ((l8.len : Int) > 0)), q5.2))) (
  some (.bool false, q5.2)) := (go_step _ h).trans (by kernel_rfl)

theorem u_ref01_Right (a1 : Sl) (h : AH) : go (.fn F.ref01_Right [a1.v]) h =
  cond (decide ((a1.len : Int) ≤ 64)) (
  cond (decide ((a1.len : Int) = 0)) (
  some (.bool true, h)) (
  (idx a1.ref a1.len (IntKind.wrap .i64 ((a1.len : Int) - 1)) 1).bind fun r2 =>
  ((h.cell r2).bind (AV.asInt .u64)).bind fun n3 =>
  some (.bool (!decide (n3 = 0)), h))) (
  some (.bool false, h)) := (go_step _ h).trans (by kernel_rfl)

theorem u_ref03_Gcd (a1 : Sl) (a2 : Sl) (h : AH) : go (.fn F.ref03_Gcd [a1.v, a2.v]) h =
  (go (.fn F.ref01_Right [a1.v]) h).bind fun q3 =>
  ((some q3.1).bind AV.asBool).bind fun b4 =>
  (go (.fn F.ref01_Right [a2.v]) q3.2).bind fun q5 =>
  ((some q5.1).bind AV.asBool).bind fun b6 =>
  cond (!b4) (
  some (.tup [(⟨none, 0, .is 0⟩ : Sl).v, .int .i64 1], q5.2)) (
  cond (!b6) (
  some (.tup [(⟨none, 0, .is 0⟩ : Sl).v, .int .i64 1], q5.2)) (
  newK q5.2 (.cells [] T.uint64) fun h7r h7 =>
  (appendArgs Pg T.uint64 a1.v h7).bind fun p9 =>
  (appendH Pg (⟨some h7r, 0, .is 0⟩ : Sl) p9.1 p9.2 T.uint64 1 h7).bind fun q8 =>
  (AV.asSl q8.1).bind fun l10 =>
  newK q8.2 (.cells [] T.uint64) fun h11r h11 =>
  (appendArgs Pg T.uint64 a2.v h11).bind fun p13 =>
  (appendH Pg (⟨some h11r, 0, .is 0⟩ : Sl) p13.1 p13.2 T.uint64 1 h11).bind fun q12 =>
  (AV.asSl q12.1).bind fun l14 =>
  go (.pt F.ref03_Gcd Td.ref03_Gcd_7 [(8, l10.v), (9, l14.v)]) q12.2)) := (go_step _ h).trans (by kernel_rfl)

theorem u_ref01_Div (a1 : Sl) (a2 : Sl) (h : AH) : go (.fn F.ref01_Div [a1.v, a2.v]) h =
  (go (.fn F.ref01_Right [a1.v]) h).bind fun q3 =>
  ((some q3.1).bind AV.asBool).bind fun b4 =>
  (go (.fn F.ref01_Right [a2.v]) q3.2).bind fun q5 =>
  ((some q5.1).bind AV.asBool).bind fun b6 =>
  cond (!b4) (
  some (.tup [(⟨none, 0, .is 0⟩ : Sl).v, (⟨none, 0, .is 0⟩ : Sl).v, .int .i64 1], q5.2)) (
  cond (!b6) (
  some (.tup [(⟨none, 0, .is 0⟩ : Sl).v, (⟨none, 0, .is 0⟩ : Sl).v, .int .i64 1], q5.2)) (
  cond (decide ((a2.len : Int) = 0)) (
  some (.tup [(⟨none, 0, .is 0⟩ : Sl).v, (⟨none, 0, .is 0⟩ : Sl).v, .int .i64 3], q5.2)) (
  (go (.fn F.ref01_In [a1.v]) q5.2).bind fun q7 =>
  ((some q7.1).bind AV.asSl).bind fun l8 =>
  (go (.fn F.ref01_In [a2.v]) q7.2).bind fun q9 =>
  ((some q9.1).bind AV.asSl).bind fun l10 =>
  (go (.fn F.ref01_div [l8.v, l10.v]) q9.2).bind fun q11 =>
  (AV.asTup2 q11.1).bind fun p12 =>
  ((some p12.1).bind AV.asSl).bind fun l13 =>
  ((some p12.2).bind AV.asSl).bind fun l14 =>
  (go (.fn F.ref01_Out [l13.v]) q11.2).bind fun q15 =>
  (AV.asTup2 q15.1).bind fun p16 =>
  ((some p16.1).bind AV.asSl).bind fun l17 =>
  ((some p16.2).bind AV.asBool).bind fun b18 =>
  (go (.fn F.ref01_Out [l14.v]) q15.2).bind fun q19 =>
  (AV.asTup2 q19.1).bind fun p20 =>
  ((some p20.1).bind AV.asSl).bind fun l21 =>
  ((some p20.2).bind AV.asBool).bind fun b22 =>
  some (.tup [l17.v, l21.v, .int .i64 0], q19.2)))) := (go_step _ h).trans (by kernel_rfl)

theorem u_ref03_From (a1 : Bool) (a2 : Sl) (h : AH) : go (.fn F.ref03_From [.bool a1, a2.v]) h =
  newK h (.cells [.bool false, (⟨none, 0, .is 0⟩ : Sl).v] T.api_Int) fun h3r h3 =>
  (go (.fn F.ref01_Right [a2.v]) h3).bind fun q4 =>
  ((some q4.1).bind AV.asBool).bind fun b5 =>
  cond (!b5) (
  (q4.2.puts h3r [.bool false, (⟨none, 0, .is 0⟩ : Sl).v]).bind fun h6 =>
  ((h6.cell (h3r.add 0)).bind AV.asBool).bind fun b7 =>
  ((h6.cell (h3r.add 1)).bind AV.asSl).bind fun l8 =>
  some (.agg [.bool b7, l8.v], h6)) (
  cond (decide ((a2.len : Int) = 0)) (
  (q4.2.puts h3r [.bool false, (⟨none, 0, .is 0⟩ : Sl).v]).bind fun h9 =>
  ((h9.cell (h3r.add 0)).bind AV.asBool).bind fun b10 =>
  ((h9.cell (h3r.add 1)).bind AV.asSl).bind fun l11 =>
  some (.agg [.bool b10, l11.v], h9)) (
  newK q4.2 (.cells [] T.uint64) fun h12r h12 =>
  (appendArgs Pg T.uint64 a2.v h12).bind fun p14 =>
  (appendH Pg (⟨some h12r, 0, .is 0⟩ : Sl) p14.1 p14.2 T.uint64 1 h12).bind fun q13 =>
  (AV.asSl q13.1).bind fun l15 =>
  (q13.2.puts h3r [.bool a1, l15.v]).bind fun h16 =>
  ((h16.cell (h3r.add 0)).bind AV.asBool).bind fun b17 =>
  ((h16.cell (h3r.add 1)).bind AV.asSl).bind fun l18 =>
  some (.agg [.bool b17, l18.v], h16))) := (go_step _ h).trans (by kernel_rfl)

theorem u_ref01_Same (a1 : Sl) (a2 : Sl) (h : AH) : go (.fn F.ref01_Same [a1.v, a2.v]) h =
  cond (!decide ((a1.len : Int) = (a2.len : Int))) (
  some (.bool false, h)) (
  go (.pt F.ref01_Same Td.ref01_Same_4 [(0, a1.v), (1, a2.v), (5, .int .i64 0)]) h) := (go_step _ h).trans (by kernel_rfl)

theorem u_nat_Cmp (a1 : Sl) (a2 : Sl) (h : AH) : go (.fn F.nat_Cmp [a1.v, a2.v]) h =
  newK h (.cells [a1.v, a2.v] T.api_Nat) fun h3r h3 =>
  (go (.fn F.nat_right [(⟨some h3r, 2, .is 2⟩ : Sl).v]) h3).bind fun q4 =>
  ((some q4.1).bind AV.asBool).bind fun b5 =>
  cond (!b5) (
  some (.int .i64 0, q4.2)) (
  (go (.fn F.nat_compare [a1.v, a2.v]) q4.2).bind fun q6 =>
  ((some q6.1).bind (AV.asInt .i64)).bind fun n7 =>
  some (.int .i64 n7, q6.2)) := (go_step _ h).trans (by kernel_rfl)

theorem u_ref01_Of (a1 : Int) (h : AH) : go (.fn F.ref01_Of [.int .u64 a1]) h =
  cond (decide (a1 = 0)) (
  some ((⟨none, 0, .is 0⟩ : Sl).v, h)) (
  newK h (.cells [.int .u64 a1] T.uint64) fun h2r h2 =>
  some ((⟨some h2r, 1, .is 1⟩ : Sl).v, h2)) := (go_step _ h).trans (by kernel_rfl)

theorem u_ref01_Cmp (a1 : Sl) (a2 : Sl) (h : AH) : go (.fn F.ref01_Cmp [a1.v, a2.v]) h =
  (go (.fn F.ref01_Right [a1.v]) h).bind fun q3 =>
  ((some q3.1).bind AV.asBool).bind fun b4 =>
  (go (.fn F.ref01_Right [a2.v]) q3.2).bind fun q5 =>
  ((some q5.1).bind AV.asBool).bind fun b6 =>
  cond (!b4) (
  some (.int .i64 0, q5.2)) (
  cond (!b6) (
  some (.int .i64 0, q5.2)) (
  (go (.fn F.ref01_In [a1.v]) q5.2).bind fun q7 =>
  ((some q7.1).bind AV.asSl).bind fun l8 =>
  (go (.fn F.ref01_In [a2.v]) q7.2).bind fun q9 =>
  ((some q9.1).bind AV.asSl).bind fun l10 =>
  (go (.fn F.ref01_compare [l8.v, l10.v]) q9.2).bind fun q11 =>
  ((some q11.1).bind (AV.asInt .i64)).bind fun n12 =>
  some (.int .i64 n12, q11.2))) := (go_step _ h).trans (by kernel_rfl)

theorem u_rational_both__modint_Add (a1 : Bool) (a2 : Sl) (a3 : Sl) (a4 : Bool) (a5 : Sl) (a6 : Sl) (h : AH) : go (.fn F.rational_both [.agg [.bool a1, a2.v, a3.v], .agg [.bool a4, a5.v, a6.v], .func (.func F.modint_Add) [] []]) h =
  newK h (.cells [.bool a1, a2.v, a3.v] T.api_Frac) fun h7r h7 =>
  newK h7 (.cells [.bool a4, a5.v, a6.v] T.api_Frac) fun h8r h8 =>
  newK h8 (.cells [.bool false, (⟨none, 0, .is 0⟩ : Sl).v, (⟨none, 0, .is 0⟩ : Sl).v] T.api_Frac) fun h9r h9 =>
  ((h9.cell (h7r.add 0)).bind AV.asBool).bind fun b10 =>
  ((h9.cell (h7r.add 1)).bind AV.asSl).bind fun l11 =>
  ((h9.cell (h7r.add 2)).bind AV.asSl).bind fun l12 =>
  ((h9.cell (h8r.add 0)).bind AV.asBool).bind fun b13 =>
  ((h9.cell (h8r.add 1)).bind AV.asSl).bind fun l14 =>
  ((h9.cell (h8r.add 2)).bind AV.asSl).bind fun l15 =>
  newK h9 (.cells [.bool b10, l11.v, l12.v, .bool b13, l14.v, l15.v] T.api_Frac) fun h16r h16 =>
  (go (.fn F.rational_right [(⟨some h16r, 2, .is 2⟩ : Sl).v]) h16).bind fun q17 =>
  ((some q17.1).bind AV.asBool).bind fun b18 =>
  cond (!b18) (
  (q17.2.puts h9r [.bool false, (⟨none, 0, .is 0⟩ : Sl).v, (⟨none, 0, .is 0⟩ : Sl).v]).bind fun h19 =>
  ((h19.cell (h9r.add 0)).bind AV.asBool).bind fun b20 =>
  ((h19.cell (h9r.add 1)).bind AV.asSl).bind fun l21 =>
  ((h19.cell (h9r.add 2)).bind AV.asSl).bind fun l22 =>
  some (.tup [.agg [.bool b20, l21.v, l22.v], .int .i64 1], h19)) (
  newK q17.2 (.cells [.bool false, (⟨none, 0, .is 0⟩ : Sl).v] T.api_Int) fun h23r h23 =>
  ((h23.cell (h7r.add 0)).bind AV.asBool).bind fun b24 =>
  ((h23.cell (h7r.add 1)).bind AV.asSl).bind fun l25 =>
  ((h23.cell (h7r.add 2)).bind AV.asSl).bind fun l26 =>
  ((h23.cell (h8r.add 0)).bind AV.asBool).bind fun b27 =>
  ((h23.cell (h8r.add 1)).bind AV.asSl).bind fun l28 =>
  ((h23.cell (h8r.add 2)).bind AV.asSl).bind fun l29 =>
  ((h23.cell (h8r.add 0)).bind AV.asBool).bind fun b30 =>
  ((h23.cell (h8r.add 1)).bind AV.asSl).bind fun l31 =>
  ((h23.cell (h8r.add 2)).bind AV.asSl).bind fun l32 =>
  ((h23.cell (h7r.add 0)).bind AV.asBool).bind fun b33 =>
  ((h23.cell (h7r.add 1)).bind AV.asSl).bind fun l34 =>
  ((h23.cell (h7r.add 2)).bind AV.asSl).bind fun l35 =>
  (go (.fn F.rational_over [.agg [.bool b24, l25.v, l26.v], .agg [.bool b27, l28.v, l29.v]]) h23).bind fun q36 =>
  (AV.asAgg q36.1).bind fun cs37 =>
  cond (Nat.beq cs37.length 2) (
  ((cs37[0]?).bind AV.asBool).bind fun b38 =>
  ((cs37[1]?).bind AV.asSl).bind fun l39 =>
  whenK (SameAt h23 q36.2 h7r 3) (
  whenK (SameAt h23 q36.2 h8r 3) (
  whenK (SameAt h23 q36.2 h23r 0) (
  (go (.fn F.rational_over [.agg [.bool b30, l31.v, l32.v], .agg [.bool b33, l34.v, l35.v]]) q36.2).bind fun q40 =>
  (AV.asAgg q40.1).bind fun cs41 =>
  cond (Nat.beq cs41.length 2) (
  ((cs41[0]?).bind AV.asBool).bind fun b42 =>
  ((cs41[1]?).bind AV.asSl).bind fun l43 =>
  whenK (SameAt q36.2 q40.2 h23r 0) (
  (go (.fn F.modint_Add [.agg [.bool b38, l39.v], .agg [.bool b42, l43.v]]) q40.2).bind fun q44 =>
  (AV.asTup2 q44.1).bind fun p45 =>
  (AV.asAgg p45.1).bind fun cs46 =>
  cond (Nat.beq cs46.length 2) (
  ((cs46[0]?).bind AV.asBool).bind fun b47 =>
  ((cs46[1]?).bind AV.asSl).bind fun l48 =>
  ((some p45.2).bind (AV.asInt .i64)).bind fun n49 =>
  whenK (SameAt q40.2 q44.2 h23r 0) (
  (q44.2.puts h23r [.bool b47, l48.v]).bind fun h50 =>
  ((h50.cell (h7r.add 2)).bind AV.asSl).bind fun l51 =>
  ((h50.cell (h8r.add 2)).bind AV.asSl).bind fun l52 =>
  (go (.fn F.nat_Mul [l51.v, l52.v]) h50).bind fun q53 =>
  (AV.asTup2 q53.1).bind fun p54 =>
  ((some p54.1).bind AV.asSl).bind fun l55 =>
  ((some p54.2).bind (AV.asInt .i64)).bind fun n56 =>
  ((q53.2.cell (h23r.add 0)).bind AV.asBool).bind fun b57 =>
  ((q53.2.cell (h23r.add 1)).bind AV.asSl).bind fun l58 =>
  (go (.fn F.rational_Make [.agg [.bool b57, l58.v], l55.v]) q53.2).bind fun q59 =>
  (AV.asTup2 q59.1).bind fun p60 =>
  (AV.asAgg p60.1).bind fun cs61 =>
  cond (Nat.beq cs61.length 3) (
  ((cs61[0]?).bind AV.asBool).bind fun b62 =>
  ((cs61[1]?).bind AV.asSl).bind fun l63 =>
  ((cs61[2]?).bind AV.asSl).bind fun l64 =>
  ((some p60.2).bind (AV.asInt .i64)).bind fun n65 =>
  (q59.2.puts h9r [.bool b62, l63.v, l64.v]).bind fun h66 =>
  ((h66.cell (h9r.add 0)).bind AV.asBool).bind fun b67 =>
  ((h66.cell (h9r.add 1)).bind AV.asSl).bind fun l68 =>
  ((h66.cell (h9r.add 2)).bind AV.asSl).bind fun l69 =>
  some (.tup [.agg [.bool b67, l68.v, l69.v], .int .i64 n65], h66)) none)) none)) none)))) none) := (go_step _ h).trans (by kernel_rfl)

theorem u_ref08_over (a1 : Bool) (a2 : Sl) (a3 : Sl) (a4 : Bool) (a5 : Sl) (a6 : Sl) (h : AH) : go (.fn F.ref08_over [.agg [.bool a1, a2.v, a3.v], .agg [.bool a4, a5.v, a6.v]]) h =
  newK h (.cells [.bool a1, a2.v, a3.v] T.api_Frac) fun h7r h7 =>
  newK h7 (.cells [.bool a4, a5.v, a6.v] T.api_Frac) fun h8r h8 =>
  newK h8 (.cells [.bool false, (⟨none, 0, .is 0⟩ : Sl).v] T.api_Int) fun h9r h9 =>
  newK h9 (.cells [.bool false, (⟨none, 0, .is 0⟩ : Sl).v] T.api_Int) fun h10r h10 =>
  ((h10.cell ((h7r.add 0).add 0)).bind AV.asBool).bind fun b11 =>
  ((h10.cell ((h7r.add 0).add 1)).bind AV.asSl).bind fun l12 =>
  ((h10.cell (h8r.add 2)).bind AV.asSl).bind fun l13 =>
  (go (.fn F.ref03_From [.bool false, l13.v]) h10).bind fun q14 =>
  (AV.asAgg q14.1).bind fun cs15 =>
  cond (Nat.beq cs15.length 2) (
  ((cs15[0]?).bind AV.asBool).bind fun b16 =>
  ((cs15[1]?).bind AV.asSl).bind fun l17 =>
  whenK (SameAt h10 q14.2 (h7r.add 0) 2) (
  whenK (SameAt h10 q14.2 h10r 0) (
  (go (.fn F.ref03_Mul [.agg [.bool b11, l12.v], .agg [.bool b16, l17.v]]) q14.2).bind fun q18 =>
  (AV.asTup2 q18.1).bind fun p19 =>
  (AV.asAgg p19.1).bind fun cs20 =>
  cond (Nat.beq cs20.length 2) (
  ((cs20[0]?).bind AV.asBool).bind fun b21 =>
  ((cs20[1]?).bind AV.asSl).bind fun l22 =>
  ((some p19.2).bind (AV.asInt .i64)).bind fun n23 =>
  whenK (SameAt q14.2 q18.2 h10r 0) (
  (q18.2.puts h10r [.bool b21, l22.v]).bind fun h24 =>
  ((h24.cell (h10r.add 0)).bind AV.asBool).bind fun b25 =>
  ((h24.cell (h10r.add 1)).bind AV.asSl).bind fun l26 =>
  (h24.puts h9r [.bool b25, l26.v]).bind fun h27 =>
  ((h27.cell (h9r.add 0)).bind AV.asBool).bind fun b28 =>
  ((h27.cell (h9r.add 1)).bind AV.asSl).bind fun l29 =>
  some (.agg [.bool b28, l29.v], h27))) none))) none := (go_step _ h).trans (by kernel_rfl)

theorem u_ref01_Mul (a1 : Sl) (a2 : Sl) (h : AH) : go (.fn F.ref01_Mul [a1.v, a2.v]) h =
  (go (.fn F.ref01_Right [a1.v]) h).bind fun q3 =>
  ((some q3.1).bind AV.asBool).bind fun b4 =>
  (go (.fn F.ref01_Right [a2.v]) q3.2).bind fun q5 =>
  ((some q5.1).bind AV.asBool).bind fun b6 =>
  cond (!b4) (
  some (.tup [(⟨none, 0, .is 0⟩ : Sl).v, .int .i64 1], q5.2)) (
  cond (!b6) (
  some (.tup [(⟨none, 0, .is 0⟩ : Sl).v, .int .i64 1], q5.2)) (
  (go (.fn F.ref01_In [a1.v]) q5.2).bind fun q7 =>
  ((some q7.1).bind AV.asSl).bind fun l8 =>
  (go (.fn F.ref01_In [a2.v]) q7.2).bind fun q9 =>
  ((some q9.1).bind AV.asSl).bind fun l10 =>
  (go (.fn F.ref01_mul [l8.v, l10.v]) q9.2).bind fun q11 =>
  ((some q11.1).bind AV.asSl).bind fun l12 =>
  (go (.fn F.ref01_told [l12.v]) q11.2).bind fun q13 =>
  (AV.asTup2 q13.1).bind fun p14 =>
  ((some p14.1).bind AV.asSl).bind fun l15 =>
  ((some p14.2).bind (AV.asInt .i64)).bind fun n16 =>
  some (.tup [l15.v, .int .i64 n16], q13.2))) := (go_step _ h).trans (by kernel_rfl)

theorem u_rational_both__modint_Sub (a1 : Bool) (a2 : Sl) (a3 : Sl) (a4 : Bool) (a5 : Sl) (a6 : Sl) (h : AH) : go (.fn F.rational_both [.agg [.bool a1, a2.v, a3.v], .agg [.bool a4, a5.v, a6.v], .func (.func F.modint_Sub) [] []]) h =
  newK h (.cells [.bool a1, a2.v, a3.v] T.api_Frac) fun h7r h7 =>
  newK h7 (.cells [.bool a4, a5.v, a6.v] T.api_Frac) fun h8r h8 =>
  newK h8 (.cells [.bool false, (⟨none, 0, .is 0⟩ : Sl).v, (⟨none, 0, .is 0⟩ : Sl).v] T.api_Frac) fun h9r h9 =>
  ((h9.cell (h7r.add 0)).bind AV.asBool).bind fun b10 =>
  ((h9.cell (h7r.add 1)).bind AV.asSl).bind fun l11 =>
  ((h9.cell (h7r.add 2)).bind AV.asSl).bind fun l12 =>
  ((h9.cell (h8r.add 0)).bind AV.asBool).bind fun b13 =>
  ((h9.cell (h8r.add 1)).bind AV.asSl).bind fun l14 =>
  ((h9.cell (h8r.add 2)).bind AV.asSl).bind fun l15 =>
  newK h9 (.cells [.bool b10, l11.v, l12.v, .bool b13, l14.v, l15.v] T.api_Frac) fun h16r h16 =>
  (go (.fn F.rational_right [(⟨some h16r, 2, .is 2⟩ : Sl).v]) h16).bind fun q17 =>
  ((some q17.1).bind AV.asBool).bind fun b18 =>
  cond (!b18) (
  (q17.2.puts h9r [.bool false, (⟨none, 0, .is 0⟩ : Sl).v, (⟨none, 0, .is 0⟩ : Sl).v]).bind fun h19 =>
  ((h19.cell (h9r.add 0)).bind AV.asBool).bind fun b20 =>
  ((h19.cell (h9r.add 1)).bind AV.asSl).bind fun l21 =>
  ((h19.cell (h9r.add 2)).bind AV.asSl).bind fun l22 =>
  some (.tup [.agg [.bool b20, l21.v, l22.v], .int .i64 1], h19)) (
  newK q17.2 (.cells [.bool false, (⟨none, 0, .is 0⟩ : Sl).v] T.api_Int) fun h23r h23 =>
  ((h23.cell (h7r.add 0)).bind AV.asBool).bind fun b24 =>
  ((h23.cell (h7r.add 1)).bind AV.asSl).bind fun l25 =>
  ((h23.cell (h7r.add 2)).bind AV.asSl).bind fun l26 =>
  ((h23.cell (h8r.add 0)).bind AV.asBool).bind fun b27 =>
  ((h23.cell (h8r.add 1)).bind AV.asSl).bind fun l28 =>
  ((h23.cell (h8r.add 2)).bind AV.asSl).bind fun l29 =>
  ((h23.cell (h8r.add 0)).bind AV.asBool).bind fun b30 =>
  ((h23.cell (h8r.add 1)).bind AV.asSl).bind fun l31 =>
  ((h23.cell (h8r.add 2)).bind AV.asSl).bind fun l32 =>
  ((h23.cell (h7r.add 0)).bind AV.asBool).bind fun b33 =>
  ((h23.cell (h7r.add 1)).bind AV.asSl).bind fun l34 =>
  ((h23.cell (h7r.add 2)).bind AV.asSl).bind fun l35 =>
  (go (.fn F.rational_over [.agg [.bool b24, l25.v, l26.v], .agg [.bool b27, l28.v, l29.v]]) h23).bind fun q36 =>
  (AV.asAgg q36.1).bind fun cs37 =>
  cond (Nat.beq cs37.length 2) (
  ((cs37[0]?).bind AV.asBool).bind fun b38 =>
  ((cs37[1]?).bind AV.asSl).bind fun l39 =>
  whenK (SameAt h23 q36.2 h7r 3) (
  whenK (SameAt h23 q36.2 h8r 3) (
  whenK (SameAt h23 q36.2 h23r 0) (
  (go (.fn F.rational_over [.agg [.bool b30, l31.v, l32.v], .agg [.bool b33, l34.v, l35.v]]) q36.2).bind fun q40 =>
  (AV.asAgg q40.1).bind fun cs41 =>
  cond (Nat.beq cs41.length 2) (
  ((cs41[0]?).bind AV.asBool).bind fun b42 =>
  ((cs41[1]?).bind AV.asSl).bind fun l43 =>
  whenK (SameAt q36.2 q40.2 h23r 0) (
  (go (.fn F.modint_Sub [.agg [.bool b38, l39.v], .agg [.bool b42, l43.v]]) q40.2).bind fun q44 =>
  (AV.asTup2 q44.1).bind fun p45 =>
  (AV.asAgg p45.1).bind fun cs46 =>
  cond (Nat.beq cs46.length 2) (
  ((cs46[0]?).bind AV.asBool).bind fun b47 =>
  ((cs46[1]?).bind AV.asSl).bind fun l48 =>
  ((some p45.2).bind (AV.asInt .i64)).bind fun n49 =>
  whenK (SameAt q40.2 q44.2 h23r 0) (
  (q44.2.puts h23r [.bool b47, l48.v]).bind fun h50 =>
  ((h50.cell (h7r.add 2)).bind AV.asSl).bind fun l51 =>
  ((h50.cell (h8r.add 2)).bind AV.asSl).bind fun l52 =>
  (go (.fn F.nat_Mul [l51.v, l52.v]) h50).bind fun q53 =>
  (AV.asTup2 q53.1).bind fun p54 =>
  ((some p54.1).bind AV.asSl).bind fun l55 =>
  ((some p54.2).bind (AV.asInt .i64)).bind fun n56 =>
  ((q53.2.cell (h23r.add 0)).bind AV.asBool).bind fun b57 =>
  ((q53.2.cell (h23r.add 1)).bind AV.asSl).bind fun l58 =>
  (go (.fn F.rational_Make [.agg [.bool b57, l58.v], l55.v]) q53.2).bind fun q59 =>
  (AV.asTup2 q59.1).bind fun p60 =>
  (AV.asAgg p60.1).bind fun cs61 =>
  cond (Nat.beq cs61.length 3) (
  ((cs61[0]?).bind AV.asBool).bind fun b62 =>
  ((cs61[1]?).bind AV.asSl).bind fun l63 =>
  ((cs61[2]?).bind AV.asSl).bind fun l64 =>
  ((some p60.2).bind (AV.asInt .i64)).bind fun n65 =>
  (q59.2.puts h9r [.bool b62, l63.v, l64.v]).bind fun h66 =>
  ((h66.cell (h9r.add 0)).bind AV.asBool).bind fun b67 =>
  ((h66.cell (h9r.add 1)).bind AV.asSl).bind fun l68 =>
  ((h66.cell (h9r.add 2)).bind AV.asSl).bind fun l69 =>
  some (.tup [.agg [.bool b67, l68.v, l69.v], .int .i64 n65], h66)) none)) none)) none)))) none) := (go_step _ h).trans (by kernel_rfl)

theorem u_ref03_Neg (a1 : Bool) (a2 : Sl) (h : AH) : go (.fn F.ref03_Neg [.agg [.bool a1, a2.v]]) h =
  newK h (.cells [.bool a1, a2.v] T.api_Int) fun h3r h3 =>
  newK h3 (.cells [.bool false, (⟨none, 0, .is 0⟩ : Sl).v] T.api_Int) fun h4r h4 =>
  ((h4.cell (h3r.add 0)).bind AV.asBool).bind fun b5 =>
  ((h4.cell (h3r.add 1)).bind AV.asSl).bind fun l6 =>
  (go (.fn F.ref03_Right [.agg [.bool b5, l6.v]]) h4).bind fun q7 =>
  ((some q7.1).bind AV.asBool).bind fun b8 =>
  cond (!b8) (
  (q7.2.puts h4r [.bool false, (⟨none, 0, .is 0⟩ : Sl).v]).bind fun h9 =>
  ((h9.cell (h4r.add 0)).bind AV.asBool).bind fun b10 =>
  ((h9.cell (h4r.add 1)).bind AV.asSl).bind fun l11 =>
  some (.agg [.bool b10, l11.v], h9)) (
  ((q7.2.cell (h3r.add 0)).bind AV.asBool).bind fun b12 =>
  ((q7.2.cell (h3r.add 1)).bind AV.asSl).bind fun l13 =>
  (go (.fn F.ref03_From [.bool (!b12), l13.v]) q7.2).bind fun q14 =>
  (AV.asAgg q14.1).bind fun cs15 =>
  cond (Nat.beq cs15.length 2) (
  ((cs15[0]?).bind AV.asBool).bind fun b16 =>
  ((cs15[1]?).bind AV.asSl).bind fun l17 =>
  (q14.2.puts h4r [.bool b16, l17.v]).bind fun h18 =>
  ((h18.cell (h4r.add 0)).bind AV.asBool).bind fun b19 =>
  ((h18.cell (h4r.add 1)).bind AV.asSl).bind fun l20 =>
  some (.agg [.bool b19, l20.v], h18)) none) := (go_step _ h).trans (by kernel_rfl)

theorem u_rational_right (a1 : Sl) (h : AH) : go (.fn F.rational_right [a1.v]) h =
  (go (.fn F.slices_ContainsFunc_api_Frac_api_Frac [a1.v, .func (.func F.rational_right_1) [] []]) h).bind fun q2 =>
  ((some q2.1).bind AV.asBool).bind fun b3 =>
  some (.bool (!b3), q2.2) := (go_step _ h).trans (by kernel_rfl)

theorem u_modint_Mul (a1 : Bool) (a2 : Sl) (a3 : Bool) (a4 : Sl) (h : AH) : go (.fn F.modint_Mul [.agg [.bool a1, a2.v], .agg [.bool a3, a4.v]]) h =
  newK h (.cells [.bool a1, a2.v] T.api_Int) fun h5r h5 =>
  newK h5 (.cells [.bool a3, a4.v] T.api_Int) fun h6r h6 =>
  newK h6 (.cells [.bool false, (⟨none, 0, .is 0⟩ : Sl).v] T.api_Int) fun h7r h7 =>
  ((h7.cell (h5r.add 0)).bind AV.asBool).bind fun b8 =>
  ((h7.cell (h5r.add 1)).bind AV.asSl).bind fun l9 =>
  ((h7.cell (h6r.add 0)).bind AV.asBool).bind fun b10 =>
  ((h7.cell (h6r.add 1)).bind AV.asSl).bind fun l11 =>
  newK h7 (.cells [.bool b8, l9.v, .bool b10, l11.v] T.api_Int) fun h12r h12 =>
  (go (.fn F.modint_right [(⟨some h12r, 2, .is 2⟩ : Sl).v]) h12).bind fun q13 =>
  ((some q13.1).bind AV.asBool).bind fun b14 =>
  cond (!b14) (
  (q13.2.puts h7r [.bool false, (⟨none, 0, .is 0⟩ : Sl).v]).bind fun h15 =>
  ((h15.cell (h7r.add 0)).bind AV.asBool).bind fun b16 =>
  ((h15.cell (h7r.add 1)).bind AV.asSl).bind fun l17 =>
  some (.tup [.agg [.bool b16, l17.v], .int .i64 1], h15)) (
  ((q13.2.cell (h5r.add 1)).bind AV.asSl).bind fun l18 =>
  ((q13.2.cell (h6r.add 1)).bind AV.asSl).bind fun l19 =>
  (go (.fn F.nat_Mul [l18.v, l19.v]) q13.2).bind fun q20 =>
  (AV.asTup2 q20.1).bind fun p21 =>
  ((some p21.1).bind AV.asSl).bind fun l22 =>
  ((some p21.2).bind (AV.asInt .i64)).bind fun n23 =>
  ((q20.2.cell (h5r.add 0)).bind AV.asBool).bind fun b24 =>
  ((q20.2.cell (h6r.add 0)).bind AV.asBool).bind fun b25 =>
  (go (.fn F.modint_From [.bool (!(b24 == b25)), l22.v]) q20.2).bind fun q26 =>
  (AV.asAgg q26.1).bind fun cs27 =>
  cond (Nat.beq cs27.length 2) (
  ((cs27[0]?).bind AV.asBool).bind fun b28 =>
  ((cs27[1]?).bind AV.asSl).bind fun l29 =>
  (q26.2.puts h7r [.bool b28, l29.v]).bind fun h30 =>
  ((h30.cell (h7r.add 0)).bind AV.asBool).bind fun b31 =>
  ((h30.cell (h7r.add 1)).bind AV.asSl).bind fun l32 =>
  some (.tup [.agg [.bool b31, l32.v], .int .i64 n23], h30)) none) := (go_step _ h).trans (by kernel_rfl)

theorem u_nat_Mul (a1 : Sl) (a2 : Sl) (h : AH) : go (.fn F.nat_Mul [a1.v, a2.v]) h =
  newK h (.cells [a1.v, a2.v] T.api_Nat) fun h3r h3 =>
  (go (.fn F.nat_right [(⟨some h3r, 2, .is 2⟩ : Sl).v]) h3).bind fun q4 =>
  ((some q4.1).bind AV.asBool).bind fun b5 =>
  cond (!b5) (
  some (.tup [(⟨none, 0, .is 0⟩ : Sl).v, .int .i64 1], q4.2)) (
  (go (.fn F.nat_product [a1.v, a2.v]) q4.2).bind fun q6 =>
  ((some q6.1).bind AV.asSl).bind fun l7 =>
  (go (.fn F.nat_told [l7.v]) q6.2).bind fun q8 =>
  (AV.asTup2 q8.1).bind fun p9 =>
  ((some p9.1).bind AV.asSl).bind fun l10 =>
  ((some p9.2).bind (AV.asInt .i64)).bind fun n11 =>
  some (.tup [l10.v, .int .i64 n11], q8.2)) := (go_step _ h).trans (by kernel_rfl)

theorem u_ref03_Mul (a1 : Bool) (a2 : Sl) (a3 : Bool) (a4 : Sl) (h : AH) : go (.fn F.ref03_Mul [.agg [.bool a1, a2.v], .agg [.bool a3, a4.v]]) h =
  newK h (.cells [.bool a1, a2.v] T.api_Int) fun h5r h5 =>
  newK h5 (.cells [.bool a3, a4.v] T.api_Int) fun h6r h6 =>
  newK h6 (.cells [.bool false, (⟨none, 0, .is 0⟩ : Sl).v] T.api_Int) fun h7r h7 =>
  ((h7.cell (h5r.add 0)).bind AV.asBool).bind fun b8 =>
  ((h7.cell (h5r.add 1)).bind AV.asSl).bind fun l9 =>
  (go (.fn F.ref03_Right [.agg [.bool b8, l9.v]]) h7).bind fun q10 =>
  ((some q10.1).bind AV.asBool).bind fun b11 =>
  ((q10.2.cell (h6r.add 0)).bind AV.asBool).bind fun b12 =>
  ((q10.2.cell (h6r.add 1)).bind AV.asSl).bind fun l13 =>
  (go (.fn F.ref03_Right [.agg [.bool b12, l13.v]]) q10.2).bind fun q14 =>
  ((some q14.1).bind AV.asBool).bind fun b15 =>
  cond (!b11) (
  (q14.2.puts h7r [.bool false, (⟨none, 0, .is 0⟩ : Sl).v]).bind fun h16 =>
  ((h16.cell (h7r.add 0)).bind AV.asBool).bind fun b17 =>
  ((h16.cell (h7r.add 1)).bind AV.asSl).bind fun l18 =>
  some (.tup [.agg [.bool b17, l18.v], .int .i64 1], h16)) (
  cond (!b15) (
  (q14.2.puts h7r [.bool false, (⟨none, 0, .is 0⟩ : Sl).v]).bind fun h19 =>
  ((h19.cell (h7r.add 0)).bind AV.asBool).bind fun b20 =>
  ((h19.cell (h7r.add 1)).bind AV.asSl).bind fun l21 =>
  some (.tup [.agg [.bool b20, l21.v], .int .i64 1], h19)) (
  ((q14.2.cell (h5r.add 1)).bind AV.asSl).bind fun l22 =>
  ((q14.2.cell (h6r.add 1)).bind AV.asSl).bind fun l23 =>
  (go (.fn F.ref01_Mul [l22.v, l23.v]) q14.2).bind fun q24 =>
  (AV.asTup2 q24.1).bind fun p25 =>
  ((some p25.1).bind AV.asSl).bind fun l26 =>
  ((some p25.2).bind (AV.asInt .i64)).bind fun n27 =>
  ((q24.2.cell (h5r.add 0)).bind AV.asBool).bind fun b28 =>
  ((q24.2.cell (h6r.add 0)).bind AV.asBool).bind fun b29 =>
  (go (.fn F.ref03_From [.bool (!(b28 == b29)), l26.v]) q24.2).bind fun q30 =>
  (AV.asAgg q30.1).bind fun cs31 =>
  cond (Nat.beq cs31.length 2) (
  ((cs31[0]?).bind AV.asBool).bind fun b32 =>
  ((cs31[1]?).bind AV.asSl).bind fun l33 =>
  (q30.2.puts h7r [.bool b32, l33.v]).bind fun h34 =>
  ((h34.cell (h7r.add 0)).bind AV.asBool).bind fun b35 =>
  ((h34.cell (h7r.add 1)).bind AV.asSl).bind fun l36 =>
  some (.tup [.agg [.bool b35, l36.v], .int .i64 n27], h34)) none)) := (go_step _ h).trans (by kernel_rfl)

theorem u_modint_Floor (a1 : Bool) (a2 : Sl) (a3 : Bool) (a4 : Sl) (h : AH) : go (.fn F.modint_Floor [.agg [.bool a1, a2.v], .agg [.bool a3, a4.v]]) h =
  newK h (.cells [.bool a1, a2.v] T.api_Int) fun h5r h5 =>
  newK h5 (.cells [.bool a3, a4.v] T.api_Int) fun h6r h6 =>
  newK h6 (.cells [.bool false, (⟨none, 0, .is 0⟩ : Sl).v] T.api_Int) fun h7r h7 =>
  newK h7 (.cells [.bool false, (⟨none, 0, .is 0⟩ : Sl).v] T.api_Int) fun h8r h8 =>
  ((h8.cell (h5r.add 0)).bind AV.asBool).bind fun b9 =>
  ((h8.cell (h5r.add 1)).bind AV.asSl).bind fun l10 =>
  ((h8.cell (h6r.add 0)).bind AV.asBool).bind fun b11 =>
  ((h8.cell (h6r.add 1)).bind AV.asSl).bind fun l12 =>
  newK h8 (.cells [.bool b9, l10.v, .bool b11, l12.v] T.api_Int) fun h13r h13 =>
  (go (.fn F.modint_right [(⟨some h13r, 2, .is 2⟩ : Sl).v]) h13).bind fun q14 =>
  ((some q14.1).bind AV.asBool).bind fun b15 =>
  cond (!b15) (
  (q14.2.puts h7r [.bool false, (⟨none, 0, .is 0⟩ : Sl).v]).bind fun h16 =>
  (h16.puts h8r [.bool false, (⟨none, 0, .is 0⟩ : Sl).v]).bind fun h17 =>
  ((h17.cell (h7r.add 0)).bind AV.asBool).bind fun b18 =>
  ((h17.cell (h7r.add 1)).bind AV.asSl).bind fun l19 =>
  ((h17.cell (h8r.add 0)).bind AV.asBool).bind fun b20 =>
  ((h17.cell (h8r.add 1)).bind AV.asSl).bind fun l21 =>
  some (.tup [.agg [.bool b18, l19.v], .agg [.bool b20, l21.v], .int .i64 1], h17)) (
  ((q14.2.cell (h6r.add 1)).bind AV.asSl).bind fun l22 =>
  cond (decide ((l22.len : Int) = 0)) (
  (q14.2.puts h7r [.bool false, (⟨none, 0, .is 0⟩ : Sl).v]).bind fun h23 =>
  (h23.puts h8r [.bool false, (⟨none, 0, .is 0⟩ : Sl).v]).bind fun h24 =>
  ((h24.cell (h7r.add 0)).bind AV.asBool).bind fun b25 =>
  ((h24.cell (h7r.add 1)).bind AV.asSl).bind fun l26 =>
  ((h24.cell (h8r.add 0)).bind AV.asBool).bind fun b27 =>
  ((h24.cell (h8r.add 1)).bind AV.asSl).bind fun l28 =>
  some (.tup [.agg [.bool b25, l26.v], .agg [.bool b27, l28.v], .int .i64 3], h24)) (
  ((q14.2.cell (h6r.add 0)).bind AV.asBool).bind fun b29 =>
  cond b29 (
  (q14.2.puts h7r [.bool false, (⟨none, 0, .is 0⟩ : Sl).v]).bind fun h30 =>
  (h30.puts h8r [.bool false, (⟨none, 0, .is 0⟩ : Sl).v]).bind fun h31 =>
  ((h31.cell (h7r.add 0)).bind AV.asBool).bind fun b32 =>
  ((h31.cell (h7r.add 1)).bind AV.asSl).bind fun l33 =>
  ((h31.cell (h8r.add 0)).bind AV.asBool).bind fun b34 =>
  ((h31.cell (h8r.add 1)).bind AV.asSl).bind fun l35 =>
  some (.tup [.agg [.bool b32, l33.v], .agg [.bool b34, l35.v], .int .i64 1], h31)) (
  ((q14.2.cell (h5r.add 1)).bind AV.asSl).bind fun l36 =>
  ((q14.2.cell (h6r.add 1)).bind AV.asSl).bind fun l37 =>
  (go (.fn F.nat_Div [l36.v, l37.v]) q14.2).bind fun q38 =>
  (AV.asTup3 q38.1).bind fun p39 =>
  ((some p39.1).bind AV.asSl).bind fun l40 =>
  ((some p39.2.1).bind AV.asSl).bind fun l41 =>
  ((some p39.2.2).bind (AV.asInt .i64)).bind fun n42 =>
  ((q38.2.cell (h5r.add 0)).bind AV.asBool).bind fun b43 =>
  cond b43 (
  cond (decide ((l41.len : Int) > 0)) (
  (go (.fn F.nat_Of [.int .u64 1]) q38.2).bind fun q44 =>
  ((some q44.1).bind AV.asSl).bind fun l45 =>
  (go (.fn F.nat_Add [l40.v, l45.v]) q44.2).bind fun q46 =>
  (AV.asTup2 q46.1).bind fun p47 =>
  ((some p47.1).bind AV.asSl).bind fun l48 =>
  ((some p47.2).bind (AV.asInt .i64)).bind fun n49 =>
  cond (!decide (n49 = 0)) (
  (q46.2.puts h7r [.bool false, (⟨none, 0, .is 0⟩ : Sl).v]).bind fun h50 =>
  (h50.puts h8r [.bool false, (⟨none, 0, .is 0⟩ : Sl).v]).bind fun h51 =>
  ((h51.cell (h7r.add 0)).bind AV.asBool).bind fun b52 =>
  ((h51.cell (h7r.add 1)).bind AV.asSl).bind fun l53 =>
  ((h51.cell (h8r.add 0)).bind AV.asBool).bind fun b54 =>
  ((h51.cell (h8r.add 1)).bind AV.asSl).bind fun l55 =>
  some (.tup [.agg [.bool b52, l53.v], .agg [.bool b54, l55.v], .int .i64 n49], h51)) (
  ((q46.2.cell (h6r.add 1)).bind AV.asSl).bind fun l56 =>
  (go (.fn F.nat_Sub [l56.v, l41.v]) q46.2).bind fun q57 =>
  (AV.asTup2 q57.1).bind fun p58 =>
  ((some p58.1).bind AV.asSl).bind fun l59 =>
  ((some p58.2).bind (AV.asInt .i64)).bind fun n60 =>
  ((q57.2.cell (h5r.add 0)).bind AV.asBool).bind fun b61 =>
  (go (.fn F.modint_From [.bool b61, l48.v]) q57.2).bind fun q62 =>
  (AV.asAgg q62.1).bind fun cs63 =>
  cond (Nat.beq cs63.length 2) (
  ((cs63[0]?).bind AV.asBool).bind fun b64 =>
  ((cs63[1]?).bind AV.asSl).bind fun l65 =>
  (go (.fn F.modint_From [.bool false, l59.v]) q62.2).bind fun q66 =>
  (AV.asAgg q66.1).bind fun cs67 =>
  cond (Nat.beq cs67.length 2) (
  ((cs67[0]?).bind AV.asBool).bind fun b68 =>
  ((cs67[1]?).bind AV.asSl).bind fun l69 =>
  (q66.2.puts h7r [.bool b64, l65.v]).bind fun h70 =>
  (h70.puts h8r [.bool b68, l69.v]).bind fun h71 =>
  ((h71.cell (h7r.add 0)).bind AV.asBool).bind fun b72 =>
  ((h71.cell (h7r.add 1)).bind AV.asSl).bind fun l73 =>
  ((h71.cell (h8r.add 0)).bind AV.asBool).bind fun b74 =>
  ((h71.cell (h8r.add 1)).bind AV.asSl).bind fun l75 =>
  some (.tup [.agg [.bool b72, l73.v], .agg [.bool b74, l75.v], .int .i64 0], h71)) none) none)) (
  ((q38.2.cell (h5r.add 0)).bind AV.asBool).bind fun b76 =>
  (go (.fn F.modint_From [.bool b76, l40.v]) q38.2).bind fun q77 =>
  (AV.asAgg q77.1).bind fun cs78 =>
  cond (Nat.beq cs78.length 2) (
  ((cs78[0]?).bind AV.asBool).bind fun b79 =>
  ((cs78[1]?).bind AV.asSl).bind fun l80 =>
  (go (.fn F.modint_From [.bool false, l41.v]) q77.2).bind fun q81 =>
  (AV.asAgg q81.1).bind fun cs82 =>
  cond (Nat.beq cs82.length 2) (
  ((cs82[0]?).bind AV.asBool).bind fun b83 =>
  ((cs82[1]?).bind AV.asSl).bind fun l84 =>
  (q81.2.puts h7r [.bool b79, l80.v]).bind fun h85 =>
  (h85.puts h8r [.bool b83, l84.v]).bind fun h86 =>
  ((h86.cell (h7r.add 0)).bind AV.asBool).bind fun b87 =>
  ((h86.cell (h7r.add 1)).bind AV.asSl).bind fun l88 =>
  ((h86.cell (h8r.add 0)).bind AV.asBool).bind fun b89 =>
  ((h86.cell (h8r.add 1)).bind AV.asSl).bind fun l90 =>
  some (.tup [.agg [.bool b87, l88.v], .agg [.bool b89, l90.v], .int .i64 0], h86)) none) none)) (
  ((q38.2.cell (h5r.add 0)).bind AV.asBool).bind fun b91 =>
  (go (.fn F.modint_From [.bool b91, l40.v]) q38.2).bind fun q92 =>
  (AV.asAgg q92.1).bind fun cs93 =>
  cond (Nat.beq cs93.length 2) (
  ((cs93[0]?).bind AV.asBool).bind fun b94 =>
  ((cs93[1]?).bind AV.asSl).bind fun l95 =>
  (go (.fn F.modint_From [.bool false, l41.v]) q92.2).bind fun q96 =>
  (AV.asAgg q96.1).bind fun cs97 =>
  cond (Nat.beq cs97.length 2) (
  ((cs97[0]?).bind AV.asBool).bind fun b98 =>
  ((cs97[1]?).bind AV.asSl).bind fun l99 =>
  (q96.2.puts h7r [.bool b94, l95.v]).bind fun h100 =>
  (h100.puts h8r [.bool b98, l99.v]).bind fun h101 =>
  ((h101.cell (h7r.add 0)).bind AV.asBool).bind fun b102 =>
  ((h101.cell (h7r.add 1)).bind AV.asSl).bind fun l103 =>
  ((h101.cell (h8r.add 0)).bind AV.asBool).bind fun b104 =>
  ((h101.cell (h8r.add 1)).bind AV.asSl).bind fun l105 =>
  some (.tup [.agg [.bool b102, l103.v], .agg [.bool b104, l105.v], .int .i64 0], h101)) none) none)))) := (go_step _ h).trans (by kernel_rfl)

theorem u_ref03_Floor (a1 : Bool) (a2 : Sl) (a3 : Bool) (a4 : Sl) (h : AH) : go (.fn F.ref03_Floor [.agg [.bool a1, a2.v], .agg [.bool a3, a4.v]]) h =
  newK h (.cells [.bool a1, a2.v] T.api_Int) fun h5r h5 =>
  newK h5 (.cells [.bool a3, a4.v] T.api_Int) fun h6r h6 =>
  newK h6 (.cells [.bool false, (⟨none, 0, .is 0⟩ : Sl).v] T.api_Int) fun h7r h7 =>
  newK h7 (.cells [.bool false, (⟨none, 0, .is 0⟩ : Sl).v] T.api_Int) fun h8r h8 =>
  ((h8.cell (h5r.add 0)).bind AV.asBool).bind fun b9 =>
  ((h8.cell (h5r.add 1)).bind AV.asSl).bind fun l10 =>
  (go (.fn F.ref03_Right [.agg [.bool b9, l10.v]]) h8).bind fun q11 =>
  ((some q11.1).bind AV.asBool).bind fun b12 =>
  ((q11.2.cell (h6r.add 0)).bind AV.asBool).bind fun b13 =>
  ((q11.2.cell (h6r.add 1)).bind AV.asSl).bind fun l14 =>
  (go (.fn F.ref03_Right [.agg [.bool b13, l14.v]]) q11.2).bind fun q15 =>
  ((some q15.1).bind AV.asBool).bind fun b16 =>
  cond (!b12) (
  (q15.2.puts h7r [.bool false, (⟨none, 0, .is 0⟩ : Sl).v]).bind fun h17 =>
  (h17.puts h8r [.bool false, (⟨none, 0, .is 0⟩ : Sl).v]).bind fun h18 =>
  ((h18.cell (h7r.add 0)).bind AV.asBool).bind fun b19 =>
  ((h18.cell (h7r.add 1)).bind AV.asSl).bind fun l20 =>
  ((h18.cell (h8r.add 0)).bind AV.asBool).bind fun b21 =>
  ((h18.cell (h8r.add 1)).bind AV.asSl).bind fun l22 =>
  some (.tup [.agg [.bool b19, l20.v], .agg [.bool b21, l22.v], .int .i64 1], h18)) (
  cond (!b16) (
  (q15.2.puts h7r [.bool false, (⟨none, 0, .is 0⟩ : Sl).v]).bind fun h23 =>
  (h23.puts h8r [.bool false, (⟨none, 0, .is 0⟩ : Sl).v]).bind fun h24 =>
  ((h24.cell (h7r.add 0)).bind AV.asBool).bind fun b25 =>
  ((h24.cell (h7r.add 1)).bind AV.asSl).bind fun l26 =>
  ((h24.cell (h8r.add 0)).bind AV.asBool).bind fun b27 =>
  ((h24.cell (h8r.add 1)).bind AV.asSl).bind fun l28 =>
  some (.tup [.agg [.bool b25, l26.v], .agg [.bool b27, l28.v], .int .i64 1], h24)) (
  ((q15.2.cell (h6r.add 1)).bind AV.asSl).bind fun l29 =>
  cond (decide ((l29.len : Int) = 0)) (
  (q15.2.puts h7r [.bool false, (⟨none, 0, .is 0⟩ : Sl).v]).bind fun h30 =>
  (h30.puts h8r [.bool false, (⟨none, 0, .is 0⟩ : Sl).v]).bind fun h31 =>
  ((h31.cell (h7r.add 0)).bind AV.asBool).bind fun b32 =>
  ((h31.cell (h7r.add 1)).bind AV.asSl).bind fun l33 =>
  ((h31.cell (h8r.add 0)).bind AV.asBool).bind fun b34 =>
  ((h31.cell (h8r.add 1)).bind AV.asSl).bind fun l35 =>
  some (.tup [.agg [.bool b32, l33.v], .agg [.bool b34, l35.v], .int .i64 3], h31)) (
  ((q15.2.cell (h6r.add 0)).bind AV.asBool).bind fun b36 =>
  cond b36 (
  (q15.2.puts h7r [.bool false, (⟨none, 0, .is 0⟩ : Sl).v]).bind fun h37 =>
  (h37.puts h8r [.bool false, (⟨none, 0, .is 0⟩ : Sl).v]).bind fun h38 =>
  ((h38.cell (h7r.add 0)).bind AV.asBool).bind fun b39 =>
  ((h38.cell (h7r.add 1)).bind AV.asSl).bind fun l40 =>
  ((h38.cell (h8r.add 0)).bind AV.asBool).bind fun b41 =>
  ((h38.cell (h8r.add 1)).bind AV.asSl).bind fun l42 =>
  some (.tup [.agg [.bool b39, l40.v], .agg [.bool b41, l42.v], .int .i64 1], h38)) (
  ((q15.2.cell (h5r.add 1)).bind AV.asSl).bind fun l43 =>
  ((q15.2.cell (h6r.add 1)).bind AV.asSl).bind fun l44 =>
  (go (.fn F.ref01_Div [l43.v, l44.v]) q15.2).bind fun q45 =>
  (AV.asTup3 q45.1).bind fun p46 =>
  ((some p46.1).bind AV.asSl).bind fun l47 =>
  ((some p46.2.1).bind AV.asSl).bind fun l48 =>
  ((some p46.2.2).bind (AV.asInt .i64)).bind fun n49 =>
  ((q45.2.cell (h5r.add 0)).bind AV.asBool).bind fun b50 =>
  cond (!b50) (
  (go (.fn F.ref03_From [.bool false, l47.v]) q45.2).bind fun q51 =>
  (AV.asAgg q51.1).bind fun cs52 =>
  cond (Nat.beq cs52.length 2) (
  ((cs52[0]?).bind AV.asBool).bind fun b53 =>
  ((cs52[1]?).bind AV.asSl).bind fun l54 =>
  (go (.fn F.ref03_From [.bool false, l48.v]) q51.2).bind fun q55 =>
  (AV.asAgg q55.1).bind fun cs56 =>
  cond (Nat.beq cs56.length 2) (
  ((cs56[0]?).bind AV.asBool).bind fun b57 =>
  ((cs56[1]?).bind AV.asSl).bind fun l58 =>
  (q55.2.puts h7r [.bool b53, l54.v]).bind fun h59 =>
  (h59.puts h8r [.bool b57, l58.v]).bind fun h60 =>
  ((h60.cell (h7r.add 0)).bind AV.asBool).bind fun b61 =>
  ((h60.cell (h7r.add 1)).bind AV.asSl).bind fun l62 =>
  ((h60.cell (h8r.add 0)).bind AV.asBool).bind fun b63 =>
  ((h60.cell (h8r.add 1)).bind AV.asSl).bind fun l64 =>
  some (.tup [.agg [.bool b61, l62.v], .agg [.bool b63, l64.v], .int .i64 0], h60)) none) none) (
  cond (decide ((l48.len : Int) = 0)) (
  (go (.fn F.ref03_From [.bool true, l47.v]) q45.2).bind fun q65 =>
  (AV.asAgg q65.1).bind fun cs66 =>
  cond (Nat.beq cs66.length 2) (
  ((cs66[0]?).bind AV.asBool).bind fun b67 =>
  ((cs66[1]?).bind AV.asSl).bind fun l68 =>
  (q65.2.puts h7r [.bool b67, l68.v]).bind fun h69 =>
  (h69.puts h8r [.bool false, (⟨none, 0, .is 0⟩ : Sl).v]).bind fun h70 =>
  ((h70.cell (h7r.add 0)).bind AV.asBool).bind fun b71 =>
  ((h70.cell (h7r.add 1)).bind AV.asSl).bind fun l72 =>
  ((h70.cell (h8r.add 0)).bind AV.asBool).bind fun b73 =>
  ((h70.cell (h8r.add 1)).bind AV.asSl).bind fun l74 =>
  some (.tup [.agg [.bool b71, l72.v], .agg [.bool b73, l74.v], .int .i64 0], h70)) none) (
  (go (.fn F.ref01_Of [.int .u64 1]) q45.2).bind fun q75 =>
  ((some q75.1).bind AV.asSl).bind fun l76 =>
  (go (.fn F.ref01_Add [l47.v, l76.v]) q75.2).bind fun q77 =>
  (AV.asTup2 q77.1).bind fun p78 =>
  ((some p78.1).bind AV.asSl).bind fun l79 =>
  ((some p78.2).bind (AV.asInt .i64)).bind fun n80 =>
  cond (!decide (n80 = 0)) (
  (q77.2.puts h7r [.bool false, (⟨none, 0, .is 0⟩ : Sl).v]).bind fun h81 =>
  (h81.puts h8r [.bool false, (⟨none, 0, .is 0⟩ : Sl).v]).bind fun h82 =>
  ((h82.cell (h7r.add 0)).bind AV.asBool).bind fun b83 =>
  ((h82.cell (h7r.add 1)).bind AV.asSl).bind fun l84 =>
  ((h82.cell (h8r.add 0)).bind AV.asBool).bind fun b85 =>
  ((h82.cell (h8r.add 1)).bind AV.asSl).bind fun l86 =>
  some (.tup [.agg [.bool b83, l84.v], .agg [.bool b85, l86.v], .int .i64 n80], h82)) (
  ((q77.2.cell (h6r.add 1)).bind AV.asSl).bind fun l87 =>
  (go (.fn F.ref01_Sub [l87.v, l48.v]) q77.2).bind fun q88 =>
  (AV.asTup2 q88.1).bind fun p89 =>
  ((some p89.1).bind AV.asSl).bind fun l90 =>
  ((some p89.2).bind (AV.asInt .i64)).bind fun n91 =>
  (go (.fn F.ref03_From [.bool true, l79.v]) q88.2).bind fun q92 =>
  (AV.asAgg q92.1).bind fun cs93 =>
  cond (Nat.beq cs93.length 2) (
  ((cs93[0]?).bind AV.asBool).bind fun b94 =>
  ((cs93[1]?).bind AV.asSl).bind fun l95 =>
  (go (.fn F.ref03_From [.bool false, l90.v]) q92.2).bind fun q96 =>
  (AV.asAgg q96.1).bind fun cs97 =>
  cond (Nat.beq cs97.length 2) (
  ((cs97[0]?).bind AV.asBool).bind fun b98 =>
  ((cs97[1]?).bind AV.asSl).bind fun l99 =>
  (q96.2.puts h7r [.bool b94, l95.v]).bind fun h100 =>
  (h100.puts h8r [.bool b98, l99.v]).bind fun h101 =>
  ((h101.cell (h7r.add 0)).bind AV.asBool).bind fun b102 =>
  ((h101.cell (h7r.add 1)).bind AV.asSl).bind fun l103 =>
  ((h101.cell (h8r.add 0)).bind AV.asBool).bind fun b104 =>
  ((h101.cell (h8r.add 1)).bind AV.asSl).bind fun l105 =>
  some (.tup [.agg [.bool b102, l103.v], .agg [.bool b104, l105.v], .int .i64 0], h101)) none) none))))))) := (go_step _ h).trans (by kernel_rfl)

theorem u_rational_over (a1 : Bool) (a2 : Sl) (a3 : Sl) (a4 : Bool) (a5 : Sl) (a6 : Sl) (h : AH) : go (.fn F.rational_over [.agg [.bool a1, a2.v, a3.v], .agg [.bool a4, a5.v, a6.v]]) h =
  newK h (.cells [.bool a1, a2.v, a3.v] T.api_Frac) fun h7r h7 =>
  newK h7 (.cells [.bool a4, a5.v, a6.v] T.api_Frac) fun h8r h8 =>
  newK h8 (.cells [.bool false, (⟨none, 0, .is 0⟩ : Sl).v] T.api_Int) fun h9r h9 =>
  newK h9 (.cells [.bool false, (⟨none, 0, .is 0⟩ : Sl).v] T.api_Int) fun h10r h10 =>
  ((h10.cell ((h7r.add 0).add 0)).bind AV.asBool).bind fun b11 =>
  ((h10.cell ((h7r.add 0).add 1)).bind AV.asSl).bind fun l12 =>
  ((h10.cell (h8r.add 2)).bind AV.asSl).bind fun l13 =>
  (go (.fn F.modint_From [.bool false, l13.v]) h10).bind fun q14 =>
  (AV.asAgg q14.1).bind fun cs15 =>
  cond (Nat.beq cs15.length 2) (
  ((cs15[0]?).bind AV.asBool).bind fun b16 =>
  ((cs15[1]?).bind AV.asSl).bind fun l17 =>
  whenK (SameAt h10 q14.2 (h7r.add 0) 2) (
  whenK (SameAt h10 q14.2 h10r 0) (
  (go (.fn F.modint_Mul [.agg [.bool b11, l12.v], .agg [.bool b16, l17.v]]) q14.2).bind fun q18 =>
  (AV.asTup2 q18.1).bind fun p19 =>
  (AV.asAgg p19.1).bind fun cs20 =>
  cond (Nat.beq cs20.length 2) (
  ((cs20[0]?).bind AV.asBool).bind fun b21 =>
  ((cs20[1]?).bind AV.asSl).bind fun l22 =>
  ((some p19.2).bind (AV.asInt .i64)).bind fun n23 =>
  whenK (SameAt q14.2 q18.2 h10r 0) (
  (q18.2.puts h10r [.bool b21, l22.v]).bind fun h24 =>
  ((h24.cell (h10r.add 0)).bind AV.asBool).bind fun b25 =>
  ((h24.cell (h10r.add 1)).bind AV.asSl).bind fun l26 =>
  (h24.puts h9r [.bool b25, l26.v]).bind fun h27 =>
  ((h27.cell (h9r.add 0)).bind AV.asBool).bind fun b28 =>
  ((h27.cell (h9r.add 1)).bind AV.asSl).bind fun l29 =>
  some (.agg [.bool b28, l29.v], h27))) none))) none := (go_step _ h).trans (by kernel_rfl)

theorem u_modint_Cmp (a1 : Bool) (a2 : Sl) (a3 : Bool) (a4 : Sl) (h : AH) : go (.fn F.modint_Cmp [.agg [.bool a1, a2.v], .agg [.bool a3, a4.v]]) h =
  newK h (.cells [.bool a1, a2.v] T.api_Int) fun h5r h5 =>
  newK h5 (.cells [.bool a3, a4.v] T.api_Int) fun h6r h6 =>
  ((h6.cell (h5r.add 0)).bind AV.asBool).bind fun b7 =>
  ((h6.cell (h5r.add 1)).bind AV.asSl).bind fun l8 =>
  ((h6.cell (h6r.add 0)).bind AV.asBool).bind fun b9 =>
  ((h6.cell (h6r.add 1)).bind AV.asSl).bind fun l10 =>
  newK h6 (.cells [.bool b7, l8.v, .bool b9, l10.v] T.api_Int) fun h11r h11 =>
  (go (.fn F.modint_right [(⟨some h11r, 2, .is 2⟩ : Sl).v]) h11).bind fun q12 =>
  ((some q12.1).bind AV.asBool).bind fun b13 =>
  cond (!b13) (
  some (.int .i64 0, q12.2)) (
  ((q12.2.cell (h5r.add 0)).bind AV.asBool).bind fun b14 =>
  ((q12.2.cell (h6r.add 0)).bind AV.asBool).bind fun b15 =>
  cond ((b14 == true) && ((b15 == false) && true)) (
  some (.int .i64 (-1), q12.2)) (
  cond ((b14 == false) && ((b15 == true) && true)) (
  some (.int .i64 1, q12.2)) (
  cond ((b14 == true) && ((b15 == true) && true)) (
  ((q12.2.cell (h6r.add 1)).bind AV.asSl).bind fun l16 =>
  ((q12.2.cell (h5r.add 1)).bind AV.asSl).bind fun l17 =>
  (go (.fn F.nat_Cmp [l16.v, l17.v]) q12.2).bind fun q18 =>
  ((some q18.1).bind (AV.asInt .i64)).bind fun n19 =>
  some (.int .i64 n19, q18.2)) (
  ((q12.2.cell (h5r.add 1)).bind AV.asSl).bind fun l20 =>
  ((q12.2.cell (h6r.add 1)).bind AV.asSl).bind fun l21 =>
  (go (.fn F.nat_Cmp [l20.v, l21.v]) q12.2).bind fun q22 =>
  ((some q22.1).bind (AV.asInt .i64)).bind fun n23 =>
  some (.int .i64 n23, q22.2))))) := (go_step _ h).trans (by kernel_rfl)

theorem u_ref03_Cmp (a1 : Bool) (a2 : Sl) (a3 : Bool) (a4 : Sl) (h : AH) : go (.fn F.ref03_Cmp [.agg [.bool a1, a2.v], .agg [.bool a3, a4.v]]) h =
  newK h (.cells [.bool a1, a2.v] T.api_Int) fun h5r h5 =>
  newK h5 (.cells [.bool a3, a4.v] T.api_Int) fun h6r h6 =>
  ((h6.cell (h5r.add 0)).bind AV.asBool).bind fun b7 =>
  ((h6.cell (h5r.add 1)).bind AV.asSl).bind fun l8 =>
  (go (.fn F.ref03_Right [.agg [.bool b7, l8.v]]) h6).bind fun q9 =>
  ((some q9.1).bind AV.asBool).bind fun b10 =>
  ((q9.2.cell (h6r.add 0)).bind AV.asBool).bind fun b11 =>
  ((q9.2.cell (h6r.add 1)).bind AV.asSl).bind fun l12 =>
  (go (.fn F.ref03_Right [.agg [.bool b11, l12.v]]) q9.2).bind fun q13 =>
  ((some q13.1).bind AV.asBool).bind fun b14 =>
  cond (!b10) (
  some (.int .i64 0, q13.2)) (
  cond (!b14) (
  some (.int .i64 0, q13.2)) (
  ((q13.2.cell (h5r.add 0)).bind AV.asBool).bind fun b15 =>
  ((q13.2.cell (h6r.add 0)).bind AV.asBool).bind fun b16 =>
  cond (!(b15 == b16)) (
  ((q13.2.cell (h5r.add 0)).bind AV.asBool).bind fun b17 =>
  cond b17 (
  some (.int .i64 (-1), q13.2)) (
  some (.int .i64 1, q13.2))) (
  ((q13.2.cell (h5r.add 0)).bind AV.asBool).bind fun b18 =>
  cond b18 (
  ((q13.2.cell (h6r.add 1)).bind AV.asSl).bind fun l19 =>
  ((q13.2.cell (h5r.add 1)).bind AV.asSl).bind fun l20 =>
  (go (.fn F.ref01_Cmp [l19.v, l20.v]) q13.2).bind fun q21 =>
  ((some q21.1).bind (AV.asInt .i64)).bind fun n22 =>
  some (.int .i64 n22, q21.2)) (
  ((q13.2.cell (h5r.add 1)).bind AV.asSl).bind fun l23 =>
  ((q13.2.cell (h6r.add 1)).bind AV.asSl).bind fun l24 =>
  (go (.fn F.ref01_Cmp [l23.v, l24.v]) q13.2).bind fun q25 =>
  ((some q25.1).bind (AV.asInt .i64)).bind fun n26 =>
  some (.int .i64 n26, q25.2))))) := (go_step _ h).trans (by kernel_rfl)

theorem u_ref01_Add (a1 : Sl) (a2 : Sl) (h : AH) : go (.fn F.ref01_Add [a1.v, a2.v]) h =
  (go (.fn F.ref01_Right [a1.v]) h).bind fun q3 =>
  ((some q3.1).bind AV.asBool).bind fun b4 =>
  (go (.fn F.ref01_Right [a2.v]) q3.2).bind fun q5 =>
  ((some q5.1).bind AV.asBool).bind fun b6 =>
  cond (!b4) (
  some (.tup [(⟨none, 0, .is 0⟩ : Sl).v, .int .i64 1], q5.2)) (
  cond (!b6) (
  some (.tup [(⟨none, 0, .is 0⟩ : Sl).v, .int .i64 1], q5.2)) (
  (go (.fn F.ref01_In [a1.v]) q5.2).bind fun q7 =>
  ((some q7.1).bind AV.asSl).bind fun l8 =>
  (go (.fn F.ref01_In [a2.v]) q7.2).bind fun q9 =>
  ((some q9.1).bind AV.asSl).bind fun l10 =>
  (go (.fn F.ref01_add [l8.v, l10.v]) q9.2).bind fun q11 =>
  ((some q11.1).bind AV.asSl).bind fun l12 =>
  (go (.fn F.ref01_told [l12.v]) q11.2).bind fun q13 =>
  (AV.asTup2 q13.1).bind fun p14 =>
  ((some p14.1).bind AV.asSl).bind fun l15 =>
  ((some p14.2).bind (AV.asInt .i64)).bind fun n16 =>
  some (.tup [l15.v, .int .i64 n16], q13.2))) := (go_step _ h).trans (by kernel_rfl)

theorem u_ref01_Sub (a1 : Sl) (a2 : Sl) (h : AH) : go (.fn F.ref01_Sub [a1.v, a2.v]) h =
  (go (.fn F.ref01_Right [a1.v]) h).bind fun q3 =>
  ((some q3.1).bind AV.asBool).bind fun b4 =>
  (go (.fn F.ref01_Right [a2.v]) q3.2).bind fun q5 =>
  ((some q5.1).bind AV.asBool).bind fun b6 =>
  cond (!b4) (
  some (.tup [(⟨none, 0, .is 0⟩ : Sl).v, .int .i64 1], q5.2)) (
  cond (!b6) (
  some (.tup [(⟨none, 0, .is 0⟩ : Sl).v, .int .i64 1], q5.2)) (
  (go (.fn F.ref01_In [a1.v]) q5.2).bind fun q7 =>
  ((some q7.1).bind AV.asSl).bind fun l8 =>
  (go (.fn F.ref01_In [a2.v]) q7.2).bind fun q9 =>
  ((some q9.1).bind AV.asSl).bind fun l10 =>
  (go (.fn F.ref01_compare [l8.v, l10.v]) q9.2).bind fun q11 =>
  ((some q11.1).bind (AV.asInt .i64)).bind fun n12 =>
  cond (decide (n12 < 0)) (
  some (.tup [(⟨none, 0, .is 0⟩ : Sl).v, .int .i64 2], q11.2)) (
  (go (.fn F.ref01_sub [l8.v, l10.v]) q11.2).bind fun q13 =>
  ((some q13.1).bind AV.asSl).bind fun l14 =>
  (go (.fn F.ref01_told [l14.v]) q13.2).bind fun q15 =>
  (AV.asTup2 q15.1).bind fun p16 =>
  ((some p16.1).bind AV.asSl).bind fun l17 =>
  ((some p16.2).bind (AV.asInt .i64)).bind fun n18 =>
  some (.tup [l17.v, .int .i64 n18], q15.2)))) := (go_step _ h).trans (by kernel_rfl)

theorem u_gain_may (a1 : Int) (a2 : Int) (h : AH) : go (.fn F.gain_may [.agg [.int .i64 a1, .int .i64 a2]]) h =
  newK h (.cells [.int .i64 a1, .int .i64 a2] T.api_Sum) fun h3r h3 =>
  ((h3.cell (h3r.add 0)).bind (AV.asInt .i64)).bind fun n4 =>
  cond (decide (n4 ≥ (-1099511627776))) (
  ((h3.cell (h3r.add 0)).bind (AV.asInt .i64)).bind fun n5 =>
  cond (decide (n5 ≤ 1099511627776)) (
  ((h3.cell (h3r.add 1)).bind (AV.asInt .i64)).bind fun n6 =>
  cond (decide (n6 ≥ 0)) (
  ((h3.cell (h3r.add 1)).bind (AV.asInt .i64)).bind fun n7 =>
  some (.bool (decide (n7 ≤ 1048576)), h3)) (
  some (.bool false, h3))) (
  some (.bool false, h3))) (
  some (.bool false, h3)) := (go_step _ h).trans (by kernel_rfl)

theorem u_gain_mayLambda (a1 : Int) (h : AH) : go (.fn F.gain_mayLambda [.int .i64 a1]) h =
  cond (decide (a1 ≥ 1)) (
  some (.bool (decide (a1 ≤ 1048576)), h)) (
  some (.bool false, h)) := (go_step _ h).trans (by kernel_rfl)

theorem u_modint_Of (a1 : Int) (h : AH) : go (.fn F.modint_Of [.int .i64 a1]) h =
  newK h (.cells [.bool false, (⟨none, 0, .is 0⟩ : Sl).v] T.api_Int) fun h2r h2 =>
  cond (decide (a1 < 0)) (
  (go (.fn F.nat_Of [.int .u64 (IntKind.wrap .u64 (0 - (IntKind.wrap .u64 a1)))]) h2).bind fun q3 =>
  ((some q3.1).bind AV.asSl).bind fun l4 =>
  (go (.fn F.modint_From [.bool true, l4.v]) q3.2).bind fun q5 =>
  (AV.asAgg q5.1).bind fun cs6 =>
  cond (Nat.beq cs6.length 2) (
  ((cs6[0]?).bind AV.asBool).bind fun b7 =>
  ((cs6[1]?).bind AV.asSl).bind fun l8 =>
  (q5.2.puts h2r [.bool b7, l8.v]).bind fun h9 =>
  ((h9.cell (h2r.add 0)).bind AV.asBool).bind fun b10 =>
  ((h9.cell (h2r.add 1)).bind AV.asSl).bind fun l11 =>
  some (.agg [.bool b10, l11.v], h9)) none) (
  (go (.fn F.nat_Of [.int .u64 (IntKind.wrap .u64 a1)]) h2).bind fun q12 =>
  ((some q12.1).bind AV.asSl).bind fun l13 =>
  (go (.fn F.modint_From [.bool false, l13.v]) q12.2).bind fun q14 =>
  (AV.asAgg q14.1).bind fun cs15 =>
  cond (Nat.beq cs15.length 2) (
  ((cs15[0]?).bind AV.asBool).bind fun b16 =>
  ((cs15[1]?).bind AV.asSl).bind fun l17 =>
  (q14.2.puts h2r [.bool b16, l17.v]).bind fun h18 =>
  ((h18.cell (h2r.add 0)).bind AV.asBool).bind fun b19 =>
  ((h18.cell (h2r.add 1)).bind AV.asSl).bind fun l20 =>
  some (.agg [.bool b19, l20.v], h18)) none) := (go_step _ h).trans (by kernel_rfl)

theorem u_nat_Of (a1 : Int) (h : AH) : go (.fn F.nat_Of [.int .u64 a1]) h =
  newK h (.cells [.int .u64 a1] T.uint64) fun h2r h2 =>
  (go (.fn F.nat_trim [(⟨some h2r, 1, .is 1⟩ : Sl).v]) h2).bind fun q3 =>
  ((some q3.1).bind AV.asSl).bind fun l4 =>
  some (l4.v, q3.2) := (go_step _ h).trans (by kernel_rfl)

theorem u_ref16_RightSum (a1 : Int) (a2 : Int) (h : AH) : go (.fn F.ref16_RightSum [.agg [.int .i64 a1, .int .i64 a2]]) h =
  newK h (.cells [.int .i64 a1, .int .i64 a2] T.api_Sum) fun h3r h3 =>
  ((h3.cell (h3r.add 0)).bind (AV.asInt .i64)).bind fun n4 =>
  cond (decide (n4 ≥ (-1099511627776))) (
  ((h3.cell (h3r.add 0)).bind (AV.asInt .i64)).bind fun n5 =>
  cond (decide (n5 ≤ 1099511627776)) (
  ((h3.cell (h3r.add 1)).bind (AV.asInt .i64)).bind fun n6 =>
  cond (decide (n6 ≥ 0)) (
  ((h3.cell (h3r.add 1)).bind (AV.asInt .i64)).bind fun n7 =>
  some (.bool (decide (n7 ≤ 1048576)), h3)) (
  some (.bool false, h3))) (
  some (.bool false, h3))) (
  some (.bool false, h3)) := (go_step _ h).trans (by kernel_rfl)

theorem u_gain_right (a1 : Int) (a2 : Int) (a3 : Int) (a4 : Int) (h : AH) : go (.fn F.gain_right [.agg [.int .i64 a1, .int .i64 a2], .agg [.int .i64 a3, .int .i64 a4]]) h =
  newK h (.cells [.int .i64 a1, .int .i64 a2] T.api_Sum) fun h5r h5 =>
  newK h5 (.cells [.int .i64 a3, .int .i64 a4] T.api_Sum) fun h6r h6 =>
  newK h6 (.cells [.int .i64 0, .int .i64 0] T.api_Sum) fun h7r h7 =>
  ((h7.cell (h5r.add 0)).bind (AV.asInt .i64)).bind fun n8 =>
  ((h7.cell (h5r.add 1)).bind (AV.asInt .i64)).bind fun n9 =>
  (go (.fn F.gain_may [.agg [.int .i64 n8, .int .i64 n9]]) h7).bind fun q10 =>
  ((some q10.1).bind AV.asBool).bind fun b11 =>
  cond (!b11) (
  (q10.2.puts h7r [.int .i64 0, .int .i64 0]).bind fun h12 =>
  ((h12.cell (h7r.add 0)).bind (AV.asInt .i64)).bind fun n13 =>
  ((h12.cell (h7r.add 1)).bind (AV.asInt .i64)).bind fun n14 =>
  some (.tup [.agg [.int .i64 n13, .int .i64 n14], .bool false], h12)) (
  ((q10.2.cell (h6r.add 0)).bind (AV.asInt .i64)).bind fun n15 =>
  ((q10.2.cell (h6r.add 1)).bind (AV.asInt .i64)).bind fun n16 =>
  (go (.fn F.gain_may [.agg [.int .i64 n15, .int .i64 n16]]) q10.2).bind fun q17 =>
  ((some q17.1).bind AV.asBool).bind fun b18 =>
  cond (!b18) (
  (q17.2.puts h7r [.int .i64 0, .int .i64 0]).bind fun h19 =>
  ((h19.cell (h7r.add 0)).bind (AV.asInt .i64)).bind fun n20 =>
  ((h19.cell (h7r.add 1)).bind (AV.asInt .i64)).bind fun n21 =>
  some (.tup [.agg [.int .i64 n20, .int .i64 n21], .bool false], h19)) (
  ((q17.2.cell (h6r.add 0)).bind (AV.asInt .i64)).bind fun n22 =>
  ((q17.2.cell (h5r.add 0)).bind (AV.asInt .i64)).bind fun n23 =>
  ((q17.2.cell (h6r.add 1)).bind (AV.asInt .i64)).bind fun n24 =>
  ((q17.2.cell (h5r.add 1)).bind (AV.asInt .i64)).bind fun n25 =>
  newK q17.2 (.cells [.int .i64 0, .int .i64 0] T.api_Sum) fun h26r h26 =>
  (h26.puts h26r [.int .i64 (IntKind.wrap .i64 (n22 - n23)), .int .i64 (IntKind.wrap .i64 (n24 - n25))]).bind fun h27 =>
  ((h27.cell (h26r.add 0)).bind (AV.asInt .i64)).bind fun n28 =>
  ((h27.cell (h26r.add 1)).bind (AV.asInt .i64)).bind fun n29 =>
  ((h27.cell (h26r.add 0)).bind (AV.asInt .i64)).bind fun n30 =>
  ((h27.cell (h26r.add 1)).bind (AV.asInt .i64)).bind fun n31 =>
  (go (.fn F.gain_may [.agg [.int .i64 n30, .int .i64 n31]]) h27).bind fun q32 =>
  ((some q32.1).bind AV.asBool).bind fun b33 =>
  whenK (SameAt h27 q32.2 h26r 2) (
  (q32.2.puts h7r [.int .i64 n28, .int .i64 n29]).bind fun h34 =>
  ((h34.cell (h7r.add 0)).bind (AV.asInt .i64)).bind fun n35 =>
  ((h34.cell (h7r.add 1)).bind (AV.asInt .i64)).bind fun n36 =>
  some (.tup [.agg [.int .i64 n35, .int .i64 n36], .bool b33], h34)))) := (go_step _ h).trans (by kernel_rfl)

theorem u_gain_Gain_1 (a1 : Int) (a2 : Int) (a3 : Ref) (h : AH) : go (.fn F.gain_Gain_1 [.agg [.int .i64 a1, .int .i64 a2], .ptr (some a3)]) h =
  newK h (.cells [.int .i64 a1, .int .i64 a2] T.api_Sum) fun h4r h4 =>
  newK h4 (.cells [.bool false, (⟨none, 0, .is 0⟩ : Sl).v, (⟨none, 0, .is 0⟩ : Sl).v] T.api_Frac) fun h5r h5 =>
  ((h5.cell a3).bind (AV.asInt .i64)).bind fun n6 =>
  ((h5.cell (h4r.add 0)).bind (AV.asInt .i64)).bind fun n7 =>
  ((h5.cell (h4r.add 1)).bind (AV.asInt .i64)).bind fun n8 =>
  (go (.fn F.gain_Score [.int .i64 n6, .agg [.int .i64 n7, .int .i64 n8]]) h5).bind fun q9 =>
  (AV.asTup2 q9.1).bind fun p10 =>
  (AV.asAgg p10.1).bind fun cs11 =>
  cond (Nat.beq cs11.length 3) (
  ((cs11[0]?).bind AV.asBool).bind fun b12 =>
  ((cs11[1]?).bind AV.asSl).bind fun l13 =>
  ((cs11[2]?).bind AV.asSl).bind fun l14 =>
  ((some p10.2).bind (AV.asInt .i64)).bind fun n15 =>
  newK q9.2 (.cells [.bool false, (⟨none, 0, .is 0⟩ : Sl).v, (⟨none, 0, .is 0⟩ : Sl).v] T.api_Frac) fun h16r h16 =>
  (h16.puts h16r [.bool b12, l13.v, l14.v]).bind fun h17 =>
  ((h17.cell (h16r.add 0)).bind AV.asBool).bind fun b18 =>
  ((h17.cell (h16r.add 1)).bind AV.asSl).bind fun l19 =>
  ((h17.cell (h16r.add 2)).bind AV.asSl).bind fun l20 =>
  (h17.puts h5r [.bool b18, l19.v, l20.v]).bind fun h21 =>
  ((h21.cell (h5r.add 0)).bind AV.asBool).bind fun b22 =>
  ((h21.cell (h5r.add 1)).bind AV.asSl).bind fun l23 =>
  ((h21.cell (h5r.add 2)).bind AV.asSl).bind fun l24 =>
  some (.agg [.bool b22, l23.v, l24.v], h21)) none := (go_step _ h).trans (by kernel_rfl)

theorem u_ref17_Right (a1 : Int) (a2 : Int) (a3 : Int) (a4 : Int) (h : AH) : go (.fn F.ref17_Right [.agg [.int .i64 a1, .int .i64 a2], .agg [.int .i64 a3, .int .i64 a4]]) h =
  newK h (.cells [.int .i64 a1, .int .i64 a2] T.api_Sum) fun h5r h5 =>
  newK h5 (.cells [.int .i64 a3, .int .i64 a4] T.api_Sum) fun h6r h6 =>
  newK h6 (.cells [.int .i64 0, .int .i64 0] T.api_Sum) fun h7r h7 =>
  ((h7.cell (h5r.add 0)).bind (AV.asInt .i64)).bind fun n8 =>
  ((h7.cell (h5r.add 1)).bind (AV.asInt .i64)).bind fun n9 =>
  (go (.fn F.ref16_RightSum [.agg [.int .i64 n8, .int .i64 n9]]) h7).bind fun q10 =>
  ((some q10.1).bind AV.asBool).bind fun b11 =>
  ((q10.2.cell (h6r.add 0)).bind (AV.asInt .i64)).bind fun n12 =>
  ((q10.2.cell (h6r.add 1)).bind (AV.asInt .i64)).bind fun n13 =>
  (go (.fn F.ref16_RightSum [.agg [.int .i64 n12, .int .i64 n13]]) q10.2).bind fun q14 =>
  ((some q14.1).bind AV.asBool).bind fun b15 =>
  cond (!b11) (
  (q14.2.puts h7r [.int .i64 0, .int .i64 0]).bind fun h16 =>
  ((h16.cell (h7r.add 0)).bind (AV.asInt .i64)).bind fun n17 =>
  ((h16.cell (h7r.add 1)).bind (AV.asInt .i64)).bind fun n18 =>
  some (.tup [.agg [.int .i64 n17, .int .i64 n18], .bool false], h16)) (
  cond (!b15) (
  (q14.2.puts h7r [.int .i64 0, .int .i64 0]).bind fun h19 =>
  ((h19.cell (h7r.add 0)).bind (AV.asInt .i64)).bind fun n20 =>
  ((h19.cell (h7r.add 1)).bind (AV.asInt .i64)).bind fun n21 =>
  some (.tup [.agg [.int .i64 n20, .int .i64 n21], .bool false], h19)) (
  ((q14.2.cell (h6r.add 0)).bind (AV.asInt .i64)).bind fun n22 =>
  ((q14.2.cell (h5r.add 0)).bind (AV.asInt .i64)).bind fun n23 =>
  ((q14.2.cell (h6r.add 1)).bind (AV.asInt .i64)).bind fun n24 =>
  ((q14.2.cell (h5r.add 1)).bind (AV.asInt .i64)).bind fun n25 =>
  newK q14.2 (.cells [.int .i64 0, .int .i64 0] T.api_Sum) fun h26r h26 =>
  (h26.puts h26r [.int .i64 (IntKind.wrap .i64 (n22 - n23)), .int .i64 (IntKind.wrap .i64 (n24 - n25))]).bind fun h27 =>
  ((h27.cell (h26r.add 0)).bind (AV.asInt .i64)).bind fun n28 =>
  ((h27.cell (h26r.add 1)).bind (AV.asInt .i64)).bind fun n29 =>
  ((h27.cell (h26r.add 0)).bind (AV.asInt .i64)).bind fun n30 =>
  ((h27.cell (h26r.add 1)).bind (AV.asInt .i64)).bind fun n31 =>
  (go (.fn F.ref16_RightSum [.agg [.int .i64 n30, .int .i64 n31]]) h27).bind fun q32 =>
  ((some q32.1).bind AV.asBool).bind fun b33 =>
  whenK (SameAt h27 q32.2 h26r 2) (
  (q32.2.puts h7r [.int .i64 n28, .int .i64 n29]).bind fun h34 =>
  ((h34.cell (h7r.add 0)).bind (AV.asInt .i64)).bind fun n35 =>
  ((h34.cell (h7r.add 1)).bind (AV.asInt .i64)).bind fun n36 =>
  some (.tup [.agg [.int .i64 n35, .int .i64 n36], .bool b33], h34)))) := (go_step _ h).trans (by kernel_rfl)

theorem p_gain_Best_7__gain_Best_1 (a1 : Int) (a2 : Ref) (a3 : Ref) (a4 : Ref) (a5 : Ref) (a6 : Sl) (a7 : Int) (a8 : Int) (h : AH) : go (.pt F.gain_Best Td.gain_Best_7 [(0, .int .i64 a1), (6, .ptr (some a2)), (10, .ptr (some a3)), (13, .func (.func F.gain_Best_1) [] [.ptr (some a4), .ptr (some a5)]), (47, a6.v), (48, .int .i64 a7), (49, .int .i64 a8)]) h =
  cond (decide (a8 < a7)) (
  (idx a6.ref a6.len a8 2).bind fun r9 =>
  ((h.cell (r9.add 0)).bind (AV.asInt .i64)).bind fun n10 =>
  ((h.cell (r9.add 1)).bind (AV.asInt .i64)).bind fun n11 =>
  newK h (.cells [.int .i64 0, .int .i64 0] T.api_Sum) fun h12r h12 =>
  (h12.puts h12r [.int .i64 n10, .int .i64 n11]).bind fun h13 =>
  ((h13.cell (h12r.add 0)).bind (AV.asInt .i64)).bind fun n14 =>
  ((h13.cell (h12r.add 1)).bind (AV.asInt .i64)).bind fun n15 =>
  ((h13.cell (a2.add 0)).bind (AV.asInt .i64)).bind fun n16 =>
  ((h13.cell (a2.add 1)).bind (AV.asInt .i64)).bind fun n17 =>
  (go (.fn F.gain_Gain [.int .i64 a1, .agg [.int .i64 n14, .int .i64 n15], .agg [.int .i64 n16, .int .i64 n17]]) h13).bind fun q18 =>
  (AV.asTup2 q18.1).bind fun p19 =>
  (AV.asAgg p19.1).bind fun cs20 =>
  cond (Nat.beq cs20.length 3) (
  ((cs20[0]?).bind AV.asBool).bind fun b21 =>
  ((cs20[1]?).bind AV.asSl).bind fun l22 =>
  ((cs20[2]?).bind AV.asSl).bind fun l23 =>
  ((some p19.2).bind (AV.asInt .i64)).bind fun n24 =>
  newK q18.2 (.cells [.bool false, (⟨none, 0, .is 0⟩ : Sl).v, (⟨none, 0, .is 0⟩ : Sl).v] T.api_Frac) fun h25r h25 =>
  (h25.puts h25r [.bool b21, l22.v, l23.v]).bind fun h26 =>
  cond (!decide (n24 = 0)) (
  some (.tup [(⟨none, 0, .is 0⟩ : Sl).v, .int .i64 n24], h26)) (
  ((h26.cell (h12r.add 1)).bind (AV.asInt .i64)).bind fun n27 =>
  cond (decide (n27 > 0)) (
  ((h26.cell (h12r.add 1)).bind (AV.asInt .i64)).bind fun n28 =>
  ((h26.cell (a2.add 1)).bind (AV.asInt .i64)).bind fun n29 =>
  cond (decide (n28 < n29)) (
  ((h26.cell (h25r.add 0)).bind AV.asBool).bind fun b30 =>
  ((h26.cell (h25r.add 1)).bind AV.asSl).bind fun l31 =>
  ((h26.cell (h25r.add 2)).bind AV.asSl).bind fun l32 =>
  (go (.fn F.gain_Best_1 [.int .i64 a8, .agg [.bool b30, l31.v, l32.v], .ptr (some a4), .ptr (some a5)]) h26).bind fun q33 =>
  (AV.asTup0 q33.1).bind fun _ =>
  go (.pt F.gain_Best Td.gain_Best_7 [(0, .int .i64 a1), (6, .ptr (some a2)), (10, .ptr (some a3)), (13, .func (.func F.gain_Best_1) [] [.ptr (some a4), .ptr (some a5)]), (47, a6.v), (48, .int .i64 a7), (49, .int .i64 (IntKind.wrap .i64 (a8 + 1)))]) q33.2) (
  go (.pt F.gain_Best Td.gain_Best_7 [(0, .int .i64 a1), (6, .ptr (some a2)), (10, .ptr (some a3)), (13, .func (.func F.gain_Best_1) [] [.ptr (some a4), .ptr (some a5)]), (47, a6.v), (48, .int .i64 a7), (49, .int .i64 (IntKind.wrap .i64 (a8 + 1)))]) h26)) (
  go (.pt F.gain_Best Td.gain_Best_7 [(0, .int .i64 a1), (6, .ptr (some a2)), (10, .ptr (some a3)), (13, .func (.func F.gain_Best_1) [] [.ptr (some a4), .ptr (some a5)]), (47, a6.v), (48, .int .i64 a7), (49, .int .i64 (IntKind.wrap .i64 (a8 + 1)))]) h26))) none) (
  ((h.cell a3).bind AV.asSl).bind fun l34 =>
  some (.tup [l34.v, .int .i64 0], h)) := (go_step _ h).trans (by kernel_rfl)

theorem p_law17_GainTurned_19 (a1 : Int) (a2 : Sl) (a3 : Sl) (a4 : Int) (h : AH) : go (.pt F.law17_GainTurned Td.law17_GainTurned_19 [(8, .int .i64 a1), (11, a2.v), (15, a3.v), (17, .int .i64 a4)]) h =
  cond (decide (a4 < (a2.len : Int))) (
  (idx a2.ref a2.len a4 1).bind fun r5 =>
  ((h.cell r5).bind (AV.asInt .i64)).bind fun n6 =>
  cond (decide (n6 < 0)) (
  some (.bool false, h)) (
  (idx a2.ref a2.len a4 1).bind fun r7 =>
  ((h.cell r7).bind (AV.asInt .i64)).bind fun n8 =>
  cond (decide (n8 ≥ a1)) (
  some (.bool false, h)) (
  (idx a2.ref a2.len a4 1).bind fun r9 =>
  ((h.cell r9).bind (AV.asInt .i64)).bind fun n10 =>
  (idx a3.ref a3.len n10 1).bind fun r11 =>
  ((h.cell r11).bind AV.asBool).bind fun b12 =>
  cond (!b12) (
  some (.bool false, h)) (
  go (.pt F.law17_GainTurned Td.law17_GainTurned_19 [(8, .int .i64 a1), (11, a2.v), (15, a3.v), (17, .int .i64 (IntKind.wrap .i64 (a4 + 1)))]) h)))) (
  some (.bool true, h)) := (go_step _ h).trans (by kernel_rfl)

theorem p_nat_school_3 (a1 : Sl) (a2 : Sl) (a3 : Sl) (a4 : Int) (a5 : Int) (h : AH) : go (.pt F.nat_school Td.nat_school_3 [(1, a1.v), (5, a2.v), (20, a3.v), (21, .int .i64 a4), (22, .int .i64 a5)]) h =
  cond (decide (a5 < a4)) (
  (idx a3.ref a3.len a5 1).bind fun r6 =>
  ((h.cell r6).bind (AV.asInt .u64)).bind fun n7 =>
  go (.pt F.nat_school Td.nat_school_7 [(1, a1.v), (5, a2.v), (6, .int .i64 a5), (7, .int .u64 n7), (8, .int .u64 0), (20, a3.v), (21, .int .i64 a4), (22, .int .i64 a5), (27, a1.v), (28, .int .i64 (a1.len : Int)), (29, .int .i64 0)]) h) (
  (go (.fn F.nat_trim [a2.v]) h).bind fun q8 =>
  ((some q8.1).bind AV.asSl).bind fun l9 =>
  some (l9.v, q8.2)) := (go_step _ h).trans (by kernel_rfl)

theorem p_nat_sum_6 (a1 : Sl) (a2 : Sl) (a3 : Sl) (a4 : Int) (a5 : Int) (a6 : Int) (h : AH) : go (.pt F.nat_sum Td.nat_sum_6 [(0, a1.v), (1, a2.v), (5, a3.v), (6, .int .u64 a4), (21, .int .i64 a5), (22, .int .i64 a6)]) h =
  cond (decide (a6 < a5)) (
  cond (decide (a6 < (a2.len : Int))) (
  (idx a2.ref a2.len a6 1).bind fun r7 =>
  ((h.cell r7).bind (AV.asInt .u64)).bind fun n8 =>
  (idx a1.ref a1.len a6 1).bind fun r9 =>
  ((h.cell r9).bind (AV.asInt .u64)).bind fun n10 =>
  ((prim "math/bits.Add64" [.int .u64 n10, .int .u64 n8, .int .u64 a4]).map fun v => (v, h)).bind fun q11 =>
  (AV.asTup2 q11.1).bind fun p12 =>
  ((some p12.1).bind (AV.asInt .u64)).bind fun n13 =>
  ((some p12.2).bind (AV.asInt .u64)).bind fun n14 =>
  (idx a3.ref a3.len a6 1).bind fun r15 =>
  (q11.2.puts r15 [.int .u64 n13]).bind fun h16 =>
  go (.pt F.nat_sum Td.nat_sum_6 [(0, a1.v), (1, a2.v), (5, a3.v), (6, .int .u64 n14), (21, .int .i64 a5), (22, .int .i64 (IntKind.wrap .i64 (a6 + 1)))]) h16) (
  (idx a1.ref a1.len a6 1).bind fun r17 =>
  ((h.cell r17).bind (AV.asInt .u64)).bind fun n18 =>
  ((prim "math/bits.Add64" [.int .u64 n18, .int .u64 0, .int .u64 a4]).map fun v => (v, h)).bind fun q19 =>
  (AV.asTup2 q19.1).bind fun p20 =>
  ((some p20.1).bind (AV.asInt .u64)).bind fun n21 =>
  ((some p20.2).bind (AV.asInt .u64)).bind fun n22 =>
  (idx a3.ref a3.len a6 1).bind fun r23 =>
  (q19.2.puts r23 [.int .u64 n21]).bind fun h24 =>
  go (.pt F.nat_sum Td.nat_sum_6 [(0, a1.v), (1, a2.v), (5, a3.v), (6, .int .u64 n22), (21, .int .i64 a5), (22, .int .i64 (IntKind.wrap .i64 (a6 + 1)))]) h24)) (
  (idx a3.ref a3.len (a1.len : Int) 1).bind fun r25 =>
  (h.puts r25 [.int .u64 a4]).bind fun h26 =>
  some (a3.v, h26)) := (go_step _ h).trans (by kernel_rfl)

theorem p_nat_trim_2 (a1 : Sl) (a2 : Int) (h : AH) : go (.pt F.nat_trim Td.nat_trim_2 [(0, a1.v), (3, .int .i64 a2)]) h =
  cond (decide (a2 > 0)) (
  (idx a1.ref a1.len (IntKind.wrap .i64 (a2 - 1)) 1).bind fun r3 =>
  ((h.cell r3).bind (AV.asInt .u64)).bind fun n4 =>
  cond (decide (n4 = 0)) (
  go (.pt F.nat_trim Td.nat_trim_2 [(0, a1.v), (3, .int .i64 (IntKind.wrap .i64 (a2 - 1)))]) h) (
  (cutSl a1 0 a2 1).bind fun l5 =>
  some (l5.v, h))) (
  (cutSl a1 0 a2 1).bind fun l6 =>
  some (l6.v, h)) := (go_step _ h).trans (by kernel_rfl)

theorem p_nat_less_4 (a1 : Sl) (a2 : Sl) (a3 : Sl) (a4 : Int) (a5 : Int) (a6 : Int) (h : AH) : go (.pt F.nat_less Td.nat_less_4 [(0, a1.v), (1, a2.v), (5, a3.v), (6, .int .u64 a4), (13, .int .i64 a5), (14, .int .i64 a6)]) h =
  cond (decide (a6 < a5)) (
  cond (decide (a6 < (a2.len : Int))) (
  (idx a2.ref a2.len a6 1).bind fun r7 =>
  ((h.cell r7).bind (AV.asInt .u64)).bind fun n8 =>
  (idx a1.ref a1.len a6 1).bind fun r9 =>
  ((h.cell r9).bind (AV.asInt .u64)).bind fun n10 =>
  ((prim "math/bits.Sub64" [.int .u64 n10, .int .u64 n8, .int .u64 a4]).map fun v => (v, h)).bind fun q11 =>
  (AV.asTup2 q11.1).bind fun p12 =>
  ((some p12.1).bind (AV.asInt .u64)).bind fun n13 =>
  ((some p12.2).bind (AV.asInt .u64)).bind fun n14 =>
  (idx a3.ref a3.len a6 1).bind fun r15 =>
  (q11.2.puts r15 [.int .u64 n13]).bind fun h16 =>
  go (.pt F.nat_less Td.nat_less_4 [(0, a1.v), (1, a2.v), (5, a3.v), (6, .int .u64 n14), (13, .int .i64 a5), (14, .int .i64 (IntKind.wrap .i64 (a6 + 1)))]) h16) (
  (idx a1.ref a1.len a6 1).bind fun r17 =>
  ((h.cell r17).bind (AV.asInt .u64)).bind fun n18 =>
  ((prim "math/bits.Sub64" [.int .u64 n18, .int .u64 0, .int .u64 a4]).map fun v => (v, h)).bind fun q19 =>
  (AV.asTup2 q19.1).bind fun p20 =>
  ((some p20.1).bind (AV.asInt .u64)).bind fun n21 =>
  ((some p20.2).bind (AV.asInt .u64)).bind fun n22 =>
  (idx a3.ref a3.len a6 1).bind fun r23 =>
  (q19.2.puts r23 [.int .u64 n21]).bind fun h24 =>
  go (.pt F.nat_less Td.nat_less_4 [(0, a1.v), (1, a2.v), (5, a3.v), (6, .int .u64 n22), (13, .int .i64 a5), (14, .int .i64 (IntKind.wrap .i64 (a6 + 1)))]) h24)) (
  some (a3.v, h)) := (go_step _ h).trans (by kernel_rfl)

theorem p_nat_into_2 (a1 : Sl) (a2 : Sl) (a3 : Int) (a4 : Int) (a5 : Int) (h : AH) : go (.pt F.nat_into Td.nat_into_2 [(0, a1.v), (1, a2.v), (2, .int .i64 a3), (6, .int .u64 a4), (7, .int .i64 a5)]) h =
  cond (decide (a5 < (a1.len : Int))) (
  cond (decide ((IntKind.wrap .i64 (a5 - a3)) < (a2.len : Int))) (
  cond (decide ((IntKind.wrap .i64 (a5 - a3)) < (a2.len : Int))) (
  (idx a2.ref a2.len (IntKind.wrap .i64 (a5 - a3)) 1).bind fun r6 =>
  ((h.cell r6).bind (AV.asInt .u64)).bind fun n7 =>
  (idx a1.ref a1.len a5 1).bind fun r8 =>
  ((h.cell r8).bind (AV.asInt .u64)).bind fun n9 =>
  ((prim "math/bits.Add64" [.int .u64 n9, .int .u64 n7, .int .u64 a4]).map fun v => (v, h)).bind fun q10 =>
  (AV.asTup2 q10.1).bind fun p11 =>
  ((some p11.1).bind (AV.asInt .u64)).bind fun n12 =>
  ((some p11.2).bind (AV.asInt .u64)).bind fun n13 =>
  (idx a1.ref a1.len a5 1).bind fun r14 =>
  (q10.2.puts r14 [.int .u64 n12]).bind fun h15 =>
  go (.pt F.nat_into Td.nat_into_2 [(0, a1.v), (1, a2.v), (2, .int .i64 a3), (6, .int .u64 n13), (7, .int .i64 (IntKind.wrap .i64 (a5 + 1)))]) h15) (
  (idx a1.ref a1.len a5 1).bind fun r16 =>
  ((h.cell r16).bind (AV.asInt .u64)).bind fun n17 =>
  ((prim "math/bits.Add64" [.int .u64 n17, .int .u64 0, .int .u64 a4]).map fun v => (v, h)).bind fun q18 =>
  (AV.asTup2 q18.1).bind fun p19 =>
  ((some p19.1).bind (AV.asInt .u64)).bind fun n20 =>
  ((some p19.2).bind (AV.asInt .u64)).bind fun n21 =>
  (idx a1.ref a1.len a5 1).bind fun r22 =>
  (q18.2.puts r22 [.int .u64 n20]).bind fun h23 =>
  go (.pt F.nat_into Td.nat_into_2 [(0, a1.v), (1, a2.v), (2, .int .i64 a3), (6, .int .u64 n21), (7, .int .i64 (IntKind.wrap .i64 (a5 + 1)))]) h23)) (
  cond (decide (a4 > 0)) (
  cond (decide ((IntKind.wrap .i64 (a5 - a3)) < (a2.len : Int))) (
  (idx a2.ref a2.len (IntKind.wrap .i64 (a5 - a3)) 1).bind fun r24 =>
  ((h.cell r24).bind (AV.asInt .u64)).bind fun n25 =>
  (idx a1.ref a1.len a5 1).bind fun r26 =>
  ((h.cell r26).bind (AV.asInt .u64)).bind fun n27 =>
  ((prim "math/bits.Add64" [.int .u64 n27, .int .u64 n25, .int .u64 a4]).map fun v => (v, h)).bind fun q28 =>
  (AV.asTup2 q28.1).bind fun p29 =>
  ((some p29.1).bind (AV.asInt .u64)).bind fun n30 =>
  ((some p29.2).bind (AV.asInt .u64)).bind fun n31 =>
  (idx a1.ref a1.len a5 1).bind fun r32 =>
  (q28.2.puts r32 [.int .u64 n30]).bind fun h33 =>
  go (.pt F.nat_into Td.nat_into_2 [(0, a1.v), (1, a2.v), (2, .int .i64 a3), (6, .int .u64 n31), (7, .int .i64 (IntKind.wrap .i64 (a5 + 1)))]) h33) (
  (idx a1.ref a1.len a5 1).bind fun r34 =>
  ((h.cell r34).bind (AV.asInt .u64)).bind fun n35 =>
  ((prim "math/bits.Add64" [.int .u64 n35, .int .u64 0, .int .u64 a4]).map fun v => (v, h)).bind fun q36 =>
  (AV.asTup2 q36.1).bind fun p37 =>
  ((some p37.1).bind (AV.asInt .u64)).bind fun n38 =>
  ((some p37.2).bind (AV.asInt .u64)).bind fun n39 =>
  (idx a1.ref a1.len a5 1).bind fun r40 =>
  (q36.2.puts r40 [.int .u64 n38]).bind fun h41 =>
  go (.pt F.nat_into Td.nat_into_2 [(0, a1.v), (1, a2.v), (2, .int .i64 a3), (6, .int .u64 n39), (7, .int .i64 (IntKind.wrap .i64 (a5 + 1)))]) h41)) (
  some (.tup [], h)))) (
  some (.tup [], h)) := (go_step _ h).trans (by kernel_rfl)

theorem u_slices_Clone_api_Nat_uint64 (a1 : Sl) (h : AH) : go (.fn F.slices_Clone_api_Nat_uint64 [a1.v]) h =
  cond a1.ref.isNone (
  some ((⟨none, 0, .is 0⟩ : Sl).v, h)) (
  newK h (.cells [] T.uint64) fun h2r h2 =>
  (appendArgs Pg T.uint64 a1.v h2).bind fun p4 =>
  (appendH Pg (⟨some h2r, 0, .is 0⟩ : Sl) p4.1 p4.2 T.uint64 1 h2).bind fun q3 =>
  (AV.asSl q3.1).bind fun l5 =>
  some (l5.v, q3.2)) := (go_step _ h).trans (by kernel_rfl)

theorem p_modint_Gcd_4 (a1 : Sl) (a2 : Sl) (h : AH) : go (.pt F.modint_Gcd Td.modint_Gcd_4 [(0, a1.v), (1, a2.v)]) h =
  cond (decide ((a2.len : Int) > 0)) (
  (go (.fn F.nat_Div [a1.v, a2.v]) h).bind fun q3 =>
  (AV.asTup3 q3.1).bind fun p4 =>
  ((some p4.1).bind AV.asSl).bind fun l5 =>
  ((some p4.2.1).bind AV.asSl).bind fun l6 =>
  ((some p4.2.2).bind (AV.asInt .i64)).bind fun n7 =>
  go (.pt F.modint_Gcd Td.modint_Gcd_4 [(0, a2.v), (1, l6.v)]) q3.2) (
  some (.tup [a1.v, .int .i64 0], h)) := (go_step _ h).trans (by kernel_rfl)

theorem u_nat_right (a1 : Sl) (h : AH) : go (.fn F.nat_right [a1.v]) h =
  (go (.fn F.slices_ContainsFunc_api_Nat_api_Nat [a1.v, .func (.func F.nat_right_1) [] []]) h).bind fun q2 =>
  ((some q2.1).bind AV.asBool).bind fun b3 =>
  some (.bool (!b3), q2.2) := (go_step _ h).trans (by kernel_rfl)

theorem u_nat_compare (a1 : Sl) (a2 : Sl) (h : AH) : go (.fn F.nat_compare [a1.v, a2.v]) h =
  cond (!decide ((a1.len : Int) = (a2.len : Int))) (
  cond (decide ((a1.len : Int) < (a2.len : Int))) (
  some (.int .i64 (-1), h)) (
  some (.int .i64 1, h))) (
  go (.pt F.nat_compare Td.nat_compare_6 [(0, a1.v), (1, a2.v), (5, .int .i64 (IntKind.wrap .i64 ((a1.len : Int) - 1)))]) h) := (go_step _ h).trans (by kernel_rfl)

theorem u_nat_short (a1 : Sl) (a2 : Int) (h : AH) : go (.fn F.nat_short [a1.v, .int .u64 a2]) h =
  (makeSliceH (a1.len : Int) (a1.len : Int) T.uint64 (Pg.bytesOf T.uint64) [.int .u64 0] h).bind fun q3 =>
  go (.pt F.nat_short Td.nat_short_4 [(0, a1.v), (1, .int .u64 a2), (6, q3.1.v), (7, .int .u64 0), (8, .int .i64 (IntKind.wrap .i64 ((a1.len : Int) - 1)))]) q3.2 := (go_step _ h).trans (by kernel_rfl)

theorem u_nat_long (a1 : Sl) (a2 : Sl) (h : AH) : go (.fn F.nat_long [a1.v, a2.v]) h =
  (idx a2.ref a2.len (IntKind.wrap .i64 ((a2.len : Int) - 1)) 1).bind fun r3 =>
  ((h.cell r3).bind (AV.asInt .u64)).bind fun n4 =>
  (go (.fn F.math_bits_LeadingZeros64 [.int .u64 n4]) h).bind fun q5 =>
  ((some q5.1).bind (AV.asInt .i64)).bind fun n6 =>
  (go (.fn F.nat_up [a1.v, .int .u64 (IntKind.wrap .u64 n6)]) q5.2).bind fun q7 =>
  ((some q7.1).bind AV.asSl).bind fun l8 =>
  (go (.fn F.nat_up [a2.v, .int .u64 (IntKind.wrap .u64 n6)]) q7.2).bind fun q9 =>
  ((some q9.1).bind AV.asSl).bind fun l10 =>
  (go (.fn F.nat_trim [l10.v]) q9.2).bind fun q11 =>
  ((some q11.1).bind AV.asSl).bind fun l12 =>
  (makeSliceH (IntKind.wrap .i64 ((l8.len : Int) - (l12.len : Int))) (IntKind.wrap .i64 ((l8.len : Int) - (l12.len : Int))) T.uint64 (Pg.bytesOf T.uint64) [.int .u64 0] q11.2).bind fun q13 =>
  go (.pt F.nat_long Td.nat_long_6 [(6, .int .u64 (IntKind.wrap .u64 n6)), (7, l8.v), (8, l12.v), (9, .int .i64 (l12.len : Int)), (10, q13.1.v), (11, .int .i64 (IntKind.wrap .i64 ((q13.1.len : Int) - 1)))]) q13.2 := (go_step _ h).trans (by kernel_rfl)

theorem p_ref03_Gcd_7 (a1 : Sl) (a2 : Sl) (h : AH) : go (.pt F.ref03_Gcd Td.ref03_Gcd_7 [(8, a1.v), (9, a2.v)]) h =
  cond (decide ((a2.len : Int) > 0)) (
  (go (.fn F.ref01_Rest [a1.v, a2.v]) h).bind fun q3 =>
  ((some q3.1).bind AV.asSl).bind fun l4 =>
  go (.pt F.ref03_Gcd Td.ref03_Gcd_7 [(8, a2.v), (9, l4.v)]) q3.2) (
  some (.tup [a1.v, .int .i64 0], h)) := (go_step _ h).trans (by kernel_rfl)

theorem u_ref01_In (a1 : Sl) (h : AH) : go (.fn F.ref01_In [a1.v]) h =
  go (.pt F.ref01_In Td.ref01_In_3 [(0, a1.v), (3, (⟨none, 0, .is 0⟩ : Sl).v), (4, .int .i64 0)]) h := (go_step _ h).trans (by kernel_rfl)

theorem u_ref01_div (a1 : Sl) (a2 : Sl) (h : AH) : go (.fn F.ref01_div [a1.v, a2.v]) h =
  (makeSliceH (a1.len : Int) (a1.len : Int) T.uint64 (Pg.bytesOf T.uint64) [.int .u64 0] h).bind fun q3 =>
  go (.pt F.ref01_div Td.ref01_div_4 [(0, a1.v), (1, a2.v), (6, q3.1.v), (7, (⟨none, 0, .is 0⟩ : Sl).v), (8, .int .i64 (IntKind.wrap .i64 ((a1.len : Int) - 1)))]) q3.2 := (go_step _ h).trans (by kernel_rfl)

theorem u_ref01_Out (a1 : Sl) (h : AH) : go (.fn F.ref01_Out [a1.v]) h =
  go (.pt F.ref01_Out Td.ref01_Out_3 [(0, a1.v), (4, (⟨none, 0, .is 0⟩ : Sl).v), (5, .int .i64 0)]) h := (go_step _ h).trans (by kernel_rfl)

theorem p_ref01_Same_4 (a1 : Sl) (a2 : Sl) (a3 : Int) (h : AH) : go (.pt F.ref01_Same Td.ref01_Same_4 [(0, a1.v), (1, a2.v), (5, .int .i64 a3)]) h =
  cond (decide (a3 < (a1.len : Int))) (
  (idx a1.ref a1.len a3 1).bind fun r4 =>
  ((h.cell r4).bind (AV.asInt .u64)).bind fun n5 =>
  (idx a2.ref a2.len a3 1).bind fun r6 =>
  ((h.cell r6).bind (AV.asInt .u64)).bind fun n7 =>
  cond (!decide (n5 = n7)) (
  some (.bool false, h)) (
  go (.pt F.ref01_Same Td.ref01_Same_4 [(0, a1.v), (1, a2.v), (5, .int .i64 (IntKind.wrap .i64 (a3 + 1)))]) h)) (
  some (.bool true, h)) := (go_step _ h).trans (by kernel_rfl)

theorem u_ref01_compare (a1 : Sl) (a2 : Sl) (h : AH) : go (.fn F.ref01_compare [a1.v, a2.v]) h =
  cond (!decide ((a1.len : Int) = (a2.len : Int))) (
  cond (decide ((a1.len : Int) < (a2.len : Int))) (
  some (.int .i64 (-1), h)) (
  some (.int .i64 1, h))) (
  go (.pt F.ref01_compare Td.ref01_compare_6 [(0, a1.v), (1, a2.v), (5, .int .i64 (IntKind.wrap .i64 ((a1.len : Int) - 1)))]) h) := (go_step _ h).trans (by kernel_rfl)

theorem u_modint_Add (a1 : Bool) (a2 : Sl) (a3 : Bool) (a4 : Sl) (h : AH) : go (.fn F.modint_Add [.agg [.bool a1, a2.v], .agg [.bool a3, a4.v]]) h =
  newK h (.cells [.bool a1, a2.v] T.api_Int) fun h5r h5 =>
  newK h5 (.cells [.bool a3, a4.v] T.api_Int) fun h6r h6 =>
  newK h6 (.cells [.bool false, (⟨none, 0, .is 0⟩ : Sl).v] T.api_Int) fun h7r h7 =>
  ((h7.cell (h5r.add 0)).bind AV.asBool).bind fun b8 =>
  ((h7.cell (h5r.add 1)).bind AV.asSl).bind fun l9 =>
  ((h7.cell (h6r.add 0)).bind AV.asBool).bind fun b10 =>
  ((h7.cell (h6r.add 1)).bind AV.asSl).bind fun l11 =>
  newK h7 (.cells [.bool b8, l9.v, .bool b10, l11.v] T.api_Int) fun h12r h12 =>
  (go (.fn F.modint_right [(⟨some h12r, 2, .is 2⟩ : Sl).v]) h12).bind fun q13 =>
  ((some q13.1).bind AV.asBool).bind fun b14 =>
  cond (!b14) (
  (q13.2.puts h7r [.bool false, (⟨none, 0, .is 0⟩ : Sl).v]).bind fun h15 =>
  ((h15.cell (h7r.add 0)).bind AV.asBool).bind fun b16 =>
  ((h15.cell (h7r.add 1)).bind AV.asSl).bind fun l17 =>
  some (.tup [.agg [.bool b16, l17.v], .int .i64 1], h15)) (
  ((q13.2.cell (h5r.add 0)).bind AV.asBool).bind fun b18 =>
  ((q13.2.cell (h6r.add 0)).bind AV.asBool).bind fun b19 =>
  cond (b18 == b19) (
  ((q13.2.cell (h5r.add 1)).bind AV.asSl).bind fun l20 =>
  ((q13.2.cell (h6r.add 1)).bind AV.asSl).bind fun l21 =>
  (go (.fn F.nat_Add [l20.v, l21.v]) q13.2).bind fun q22 =>
  (AV.asTup2 q22.1).bind fun p23 =>
  ((some p23.1).bind AV.asSl).bind fun l24 =>
  ((some p23.2).bind (AV.asInt .i64)).bind fun n25 =>
  ((q22.2.cell (h5r.add 0)).bind AV.asBool).bind fun b26 =>
  (go (.fn F.modint_From [.bool b26, l24.v]) q22.2).bind fun q27 =>
  (AV.asAgg q27.1).bind fun cs28 =>
  cond (Nat.beq cs28.length 2) (
  ((cs28[0]?).bind AV.asBool).bind fun b29 =>
  ((cs28[1]?).bind AV.asSl).bind fun l30 =>
  (q27.2.puts h7r [.bool b29, l30.v]).bind fun h31 =>
  ((h31.cell (h7r.add 0)).bind AV.asBool).bind fun b32 =>
  ((h31.cell (h7r.add 1)).bind AV.asSl).bind fun l33 =>
  some (.tup [.agg [.bool b32, l33.v], .int .i64 n25], h31)) none) (
  ((q13.2.cell (h5r.add 1)).bind AV.asSl).bind fun l34 =>
  ((q13.2.cell (h6r.add 1)).bind AV.asSl).bind fun l35 =>
  (go (.fn F.nat_Cmp [l34.v, l35.v]) q13.2).bind fun q36 =>
  ((some q36.1).bind (AV.asInt .i64)).bind fun n37 =>
  cond (decide (n37 < 0)) (
  ((q36.2.cell (h6r.add 0)).bind AV.asBool).bind fun b38 =>
  ((q36.2.cell (h6r.add 1)).bind AV.asSl).bind fun l39 =>
  ((q36.2.cell (h5r.add 0)).bind AV.asBool).bind fun b40 =>
  ((q36.2.cell (h5r.add 1)).bind AV.asSl).bind fun l41 =>
  (q36.2.puts h5r [.bool b38, l39.v]).bind fun h42 =>
  (h42.puts h6r [.bool b40, l41.v]).bind fun h43 =>
  ((h43.cell (h5r.add 1)).bind AV.asSl).bind fun l44 =>
  ((h43.cell (h6r.add 1)).bind AV.asSl).bind fun l45 =>
  (go (.fn F.nat_Sub [l44.v, l45.v]) h43).bind fun q46 =>
  (AV.asTup2 q46.1).bind fun p47 =>
  ((some p47.1).bind AV.asSl).bind fun l48 =>
  ((some p47.2).bind (AV.asInt .i64)).bind fun n49 =>
  ((q46.2.cell (h5r.add 0)).bind AV.asBool).bind fun b50 =>
  (go (.fn F.modint_From [.bool b50, l48.v]) q46.2).bind fun q51 =>
  (AV.asAgg q51.1).bind fun cs52 =>
  cond (Nat.beq cs52.length 2) (
  ((cs52[0]?).bind AV.asBool).bind fun b53 =>
  ((cs52[1]?).bind AV.asSl).bind fun l54 =>
  (q51.2.puts h7r [.bool b53, l54.v]).bind fun h55 =>
  ((h55.cell (h7r.add 0)).bind AV.asBool).bind fun b56 =>
  ((h55.cell (h7r.add 1)).bind AV.asSl).bind fun l57 =>
  some (.tup [.agg [.bool b56, l57.v], .int .i64 n49], h55)) none) (
  ((q36.2.cell (h5r.add 1)).bind AV.asSl).bind fun l58 =>
  ((q36.2.cell (h6r.add 1)).bind AV.asSl).bind fun l59 =>
  (go (.fn F.nat_Sub [l58.v, l59.v]) q36.2).bind fun q60 =>
  (AV.asTup2 q60.1).bind fun p61 =>
  ((some p61.1).bind AV.asSl).bind fun l62 =>
  ((some p61.2).bind (AV.asInt .i64)).bind fun n63 =>
  ((q60.2.cell (h5r.add 0)).bind AV.asBool).bind fun b64 =>
  (go (.fn F.modint_From [.bool b64, l62.v]) q60.2).bind fun q65 =>
  (AV.asAgg q65.1).bind fun cs66 =>
  cond (Nat.beq cs66.length 2) (
  ((cs66[0]?).bind AV.asBool).bind fun b67 =>
  ((cs66[1]?).bind AV.asSl).bind fun l68 =>
  (q65.2.puts h7r [.bool b67, l68.v]).bind fun h69 =>
  ((h69.cell (h7r.add 0)).bind AV.asBool).bind fun b70 =>
  ((h69.cell (h7r.add 1)).bind AV.asSl).bind fun l71 =>
  some (.tup [.agg [.bool b70, l71.v], .int .i64 n63], h69)) none))) := (go_step _ h).trans (by kernel_rfl)

theorem u_ref01_mul (a1 : Sl) (a2 : Sl) (h : AH) : go (.fn F.ref01_mul [a1.v, a2.v]) h =
  (makeSliceH (IntKind.wrap .i64 ((a1.len : Int) + (a2.len : Int))) (IntKind.wrap .i64 ((a1.len : Int) + (a2.len : Int))) T.uint64 (Pg.bytesOf T.uint64) [.int .u64 0] h).bind fun q3 =>
  go (.pt F.ref01_mul Td.ref01_mul_3 [(0, a1.v), (1, a2.v), (5, q3.1.v), (6, .int .i64 0)]) q3.2 := (go_step _ h).trans (by kernel_rfl)

theorem u_ref01_told (a1 : Sl) (h : AH) : go (.fn F.ref01_told [a1.v]) h =
  (go (.fn F.ref01_Out [a1.v]) h).bind fun q2 =>
  (AV.asTup2 q2.1).bind fun p3 =>
  ((some p3.1).bind AV.asSl).bind fun l4 =>
  ((some p3.2).bind AV.asBool).bind fun b5 =>
  cond (!b5) (
  some (.tup [(⟨none, 0, .is 0⟩ : Sl).v, .int .i64 4], q2.2)) (
  some (.tup [l4.v, .int .i64 0], q2.2)) := (go_step _ h).trans (by kernel_rfl)

theorem u_modint_Sub (a1 : Bool) (a2 : Sl) (a3 : Bool) (a4 : Sl) (h : AH) : go (.fn F.modint_Sub [.agg [.bool a1, a2.v], .agg [.bool a3, a4.v]]) h =
  newK h (.cells [.bool a1, a2.v] T.api_Int) fun h5r h5 =>
  newK h5 (.cells [.bool a3, a4.v] T.api_Int) fun h6r h6 =>
  newK h6 (.cells [.bool false, (⟨none, 0, .is 0⟩ : Sl).v] T.api_Int) fun h7r h7 =>
  ((h7.cell (h5r.add 0)).bind AV.asBool).bind fun b8 =>
  ((h7.cell (h5r.add 1)).bind AV.asSl).bind fun l9 =>
  ((h7.cell (h6r.add 0)).bind AV.asBool).bind fun b10 =>
  ((h7.cell (h6r.add 1)).bind AV.asSl).bind fun l11 =>
  newK h7 (.cells [.bool b8, l9.v, .bool b10, l11.v] T.api_Int) fun h12r h12 =>
  (go (.fn F.modint_right [(⟨some h12r, 2, .is 2⟩ : Sl).v]) h12).bind fun q13 =>
  ((some q13.1).bind AV.asBool).bind fun b14 =>
  cond (!b14) (
  (q13.2.puts h7r [.bool false, (⟨none, 0, .is 0⟩ : Sl).v]).bind fun h15 =>
  ((h15.cell (h7r.add 0)).bind AV.asBool).bind fun b16 =>
  ((h15.cell (h7r.add 1)).bind AV.asSl).bind fun l17 =>
  some (.tup [.agg [.bool b16, l17.v], .int .i64 1], h15)) (
  ((q13.2.cell (h5r.add 0)).bind AV.asBool).bind fun b18 =>
  ((q13.2.cell (h5r.add 1)).bind AV.asSl).bind fun l19 =>
  ((q13.2.cell (h6r.add 0)).bind AV.asBool).bind fun b20 =>
  ((q13.2.cell (h6r.add 1)).bind AV.asSl).bind fun l21 =>
  (go (.fn F.modint_Neg [.agg [.bool b20, l21.v]]) q13.2).bind fun q22 =>
  (AV.asAgg q22.1).bind fun cs23 =>
  cond (Nat.beq cs23.length 2) (
  ((cs23[0]?).bind AV.asBool).bind fun b24 =>
  ((cs23[1]?).bind AV.asSl).bind fun l25 =>
  whenK (SameAt q13.2 q22.2 h5r 2) (
  (go (.fn F.modint_Add [.agg [.bool b18, l19.v], .agg [.bool b24, l25.v]]) q22.2).bind fun q26 =>
  (AV.asTup2 q26.1).bind fun p27 =>
  (AV.asAgg p27.1).bind fun cs28 =>
  cond (Nat.beq cs28.length 2) (
  ((cs28[0]?).bind AV.asBool).bind fun b29 =>
  ((cs28[1]?).bind AV.asSl).bind fun l30 =>
  ((some p27.2).bind (AV.asInt .i64)).bind fun n31 =>
  (q26.2.puts h7r [.bool b29, l30.v]).bind fun h32 =>
  ((h32.cell (h7r.add 0)).bind AV.asBool).bind fun b33 =>
  ((h32.cell (h7r.add 1)).bind AV.asSl).bind fun l34 =>
  some (.tup [.agg [.bool b33, l34.v], .int .i64 n31], h32)) none)) none) := (go_step _ h).trans (by kernel_rfl)

theorem u_slices_ContainsFunc_api_Frac_api_Frac__rational_right_1 (a1 : Sl) (h : AH) : go (.fn F.slices_ContainsFunc_api_Frac_api_Frac [a1.v, .func (.func F.rational_right_1) [] []]) h =
  (go (.fn F.slices_IndexFunc_api_Frac_api_Frac [a1.v, .func (.func F.rational_right_1) [] []]) h).bind fun q2 =>
  ((some q2.1).bind (AV.asInt .i64)).bind fun n3 =>
  some (.bool (decide (n3 ≥ 0)), q2.2) := (go_step _ h).trans (by kernel_rfl)

theorem u_modint_right (a1 : Sl) (h : AH) : go (.fn F.modint_right [a1.v]) h =
  (go (.fn F.slices_ContainsFunc_api_Int_api_Int [a1.v, .func (.func F.modint_right_1) [] []]) h).bind fun q2 =>
  ((some q2.1).bind AV.asBool).bind fun b3 =>
  some (.bool (!b3), q2.2) := (go_step _ h).trans (by kernel_rfl)

theorem u_nat_product (a1 : Sl) (a2 : Sl) (h : AH) : go (.fn F.nat_product [a1.v, a2.v]) h =
  newK h (.cells [.nilFunc] T.func_api_Nat_api_Nat_api_Nat) fun h3r h3 =>
  (h3.puts h3r [.func (.func F.nat_product_1) [] [.ptr (some h3r)]]).bind fun h4 =>
  (h4.cell h3r).bind fun v5 =>
  (callV Pg go v5 [a1.v, a2.v] h4).bind fun q6 =>
  ((some q6.1).bind AV.asSl).bind fun l7 =>
  some (l7.v, q6.2) := (go_step _ h).trans (by kernel_rfl)

theorem u_nat_told (a1 : Sl) (h : AH) : go (.fn F.nat_told [a1.v]) h =
  (go (.fn F.nat_trim [a1.v]) h).bind fun q2 =>
  ((some q2.1).bind AV.asSl).bind fun l3 =>
  cond (decide ((l3.len : Int) > 64)) (
  some (.tup [(⟨none, 0, .is 0⟩ : Sl).v, .int .i64 4], q2.2)) (
  some (.tup [l3.v, .int .i64 0], q2.2)) := (go_step _ h).trans (by kernel_rfl)

theorem u_nat_Add (a1 : Sl) (a2 : Sl) (h : AH) : go (.fn F.nat_Add [a1.v, a2.v]) h =
  newK h (.cells [a1.v, a2.v] T.api_Nat) fun h3r h3 =>
  (go (.fn F.nat_right [(⟨some h3r, 2, .is 2⟩ : Sl).v]) h3).bind fun q4 =>
  ((some q4.1).bind AV.asBool).bind fun b5 =>
  cond (!b5) (
  some (.tup [(⟨none, 0, .is 0⟩ : Sl).v, .int .i64 1], q4.2)) (
  (go (.fn F.nat_sum [a1.v, a2.v]) q4.2).bind fun q6 =>
  ((some q6.1).bind AV.asSl).bind fun l7 =>
  (go (.fn F.nat_told [l7.v]) q6.2).bind fun q8 =>
  (AV.asTup2 q8.1).bind fun p9 =>
  ((some p9.1).bind AV.asSl).bind fun l10 =>
  ((some p9.2).bind (AV.asInt .i64)).bind fun n11 =>
  some (.tup [l10.v, .int .i64 n11], q8.2)) := (go_step _ h).trans (by kernel_rfl)

theorem u_nat_Sub (a1 : Sl) (a2 : Sl) (h : AH) : go (.fn F.nat_Sub [a1.v, a2.v]) h =
  newK h (.cells [a1.v, a2.v] T.api_Nat) fun h3r h3 =>
  (go (.fn F.nat_right [(⟨some h3r, 2, .is 2⟩ : Sl).v]) h3).bind fun q4 =>
  ((some q4.1).bind AV.asBool).bind fun b5 =>
  cond (!b5) (
  some (.tup [(⟨none, 0, .is 0⟩ : Sl).v, .int .i64 1], q4.2)) (
  (go (.fn F.nat_compare [a1.v, a2.v]) q4.2).bind fun q6 =>
  ((some q6.1).bind (AV.asInt .i64)).bind fun n7 =>
  cond (decide (n7 < 0)) (
  some (.tup [(⟨none, 0, .is 0⟩ : Sl).v, .int .i64 2], q6.2)) (
  (go (.fn F.nat_less [a1.v, a2.v]) q6.2).bind fun q8 =>
  ((some q8.1).bind AV.asSl).bind fun l9 =>
  (go (.fn F.nat_told [l9.v]) q8.2).bind fun q10 =>
  (AV.asTup2 q10.1).bind fun p11 =>
  ((some p11.1).bind AV.asSl).bind fun l12 =>
  ((some p11.2).bind (AV.asInt .i64)).bind fun n13 =>
  some (.tup [l12.v, .int .i64 n13], q10.2))) := (go_step _ h).trans (by kernel_rfl)

theorem u_ref01_add (a1 : Sl) (a2 : Sl) (h : AH) : go (.fn F.ref01_add [a1.v, a2.v]) h =
  go (.pt F.ref01_add Td.ref01_add_4 [(0, a1.v), (1, a2.v), (5, (⟨none, 0, .is 0⟩ : Sl).v), (6, .int .u64 0), (7, .int .i64 0)]) h := (go_step _ h).trans (by kernel_rfl)

theorem u_ref01_sub (a1 : Sl) (a2 : Sl) (h : AH) : go (.fn F.ref01_sub [a1.v, a2.v]) h =
  go (.pt F.ref01_sub Td.ref01_sub_4 [(0, a1.v), (1, a2.v), (5, (⟨none, 0, .is 0⟩ : Sl).v), (6, .int .u64 0), (7, .int .i64 0)]) h := (go_step _ h).trans (by kernel_rfl)

theorem u_gain_Best_1 (a1 : Int) (a2 : Bool) (a3 : Sl) (a4 : Sl) (a5 : Ref) (a6 : Ref) (h : AH) : go (.fn F.gain_Best_1 [.int .i64 a1, .agg [.bool a2, a3.v, a4.v], .ptr (some a5), .ptr (some a6)]) h =
  newK h (.cells [.bool a2, a3.v, a4.v] T.api_Frac) fun h7r h7 =>
  ((h7.cell (h7r.add 0)).bind AV.asBool).bind fun b8 =>
  ((h7.cell (h7r.add 1)).bind AV.asSl).bind fun l9 =>
  ((h7.cell (h7r.add 2)).bind AV.asSl).bind fun l10 =>
  ((h7.cell (a5.add 0)).bind AV.asBool).bind fun b11 =>
  ((h7.cell (a5.add 1)).bind AV.asSl).bind fun l12 =>
  ((h7.cell (a5.add 2)).bind AV.asSl).bind fun l13 =>
  (go (.fn F.rational_Cmp [.agg [.bool b8, l9.v, l10.v], .agg [.bool b11, l12.v, l13.v]]) h7).bind fun q14 =>
  ((some q14.1).bind (AV.asInt .i64)).bind fun n15 =>
  cond (decide (n15 > 0)) (
  ((q14.2.cell (h7r.add 0)).bind AV.asBool).bind fun b16 =>
  ((q14.2.cell (h7r.add 1)).bind AV.asSl).bind fun l17 =>
  ((q14.2.cell (h7r.add 2)).bind AV.asSl).bind fun l18 =>
  newK q14.2 (.cells [.int .i64 a1] T.int) fun h19r h19 =>
  whenK (SameAt q14.2 h19 h7r 3) (
  (h19.puts a6 [(⟨some h19r, 1, .is 1⟩ : Sl).v]).bind fun h20 =>
  whenK (SameAt h19 h20 h7r 3) (
  (h20.puts a5 [.bool b16, l17.v, l18.v]).bind fun h21 =>
  some (.tup [], h21)))) (
  cond (decide (n15 = 0)) (
  ((q14.2.cell a6).bind AV.asSl).bind fun l22 =>
  cond (decide ((l22.len : Int) > 0)) (
  ((q14.2.cell a6).bind AV.asSl).bind fun l23 =>
  newK q14.2 (.cells [.int .i64 a1] T.int) fun h24r h24 =>
  (appendArgs Pg T.int ((⟨some h24r, 1, .is 1⟩ : Sl).v) h24).bind fun p26 =>
  (appendH Pg l23 p26.1 p26.2 T.int 1 h24).bind fun q25 =>
  (AV.asSl q25.1).bind fun l27 =>
  (q25.2.puts a6 [l27.v]).bind fun h28 =>
  some (.tup [], h28)) (
  some (.tup [], q14.2))) (
  some (.tup [], q14.2))) := (go_step _ h).trans (by kernel_rfl)

theorem p_nat_school_7 (a1 : Sl) (a2 : Sl) (a3 : Int) (a4 : Int) (a5 : Int) (a6 : Sl) (a7 : Int) (a8 : Int) (a9 : Sl) (a10 : Int) (a11 : Int) (h : AH) : go (.pt F.nat_school Td.nat_school_7 [(1, a1.v), (5, a2.v), (6, .int .i64 a3), (7, .int .u64 a4), (8, .int .u64 a5), (20, a6.v), (21, .int .i64 a7), (22, .int .i64 a8), (27, a9.v), (28, .int .i64 a10), (29, .int .i64 a11)]) h =
  cond (decide (a11 < a10)) (
  (idx a9.ref a9.len a11 1).bind fun r12 =>
  ((h.cell r12).bind (AV.asInt .u64)).bind fun n13 =>
  (go (.fn F.math_bits_Mul64 [.int .u64 a4, .int .u64 n13]) h).bind fun q14 =>
  (AV.asTup2 q14.1).bind fun p15 =>
  ((some p15.1).bind (AV.asInt .u64)).bind fun n16 =>
  ((some p15.2).bind (AV.asInt .u64)).bind fun n17 =>
  (idx a2.ref a2.len (IntKind.wrap .i64 (a3 + a11)) 1).bind fun r18 =>
  ((q14.2.cell r18).bind (AV.asInt .u64)).bind fun n19 =>
  ((prim "math/bits.Add64" [.int .u64 n17, .int .u64 n19, .int .u64 0]).map fun v => (v, q14.2)).bind fun q20 =>
  (AV.asTup2 q20.1).bind fun p21 =>
  ((some p21.1).bind (AV.asInt .u64)).bind fun n22 =>
  ((some p21.2).bind (AV.asInt .u64)).bind fun n23 =>
  ((prim "math/bits.Add64" [.int .u64 n22, .int .u64 a5, .int .u64 0]).map fun v => (v, q20.2)).bind fun q24 =>
  (AV.asTup2 q24.1).bind fun p25 =>
  ((some p25.1).bind (AV.asInt .u64)).bind fun n26 =>
  ((some p25.2).bind (AV.asInt .u64)).bind fun n27 =>
  (idx a2.ref a2.len (IntKind.wrap .i64 (a3 + a11)) 1).bind fun r28 =>
  (q24.2.puts r28 [.int .u64 n26]).bind fun h29 =>
  go (.pt F.nat_school Td.nat_school_7 [(1, a1.v), (5, a2.v), (6, .int .i64 a3), (7, .int .u64 a4), (8, .int .u64 (IntKind.wrap .u64 ((IntKind.wrap .u64 (n16 + n23)) + n27))), (20, a6.v), (21, .int .i64 a7), (22, .int .i64 a8), (27, a9.v), (28, .int .i64 a10), (29, .int .i64 (IntKind.wrap .i64 (a11 + 1)))]) h29) (
  (idx a2.ref a2.len (IntKind.wrap .i64 (a3 + (a1.len : Int))) 1).bind fun r30 =>
  (h.puts r30 [.int .u64 a5]).bind fun h31 =>
  go (.pt F.nat_school Td.nat_school_3 [(1, a1.v), (5, a2.v), (20, a6.v), (21, .int .i64 a7), (22, .int .i64 (IntKind.wrap .i64 (a8 + 1)))]) h31) := (go_step _ h).trans (by kernel_rfl)

theorem u_slices_ContainsFunc_api_Nat_api_Nat__nat_right_1 (a1 : Sl) (h : AH) : go (.fn F.slices_ContainsFunc_api_Nat_api_Nat [a1.v, .func (.func F.nat_right_1) [] []]) h =
  (go (.fn F.slices_IndexFunc_api_Nat_api_Nat [a1.v, .func (.func F.nat_right_1) [] []]) h).bind fun q2 =>
  ((some q2.1).bind (AV.asInt .i64)).bind fun n3 =>
  some (.bool (decide (n3 ≥ 0)), q2.2) := (go_step _ h).trans (by kernel_rfl)

theorem p_nat_compare_6 (a1 : Sl) (a2 : Sl) (a3 : Int) (h : AH) : go (.pt F.nat_compare Td.nat_compare_6 [(0, a1.v), (1, a2.v), (5, .int .i64 a3)]) h =
  cond (decide (a3 ≥ 0)) (
  (idx a1.ref a1.len a3 1).bind fun r4 =>
  ((h.cell r4).bind (AV.asInt .u64)).bind fun n5 =>
  (idx a2.ref a2.len a3 1).bind fun r6 =>
  ((h.cell r6).bind (AV.asInt .u64)).bind fun n7 =>
  cond (!decide (n5 = n7)) (
  (idx a1.ref a1.len a3 1).bind fun r8 =>
  ((h.cell r8).bind (AV.asInt .u64)).bind fun n9 =>
  (idx a2.ref a2.len a3 1).bind fun r10 =>
  ((h.cell r10).bind (AV.asInt .u64)).bind fun n11 =>
  cond (decide (n9 < n11)) (
  some (.int .i64 (-1), h)) (
  some (.int .i64 1, h))) (
  go (.pt F.nat_compare Td.nat_compare_6 [(0, a1.v), (1, a2.v), (5, .int .i64 (IntKind.wrap .i64 (a3 - 1)))]) h)) (
  some (.int .i64 0, h)) := (go_step _ h).trans (by kernel_rfl)

theorem p_nat_short_4 (a1 : Sl) (a2 : Int) (a3 : Sl) (a4 : Int) (a5 : Int) (h : AH) : go (.pt F.nat_short Td.nat_short_4 [(0, a1.v), (1, .int .u64 a2), (6, a3.v), (7, .int .u64 a4), (8, .int .i64 a5)]) h =
  cond (decide (a5 ≥ 0)) (
  (idx a1.ref a1.len a5 1).bind fun r6 =>
  ((h.cell r6).bind (AV.asInt .u64)).bind fun n7 =>
  (go (.fn F.math_bits_Div64 [.int .u64 a4, .int .u64 n7, .int .u64 a2]) h).bind fun q8 =>
  (AV.asTup2 q8.1).bind fun p9 =>
  ((some p9.1).bind (AV.asInt .u64)).bind fun n10 =>
  ((some p9.2).bind (AV.asInt .u64)).bind fun n11 =>
  (idx a3.ref a3.len a5 1).bind fun r12 =>
  (q8.2.puts r12 [.int .u64 n10]).bind fun h13 =>
  go (.pt F.nat_short Td.nat_short_4 [(0, a1.v), (1, .int .u64 a2), (6, a3.v), (7, .int .u64 n11), (8, .int .i64 (IntKind.wrap .i64 (a5 - 1)))]) h13) (
  (go (.fn F.nat_trim [a3.v]) h).bind fun q14 =>
  ((some q14.1).bind AV.asSl).bind fun l15 =>
  some (.tup [l15.v, .int .u64 a4], q14.2)) := (go_step _ h).trans (by kernel_rfl)

theorem u_math_bits_LeadingZeros64 (a1 : Int) (h : AH) : go (.fn F.math_bits_LeadingZeros64 [.int .u64 a1]) h =
  (go (.fn F.math_bits_Len64 [.int .u64 a1]) h).bind fun q2 =>
  ((some q2.1).bind (AV.asInt .i64)).bind fun n3 =>
  some (.int .i64 (IntKind.wrap .i64 (64 - n3)), q2.2) := (go_step _ h).trans (by kernel_rfl)

theorem u_nat_up (a1 : Sl) (a2 : Int) (h : AH) : go (.fn F.nat_up [a1.v, .int .u64 a2]) h =
  (makeSliceH (IntKind.wrap .i64 ((a1.len : Int) + 1)) (IntKind.wrap .i64 ((a1.len : Int) + 1)) T.uint64 (Pg.bytesOf T.uint64) [.int .u64 0] h).bind fun q3 =>
  go (.pt F.nat_up Td.nat_up_3 [(1, .int .u64 a2), (5, q3.1.v), (12, a1.v), (13, .int .i64 (a1.len : Int)), (14, .int .i64 0)]) q3.2 := (go_step _ h).trans (by kernel_rfl)

theorem p_nat_long_6 (a1 : Int) (a2 : Sl) (a3 : Sl) (a4 : Int) (a5 : Sl) (a6 : Int) (h : AH) : go (.pt F.nat_long Td.nat_long_6 [(6, .int .u64 a1), (7, a2.v), (8, a3.v), (9, .int .i64 a4), (10, a5.v), (11, .int .i64 a6)]) h =
  cond (decide (a6 ≥ 0)) (
  (idx a2.ref a2.len (IntKind.wrap .i64 (a6 + a4)) 1).bind fun r7 =>
  ((h.cell r7).bind (AV.asInt .u64)).bind fun n8 =>
  (idx a2.ref a2.len (IntKind.wrap .i64 ((IntKind.wrap .i64 (a6 + a4)) - 1)) 1).bind fun r9 =>
  ((h.cell r9).bind (AV.asInt .u64)).bind fun n10 =>
  (idx a2.ref a2.len (IntKind.wrap .i64 ((IntKind.wrap .i64 (a6 + a4)) - 2)) 1).bind fun r11 =>
  ((h.cell r11).bind (AV.asInt .u64)).bind fun n12 =>
  (idx a3.ref a3.len (IntKind.wrap .i64 (a4 - 1)) 1).bind fun r13 =>
  ((h.cell r13).bind (AV.asInt .u64)).bind fun n14 =>
  (idx a3.ref a3.len (IntKind.wrap .i64 (a4 - 2)) 1).bind fun r15 =>
  ((h.cell r15).bind (AV.asInt .u64)).bind fun n16 =>
  (go (.fn F.nat_guess [.int .u64 n8, .int .u64 n10, .int .u64 n12, .int .u64 n14, .int .u64 n16]) h).bind fun q17 =>
  ((some q17.1).bind (AV.asInt .u64)).bind fun n18 =>
  (cutSl a2 a6 (IntKind.wrap .i64 ((IntKind.wrap .i64 (a6 + a4)) + 1)) 1).bind fun l19 =>
  go (.pt F.nat_long Td.nat_long_10 [(6, .int .u64 a1), (7, a2.v), (8, a3.v), (9, .int .i64 a4), (10, a5.v), (11, .int .i64 a6), (12, .int .u64 n18), (13, l19.v)]) q17.2) (
  (go (.fn F.nat_trim [a2.v]) h).bind fun q20 =>
  ((some q20.1).bind AV.asSl).bind fun l21 =>
  (makeSliceH (l21.len : Int) (l21.len : Int) T.uint64 (Pg.bytesOf T.uint64) [.int .u64 0] q20.2).bind fun q22 =>
  go (.pt F.nat_long Td.nat_long_18 [(6, .int .u64 a1), (10, a5.v), (15, l21.v), (16, q22.1.v), (112, .int .i64 (l21.len : Int)), (113, .int .i64 0)]) q22.2) := (go_step _ h).trans (by kernel_rfl)

theorem u_ref01_Rest (a1 : Sl) (a2 : Sl) (h : AH) : go (.fn F.ref01_Rest [a1.v, a2.v]) h =
  (go (.fn F.ref01_Div [a1.v, a2.v]) h).bind fun q3 =>
  (AV.asTup3 q3.1).bind fun p4 =>
  ((some p4.1).bind AV.asSl).bind fun l5 =>
  ((some p4.2.1).bind AV.asSl).bind fun l6 =>
  ((some p4.2.2).bind (AV.asInt .i64)).bind fun n7 =>
  some (l6.v, q3.2) := (go_step _ h).trans (by kernel_rfl)

theorem p_ref01_In_3 (a1 : Sl) (a2 : Sl) (a3 : Int) (h : AH) : go (.pt F.ref01_In Td.ref01_In_3 [(0, a1.v), (3, a2.v), (4, .int .i64 a3)]) h =
  cond (decide (a3 < (a1.len : Int))) (
  (idx a1.ref a1.len a3 1).bind fun r4 =>
  ((h.cell r4).bind (AV.asInt .u64)).bind fun n5 =>
  go (.pt F.ref01_In Td.ref01_In_7 [(0, a1.v), (3, a2.v), (4, .int .i64 a3), (5, .int .u64 n5), (6, .int .i64 0)]) h) (
  (go (.fn F.ref01_cut [a2.v]) h).bind fun q6 =>
  ((some q6.1).bind AV.asSl).bind fun l7 =>
  some (l7.v, q6.2)) := (go_step _ h).trans (by kernel_rfl)

theorem p_ref01_div_4 (a1 : Sl) (a2 : Sl) (a3 : Sl) (a4 : Sl) (a5 : Int) (h : AH) : go (.pt F.ref01_div Td.ref01_div_4 [(0, a1.v), (1, a2.v), (6, a3.v), (7, a4.v), (8, .int .i64 a5)]) h =
  cond (decide (a5 ≥ 0)) (
  (idx a1.ref a1.len a5 1).bind fun r6 =>
  ((h.cell r6).bind (AV.asInt .u64)).bind fun n7 =>
  newK h (.cells [.int .u64 n7] T.uint64) fun h8r h8 =>
  (appendArgs Pg T.uint64 a4.v h8).bind fun p10 =>
  (appendH Pg (⟨some h8r, 1, .is 1⟩ : Sl) p10.1 p10.2 T.uint64 1 h8).bind fun q9 =>
  (AV.asSl q9.1).bind fun l11 =>
  (go (.fn F.ref01_cut [l11.v]) q9.2).bind fun q12 =>
  ((some q12.1).bind AV.asSl).bind fun l13 =>
  go (.pt F.ref01_div Td.ref01_div_9 [(0, a1.v), (1, a2.v), (6, a3.v), (7, l13.v), (8, .int .i64 a5), (9, .int .u64 0), (10, .int .u64 65535)]) q12.2) (
  (go (.fn F.ref01_cut [a3.v]) h).bind fun q14 =>
  ((some q14.1).bind AV.asSl).bind fun l15 =>
  some (.tup [l15.v, a4.v], q14.2)) := (go_step _ h).trans (by kernel_rfl)

theorem p_ref01_Out_3 (a1 : Sl) (a2 : Sl) (a3 : Int) (h : AH) : go (.pt F.ref01_Out Td.ref01_Out_3 [(0, a1.v), (4, a2.v), (5, .int .i64 a3)]) h =
  cond (decide (a3 < (a1.len : Int))) (
  go (.pt F.ref01_Out Td.ref01_Out_7 [(0, a1.v), (4, a2.v), (5, .int .i64 a3), (6, .int .u64 0), (7, .int .i64 3)]) h) (
  some (.tup [a2.v, .bool (decide ((a2.len : Int) ≤ 64))], h)) := (go_step _ h).trans (by kernel_rfl)

theorem p_ref01_compare_6 (a1 : Sl) (a2 : Sl) (a3 : Int) (h : AH) : go (.pt F.ref01_compare Td.ref01_compare_6 [(0, a1.v), (1, a2.v), (5, .int .i64 a3)]) h =
  cond (decide (a3 ≥ 0)) (
  (idx a1.ref a1.len a3 1).bind fun r4 =>
  ((h.cell r4).bind (AV.asInt .u64)).bind fun n5 =>
  (idx a2.ref a2.len a3 1).bind fun r6 =>
  ((h.cell r6).bind (AV.asInt .u64)).bind fun n7 =>
  cond (decide (n5 < n7)) (
  some (.int .i64 (-1), h)) (
  (idx a1.ref a1.len a3 1).bind fun r8 =>
  ((h.cell r8).bind (AV.asInt .u64)).bind fun n9 =>
  (idx a2.ref a2.len a3 1).bind fun r10 =>
  ((h.cell r10).bind (AV.asInt .u64)).bind fun n11 =>
  cond (decide (n9 > n11)) (
  some (.int .i64 1, h)) (
  go (.pt F.ref01_compare Td.ref01_compare_6 [(0, a1.v), (1, a2.v), (5, .int .i64 (IntKind.wrap .i64 (a3 - 1)))]) h))) (
  some (.int .i64 0, h)) := (go_step _ h).trans (by kernel_rfl)

theorem p_ref01_mul_3 (a1 : Sl) (a2 : Sl) (a3 : Sl) (a4 : Int) (h : AH) : go (.pt F.ref01_mul Td.ref01_mul_3 [(0, a1.v), (1, a2.v), (5, a3.v), (6, .int .i64 a4)]) h =
  cond (decide (a4 < (a1.len : Int))) (
  go (.pt F.ref01_mul Td.ref01_mul_7 [(0, a1.v), (1, a2.v), (5, a3.v), (6, .int .i64 a4), (7, .int .u64 0), (8, .int .i64 0)]) h) (
  (go (.fn F.ref01_cut [a3.v]) h).bind fun q5 =>
  ((some q5.1).bind AV.asSl).bind fun l6 =>
  some (l6.v, q5.2)) := (go_step _ h).trans (by kernel_rfl)

theorem u_modint_Neg (a1 : Bool) (a2 : Sl) (h : AH) : go (.fn F.modint_Neg [.agg [.bool a1, a2.v]]) h =
  newK h (.cells [.bool a1, a2.v] T.api_Int) fun h3r h3 =>
  newK h3 (.cells [.bool false, (⟨none, 0, .is 0⟩ : Sl).v] T.api_Int) fun h4r h4 =>
  ((h4.cell (h3r.add 0)).bind AV.asBool).bind fun b5 =>
  ((h4.cell (h3r.add 1)).bind AV.asSl).bind fun l6 =>
  (go (.fn F.modint_Right [.agg [.bool b5, l6.v]]) h4).bind fun q7 =>
  ((some q7.1).bind AV.asBool).bind fun b8 =>
  cond (!b8) (
  (q7.2.puts h4r [.bool false, (⟨none, 0, .is 0⟩ : Sl).v]).bind fun h9 =>
  ((h9.cell (h4r.add 0)).bind AV.asBool).bind fun b10 =>
  ((h9.cell (h4r.add 1)).bind AV.asSl).bind fun l11 =>
  some (.agg [.bool b10, l11.v], h9)) (
  ((q7.2.cell (h3r.add 0)).bind AV.asBool).bind fun b12 =>
  ((q7.2.cell (h3r.add 1)).bind AV.asSl).bind fun l13 =>
  (go (.fn F.modint_From [.bool (!b12), l13.v]) q7.2).bind fun q14 =>
  (AV.asAgg q14.1).bind fun cs15 =>
  cond (Nat.beq cs15.length 2) (
  ((cs15[0]?).bind AV.asBool).bind fun b16 =>
  ((cs15[1]?).bind AV.asSl).bind fun l17 =>
  (q14.2.puts h4r [.bool b16, l17.v]).bind fun h18 =>
  ((h18.cell (h4r.add 0)).bind AV.asBool).bind fun b19 =>
  ((h18.cell (h4r.add 1)).bind AV.asSl).bind fun l20 =>
  some (.agg [.bool b19, l20.v], h18)) none) := (go_step _ h).trans (by kernel_rfl)

theorem u_slices_IndexFunc_api_Frac_api_Frac__rational_right_1 (a1 : Sl) (h : AH) : go (.fn F.slices_IndexFunc_api_Frac_api_Frac [a1.v, .func (.func F.rational_right_1) [] []]) h =
  go (.pt F.slices_IndexFunc_api_Frac_api_Frac Td.slices_IndexFunc_api_Frac_api_Frac_2 [(0, a1.v), (1, .func (.func F.rational_right_1) [] []), (7, .int .i64 (a1.len : Int)), (8, .int .i64 0)]) h := (go_step _ h).trans (by kernel_rfl)

theorem u_slices_ContainsFunc_api_Int_api_Int__modint_right_1 (a1 : Sl) (h : AH) : go (.fn F.slices_ContainsFunc_api_Int_api_Int [a1.v, .func (.func F.modint_right_1) [] []]) h =
  (go (.fn F.slices_IndexFunc_api_Int_api_Int [a1.v, .func (.func F.modint_right_1) [] []]) h).bind fun q2 =>
  ((some q2.1).bind (AV.asInt .i64)).bind fun n3 =>
  some (.bool (decide (n3 ≥ 0)), q2.2) := (go_step _ h).trans (by kernel_rfl)

theorem p_ref01_add_4 (a1 : Sl) (a2 : Sl) (a3 : Sl) (a4 : Int) (a5 : Int) (h : AH) : go (.pt F.ref01_add Td.ref01_add_4 [(0, a1.v), (1, a2.v), (5, a3.v), (6, .int .u64 a4), (7, .int .i64 a5)]) h =
  cond (decide (a5 < (a1.len : Int))) (
  (go (.fn F.ref01_digit [a1.v, .int .i64 a5]) h).bind fun q6 =>
  ((some q6.1).bind (AV.asInt .u64)).bind fun n7 =>
  (go (.fn F.ref01_digit [a2.v, .int .i64 a5]) q6.2).bind fun q8 =>
  ((some q8.1).bind (AV.asInt .u64)).bind fun n9 =>
  newK q8.2 (.cells [.int .u64 (Int.tmod (IntKind.wrap .u64 ((IntKind.wrap .u64 (n7 + n9)) + a4)) 65536)] T.uint64) fun h10r h10 =>
  (appendArgs Pg T.uint64 ((⟨some h10r, 1, .is 1⟩ : Sl).v) h10).bind fun p12 =>
  (appendH Pg a3 p12.1 p12.2 T.uint64 1 h10).bind fun q11 =>
  (AV.asSl q11.1).bind fun l13 =>
  go (.pt F.ref01_add Td.ref01_add_4 [(0, a1.v), (1, a2.v), (5, l13.v), (6, .int .u64 (IntKind.wrap .u64 (Int.tdiv (IntKind.wrap .u64 ((IntKind.wrap .u64 (n7 + n9)) + a4)) 65536))), (7, .int .i64 (IntKind.wrap .i64 (a5 + 1)))]) q11.2) (
  cond (decide (a5 < (a2.len : Int))) (
  (go (.fn F.ref01_digit [a1.v, .int .i64 a5]) h).bind fun q14 =>
  ((some q14.1).bind (AV.asInt .u64)).bind fun n15 =>
  (go (.fn F.ref01_digit [a2.v, .int .i64 a5]) q14.2).bind fun q16 =>
  ((some q16.1).bind (AV.asInt .u64)).bind fun n17 =>
  newK q16.2 (.cells [.int .u64 (Int.tmod (IntKind.wrap .u64 ((IntKind.wrap .u64 (n15 + n17)) + a4)) 65536)] T.uint64) fun h18r h18 =>
  (appendArgs Pg T.uint64 ((⟨some h18r, 1, .is 1⟩ : Sl).v) h18).bind fun p20 =>
  (appendH Pg a3 p20.1 p20.2 T.uint64 1 h18).bind fun q19 =>
  (AV.asSl q19.1).bind fun l21 =>
  go (.pt F.ref01_add Td.ref01_add_4 [(0, a1.v), (1, a2.v), (5, l21.v), (6, .int .u64 (IntKind.wrap .u64 (Int.tdiv (IntKind.wrap .u64 ((IntKind.wrap .u64 (n15 + n17)) + a4)) 65536))), (7, .int .i64 (IntKind.wrap .i64 (a5 + 1)))]) q19.2) (
  newK h (.cells [.int .u64 a4] T.uint64) fun h22r h22 =>
  (appendArgs Pg T.uint64 ((⟨some h22r, 1, .is 1⟩ : Sl).v) h22).bind fun p24 =>
  (appendH Pg a3 p24.1 p24.2 T.uint64 1 h22).bind fun q23 =>
  (AV.asSl q23.1).bind fun l25 =>
  (go (.fn F.ref01_cut [l25.v]) q23.2).bind fun q26 =>
  ((some q26.1).bind AV.asSl).bind fun l27 =>
  some (l27.v, q26.2))) := (go_step _ h).trans (by kernel_rfl)

theorem p_ref01_sub_4 (a1 : Sl) (a2 : Sl) (a3 : Sl) (a4 : Int) (a5 : Int) (h : AH) : go (.pt F.ref01_sub Td.ref01_sub_4 [(0, a1.v), (1, a2.v), (5, a3.v), (6, .int .u64 a4), (7, .int .i64 a5)]) h =
  cond (decide (a5 < (a1.len : Int))) (
  (idx a1.ref a1.len a5 1).bind fun r6 =>
  ((h.cell r6).bind (AV.asInt .u64)).bind fun n7 =>
  (go (.fn F.ref01_digit [a2.v, .int .i64 a5]) h).bind fun q8 =>
  ((some q8.1).bind (AV.asInt .u64)).bind fun n9 =>
  whenK (SameAt h q8.2 r6 1) (
  newK q8.2 (.cells [.int .u64 (Int.tmod (IntKind.wrap .u64 ((IntKind.wrap .u64 ((IntKind.wrap .u64 (65536 + n7)) - n9)) - a4)) 65536)] T.uint64) fun h10r h10 =>
  (appendArgs Pg T.uint64 ((⟨some h10r, 1, .is 1⟩ : Sl).v) h10).bind fun p12 =>
  (appendH Pg a3 p12.1 p12.2 T.uint64 1 h10).bind fun q11 =>
  (AV.asSl q11.1).bind fun l13 =>
  go (.pt F.ref01_sub Td.ref01_sub_4 [(0, a1.v), (1, a2.v), (5, l13.v), (6, .int .u64 (IntKind.wrap .u64 (1 - (IntKind.wrap .u64 (Int.tdiv (IntKind.wrap .u64 ((IntKind.wrap .u64 ((IntKind.wrap .u64 (65536 + n7)) - n9)) - a4)) 65536))))), (7, .int .i64 (IntKind.wrap .i64 (a5 + 1)))]) q11.2)) (
  (go (.fn F.ref01_cut [a3.v]) h).bind fun q14 =>
  ((some q14.1).bind AV.asSl).bind fun l15 =>
  some (l15.v, q14.2)) := (go_step _ h).trans (by kernel_rfl)

theorem u_math_bits_Mul64 (a1 : Int) (a2 : Int) (h : AH) : go (.fn F.math_bits_Mul64 [.int .u64 a1, .int .u64 a2]) h =
  some (.tup [.int .u64 (IntKind.wrap .u64 ((IntKind.wrap .u64 ((IntKind.wrap .u64 ((ishr .u64 a1 32) * (ishr .u64 a2 32))) + (ishr .u64 (IntKind.wrap .u64 ((IntKind.wrap .u64 ((ishr .u64 a1 32) * (iand .u64 a2 4294967295))) + (ishr .u64 (IntKind.wrap .u64 ((iand .u64 a1 4294967295) * (iand .u64 a2 4294967295))) 32))) 32))) + (ishr .u64 (IntKind.wrap .u64 ((iand .u64 (IntKind.wrap .u64 ((IntKind.wrap .u64 ((ishr .u64 a1 32) * (iand .u64 a2 4294967295))) + (ishr .u64 (IntKind.wrap .u64 ((iand .u64 a1 4294967295) * (iand .u64 a2 4294967295))) 32))) 4294967295) + (IntKind.wrap .u64 ((iand .u64 a1 4294967295) * (ishr .u64 a2 32))))) 32))), .int .u64 (IntKind.wrap .u64 (a1 * a2))], h) := (go_step _ h).trans (by kernel_rfl)

theorem u_slices_IndexFunc_api_Nat_api_Nat__nat_right_1 (a1 : Sl) (h : AH) : go (.fn F.slices_IndexFunc_api_Nat_api_Nat [a1.v, .func (.func F.nat_right_1) [] []]) h =
  go (.pt F.slices_IndexFunc_api_Nat_api_Nat Td.slices_IndexFunc_api_Nat_api_Nat_2 [(0, a1.v), (1, .func (.func F.nat_right_1) [] []), (7, .int .i64 (a1.len : Int)), (8, .int .i64 0)]) h := (go_step _ h).trans (by kernel_rfl)

theorem u_math_bits_Div64 (a1 : Int) (a2 : Int) (a3 : Int) (h : AH) : go (.fn F.math_bits_Div64 [.int .u64 a1, .int .u64 a2, .int .u64 a3]) h =
  cond (decide (a3 = 0)) (
  (h.cell (.old ⟨0, 0, none⟩)).bind fun v4 =>
  none) (
  go (.pt F.math_bits_Div64 Td.math_bits_Div64_3 [(0, .int .u64 a1), (1, .int .u64 a2), (2, .int .u64 a3)]) h) := (go_step _ h).trans (by kernel_rfl)

theorem u_math_bits_Len64 (a1 : Int) (h : AH) : go (.fn F.math_bits_Len64 [.int .u64 a1]) h =
  cond (decide (a1 ≥ 4294967296)) (
  cond (decide ((ishr .u64 a1 32) ≥ 65536)) (
  cond (decide ((ishr .u64 (ishr .u64 a1 32) 16) ≥ 256)) (
  cond (decide (0 ≤ (IntKind.wrap .u8 (ishr .u64 (ishr .u64 (ishr .u64 a1 32) 16) 8)))) (
  (lit1[Int.toNat (IntKind.wrap .u8 (ishr .u64 (ishr .u64 (ishr .u64 a1 32) 16) 8))]?).bind fun b2 =>
  some (.int .i64 (IntKind.wrap .i64 ((IntKind.wrap .i64 ((IntKind.wrap .i64 (32 + 16)) + 8)) + (IntKind.wrap .i64 (b2.toNat : Int)))), h)) none) (
  cond (decide (0 ≤ (IntKind.wrap .u8 (ishr .u64 (ishr .u64 a1 32) 16)))) (
  (lit1[Int.toNat (IntKind.wrap .u8 (ishr .u64 (ishr .u64 a1 32) 16))]?).bind fun b3 =>
  some (.int .i64 (IntKind.wrap .i64 ((IntKind.wrap .i64 (32 + 16)) + (IntKind.wrap .i64 (b3.toNat : Int)))), h)) none)) (
  cond (decide ((ishr .u64 a1 32) ≥ 256)) (
  cond (decide (0 ≤ (IntKind.wrap .u8 (ishr .u64 (ishr .u64 a1 32) 8)))) (
  (lit1[Int.toNat (IntKind.wrap .u8 (ishr .u64 (ishr .u64 a1 32) 8))]?).bind fun b4 =>
  some (.int .i64 (IntKind.wrap .i64 ((IntKind.wrap .i64 (32 + 8)) + (IntKind.wrap .i64 (b4.toNat : Int)))), h)) none) (
  cond (decide (0 ≤ (IntKind.wrap .u8 (ishr .u64 a1 32)))) (
  (lit1[Int.toNat (IntKind.wrap .u8 (ishr .u64 a1 32))]?).bind fun b5 =>
  some (.int .i64 (IntKind.wrap .i64 (32 + (IntKind.wrap .i64 (b5.toNat : Int)))), h)) none))) (
  cond (decide (a1 ≥ 65536)) (
  cond (decide ((ishr .u64 a1 16) ≥ 256)) (
  cond (decide (0 ≤ (IntKind.wrap .u8 (ishr .u64 (ishr .u64 a1 16) 8)))) (
  (lit1[Int.toNat (IntKind.wrap .u8 (ishr .u64 (ishr .u64 a1 16) 8))]?).bind fun b6 =>
  some (.int .i64 (IntKind.wrap .i64 ((IntKind.wrap .i64 ((IntKind.wrap .i64 (0 + 16)) + 8)) + (IntKind.wrap .i64 (b6.toNat : Int)))), h)) none) (
  cond (decide (0 ≤ (IntKind.wrap .u8 (ishr .u64 a1 16)))) (
  (lit1[Int.toNat (IntKind.wrap .u8 (ishr .u64 a1 16))]?).bind fun b7 =>
  some (.int .i64 (IntKind.wrap .i64 ((IntKind.wrap .i64 (0 + 16)) + (IntKind.wrap .i64 (b7.toNat : Int)))), h)) none)) (
  cond (decide (a1 ≥ 256)) (
  cond (decide (0 ≤ (IntKind.wrap .u8 (ishr .u64 a1 8)))) (
  (lit1[Int.toNat (IntKind.wrap .u8 (ishr .u64 a1 8))]?).bind fun b8 =>
  some (.int .i64 (IntKind.wrap .i64 ((IntKind.wrap .i64 (0 + 8)) + (IntKind.wrap .i64 (b8.toNat : Int)))), h)) none) (
  cond (decide (0 ≤ (IntKind.wrap .u8 a1))) (
  (lit1[Int.toNat (IntKind.wrap .u8 a1)]?).bind fun b9 =>
  some (.int .i64 (IntKind.wrap .i64 (0 + (IntKind.wrap .i64 (b9.toNat : Int)))), h)) none))) := (go_step _ h).trans (by kernel_rfl)

theorem p_nat_up_3 (a1 : Int) (a2 : Sl) (a3 : Sl) (a4 : Int) (a5 : Int) (h : AH) : go (.pt F.nat_up Td.nat_up_3 [(1, .int .u64 a1), (5, a2.v), (12, a3.v), (13, .int .i64 a4), (14, .int .i64 a5)]) h =
  cond (decide (a5 < a4)) (
  (idx a3.ref a3.len a5 1).bind fun r6 =>
  ((h.cell r6).bind (AV.asInt .u64)).bind fun n7 =>
  (idx a2.ref a2.len a5 1).bind fun r8 =>
  ((h.cell r8).bind (AV.asInt .u64)).bind fun n9 =>
  cond (decide (a1 < 0)) none (
  (idx a2.ref a2.len a5 1).bind fun r10 =>
  (h.puts r10 [.int .u64 (ior .u64 n9 (ishl .u64 n7 a1))]).bind fun h11 =>
  cond (decide (a1 > 0)) (
  cond (decide ((IntKind.wrap .u64 (64 - a1)) < 0)) none (
  (idx a2.ref a2.len (IntKind.wrap .i64 (a5 + 1)) 1).bind fun r12 =>
  (h11.puts r12 [.int .u64 (ishr .u64 n7 (IntKind.wrap .u64 (64 - a1)))]).bind fun h13 =>
  go (.pt F.nat_up Td.nat_up_3 [(1, .int .u64 a1), (5, a2.v), (12, a3.v), (13, .int .i64 a4), (14, .int .i64 (IntKind.wrap .i64 (a5 + 1)))]) h13)) (
  go (.pt F.nat_up Td.nat_up_3 [(1, .int .u64 a1), (5, a2.v), (12, a3.v), (13, .int .i64 a4), (14, .int .i64 (IntKind.wrap .i64 (a5 + 1)))]) h11))) (
  some (a2.v, h)) := (go_step _ h).trans (by kernel_rfl)

theorem u_nat_guess (a1 : Int) (a2 : Int) (a3 : Int) (a4 : Int) (a5 : Int) (h : AH) : go (.fn F.nat_guess [.int .u64 a1, .int .u64 a2, .int .u64 a3, .int .u64 a4, .int .u64 a5]) h =
  cond (decide (a1 ≥ a4)) (
  some (.int .u64 18446744073709551615, h)) (
  (go (.fn F.math_bits_Div64 [.int .u64 a1, .int .u64 a2, .int .u64 a4]) h).bind fun q6 =>
  (AV.asTup2 q6.1).bind fun p7 =>
  ((some p7.1).bind (AV.asInt .u64)).bind fun n8 =>
  ((some p7.2).bind (AV.asInt .u64)).bind fun n9 =>
  go (.pt F.nat_guess Td.nat_guess_4 [(2, .int .u64 a3), (3, .int .u64 a4), (4, .int .u64 a5), (11, .int .u64 n8), (12, .int .u64 n9)]) q6.2) := (go_step _ h).trans (by kernel_rfl)

theorem p_nat_long_10 (a1 : Int) (a2 : Sl) (a3 : Sl) (a4 : Int) (a5 : Sl) (a6 : Int) (a7 : Int) (a8 : Sl) (h : AH) : go (.pt F.nat_long Td.nat_long_10 [(6, .int .u64 a1), (7, a2.v), (8, a3.v), (9, .int .i64 a4), (10, a5.v), (11, .int .i64 a6), (12, .int .u64 a7), (13, a8.v)]) h =
  (go (.fn F.nat_Of [.int .u64 a7]) h).bind fun q9 =>
  ((some q9.1).bind AV.asSl).bind fun l10 =>
  (go (.fn F.nat_school [a3.v, l10.v]) q9.2).bind fun q11 =>
  ((some q11.1).bind AV.asSl).bind fun l12 =>
  (go (.fn F.slices_Clone_api_Nat_uint64 [a8.v]) q11.2).bind fun q13 =>
  ((some q13.1).bind AV.asSl).bind fun l14 =>
  (go (.fn F.nat_trim [l14.v]) q13.2).bind fun q15 =>
  ((some q15.1).bind AV.asSl).bind fun l16 =>
  (go (.fn F.nat_compare [l16.v, l12.v]) q15.2).bind fun q17 =>
  ((some q17.1).bind (AV.asInt .i64)).bind fun n18 =>
  cond (decide (n18 ≥ 0)) (
  (go (.fn F.nat_less [a8.v, l12.v]) q17.2).bind fun q19 =>
  ((some q19.1).bind AV.asSl).bind fun l20 =>
  (copyH l20 a8 1 q19.2).bind fun h21 =>
  (idx a5.ref a5.len a6 1).bind fun r22 =>
  (h21.puts r22 [.int .u64 a7]).bind fun h23 =>
  go (.pt F.nat_long Td.nat_long_6 [(6, .int .u64 a1), (7, a2.v), (8, a3.v), (9, .int .i64 a4), (10, a5.v), (11, .int .i64 (IntKind.wrap .i64 (a6 - 1)))]) h23) (
  go (.pt F.nat_long Td.nat_long_10 [(6, .int .u64 a1), (7, a2.v), (8, a3.v), (9, .int .i64 a4), (10, a5.v), (11, .int .i64 a6), (12, .int .u64 (IntKind.wrap .u64 (a7 - 1))), (13, a8.v)]) q17.2) := (go_step _ h).trans (by kernel_rfl)

theorem p_nat_long_18 (a1 : Int) (a2 : Sl) (a3 : Sl) (a4 : Sl) (a5 : Int) (a6 : Int) (h : AH) : go (.pt F.nat_long Td.nat_long_18 [(6, .int .u64 a1), (10, a2.v), (15, a3.v), (16, a4.v), (112, .int .i64 a5), (113, .int .i64 a6)]) h =
  cond (decide (a6 < a5)) (
  (idx a3.ref a3.len a6 1).bind fun r7 =>
  ((h.cell r7).bind (AV.asInt .u64)).bind fun n8 =>
  cond (decide (a1 < 0)) none (
  (idx a4.ref a4.len a6 1).bind fun r9 =>
  (h.puts r9 [.int .u64 (ishr .u64 n8 a1)]).bind fun h10 =>
  cond (decide (a1 > 0)) (
  cond (decide ((IntKind.wrap .i64 (a6 + 1)) < (a3.len : Int))) (
  (idx a4.ref a4.len a6 1).bind fun r11 =>
  ((h10.cell r11).bind (AV.asInt .u64)).bind fun n12 =>
  (idx a3.ref a3.len (IntKind.wrap .i64 (a6 + 1)) 1).bind fun r13 =>
  ((h10.cell r13).bind (AV.asInt .u64)).bind fun n14 =>
  cond (decide ((IntKind.wrap .u64 (64 - a1)) < 0)) none (
  (idx a4.ref a4.len a6 1).bind fun r15 =>
  (h10.puts r15 [.int .u64 (ior .u64 n12 (ishl .u64 n14 (IntKind.wrap .u64 (64 - a1))))]).bind fun h16 =>
  go (.pt F.nat_long Td.nat_long_18 [(6, .int .u64 a1), (10, a2.v), (15, a3.v), (16, a4.v), (112, .int .i64 a5), (113, .int .i64 (IntKind.wrap .i64 (a6 + 1)))]) h16)) (
  go (.pt F.nat_long Td.nat_long_18 [(6, .int .u64 a1), (10, a2.v), (15, a3.v), (16, a4.v), (112, .int .i64 a5), (113, .int .i64 (IntKind.wrap .i64 (a6 + 1)))]) h10)) (
  go (.pt F.nat_long Td.nat_long_18 [(6, .int .u64 a1), (10, a2.v), (15, a3.v), (16, a4.v), (112, .int .i64 a5), (113, .int .i64 (IntKind.wrap .i64 (a6 + 1)))]) h10))) (
  (go (.fn F.nat_trim [a2.v]) h).bind fun q17 =>
  ((some q17.1).bind AV.asSl).bind fun l18 =>
  (go (.fn F.nat_trim [a4.v]) q17.2).bind fun q19 =>
  ((some q19.1).bind AV.asSl).bind fun l20 =>
  some (.tup [l18.v, l20.v], q19.2)) := (go_step _ h).trans (by kernel_rfl)

theorem p_ref01_In_7 (a1 : Sl) (a2 : Sl) (a3 : Int) (a4 : Int) (a5 : Int) (h : AH) : go (.pt F.ref01_In Td.ref01_In_7 [(0, a1.v), (3, a2.v), (4, .int .i64 a3), (5, .int .u64 a4), (6, .int .i64 a5)]) h =
  cond (decide (a5 < 4)) (
  newK h (.cells [.int .u64 (Int.tmod a4 65536)] T.uint64) fun h6r h6 =>
  (appendArgs Pg T.uint64 ((⟨some h6r, 1, .is 1⟩ : Sl).v) h6).bind fun p8 =>
  (appendH Pg a2 p8.1 p8.2 T.uint64 1 h6).bind fun q7 =>
  (AV.asSl q7.1).bind fun l9 =>
  go (.pt F.ref01_In Td.ref01_In_7 [(0, a1.v), (3, l9.v), (4, .int .i64 a3), (5, .int .u64 (IntKind.wrap .u64 (Int.tdiv a4 65536))), (6, .int .i64 (IntKind.wrap .i64 (a5 + 1)))]) q7.2) (
  go (.pt F.ref01_In Td.ref01_In_3 [(0, a1.v), (3, a2.v), (4, .int .i64 (IntKind.wrap .i64 (a3 + 1)))]) h) := (go_step _ h).trans (by kernel_rfl)

theorem u_ref01_cut (a1 : Sl) (h : AH) : go (.fn F.ref01_cut [a1.v]) h =
  go (.pt F.ref01_cut Td.ref01_cut_2 [(0, a1.v), (3, .int .i64 (a1.len : Int))]) h := (go_step _ h).trans (by kernel_rfl)

theorem p_ref01_div_9 (a1 : Sl) (a2 : Sl) (a3 : Sl) (a4 : Sl) (a5 : Int) (a6 : Int) (a7 : Int) (h : AH) : go (.pt F.ref01_div Td.ref01_div_9 [(0, a1.v), (1, a2.v), (6, a3.v), (7, a4.v), (8, .int .i64 a5), (9, .int .u64 a6), (10, .int .u64 a7)]) h =
  cond (decide (a6 < a7)) (
  newK h (.cells [.int .u64 (IntKind.wrap .u64 (Int.tdiv (IntKind.wrap .u64 ((IntKind.wrap .u64 (a6 + a7)) + 1)) 2))] T.uint64) fun h8r h8 =>
  (go (.fn F.ref01_mul [a2.v, (⟨some h8r, 1, .is 1⟩ : Sl).v]) h8).bind fun q9 =>
  ((some q9.1).bind AV.asSl).bind fun l10 =>
  (go (.fn F.ref01_compare [l10.v, a4.v]) q9.2).bind fun q11 =>
  ((some q11.1).bind (AV.asInt .i64)).bind fun n12 =>
  cond (decide (n12 ≤ 0)) (
  go (.pt F.ref01_div Td.ref01_div_9 [(0, a1.v), (1, a2.v), (6, a3.v), (7, a4.v), (8, .int .i64 a5), (9, .int .u64 (IntKind.wrap .u64 (Int.tdiv (IntKind.wrap .u64 ((IntKind.wrap .u64 (a6 + a7)) + 1)) 2))), (10, .int .u64 a7)]) q11.2) (
  go (.pt F.ref01_div Td.ref01_div_9 [(0, a1.v), (1, a2.v), (6, a3.v), (7, a4.v), (8, .int .i64 a5), (9, .int .u64 a6), (10, .int .u64 (IntKind.wrap .u64 ((IntKind.wrap .u64 (Int.tdiv (IntKind.wrap .u64 ((IntKind.wrap .u64 (a6 + a7)) + 1)) 2)) - 1)))]) q11.2)) (
  (idx a3.ref a3.len a5 1).bind fun r13 =>
  (h.puts r13 [.int .u64 a6]).bind fun h14 =>
  newK h14 (.cells [.int .u64 a6] T.uint64) fun h15r h15 =>
  (go (.fn F.ref01_mul [a2.v, (⟨some h15r, 1, .is 1⟩ : Sl).v]) h15).bind fun q16 =>
  ((some q16.1).bind AV.asSl).bind fun l17 =>
  (go (.fn F.ref01_sub [a4.v, l17.v]) q16.2).bind fun q18 =>
  ((some q18.1).bind AV.asSl).bind fun l19 =>
  go (.pt F.ref01_div Td.ref01_div_4 [(0, a1.v), (1, a2.v), (6, a3.v), (7, l19.v), (8, .int .i64 (IntKind.wrap .i64 (a5 - 1)))]) q18.2) := (go_step _ h).trans (by kernel_rfl)

theorem p_ref01_Out_7 (a1 : Sl) (a2 : Sl) (a3 : Int) (a4 : Int) (a5 : Int) (h : AH) : go (.pt F.ref01_Out Td.ref01_Out_7 [(0, a1.v), (4, a2.v), (5, .int .i64 a3), (6, .int .u64 a4), (7, .int .i64 a5)]) h =
  cond (decide (a5 ≥ 0)) (
  cond (decide ((IntKind.wrap .i64 (a3 + a5)) < (a1.len : Int))) (
  (idx a1.ref a1.len (IntKind.wrap .i64 (a3 + a5)) 1).bind fun r6 =>
  ((h.cell r6).bind (AV.asInt .u64)).bind fun n7 =>
  go (.pt F.ref01_Out Td.ref01_Out_7 [(0, a1.v), (4, a2.v), (5, .int .i64 a3), (6, .int .u64 (IntKind.wrap .u64 ((IntKind.wrap .u64 (a4 * 65536)) + n7))), (7, .int .i64 (IntKind.wrap .i64 (a5 - 1)))]) h) (
  go (.pt F.ref01_Out Td.ref01_Out_7 [(0, a1.v), (4, a2.v), (5, .int .i64 a3), (6, .int .u64 (IntKind.wrap .u64 (a4 * 65536))), (7, .int .i64 (IntKind.wrap .i64 (a5 - 1)))]) h)) (
  newK h (.cells [.int .u64 a4] T.uint64) fun h8r h8 =>
  (appendArgs Pg T.uint64 ((⟨some h8r, 1, .is 1⟩ : Sl).v) h8).bind fun p10 =>
  (appendH Pg a2 p10.1 p10.2 T.uint64 1 h8).bind fun q9 =>
  (AV.asSl q9.1).bind fun l11 =>
  go (.pt F.ref01_Out Td.ref01_Out_3 [(0, a1.v), (4, l11.v), (5, .int .i64 (IntKind.wrap .i64 (a3 + 4)))]) q9.2) := (go_step _ h).trans (by kernel_rfl)

theorem p_ref01_mul_7 (a1 : Sl) (a2 : Sl) (a3 : Sl) (a4 : Int) (a5 : Int) (a6 : Int) (h : AH) : go (.pt F.ref01_mul Td.ref01_mul_7 [(0, a1.v), (1, a2.v), (5, a3.v), (6, .int .i64 a4), (7, .int .u64 a5), (8, .int .i64 a6)]) h =
  cond (decide (a6 < (a2.len : Int))) (
  (idx a3.ref a3.len (IntKind.wrap .i64 (a4 + a6)) 1).bind fun r7 =>
  ((h.cell r7).bind (AV.asInt .u64)).bind fun n8 =>
  (idx a1.ref a1.len a4 1).bind fun r9 =>
  ((h.cell r9).bind (AV.asInt .u64)).bind fun n10 =>
  (idx a2.ref a2.len a6 1).bind fun r11 =>
  ((h.cell r11).bind (AV.asInt .u64)).bind fun n12 =>
  (idx a3.ref a3.len (IntKind.wrap .i64 (a4 + a6)) 1).bind fun r13 =>
  (h.puts r13 [.int .u64 (Int.tmod (IntKind.wrap .u64 ((IntKind.wrap .u64 (n8 + (IntKind.wrap .u64 (n10 * n12)))) + a5)) 65536)]).bind fun h14 =>
  go (.pt F.ref01_mul Td.ref01_mul_7 [(0, a1.v), (1, a2.v), (5, a3.v), (6, .int .i64 a4), (7, .int .u64 (IntKind.wrap .u64 (Int.tdiv (IntKind.wrap .u64 ((IntKind.wrap .u64 (n8 + (IntKind.wrap .u64 (n10 * n12)))) + a5)) 65536))), (8, .int .i64 (IntKind.wrap .i64 (a6 + 1)))]) h14) (
  (idx a3.ref a3.len (IntKind.wrap .i64 (a4 + (a2.len : Int))) 1).bind fun r15 =>
  (h.puts r15 [.int .u64 a5]).bind fun h16 =>
  go (.pt F.ref01_mul Td.ref01_mul_3 [(0, a1.v), (1, a2.v), (5, a3.v), (6, .int .i64 (IntKind.wrap .i64 (a4 + 1)))]) h16) := (go_step _ h).trans (by kernel_rfl)

theorem p_slices_IndexFunc_api_Frac_api_Frac_2__rational_right_1 (a1 : Sl) (a2 : Int) (a3 : Int) (h : AH) : go (.pt F.slices_IndexFunc_api_Frac_api_Frac Td.slices_IndexFunc_api_Frac_api_Frac_2 [(0, a1.v), (1, .func (.func F.rational_right_1) [] []), (7, .int .i64 a2), (8, .int .i64 a3)]) h =
  cond (decide (a3 < a2)) (
  (idx a1.ref a1.len a3 3).bind fun r4 =>
  ((h.cell (r4.add 0)).bind AV.asBool).bind fun b5 =>
  ((h.cell (r4.add 1)).bind AV.asSl).bind fun l6 =>
  ((h.cell (r4.add 2)).bind AV.asSl).bind fun l7 =>
  (go (.fn F.rational_right_1 [.agg [.bool b5, l6.v, l7.v]]) h).bind fun q8 =>
  ((some q8.1).bind AV.asBool).bind fun b9 =>
  cond b9 (
  some (.int .i64 a3, q8.2)) (
  go (.pt F.slices_IndexFunc_api_Frac_api_Frac Td.slices_IndexFunc_api_Frac_api_Frac_2 [(0, a1.v), (1, .func (.func F.rational_right_1) [] []), (7, .int .i64 a2), (8, .int .i64 (IntKind.wrap .i64 (a3 + 1)))]) q8.2)) (
  some (.int .i64 (-1), h)) := (go_step _ h).trans (by kernel_rfl)

theorem u_slices_IndexFunc_api_Int_api_Int__modint_right_1 (a1 : Sl) (h : AH) : go (.fn F.slices_IndexFunc_api_Int_api_Int [a1.v, .func (.func F.modint_right_1) [] []]) h =
  go (.pt F.slices_IndexFunc_api_Int_api_Int Td.slices_IndexFunc_api_Int_api_Int_2 [(0, a1.v), (1, .func (.func F.modint_right_1) [] []), (7, .int .i64 (a1.len : Int)), (8, .int .i64 0)]) h := (go_step _ h).trans (by kernel_rfl)

theorem u_ref01_digit (a1 : Sl) (a2 : Int) (h : AH) : go (.fn F.ref01_digit [a1.v, .int .i64 a2]) h =
  cond (decide (a2 < (a1.len : Int))) (
  (idx a1.ref a1.len a2 1).bind fun r3 =>
  ((h.cell r3).bind (AV.asInt .u64)).bind fun n4 =>
  some (.int .u64 n4, h)) (
  some (.int .u64 0, h)) := (go_step _ h).trans (by kernel_rfl)

theorem p_slices_IndexFunc_api_Nat_api_Nat_2__nat_right_1 (a1 : Sl) (a2 : Int) (a3 : Int) (h : AH) : go (.pt F.slices_IndexFunc_api_Nat_api_Nat Td.slices_IndexFunc_api_Nat_api_Nat_2 [(0, a1.v), (1, .func (.func F.nat_right_1) [] []), (7, .int .i64 a2), (8, .int .i64 a3)]) h =
  cond (decide (a3 < a2)) (
  (idx a1.ref a1.len a3 1).bind fun r4 =>
  ((h.cell r4).bind AV.asSl).bind fun l5 =>
  (go (.fn F.nat_right_1 [l5.v]) h).bind fun q6 =>
  ((some q6.1).bind AV.asBool).bind fun b7 =>
  cond b7 (
  some (.int .i64 a3, q6.2)) (
  go (.pt F.slices_IndexFunc_api_Nat_api_Nat Td.slices_IndexFunc_api_Nat_api_Nat_2 [(0, a1.v), (1, .func (.func F.nat_right_1) [] []), (7, .int .i64 a2), (8, .int .i64 (IntKind.wrap .i64 (a3 + 1)))]) q6.2)) (
  some (.int .i64 (-1), h)) := (go_step _ h).trans (by kernel_rfl)

theorem p_math_bits_Div64_3 (a1 : Int) (a2 : Int) (a3 : Int) (h : AH) : go (.pt F.math_bits_Div64 Td.math_bits_Div64_3 [(0, .int .u64 a1), (1, .int .u64 a2), (2, .int .u64 a3)]) h =
  cond (decide (a3 ≤ a1)) (
  (h.cell (.old ⟨1, 0, none⟩)).bind fun v4 =>
  none) (
  cond (decide (a1 = 0)) (
  cond (decide (a3 = 0)) none (
  cond (decide (a3 = 0)) none (
  some (.tup [.int .u64 (IntKind.wrap .u64 (Int.tdiv a2 a3)), .int .u64 (Int.tmod a2 a3)], h)))) (
  (go (.fn F.math_bits_LeadingZeros64 [.int .u64 a3]) h).bind fun q5 =>
  ((some q5.1).bind (AV.asInt .i64)).bind fun n6 =>
  cond (decide ((IntKind.wrap .u64 n6) < 0)) none (
  cond (decide ((IntKind.wrap .u64 n6) < 0)) none (
  cond (decide ((IntKind.wrap .u64 (64 - (IntKind.wrap .u64 n6))) < 0)) none (
  cond (decide ((IntKind.wrap .u64 n6) < 0)) none (
  cond (decide ((ishr .u64 (ishl .u64 a3 (IntKind.wrap .u64 n6)) 32) = 0)) none (
  go (.pt F.math_bits_Div64 Td.math_bits_Div64_17 [(2, .int .u64 (ishl .u64 a3 (IntKind.wrap .u64 n6))), (8, .int .u64 (IntKind.wrap .u64 n6)), (9, .int .u64 (ishr .u64 (ishl .u64 a3 (IntKind.wrap .u64 n6)) 32)), (10, .int .u64 (iand .u64 (ishl .u64 a3 (IntKind.wrap .u64 n6)) 4294967295)), (11, .int .u64 (ior .u64 (ishl .u64 a1 (IntKind.wrap .u64 n6)) (ishr .u64 a2 (IntKind.wrap .u64 (64 - (IntKind.wrap .u64 n6)))))), (13, .int .u64 (ishr .u64 (ishl .u64 a2 (IntKind.wrap .u64 n6)) 32)), (14, .int .u64 (iand .u64 (ishl .u64 a2 (IntKind.wrap .u64 n6)) 4294967295)), (15, .int .u64 (IntKind.wrap .u64 (Int.tdiv (ior .u64 (ishl .u64 a1 (IntKind.wrap .u64 n6)) (ishr .u64 a2 (IntKind.wrap .u64 (64 - (IntKind.wrap .u64 n6))))) (ishr .u64 (ishl .u64 a3 (IntKind.wrap .u64 n6)) 32)))), (16, .int .u64 (IntKind.wrap .u64 ((ior .u64 (ishl .u64 a1 (IntKind.wrap .u64 n6)) (ishr .u64 a2 (IntKind.wrap .u64 (64 - (IntKind.wrap .u64 n6))))) - (IntKind.wrap .u64 ((IntKind.wrap .u64 (Int.tdiv (ior .u64 (ishl .u64 a1 (IntKind.wrap .u64 n6)) (ishr .u64 a2 (IntKind.wrap .u64 (64 - (IntKind.wrap .u64 n6))))) (ishr .u64 (ishl .u64 a3 (IntKind.wrap .u64 n6)) 32))) * (ishr .u64 (ishl .u64 a3 (IntKind.wrap .u64 n6)) 32))))))]) q5.2))))))) := (go_step _ h).trans (by kernel_rfl)

theorem p_nat_guess_4 (a1 : Int) (a2 : Int) (a3 : Int) (a4 : Int) (a5 : Int) (h : AH) : go (.pt F.nat_guess Td.nat_guess_4 [(2, .int .u64 a1), (3, .int .u64 a2), (4, .int .u64 a3), (11, .int .u64 a4), (12, .int .u64 a5)]) h =
  (go (.fn F.math_bits_Mul64 [.int .u64 a4, .int .u64 a3]) h).bind fun q6 =>
  (AV.asTup2 q6.1).bind fun p7 =>
  ((some p7.1).bind (AV.asInt .u64)).bind fun n8 =>
  ((some p7.2).bind (AV.asInt .u64)).bind fun n9 =>
  cond (decide (n8 < a5)) (
  some (.int .u64 a4, q6.2)) (
  cond (decide (n8 = a5)) (
  cond (decide (n9 ≤ a1)) (
  some (.int .u64 a4, q6.2)) (
  cond (decide ((IntKind.wrap .u64 (a5 + a2)) < a5)) (
  some (.int .u64 (IntKind.wrap .u64 (a4 - 1)), q6.2)) (
  go (.pt F.nat_guess Td.nat_guess_4 [(2, .int .u64 a1), (3, .int .u64 a2), (4, .int .u64 a3), (11, .int .u64 (IntKind.wrap .u64 (a4 - 1))), (12, .int .u64 (IntKind.wrap .u64 (a5 + a2)))]) q6.2))) (
  cond (decide ((IntKind.wrap .u64 (a5 + a2)) < a5)) (
  some (.int .u64 (IntKind.wrap .u64 (a4 - 1)), q6.2)) (
  go (.pt F.nat_guess Td.nat_guess_4 [(2, .int .u64 a1), (3, .int .u64 a2), (4, .int .u64 a3), (11, .int .u64 (IntKind.wrap .u64 (a4 - 1))), (12, .int .u64 (IntKind.wrap .u64 (a5 + a2)))]) q6.2))) := (go_step _ h).trans (by kernel_rfl)

theorem p_ref01_cut_2 (a1 : Sl) (a2 : Int) (h : AH) : go (.pt F.ref01_cut Td.ref01_cut_2 [(0, a1.v), (3, .int .i64 a2)]) h =
  cond (decide (a2 > 0)) (
  (idx a1.ref a1.len (IntKind.wrap .i64 (a2 - 1)) 1).bind fun r3 =>
  ((h.cell r3).bind (AV.asInt .u64)).bind fun n4 =>
  cond (decide (n4 = 0)) (
  go (.pt F.ref01_cut Td.ref01_cut_2 [(0, a1.v), (3, .int .i64 (IntKind.wrap .i64 (a2 - 1)))]) h) (
  (cutSl a1 0 a2 1).bind fun l5 =>
  some (l5.v, h))) (
  (cutSl a1 0 a2 1).bind fun l6 =>
  some (l6.v, h)) := (go_step _ h).trans (by kernel_rfl)

theorem u_rational_right_1 (a1 : Bool) (a2 : Sl) (a3 : Sl) (h : AH) : go (.fn F.rational_right_1 [.agg [.bool a1, a2.v, a3.v]]) h =
  newK h (.cells [.bool a1, a2.v, a3.v] T.api_Frac) fun h4r h4 =>
  ((h4.cell (h4r.add 0)).bind AV.asBool).bind fun b5 =>
  ((h4.cell (h4r.add 1)).bind AV.asSl).bind fun l6 =>
  ((h4.cell (h4r.add 2)).bind AV.asSl).bind fun l7 =>
  (go (.fn F.rational_Right [.agg [.bool b5, l6.v, l7.v]]) h4).bind fun q8 =>
  ((some q8.1).bind AV.asBool).bind fun b9 =>
  some (.bool (!b9), q8.2) := (go_step _ h).trans (by kernel_rfl)

theorem p_slices_IndexFunc_api_Int_api_Int_2__modint_right_1 (a1 : Sl) (a2 : Int) (a3 : Int) (h : AH) : go (.pt F.slices_IndexFunc_api_Int_api_Int Td.slices_IndexFunc_api_Int_api_Int_2 [(0, a1.v), (1, .func (.func F.modint_right_1) [] []), (7, .int .i64 a2), (8, .int .i64 a3)]) h =
  cond (decide (a3 < a2)) (
  (idx a1.ref a1.len a3 2).bind fun r4 =>
  ((h.cell (r4.add 0)).bind AV.asBool).bind fun b5 =>
  ((h.cell (r4.add 1)).bind AV.asSl).bind fun l6 =>
  (go (.fn F.modint_right_1 [.agg [.bool b5, l6.v]]) h).bind fun q7 =>
  ((some q7.1).bind AV.asBool).bind fun b8 =>
  cond b8 (
  some (.int .i64 a3, q7.2)) (
  go (.pt F.slices_IndexFunc_api_Int_api_Int Td.slices_IndexFunc_api_Int_api_Int_2 [(0, a1.v), (1, .func (.func F.modint_right_1) [] []), (7, .int .i64 a2), (8, .int .i64 (IntKind.wrap .i64 (a3 + 1)))]) q7.2)) (
  some (.int .i64 (-1), h)) := (go_step _ h).trans (by kernel_rfl)

theorem u_nat_right_1 (a1 : Sl) (h : AH) : go (.fn F.nat_right_1 [a1.v]) h =
  (go (.fn F.nat_Right [a1.v]) h).bind fun q2 =>
  ((some q2.1).bind AV.asBool).bind fun b3 =>
  some (.bool (!b3), q2.2) := (go_step _ h).trans (by kernel_rfl)

theorem p_math_bits_Div64_17 (a1 : Int) (a2 : Int) (a3 : Int) (a4 : Int) (a5 : Int) (a6 : Int) (a7 : Int) (a8 : Int) (a9 : Int) (h : AH) : go (.pt F.math_bits_Div64 Td.math_bits_Div64_17 [(2, .int .u64 a1), (8, .int .u64 a2), (9, .int .u64 a3), (10, .int .u64 a4), (11, .int .u64 a5), (13, .int .u64 a6), (14, .int .u64 a7), (15, .int .u64 a8), (16, .int .u64 a9)]) h =
  cond (decide (a8 ≥ 4294967296)) (
  cond (decide ((IntKind.wrap .u64 (a9 + a3)) ≥ 4294967296)) (
  cond (decide (a3 = 0)) none (
  go (.pt F.math_bits_Div64 Td.math_bits_Div64_24 [(2, .int .u64 a1), (8, .int .u64 a2), (9, .int .u64 a3), (10, .int .u64 a4), (14, .int .u64 a7), (15, .int .u64 (IntKind.wrap .u64 (a8 - 1))), (16, .int .u64 (IntKind.wrap .u64 ((IntKind.wrap .u64 ((IntKind.wrap .u64 ((IntKind.wrap .u64 (a5 * 4294967296)) + a6)) - (IntKind.wrap .u64 ((IntKind.wrap .u64 (a8 - 1)) * a1)))) - (IntKind.wrap .u64 ((IntKind.wrap .u64 (Int.tdiv (IntKind.wrap .u64 ((IntKind.wrap .u64 ((IntKind.wrap .u64 (a5 * 4294967296)) + a6)) - (IntKind.wrap .u64 ((IntKind.wrap .u64 (a8 - 1)) * a1)))) a3)) * a3))))), (17, .int .u64 (IntKind.wrap .u64 ((IntKind.wrap .u64 ((IntKind.wrap .u64 (a5 * 4294967296)) + a6)) - (IntKind.wrap .u64 ((IntKind.wrap .u64 (a8 - 1)) * a1))))), (18, .int .u64 (IntKind.wrap .u64 (Int.tdiv (IntKind.wrap .u64 ((IntKind.wrap .u64 ((IntKind.wrap .u64 (a5 * 4294967296)) + a6)) - (IntKind.wrap .u64 ((IntKind.wrap .u64 (a8 - 1)) * a1)))) a3)))]) h)) (
  go (.pt F.math_bits_Div64 Td.math_bits_Div64_17 [(2, .int .u64 a1), (8, .int .u64 a2), (9, .int .u64 a3), (10, .int .u64 a4), (11, .int .u64 a5), (13, .int .u64 a6), (14, .int .u64 a7), (15, .int .u64 (IntKind.wrap .u64 (a8 - 1))), (16, .int .u64 (IntKind.wrap .u64 (a9 + a3)))]) h)) (
  cond (decide ((IntKind.wrap .u64 (a8 * a4)) > (IntKind.wrap .u64 ((IntKind.wrap .u64 (4294967296 * a9)) + a6)))) (
  cond (decide ((IntKind.wrap .u64 (a9 + a3)) ≥ 4294967296)) (
  cond (decide (a3 = 0)) none (
  go (.pt F.math_bits_Div64 Td.math_bits_Div64_24 [(2, .int .u64 a1), (8, .int .u64 a2), (9, .int .u64 a3), (10, .int .u64 a4), (14, .int .u64 a7), (15, .int .u64 (IntKind.wrap .u64 (a8 - 1))), (16, .int .u64 (IntKind.wrap .u64 ((IntKind.wrap .u64 ((IntKind.wrap .u64 ((IntKind.wrap .u64 (a5 * 4294967296)) + a6)) - (IntKind.wrap .u64 ((IntKind.wrap .u64 (a8 - 1)) * a1)))) - (IntKind.wrap .u64 ((IntKind.wrap .u64 (Int.tdiv (IntKind.wrap .u64 ((IntKind.wrap .u64 ((IntKind.wrap .u64 (a5 * 4294967296)) + a6)) - (IntKind.wrap .u64 ((IntKind.wrap .u64 (a8 - 1)) * a1)))) a3)) * a3))))), (17, .int .u64 (IntKind.wrap .u64 ((IntKind.wrap .u64 ((IntKind.wrap .u64 (a5 * 4294967296)) + a6)) - (IntKind.wrap .u64 ((IntKind.wrap .u64 (a8 - 1)) * a1))))), (18, .int .u64 (IntKind.wrap .u64 (Int.tdiv (IntKind.wrap .u64 ((IntKind.wrap .u64 ((IntKind.wrap .u64 (a5 * 4294967296)) + a6)) - (IntKind.wrap .u64 ((IntKind.wrap .u64 (a8 - 1)) * a1)))) a3)))]) h)) (
  go (.pt F.math_bits_Div64 Td.math_bits_Div64_17 [(2, .int .u64 a1), (8, .int .u64 a2), (9, .int .u64 a3), (10, .int .u64 a4), (11, .int .u64 a5), (13, .int .u64 a6), (14, .int .u64 a7), (15, .int .u64 (IntKind.wrap .u64 (a8 - 1))), (16, .int .u64 (IntKind.wrap .u64 (a9 + a3)))]) h)) (
  cond (decide (a3 = 0)) none (
  go (.pt F.math_bits_Div64 Td.math_bits_Div64_24 [(2, .int .u64 a1), (8, .int .u64 a2), (9, .int .u64 a3), (10, .int .u64 a4), (14, .int .u64 a7), (15, .int .u64 a8), (16, .int .u64 (IntKind.wrap .u64 ((IntKind.wrap .u64 ((IntKind.wrap .u64 ((IntKind.wrap .u64 (a5 * 4294967296)) + a6)) - (IntKind.wrap .u64 (a8 * a1)))) - (IntKind.wrap .u64 ((IntKind.wrap .u64 (Int.tdiv (IntKind.wrap .u64 ((IntKind.wrap .u64 ((IntKind.wrap .u64 (a5 * 4294967296)) + a6)) - (IntKind.wrap .u64 (a8 * a1)))) a3)) * a3))))), (17, .int .u64 (IntKind.wrap .u64 ((IntKind.wrap .u64 ((IntKind.wrap .u64 (a5 * 4294967296)) + a6)) - (IntKind.wrap .u64 (a8 * a1))))), (18, .int .u64 (IntKind.wrap .u64 (Int.tdiv (IntKind.wrap .u64 ((IntKind.wrap .u64 ((IntKind.wrap .u64 (a5 * 4294967296)) + a6)) - (IntKind.wrap .u64 (a8 * a1)))) a3)))]) h))) := (go_step _ h).trans (by kernel_rfl)

theorem u_modint_right_1 (a1 : Bool) (a2 : Sl) (h : AH) : go (.fn F.modint_right_1 [.agg [.bool a1, a2.v]]) h =
  newK h (.cells [.bool a1, a2.v] T.api_Int) fun h3r h3 =>
  ((h3.cell (h3r.add 0)).bind AV.asBool).bind fun b4 =>
  ((h3.cell (h3r.add 1)).bind AV.asSl).bind fun l5 =>
  (go (.fn F.modint_Right [.agg [.bool b4, l5.v]]) h3).bind fun q6 =>
  ((some q6.1).bind AV.asBool).bind fun b7 =>
  some (.bool (!b7), q6.2) := (go_step _ h).trans (by kernel_rfl)

theorem p_math_bits_Div64_24 (a1 : Int) (a2 : Int) (a3 : Int) (a4 : Int) (a5 : Int) (a6 : Int) (a7 : Int) (a8 : Int) (a9 : Int) (h : AH) : go (.pt F.math_bits_Div64 Td.math_bits_Div64_24 [(2, .int .u64 a1), (8, .int .u64 a2), (9, .int .u64 a3), (10, .int .u64 a4), (14, .int .u64 a5), (15, .int .u64 a6), (16, .int .u64 a7), (17, .int .u64 a8), (18, .int .u64 a9)]) h =
  cond (decide (a9 ≥ 4294967296)) (
  cond (decide ((IntKind.wrap .u64 (a7 + a3)) ≥ 4294967296)) (
  cond (decide (a2 < 0)) none (
  some (.tup [.int .u64 (IntKind.wrap .u64 ((IntKind.wrap .u64 (a6 * 4294967296)) + (IntKind.wrap .u64 (a9 - 1)))), .int .u64 (ishr .u64 (IntKind.wrap .u64 ((IntKind.wrap .u64 ((IntKind.wrap .u64 (a8 * 4294967296)) + a5)) - (IntKind.wrap .u64 ((IntKind.wrap .u64 (a9 - 1)) * a1)))) a2)], h))) (
  go (.pt F.math_bits_Div64 Td.math_bits_Div64_24 [(2, .int .u64 a1), (8, .int .u64 a2), (9, .int .u64 a3), (10, .int .u64 a4), (14, .int .u64 a5), (15, .int .u64 a6), (16, .int .u64 (IntKind.wrap .u64 (a7 + a3))), (17, .int .u64 a8), (18, .int .u64 (IntKind.wrap .u64 (a9 - 1)))]) h)) (
  cond (decide ((IntKind.wrap .u64 (a9 * a4)) > (IntKind.wrap .u64 ((IntKind.wrap .u64 (4294967296 * a7)) + a5)))) (
  cond (decide ((IntKind.wrap .u64 (a7 + a3)) ≥ 4294967296)) (
  cond (decide (a2 < 0)) none (
  some (.tup [.int .u64 (IntKind.wrap .u64 ((IntKind.wrap .u64 (a6 * 4294967296)) + (IntKind.wrap .u64 (a9 - 1)))), .int .u64 (ishr .u64 (IntKind.wrap .u64 ((IntKind.wrap .u64 ((IntKind.wrap .u64 (a8 * 4294967296)) + a5)) - (IntKind.wrap .u64 ((IntKind.wrap .u64 (a9 - 1)) * a1)))) a2)], h))) (
  go (.pt F.math_bits_Div64 Td.math_bits_Div64_24 [(2, .int .u64 a1), (8, .int .u64 a2), (9, .int .u64 a3), (10, .int .u64 a4), (14, .int .u64 a5), (15, .int .u64 a6), (16, .int .u64 (IntKind.wrap .u64 (a7 + a3))), (17, .int .u64 a8), (18, .int .u64 (IntKind.wrap .u64 (a9 - 1)))]) h)) (
  cond (decide (a2 < 0)) none (
  some (.tup [.int .u64 (IntKind.wrap .u64 ((IntKind.wrap .u64 (a6 * 4294967296)) + a9)), .int .u64 (ishr .u64 (IntKind.wrap .u64 ((IntKind.wrap .u64 ((IntKind.wrap .u64 (a8 * 4294967296)) + a5)) - (IntKind.wrap .u64 (a9 * a1)))) a2)], h)))) := (go_step _ h).trans (by kernel_rfl)

end Go.Ab
