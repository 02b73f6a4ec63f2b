/- What each function does, step by step: printed by a program of ours, checked by the kernel. -/
import Derived.Test.YtddnmijnpieokaaAbsN
import Derived.Test.YtddnmijnpieokaaProg
set_option linter.unusedVariables false
set_option maxRecDepth 100000
namespace Go.Ab
open Go.Proofs

@[reducible] def F.law16_LossRights : FuncId := 3
@[reducible] def F.law16_LossGrads : FuncId := 4
@[reducible] def F.law16_LossRises : FuncId := 5
@[reducible] def F.law16_awake : FuncId := 19
@[reducible] def F.loss_Right : FuncId := 20
@[reducible] def F.ref16_Right : FuncId := 21
@[reducible] def F.loss_Grad : FuncId := 22
@[reducible] def F.ref16_Grad : FuncId := 23
@[reducible] def F.law16_plain : FuncId := 60
@[reducible] def F.loss_within : FuncId := 61
@[reducible] def T.unit : TypeId := 0
@[reducible] def T.func : TypeId := 1
@[reducible] def T.int64 : TypeId := 2
@[reducible] def T.int : TypeId := 3
@[reducible] def T.bool : TypeId := 4
@[reducible] def T.uint8 : TypeId := 5
@[reducible] def T.abi_BoundsErrorCode : TypeId := 6
@[reducible] def T.struct_x_int64_y_int_signed_bool_code_abi_BoundsErrorCode : TypeId := 7
@[reducible] def T.runtime_boundsError : TypeId := 8
@[reducible] def T.string : TypeId := 9
@[reducible] def T.runtime_errorString : TypeId := 10
@[reducible] def T.runtime_plainError : TypeId := 11
@[reducible] def T.uintptr : TypeId := 12
@[reducible] def T.struct_msg_string_addr_uintptr : TypeId := 13
@[reducible] def T.runtime_errorAddressString : TypeId := 14
@[reducible] def T.P_runtime_TypeAssertionError : TypeId := 15
@[reducible] def T.P_runtime_PanicNilError : TypeId := 16
@[reducible] def T.P_abi_Type : TypeId := 17
@[reducible] def T.struct_typ_P_abi_Type : TypeId := 18
@[reducible] def T.maps_unhashableTypeError : TypeId := 19
@[reducible] def T.any : TypeId := 20
@[reducible] def T.int32 : TypeId := 21
@[reducible] def T.struct_Trees_int_Depth_int_Lambda_int_Gamma_int_Num_int_Den_int_Loss_int_Clip_int : TypeId := 22
@[reducible] def T.api_Config : TypeId := 23
@[reducible] def T.func_bool : TypeId := 24
@[reducible] def T.func_api_Config_bool : TypeId := 25
@[reducible] def T.api_Errno : TypeId := 26
@[reducible] def T.int_api_Errno : TypeId := 27
@[reducible] def T.func_api_Config_int_int_int_api_Errno : TypeId := 28
@[reducible] def T.func_api_Config_int_int_bool : TypeId := 29
@[reducible] def T.A2_int : TypeId := 30
@[reducible] def T.func_api_Config_A2_int_int_bool : TypeId := 31
@[reducible] def T.L_uint64 : TypeId := 32
@[reducible] def T.api_Nat : TypeId := 33
@[reducible] def T.struct_Neg_bool_Mag_api_Nat : TypeId := 34
@[reducible] def T.api_Int : TypeId := 35
@[reducible] def T.func_api_Nat_bool : TypeId := 36
@[reducible] def T.func_int64_api_Int : TypeId := 37
@[reducible] def T.func_api_Int_api_Int_bool : TypeId := 38
@[reducible] def T.func_bool_api_Nat_api_Int : TypeId := 39
@[reducible] def T.int64_bool : TypeId := 40
@[reducible] def T.func_api_Int_int64_bool : TypeId := 41
@[reducible] def T.func_api_Int_bool : TypeId := 42
@[reducible] def T.func_api_Int_int64_api_Int_bool : TypeId := 43
@[reducible] def T.func_api_Int_api_Int : TypeId := 44
@[reducible] def T.func_api_Int_api_Int_int : TypeId := 45
@[reducible] def T.uint64 : TypeId := 46
@[reducible] def T.api_Int_api_Errno : TypeId := 47
@[reducible] def T.func_api_Int_api_Int_api_Int_api_Errno : TypeId := 48
@[reducible] def T.api_Nat_api_Errno : TypeId := 49
@[reducible] def T.func_api_Nat_api_Nat_api_Nat_api_Errno : TypeId := 50
@[reducible] def T.func_api_Nat_api_Nat_bool : TypeId := 51
@[reducible] def T.api_Int_api_Int_api_Errno : TypeId := 52
@[reducible] def T.func_api_Int_api_Int_api_Int_api_Int_api_Errno : TypeId := 53
@[reducible] def T.func_api_Nat_bool_54 : TypeId := 54
@[reducible] def T.func_api_Nat_api_Nat_int : TypeId := 55
@[reducible] def T.func_api_Nat_api_Nat_api_Nat : TypeId := 56
@[reducible] def T.struct_G_int_H_int : TypeId := 57
@[reducible] def T.api_Sum : TypeId := 58
@[reducible] def T.func_api_Config_api_Sum_int_api_Errno : TypeId := 59
@[reducible] def T.func_api_Config_api_Sum_bool : TypeId := 60
@[reducible] def T.A2_api_Nat : TypeId := 61
@[reducible] def T.func_api_Nat_api_Nat_api_Nat_api_Nat_api_Nat_api_Errno : TypeId := 62
@[reducible] def T.func_A2_api_Nat_A2_api_Nat_bool : TypeId := 63
@[reducible] def T.func_api_Config : TypeId := 64
@[reducible] def T.func_int_int_int_bool : TypeId := 65
@[reducible] def T.L_api_Nat : TypeId := 66
@[reducible] def T.func_uint64_api_Nat : TypeId := 67
@[reducible] def T.func_api_Nat_api_Nat : TypeId := 68
@[reducible] def T.uint64_bool : TypeId := 69
@[reducible] def T.func_api_Nat_uint64_bool : TypeId := 70
@[reducible] def T.func_api_Int_bool_71 : TypeId := 71
@[reducible] def T.A2_bool : TypeId := 72
@[reducible] def T.api_Nat_api_Nat_api_Errno : TypeId := 73
@[reducible] def T.func_api_Nat_api_Nat_api_Nat_api_Nat_api_Errno : TypeId := 74
@[reducible] def T.func_ref01_Digits_ref01_Digits_int : TypeId := 75
@[reducible] def T.ref01_Digits : TypeId := 76
@[reducible] def T.func_api_Nat_ref01_Digits : TypeId := 77
@[reducible] def T.func_ref01_Digits_api_Nat_api_Errno : TypeId := 78
@[reducible] def T.func_ref01_Digits_ref01_Digits_ref01_Digits : TypeId := 79
@[reducible] def T.func_int_int_api_Int : TypeId := 80
@[reducible] def T.func_api_Sum_bool : TypeId := 81
@[reducible] def T.L_api_Int : TypeId := 82
@[reducible] def T.func_L_api_Int_func_api_Int_bool_bool : TypeId := 83
@[reducible] def T.func_api_Nat_api_Nat_api_Errno : TypeId := 84
@[reducible] def T.api_Nat_uint64 : TypeId := 85
@[reducible] def T.func_api_Nat_uint64_api_Nat_uint64 : TypeId := 86
@[reducible] def T.api_Nat_api_Nat : TypeId := 87
@[reducible] def T.func_api_Nat_api_Nat_api_Nat_api_Nat : TypeId := 88
@[reducible] def T.ref01_Digits_ref01_Digits : TypeId := 89
@[reducible] def T.func_ref01_Digits_ref01_Digits_ref01_Digits_ref01_Digits : TypeId := 90
@[reducible] def T.api_Nat_bool : TypeId := 91
@[reducible] def T.func_ref01_Digits_api_Nat_bool : TypeId := 92
@[reducible] def T.func_ref01_Digits_ref01_Digits : TypeId := 93
@[reducible] def T.func_L_api_Int_func_api_Int_bool_int : TypeId := 94
@[reducible] def T.func_L_api_Nat_func_api_Nat_bool_bool : TypeId := 95
@[reducible] def T.uint64_uint64 : TypeId := 96
@[reducible] def T.func_uint64_uint64_uint64_uint64_uint64 : TypeId := 97
@[reducible] def T.func_ref01_Digits_int_uint64 : TypeId := 98
@[reducible] def T.func_api_Nat_api_Nat_int_99 : TypeId := 99
@[reducible] def T.uint : TypeId := 100
@[reducible] def T.func_uint64_int : TypeId := 101
@[reducible] def T.func_api_Nat_uint_api_Nat : TypeId := 102
@[reducible] def T.func_uint64_uint64_uint64_uint64_uint64_uint64 : TypeId := 103
@[reducible] def T.func_L_api_Nat_func_api_Nat_bool_int : TypeId := 104
@[reducible] def T.func_uint64_uint64_uint64_uint64 : TypeId := 105
@[reducible] def T.interface_Error_string : TypeId := 106
@[reducible] def T.error : TypeId := 107
@[reducible] def T.func_string : TypeId := 108
@[reducible] def T.struct_interface_P_abi_Type_concrete_P_abi_Type_asserted_P_abi_Type_missingMethod_string : TypeId := 109
@[reducible] def T.runtime_TypeAssertionError : TypeId := 110
@[reducible] def T.A0_P_runtime_PanicNilError : TypeId := 111
@[reducible] def T.struct_A0_P_runtime_PanicNilError : TypeId := 112
@[reducible] def T.runtime_PanicNilError : TypeId := 113
@[reducible] def T.func_int : TypeId := 114
@[reducible] def T.uint32 : TypeId := 115
@[reducible] def T.abi_TFlag : TypeId := 116
@[reducible] def T.abi_Kind : TypeId := 117
@[reducible] def T.func_unsafe_Pointer_unsafe_Pointer_bool : TypeId := 118
@[reducible] def T.P_uint8 : TypeId := 119
@[reducible] def T.abi_NameOff : TypeId := 120
@[reducible] def T.abi_TypeOff : TypeId := 121
@[reducible] def T.struct_Size_uintptr_PtrBytes_uintptr_Hash_uint32_TFlag_abi_TFlag_Align_uint8_FieldAlign_uint8_Kind_abi_Kind_Equal_func_unsafe_Pointer_unsafe_Pointer_bool_GCData_P_uint8_Str_abi_NameOff_PtrToThis_abi_TypeOff : TypeId := 122
@[reducible] def T.abi_Type : TypeId := 123
@[reducible] def T.unsafe_Pointer : TypeId := 124
@[reducible] noncomputable def Pg : Program := Try.prog
def keepTab : List (Nat × Nat × List Nat) := []
noncomputable def go : Rec := run Pg (keepOf keepTab)
theorem go_step (k : Key) (h : AH) : go k h = stepA Pg (keepOf keepTab) go k h := run_unfold _ k h
theorem und_int : Pg.underlying T.int = some (.int .i64) := Try.underlying3
theorem cells_int : Pg.cellsOf T.int = 1 := by kernel_rfl
theorem und_api_Config : Pg.underlying T.api_Config = some (.struct #[{ name := "Trees", type := T.int, offset := 0, embedded := false, tag := "", pkgPath := "", byteOffset := 0 }, { name := "Depth", type := T.int, offset := 1, embedded := false, tag := "", pkgPath := "", byteOffset := 8 }, { name := "Lambda", type := T.int, offset := 2, embedded := false, tag := "", pkgPath := "", byteOffset := 16 }, { name := "Gamma", type := T.int, offset := 3, embedded := false, tag := "", pkgPath := "", byteOffset := 24 }, { name := "Num", type := T.int, offset := 4, embedded := false, tag := "", pkgPath := "", byteOffset := 32 }, { name := "Den", type := T.int, offset := 5, embedded := false, tag := "", pkgPath := "", byteOffset := 40 }, { name := "Loss", type := T.int, offset := 6, embedded := false, tag := "", pkgPath := "", byteOffset := 48 }, { name := "Clip", type := T.int, offset := 7, embedded := false, tag := "", pkgPath := "", byteOffset := 56 }]) := Try.underlying23
theorem cells_api_Config : Pg.cellsOf T.api_Config = 8 := by kernel_rfl
theorem und_A2_int : Pg.underlying T.A2_int = some (.array 2 T.int) := Try.underlying30
theorem cells_A2_int : Pg.cellsOf T.A2_int = 2 := by kernel_rfl

theorem u_law16_LossRights (a1 : Int) (a2 : Int) (a3 : Int) (a4 : Int) (a5 : Int) (a6 : Int) (a7 : Int) (a8 : Int) (h : AH) : go (.fn F.law16_LossRights [.agg [.int .i64 a1, .int .i64 a2, .int .i64 a3, .int .i64 a4, .int .i64 a5, .int .i64 a6, .int .i64 a7, .int .i64 a8]]) h =
  newK h (.cells [.int .i64 a1, .int .i64 a2, .int .i64 a3, .int .i64 a4, .int .i64 a5, .int .i64 a6, .int .i64 a7, .int .i64 a8] T.api_Config) fun h9r h9 =>
  (go (.fn F.law16_awake []) h9).bind fun q10 =>
  ((some q10.1).bind AV.asBool).bind fun b11 =>
  ((q10.2.cell (h9r.add 0)).bind (AV.asInt .i64)).bind fun n12 =>
  ((q10.2.cell (h9r.add 1)).bind (AV.asInt .i64)).bind fun n13 =>
  ((q10.2.cell (h9r.add 2)).bind (AV.asInt .i64)).bind fun n14 =>
  ((q10.2.cell (h9r.add 3)).bind (AV.asInt .i64)).bind fun n15 =>
  ((q10.2.cell (h9r.add 4)).bind (AV.asInt .i64)).bind fun n16 =>
  ((q10.2.cell (h9r.add 5)).bind (AV.asInt .i64)).bind fun n17 =>
  ((q10.2.cell (h9r.add 6)).bind (AV.asInt .i64)).bind fun n18 =>
  ((q10.2.cell (h9r.add 7)).bind (AV.asInt .i64)).bind fun n19 =>
  (go (.fn F.loss_Right [.agg [.int .i64 n12, .int .i64 n13, .int .i64 n14, .int .i64 n15, .int .i64 n16, .int .i64 n17, .int .i64 n18, .int .i64 n19]]) q10.2).bind fun q20 =>
  ((some q20.1).bind AV.asBool).bind fun b21 =>
  cond b11 (
  ((q20.2.cell (h9r.add 0)).bind (AV.asInt .i64)).bind fun n22 =>
  ((q20.2.cell (h9r.add 1)).bind (AV.asInt .i64)).bind fun n23 =>
  ((q20.2.cell (h9r.add 2)).bind (AV.asInt .i64)).bind fun n24 =>
  ((q20.2.cell (h9r.add 3)).bind (AV.asInt .i64)).bind fun n25 =>
  ((q20.2.cell (h9r.add 4)).bind (AV.asInt .i64)).bind fun n26 =>
  ((q20.2.cell (h9r.add 5)).bind (AV.asInt .i64)).bind fun n27 =>
  ((q20.2.cell (h9r.add 6)).bind (AV.asInt .i64)).bind fun n28 =>
  ((q20.2.cell (h9r.add 7)).bind (AV.asInt .i64)).bind fun n29 =>
  (go (.fn F.ref16_Right [.agg [.int .i64 n22, .int .i64 n23, .int .i64 n24, .int .i64 n25, .int .i64 n26, .int .i64 n27, .int .i64 n28, .int .i64 n29]]) q20.2).bind fun q30 =>
  ((some q30.1).bind AV.asBool).bind fun b31 =>
  some (.bool (b21 == b31), q30.2)) (
  some (.bool false, q20.2)) := (go_step _ h).trans (by kernel_rfl)

theorem u_law16_LossGrads (a1 : Int) (a2 : Int) (a3 : Int) (a4 : Int) (a5 : Int) (a6 : Int) (a7 : Int) (a8 : Int) (a9 : Int) (a10 : Int) (h : AH) : go (.fn F.law16_LossGrads [.agg [.int .i64 a1, .int .i64 a2, .int .i64 a3, .int .i64 a4, .int .i64 a5, .int .i64 a6, .int .i64 a7, .int .i64 a8], .int .i64 a9, .int .i64 a10]) h =
  newK h (.cells [.int .i64 a1, .int .i64 a2, .int .i64 a3, .int .i64 a4, .int .i64 a5, .int .i64 a6, .int .i64 a7, .int .i64 a8] T.api_Config) fun h11r h11 =>
  (go (.fn F.law16_awake []) h11).bind fun q12 =>
  ((some q12.1).bind AV.asBool).bind fun b13 =>
  ((q12.2.cell (h11r.add 0)).bind (AV.asInt .i64)).bind fun n14 =>
  ((q12.2.cell (h11r.add 1)).bind (AV.asInt .i64)).bind fun n15 =>
  ((q12.2.cell (h11r.add 2)).bind (AV.asInt .i64)).bind fun n16 =>
  ((q12.2.cell (h11r.add 3)).bind (AV.asInt .i64)).bind fun n17 =>
  ((q12.2.cell (h11r.add 4)).bind (AV.asInt .i64)).bind fun n18 =>
  ((q12.2.cell (h11r.add 5)).bind (AV.asInt .i64)).bind fun n19 =>
  ((q12.2.cell (h11r.add 6)).bind (AV.asInt .i64)).bind fun n20 =>
  ((q12.2.cell (h11r.add 7)).bind (AV.asInt .i64)).bind fun n21 =>
  (go (.fn F.loss_Grad [.agg [.int .i64 n14, .int .i64 n15, .int .i64 n16, .int .i64 n17, .int .i64 n18, .int .i64 n19, .int .i64 n20, .int .i64 n21], .int .i64 a9, .int .i64 a10]) q12.2).bind fun q22 =>
  (AV.asTup2 q22.1).bind fun p23 =>
  ((some p23.1).bind (AV.asInt .i64)).bind fun n24 =>
  ((some p23.2).bind (AV.asInt .i64)).bind fun n25 =>
  ((q22.2.cell (h11r.add 0)).bind (AV.asInt .i64)).bind fun n26 =>
  ((q22.2.cell (h11r.add 1)).bind (AV.asInt .i64)).bind fun n27 =>
  ((q22.2.cell (h11r.add 2)).bind (AV.asInt .i64)).bind fun n28 =>
  ((q22.2.cell (h11r.add 3)).bind (AV.asInt .i64)).bind fun n29 =>
  ((q22.2.cell (h11r.add 4)).bind (AV.asInt .i64)).bind fun n30 =>
  ((q22.2.cell (h11r.add 5)).bind (AV.asInt .i64)).bind fun n31 =>
  ((q22.2.cell (h11r.add 6)).bind (AV.asInt .i64)).bind fun n32 =>
  ((q22.2.cell (h11r.add 7)).bind (AV.asInt .i64)).bind fun n33 =>
  (go (.fn F.ref16_Grad [.agg [.int .i64 n26, .int .i64 n27, .int .i64 n28, .int .i64 n29, .int .i64 n30, .int .i64 n31, .int .i64 n32, .int .i64 n33], .int .i64 a9, .int .i64 a10]) q22.2).bind fun q34 =>
  (AV.asTup2 q34.1).bind fun p35 =>
  ((some p35.1).bind (AV.asInt .i64)).bind fun n36 =>
  ((some p35.2).bind (AV.asInt .i64)).bind fun n37 =>
  cond b13 (
  cond (decide (n24 = n36)) (
  some (.bool (decide (n25 = n37)), q34.2)) (
  some (.bool false, q34.2))) (
  some (.bool false, q34.2)) := (go_step _ h).trans (by kernel_rfl)

theorem u_law16_LossRises (a1 : Int) (a2 : Int) (a3 : Int) (a4 : Int) (a5 : Int) (a6 : Int) (a7 : Int) (a8 : Int) (a9 : Int) (a10 : Int) (a11 : Int) (h : AH) : go (.fn F.law16_LossRises [.agg [.int .i64 a1, .int .i64 a2, .int .i64 a3, .int .i64 a4, .int .i64 a5, .int .i64 a6, .int .i64 a7, .int .i64 a8], .agg [.int .i64 a9, .int .i64 a10], .int .i64 a11]) h =
  newK h (.cells [.int .i64 a1, .int .i64 a2, .int .i64 a3, .int .i64 a4, .int .i64 a5, .int .i64 a6, .int .i64 a7, .int .i64 a8] T.api_Config) fun h12r h12 =>
  newK h12 (.cells [.int .i64 a9, .int .i64 a10] T.A2_int) fun h13r h13 =>
  (go (.fn F.law16_awake []) h13).bind fun q14 =>
  ((some q14.1).bind AV.asBool).bind fun b15 =>
  (idx (some h13r) 2 0 1).bind fun r16 =>
  ((q14.2.cell r16).bind (AV.asInt .i64)).bind fun n17 =>
  (idx (some h13r) 2 1 1).bind fun r18 =>
  ((q14.2.cell r18).bind (AV.asInt .i64)).bind fun n19 =>
  (idx (some h13r) 2 0 1).bind fun r20 =>
  ((q14.2.cell r20).bind (AV.asInt .i64)).bind fun n21 =>
  (idx (some h13r) 2 1 1).bind fun r22 =>
  ((q14.2.cell r22).bind (AV.asInt .i64)).bind fun n23 =>
  ((q14.2.cell (h12r.add 0)).bind (AV.asInt .i64)).bind fun n24 =>
  ((q14.2.cell (h12r.add 1)).bind (AV.asInt .i64)).bind fun n25 =>
  ((q14.2.cell (h12r.add 2)).bind (AV.asInt .i64)).bind fun n26 =>
  ((q14.2.cell (h12r.add 3)).bind (AV.asInt .i64)).bind fun n27 =>
  ((q14.2.cell (h12r.add 4)).bind (AV.asInt .i64)).bind fun n28 =>
  ((q14.2.cell (h12r.add 5)).bind (AV.asInt .i64)).bind fun n29 =>
  ((q14.2.cell (h12r.add 6)).bind (AV.asInt .i64)).bind fun n30 =>
  ((q14.2.cell (h12r.add 7)).bind (AV.asInt .i64)).bind fun n31 =>
  (go (.fn F.loss_Grad [.agg [.int .i64 n24, .int .i64 n25, .int .i64 n26, .int .i64 n27, .int .i64 n28, .int .i64 n29, .int .i64 n30, .int .i64 n31], .int .i64 (imin n17 n19), .int .i64 a11]) q14.2).bind fun q32 =>
  (AV.asTup2 q32.1).bind fun p33 =>
  ((some p33.1).bind (AV.asInt .i64)).bind fun n34 =>
  ((some p33.2).bind (AV.asInt .i64)).bind fun n35 =>
  ((q32.2.cell (h12r.add 0)).bind (AV.asInt .i64)).bind fun n36 =>
  ((q32.2.cell (h12r.add 1)).bind (AV.asInt .i64)).bind fun n37 =>
  ((q32.2.cell (h12r.add 2)).bind (AV.asInt .i64)).bind fun n38 =>
  ((q32.2.cell (h12r.add 3)).bind (AV.asInt .i64)).bind fun n39 =>
  ((q32.2.cell (h12r.add 4)).bind (AV.asInt .i64)).bind fun n40 =>
  ((q32.2.cell (h12r.add 5)).bind (AV.asInt .i64)).bind fun n41 =>
  ((q32.2.cell (h12r.add 6)).bind (AV.asInt .i64)).bind fun n42 =>
  ((q32.2.cell (h12r.add 7)).bind (AV.asInt .i64)).bind fun n43 =>
  (go (.fn F.loss_Grad [.agg [.int .i64 n36, .int .i64 n37, .int .i64 n38, .int .i64 n39, .int .i64 n40, .int .i64 n41, .int .i64 n42, .int .i64 n43], .int .i64 (imax n21 n23), .int .i64 a11]) q32.2).bind fun q44 =>
  (AV.asTup2 q44.1).bind fun p45 =>
  ((some p45.1).bind (AV.asInt .i64)).bind fun n46 =>
  ((some p45.2).bind (AV.asInt .i64)).bind fun n47 =>
  cond (!b15) (
  some (.bool b15, q44.2)) (
  cond (!decide (n35 = 0)) (
  some (.bool b15, q44.2)) (
  cond (!decide (n47 = 0)) (
  some (.bool b15, q44.2)) (
  cond (decide (n34 ≤ n46)) (
  cond ((decide (n34 > 0)) == (decide ((imin n17 n19) > a11))) (
  some (.bool ((decide (n34 < 0)) == (decide ((imin n17 n19) < a11))), q44.2)) (
  some (.bool false, q44.2))) (
  some (.bool false, q44.2))))) := (go_step _ h).trans (by kernel_rfl)

theorem u_law16_awake  (h : AH) : go (.fn F.law16_awake []) h =
  (go (.fn F.law16_plain []) h).bind fun q1 =>
  (AV.asAgg q1.1).bind fun cs2 =>
  cond (Nat.beq cs2.length 8) (
  ((cs2[0]?).bind (AV.asInt .i64)).bind fun n3 =>
  ((cs2[1]?).bind (AV.asInt .i64)).bind fun n4 =>
  ((cs2[2]?).bind (AV.asInt .i64)).bind fun n5 =>
  ((cs2[3]?).bind (AV.asInt .i64)).bind fun n6 =>
  ((cs2[4]?).bind (AV.asInt .i64)).bind fun n7 =>
  ((cs2[5]?).bind (AV.asInt .i64)).bind fun n8 =>
  ((cs2[6]?).bind (AV.asInt .i64)).bind fun n9 =>
  ((cs2[7]?).bind (AV.asInt .i64)).bind fun n10 =>
  (go (.fn F.loss_Grad [.agg [.int .i64 n3, .int .i64 n4, .int .i64 n5, .int .i64 n6, .int .i64 n7, .int .i64 n8, .int .i64 n9, .int .i64 n10], .int .i64 7, .int .i64 3]) q1.2).bind fun q11 =>
  (AV.asTup2 q11.1).bind fun p12 =>
  ((some p12.1).bind (AV.asInt .i64)).bind fun n13 =>
  ((some p12.2).bind (AV.asInt .i64)).bind fun n14 =>
  cond (decide (n14 = 0)) (
  some (.bool (decide (n13 = 4)), q11.2)) (
  some (.bool false, q11.2))) none := (go_step _ h).trans (by kernel_rfl)

theorem u_loss_Right (a1 : Int) (a2 : Int) (a3 : Int) (a4 : Int) (a5 : Int) (a6 : Int) (a7 : Int) (a8 : Int) (h : AH) : go (.fn F.loss_Right [.agg [.int .i64 a1, .int .i64 a2, .int .i64 a3, .int .i64 a4, .int .i64 a5, .int .i64 a6, .int .i64 a7, .int .i64 a8]]) h =
  newK h (.cells [.int .i64 a1, .int .i64 a2, .int .i64 a3, .int .i64 a4, .int .i64 a5, .int .i64 a6, .int .i64 a7, .int .i64 a8] T.api_Config) fun h9r h9 =>
  ((h9.cell (h9r.add 0)).bind (AV.asInt .i64)).bind fun n10 =>
  (go (.fn F.loss_within [.int .i64 n10, .int .i64 1, .int .i64 16]) h9).bind fun q11 =>
  ((some q11.1).bind AV.asBool).bind fun b12 =>
  cond (!b12) (
  some (.bool false, q11.2)) (
  ((q11.2.cell (h9r.add 1)).bind (AV.asInt .i64)).bind fun n13 =>
  (go (.fn F.loss_within [.int .i64 n13, .int .i64 1, .int .i64 5]) q11.2).bind fun q14 =>
  ((some q14.1).bind AV.asBool).bind fun b15 =>
  cond (!b15) (
  some (.bool false, q14.2)) (
  ((q14.2.cell (h9r.add 2)).bind (AV.asInt .i64)).bind fun n16 =>
  (go (.fn F.loss_within [.int .i64 n16, .int .i64 1, .int .i64 1048576]) q14.2).bind fun q17 =>
  ((some q17.1).bind AV.asBool).bind fun b18 =>
  cond (!b18) (
  some (.bool false, q17.2)) (
  ((q17.2.cell (h9r.add 3)).bind (AV.asInt .i64)).bind fun n19 =>
  (go (.fn F.loss_within [.int .i64 n19, .int .i64 0, .int .i64 1048576]) q17.2).bind fun q20 =>
  ((some q20.1).bind AV.asBool).bind fun b21 =>
  cond (!b21) (
  some (.bool false, q20.2)) (
  ((q20.2.cell (h9r.add 5)).bind (AV.asInt .i64)).bind fun n22 =>
  (go (.fn F.loss_within [.int .i64 n22, .int .i64 1, .int .i64 1048576]) q20.2).bind fun q23 =>
  ((some q23.1).bind AV.asBool).bind fun b24 =>
  cond (!b24) (
  some (.bool false, q23.2)) (
  ((q23.2.cell (h9r.add 4)).bind (AV.asInt .i64)).bind fun n25 =>
  ((q23.2.cell (h9r.add 5)).bind (AV.asInt .i64)).bind fun n26 =>
  (go (.fn F.loss_within [.int .i64 n25, .int .i64 1, .int .i64 n26]) q23.2).bind fun q27 =>
  ((some q27.1).bind AV.asBool).bind fun b28 =>
  cond (!b28) (
  some (.bool false, q27.2)) (
  ((q27.2.cell (h9r.add 6)).bind (AV.asInt .i64)).bind fun n29 =>
  cond (decide (n29 = 0)) (
  ((q27.2.cell (h9r.add 7)).bind (AV.asInt .i64)).bind fun n30 =>
  some (.bool (decide (n30 = 0)), q27.2)) (
  cond (decide (n29 = 1)) (
  ((q27.2.cell (h9r.add 7)).bind (AV.asInt .i64)).bind fun n31 =>
  (go (.fn F.loss_within [.int .i64 n31, .int .i64 1, .int .i64 1048576]) q27.2).bind fun q32 =>
  ((some q32.1).bind AV.asBool).bind fun b33 =>
  some (.bool b33, q32.2)) (
  some (.bool false, q27.2))))))))) := (go_step _ h).trans (by kernel_rfl)

theorem u_ref16_Right (a1 : Int) (a2 : Int) (a3 : Int) (a4 : Int) (a5 : Int) (a6 : Int) (a7 : Int) (a8 : Int) (h : AH) : go (.fn F.ref16_Right [.agg [.int .i64 a1, .int .i64 a2, .int .i64 a3, .int .i64 a4, .int .i64 a5, .int .i64 a6, .int .i64 a7, .int .i64 a8]]) h =
  newK h (.cells [.int .i64 a1, .int .i64 a2, .int .i64 a3, .int .i64 a4, .int .i64 a5, .int .i64 a6, .int .i64 a7, .int .i64 a8] T.api_Config) fun h9r h9 =>
  ((h9.cell (h9r.add 0)).bind (AV.asInt .i64)).bind fun n10 =>
  cond (decide (n10 < 1)) (
  some (.bool false, h9)) (
  ((h9.cell (h9r.add 0)).bind (AV.asInt .i64)).bind fun n11 =>
  cond (decide (n11 > 16)) (
  some (.bool false, h9)) (
  ((h9.cell (h9r.add 1)).bind (AV.asInt .i64)).bind fun n12 =>
  cond (decide (n12 < 1)) (
  some (.bool false, h9)) (
  ((h9.cell (h9r.add 1)).bind (AV.asInt .i64)).bind fun n13 =>
  cond (decide (n13 > 5)) (
  some (.bool false, h9)) (
  ((h9.cell (h9r.add 2)).bind (AV.asInt .i64)).bind fun n14 =>
  cond (decide (n14 < 1)) (
  some (.bool false, h9)) (
  ((h9.cell (h9r.add 2)).bind (AV.asInt .i64)).bind fun n15 =>
  cond (decide (n15 > 1048576)) (
  some (.bool false, h9)) (
  ((h9.cell (h9r.add 3)).bind (AV.asInt .i64)).bind fun n16 =>
  cond (decide (n16 < 0)) (
  some (.bool false, h9)) (
  ((h9.cell (h9r.add 3)).bind (AV.asInt .i64)).bind fun n17 =>
  cond (decide (n17 > 1048576)) (
  some (.bool false, h9)) (
  ((h9.cell (h9r.add 5)).bind (AV.asInt .i64)).bind fun n18 =>
  cond (decide (n18 < 1)) (
  some (.bool false, h9)) (
  ((h9.cell (h9r.add 5)).bind (AV.asInt .i64)).bind fun n19 =>
  cond (decide (n19 > 1048576)) (
  some (.bool false, h9)) (
  ((h9.cell (h9r.add 4)).bind (AV.asInt .i64)).bind fun n20 =>
  cond (decide (n20 < 1)) (
  some (.bool false, h9)) (
  ((h9.cell (h9r.add 4)).bind (AV.asInt .i64)).bind fun n21 =>
  ((h9.cell (h9r.add 5)).bind (AV.asInt .i64)).bind fun n22 =>
  cond (decide (n21 > n22)) (
  some (.bool false, h9)) (
  ((h9.cell (h9r.add 6)).bind (AV.asInt .i64)).bind fun n23 =>
  cond (decide (n23 = 0)) (
  ((h9.cell (h9r.add 7)).bind (AV.asInt .i64)).bind fun n24 =>
  cond (decide (n24 = 0)) (
  some (.bool true, h9)) (
  ((h9.cell (h9r.add 6)).bind (AV.asInt .i64)).bind fun n25 =>
  cond (decide (n25 = 1)) (
  ((h9.cell (h9r.add 7)).bind (AV.asInt .i64)).bind fun n26 =>
  cond (decide (n26 ≥ 1)) (
  ((h9.cell (h9r.add 7)).bind (AV.asInt .i64)).bind fun n27 =>
  some (.bool (decide (n27 ≤ 1048576)), h9)) (
  some (.bool false, h9))) (
  some (.bool false, h9)))) (
  ((h9.cell (h9r.add 6)).bind (AV.asInt .i64)).bind fun n28 =>
  cond (decide (n28 = 1)) (
  ((h9.cell (h9r.add 7)).bind (AV.asInt .i64)).bind fun n29 =>
  cond (decide (n29 ≥ 1)) (
  ((h9.cell (h9r.add 7)).bind (AV.asInt .i64)).bind fun n30 =>
  some (.bool (decide (n30 ≤ 1048576)), h9)) (
  some (.bool false, h9))) (
  some (.bool false, h9))))))))))))))) := (go_step _ h).trans (by kernel_rfl)

theorem u_loss_Grad (a1 : Int) (a2 : Int) (a3 : Int) (a4 : Int) (a5 : Int) (a6 : Int) (a7 : Int) (a8 : Int) (a9 : Int) (a10 : Int) (h : AH) : go (.fn F.loss_Grad [.agg [.int .i64 a1, .int .i64 a2, .int .i64 a3, .int .i64 a4, .int .i64 a5, .int .i64 a6, .int .i64 a7, .int .i64 a8], .int .i64 a9, .int .i64 a10]) h =
  newK h (.cells [.int .i64 a1, .int .i64 a2, .int .i64 a3, .int .i64 a4, .int .i64 a5, .int .i64 a6, .int .i64 a7, .int .i64 a8] T.api_Config) fun h11r h11 =>
  ((h11.cell (h11r.add 0)).bind (AV.asInt .i64)).bind fun n12 =>
  ((h11.cell (h11r.add 1)).bind (AV.asInt .i64)).bind fun n13 =>
  ((h11.cell (h11r.add 2)).bind (AV.asInt .i64)).bind fun n14 =>
  ((h11.cell (h11r.add 3)).bind (AV.asInt .i64)).bind fun n15 =>
  ((h11.cell (h11r.add 4)).bind (AV.asInt .i64)).bind fun n16 =>
  ((h11.cell (h11r.add 5)).bind (AV.asInt .i64)).bind fun n17 =>
  ((h11.cell (h11r.add 6)).bind (AV.asInt .i64)).bind fun n18 =>
  ((h11.cell (h11r.add 7)).bind (AV.asInt .i64)).bind fun n19 =>
  (go (.fn F.loss_Right [.agg [.int .i64 n12, .int .i64 n13, .int .i64 n14, .int .i64 n15, .int .i64 n16, .int .i64 n17, .int .i64 n18, .int .i64 n19]]) h11).bind fun q20 =>
  ((some q20.1).bind AV.asBool).bind fun b21 =>
  cond (!b21) (
  some (.tup [.int .i64 0, .int .i64 1], q20.2)) (
  (go (.fn F.loss_within [.int .i64 a9, .int .i64 (-1099511627776), .int .i64 1099511627776]) q20.2).bind fun q22 =>
  ((some q22.1).bind AV.asBool).bind fun b23 =>
  cond (!b23) (
  some (.tup [.int .i64 0, .int .i64 1], q22.2)) (
  (go (.fn F.loss_within [.int .i64 a10, .int .i64 (-1048576), .int .i64 1048576]) q22.2).bind fun q24 =>
  ((some q24.1).bind AV.asBool).bind fun b25 =>
  cond (!b25) (
  some (.tup [.int .i64 0, .int .i64 1], q24.2)) (
  ((q24.2.cell (h11r.add 6)).bind (AV.asInt .i64)).bind fun n26 =>
  cond (decide (n26 = 1)) (
  ((q24.2.cell (h11r.add 7)).bind (AV.asInt .i64)).bind fun n27 =>
  some (.tup [.int .i64 (imin (imax (IntKind.wrap .i64 (a9 - a10)) (IntKind.wrap .i64 (0 - n27))) n27), .int .i64 0], q24.2)) (
  some (.tup [.int .i64 (imin (imax (IntKind.wrap .i64 (a9 - a10)) (IntKind.wrap .i64 (0 - 1048576))) 1048576), .int .i64 0], q24.2))))) := (go_step _ h).trans (by kernel_rfl)

theorem u_ref16_Grad (a1 : Int) (a2 : Int) (a3 : Int) (a4 : Int) (a5 : Int) (a6 : Int) (a7 : Int) (a8 : Int) (a9 : Int) (a10 : Int) (h : AH) : go (.fn F.ref16_Grad [.agg [.int .i64 a1, .int .i64 a2, .int .i64 a3, .int .i64 a4, .int .i64 a5, .int .i64 a6, .int .i64 a7, .int .i64 a8], .int .i64 a9, .int .i64 a10]) h =
  newK h (.cells [.int .i64 a1, .int .i64 a2, .int .i64 a3, .int .i64 a4, .int .i64 a5, .int .i64 a6, .int .i64 a7, .int .i64 a8] T.api_Config) fun h11r h11 =>
  ((h11.cell (h11r.add 0)).bind (AV.asInt .i64)).bind fun n12 =>
  ((h11.cell (h11r.add 1)).bind (AV.asInt .i64)).bind fun n13 =>
  ((h11.cell (h11r.add 2)).bind (AV.asInt .i64)).bind fun n14 =>
  ((h11.cell (h11r.add 3)).bind (AV.asInt .i64)).bind fun n15 =>
  ((h11.cell (h11r.add 4)).bind (AV.asInt .i64)).bind fun n16 =>
  ((h11.cell (h11r.add 5)).bind (AV.asInt .i64)).bind fun n17 =>
  ((h11.cell (h11r.add 6)).bind (AV.asInt .i64)).bind fun n18 =>
  ((h11.cell (h11r.add 7)).bind (AV.asInt .i64)).bind fun n19 =>
  (go (.fn F.ref16_Right [.agg [.int .i64 n12, .int .i64 n13, .int .i64 n14, .int .i64 n15, .int .i64 n16, .int .i64 n17, .int .i64 n18, .int .i64 n19]]) h11).bind fun q20 =>
  ((some q20.1).bind AV.asBool).bind fun b21 =>
  cond (!b21) (
  some (.tup [.int .i64 0, .int .i64 1], q20.2)) (
  cond (decide (a9 < (-1099511627776))) (
  some (.tup [.int .i64 0, .int .i64 1], q20.2)) (
  cond (decide (a9 > 1099511627776)) (
  some (.tup [.int .i64 0, .int .i64 1], q20.2)) (
  cond (decide (a10 < (-1048576))) (
  some (.tup [.int .i64 0, .int .i64 1], q20.2)) (
  cond (decide (a10 > 1048576)) (
  some (.tup [.int .i64 0, .int .i64 1], q20.2)) (
  ((q20.2.cell (h11r.add 6)).bind (AV.asInt .i64)).bind fun n22 =>
  cond (decide (n22 = 1)) (
  ((q20.2.cell (h11r.add 7)).bind (AV.asInt .i64)).bind fun n23 =>
  some (.tup [.int .i64 (imax (IntKind.wrap .i64 (0 - n23)) (imin n23 (IntKind.wrap .i64 (a9 - a10)))), .int .i64 0], q20.2)) (
  some (.tup [.int .i64 (imax (IntKind.wrap .i64 (0 - 1048576)) (imin 1048576 (IntKind.wrap .i64 (a9 - a10)))), .int .i64 0], q20.2))))))) := (go_step _ h).trans (by kernel_rfl)

theorem u_law16_plain  (h : AH) : go (.fn F.law16_plain []) h =
  newK h (.cells [.int .i64 0, .int .i64 0, .int .i64 0, .int .i64 0, .int .i64 0, .int .i64 0, .int .i64 0, .int .i64 0] T.api_Config) fun h1r h1 =>
  (h1.puts h1r [.int .i64 1, .int .i64 1, .int .i64 1, .int .i64 0, .int .i64 1, .int .i64 2, .int .i64 0, .int .i64 0]).bind fun h2 =>
  ((h2.cell (h1r.add 0)).bind (AV.asInt .i64)).bind fun n3 =>
  ((h2.cell (h1r.add 1)).bind (AV.asInt .i64)).bind fun n4 =>
  ((h2.cell (h1r.add 2)).bind (AV.asInt .i64)).bind fun n5 =>
  ((h2.cell (h1r.add 3)).bind (AV.asInt .i64)).bind fun n6 =>
  ((h2.cell (h1r.add 4)).bind (AV.asInt .i64)).bind fun n7 =>
  ((h2.cell (h1r.add 5)).bind (AV.asInt .i64)).bind fun n8 =>
  ((h2.cell (h1r.add 6)).bind (AV.asInt .i64)).bind fun n9 =>
  ((h2.cell (h1r.add 7)).bind (AV.asInt .i64)).bind fun n10 =>
  some (.agg [.int .i64 n3, .int .i64 n4, .int .i64 n5, .int .i64 n6, .int .i64 n7, .int .i64 n8, .int .i64 n9, .int .i64 n10], h2) := (go_step _ h).trans (by kernel_rfl)

theorem u_loss_within (a1 : Int) (a2 : Int) (a3 : Int) (h : AH) : go (.fn F.loss_within [.int .i64 a1, .int .i64 a2, .int .i64 a3]) h =
  cond (decide (a1 ≥ a2)) (
  some (.bool (decide (a1 ≤ a3)), h)) (
  some (.bool false, h)) := (go_step _ h).trans (by kernel_rfl)

end Go.Ab
