/- What each function does, step by step: printed by a program of ours, checked by the kernel. -/
import Derived.Test.YtpmbjekomcldmaaPAbsDra
import Derived.Test.YtpmbjekomcldmaaProg
import Derived.Test.YtpmbjekomcldmaaPAbsP

set_option linter.unusedVariables false
set_option maxRecDepth 100000
namespace Go.Ab
open Go.Proofs

@[reducible] def F.law06_PaillierKeys : FuncId := 3
@[reducible] def F.law06_few : FuncId := 5
@[reducible] def F.law06_awake : FuncId := 6
@[reducible] def F.paillier_Public : FuncId := 7
@[reducible] def F.ref06_Public : FuncId := 8
@[reducible] def F.ref01_Same : FuncId := 9
@[reducible] def F.paillier_May : FuncId := 10
@[reducible] def F.ref06_May : FuncId := 11
@[reducible] def F.paillier_Valid : FuncId := 12
@[reducible] def F.ref06_Valid : FuncId := 13
@[reducible] def F.paillier_Encrypt : FuncId := 14
@[reducible] def F.prime_Check : FuncId := 16
@[reducible] def F.nat_Mul : FuncId := 17
@[reducible] def F.ref05_Check : FuncId := 18
@[reducible] def F.ref01_Mul : FuncId := 19
@[reducible] def F.ref01_Of : FuncId := 20
@[reducible] def F.nat_Bits : FuncId := 21
@[reducible] def F.nat_Right : FuncId := 22
@[reducible] def F.nat_Bit : FuncId := 23
@[reducible] def F.ref01_Right : FuncId := 24
@[reducible] def F.ref01_Bits : FuncId := 25
@[reducible] def F.paillier_alone : FuncId := 26
@[reducible] def F.paillier_square : FuncId := 27
@[reducible] def F.ref06_unit : FuncId := 28
@[reducible] def F.ref06_Square : FuncId := 29
@[reducible] def F.paillier_isPlain : FuncId := 30
@[reducible] def F.paillier_times : FuncId := 31
@[reducible] def F.paillier_shown : FuncId := 32
@[reducible] def F.paillier_power : FuncId := 33
@[reducible] def F.prime_Check_1 : FuncId := 36
@[reducible] def F.prime_least : FuncId := 37
@[reducible] def F.math_bits_Len64 : FuncId := 38
@[reducible] def F.modint_Gcd : FuncId := 39
@[reducible] def F.nat_Cmp : FuncId := 40
@[reducible] def F.nat_right : FuncId := 41
@[reducible] def F.nat_told : FuncId := 42
@[reducible] def F.nat_product : FuncId := 43
@[reducible] def F.ref05_least : FuncId := 44
@[reducible] def F.ref05_bits : FuncId := 45
@[reducible] def F.ref03_Gcd : FuncId := 46
@[reducible] def F.ref01_Small : FuncId := 47
@[reducible] def F.ref01_told : FuncId := 48
@[reducible] def F.ref01_mul : FuncId := 49
@[reducible] def F.ref01_In : FuncId := 50
@[reducible] def F.ref01_Cmp : FuncId := 51
@[reducible] def F.nat_Div : FuncId := 52
@[reducible] def F.nat_Add : FuncId := 53
@[reducible] def F.mont_New : FuncId := 54
@[reducible] def F.mont_Ring_Exp : FuncId := 55
@[reducible] def F.nat_Sub : FuncId := 64
@[reducible] def F.prime_divisors : FuncId := 65
@[reducible] def F.slices_Clone_api_Nat_uint64 : FuncId := 66
@[reducible] def F.nat_compare : FuncId := 67
@[reducible] def F.slices_ContainsFunc_api_Nat_api_Nat : FuncId := 68
@[reducible] def F.nat_right_1 : FuncId := 69
@[reducible] def F.nat_trim : FuncId := 70
@[reducible] def F.nat_product_1 : FuncId := 71
@[reducible] def F.nat_school : FuncId := 72
@[reducible] def F.nat_product_1_1 : FuncId := 73
@[reducible] def F.nat_product_1_2 : FuncId := 74
@[reducible] def F.nat_sum : FuncId := 75
@[reducible] def F.nat_less : FuncId := 76
@[reducible] def F.nat_into : FuncId := 77
@[reducible] def F.ref01_Rest : FuncId := 78
@[reducible] def F.ref01_Out : FuncId := 79
@[reducible] def F.ref01_cut : FuncId := 80
@[reducible] def F.ref01_compare : FuncId := 81
@[reducible] def F.nat_short : FuncId := 82
@[reducible] def F.nat_Of : FuncId := 83
@[reducible] def F.nat_long : FuncId := 84
@[reducible] def F.mont_Ring_rest : FuncId := 85
@[reducible] def F.mont_Ring_below : FuncId := 86
@[reducible] def F.mont_Ring_product : FuncId := 87
@[reducible] def F.prime_divisors_1 : FuncId := 93
@[reducible] def F.slices_IndexFunc_api_Nat_api_Nat : FuncId := 94
@[reducible] def F.math_bits_Mul64 : FuncId := 95
@[reducible] def F.ref01_Div : FuncId := 98
@[reducible] def F.math_bits_Div64 : FuncId := 99
@[reducible] def F.math_bits_LeadingZeros64 : FuncId := 100
@[reducible] def F.nat_up : FuncId := 101
@[reducible] def F.nat_guess : FuncId := 102
@[reducible] def F.mont_Ring_below_1 : FuncId := 103
@[reducible] def F.mont_add : FuncId := 104
@[reducible] def F.mont_trim : FuncId := 105
@[reducible] def F.ref01_div : FuncId := 109
@[reducible] def F.ref01_sub : FuncId := 111
@[reducible] def F.ref01_digit : FuncId := 112
@[reducible] def T.func : TypeId := 1
@[reducible] def T.int : TypeId := 3
@[reducible] def T.bool : TypeId := 4
@[reducible] def T.uint64 : TypeId := 22
@[reducible] def T.api_Key : TypeId := 24
@[reducible] def T.api_Nat : TypeId := 26
@[reducible] def T.func_api_Nat_api_Nat_api_Nat : TypeId := 46
@[reducible] def T.P_mont_Ring : TypeId := 62
@[reducible] def T.api_Int : TypeId := 66
@[reducible] def T.mont_Ring : TypeId := 87
@[reducible] noncomputable def Pg : Program := Try.prog
def keepTab : List (Nat × Nat × List Nat) := [(5, 2, [0, 3]), (8, 1000004, [0, 1, 3, 4, 2, 5, 6, 7, 8, 9, 10]), (9, 4, [0, 1, 5]), (15, 1000006, [0, 1, 2, 3, 5, 6, 7, 8, 9, 10, 11, 13, 14, 15, 4, 12, 16, 17, 18, 19, 20]), (15, 2000006, [7, 15]), (15, 3000006, [5, 6, 13, 14]), (16, 1000002, [0, 1, 2, 3, 4, 5, 6, 7, 8, 9, 10, 11, 12, 13, 14, 15, 16, 17, 18, 19, 21, 22, 20, 23, 24, 25]), (18, 1000001, [0, 1, 2, 3, 4, 5, 6, 7, 8, 9, 10, 11, 12, 13, 14, 15, 16, 17, 18, 19, 20, 22, 23, 21, 24, 25, 26, 27, 28, 30, 31, 29, 32, 33, 34, 35, 36, 37, 38, 39, 40, 41, 42, 43, 45, 46, 44, 47, 48, 49]), (18, 1000003, [0, 1, 3, 4, 2, 5, 6, 7, 8, 9, 10, 11]), (18, 1000004, [0, 1, 2, 4, 5, 6, 3, 7, 8, 9, 10, 11, 12, 13]), (25, 6, [0, 4, 5]), (34, 1000009, [0, 1, 7, 2, 3, 4, 5, 6, 8, 9]), (34, 1000010, [0, 1, 8, 9, 2, 3, 4, 5, 6, 7, 10, 11, 12]), (34, 2000009, [7]), (34, 2000010, [8, 9]), (35, 1000004, [0, 1, 5, 2, 3, 4, 6, 7, 8, 9, 10, 11]), (39, 4, [0, 1]), (44, 2, [0, 3]), (46, 7, [8, 9]), (49, 3, [0, 1, 5, 6]), (49, 7, [0, 1, 5, 6, 7, 8]), (50, 3, [0, 3, 4]), (50, 7, [0, 3, 4, 5, 6]), (54, 5, [0, 4, 40]), (55, 7, [0, 2, 8, 9, 10, 44]), (55, 12, [2, 8, 9, 11, 12]), (55, 16, [2, 8, 9, 11, 12, 13, 72]), (58, 7, [1, 7, 9, 10, 12]), (58, 1000011, [0, 1, 8, 9, 2, 3, 4, 5, 6, 7, 10, 11, 12]), (58, 2000011, [8, 9]), (67, 6, [0, 1, 5]), (70, 2, [0, 3]), (71, 1000006, [0, 1, 2, 4, 5, 8, 9, 10, 12, 13, 3, 6, 7, 11, 14, 15, 16, 17]), (71, 1000007, [0, 1, 2, 4, 5, 9, 10, 12, 13, 3, 6, 7, 8, 11, 14, 15, 16, 17, 18]), (72, 3, [1, 5, 20, 21, 22]), (72, 7, [1, 5, 6, 7, 8, 20, 21, 22, 27, 28, 29]), (75, 6, [0, 1, 5, 6, 21, 22]), (76, 4, [0, 1, 5, 6, 13, 14]), (77, 2, [0, 1, 2, 6, 7]), (79, 3, [0, 4, 5]), (79, 7, [0, 4, 5, 6, 7]), (80, 2, [0, 3]), (81, 6, [0, 1, 5]), (82, 4, [0, 1, 6, 7, 8]), (84, 6, [6, 7, 8, 9, 10, 11]), (84, 10, [6, 7, 8, 9, 10, 11, 12, 13]), (84, 18, [6, 10, 15, 16, 112, 113]), (87, 4, [0, 1, 2, 7, 8, 20, 21]), (89, 1000001, [0, 2, 7, 1, 3, 4, 5, 6, 8, 9]), (89, 2000001, [7]), (93, 1, [0, 1, 6, 7, 8]), (93, 6, [0, 1, 5]), (94, 2, [0, 1, 7, 8]), (99, 3, [0, 1, 2]), (99, 17, [2, 8, 9, 10, 11, 13, 14, 15, 16]), (99, 24, [2, 8, 9, 10, 14, 15, 16, 17, 18]), (101, 3, [1, 5, 12, 13, 14]), (102, 4, [2, 3, 4, 11, 12]), (104, 2, [0, 1, 2, 6, 12, 13]), (105, 2, [0, 3]), (109, 4, [0, 1, 6, 7, 8]), (109, 9, [0, 1, 6, 7, 8, 9, 10]), (110, 2, [0, 1, 7, 8]), (111, 4, [0, 1, 5, 6, 7]), (111, 1000006, [0, 1, 2, 3, 4, 5, 6, 9, 7, 8, 10, 11])]
noncomputable def go : Rec := run Pg (keepOf keepTab)
theorem go_step (k : Key) (h : AH) : go k h = stepA Pg (keepOf keepTab) go k h := run_unfold _ k h
theorem und_uint64 : Pg.underlying T.uint64 = some (.int .u64) := Try.underlying22
theorem cells_uint64 : Pg.cellsOf T.uint64 = 1 := by kernel_rfl
theorem zero_uint64 : zeroCells? Pg T.uint64 = some [.int .u64 0] := by kernel_rfl
theorem bytes_uint64 : Pg.bytesOf T.uint64 = 8 := by kernel_rfl
theorem und_api_Key : Pg.underlying T.api_Key = some (.struct #[{ name := "P", type := T.uint64, offset := 0, embedded := false, tag := "", pkgPath := "", byteOffset := 0 }, { name := "Q", type := T.uint64, offset := 1, embedded := false, tag := "", pkgPath := "", byteOffset := 8 }]) := Try.underlying24
theorem cells_api_Key : Pg.cellsOf T.api_Key = 2 := by kernel_rfl
theorem und_api_Nat : Pg.underlying T.api_Nat = some (.slice T.uint64) := Try.underlying26
theorem cells_api_Nat : Pg.cellsOf T.api_Nat = 1 := by kernel_rfl
theorem zero_api_Nat : zeroCells? Pg T.api_Nat = some [(⟨none, 0, .is 0⟩ : Sl).v] := by kernel_rfl
theorem bytes_api_Nat : Pg.bytesOf T.api_Nat = 24 := by kernel_rfl
noncomputable def Td.law06_few_2 : List Item := todoAt Try.f5 2
noncomputable def Td.ref01_Same_4 : List Item := todoAt Try.f9 4
noncomputable def Td.ref01_Bits_6 : List Item := todoAt Try.f25 6
noncomputable def Td.modint_Gcd_4 : List Item := todoAt Try.f39 4
noncomputable def Td.ref05_least_2 : List Item := todoAt Try.f44 2
noncomputable def Td.ref03_Gcd_7 : List Item := todoAt Try.f46 7
noncomputable def Td.ref01_mul_3 : List Item := todoAt Try.f49 3
noncomputable def Td.ref01_mul_7 : List Item := todoAt Try.f49 7
noncomputable def Td.ref01_In_3 : List Item := todoAt Try.f50 3
noncomputable def Td.ref01_In_7 : List Item := todoAt Try.f50 7
noncomputable def Td.mont_New_5 : List Item := todoAt Try.f54 5
noncomputable def Td.mont_Ring_Exp_7 : List Item := todoAt Try.f55 7
noncomputable def Td.mont_Ring_Exp_12 : List Item := todoAt Try.f55 12
noncomputable def Td.mont_Ring_Exp_16 : List Item := todoAt Try.f55 16
noncomputable def Td.nat_compare_6 : List Item := todoAt Try.f67 6
noncomputable def Td.nat_trim_2 : List Item := todoAt Try.f70 2
noncomputable def Td.nat_school_3 : List Item := todoAt Try.f72 3
noncomputable def Td.nat_school_7 : List Item := todoAt Try.f72 7
noncomputable def Td.nat_sum_6 : List Item := todoAt Try.f75 6
noncomputable def Td.nat_less_4 : List Item := todoAt Try.f76 4
noncomputable def Td.nat_into_2 : List Item := todoAt Try.f77 2
noncomputable def Td.ref01_Out_3 : List Item := todoAt Try.f79 3
noncomputable def Td.ref01_Out_7 : List Item := todoAt Try.f79 7
noncomputable def Td.ref01_cut_2 : List Item := todoAt Try.f80 2
noncomputable def Td.ref01_compare_6 : List Item := todoAt Try.f81 6
noncomputable def Td.nat_short_4 : List Item := todoAt Try.f82 4
noncomputable def Td.nat_long_6 : List Item := todoAt Try.f84 6
noncomputable def Td.nat_long_10 : List Item := todoAt Try.f84 10
noncomputable def Td.nat_long_18 : List Item := todoAt Try.f84 18
noncomputable def Td.mont_Ring_product_4 : List Item := todoAt Try.f87 4
noncomputable def Td.prime_divisors_1_1 : List Item := todoAt Try.f93 1
noncomputable def Td.prime_divisors_1_6 : List Item := todoAt Try.f93 6
noncomputable def Td.slices_IndexFunc_api_Nat_api_Nat_2 : List Item := todoAt Try.f94 2
noncomputable def Td.math_bits_Div64_3 : List Item := todoAt Try.f99 3
noncomputable def Td.math_bits_Div64_17 : List Item := todoAt Try.f99 17
noncomputable def Td.math_bits_Div64_24 : List Item := todoAt Try.f99 24
noncomputable def Td.nat_up_3 : List Item := todoAt Try.f101 3
noncomputable def Td.nat_guess_4 : List Item := todoAt Try.f102 4
noncomputable def Td.mont_add_2 : List Item := todoAt Try.f104 2
noncomputable def Td.mont_trim_2 : List Item := todoAt Try.f105 2
noncomputable def Td.ref01_div_4 : List Item := todoAt Try.f109 4
noncomputable def Td.ref01_div_9 : List Item := todoAt Try.f109 9
noncomputable def Td.ref01_sub_4 : List Item := todoAt Try.f111 4
noncomputable def Tr.prime_least_0 : List Item := loopTodo Try.f37 0 (.tmp 5)
noncomputable def Ta.prime_least_0 : List Item := (loopAt Try.f37 0).2.2.2
def lit1 : ByteArray := (⟨((List.append (List.append ([0, 1, 2, 2, 3, 3, 3, 3, 4, 4, 4, 4, 4, 4, 4, 4, 5, 5, 5, 5, 5, 5, 5, 5, 5, 5, 5, 5, 5, 5, 5, 5, 6, 6, 6, 6, 6, 6, 6, 6, 6, 6, 6, 6, 6, 6, 6, 6, 6, 6, 6, 6, 6, 6, 6, 6, 6, 6, 6, 6, 6, 6, 6, 6] : List UInt8) ([7, 7, 7, 7, 7, 7, 7, 7, 7, 7, 7, 7, 7, 7, 7, 7, 7, 7, 7, 7, 7, 7, 7, 7, 7, 7, 7, 7, 7, 7, 7, 7, 7, 7, 7, 7, 7, 7, 7, 7, 7, 7, 7, 7, 7, 7, 7, 7, 7, 7, 7, 7, 7, 7, 7, 7, 7, 7, 7, 7, 7, 7, 7, 7] : List UInt8)) (List.append ([8, 8, 8, 8, 8, 8, 8, 8, 8, 8, 8, 8, 8, 8, 8, 8, 8, 8, 8, 8, 8, 8, 8, 8, 8, 8, 8, 8, 8, 8, 8, 8, 8, 8, 8, 8, 8, 8, 8, 8, 8, 8, 8, 8, 8, 8, 8, 8, 8, 8, 8, 8, 8, 8, 8, 8, 8, 8, 8, 8, 8, 8, 8, 8] : List UInt8) ([8, 8, 8, 8, 8, 8, 8, 8, 8, 8, 8, 8, 8, 8, 8, 8, 8, 8, 8, 8, 8, 8, 8, 8, 8, 8, 8, 8, 8, 8, 8, 8, 8, 8, 8, 8, 8, 8, 8, 8, 8, 8, 8, 8, 8, 8, 8, 8, 8, 8, 8, 8, 8, 8, 8, 8, 8, 8, 8, 8, 8, 8, 8, 8] : List UInt8)))).toArray⟩ : ByteArray)

theorem callF_prime_divisors_1 (args : List AV) (h : AH) : callF Pg go F.prime_divisors_1 args h = go (.fn F.prime_divisors_1 args) h := by kernel_rfl
theorem u_law06_PaillierKeys (a1 : Int) (a2 : Int) (a3 : Sl) (a4 : Sl) (h : AH) : go (.fn F.law06_PaillierKeys [.agg [.int .u64 a1, .int .u64 a2], a3.v, a4.v]) h =
  newK h (.cells [.int .u64 a1, .int .u64 a2] T.api_Key) fun h5r h5 =>
  newK h5 (.cells [a3.v, a4.v] T.api_Nat) fun h6r h6 =>
  (go (.fn F.law06_few [(⟨some h6r, 2, .is 2⟩ : Sl).v]) h6).bind fun q7 =>
  ((some q7.1).bind AV.asBool).bind fun b8 =>
  cond (!b8) (
  some (.bool true, q7.2)) (
  (go (.fn F.law06_awake []) q7.2).bind fun q9 =>
  ((some q9.1).bind AV.asBool).bind fun b10 =>
  ((q9.2.cell (h5r.add 0)).bind (AV.asInt .u64)).bind fun n11 =>
  ((q9.2.cell (h5r.add 1)).bind (AV.asInt .u64)).bind fun n12 =>
  (go (.fn F.paillier_Public [.agg [.int .u64 n11, .int .u64 n12]]) q9.2).bind fun q13 =>
  (AV.asTup2 q13.1).bind fun p14 =>
  ((some p14.1).bind AV.asSl).bind fun l15 =>
  ((some p14.2).bind (AV.asInt .i64)).bind fun n16 =>
  ((q13.2.cell (h5r.add 0)).bind (AV.asInt .u64)).bind fun n17 =>
  ((q13.2.cell (h5r.add 1)).bind (AV.asInt .u64)).bind fun n18 =>
  (go (.fn F.ref06_Public [.agg [.int .u64 n17, .int .u64 n18]]) q13.2).bind fun q19 =>
  (AV.asTup2 q19.1).bind fun p20 =>
  ((some p20.1).bind AV.asSl).bind fun l21 =>
  ((some p20.2).bind (AV.asInt .i64)).bind fun n22 =>
  (go (.fn F.ref01_Same [l15.v, l21.v]) q19.2).bind fun q23 =>
  ((some q23.1).bind AV.asBool).bind fun b24 =>
  cond b10 (
  cond b24 (
  cond (decide (n16 = n22)) (
  (go (.fn F.paillier_May [a3.v]) q23.2).bind fun q25 =>
  ((some q25.1).bind AV.asBool).bind fun b26 =>
  (go (.fn F.ref06_May [a3.v]) q25.2).bind fun q27 =>
  ((some q27.1).bind AV.asBool).bind fun b28 =>
  cond (b26 == b28) (
  (go (.fn F.paillier_Valid [a3.v, a4.v]) q27.2).bind fun q29 =>
  ((some q29.1).bind AV.asBool).bind fun b30 =>
  (go (.fn F.ref06_Valid [a3.v, a4.v]) q29.2).bind fun q31 =>
  ((some q31.1).bind AV.asBool).bind fun b32 =>
  some (.bool (b30 == b32), q31.2)) (
  some (.bool false, q27.2))) (
  some (.bool false, q23.2))) (
  some (.bool false, q23.2))) (
  some (.bool false, q23.2))) := (go_step _ h).trans (by kernel_rfl)

theorem u_nat_product_1 (a1 : Sl) (a2 : Sl) (a3 : Ref) (h : AH) : go (.fn F.nat_product_1 [a1.v, a2.v, .ptr (some a3)]) h =
  cond (decide ((a1.len : Int) < 24)) (
  (go (.fn F.nat_school [a1.v, a2.v]) h).bind fun q4 =>
  ((some q4.1).bind AV.asSl).bind fun l5 =>
  some (l5.v, q4.2)) (
  cond (decide ((a2.len : Int) < 24)) (
  (go (.fn F.nat_school [a1.v, a2.v]) h).bind fun q6 =>
  ((some q6.1).bind AV.asSl).bind fun l7 =>
  some (l7.v, q6.2)) (
  newK h (.cells [.int .i64 0] T.int) fun h8r h8 =>
  (h8.puts h8r [.int .i64 (IntKind.wrap .i64 (Int.tdiv (IntKind.wrap .i64 ((imax (a1.len : Int) (a2.len : Int)) + 1)) 2))]).bind fun h9 =>
  (h9.cell a3).bind fun v10 =>
  (h9.cell a3).bind fun v11 =>
  (go (.fn F.nat_product_1_1 [a1.v, .ptr (some h8r)]) h9).bind fun q12 =>
  ((some q12.1).bind AV.asSl).bind fun l13 =>
  whenK (SameAt h9 q12.2 a3 1) (
  whenK (SameAt h9 q12.2 a3 1) (
  (go (.fn F.nat_product_1_1 [a2.v, .ptr (some h8r)]) q12.2).bind fun q14 =>
  ((some q14.1).bind AV.asSl).bind fun l15 =>
  whenK (SameAt q12.2 q14.2 a3 1) (
  whenK (SameAt q12.2 q14.2 a3 1) (
  (callV Pg go v10 [l13.v, l15.v] q14.2).bind fun q16 =>
  ((some q16.1).bind AV.asSl).bind fun l17 =>
  whenK (SameAt q14.2 q16.2 a3 1) (
  (go (.fn F.nat_product_1_2 [a1.v, .ptr (some h8r)]) q16.2).bind fun q18 =>
  ((some q18.1).bind AV.asSl).bind fun l19 =>
  whenK (SameAt q16.2 q18.2 a3 1) (
  (go (.fn F.nat_product_1_2 [a2.v, .ptr (some h8r)]) q18.2).bind fun q20 =>
  ((some q20.1).bind AV.asSl).bind fun l21 =>
  whenK (SameAt q18.2 q20.2 a3 1) (
  (callV Pg go v11 [l19.v, l21.v] q20.2).bind fun q22 =>
  ((some q22.1).bind AV.asSl).bind fun l23 =>
  (q22.2.cell a3).bind fun v24 =>
  (go (.fn F.nat_product_1_1 [a1.v, .ptr (some h8r)]) q22.2).bind fun q25 =>
  ((some q25.1).bind AV.asSl).bind fun l26 =>
  whenK (SameAt q22.2 q25.2 a3 1) (
  (go (.fn F.nat_product_1_2 [a1.v, .ptr (some h8r)]) q25.2).bind fun q27 =>
  ((some q27.1).bind AV.asSl).bind fun l28 =>
  whenK (SameAt q25.2 q27.2 a3 1) (
  (go (.fn F.nat_sum [l26.v, l28.v]) q27.2).bind fun q29 =>
  ((some q29.1).bind AV.asSl).bind fun l30 =>
  whenK (SameAt q27.2 q29.2 a3 1) (
  (go (.fn F.nat_trim [l30.v]) q29.2).bind fun q31 =>
  ((some q31.1).bind AV.asSl).bind fun l32 =>
  whenK (SameAt q29.2 q31.2 a3 1) (
  (go (.fn F.nat_product_1_1 [a2.v, .ptr (some h8r)]) q31.2).bind fun q33 =>
  ((some q33.1).bind AV.asSl).bind fun l34 =>
  whenK (SameAt q31.2 q33.2 a3 1) (
  (go (.fn F.nat_product_1_2 [a2.v, .ptr (some h8r)]) q33.2).bind fun q35 =>
  ((some q35.1).bind AV.asSl).bind fun l36 =>
  whenK (SameAt q33.2 q35.2 a3 1) (
  (go (.fn F.nat_sum [l34.v, l36.v]) q35.2).bind fun q37 =>
  ((some q37.1).bind AV.asSl).bind fun l38 =>
  whenK (SameAt q35.2 q37.2 a3 1) (
  (go (.fn F.nat_trim [l38.v]) q37.2).bind fun q39 =>
  ((some q39.1).bind AV.asSl).bind fun l40 =>
  whenK (SameAt q37.2 q39.2 a3 1) (
  (callV Pg go v24 [l32.v, l40.v] q39.2).bind fun q41 =>
  ((some q41.1).bind AV.asSl).bind fun l42 =>
  (go (.fn F.nat_less [l42.v, l17.v]) q41.2).bind fun q43 =>
  ((some q43.1).bind AV.asSl).bind fun l44 =>
  (go (.fn F.nat_trim [l44.v]) q43.2).bind fun q45 =>
  ((some q45.1).bind AV.asSl).bind fun l46 =>
  (go (.fn F.nat_less [l46.v, l23.v]) q45.2).bind fun q47 =>
  ((some q47.1).bind AV.asSl).bind fun l48 =>
  (go (.fn F.nat_trim [l48.v]) q47.2).bind fun q49 =>
  ((some q49.1).bind AV.asSl).bind fun l50 =>
  (makeSliceH (IntKind.wrap .i64 ((IntKind.wrap .i64 ((a1.len : Int) + (a2.len : Int))) + 1)) (IntKind.wrap .i64 ((IntKind.wrap .i64 ((a1.len : Int) + (a2.len : Int))) + 1)) T.uint64 (Pg.bytesOf T.uint64) [.int .u64 0] q49.2).bind fun q51 =>
  (copyH l17 q51.1 1 q51.2).bind fun h52 =>
  ((h52.cell h8r).bind (AV.asInt .i64)).bind fun n53 =>
  (go (.fn F.nat_into [q51.1.v, l50.v, .int .i64 n53]) h52).bind fun q54 =>
  (AV.asTup0 q54.1).bind fun _ =>
  ((q54.2.cell h8r).bind (AV.asInt .i64)).bind fun n55 =>
  (go (.fn F.nat_into [q51.1.v, l23.v, .int .i64 (IntKind.wrap .i64 (2 * n55))]) q54.2).bind fun q56 =>
  (AV.asTup0 q56.1).bind fun _ =>
  (go (.fn F.nat_trim [q51.1.v]) q56.2).bind fun q57 =>
  ((some q57.1).bind AV.asSl).bind fun l58 =>
  some (l58.v, q57.2)))))))))))))))))) := (go_step _ h).trans (by kernel_rfl)

theorem u_prime_divisors_1 (a1 : Nat) (a2 : Ref) (h : AH) : go (.fn F.prime_divisors_1 [.func (.yield a1) [] [], .ptr (some a2)]) h =
  newK h (.cells [.int .u64 2, .int .u64 3] T.uint64) fun h3r h3 =>
  go (.pt F.prime_divisors_1 Td.prime_divisors_1_1 [(0, .func (.yield a1) [] []), (1, .ptr (some a2)), (6, (⟨some h3r, 2, .is 2⟩ : Sl).v), (7, .int .i64 2), (8, .int .i64 0)]) h3 := (go_step _ h).trans (by kernel_rfl)

theorem u_law06_few (a1 : Sl) (h : AH) : go (.fn F.law06_few [a1.v]) h =
  go (.pt F.law06_few Td.law06_few_2 [(0, a1.v), (3, .int .i64 0)]) h := (go_step _ h).trans (by kernel_rfl)

theorem u_law06_awake  (h : AH) : go (.fn F.law06_awake []) h =
  newK h (.cells [.int .u64 17947] T.uint64) fun h1r h1 =>
  newK h1 (.cells [.int .u64 5] T.uint64) fun h2r h2 =>
  newK h2 (.cells [.int .u64 1] T.uint64) fun h3r h3 =>
  (go (.fn F.paillier_Encrypt [(⟨some h1r, 1, .is 1⟩ : Sl).v, (⟨some h2r, 1, .is 1⟩ : Sl).v, (⟨some h3r, 1, .is 1⟩ : Sl).v]) h3).bind fun q4 =>
  (AV.asTup2 q4.1).bind fun p5 =>
  ((some p5.1).bind AV.asSl).bind fun l6 =>
  ((some p5.2).bind (AV.asInt .i64)).bind fun n7 =>
  cond (decide (n7 = 0)) (
  cond (decide ((l6.len : Int) = 1)) (
  (idx l6.ref l6.len 0 1).bind fun r8 =>
  ((q4.2.cell r8).bind (AV.asInt .u64)).bind fun n9 =>
  some (.bool (decide (n9 = 89736)), q4.2)) (
  some (.bool false, q4.2))) (
  some (.bool false, q4.2)) := (go_step _ h).trans (by kernel_rfl)

theorem u_paillier_Public (a1 : Int) (a2 : Int) (h : AH) : go (.fn F.paillier_Public [.agg [.int .u64 a1, .int .u64 a2]]) h =
  newK h (.cells [.int .u64 a1, .int .u64 a2] T.api_Key) fun h3r h3 =>
  ((h3.cell (h3r.add 0)).bind (AV.asInt .u64)).bind fun n4 =>
  ((h3.cell (h3r.add 1)).bind (AV.asInt .u64)).bind fun n5 =>
  (go (.fn F.prime_Check [.agg [.int .u64 n4, .int .u64 n5]]) h3).bind fun q6 =>
  ((some q6.1).bind (AV.asInt .i64)).bind fun n7 =>
  cond (!decide (n7 = 0)) (
  some (.tup [(⟨none, 0, .is 0⟩ : Sl).v, .int .i64 n7], q6.2)) (
  ((q6.2.cell (h3r.add 0)).bind (AV.asInt .u64)).bind fun n8 =>
  newK q6.2 (.cells [.int .u64 n8] T.uint64) fun h9r h9 =>
  ((h9.cell (h3r.add 1)).bind (AV.asInt .u64)).bind fun n10 =>
  newK h9 (.cells [.int .u64 n10] T.uint64) fun h11r h11 =>
  (go (.fn F.nat_Mul [(⟨some h9r, 1, .is 1⟩ : Sl).v, (⟨some h11r, 1, .is 1⟩ : Sl).v]) h11).bind fun q12 =>
  (AV.asTup2 q12.1).bind fun p13 =>
  ((some p13.1).bind AV.asSl).bind fun l14 =>
  ((some p13.2).bind (AV.asInt .i64)).bind fun n15 =>
  some (.tup [l14.v, .int .i64 n15], q12.2)) := (go_step _ h).trans (by kernel_rfl)

theorem u_ref06_Public (a1 : Int) (a2 : Int) (h : AH) : go (.fn F.ref06_Public [.agg [.int .u64 a1, .int .u64 a2]]) h =
  newK h (.cells [.int .u64 a1, .int .u64 a2] T.api_Key) fun h3r h3 =>
  ((h3.cell (h3r.add 0)).bind (AV.asInt .u64)).bind fun n4 =>
  ((h3.cell (h3r.add 1)).bind (AV.asInt .u64)).bind fun n5 =>
  (go (.fn F.ref05_Check [.agg [.int .u64 n4, .int .u64 n5]]) h3).bind fun q6 =>
  ((some q6.1).bind (AV.asInt .i64)).bind fun n7 =>
  cond (!decide (n7 = 0)) (
  some (.tup [(⟨none, 0, .is 0⟩ : Sl).v, .int .i64 n7], q6.2)) (
  ((q6.2.cell (h3r.add 0)).bind (AV.asInt .u64)).bind fun n8 =>
  ((q6.2.cell (h3r.add 1)).bind (AV.asInt .u64)).bind fun n9 =>
  (go (.fn F.ref01_Of [.int .u64 n8]) q6.2).bind fun q10 =>
  ((some q10.1).bind AV.asSl).bind fun l11 =>
  whenK (SameAt q6.2 q10.2 (h3r.add 1) 1) (
  (go (.fn F.ref01_Of [.int .u64 n9]) q10.2).bind fun q12 =>
  ((some q12.1).bind AV.asSl).bind fun l13 =>
  (go (.fn F.ref01_Mul [l11.v, l13.v]) q12.2).bind fun q14 =>
  (AV.asTup2 q14.1).bind fun p15 =>
  ((some p15.1).bind AV.asSl).bind fun l16 =>
  ((some p15.2).bind (AV.asInt .i64)).bind fun n17 =>
  some (.tup [l16.v, .int .i64 n17], q14.2))) := (go_step _ h).trans (by kernel_rfl)

theorem u_ref01_Same (a1 : Sl) (a2 : Sl) (h : AH) : go (.fn F.ref01_Same [a1.v, a2.v]) h =
  cond (!decide ((a1.len : Int) = (a2.len : Int))) (
  some (.bool false, h)) (
  go (.pt F.ref01_Same Td.ref01_Same_4 [(0, a1.v), (1, a2.v), (5, .int .i64 0)]) h) := (go_step _ h).trans (by kernel_rfl)

theorem u_paillier_May (a1 : Sl) (h : AH) : go (.fn F.paillier_May [a1.v]) h =
  (go (.fn F.nat_Bits [a1.v]) h).bind fun q2 =>
  ((some q2.1).bind (AV.asInt .i64)).bind fun n3 =>
  (go (.fn F.nat_Right [a1.v]) q2.2).bind fun q4 =>
  ((some q4.1).bind AV.asBool).bind fun b5 =>
  cond b5 (
  (go (.fn F.nat_Bit [a1.v, .int .i64 0]) q4.2).bind fun q6 =>
  ((some q6.1).bind AV.asBool).bind fun b7 =>
  cond b7 (
  cond (decide (n3 ≥ 15)) (
  some (.bool (decide (n3 ≤ 80)), q6.2)) (
  some (.bool false, q6.2))) (
  some (.bool false, q6.2))) (
  some (.bool false, q4.2)) := (go_step _ h).trans (by kernel_rfl)

theorem u_ref06_May (a1 : Sl) (h : AH) : go (.fn F.ref06_May [a1.v]) h =
  (go (.fn F.ref01_Right [a1.v]) h).bind fun q2 =>
  ((some q2.1).bind AV.asBool).bind fun b3 =>
  (go (.fn F.ref01_Bits [a1.v]) q2.2).bind fun q4 =>
  ((some q4.1).bind (AV.asInt .i64)).bind fun n5 =>
  cond b3 (
  cond (decide ((a1.len : Int) > 0)) (
  (idx a1.ref a1.len 0 1).bind fun r6 =>
  ((q4.2.cell r6).bind (AV.asInt .u64)).bind fun n7 =>
  cond (decide ((Int.tmod n7 2) = 1)) (
  cond (decide (n5 ≥ 15)) (
  some (.bool (decide (n5 ≤ 80)), q4.2)) (
  some (.bool false, q4.2))) (
  some (.bool false, q4.2))) (
  some (.bool false, q4.2))) (
  some (.bool false, q4.2)) := (go_step _ h).trans (by kernel_rfl)

theorem u_paillier_Valid (a1 : Sl) (a2 : Sl) (h : AH) : go (.fn F.paillier_Valid [a1.v, a2.v]) h =
  (go (.fn F.paillier_May [a1.v]) h).bind fun q3 =>
  ((some q3.1).bind AV.asBool).bind fun b4 =>
  cond b4 (
  (go (.fn F.paillier_square [a1.v]) q3.2).bind fun q5 =>
  ((some q5.1).bind AV.asSl).bind fun l6 =>
  (go (.fn F.paillier_alone [a2.v, a1.v, l6.v]) q5.2).bind fun q7 =>
  ((some q7.1).bind AV.asBool).bind fun b8 =>
  some (.bool b8, q7.2)) (
  some (.bool false, q3.2)) := (go_step _ h).trans (by kernel_rfl)

theorem u_ref06_Valid (a1 : Sl) (a2 : Sl) (h : AH) : go (.fn F.ref06_Valid [a1.v, a2.v]) h =
  (go (.fn F.ref06_May [a1.v]) h).bind fun q3 =>
  ((some q3.1).bind AV.asBool).bind fun b4 =>
  cond b4 (
  (go (.fn F.ref06_Square [a1.v]) q3.2).bind fun q5 =>
  ((some q5.1).bind AV.asSl).bind fun l6 =>
  (go (.fn F.ref06_unit [a2.v, a1.v, l6.v]) q5.2).bind fun q7 =>
  ((some q7.1).bind AV.asBool).bind fun b8 =>
  some (.bool b8, q7.2)) (
  some (.bool false, q3.2)) := (go_step _ h).trans (by kernel_rfl)

theorem u_paillier_Encrypt (a1 : Sl) (a2 : Sl) (a3 : Sl) (h : AH) : go (.fn F.paillier_Encrypt [a1.v, a2.v, a3.v]) h =
  (go (.fn F.paillier_May [a1.v]) h).bind fun q4 =>
  ((some q4.1).bind AV.asBool).bind fun b5 =>
  cond (!b5) (
  some (.tup [(⟨none, 0, .is 0⟩ : Sl).v, .int .i64 1], q4.2)) (
  (go (.fn F.paillier_isPlain [a1.v, a2.v]) q4.2).bind fun q6 =>
  ((some q6.1).bind AV.asBool).bind fun b7 =>
  cond (!b7) (
  some (.tup [(⟨none, 0, .is 0⟩ : Sl).v, .int .i64 10], q6.2)) (
  (go (.fn F.paillier_alone [a3.v, a1.v, a1.v]) q6.2).bind fun q8 =>
  ((some q8.1).bind AV.asBool).bind fun b9 =>
  cond (!b9) (
  some (.tup [(⟨none, 0, .is 0⟩ : Sl).v, .int .i64 1], q8.2)) (
  (go (.fn F.paillier_shown [a1.v, a2.v]) q8.2).bind fun q10 =>
  ((some q10.1).bind AV.asSl).bind fun l11 =>
  (go (.fn F.paillier_power [a1.v, a3.v, a1.v]) q10.2).bind fun q12 =>
  ((some q12.1).bind AV.asSl).bind fun l13 =>
  (go (.fn F.paillier_times [a1.v, l11.v, l13.v]) q12.2).bind fun q14 =>
  ((some q14.1).bind AV.asSl).bind fun l15 =>
  some (.tup [l15.v, .int .i64 0], q14.2)))) := (go_step _ h).trans (by kernel_rfl)

theorem u_nat_school (a1 : Sl) (a2 : Sl) (h : AH) : go (.fn F.nat_school [a1.v, a2.v]) h =
  (makeSliceH (IntKind.wrap .i64 ((a1.len : Int) + (a2.len : Int))) (IntKind.wrap .i64 ((a1.len : Int) + (a2.len : Int))) T.uint64 (Pg.bytesOf T.uint64) [.int .u64 0] h).bind fun q3 =>
  go (.pt F.nat_school Td.nat_school_3 [(1, a2.v), (5, q3.1.v), (20, a1.v), (21, .int .i64 (a1.len : Int)), (22, .int .i64 0)]) q3.2 := (go_step _ h).trans (by kernel_rfl)

theorem u_nat_product_1_1 (a1 : Sl) (a2 : Ref) (h : AH) : go (.fn F.nat_product_1_1 [a1.v, .ptr (some a2)]) h =
  ((h.cell a2).bind (AV.asInt .i64)).bind fun n3 =>
  (cutSl a1 0 (imin n3 (a1.len : Int)) 1).bind fun l4 =>
  (go (.fn F.nat_trim [l4.v]) h).bind fun q5 =>
  ((some q5.1).bind AV.asSl).bind fun l6 =>
  some (l6.v, q5.2) := (go_step _ h).trans (by kernel_rfl)

theorem u_nat_product_1_2 (a1 : Sl) (a2 : Ref) (h : AH) : go (.fn F.nat_product_1_2 [a1.v, .ptr (some a2)]) h =
  ((h.cell a2).bind (AV.asInt .i64)).bind fun n3 =>
  (cutSl a1 (imin n3 (a1.len : Int)) (a1.len : Int) 1).bind fun l4 =>
  some (l4.v, h) := (go_step _ h).trans (by kernel_rfl)

theorem u_nat_sum (a1 : Sl) (a2 : Sl) (h : AH) : go (.fn F.nat_sum [a1.v, a2.v]) h =
  cond (decide ((a1.len : Int) < (a2.len : Int))) (
  (makeSliceH (IntKind.wrap .i64 ((a2.len : Int) + 1)) (IntKind.wrap .i64 ((a2.len : Int) + 1)) T.uint64 (Pg.bytesOf T.uint64) [.int .u64 0] h).bind fun q3 =>
  go (.pt F.nat_sum Td.nat_sum_6 [(0, a2.v), (1, a1.v), (5, q3.1.v), (6, .int .u64 0), (21, .int .i64 (a2.len : Int)), (22, .int .i64 0)]) q3.2) (
  (makeSliceH (IntKind.wrap .i64 ((a1.len : Int) + 1)) (IntKind.wrap .i64 ((a1.len : Int) + 1)) T.uint64 (Pg.bytesOf T.uint64) [.int .u64 0] h).bind fun q4 =>
  go (.pt F.nat_sum Td.nat_sum_6 [(0, a1.v), (1, a2.v), (5, q4.1.v), (6, .int .u64 0), (21, .int .i64 (a1.len : Int)), (22, .int .i64 0)]) q4.2) := (go_step _ h).trans (by kernel_rfl)

theorem u_nat_trim (a1 : Sl) (h : AH) : go (.fn F.nat_trim [a1.v]) h =
  go (.pt F.nat_trim Td.nat_trim_2 [(0, a1.v), (3, .int .i64 (a1.len : Int))]) h := (go_step _ h).trans (by kernel_rfl)

theorem u_nat_less (a1 : Sl) (a2 : Sl) (h : AH) : go (.fn F.nat_less [a1.v, a2.v]) h =
  (makeSliceH (a1.len : Int) (a1.len : Int) T.uint64 (Pg.bytesOf T.uint64) [.int .u64 0] h).bind fun q3 =>
  go (.pt F.nat_less Td.nat_less_4 [(0, a1.v), (1, a2.v), (5, q3.1.v), (6, .int .u64 0), (13, .int .i64 (a1.len : Int)), (14, .int .i64 0)]) q3.2 := (go_step _ h).trans (by kernel_rfl)

theorem u_nat_into (a1 : Sl) (a2 : Sl) (a3 : Int) (h : AH) : go (.fn F.nat_into [a1.v, a2.v, .int .i64 a3]) h =
  go (.pt F.nat_into Td.nat_into_2 [(0, a1.v), (1, a2.v), (2, .int .i64 a3), (6, .int .u64 0), (7, .int .i64 a3)]) h := (go_step _ h).trans (by kernel_rfl)

theorem p_prime_divisors_1_1 (a1 : Nat) (a2 : Ref) (a3 : Sl) (a4 : Int) (a5 : Int) (h : AH) : go (.pt F.prime_divisors_1 Td.prime_divisors_1_1 [(0, .func (.yield a1) [] []), (1, .ptr (some a2)), (6, a3.v), (7, .int .i64 a4), (8, .int .i64 a5)]) h =
  cond (decide (a5 < a4)) (
  (idx a3.ref a3.len a5 1).bind fun r6 =>
  ((h.cell r6).bind (AV.asInt .u64)).bind fun n7 =>
  ((h.cell a2).bind (AV.asInt .u64)).bind fun n8 =>
  cond (decide ((IntKind.wrap .u64 (n7 * n7)) > n8)) (
  some (.tup [], h)) (
  (go (.round a1 [.int .u64 n7]) h).bind fun q9 =>
  ((some q9.1).bind AV.asBool).bind fun b10 =>
  cond (!b10) (
  some (.tup [], q9.2)) (
  go (.pt F.prime_divisors_1 Td.prime_divisors_1_1 [(0, .func (.yield a1) [] []), (1, .ptr (some a2)), (6, a3.v), (7, .int .i64 a4), (8, .int .i64 (IntKind.wrap .i64 (a5 + 1)))]) q9.2))) (
  go (.pt F.prime_divisors_1 Td.prime_divisors_1_6 [(0, .func (.yield a1) [] []), (1, .ptr (some a2)), (5, .int .u64 5)]) h) := (go_step _ h).trans (by kernel_rfl)

theorem p_law06_few_2 (a1 : Sl) (a2 : Int) (h : AH) : go (.pt F.law06_few Td.law06_few_2 [(0, a1.v), (3, .int .i64 a2)]) h =
  cond (decide (a2 < (a1.len : Int))) (
  (idx a1.ref a1.len a2 1).bind fun r3 =>
  ((h.cell r3).bind AV.asSl).bind fun l4 =>
  cond (decide ((l4.len : Int) > 20)) (
  some (.bool false, h)) (
  go (.pt F.law06_few Td.law06_few_2 [(0, a1.v), (3, .int .i64 (IntKind.wrap .i64 (a2 + 1)))]) h)) (
  some (.bool true, h)) := (go_step _ h).trans (by kernel_rfl)

theorem u_prime_Check (a1 : Int) (a2 : Int) (h : AH) : go (.fn F.prime_Check [.agg [.int .u64 a1, .int .u64 a2]]) h =
  newK h (.cells [.int .u64 a1, .int .u64 a2] T.api_Key) fun h3r h3 =>
  ((h3.cell (h3r.add 0)).bind (AV.asInt .u64)).bind fun n4 =>
  (go (.fn F.prime_Check_1 [.int .u64 n4]) h3).bind fun q5 =>
  ((some q5.1).bind AV.asBool).bind fun b6 =>
  cond b6 (
  some (.int .i64 9, q5.2)) (
  ((q5.2.cell (h3r.add 1)).bind (AV.asInt .u64)).bind fun n7 =>
  (go (.fn F.prime_Check_1 [.int .u64 n7]) q5.2).bind fun q8 =>
  ((some q8.1).bind AV.asBool).bind fun b9 =>
  cond b9 (
  some (.int .i64 9, q8.2)) (
  ((q8.2.cell (h3r.add 0)).bind (AV.asInt .u64)).bind fun n10 =>
  ((q8.2.cell (h3r.add 1)).bind (AV.asInt .u64)).bind fun n11 =>
  cond (decide (n10 = n11)) (
  some (.int .i64 9, q8.2)) (
  ((q8.2.cell (h3r.add 0)).bind (AV.asInt .u64)).bind fun n12 =>
  ((q8.2.cell (h3r.add 1)).bind (AV.asInt .u64)).bind fun n13 =>
  (go (.fn F.math_bits_Len64 [.int .u64 n12]) q8.2).bind fun q14 =>
  ((some q14.1).bind (AV.asInt .i64)).bind fun n15 =>
  whenK (SameAt q8.2 q14.2 (h3r.add 1) 1) (
  (go (.fn F.math_bits_Len64 [.int .u64 n13]) q14.2).bind fun q16 =>
  ((some q16.1).bind (AV.asInt .i64)).bind fun n17 =>
  cond (!decide (n15 = n17)) (
  some (.int .i64 9, q16.2)) (
  ((q16.2.cell (h3r.add 0)).bind (AV.asInt .u64)).bind fun n18 =>
  newK q16.2 (.cells [.int .u64 n18] T.uint64) fun h19r h19 =>
  ((h19.cell (h3r.add 1)).bind (AV.asInt .u64)).bind fun n20 =>
  newK h19 (.cells [.int .u64 n20] T.uint64) fun h21r h21 =>
  (go (.fn F.nat_Mul [(⟨some h19r, 1, .is 1⟩ : Sl).v, (⟨some h21r, 1, .is 1⟩ : Sl).v]) h21).bind fun q22 =>
  (AV.asTup2 q22.1).bind fun p23 =>
  ((some p23.1).bind AV.asSl).bind fun l24 =>
  ((some p23.2).bind (AV.asInt .i64)).bind fun n25 =>
  ((q22.2.cell (h3r.add 0)).bind (AV.asInt .u64)).bind fun n26 =>
  newK q22.2 (.cells [.int .u64 (IntKind.wrap .u64 (n26 - 1))] T.uint64) fun h27r h27 =>
  ((h27.cell (h3r.add 1)).bind (AV.asInt .u64)).bind fun n28 =>
  newK h27 (.cells [.int .u64 (IntKind.wrap .u64 (n28 - 1))] T.uint64) fun h29r h29 =>
  (go (.fn F.nat_Mul [(⟨some h27r, 1, .is 1⟩ : Sl).v, (⟨some h29r, 1, .is 1⟩ : Sl).v]) h29).bind fun q30 =>
  (AV.asTup2 q30.1).bind fun p31 =>
  ((some p31.1).bind AV.asSl).bind fun l32 =>
  ((some p31.2).bind (AV.asInt .i64)).bind fun n33 =>
  (go (.fn F.modint_Gcd [l24.v, l32.v]) q30.2).bind fun q34 =>
  (AV.asTup2 q34.1).bind fun p35 =>
  ((some p35.1).bind AV.asSl).bind fun l36 =>
  ((some p35.2).bind (AV.asInt .i64)).bind fun n37 =>
  newK q34.2 (.cells [.int .u64 1] T.uint64) fun h38r h38 =>
  (go (.fn F.nat_Cmp [l36.v, (⟨some h38r, 1, .is 1⟩ : Sl).v]) h38).bind fun q39 =>
  ((some q39.1).bind (AV.asInt .i64)).bind fun n40 =>
  cond (!decide (n40 = 0)) (
  some (.int .i64 9, q39.2)) (
  some (.int .i64 0, q39.2))))))) := (go_step _ h).trans (by kernel_rfl)

theorem u_nat_Mul (a1 : Sl) (a2 : Sl) (h : AH) : go (.fn F.nat_Mul [a1.v, a2.v]) h =
  newK h (.cells [a1.v, a2.v] T.api_Nat) fun h3r h3 =>
  (go (.fn F.nat_right [(⟨some h3r, 2, .is 2⟩ : Sl).v]) h3).bind fun q4 =>
  ((some q4.1).bind AV.asBool).bind fun b5 =>
  cond (!b5) (
  some (.tup [(⟨none, 0, .is 0⟩ : Sl).v, .int .i64 1], q4.2)) (
  (go (.fn F.nat_product [a1.v, a2.v]) q4.2).bind fun q6 =>
  ((some q6.1).bind AV.asSl).bind fun l7 =>
  (go (.fn F.nat_told [l7.v]) q6.2).bind fun q8 =>
  (AV.asTup2 q8.1).bind fun p9 =>
  ((some p9.1).bind AV.asSl).bind fun l10 =>
  ((some p9.2).bind (AV.asInt .i64)).bind fun n11 =>
  some (.tup [l10.v, .int .i64 n11], q8.2)) := (go_step _ h).trans (by kernel_rfl)

theorem u_ref05_Check (a1 : Int) (a2 : Int) (h : AH) : go (.fn F.ref05_Check [.agg [.int .u64 a1, .int .u64 a2]]) h =
  newK h (.cells [.int .u64 a1, .int .u64 a2] T.api_Key) fun h3r h3 =>
  ((h3.cell (h3r.add 0)).bind (AV.asInt .u64)).bind fun n4 =>
  cond (decide (n4 < 128)) (
  some (.int .i64 9, h3)) (
  ((h3.cell (h3r.add 1)).bind (AV.asInt .u64)).bind fun n5 =>
  cond (decide (n5 < 128)) (
  some (.int .i64 9, h3)) (
  ((h3.cell (h3r.add 0)).bind (AV.asInt .u64)).bind fun n6 =>
  cond (decide (n6 ≥ 1099511627776)) (
  some (.int .i64 9, h3)) (
  ((h3.cell (h3r.add 1)).bind (AV.asInt .u64)).bind fun n7 =>
  cond (decide (n7 ≥ 1099511627776)) (
  some (.int .i64 9, h3)) (
  ((h3.cell (h3r.add 0)).bind (AV.asInt .u64)).bind fun n8 =>
  ((h3.cell (h3r.add 0)).bind (AV.asInt .u64)).bind fun n9 =>
  (go (.fn F.ref05_least [.int .u64 n8]) h3).bind fun q10 =>
  ((some q10.1).bind (AV.asInt .u64)).bind fun n11 =>
  whenK (SameAt h3 q10.2 (h3r.add 0) 1) (
  cond (!decide (n11 = n9)) (
  some (.int .i64 9, q10.2)) (
  ((q10.2.cell (h3r.add 1)).bind (AV.asInt .u64)).bind fun n12 =>
  ((q10.2.cell (h3r.add 1)).bind (AV.asInt .u64)).bind fun n13 =>
  (go (.fn F.ref05_least [.int .u64 n12]) q10.2).bind fun q14 =>
  ((some q14.1).bind (AV.asInt .u64)).bind fun n15 =>
  whenK (SameAt q10.2 q14.2 (h3r.add 1) 1) (
  cond (!decide (n15 = n13)) (
  some (.int .i64 9, q14.2)) (
  ((q14.2.cell (h3r.add 0)).bind (AV.asInt .u64)).bind fun n16 =>
  ((q14.2.cell (h3r.add 1)).bind (AV.asInt .u64)).bind fun n17 =>
  cond (decide (n16 = n17)) (
  some (.int .i64 9, q14.2)) (
  ((q14.2.cell (h3r.add 0)).bind (AV.asInt .u64)).bind fun n18 =>
  ((q14.2.cell (h3r.add 1)).bind (AV.asInt .u64)).bind fun n19 =>
  (go (.fn F.ref05_bits [.int .u64 n18]) q14.2).bind fun q20 =>
  ((some q20.1).bind (AV.asInt .i64)).bind fun n21 =>
  whenK (SameAt q14.2 q20.2 (h3r.add 1) 1) (
  (go (.fn F.ref05_bits [.int .u64 n19]) q20.2).bind fun q22 =>
  ((some q22.1).bind (AV.asInt .i64)).bind fun n23 =>
  cond (!decide (n21 = n23)) (
  some (.int .i64 9, q22.2)) (
  ((q22.2.cell (h3r.add 0)).bind (AV.asInt .u64)).bind fun n24 =>
  ((q22.2.cell (h3r.add 1)).bind (AV.asInt .u64)).bind fun n25 =>
  (go (.fn F.ref01_Of [.int .u64 n24]) q22.2).bind fun q26 =>
  ((some q26.1).bind AV.asSl).bind fun l27 =>
  whenK (SameAt q22.2 q26.2 (h3r.add 1) 1) (
  (go (.fn F.ref01_Of [.int .u64 n25]) q26.2).bind fun q28 =>
  ((some q28.1).bind AV.asSl).bind fun l29 =>
  (go (.fn F.ref01_Mul [l27.v, l29.v]) q28.2).bind fun q30 =>
  (AV.asTup2 q30.1).bind fun p31 =>
  ((some p31.1).bind AV.asSl).bind fun l32 =>
  ((some p31.2).bind (AV.asInt .i64)).bind fun n33 =>
  ((q30.2.cell (h3r.add 0)).bind (AV.asInt .u64)).bind fun n34 =>
  ((q30.2.cell (h3r.add 1)).bind (AV.asInt .u64)).bind fun n35 =>
  (go (.fn F.ref01_Of [.int .u64 (IntKind.wrap .u64 (n34 - 1))]) q30.2).bind fun q36 =>
  ((some q36.1).bind AV.asSl).bind fun l37 =>
  whenK (SameAt q30.2 q36.2 (h3r.add 1) 1) (
  (go (.fn F.ref01_Of [.int .u64 (IntKind.wrap .u64 (n35 - 1))]) q36.2).bind fun q38 =>
  ((some q38.1).bind AV.asSl).bind fun l39 =>
  (go (.fn F.ref01_Mul [l37.v, l39.v]) q38.2).bind fun q40 =>
  (AV.asTup2 q40.1).bind fun p41 =>
  ((some p41.1).bind AV.asSl).bind fun l42 =>
  ((some p41.2).bind (AV.asInt .i64)).bind fun n43 =>
  (go (.fn F.ref03_Gcd [l32.v, l42.v]) q40.2).bind fun q44 =>
  (AV.asTup2 q44.1).bind fun p45 =>
  ((some p45.1).bind AV.asSl).bind fun l46 =>
  ((some p45.2).bind (AV.asInt .i64)).bind fun n47 =>
  (go (.fn F.ref01_Small [l46.v]) q44.2).bind fun q48 =>
  (AV.asTup2 q48.1).bind fun p49 =>
  ((some p49.1).bind (AV.asInt .u64)).bind fun n50 =>
  ((some p49.2).bind AV.asBool).bind fun b51 =>
  cond (!decide (n50 = 1)) (
  some (.int .i64 9, q48.2)) (
  some (.int .i64 0, q48.2))))))))))))))) := (go_step _ h).trans (by kernel_rfl)

theorem u_ref01_Of (a1 : Int) (h : AH) : go (.fn F.ref01_Of [.int .u64 a1]) h =
  cond (decide (a1 = 0)) (
  some ((⟨none, 0, .is 0⟩ : Sl).v, h)) (
  newK h (.cells [.int .u64 a1] T.uint64) fun h2r h2 =>
  some ((⟨some h2r, 1, .is 1⟩ : Sl).v, h2)) := (go_step _ h).trans (by kernel_rfl)

theorem u_ref01_Mul (a1 : Sl) (a2 : Sl) (h : AH) : go (.fn F.ref01_Mul [a1.v, a2.v]) h =
  (go (.fn F.ref01_Right [a1.v]) h).bind fun q3 =>
  ((some q3.1).bind AV.asBool).bind fun b4 =>
  (go (.fn F.ref01_Right [a2.v]) q3.2).bind fun q5 =>
  ((some q5.1).bind AV.asBool).bind fun b6 =>
  cond (!b4) (
  some (.tup [(⟨none, 0, .is 0⟩ : Sl).v, .int .i64 1], q5.2)) (
  cond (!b6) (
  some (.tup [(⟨none, 0, .is 0⟩ : Sl).v, .int .i64 1], q5.2)) (
  (go (.fn F.ref01_In [a1.v]) q5.2).bind fun q7 =>
  ((some q7.1).bind AV.asSl).bind fun l8 =>
  (go (.fn F.ref01_In [a2.v]) q7.2).bind fun q9 =>
  ((some q9.1).bind AV.asSl).bind fun l10 =>
  (go (.fn F.ref01_mul [l8.v, l10.v]) q9.2).bind fun q11 =>
  ((some q11.1).bind AV.asSl).bind fun l12 =>
  (go (.fn F.ref01_told [l12.v]) q11.2).bind fun q13 =>
  (AV.asTup2 q13.1).bind fun p14 =>
  ((some p14.1).bind AV.asSl).bind fun l15 =>
  ((some p14.2).bind (AV.asInt .i64)).bind fun n16 =>
  some (.tup [l15.v, .int .i64 n16], q13.2))) := (go_step _ h).trans (by kernel_rfl)

theorem p_ref01_Same_4 (a1 : Sl) (a2 : Sl) (a3 : Int) (h : AH) : go (.pt F.ref01_Same Td.ref01_Same_4 [(0, a1.v), (1, a2.v), (5, .int .i64 a3)]) h =
  cond (decide (a3 < (a1.len : Int))) (
  (idx a1.ref a1.len a3 1).bind fun r4 =>
  ((h.cell r4).bind (AV.asInt .u64)).bind fun n5 =>
  (idx a2.ref a2.len a3 1).bind fun r6 =>
  ((h.cell r6).bind (AV.asInt .u64)).bind fun n7 =>
  cond (!decide (n5 = n7)) (
  some (.bool false, h)) (
  go (.pt F.ref01_Same Td.ref01_Same_4 [(0, a1.v), (1, a2.v), (5, .int .i64 (IntKind.wrap .i64 (a3 + 1)))]) h)) (
  some (.bool true, h)) := (go_step _ h).trans (by kernel_rfl)

theorem u_nat_Bits (a1 : Sl) (h : AH) : go (.fn F.nat_Bits [a1.v]) h =
  (go (.fn F.nat_Right [a1.v]) h).bind fun q2 =>
  ((some q2.1).bind AV.asBool).bind fun b3 =>
  cond (!b3) (
  some (.int .i64 0, q2.2)) (
  cond (decide ((a1.len : Int) = 0)) (
  some (.int .i64 0, q2.2)) (
  (idx a1.ref a1.len (IntKind.wrap .i64 ((a1.len : Int) - 1)) 1).bind fun r4 =>
  ((q2.2.cell r4).bind (AV.asInt .u64)).bind fun n5 =>
  (go (.fn F.math_bits_Len64 [.int .u64 n5]) q2.2).bind fun q6 =>
  ((some q6.1).bind (AV.asInt .i64)).bind fun n7 =>
  some (.int .i64 (IntKind.wrap .i64 ((IntKind.wrap .i64 (64 * (IntKind.wrap .i64 ((a1.len : Int) - 1)))) + n7)), q6.2))) := (go_step _ h).trans (by kernel_rfl)

theorem u_nat_Right (a1 : Sl) (h : AH) : go (.fn F.nat_Right [a1.v]) h =
  cond (decide ((a1.len : Int) ≤ 64)) (
  cond (decide ((a1.len : Int) = 0)) (
  some (.bool true, h)) (
  (idx a1.ref a1.len (IntKind.wrap .i64 ((a1.len : Int) - 1)) 1).bind fun r2 =>
  ((h.cell r2).bind (AV.asInt .u64)).bind fun n3 =>
  some (.bool (!decide (n3 = 0)), h))) (
  some (.bool false, h)) := (go_step _ h).trans (by kernel_rfl)

theorem u_nat_Bit (a1 : Sl) (a2 : Int) (h : AH) : go (.fn F.nat_Bit [a1.v, .int .i64 a2]) h =
  (go (.fn F.nat_Right [a1.v]) h).bind fun q3 =>
  ((some q3.1).bind AV.asBool).bind fun b4 =>
  cond b4 (
  cond (decide (a2 ≥ 0)) (
  cond (decide ((IntKind.wrap .i64 (Int.tdiv a2 64)) < (a1.len : Int))) (
  (idx a1.ref a1.len (IntKind.wrap .i64 (Int.tdiv a2 64)) 1).bind fun r5 =>
  ((q3.2.cell r5).bind (AV.asInt .u64)).bind fun n6 =>
  cond (decide ((Int.tmod a2 64) < 0)) none (
  some (.bool (decide ((iand .u64 (ishr .u64 n6 (Int.tmod a2 64)) 1) = 1)), q3.2))) (
  some (.bool false, q3.2))) (
  some (.bool false, q3.2))) (
  some (.bool false, q3.2)) := (go_step _ h).trans (by kernel_rfl)

theorem u_ref01_Right (a1 : Sl) (h : AH) : go (.fn F.ref01_Right [a1.v]) h =
  cond (decide ((a1.len : Int) ≤ 64)) (
  cond (decide ((a1.len : Int) = 0)) (
  some (.bool true, h)) (
  (idx a1.ref a1.len (IntKind.wrap .i64 ((a1.len : Int) - 1)) 1).bind fun r2 =>
  ((h.cell r2).bind (AV.asInt .u64)).bind fun n3 =>
  some (.bool (!decide (n3 = 0)), h))) (
  some (.bool false, h)) := (go_step _ h).trans (by kernel_rfl)

theorem u_ref01_Bits (a1 : Sl) (h : AH) : go (.fn F.ref01_Bits [a1.v]) h =
  (go (.fn F.ref01_Right [a1.v]) h).bind fun q2 =>
  ((some q2.1).bind AV.asBool).bind fun b3 =>
  cond (!b3) (
  some (.int .i64 0, q2.2)) (
  cond (decide ((a1.len : Int) = 0)) (
  some (.int .i64 0, q2.2)) (
  (idx a1.ref a1.len (IntKind.wrap .i64 ((a1.len : Int) - 1)) 1).bind fun r4 =>
  ((q2.2.cell r4).bind (AV.asInt .u64)).bind fun n5 =>
  go (.pt F.ref01_Bits Td.ref01_Bits_6 [(0, a1.v), (4, .int .i64 0), (5, .int .u64 n5)]) q2.2)) := (go_step _ h).trans (by kernel_rfl)

theorem u_paillier_square (a1 : Sl) (h : AH) : go (.fn F.paillier_square [a1.v]) h =
  (go (.fn F.nat_Mul [a1.v, a1.v]) h).bind fun q2 =>
  (AV.asTup2 q2.1).bind fun p3 =>
  ((some p3.1).bind AV.asSl).bind fun l4 =>
  ((some p3.2).bind (AV.asInt .i64)).bind fun n5 =>
  some (l4.v, q2.2) := (go_step _ h).trans (by kernel_rfl)

theorem u_paillier_alone (a1 : Sl) (a2 : Sl) (a3 : Sl) (h : AH) : go (.fn F.paillier_alone [a1.v, a2.v, a3.v]) h =
  (go (.fn F.nat_Right [a1.v]) h).bind fun q4 =>
  ((some q4.1).bind AV.asBool).bind fun b5 =>
  cond (!b5) (
  some (.bool false, q4.2)) (
  cond (decide ((a1.len : Int) = 0)) (
  some (.bool false, q4.2)) (
  (go (.fn F.nat_Cmp [a1.v, a3.v]) q4.2).bind fun q6 =>
  ((some q6.1).bind (AV.asInt .i64)).bind fun n7 =>
  cond (decide (n7 ≥ 0)) (
  some (.bool false, q6.2)) (
  (go (.fn F.modint_Gcd [a1.v, a2.v]) q6.2).bind fun q8 =>
  (AV.asTup2 q8.1).bind fun p9 =>
  ((some p9.1).bind AV.asSl).bind fun l10 =>
  ((some p9.2).bind (AV.asInt .i64)).bind fun n11 =>
  newK q8.2 (.cells [.int .u64 1] T.uint64) fun h12r h12 =>
  (go (.fn F.nat_Cmp [l10.v, (⟨some h12r, 1, .is 1⟩ : Sl).v]) h12).bind fun q13 =>
  ((some q13.1).bind (AV.asInt .i64)).bind fun n14 =>
  some (.bool (decide (n14 = 0)), q13.2)))) := (go_step _ h).trans (by kernel_rfl)

theorem u_ref06_Square (a1 : Sl) (h : AH) : go (.fn F.ref06_Square [a1.v]) h =
  (go (.fn F.ref01_Mul [a1.v, a1.v]) h).bind fun q2 =>
  (AV.asTup2 q2.1).bind fun p3 =>
  ((some p3.1).bind AV.asSl).bind fun l4 =>
  ((some p3.2).bind (AV.asInt .i64)).bind fun n5 =>
  some (l4.v, q2.2) := (go_step _ h).trans (by kernel_rfl)

theorem u_ref06_unit (a1 : Sl) (a2 : Sl) (a3 : Sl) (h : AH) : go (.fn F.ref06_unit [a1.v, a2.v, a3.v]) h =
  (go (.fn F.ref01_Right [a1.v]) h).bind fun q4 =>
  ((some q4.1).bind AV.asBool).bind fun b5 =>
  cond (!b5) (
  some (.bool false, q4.2)) (
  cond (decide ((a1.len : Int) = 0)) (
  some (.bool false, q4.2)) (
  (go (.fn F.ref01_Cmp [a1.v, a3.v]) q4.2).bind fun q6 =>
  ((some q6.1).bind (AV.asInt .i64)).bind fun n7 =>
  cond (decide (n7 ≥ 0)) (
  some (.bool false, q6.2)) (
  (go (.fn F.ref03_Gcd [a1.v, a2.v]) q6.2).bind fun q8 =>
  (AV.asTup2 q8.1).bind fun p9 =>
  ((some p9.1).bind AV.asSl).bind fun l10 =>
  ((some p9.2).bind (AV.asInt .i64)).bind fun n11 =>
  (go (.fn F.ref01_Of [.int .u64 1]) q8.2).bind fun q12 =>
  ((some q12.1).bind AV.asSl).bind fun l13 =>
  (go (.fn F.ref01_Cmp [l10.v, l13.v]) q12.2).bind fun q14 =>
  ((some q14.1).bind (AV.asInt .i64)).bind fun n15 =>
  some (.bool (decide (n15 = 0)), q14.2)))) := (go_step _ h).trans (by kernel_rfl)

theorem u_paillier_isPlain (a1 : Sl) (a2 : Sl) (h : AH) : go (.fn F.paillier_isPlain [a1.v, a2.v]) h =
  (go (.fn F.nat_Right [a2.v]) h).bind fun q3 =>
  ((some q3.1).bind AV.asBool).bind fun b4 =>
  cond b4 (
  (go (.fn F.nat_Cmp [a2.v, a1.v]) q3.2).bind fun q5 =>
  ((some q5.1).bind (AV.asInt .i64)).bind fun n6 =>
  some (.bool (decide (n6 < 0)), q5.2)) (
  some (.bool false, q3.2)) := (go_step _ h).trans (by kernel_rfl)

theorem u_paillier_shown (a1 : Sl) (a2 : Sl) (h : AH) : go (.fn F.paillier_shown [a1.v, a2.v]) h =
  (go (.fn F.nat_Mul [a2.v, a1.v]) h).bind fun q3 =>
  (AV.asTup2 q3.1).bind fun p4 =>
  ((some p4.1).bind AV.asSl).bind fun l5 =>
  ((some p4.2).bind (AV.asInt .i64)).bind fun n6 =>
  newK q3.2 (.cells [.int .u64 1] T.uint64) fun h7r h7 =>
  (go (.fn F.nat_Add [l5.v, (⟨some h7r, 1, .is 1⟩ : Sl).v]) h7).bind fun q8 =>
  (AV.asTup2 q8.1).bind fun p9 =>
  ((some p9.1).bind AV.asSl).bind fun l10 =>
  ((some p9.2).bind (AV.asInt .i64)).bind fun n11 =>
  some (l10.v, q8.2) := (go_step _ h).trans (by kernel_rfl)

theorem u_paillier_power (a1 : Sl) (a2 : Sl) (a3 : Sl) (h : AH) : go (.fn F.paillier_power [a1.v, a2.v, a3.v]) h =
  (go (.fn F.paillier_square [a1.v]) h).bind fun q4 =>
  ((some q4.1).bind AV.asSl).bind fun l5 =>
  (go (.fn F.mont_New [l5.v]) q4.2).bind fun q6 =>
  (AV.asTup2 q6.1).bind fun p7 =>
  ((some p7.1).bind AV.asPtr).bind fun p8 =>
  ((some p7.2).bind (AV.asInt .i64)).bind fun n9 =>
  (go (.fn F.mont_Ring_Exp [.ptr p8, a2.v, a3.v]) q6.2).bind fun q10 =>
  (AV.asTup2 q10.1).bind fun p11 =>
  ((some p11.1).bind AV.asSl).bind fun l12 =>
  ((some p11.2).bind (AV.asInt .i64)).bind fun n13 =>
  some (l12.v, q10.2) := (go_step _ h).trans (by kernel_rfl)

theorem u_paillier_times (a1 : Sl) (a2 : Sl) (a3 : Sl) (h : AH) : go (.fn F.paillier_times [a1.v, a2.v, a3.v]) h =
  (go (.fn F.nat_Mul [a2.v, a3.v]) h).bind fun q4 =>
  (AV.asTup2 q4.1).bind fun p5 =>
  ((some p5.1).bind AV.asSl).bind fun l6 =>
  ((some p5.2).bind (AV.asInt .i64)).bind fun n7 =>
  (go (.fn F.paillier_square [a1.v]) q4.2).bind fun q8 =>
  ((some q8.1).bind AV.asSl).bind fun l9 =>
  (go (.fn F.nat_Div [l6.v, l9.v]) q8.2).bind fun q10 =>
  (AV.asTup3 q10.1).bind fun p11 =>
  ((some p11.1).bind AV.asSl).bind fun l12 =>
  ((some p11.2.1).bind AV.asSl).bind fun l13 =>
  ((some p11.2.2).bind (AV.asInt .i64)).bind fun n14 =>
  some (l13.v, q10.2) := (go_step _ h).trans (by kernel_rfl)

theorem p_nat_school_3 (a1 : Sl) (a2 : Sl) (a3 : Sl) (a4 : Int) (a5 : Int) (h : AH) : go (.pt F.nat_school Td.nat_school_3 [(1, a1.v), (5, a2.v), (20, a3.v), (21, .int .i64 a4), (22, .int .i64 a5)]) h =
  cond (decide (a5 < a4)) (
  (idx a3.ref a3.len a5 1).bind fun r6 =>
  ((h.cell r6).bind (AV.asInt .u64)).bind fun n7 =>
  go (.pt F.nat_school Td.nat_school_7 [(1, a1.v), (5, a2.v), (6, .int .i64 a5), (7, .int .u64 n7), (8, .int .u64 0), (20, a3.v), (21, .int .i64 a4), (22, .int .i64 a5), (27, a1.v), (28, .int .i64 (a1.len : Int)), (29, .int .i64 0)]) h) (
  (go (.fn F.nat_trim [a2.v]) h).bind fun q8 =>
  ((some q8.1).bind AV.asSl).bind fun l9 =>
  some (l9.v, q8.2)) := (go_step _ h).trans (by kernel_rfl)

theorem p_nat_sum_6 (a1 : Sl) (a2 : Sl) (a3 : Sl) (a4 : Int) (a5 : Int) (a6 : Int) (h : AH) : go (.pt F.nat_sum Td.nat_sum_6 [(0, a1.v), (1, a2.v), (5, a3.v), (6, .int .u64 a4), (21, .int .i64 a5), (22, .int .i64 a6)]) h =
  cond (decide (a6 < a5)) (
  cond (decide (a6 < (a2.len : Int))) (
  (idx a2.ref a2.len a6 1).bind fun r7 =>
  ((h.cell r7).bind (AV.asInt .u64)).bind fun n8 =>
  (idx a1.ref a1.len a6 1).bind fun r9 =>
  ((h.cell r9).bind (AV.asInt .u64)).bind fun n10 =>
  ((prim "math/bits.Add64" [.int .u64 n10, .int .u64 n8, .int .u64 a4]).map fun v => (v, h)).bind fun q11 =>
  (AV.asTup2 q11.1).bind fun p12 =>
  ((some p12.1).bind (AV.asInt .u64)).bind fun n13 =>
  ((some p12.2).bind (AV.asInt .u64)).bind fun n14 =>
  (idx a3.ref a3.len a6 1).bind fun r15 =>
  (q11.2.puts r15 [.int .u64 n13]).bind fun h16 =>
  go (.pt F.nat_sum Td.nat_sum_6 [(0, a1.v), (1, a2.v), (5, a3.v), (6, .int .u64 n14), (21, .int .i64 a5), (22, .int .i64 (IntKind.wrap .i64 (a6 + 1)))]) h16) (
  (idx a1.ref a1.len a6 1).bind fun r17 =>
  ((h.cell r17).bind (AV.asInt .u64)).bind fun n18 =>
  ((prim "math/bits.Add64" [.int .u64 n18, .int .u64 0, .int .u64 a4]).map fun v => (v, h)).bind fun q19 =>
  (AV.asTup2 q19.1).bind fun p20 =>
  ((some p20.1).bind (AV.asInt .u64)).bind fun n21 =>
  ((some p20.2).bind (AV.asInt .u64)).bind fun n22 =>
  (idx a3.ref a3.len a6 1).bind fun r23 =>
  (q19.2.puts r23 [.int .u64 n21]).bind fun h24 =>
  go (.pt F.nat_sum Td.nat_sum_6 [(0, a1.v), (1, a2.v), (5, a3.v), (6, .int .u64 n22), (21, .int .i64 a5), (22, .int .i64 (IntKind.wrap .i64 (a6 + 1)))]) h24)) (
  (idx a3.ref a3.len (a1.len : Int) 1).bind fun r25 =>
  (h.puts r25 [.int .u64 a4]).bind fun h26 =>
  some (a3.v, h26)) := (go_step _ h).trans (by kernel_rfl)

theorem p_nat_trim_2 (a1 : Sl) (a2 : Int) (h : AH) : go (.pt F.nat_trim Td.nat_trim_2 [(0, a1.v), (3, .int .i64 a2)]) h =
  cond (decide (a2 > 0)) (
  (idx a1.ref a1.len (IntKind.wrap .i64 (a2 - 1)) 1).bind fun r3 =>
  ((h.cell r3).bind (AV.asInt .u64)).bind fun n4 =>
  cond (decide (n4 = 0)) (
  go (.pt F.nat_trim Td.nat_trim_2 [(0, a1.v), (3, .int .i64 (IntKind.wrap .i64 (a2 - 1)))]) h) (
  (cutSl a1 0 a2 1).bind fun l5 =>
  some (l5.v, h))) (
  (cutSl a1 0 a2 1).bind fun l6 =>
  some (l6.v, h)) := (go_step _ h).trans (by kernel_rfl)

theorem p_nat_less_4 (a1 : Sl) (a2 : Sl) (a3 : Sl) (a4 : Int) (a5 : Int) (a6 : Int) (h : AH) : go (.pt F.nat_less Td.nat_less_4 [(0, a1.v), (1, a2.v), (5, a3.v), (6, .int .u64 a4), (13, .int .i64 a5), (14, .int .i64 a6)]) h =
  cond (decide (a6 < a5)) (
  cond (decide (a6 < (a2.len : Int))) (
  (idx a2.ref a2.len a6 1).bind fun r7 =>
  ((h.cell r7).bind (AV.asInt .u64)).bind fun n8 =>
  (idx a1.ref a1.len a6 1).bind fun r9 =>
  ((h.cell r9).bind (AV.asInt .u64)).bind fun n10 =>
  ((prim "math/bits.Sub64" [.int .u64 n10, .int .u64 n8, .int .u64 a4]).map fun v => (v, h)).bind fun q11 =>
  (AV.asTup2 q11.1).bind fun p12 =>
  ((some p12.1).bind (AV.asInt .u64)).bind fun n13 =>
  ((some p12.2).bind (AV.asInt .u64)).bind fun n14 =>
  (idx a3.ref a3.len a6 1).bind fun r15 =>
  (q11.2.puts r15 [.int .u64 n13]).bind fun h16 =>
  go (.pt F.nat_less Td.nat_less_4 [(0, a1.v), (1, a2.v), (5, a3.v), (6, .int .u64 n14), (13, .int .i64 a5), (14, .int .i64 (IntKind.wrap .i64 (a6 + 1)))]) h16) (
  (idx a1.ref a1.len a6 1).bind fun r17 =>
  ((h.cell r17).bind (AV.asInt .u64)).bind fun n18 =>
  ((prim "math/bits.Sub64" [.int .u64 n18, .int .u64 0, .int .u64 a4]).map fun v => (v, h)).bind fun q19 =>
  (AV.asTup2 q19.1).bind fun p20 =>
  ((some p20.1).bind (AV.asInt .u64)).bind fun n21 =>
  ((some p20.2).bind (AV.asInt .u64)).bind fun n22 =>
  (idx a3.ref a3.len a6 1).bind fun r23 =>
  (q19.2.puts r23 [.int .u64 n21]).bind fun h24 =>
  go (.pt F.nat_less Td.nat_less_4 [(0, a1.v), (1, a2.v), (5, a3.v), (6, .int .u64 n22), (13, .int .i64 a5), (14, .int .i64 (IntKind.wrap .i64 (a6 + 1)))]) h24)) (
  some (a3.v, h)) := (go_step _ h).trans (by kernel_rfl)

theorem p_nat_into_2 (a1 : Sl) (a2 : Sl) (a3 : Int) (a4 : Int) (a5 : Int) (h : AH) : go (.pt F.nat_into Td.nat_into_2 [(0, a1.v), (1, a2.v), (2, .int .i64 a3), (6, .int .u64 a4), (7, .int .i64 a5)]) h =
  cond (decide (a5 < (a1.len : Int))) (
  cond (decide ((IntKind.wrap .i64 (a5 - a3)) < (a2.len : Int))) (
  cond (decide ((IntKind.wrap .i64 (a5 - a3)) < (a2.len : Int))) (
  (idx a2.ref a2.len (IntKind.wrap .i64 (a5 - a3)) 1).bind fun r6 =>
  ((h.cell r6).bind (AV.asInt .u64)).bind fun n7 =>
  (idx a1.ref a1.len a5 1).bind fun r8 =>
  ((h.cell r8).bind (AV.asInt .u64)).bind fun n9 =>
  ((prim "math/bits.Add64" [.int .u64 n9, .int .u64 n7, .int .u64 a4]).map fun v => (v, h)).bind fun q10 =>
  (AV.asTup2 q10.1).bind fun p11 =>
  ((some p11.1).bind (AV.asInt .u64)).bind fun n12 =>
  ((some p11.2).bind (AV.asInt .u64)).bind fun n13 =>
  (idx a1.ref a1.len a5 1).bind fun r14 =>
  (q10.2.puts r14 [.int .u64 n12]).bind fun h15 =>
  go (.pt F.nat_into Td.nat_into_2 [(0, a1.v), (1, a2.v), (2, .int .i64 a3), (6, .int .u64 n13), (7, .int .i64 (IntKind.wrap .i64 (a5 + 1)))]) h15) (
  (idx a1.ref a1.len a5 1).bind fun r16 =>
  ((h.cell r16).bind (AV.asInt .u64)).bind fun n17 =>
  ((prim "math/bits.Add64" [.int .u64 n17, .int .u64 0, .int .u64 a4]).map fun v => (v, h)).bind fun q18 =>
  (AV.asTup2 q18.1).bind fun p19 =>
  ((some p19.1).bind (AV.asInt .u64)).bind fun n20 =>
  ((some p19.2).bind (AV.asInt .u64)).bind fun n21 =>
  (idx a1.ref a1.len a5 1).bind fun r22 =>
  (q18.2.puts r22 [.int .u64 n20]).bind fun h23 =>
  go (.pt F.nat_into Td.nat_into_2 [(0, a1.v), (1, a2.v), (2, .int .i64 a3), (6, .int .u64 n21), (7, .int .i64 (IntKind.wrap .i64 (a5 + 1)))]) h23)) (
  cond (decide (a4 > 0)) (
  cond (decide ((IntKind.wrap .i64 (a5 - a3)) < (a2.len : Int))) (
  (idx a2.ref a2.len (IntKind.wrap .i64 (a5 - a3)) 1).bind fun r24 =>
  ((h.cell r24).bind (AV.asInt .u64)).bind fun n25 =>
  (idx a1.ref a1.len a5 1).bind fun r26 =>
  ((h.cell r26).bind (AV.asInt .u64)).bind fun n27 =>
  ((prim "math/bits.Add64" [.int .u64 n27, .int .u64 n25, .int .u64 a4]).map fun v => (v, h)).bind fun q28 =>
  (AV.asTup2 q28.1).bind fun p29 =>
  ((some p29.1).bind (AV.asInt .u64)).bind fun n30 =>
  ((some p29.2).bind (AV.asInt .u64)).bind fun n31 =>
  (idx a1.ref a1.len a5 1).bind fun r32 =>
  (q28.2.puts r32 [.int .u64 n30]).bind fun h33 =>
  go (.pt F.nat_into Td.nat_into_2 [(0, a1.v), (1, a2.v), (2, .int .i64 a3), (6, .int .u64 n31), (7, .int .i64 (IntKind.wrap .i64 (a5 + 1)))]) h33) (
  (idx a1.ref a1.len a5 1).bind fun r34 =>
  ((h.cell r34).bind (AV.asInt .u64)).bind fun n35 =>
  ((prim "math/bits.Add64" [.int .u64 n35, .int .u64 0, .int .u64 a4]).map fun v => (v, h)).bind fun q36 =>
  (AV.asTup2 q36.1).bind fun p37 =>
  ((some p37.1).bind (AV.asInt .u64)).bind fun n38 =>
  ((some p37.2).bind (AV.asInt .u64)).bind fun n39 =>
  (idx a1.ref a1.len a5 1).bind fun r40 =>
  (q36.2.puts r40 [.int .u64 n38]).bind fun h41 =>
  go (.pt F.nat_into Td.nat_into_2 [(0, a1.v), (1, a2.v), (2, .int .i64 a3), (6, .int .u64 n39), (7, .int .i64 (IntKind.wrap .i64 (a5 + 1)))]) h41)) (
  some (.tup [], h)))) (
  some (.tup [], h)) := (go_step _ h).trans (by kernel_rfl)

theorem p_prime_divisors_1_6 (a1 : Nat) (a2 : Ref) (a3 : Int) (h : AH) : go (.pt F.prime_divisors_1 Td.prime_divisors_1_6 [(0, .func (.yield a1) [] []), (1, .ptr (some a2)), (5, .int .u64 a3)]) h =
  ((h.cell a2).bind (AV.asInt .u64)).bind fun n4 =>
  cond (decide ((IntKind.wrap .u64 (a3 * a3)) ≤ n4)) (
  (go (.round a1 [.int .u64 a3]) h).bind fun q5 =>
  ((some q5.1).bind AV.asBool).bind fun b6 =>
  cond (!b6) (
  some (.tup [], q5.2)) (
  ((q5.2.cell a2).bind (AV.asInt .u64)).bind fun n7 =>
  cond (decide ((IntKind.wrap .u64 ((IntKind.wrap .u64 (a3 + 2)) * (IntKind.wrap .u64 (a3 + 2)))) ≤ n7)) (
  (go (.round a1 [.int .u64 (IntKind.wrap .u64 (a3 + 2))]) q5.2).bind fun q8 =>
  ((some q8.1).bind AV.asBool).bind fun b9 =>
  cond (!b9) (
  some (.tup [], q8.2)) (
  go (.pt F.prime_divisors_1 Td.prime_divisors_1_6 [(0, .func (.yield a1) [] []), (1, .ptr (some a2)), (5, .int .u64 (IntKind.wrap .u64 (a3 + 6)))]) q8.2)) (
  go (.pt F.prime_divisors_1 Td.prime_divisors_1_6 [(0, .func (.yield a1) [] []), (1, .ptr (some a2)), (5, .int .u64 (IntKind.wrap .u64 (a3 + 6)))]) q5.2))) (
  some (.tup [], h)) := (go_step _ h).trans (by kernel_rfl)

theorem u_prime_Check_1 (a1 : Int) (h : AH) : go (.fn F.prime_Check_1 [.int .u64 a1]) h =
  cond (decide (a1 < 128)) (
  some (.bool true, h)) (
  cond (decide (a1 ≥ 1099511627776)) (
  some (.bool true, h)) (
  (go (.fn F.prime_least [.int .u64 a1]) h).bind fun q2 =>
  ((some q2.1).bind (AV.asInt .u64)).bind fun n3 =>
  some (.bool (!decide (n3 = a1)), q2.2))) := (go_step _ h).trans (by kernel_rfl)

theorem u_math_bits_Len64 (a1 : Int) (h : AH) : go (.fn F.math_bits_Len64 [.int .u64 a1]) h =
  cond (decide (a1 ≥ 4294967296)) (
  cond (decide ((ishr .u64 a1 32) ≥ 65536)) (
  cond (decide ((ishr .u64 (ishr .u64 a1 32) 16) ≥ 256)) (
  cond (decide (0 ≤ (IntKind.wrap .u8 (ishr .u64 (ishr .u64 (ishr .u64 a1 32) 16) 8)))) (
  (lit1[Int.toNat (IntKind.wrap .u8 (ishr .u64 (ishr .u64 (ishr .u64 a1 32) 16) 8))]?).bind fun b2 =>
  some (.int .i64 (IntKind.wrap .i64 ((IntKind.wrap .i64 ((IntKind.wrap .i64 (32 + 16)) + 8)) + (IntKind.wrap .i64 (b2.toNat : Int)))), h)) none) (
  cond (decide (0 ≤ (IntKind.wrap .u8 (ishr .u64 (ishr .u64 a1 32) 16)))) (
  (lit1[Int.toNat (IntKind.wrap .u8 (ishr .u64 (ishr .u64 a1 32) 16))]?).bind fun b3 =>
  some (.int .i64 (IntKind.wrap .i64 ((IntKind.wrap .i64 (32 + 16)) + (IntKind.wrap .i64 (b3.toNat : Int)))), h)) none)) (
  cond (decide ((ishr .u64 a1 32) ≥ 256)) (
  cond (decide (0 ≤ (IntKind.wrap .u8 (ishr .u64 (ishr .u64 a1 32) 8)))) (
  (lit1[Int.toNat (IntKind.wrap .u8 (ishr .u64 (ishr .u64 a1 32) 8))]?).bind fun b4 =>
  some (.int .i64 (IntKind.wrap .i64 ((IntKind.wrap .i64 (32 + 8)) + (IntKind.wrap .i64 (b4.toNat : Int)))), h)) none) (
  cond (decide (0 ≤ (IntKind.wrap .u8 (ishr .u64 a1 32)))) (
  (lit1[Int.toNat (IntKind.wrap .u8 (ishr .u64 a1 32))]?).bind fun b5 =>
  some (.int .i64 (IntKind.wrap .i64 (32 + (IntKind.wrap .i64 (b5.toNat : Int)))), h)) none))) (
  cond (decide (a1 ≥ 65536)) (
  cond (decide ((ishr .u64 a1 16) ≥ 256)) (
  cond (decide (0 ≤ (IntKind.wrap .u8 (ishr .u64 (ishr .u64 a1 16) 8)))) (
  (lit1[Int.toNat (IntKind.wrap .u8 (ishr .u64 (ishr .u64 a1 16) 8))]?).bind fun b6 =>
  some (.int .i64 (IntKind.wrap .i64 ((IntKind.wrap .i64 ((IntKind.wrap .i64 (0 + 16)) + 8)) + (IntKind.wrap .i64 (b6.toNat : Int)))), h)) none) (
  cond (decide (0 ≤ (IntKind.wrap .u8 (ishr .u64 a1 16)))) (
  (lit1[Int.toNat (IntKind.wrap .u8 (ishr .u64 a1 16))]?).bind fun b7 =>
  some (.int .i64 (IntKind.wrap .i64 ((IntKind.wrap .i64 (0 + 16)) + (IntKind.wrap .i64 (b7.toNat : Int)))), h)) none)) (
  cond (decide (a1 ≥ 256)) (
  cond (decide (0 ≤ (IntKind.wrap .u8 (ishr .u64 a1 8)))) (
  (lit1[Int.toNat (IntKind.wrap .u8 (ishr .u64 a1 8))]?).bind fun b8 =>
  some (.int .i64 (IntKind.wrap .i64 ((IntKind.wrap .i64 (0 + 8)) + (IntKind.wrap .i64 (b8.toNat : Int)))), h)) none) (
  cond (decide (0 ≤ (IntKind.wrap .u8 a1))) (
  (lit1[Int.toNat (IntKind.wrap .u8 a1)]?).bind fun b9 =>
  some (.int .i64 (IntKind.wrap .i64 (0 + (IntKind.wrap .i64 (b9.toNat : Int)))), h)) none))) := (go_step _ h).trans (by kernel_rfl)

theorem u_modint_Gcd (a1 : Sl) (a2 : Sl) (h : AH) : go (.fn F.modint_Gcd [a1.v, a2.v]) h =
  (go (.fn F.nat_Right [a1.v]) h).bind fun q3 =>
  ((some q3.1).bind AV.asBool).bind fun b4 =>
  cond (!b4) (
  some (.tup [(⟨none, 0, .is 0⟩ : Sl).v, .int .i64 1], q3.2)) (
  (go (.fn F.nat_Right [a2.v]) q3.2).bind fun q5 =>
  ((some q5.1).bind AV.asBool).bind fun b6 =>
  cond (!b6) (
  some (.tup [(⟨none, 0, .is 0⟩ : Sl).v, .int .i64 1], q5.2)) (
  (go (.fn F.slices_Clone_api_Nat_uint64 [a1.v]) q5.2).bind fun q7 =>
  ((some q7.1).bind AV.asSl).bind fun l8 =>
  (go (.fn F.slices_Clone_api_Nat_uint64 [a2.v]) q7.2).bind fun q9 =>
  ((some q9.1).bind AV.asSl).bind fun l10 =>
  go (.pt F.modint_Gcd Td.modint_Gcd_4 [(0, l8.v), (1, l10.v)]) q9.2)) := (go_step _ h).trans (by kernel_rfl)

theorem u_nat_Cmp (a1 : Sl) (a2 : Sl) (h : AH) : go (.fn F.nat_Cmp [a1.v, a2.v]) h =
  newK h (.cells [a1.v, a2.v] T.api_Nat) fun h3r h3 =>
  (go (.fn F.nat_right [(⟨some h3r, 2, .is 2⟩ : Sl).v]) h3).bind fun q4 =>
  ((some q4.1).bind AV.asBool).bind fun b5 =>
  cond (!b5) (
  some (.int .i64 0, q4.2)) (
  (go (.fn F.nat_compare [a1.v, a2.v]) q4.2).bind fun q6 =>
  ((some q6.1).bind (AV.asInt .i64)).bind fun n7 =>
  some (.int .i64 n7, q6.2)) := (go_step _ h).trans (by kernel_rfl)

theorem u_nat_right (a1 : Sl) (h : AH) : go (.fn F.nat_right [a1.v]) h =
  (go (.fn F.slices_ContainsFunc_api_Nat_api_Nat [a1.v, .func (.func F.nat_right_1) [] []]) h).bind fun q2 =>
  ((some q2.1).bind AV.asBool).bind fun b3 =>
  some (.bool (!b3), q2.2) := (go_step _ h).trans (by kernel_rfl)

theorem u_nat_product (a1 : Sl) (a2 : Sl) (h : AH) : go (.fn F.nat_product [a1.v, a2.v]) h =
  newK h (.cells [.nilFunc] T.func_api_Nat_api_Nat_api_Nat) fun h3r h3 =>
  (h3.puts h3r [.func (.func F.nat_product_1) [] [.ptr (some h3r)]]).bind fun h4 =>
  (h4.cell h3r).bind fun v5 =>
  yieldK v5 [a1.v, a2.v] (fun y7 =>
  (go (.round y7.1 y7.2) h4).bind fun q6 =>
  ((some q6.1).bind AV.asSl).bind fun l9 =>
  some (l9.v, q6.2)) (
  (callV Pg go v5 [a1.v, a2.v] h4).bind fun q8 =>
  ((some q8.1).bind AV.asSl).bind fun l10 =>
  some (l10.v, q8.2)) := (go_step _ h).trans (by kernel_rfl)

theorem u_nat_told (a1 : Sl) (h : AH) : go (.fn F.nat_told [a1.v]) h =
  (go (.fn F.nat_trim [a1.v]) h).bind fun q2 =>
  ((some q2.1).bind AV.asSl).bind fun l3 =>
  cond (decide ((l3.len : Int) > 64)) (
  some (.tup [(⟨none, 0, .is 0⟩ : Sl).v, .int .i64 4], q2.2)) (
  some (.tup [l3.v, .int .i64 0], q2.2)) := (go_step _ h).trans (by kernel_rfl)

theorem u_ref05_least (a1 : Int) (h : AH) : go (.fn F.ref05_least [.int .u64 a1]) h =
  go (.pt F.ref05_least Td.ref05_least_2 [(0, .int .u64 a1), (3, .int .u64 2)]) h := (go_step _ h).trans (by kernel_rfl)

theorem u_ref05_bits (a1 : Int) (h : AH) : go (.fn F.ref05_bits [.int .u64 a1]) h =
  (go (.fn F.ref01_Of [.int .u64 a1]) h).bind fun q2 =>
  ((some q2.1).bind AV.asSl).bind fun l3 =>
  (go (.fn F.ref01_Bits [l3.v]) q2.2).bind fun q4 =>
  ((some q4.1).bind (AV.asInt .i64)).bind fun n5 =>
  some (.int .i64 n5, q4.2) := (go_step _ h).trans (by kernel_rfl)

theorem u_ref03_Gcd (a1 : Sl) (a2 : Sl) (h : AH) : go (.fn F.ref03_Gcd [a1.v, a2.v]) h =
  (go (.fn F.ref01_Right [a1.v]) h).bind fun q3 =>
  ((some q3.1).bind AV.asBool).bind fun b4 =>
  (go (.fn F.ref01_Right [a2.v]) q3.2).bind fun q5 =>
  ((some q5.1).bind AV.asBool).bind fun b6 =>
  cond (!b4) (
  some (.tup [(⟨none, 0, .is 0⟩ : Sl).v, .int .i64 1], q5.2)) (
  cond (!b6) (
  some (.tup [(⟨none, 0, .is 0⟩ : Sl).v, .int .i64 1], q5.2)) (
  newK q5.2 (.cells [] T.uint64) fun h7r h7 =>
  (appendArgs Pg T.uint64 a1.v h7).bind fun p9 =>
  (appendH Pg (⟨some h7r, 0, .is 0⟩ : Sl) p9.1 p9.2 T.uint64 1 h7).bind fun q8 =>
  (AV.asSl q8.1).bind fun l10 =>
  newK q8.2 (.cells [] T.uint64) fun h11r h11 =>
  (appendArgs Pg T.uint64 a2.v h11).bind fun p13 =>
  (appendH Pg (⟨some h11r, 0, .is 0⟩ : Sl) p13.1 p13.2 T.uint64 1 h11).bind fun q12 =>
  (AV.asSl q12.1).bind fun l14 =>
  go (.pt F.ref03_Gcd Td.ref03_Gcd_7 [(8, l10.v), (9, l14.v)]) q12.2)) := (go_step _ h).trans (by kernel_rfl)

theorem u_ref01_Small (a1 : Sl) (h : AH) : go (.fn F.ref01_Small [a1.v]) h =
  (go (.fn F.ref01_Right [a1.v]) h).bind fun q2 =>
  ((some q2.1).bind AV.asBool).bind fun b3 =>
  cond (!b3) (
  some (.tup [.int .u64 0, .bool false], q2.2)) (
  cond (decide ((a1.len : Int) > 1)) (
  some (.tup [.int .u64 0, .bool false], q2.2)) (
  cond (decide ((a1.len : Int) = 0)) (
  some (.tup [.int .u64 0, .bool true], q2.2)) (
  (idx a1.ref a1.len 0 1).bind fun r4 =>
  ((q2.2.cell r4).bind (AV.asInt .u64)).bind fun n5 =>
  some (.tup [.int .u64 n5, .bool true], q2.2)))) := (go_step _ h).trans (by kernel_rfl)

theorem u_ref01_In (a1 : Sl) (h : AH) : go (.fn F.ref01_In [a1.v]) h =
  go (.pt F.ref01_In Td.ref01_In_3 [(0, a1.v), (3, (⟨none, 0, .is 0⟩ : Sl).v), (4, .int .i64 0)]) h := (go_step _ h).trans (by kernel_rfl)

theorem u_ref01_mul (a1 : Sl) (a2 : Sl) (h : AH) : go (.fn F.ref01_mul [a1.v, a2.v]) h =
  (makeSliceH (IntKind.wrap .i64 ((a1.len : Int) + (a2.len : Int))) (IntKind.wrap .i64 ((a1.len : Int) + (a2.len : Int))) T.uint64 (Pg.bytesOf T.uint64) [.int .u64 0] h).bind fun q3 =>
  go (.pt F.ref01_mul Td.ref01_mul_3 [(0, a1.v), (1, a2.v), (5, q3.1.v), (6, .int .i64 0)]) q3.2 := (go_step _ h).trans (by kernel_rfl)

theorem u_ref01_told (a1 : Sl) (h : AH) : go (.fn F.ref01_told [a1.v]) h =
  (go (.fn F.ref01_Out [a1.v]) h).bind fun q2 =>
  (AV.asTup2 q2.1).bind fun p3 =>
  ((some p3.1).bind AV.asSl).bind fun l4 =>
  ((some p3.2).bind AV.asBool).bind fun b5 =>
  cond (!b5) (
  some (.tup [(⟨none, 0, .is 0⟩ : Sl).v, .int .i64 4], q2.2)) (
  some (.tup [l4.v, .int .i64 0], q2.2)) := (go_step _ h).trans (by kernel_rfl)

theorem p_ref01_Bits_6 (a1 : Sl) (a2 : Int) (a3 : Int) (h : AH) : go (.pt F.ref01_Bits Td.ref01_Bits_6 [(0, a1.v), (4, .int .i64 a2), (5, .int .u64 a3)]) h =
  cond (decide (a3 > 0)) (
  go (.pt F.ref01_Bits Td.ref01_Bits_6 [(0, a1.v), (4, .int .i64 (IntKind.wrap .i64 (a2 + 1))), (5, .int .u64 (IntKind.wrap .u64 (Int.tdiv a3 2)))]) h) (
  some (.int .i64 (IntKind.wrap .i64 (a2 + (IntKind.wrap .i64 (64 * (IntKind.wrap .i64 ((a1.len : Int) - 1)))))), h)) := (go_step _ h).trans (by kernel_rfl)

theorem u_ref01_Cmp (a1 : Sl) (a2 : Sl) (h : AH) : go (.fn F.ref01_Cmp [a1.v, a2.v]) h =
  (go (.fn F.ref01_Right [a1.v]) h).bind fun q3 =>
  ((some q3.1).bind AV.asBool).bind fun b4 =>
  (go (.fn F.ref01_Right [a2.v]) q3.2).bind fun q5 =>
  ((some q5.1).bind AV.asBool).bind fun b6 =>
  cond (!b4) (
  some (.int .i64 0, q5.2)) (
  cond (!b6) (
  some (.int .i64 0, q5.2)) (
  (go (.fn F.ref01_In [a1.v]) q5.2).bind fun q7 =>
  ((some q7.1).bind AV.asSl).bind fun l8 =>
  (go (.fn F.ref01_In [a2.v]) q7.2).bind fun q9 =>
  ((some q9.1).bind AV.asSl).bind fun l10 =>
  (go (.fn F.ref01_compare [l8.v, l10.v]) q9.2).bind fun q11 =>
  ((some q11.1).bind (AV.asInt .i64)).bind fun n12 =>
  some (.int .i64 n12, q11.2))) := (go_step _ h).trans (by kernel_rfl)

theorem u_nat_Add (a1 : Sl) (a2 : Sl) (h : AH) : go (.fn F.nat_Add [a1.v, a2.v]) h =
  newK h (.cells [a1.v, a2.v] T.api_Nat) fun h3r h3 =>
  (go (.fn F.nat_right [(⟨some h3r, 2, .is 2⟩ : Sl).v]) h3).bind fun q4 =>
  ((some q4.1).bind AV.asBool).bind fun b5 =>
  cond (!b5) (
  some (.tup [(⟨none, 0, .is 0⟩ : Sl).v, .int .i64 1], q4.2)) (
  (go (.fn F.nat_sum [a1.v, a2.v]) q4.2).bind fun q6 =>
  ((some q6.1).bind AV.asSl).bind fun l7 =>
  (go (.fn F.nat_told [l7.v]) q6.2).bind fun q8 =>
  (AV.asTup2 q8.1).bind fun p9 =>
  ((some p9.1).bind AV.asSl).bind fun l10 =>
  ((some p9.2).bind (AV.asInt .i64)).bind fun n11 =>
  some (.tup [l10.v, .int .i64 n11], q8.2)) := (go_step _ h).trans (by kernel_rfl)

theorem u_mont_New (a1 : Sl) (h : AH) : go (.fn F.mont_New [a1.v]) h =
  (go (.fn F.nat_Right [a1.v]) h).bind fun q2 =>
  ((some q2.1).bind AV.asBool).bind fun b3 =>
  cond (!b3) (
  some (.tup [.ptr none, .int .i64 1], q2.2)) (
  cond (decide ((a1.len : Int) = 0)) (
  some (.tup [.ptr none, .int .i64 1], q2.2)) (
  cond (decide ((a1.len : Int) > 8)) (
  some (.tup [.ptr none, .int .i64 1], q2.2)) (
  (idx a1.ref a1.len 0 1).bind fun r4 =>
  ((q2.2.cell r4).bind (AV.asInt .u64)).bind fun n5 =>
  cond (decide ((iand .u64 n5 1) = 0)) (
  some (.tup [.ptr none, .int .i64 1], q2.2)) (
  cond (decide ((a1.len : Int) = 1)) (
  (idx a1.ref a1.len 0 1).bind fun r6 =>
  ((q2.2.cell r6).bind (AV.asInt .u64)).bind fun n7 =>
  cond (decide (n7 = 1)) (
  some (.tup [.ptr none, .int .i64 1], q2.2)) (
  (idx a1.ref a1.len 0 1).bind fun r8 =>
  ((q2.2.cell r8).bind (AV.asInt .u64)).bind fun n9 =>
  go (.pt F.mont_New Td.mont_New_5 [(0, a1.v), (4, .int .u64 n9), (40, .int .i64 0)]) q2.2)) (
  (idx a1.ref a1.len 0 1).bind fun r10 =>
  ((q2.2.cell r10).bind (AV.asInt .u64)).bind fun n11 =>
  go (.pt F.mont_New Td.mont_New_5 [(0, a1.v), (4, .int .u64 n11), (40, .int .i64 0)]) q2.2))))) := (go_step _ h).trans (by kernel_rfl)

theorem u_mont_Ring_Exp (a1 : Option Ref) (a2 : Sl) (a3 : Sl) (h : AH) : go (.fn F.mont_Ring_Exp [.ptr a1, a2.v, a3.v]) h =
  newK h (.cells [a2.v] T.api_Nat) fun h4r h4 =>
  (go (.fn F.mont_Ring_below [.ptr a1, (⟨some h4r, 1, .is 1⟩ : Sl).v]) h4).bind fun q5 =>
  ((some q5.1).bind AV.asBool).bind fun b6 =>
  cond (!b6) (
  some (.tup [(⟨none, 0, .is 0⟩ : Sl).v, .int .i64 1], q5.2)) (
  (go (.fn F.nat_Right [a3.v]) q5.2).bind fun q7 =>
  ((some q7.1).bind AV.asBool).bind fun b8 =>
  cond (!b8) (
  some (.tup [(⟨none, 0, .is 0⟩ : Sl).v, .int .i64 1], q7.2)) (
  cond (decide ((a3.len : Int) > 8)) (
  some (.tup [(⟨none, 0, .is 0⟩ : Sl).v, .int .i64 1], q7.2)) (
  a1.bind fun r9 =>
  ((q7.2.cell (r9.add 2)).bind AV.asSl).bind fun l10 =>
  newK q7.2 (.cells [l10.v] T.api_Nat) fun h11r h11 =>
  a1.bind fun r12 =>
  ((h11.cell (r12.add 3)).bind AV.asSl).bind fun l13 =>
  (go (.fn F.mont_Ring_product [.ptr a1, a2.v, l13.v]) h11).bind fun q14 =>
  ((some q14.1).bind AV.asSl).bind fun l15 =>
  go (.pt F.mont_Ring_Exp Td.mont_Ring_Exp_7 [(0, .ptr a1), (2, a3.v), (8, .func (.func F.mont_Ring_product) [.ptr a1] []), (9, (⟨some h11r, 1, .is 1⟩ : Sl).v), (10, l15.v), (44, .int .i64 0)]) q14.2))) := (go_step _ h).trans (by kernel_rfl)

theorem u_nat_Div (a1 : Sl) (a2 : Sl) (h : AH) : go (.fn F.nat_Div [a1.v, a2.v]) h =
  newK h (.cells [a1.v, a2.v] T.api_Nat) fun h3r h3 =>
  (go (.fn F.nat_right [(⟨some h3r, 2, .is 2⟩ : Sl).v]) h3).bind fun q4 =>
  ((some q4.1).bind AV.asBool).bind fun b5 =>
  cond (!b5) (
  some (.tup [(⟨none, 0, .is 0⟩ : Sl).v, (⟨none, 0, .is 0⟩ : Sl).v, .int .i64 1], q4.2)) (
  cond (decide ((a2.len : Int) = 0)) (
  some (.tup [(⟨none, 0, .is 0⟩ : Sl).v, (⟨none, 0, .is 0⟩ : Sl).v, .int .i64 3], q4.2)) (
  (go (.fn F.nat_compare [a1.v, a2.v]) q4.2).bind fun q6 =>
  ((some q6.1).bind (AV.asInt .i64)).bind fun n7 =>
  cond (decide (n7 < 0)) (
  (go (.fn F.slices_Clone_api_Nat_uint64 [a1.v]) q6.2).bind fun q8 =>
  ((some q8.1).bind AV.asSl).bind fun l9 =>
  some (.tup [(⟨none, 0, .is 0⟩ : Sl).v, l9.v, .int .i64 0], q8.2)) (
  cond (decide ((a2.len : Int) = 1)) (
  (idx a2.ref a2.len 0 1).bind fun r10 =>
  ((q6.2.cell r10).bind (AV.asInt .u64)).bind fun n11 =>
  (go (.fn F.nat_short [a1.v, .int .u64 n11]) q6.2).bind fun q12 =>
  (AV.asTup2 q12.1).bind fun p13 =>
  ((some p13.1).bind AV.asSl).bind fun l14 =>
  ((some p13.2).bind (AV.asInt .u64)).bind fun n15 =>
  (go (.fn F.nat_Of [.int .u64 n15]) q12.2).bind fun q16 =>
  ((some q16.1).bind AV.asSl).bind fun l17 =>
  some (.tup [l14.v, l17.v, .int .i64 0], q16.2)) (
  (go (.fn F.nat_long [a1.v, a2.v]) q6.2).bind fun q18 =>
  (AV.asTup2 q18.1).bind fun p19 =>
  ((some p19.1).bind AV.asSl).bind fun l20 =>
  ((some p19.2).bind AV.asSl).bind fun l21 =>
  some (.tup [l20.v, l21.v, .int .i64 0], q18.2))))) := (go_step _ h).trans (by kernel_rfl)

theorem p_nat_school_7 (a1 : Sl) (a2 : Sl) (a3 : Int) (a4 : Int) (a5 : Int) (a6 : Sl) (a7 : Int) (a8 : Int) (a9 : Sl) (a10 : Int) (a11 : Int) (h : AH) : go (.pt F.nat_school Td.nat_school_7 [(1, a1.v), (5, a2.v), (6, .int .i64 a3), (7, .int .u64 a4), (8, .int .u64 a5), (20, a6.v), (21, .int .i64 a7), (22, .int .i64 a8), (27, a9.v), (28, .int .i64 a10), (29, .int .i64 a11)]) h =
  cond (decide (a11 < a10)) (
  (idx a9.ref a9.len a11 1).bind fun r12 =>
  ((h.cell r12).bind (AV.asInt .u64)).bind fun n13 =>
  (go (.fn F.math_bits_Mul64 [.int .u64 a4, .int .u64 n13]) h).bind fun q14 =>
  (AV.asTup2 q14.1).bind fun p15 =>
  ((some p15.1).bind (AV.asInt .u64)).bind fun n16 =>
  ((some p15.2).bind (AV.asInt .u64)).bind fun n17 =>
  (idx a2.ref a2.len (IntKind.wrap .i64 (a3 + a11)) 1).bind fun r18 =>
  ((q14.2.cell r18).bind (AV.asInt .u64)).bind fun n19 =>
  ((prim "math/bits.Add64" [.int .u64 n17, .int .u64 n19, .int .u64 0]).map fun v => (v, q14.2)).bind fun q20 =>
  (AV.asTup2 q20.1).bind fun p21 =>
  ((some p21.1).bind (AV.asInt .u64)).bind fun n22 =>
  ((some p21.2).bind (AV.asInt .u64)).bind fun n23 =>
  ((prim "math/bits.Add64" [.int .u64 n22, .int .u64 a5, .int .u64 0]).map fun v => (v, q20.2)).bind fun q24 =>
  (AV.asTup2 q24.1).bind fun p25 =>
  ((some p25.1).bind (AV.asInt .u64)).bind fun n26 =>
  ((some p25.2).bind (AV.asInt .u64)).bind fun n27 =>
  (idx a2.ref a2.len (IntKind.wrap .i64 (a3 + a11)) 1).bind fun r28 =>
  (q24.2.puts r28 [.int .u64 n26]).bind fun h29 =>
  go (.pt F.nat_school Td.nat_school_7 [(1, a1.v), (5, a2.v), (6, .int .i64 a3), (7, .int .u64 a4), (8, .int .u64 (IntKind.wrap .u64 ((IntKind.wrap .u64 (n16 + n23)) + n27))), (20, a6.v), (21, .int .i64 a7), (22, .int .i64 a8), (27, a9.v), (28, .int .i64 a10), (29, .int .i64 (IntKind.wrap .i64 (a11 + 1)))]) h29) (
  (idx a2.ref a2.len (IntKind.wrap .i64 (a3 + (a1.len : Int))) 1).bind fun r30 =>
  (h.puts r30 [.int .u64 a5]).bind fun h31 =>
  go (.pt F.nat_school Td.nat_school_3 [(1, a1.v), (5, a2.v), (20, a6.v), (21, .int .i64 a7), (22, .int .i64 (IntKind.wrap .i64 (a8 + 1)))]) h31) := (go_step _ h).trans (by kernel_rfl)

theorem u_prime_least (a1 : Int) (h : AH) : go (.fn F.prime_least [.int .u64 a1]) h =
  newK h (.cells [.int .u64 a1] T.uint64) fun h2r h2 =>
  newK h2 (.cells [.int .u64 0] T.uint64) fun h3r h3 =>
  ((h3.cell h2r).bind (AV.asInt .u64)).bind fun n4 =>
  (go (.fn F.prime_divisors [.int .u64 n4]) h3).bind fun q5 =>
  go (.pt F.prime_least Tr.prime_least_0 [(0, .int .u64 a1), (1, .ptr (some h2r)), (2, .ptr (some h3r)), (4, .int .u64 n4), (5, q5.1)]) q5.2 := (go_step _ h).trans (by kernel_rfl)

theorem u_slices_Clone_api_Nat_uint64 (a1 : Sl) (h : AH) : go (.fn F.slices_Clone_api_Nat_uint64 [a1.v]) h =
  cond a1.ref.isNone (
  some ((⟨none, 0, .is 0⟩ : Sl).v, h)) (
  newK h (.cells [] T.uint64) fun h2r h2 =>
  (appendArgs Pg T.uint64 a1.v h2).bind fun p4 =>
  (appendH Pg (⟨some h2r, 0, .is 0⟩ : Sl) p4.1 p4.2 T.uint64 1 h2).bind fun q3 =>
  (AV.asSl q3.1).bind fun l5 =>
  some (l5.v, q3.2)) := (go_step _ h).trans (by kernel_rfl)

theorem p_modint_Gcd_4 (a1 : Sl) (a2 : Sl) (h : AH) : go (.pt F.modint_Gcd Td.modint_Gcd_4 [(0, a1.v), (1, a2.v)]) h =
  cond (decide ((a2.len : Int) > 0)) (
  (go (.fn F.nat_Div [a1.v, a2.v]) h).bind fun q3 =>
  (AV.asTup3 q3.1).bind fun p4 =>
  ((some p4.1).bind AV.asSl).bind fun l5 =>
  ((some p4.2.1).bind AV.asSl).bind fun l6 =>
  ((some p4.2.2).bind (AV.asInt .i64)).bind fun n7 =>
  go (.pt F.modint_Gcd Td.modint_Gcd_4 [(0, a2.v), (1, l6.v)]) q3.2) (
  some (.tup [a1.v, .int .i64 0], h)) := (go_step _ h).trans (by kernel_rfl)

theorem u_nat_compare (a1 : Sl) (a2 : Sl) (h : AH) : go (.fn F.nat_compare [a1.v, a2.v]) h =
  cond (!decide ((a1.len : Int) = (a2.len : Int))) (
  cond (decide ((a1.len : Int) < (a2.len : Int))) (
  some (.int .i64 (-1), h)) (
  some (.int .i64 1, h))) (
  go (.pt F.nat_compare Td.nat_compare_6 [(0, a1.v), (1, a2.v), (5, .int .i64 (IntKind.wrap .i64 ((a1.len : Int) - 1)))]) h) := (go_step _ h).trans (by kernel_rfl)

theorem u_slices_ContainsFunc_api_Nat_api_Nat__nat_right_1 (a1 : Sl) (h : AH) : go (.fn F.slices_ContainsFunc_api_Nat_api_Nat [a1.v, .func (.func F.nat_right_1) [] []]) h =
  (go (.fn F.slices_IndexFunc_api_Nat_api_Nat [a1.v, .func (.func F.nat_right_1) [] []]) h).bind fun q2 =>
  ((some q2.1).bind (AV.asInt .i64)).bind fun n3 =>
  some (.bool (decide (n3 ≥ 0)), q2.2) := (go_step _ h).trans (by kernel_rfl)

theorem p_ref05_least_2 (a1 : Int) (a2 : Int) (h : AH) : go (.pt F.ref05_least Td.ref05_least_2 [(0, .int .u64 a1), (3, .int .u64 a2)]) h =
  cond (decide ((IntKind.wrap .u64 (a2 * a2)) ≤ a1)) (
  cond (decide (a2 = 0)) none (
  cond (decide ((Int.tmod a1 a2) = 0)) (
  some (.int .u64 a2, h)) (
  go (.pt F.ref05_least Td.ref05_least_2 [(0, .int .u64 a1), (3, .int .u64 (IntKind.wrap .u64 (a2 + 1)))]) h))) (
  some (.int .u64 a1, h)) := (go_step _ h).trans (by kernel_rfl)

theorem p_ref03_Gcd_7 (a1 : Sl) (a2 : Sl) (h : AH) : go (.pt F.ref03_Gcd Td.ref03_Gcd_7 [(8, a1.v), (9, a2.v)]) h =
  cond (decide ((a2.len : Int) > 0)) (
  (go (.fn F.ref01_Rest [a1.v, a2.v]) h).bind fun q3 =>
  ((some q3.1).bind AV.asSl).bind fun l4 =>
  go (.pt F.ref03_Gcd Td.ref03_Gcd_7 [(8, a2.v), (9, l4.v)]) q3.2) (
  some (.tup [a1.v, .int .i64 0], h)) := (go_step _ h).trans (by kernel_rfl)

theorem p_ref01_In_3 (a1 : Sl) (a2 : Sl) (a3 : Int) (h : AH) : go (.pt F.ref01_In Td.ref01_In_3 [(0, a1.v), (3, a2.v), (4, .int .i64 a3)]) h =
  cond (decide (a3 < (a1.len : Int))) (
  (idx a1.ref a1.len a3 1).bind fun r4 =>
  ((h.cell r4).bind (AV.asInt .u64)).bind fun n5 =>
  go (.pt F.ref01_In Td.ref01_In_7 [(0, a1.v), (3, a2.v), (4, .int .i64 a3), (5, .int .u64 n5), (6, .int .i64 0)]) h) (
  (go (.fn F.ref01_cut [a2.v]) h).bind fun q6 =>
  ((some q6.1).bind AV.asSl).bind fun l7 =>
  some (l7.v, q6.2)) := (go_step _ h).trans (by kernel_rfl)

theorem p_ref01_mul_3 (a1 : Sl) (a2 : Sl) (a3 : Sl) (a4 : Int) (h : AH) : go (.pt F.ref01_mul Td.ref01_mul_3 [(0, a1.v), (1, a2.v), (5, a3.v), (6, .int .i64 a4)]) h =
  cond (decide (a4 < (a1.len : Int))) (
  go (.pt F.ref01_mul Td.ref01_mul_7 [(0, a1.v), (1, a2.v), (5, a3.v), (6, .int .i64 a4), (7, .int .u64 0), (8, .int .i64 0)]) h) (
  (go (.fn F.ref01_cut [a3.v]) h).bind fun q5 =>
  ((some q5.1).bind AV.asSl).bind fun l6 =>
  some (l6.v, q5.2)) := (go_step _ h).trans (by kernel_rfl)

theorem u_ref01_Out (a1 : Sl) (h : AH) : go (.fn F.ref01_Out [a1.v]) h =
  go (.pt F.ref01_Out Td.ref01_Out_3 [(0, a1.v), (4, (⟨none, 0, .is 0⟩ : Sl).v), (5, .int .i64 0)]) h := (go_step _ h).trans (by kernel_rfl)

theorem u_ref01_compare (a1 : Sl) (a2 : Sl) (h : AH) : go (.fn F.ref01_compare [a1.v, a2.v]) h =
  cond (!decide ((a1.len : Int) = (a2.len : Int))) (
  cond (decide ((a1.len : Int) < (a2.len : Int))) (
  some (.int .i64 (-1), h)) (
  some (.int .i64 1, h))) (
  go (.pt F.ref01_compare Td.ref01_compare_6 [(0, a1.v), (1, a2.v), (5, .int .i64 (IntKind.wrap .i64 ((a1.len : Int) - 1)))]) h) := (go_step _ h).trans (by kernel_rfl)

theorem p_mont_New_5 (a1 : Sl) (a2 : Int) (a3 : Int) (h : AH) : go (.pt F.mont_New Td.mont_New_5 [(0, a1.v), (4, .int .u64 a2), (40, .int .i64 a3)]) h =
  cond (decide (a3 < 6)) (
  (idx a1.ref a1.len 0 1).bind fun r4 =>
  ((h.cell r4).bind (AV.asInt .u64)).bind fun n5 =>
  go (.pt F.mont_New Td.mont_New_5 [(0, a1.v), (4, .int .u64 (IntKind.wrap .u64 (a2 * (IntKind.wrap .u64 (2 - (IntKind.wrap .u64 (n5 * a2))))))), (40, .int .i64 (IntKind.wrap .i64 (a3 + 1)))]) h) (
  (go (.fn F.slices_Clone_api_Nat_uint64 [a1.v]) h).bind fun q6 =>
  ((some q6.1).bind AV.asSl).bind fun l7 =>
  newK q6.2 (.cells [l7.v, .int .u64 (IntKind.wrap .u64 (0 - a2)), (⟨none, 0, .is 0⟩ : Sl).v, (⟨none, 0, .is 0⟩ : Sl).v] T.mont_Ring) fun h8r h8 =>
  (go (.fn F.mont_Ring_rest [.ptr (some h8r), .int .i64 1]) h8).bind fun q9 =>
  ((some q9.1).bind AV.asSl).bind fun l10 =>
  (q9.2.puts (h8r.add 2) [l10.v]).bind fun h11 =>
  (go (.fn F.mont_Ring_rest [.ptr (some h8r), .int .i64 2]) h11).bind fun q12 =>
  ((some q12.1).bind AV.asSl).bind fun l13 =>
  (q12.2.puts (h8r.add 3) [l13.v]).bind fun h14 =>
  some (.tup [.ptr (some h8r), .int .i64 0], h14)) := (go_step _ h).trans (by kernel_rfl)

theorem u_mont_Ring_below (a1 : Option Ref) (a2 : Sl) (h : AH) : go (.fn F.mont_Ring_below [.ptr a1, a2.v]) h =
  newK h (.cells [.ptr a1] T.P_mont_Ring) fun h3r h3 =>
  (go (.fn F.slices_ContainsFunc_api_Nat_api_Nat [a2.v, .func (.func F.mont_Ring_below_1) [] [.ptr (some h3r)]]) h3).bind fun q4 =>
  ((some q4.1).bind AV.asBool).bind fun b5 =>
  some (.bool (!b5), q4.2) := (go_step _ h).trans (by kernel_rfl)

theorem u_mont_Ring_product (a1 : Option Ref) (a2 : Sl) (a3 : Sl) (h : AH) : go (.fn F.mont_Ring_product [.ptr a1, a2.v, a3.v]) h =
  a1.bind fun r4 =>
  ((h.cell (r4.add 0)).bind AV.asSl).bind fun l5 =>
  (makeSliceH (IntKind.wrap .i64 ((l5.len : Int) + 2)) (IntKind.wrap .i64 ((l5.len : Int) + 2)) T.uint64 (Pg.bytesOf T.uint64) [.int .u64 0] h).bind fun q6 =>
  go (.pt F.mont_Ring_product Td.mont_Ring_product_4 [(0, .ptr a1), (1, a2.v), (2, a3.v), (7, .int .i64 (l5.len : Int)), (8, q6.1.v), (20, .int .i64 (l5.len : Int)), (21, .int .i64 0)]) q6.2 := (go_step _ h).trans (by kernel_rfl)

theorem p_mont_Ring_Exp_7__mont_Ring_product (a1 : Option Ref) (a2 : Sl) (a3 : Option Ref) (a4 : Sl) (a5 : Sl) (a6 : Int) (h : AH) : go (.pt F.mont_Ring_Exp Td.mont_Ring_Exp_7 [(0, .ptr a1), (2, a2.v), (8, .func (.func F.mont_Ring_product) [.ptr a3] []), (9, a4.v), (10, a5.v), (44, .int .i64 a6)]) h =
  cond (decide (a6 < 15)) (
  (idx a4.ref a4.len (IntKind.wrap .i64 ((a4.len : Int) - 1)) 1).bind fun r7 =>
  ((h.cell r7).bind AV.asSl).bind fun l8 =>
  (go (.fn F.mont_Ring_product [.ptr a3, l8.v, a5.v]) h).bind fun q9 =>
  ((some q9.1).bind AV.asSl).bind fun l10 =>
  newK q9.2 (.cells [l10.v] T.api_Nat) fun h11r h11 =>
  (appendArgs Pg T.api_Nat ((⟨some h11r, 1, .is 1⟩ : Sl).v) h11).bind fun p13 =>
  (appendH Pg a4 p13.1 p13.2 T.api_Nat 1 h11).bind fun q12 =>
  (AV.asSl q12.1).bind fun l14 =>
  go (.pt F.mont_Ring_Exp Td.mont_Ring_Exp_7 [(0, .ptr a1), (2, a2.v), (8, .func (.func F.mont_Ring_product) [.ptr a3] []), (9, l14.v), (10, a5.v), (44, .int .i64 (IntKind.wrap .i64 (a6 + 1)))]) q12.2) (
  a1.bind fun r15 =>
  ((h.cell (r15.add 2)).bind AV.asSl).bind fun l16 =>
  (go (.fn F.nat_Bits [a2.v]) h).bind fun q17 =>
  ((some q17.1).bind (AV.asInt .i64)).bind fun n18 =>
  go (.pt F.mont_Ring_Exp Td.mont_Ring_Exp_12 [(2, a2.v), (8, .func (.func F.mont_Ring_product) [.ptr a3] []), (9, a4.v), (11, l16.v), (12, .int .i64 (IntKind.wrap .i64 (Int.tdiv (IntKind.wrap .i64 ((IntKind.wrap .i64 (n18 + 4)) - 1)) 4)))]) q17.2) := (go_step _ h).trans (by kernel_rfl)

theorem u_nat_short (a1 : Sl) (a2 : Int) (h : AH) : go (.fn F.nat_short [a1.v, .int .u64 a2]) h =
  (makeSliceH (a1.len : Int) (a1.len : Int) T.uint64 (Pg.bytesOf T.uint64) [.int .u64 0] h).bind fun q3 =>
  go (.pt F.nat_short Td.nat_short_4 [(0, a1.v), (1, .int .u64 a2), (6, q3.1.v), (7, .int .u64 0), (8, .int .i64 (IntKind.wrap .i64 ((a1.len : Int) - 1)))]) q3.2 := (go_step _ h).trans (by kernel_rfl)

theorem u_nat_Of (a1 : Int) (h : AH) : go (.fn F.nat_Of [.int .u64 a1]) h =
  newK h (.cells [.int .u64 a1] T.uint64) fun h2r h2 =>
  (go (.fn F.nat_trim [(⟨some h2r, 1, .is 1⟩ : Sl).v]) h2).bind fun q3 =>
  ((some q3.1).bind AV.asSl).bind fun l4 =>
  some (l4.v, q3.2) := (go_step _ h).trans (by kernel_rfl)

theorem u_nat_long (a1 : Sl) (a2 : Sl) (h : AH) : go (.fn F.nat_long [a1.v, a2.v]) h =
  (idx a2.ref a2.len (IntKind.wrap .i64 ((a2.len : Int) - 1)) 1).bind fun r3 =>
  ((h.cell r3).bind (AV.asInt .u64)).bind fun n4 =>
  (go (.fn F.math_bits_LeadingZeros64 [.int .u64 n4]) h).bind fun q5 =>
  ((some q5.1).bind (AV.asInt .i64)).bind fun n6 =>
  (go (.fn F.nat_up [a1.v, .int .u64 (IntKind.wrap .u64 n6)]) q5.2).bind fun q7 =>
  ((some q7.1).bind AV.asSl).bind fun l8 =>
  (go (.fn F.nat_up [a2.v, .int .u64 (IntKind.wrap .u64 n6)]) q7.2).bind fun q9 =>
  ((some q9.1).bind AV.asSl).bind fun l10 =>
  (go (.fn F.nat_trim [l10.v]) q9.2).bind fun q11 =>
  ((some q11.1).bind AV.asSl).bind fun l12 =>
  (makeSliceH (IntKind.wrap .i64 ((l8.len : Int) - (l12.len : Int))) (IntKind.wrap .i64 ((l8.len : Int) - (l12.len : Int))) T.uint64 (Pg.bytesOf T.uint64) [.int .u64 0] q11.2).bind fun q13 =>
  go (.pt F.nat_long Td.nat_long_6 [(6, .int .u64 (IntKind.wrap .u64 n6)), (7, l8.v), (8, l12.v), (9, .int .i64 (l12.len : Int)), (10, q13.1.v), (11, .int .i64 (IntKind.wrap .i64 ((q13.1.len : Int) - 1)))]) q13.2 := (go_step _ h).trans (by kernel_rfl)

theorem u_nat_Sub (a1 : Sl) (a2 : Sl) (h : AH) : go (.fn F.nat_Sub [a1.v, a2.v]) h =
  newK h (.cells [a1.v, a2.v] T.api_Nat) fun h3r h3 =>
  (go (.fn F.nat_right [(⟨some h3r, 2, .is 2⟩ : Sl).v]) h3).bind fun q4 =>
  ((some q4.1).bind AV.asBool).bind fun b5 =>
  cond (!b5) (
  some (.tup [(⟨none, 0, .is 0⟩ : Sl).v, .int .i64 1], q4.2)) (
  (go (.fn F.nat_compare [a1.v, a2.v]) q4.2).bind fun q6 =>
  ((some q6.1).bind (AV.asInt .i64)).bind fun n7 =>
  cond (decide (n7 < 0)) (
  some (.tup [(⟨none, 0, .is 0⟩ : Sl).v, .int .i64 2], q6.2)) (
  (go (.fn F.nat_less [a1.v, a2.v]) q6.2).bind fun q8 =>
  ((some q8.1).bind AV.asSl).bind fun l9 =>
  (go (.fn F.nat_told [l9.v]) q8.2).bind fun q10 =>
  (AV.asTup2 q10.1).bind fun p11 =>
  ((some p11.1).bind AV.asSl).bind fun l12 =>
  ((some p11.2).bind (AV.asInt .i64)).bind fun n13 =>
  some (.tup [l12.v, .int .i64 n13], q10.2))) := (go_step _ h).trans (by kernel_rfl)

theorem u_math_bits_Mul64 (a1 : Int) (a2 : Int) (h : AH) : go (.fn F.math_bits_Mul64 [.int .u64 a1, .int .u64 a2]) h =
  some (.tup [.int .u64 (IntKind.wrap .u64 ((IntKind.wrap .u64 ((IntKind.wrap .u64 ((ishr .u64 a1 32) * (ishr .u64 a2 32))) + (ishr .u64 (IntKind.wrap .u64 ((IntKind.wrap .u64 ((ishr .u64 a1 32) * (iand .u64 a2 4294967295))) + (ishr .u64 (IntKind.wrap .u64 ((iand .u64 a1 4294967295) * (iand .u64 a2 4294967295))) 32))) 32))) + (ishr .u64 (IntKind.wrap .u64 ((iand .u64 (IntKind.wrap .u64 ((IntKind.wrap .u64 ((ishr .u64 a1 32) * (iand .u64 a2 4294967295))) + (ishr .u64 (IntKind.wrap .u64 ((iand .u64 a1 4294967295) * (iand .u64 a2 4294967295))) 32))) 4294967295) + (IntKind.wrap .u64 ((iand .u64 a1 4294967295) * (ishr .u64 a2 32))))) 32))), .int .u64 (IntKind.wrap .u64 (a1 * a2))], h) := (go_step _ h).trans (by kernel_rfl)

theorem u_prime_divisors (a1 : Int) (h : AH) : go (.fn F.prime_divisors [.int .u64 a1]) h =
  newK h (.cells [.int .u64 a1] T.uint64) fun h2r h2 =>
  some (.func (.func F.prime_divisors_1) [] [.ptr (some h2r)], h2) := (go_step _ h).trans (by kernel_rfl)

theorem l_prime_least_0 (a1 : Int) (a2 : Ref) (a3 : Ref) (a4 : Int) (a5 : AV) (h : AH) : go (.pt F.prime_least Tr.prime_least_0 [(0, .int .u64 a1), (1, .ptr (some a2)), (2, .ptr (some a3)), (4, .int .u64 a4), (5, a5)]) h =
  funcK a5 fun g10 f11 c12 =>
  newM h (loopBlk Try.f37 F.prime_least 0 .ready none [(0, .int .u64 a1), (1, .ptr (some a2)), (2, .ptr (some a3)), (4, .int .u64 a4), (5, a5)]) fun m6 h7 =>
  (callF Pg go g10 (f11 ++ [.func (.yield m6) [] []] ++ c12) h7).bind fun q8 =>
  (endLoopA m6 q8.2).bind fun p9 =>
  go (.pt F.prime_least ((p9.1.map Item.code).toList ++ Ta.prime_least_0) [(0, .int .u64 a1), (1, .ptr (some a2)), (2, .ptr (some a3)), (4, .int .u64 a4), (5, a5)]) p9.2 := (go_step _ h).trans (by kernel_rfl)

theorem p_nat_compare_6 (a1 : Sl) (a2 : Sl) (a3 : Int) (h : AH) : go (.pt F.nat_compare Td.nat_compare_6 [(0, a1.v), (1, a2.v), (5, .int .i64 a3)]) h =
  cond (decide (a3 ≥ 0)) (
  (idx a1.ref a1.len a3 1).bind fun r4 =>
  ((h.cell r4).bind (AV.asInt .u64)).bind fun n5 =>
  (idx a2.ref a2.len a3 1).bind fun r6 =>
  ((h.cell r6).bind (AV.asInt .u64)).bind fun n7 =>
  cond (!decide (n5 = n7)) (
  (idx a1.ref a1.len a3 1).bind fun r8 =>
  ((h.cell r8).bind (AV.asInt .u64)).bind fun n9 =>
  (idx a2.ref a2.len a3 1).bind fun r10 =>
  ((h.cell r10).bind (AV.asInt .u64)).bind fun n11 =>
  cond (decide (n9 < n11)) (
  some (.int .i64 (-1), h)) (
  some (.int .i64 1, h))) (
  go (.pt F.nat_compare Td.nat_compare_6 [(0, a1.v), (1, a2.v), (5, .int .i64 (IntKind.wrap .i64 (a3 - 1)))]) h)) (
  some (.int .i64 0, h)) := (go_step _ h).trans (by kernel_rfl)

theorem u_slices_IndexFunc_api_Nat_api_Nat__nat_right_1 (a1 : Sl) (h : AH) : go (.fn F.slices_IndexFunc_api_Nat_api_Nat [a1.v, .func (.func F.nat_right_1) [] []]) h =
  go (.pt F.slices_IndexFunc_api_Nat_api_Nat Td.slices_IndexFunc_api_Nat_api_Nat_2 [(0, a1.v), (1, .func (.func F.nat_right_1) [] []), (7, .int .i64 (a1.len : Int)), (8, .int .i64 0)]) h := (go_step _ h).trans (by kernel_rfl)

theorem u_ref01_Rest (a1 : Sl) (a2 : Sl) (h : AH) : go (.fn F.ref01_Rest [a1.v, a2.v]) h =
  (go (.fn F.ref01_Div [a1.v, a2.v]) h).bind fun q3 =>
  (AV.asTup3 q3.1).bind fun p4 =>
  ((some p4.1).bind AV.asSl).bind fun l5 =>
  ((some p4.2.1).bind AV.asSl).bind fun l6 =>
  ((some p4.2.2).bind (AV.asInt .i64)).bind fun n7 =>
  some (l6.v, q3.2) := (go_step _ h).trans (by kernel_rfl)

theorem p_ref01_In_7 (a1 : Sl) (a2 : Sl) (a3 : Int) (a4 : Int) (a5 : Int) (h : AH) : go (.pt F.ref01_In Td.ref01_In_7 [(0, a1.v), (3, a2.v), (4, .int .i64 a3), (5, .int .u64 a4), (6, .int .i64 a5)]) h =
  cond (decide (a5 < 4)) (
  newK h (.cells [.int .u64 (Int.tmod a4 65536)] T.uint64) fun h6r h6 =>
  (appendArgs Pg T.uint64 ((⟨some h6r, 1, .is 1⟩ : Sl).v) h6).bind fun p8 =>
  (appendH Pg a2 p8.1 p8.2 T.uint64 1 h6).bind fun q7 =>
  (AV.asSl q7.1).bind fun l9 =>
  go (.pt F.ref01_In Td.ref01_In_7 [(0, a1.v), (3, l9.v), (4, .int .i64 a3), (5, .int .u64 (IntKind.wrap .u64 (Int.tdiv a4 65536))), (6, .int .i64 (IntKind.wrap .i64 (a5 + 1)))]) q7.2) (
  go (.pt F.ref01_In Td.ref01_In_3 [(0, a1.v), (3, a2.v), (4, .int .i64 (IntKind.wrap .i64 (a3 + 1)))]) h) := (go_step _ h).trans (by kernel_rfl)

theorem u_ref01_cut (a1 : Sl) (h : AH) : go (.fn F.ref01_cut [a1.v]) h =
  go (.pt F.ref01_cut Td.ref01_cut_2 [(0, a1.v), (3, .int .i64 (a1.len : Int))]) h := (go_step _ h).trans (by kernel_rfl)

theorem p_ref01_mul_7 (a1 : Sl) (a2 : Sl) (a3 : Sl) (a4 : Int) (a5 : Int) (a6 : Int) (h : AH) : go (.pt F.ref01_mul Td.ref01_mul_7 [(0, a1.v), (1, a2.v), (5, a3.v), (6, .int .i64 a4), (7, .int .u64 a5), (8, .int .i64 a6)]) h =
  cond (decide (a6 < (a2.len : Int))) (
  (idx a3.ref a3.len (IntKind.wrap .i64 (a4 + a6)) 1).bind fun r7 =>
  ((h.cell r7).bind (AV.asInt .u64)).bind fun n8 =>
  (idx a1.ref a1.len a4 1).bind fun r9 =>
  ((h.cell r9).bind (AV.asInt .u64)).bind fun n10 =>
  (idx a2.ref a2.len a6 1).bind fun r11 =>
  ((h.cell r11).bind (AV.asInt .u64)).bind fun n12 =>
  (idx a3.ref a3.len (IntKind.wrap .i64 (a4 + a6)) 1).bind fun r13 =>
  (h.puts r13 [.int .u64 (Int.tmod (IntKind.wrap .u64 ((IntKind.wrap .u64 (n8 + (IntKind.wrap .u64 (n10 * n12)))) + a5)) 65536)]).bind fun h14 =>
  go (.pt F.ref01_mul Td.ref01_mul_7 [(0, a1.v), (1, a2.v), (5, a3.v), (6, .int .i64 a4), (7, .int .u64 (IntKind.wrap .u64 (Int.tdiv (IntKind.wrap .u64 ((IntKind.wrap .u64 (n8 + (IntKind.wrap .u64 (n10 * n12)))) + a5)) 65536))), (8, .int .i64 (IntKind.wrap .i64 (a6 + 1)))]) h14) (
  (idx a3.ref a3.len (IntKind.wrap .i64 (a4 + (a2.len : Int))) 1).bind fun r15 =>
  (h.puts r15 [.int .u64 a5]).bind fun h16 =>
  go (.pt F.ref01_mul Td.ref01_mul_3 [(0, a1.v), (1, a2.v), (5, a3.v), (6, .int .i64 (IntKind.wrap .i64 (a4 + 1)))]) h16) := (go_step _ h).trans (by kernel_rfl)

theorem p_ref01_Out_3 (a1 : Sl) (a2 : Sl) (a3 : Int) (h : AH) : go (.pt F.ref01_Out Td.ref01_Out_3 [(0, a1.v), (4, a2.v), (5, .int .i64 a3)]) h =
  cond (decide (a3 < (a1.len : Int))) (
  go (.pt F.ref01_Out Td.ref01_Out_7 [(0, a1.v), (4, a2.v), (5, .int .i64 a3), (6, .int .u64 0), (7, .int .i64 3)]) h) (
  some (.tup [a2.v, .bool (decide ((a2.len : Int) ≤ 64))], h)) := (go_step _ h).trans (by kernel_rfl)

theorem p_ref01_compare_6 (a1 : Sl) (a2 : Sl) (a3 : Int) (h : AH) : go (.pt F.ref01_compare Td.ref01_compare_6 [(0, a1.v), (1, a2.v), (5, .int .i64 a3)]) h =
  cond (decide (a3 ≥ 0)) (
  (idx a1.ref a1.len a3 1).bind fun r4 =>
  ((h.cell r4).bind (AV.asInt .u64)).bind fun n5 =>
  (idx a2.ref a2.len a3 1).bind fun r6 =>
  ((h.cell r6).bind (AV.asInt .u64)).bind fun n7 =>
  cond (decide (n5 < n7)) (
  some (.int .i64 (-1), h)) (
  (idx a1.ref a1.len a3 1).bind fun r8 =>
  ((h.cell r8).bind (AV.asInt .u64)).bind fun n9 =>
  (idx a2.ref a2.len a3 1).bind fun r10 =>
  ((h.cell r10).bind (AV.asInt .u64)).bind fun n11 =>
  cond (decide (n9 > n11)) (
  some (.int .i64 1, h)) (
  go (.pt F.ref01_compare Td.ref01_compare_6 [(0, a1.v), (1, a2.v), (5, .int .i64 (IntKind.wrap .i64 (a3 - 1)))]) h))) (
  some (.int .i64 0, h)) := (go_step _ h).trans (by kernel_rfl)

theorem u_mont_Ring_rest (a1 : Option Ref) (a2 : Int) (h : AH) : go (.fn F.mont_Ring_rest [.ptr a1, .int .i64 a2]) h =
  a1.bind fun r3 =>
  ((h.cell (r3.add 0)).bind AV.asSl).bind fun l4 =>
  (makeSliceH (IntKind.wrap .i64 ((IntKind.wrap .i64 (a2 * (l4.len : Int))) + 1)) (IntKind.wrap .i64 ((IntKind.wrap .i64 (a2 * (l4.len : Int))) + 1)) T.uint64 (Pg.bytesOf T.uint64) [.int .u64 0] h).bind fun q5 =>
  a1.bind fun r6 =>
  ((q5.2.cell (r6.add 0)).bind AV.asSl).bind fun l7 =>
  (idx q5.1.ref q5.1.len (IntKind.wrap .i64 (a2 * (l7.len : Int))) 1).bind fun r8 =>
  (q5.2.puts r8 [.int .u64 1]).bind fun h9 =>
  a1.bind fun r10 =>
  ((h9.cell (r10.add 0)).bind AV.asSl).bind fun l11 =>
  (go (.fn F.nat_Div [q5.1.v, l11.v]) h9).bind fun q12 =>
  (AV.asTup3 q12.1).bind fun p13 =>
  ((some p13.1).bind AV.asSl).bind fun l14 =>
  ((some p13.2.1).bind AV.asSl).bind fun l15 =>
  ((some p13.2.2).bind (AV.asInt .i64)).bind fun n16 =>
  some (l15.v, q12.2) := (go_step _ h).trans (by kernel_rfl)

theorem u_slices_ContainsFunc_api_Nat_api_Nat__mont_Ring_below_1 (a1 : Sl) (a2 : Option Ref) (h : AH) : go (.fn F.slices_ContainsFunc_api_Nat_api_Nat [a1.v, .func (.func F.mont_Ring_below_1) [] [.ptr a2]]) h =
  (go (.fn F.slices_IndexFunc_api_Nat_api_Nat [a1.v, .func (.func F.mont_Ring_below_1) [] [.ptr a2]]) h).bind fun q3 =>
  ((some q3.1).bind (AV.asInt .i64)).bind fun n4 =>
  some (.bool (decide (n4 ≥ 0)), q3.2) := (go_step _ h).trans (by kernel_rfl)

theorem p_mont_Ring_product_4 (a1 : Option Ref) (a2 : Sl) (a3 : Sl) (a4 : Int) (a5 : Sl) (a6 : Int) (a7 : Int) (h : AH) : go (.pt F.mont_Ring_product Td.mont_Ring_product_4 [(0, .ptr a1), (1, a2.v), (2, a3.v), (7, .int .i64 a4), (8, a5.v), (20, .int .i64 a6), (21, .int .i64 a7)]) h =
  cond (decide (a7 < a6)) (
  cond (decide (a7 < (a2.len : Int))) (
  (idx a2.ref a2.len a7 1).bind fun r8 =>
  ((h.cell r8).bind (AV.asInt .u64)).bind fun n9 =>
  (go (.fn F.mont_add [a5.v, a3.v, .int .u64 n9]) h).bind fun q10 =>
  (AV.asTup0 q10.1).bind fun _ =>
  a1.bind fun r11 =>
  ((q10.2.cell (r11.add 0)).bind AV.asSl).bind fun l12 =>
  (idx a5.ref a5.len 0 1).bind fun r13 =>
  ((q10.2.cell r13).bind (AV.asInt .u64)).bind fun n14 =>
  a1.bind fun r15 =>
  ((q10.2.cell (r15.add 1)).bind (AV.asInt .u64)).bind fun n16 =>
  (go (.fn F.mont_add [a5.v, l12.v, .int .u64 (IntKind.wrap .u64 (n14 * n16))]) q10.2).bind fun q17 =>
  (AV.asTup0 q17.1).bind fun _ =>
  (cutSl a5 1 (a5.len : Int) 1).bind fun l18 =>
  (copyH l18 a5 1 q17.2).bind fun h19 =>
  (idx a5.ref a5.len (IntKind.wrap .i64 (a4 + 1)) 1).bind fun r20 =>
  (h19.puts r20 [.int .u64 0]).bind fun h21 =>
  go (.pt F.mont_Ring_product Td.mont_Ring_product_4 [(0, .ptr a1), (1, a2.v), (2, a3.v), (7, .int .i64 a4), (8, a5.v), (20, .int .i64 a6), (21, .int .i64 (IntKind.wrap .i64 (a7 + 1)))]) h21) (
  (go (.fn F.mont_add [a5.v, a3.v, .int .u64 0]) h).bind fun q22 =>
  (AV.asTup0 q22.1).bind fun _ =>
  a1.bind fun r23 =>
  ((q22.2.cell (r23.add 0)).bind AV.asSl).bind fun l24 =>
  (idx a5.ref a5.len 0 1).bind fun r25 =>
  ((q22.2.cell r25).bind (AV.asInt .u64)).bind fun n26 =>
  a1.bind fun r27 =>
  ((q22.2.cell (r27.add 1)).bind (AV.asInt .u64)).bind fun n28 =>
  (go (.fn F.mont_add [a5.v, l24.v, .int .u64 (IntKind.wrap .u64 (n26 * n28))]) q22.2).bind fun q29 =>
  (AV.asTup0 q29.1).bind fun _ =>
  (cutSl a5 1 (a5.len : Int) 1).bind fun l30 =>
  (copyH l30 a5 1 q29.2).bind fun h31 =>
  (idx a5.ref a5.len (IntKind.wrap .i64 (a4 + 1)) 1).bind fun r32 =>
  (h31.puts r32 [.int .u64 0]).bind fun h33 =>
  go (.pt F.mont_Ring_product Td.mont_Ring_product_4 [(0, .ptr a1), (1, a2.v), (2, a3.v), (7, .int .i64 a4), (8, a5.v), (20, .int .i64 a6), (21, .int .i64 (IntKind.wrap .i64 (a7 + 1)))]) h33)) (
  (go (.fn F.mont_trim [a5.v]) h).bind fun q34 =>
  ((some q34.1).bind AV.asSl).bind fun l35 =>
  a1.bind fun r36 =>
  ((q34.2.cell (r36.add 0)).bind AV.asSl).bind fun l37 =>
  (go (.fn F.nat_Cmp [l35.v, l37.v]) q34.2).bind fun q38 =>
  ((some q38.1).bind (AV.asInt .i64)).bind fun n39 =>
  cond (decide (n39 ≥ 0)) (
  a1.bind fun r40 =>
  ((q38.2.cell (r40.add 0)).bind AV.asSl).bind fun l41 =>
  (go (.fn F.nat_Sub [l35.v, l41.v]) q38.2).bind fun q42 =>
  (AV.asTup2 q42.1).bind fun p43 =>
  ((some p43.1).bind AV.asSl).bind fun l44 =>
  ((some p43.2).bind (AV.asInt .i64)).bind fun n45 =>
  some (l44.v, q42.2)) (
  some (l35.v, q38.2))) := (go_step _ h).trans (by kernel_rfl)

theorem p_mont_Ring_Exp_12__mont_Ring_product (a1 : Sl) (a2 : Option Ref) (a3 : Sl) (a4 : Sl) (a5 : Int) (h : AH) : go (.pt F.mont_Ring_Exp Td.mont_Ring_Exp_12 [(2, a1.v), (8, .func (.func F.mont_Ring_product) [.ptr a2] []), (9, a3.v), (11, a4.v), (12, .int .i64 a5)]) h =
  cond (decide (a5 > 0)) (
  go (.pt F.mont_Ring_Exp Td.mont_Ring_Exp_16 [(2, a1.v), (8, .func (.func F.mont_Ring_product) [.ptr a2] []), (9, a3.v), (11, a4.v), (12, .int .i64 a5), (13, .int .i64 0), (72, .int .i64 0)]) h) (
  newK h (.cells [.int .u64 1] T.uint64) fun h6r h6 =>
  (go (.fn F.mont_Ring_product [.ptr a2, a4.v, (⟨some h6r, 1, .is 1⟩ : Sl).v]) h6).bind fun q7 =>
  ((some q7.1).bind AV.asSl).bind fun l8 =>
  some (.tup [l8.v, .int .i64 0], q7.2)) := (go_step _ h).trans (by kernel_rfl)

theorem p_nat_short_4 (a1 : Sl) (a2 : Int) (a3 : Sl) (a4 : Int) (a5 : Int) (h : AH) : go (.pt F.nat_short Td.nat_short_4 [(0, a1.v), (1, .int .u64 a2), (6, a3.v), (7, .int .u64 a4), (8, .int .i64 a5)]) h =
  cond (decide (a5 ≥ 0)) (
  (idx a1.ref a1.len a5 1).bind fun r6 =>
  ((h.cell r6).bind (AV.asInt .u64)).bind fun n7 =>
  (go (.fn F.math_bits_Div64 [.int .u64 a4, .int .u64 n7, .int .u64 a2]) h).bind fun q8 =>
  (AV.asTup2 q8.1).bind fun p9 =>
  ((some p9.1).bind (AV.asInt .u64)).bind fun n10 =>
  ((some p9.2).bind (AV.asInt .u64)).bind fun n11 =>
  (idx a3.ref a3.len a5 1).bind fun r12 =>
  (q8.2.puts r12 [.int .u64 n10]).bind fun h13 =>
  go (.pt F.nat_short Td.nat_short_4 [(0, a1.v), (1, .int .u64 a2), (6, a3.v), (7, .int .u64 n11), (8, .int .i64 (IntKind.wrap .i64 (a5 - 1)))]) h13) (
  (go (.fn F.nat_trim [a3.v]) h).bind fun q14 =>
  ((some q14.1).bind AV.asSl).bind fun l15 =>
  some (.tup [l15.v, .int .u64 a4], q14.2)) := (go_step _ h).trans (by kernel_rfl)

theorem u_math_bits_LeadingZeros64 (a1 : Int) (h : AH) : go (.fn F.math_bits_LeadingZeros64 [.int .u64 a1]) h =
  (go (.fn F.math_bits_Len64 [.int .u64 a1]) h).bind fun q2 =>
  ((some q2.1).bind (AV.asInt .i64)).bind fun n3 =>
  some (.int .i64 (IntKind.wrap .i64 (64 - n3)), q2.2) := (go_step _ h).trans (by kernel_rfl)

theorem u_nat_up (a1 : Sl) (a2 : Int) (h : AH) : go (.fn F.nat_up [a1.v, .int .u64 a2]) h =
  (makeSliceH (IntKind.wrap .i64 ((a1.len : Int) + 1)) (IntKind.wrap .i64 ((a1.len : Int) + 1)) T.uint64 (Pg.bytesOf T.uint64) [.int .u64 0] h).bind fun q3 =>
  go (.pt F.nat_up Td.nat_up_3 [(1, .int .u64 a2), (5, q3.1.v), (12, a1.v), (13, .int .i64 (a1.len : Int)), (14, .int .i64 0)]) q3.2 := (go_step _ h).trans (by kernel_rfl)

theorem p_nat_long_6 (a1 : Int) (a2 : Sl) (a3 : Sl) (a4 : Int) (a5 : Sl) (a6 : Int) (h : AH) : go (.pt F.nat_long Td.nat_long_6 [(6, .int .u64 a1), (7, a2.v), (8, a3.v), (9, .int .i64 a4), (10, a5.v), (11, .int .i64 a6)]) h =
  cond (decide (a6 ≥ 0)) (
  (idx a2.ref a2.len (IntKind.wrap .i64 (a6 + a4)) 1).bind fun r7 =>
  ((h.cell r7).bind (AV.asInt .u64)).bind fun n8 =>
  (idx a2.ref a2.len (IntKind.wrap .i64 ((IntKind.wrap .i64 (a6 + a4)) - 1)) 1).bind fun r9 =>
  ((h.cell r9).bind (AV.asInt .u64)).bind fun n10 =>
  (idx a2.ref a2.len (IntKind.wrap .i64 ((IntKind.wrap .i64 (a6 + a4)) - 2)) 1).bind fun r11 =>
  ((h.cell r11).bind (AV.asInt .u64)).bind fun n12 =>
  (idx a3.ref a3.len (IntKind.wrap .i64 (a4 - 1)) 1).bind fun r13 =>
  ((h.cell r13).bind (AV.asInt .u64)).bind fun n14 =>
  (idx a3.ref a3.len (IntKind.wrap .i64 (a4 - 2)) 1).bind fun r15 =>
  ((h.cell r15).bind (AV.asInt .u64)).bind fun n16 =>
  (go (.fn F.nat_guess [.int .u64 n8, .int .u64 n10, .int .u64 n12, .int .u64 n14, .int .u64 n16]) h).bind fun q17 =>
  ((some q17.1).bind (AV.asInt .u64)).bind fun n18 =>
  (cutSl a2 a6 (IntKind.wrap .i64 ((IntKind.wrap .i64 (a6 + a4)) + 1)) 1).bind fun l19 =>
  go (.pt F.nat_long Td.nat_long_10 [(6, .int .u64 a1), (7, a2.v), (8, a3.v), (9, .int .i64 a4), (10, a5.v), (11, .int .i64 a6), (12, .int .u64 n18), (13, l19.v)]) q17.2) (
  (go (.fn F.nat_trim [a2.v]) h).bind fun q20 =>
  ((some q20.1).bind AV.asSl).bind fun l21 =>
  (makeSliceH (l21.len : Int) (l21.len : Int) T.uint64 (Pg.bytesOf T.uint64) [.int .u64 0] q20.2).bind fun q22 =>
  go (.pt F.nat_long Td.nat_long_18 [(6, .int .u64 a1), (10, a5.v), (15, l21.v), (16, q22.1.v), (112, .int .i64 (l21.len : Int)), (113, .int .i64 0)]) q22.2) := (go_step _ h).trans (by kernel_rfl)

theorem r_prime_least_0 (l : Nat) (pe : Option Code) (a1 : Int) (a2 : Ref) (a3 : Ref) (a4 : Int) (a5 : AV) (a6 : Int) (h : AH) (hb : h.blks[l]? = some (loopBlk Try.f37 F.prime_least 0 .ready pe [(0, .int .u64 a1), (1, .ptr (some a2)), (2, .ptr (some a3)), (4, .int .u64 a4), (5, a5)])) : go (.round l [.int .u64 a6]) h =
  (beginA l h).bind fun h7 =>
  ((h7.cell a2).bind (AV.asInt .u64)).bind fun n8 =>
  cond (decide (a6 = 0)) none (
  cond (decide ((Int.tmod n8 a6) = 0)) (
  (h7.puts a3 [.int .u64 a6]).bind fun h9 =>
  endRoundA l (some .ret) h9) (
  endRoundA l none h7)) := (go_step _ h).trans ((stepA_round hb).trans (by kernel_rfl))

theorem a_prime_least_0_none (a1 : Int) (a2 : Ref) (a3 : Ref) (a4 : Int) (a5 : AV) (h : AH) : go (.pt F.prime_least ((Option.map Item.code none).toList ++ Ta.prime_least_0) [(0, .int .u64 a1), (1, .ptr (some a2)), (2, .ptr (some a3)), (4, .int .u64 a4), (5, a5)]) h =
  ((h.cell a2).bind (AV.asInt .u64)).bind fun n6 =>
  (h.puts a3 [.int .u64 n6]).bind fun h7 =>
  ((h7.cell a3).bind (AV.asInt .u64)).bind fun n8 =>
  some (.int .u64 n8, h7) := (go_step _ h).trans (by kernel_rfl)

theorem a_prime_least_0_ret (a1 : Int) (a2 : Ref) (a3 : Ref) (a4 : Int) (a5 : AV) (h : AH) : go (.pt F.prime_least ((Option.map Item.code (some .ret)).toList ++ Ta.prime_least_0) [(0, .int .u64 a1), (1, .ptr (some a2)), (2, .ptr (some a3)), (4, .int .u64 a4), (5, a5)]) h =
  ((h.cell a3).bind (AV.asInt .u64)).bind fun n6 =>
  some (.int .u64 n6, h) := (go_step _ h).trans (by kernel_rfl)

theorem p_slices_IndexFunc_api_Nat_api_Nat_2__nat_right_1 (a1 : Sl) (a2 : Int) (a3 : Int) (h : AH) : go (.pt F.slices_IndexFunc_api_Nat_api_Nat Td.slices_IndexFunc_api_Nat_api_Nat_2 [(0, a1.v), (1, .func (.func F.nat_right_1) [] []), (7, .int .i64 a2), (8, .int .i64 a3)]) h =
  cond (decide (a3 < a2)) (
  (idx a1.ref a1.len a3 1).bind fun r4 =>
  ((h.cell r4).bind AV.asSl).bind fun l5 =>
  (go (.fn F.nat_right_1 [l5.v]) h).bind fun q6 =>
  ((some q6.1).bind AV.asBool).bind fun b7 =>
  cond b7 (
  some (.int .i64 a3, q6.2)) (
  go (.pt F.slices_IndexFunc_api_Nat_api_Nat Td.slices_IndexFunc_api_Nat_api_Nat_2 [(0, a1.v), (1, .func (.func F.nat_right_1) [] []), (7, .int .i64 a2), (8, .int .i64 (IntKind.wrap .i64 (a3 + 1)))]) q6.2)) (
  some (.int .i64 (-1), h)) := (go_step _ h).trans (by kernel_rfl)

theorem u_ref01_Div (a1 : Sl) (a2 : Sl) (h : AH) : go (.fn F.ref01_Div [a1.v, a2.v]) h =
  (go (.fn F.ref01_Right [a1.v]) h).bind fun q3 =>
  ((some q3.1).bind AV.asBool).bind fun b4 =>
  (go (.fn F.ref01_Right [a2.v]) q3.2).bind fun q5 =>
  ((some q5.1).bind AV.asBool).bind fun b6 =>
  cond (!b4) (
  some (.tup [(⟨none, 0, .is 0⟩ : Sl).v, (⟨none, 0, .is 0⟩ : Sl).v, .int .i64 1], q5.2)) (
  cond (!b6) (
  some (.tup [(⟨none, 0, .is 0⟩ : Sl).v, (⟨none, 0, .is 0⟩ : Sl).v, .int .i64 1], q5.2)) (
  cond (decide ((a2.len : Int) = 0)) (
  some (.tup [(⟨none, 0, .is 0⟩ : Sl).v, (⟨none, 0, .is 0⟩ : Sl).v, .int .i64 3], q5.2)) (
  (go (.fn F.ref01_In [a1.v]) q5.2).bind fun q7 =>
  ((some q7.1).bind AV.asSl).bind fun l8 =>
  (go (.fn F.ref01_In [a2.v]) q7.2).bind fun q9 =>
  ((some q9.1).bind AV.asSl).bind fun l10 =>
  (go (.fn F.ref01_div [l8.v, l10.v]) q9.2).bind fun q11 =>
  (AV.asTup2 q11.1).bind fun p12 =>
  ((some p12.1).bind AV.asSl).bind fun l13 =>
  ((some p12.2).bind AV.asSl).bind fun l14 =>
  (go (.fn F.ref01_Out [l13.v]) q11.2).bind fun q15 =>
  (AV.asTup2 q15.1).bind fun p16 =>
  ((some p16.1).bind AV.asSl).bind fun l17 =>
  ((some p16.2).bind AV.asBool).bind fun b18 =>
  (go (.fn F.ref01_Out [l14.v]) q15.2).bind fun q19 =>
  (AV.asTup2 q19.1).bind fun p20 =>
  ((some p20.1).bind AV.asSl).bind fun l21 =>
  ((some p20.2).bind AV.asBool).bind fun b22 =>
  some (.tup [l17.v, l21.v, .int .i64 0], q19.2)))) := (go_step _ h).trans (by kernel_rfl)

theorem p_ref01_cut_2 (a1 : Sl) (a2 : Int) (h : AH) : go (.pt F.ref01_cut Td.ref01_cut_2 [(0, a1.v), (3, .int .i64 a2)]) h =
  cond (decide (a2 > 0)) (
  (idx a1.ref a1.len (IntKind.wrap .i64 (a2 - 1)) 1).bind fun r3 =>
  ((h.cell r3).bind (AV.asInt .u64)).bind fun n4 =>
  cond (decide (n4 = 0)) (
  go (.pt F.ref01_cut Td.ref01_cut_2 [(0, a1.v), (3, .int .i64 (IntKind.wrap .i64 (a2 - 1)))]) h) (
  (cutSl a1 0 a2 1).bind fun l5 =>
  some (l5.v, h))) (
  (cutSl a1 0 a2 1).bind fun l6 =>
  some (l6.v, h)) := (go_step _ h).trans (by kernel_rfl)

theorem p_ref01_Out_7 (a1 : Sl) (a2 : Sl) (a3 : Int) (a4 : Int) (a5 : Int) (h : AH) : go (.pt F.ref01_Out Td.ref01_Out_7 [(0, a1.v), (4, a2.v), (5, .int .i64 a3), (6, .int .u64 a4), (7, .int .i64 a5)]) h =
  cond (decide (a5 ≥ 0)) (
  cond (decide ((IntKind.wrap .i64 (a3 + a5)) < (a1.len : Int))) (
  (idx a1.ref a1.len (IntKind.wrap .i64 (a3 + a5)) 1).bind fun r6 =>
  ((h.cell r6).bind (AV.asInt .u64)).bind fun n7 =>
  go (.pt F.ref01_Out Td.ref01_Out_7 [(0, a1.v), (4, a2.v), (5, .int .i64 a3), (6, .int .u64 (IntKind.wrap .u64 ((IntKind.wrap .u64 (a4 * 65536)) + n7))), (7, .int .i64 (IntKind.wrap .i64 (a5 - 1)))]) h) (
  go (.pt F.ref01_Out Td.ref01_Out_7 [(0, a1.v), (4, a2.v), (5, .int .i64 a3), (6, .int .u64 (IntKind.wrap .u64 (a4 * 65536))), (7, .int .i64 (IntKind.wrap .i64 (a5 - 1)))]) h)) (
  newK h (.cells [.int .u64 a4] T.uint64) fun h8r h8 =>
  (appendArgs Pg T.uint64 ((⟨some h8r, 1, .is 1⟩ : Sl).v) h8).bind fun p10 =>
  (appendH Pg a2 p10.1 p10.2 T.uint64 1 h8).bind fun q9 =>
  (AV.asSl q9.1).bind fun l11 =>
  go (.pt F.ref01_Out Td.ref01_Out_3 [(0, a1.v), (4, l11.v), (5, .int .i64 (IntKind.wrap .i64 (a3 + 4)))]) q9.2) := (go_step _ h).trans (by kernel_rfl)

theorem u_slices_IndexFunc_api_Nat_api_Nat__mont_Ring_below_1 (a1 : Sl) (a2 : Option Ref) (h : AH) : go (.fn F.slices_IndexFunc_api_Nat_api_Nat [a1.v, .func (.func F.mont_Ring_below_1) [] [.ptr a2]]) h =
  go (.pt F.slices_IndexFunc_api_Nat_api_Nat Td.slices_IndexFunc_api_Nat_api_Nat_2 [(0, a1.v), (1, .func (.func F.mont_Ring_below_1) [] [.ptr a2]), (7, .int .i64 (a1.len : Int)), (8, .int .i64 0)]) h := (go_step _ h).trans (by kernel_rfl)

theorem u_mont_add (a1 : Sl) (a2 : Sl) (a3 : Int) (h : AH) : go (.fn F.mont_add [a1.v, a2.v, .int .u64 a3]) h =
  go (.pt F.mont_add Td.mont_add_2 [(0, a1.v), (1, a2.v), (2, .int .u64 a3), (6, .int .u64 0), (12, .int .i64 (a1.len : Int)), (13, .int .i64 0)]) h := (go_step _ h).trans (by kernel_rfl)

theorem u_mont_trim (a1 : Sl) (h : AH) : go (.fn F.mont_trim [a1.v]) h =
  go (.pt F.mont_trim Td.mont_trim_2 [(0, a1.v), (3, .int .i64 (a1.len : Int))]) h := (go_step _ h).trans (by kernel_rfl)

theorem p_mont_Ring_Exp_16__mont_Ring_product (a1 : Sl) (a2 : Option Ref) (a3 : Sl) (a4 : Sl) (a5 : Int) (a6 : Int) (a7 : Int) (h : AH) : go (.pt F.mont_Ring_Exp Td.mont_Ring_Exp_16 [(2, a1.v), (8, .func (.func F.mont_Ring_product) [.ptr a2] []), (9, a3.v), (11, a4.v), (12, .int .i64 a5), (13, .int .i64 a6), (72, .int .i64 a7)]) h =
  cond (decide (a7 < 4)) (
  (go (.fn F.mont_Ring_product [.ptr a2, a4.v, a4.v]) h).bind fun q8 =>
  ((some q8.1).bind AV.asSl).bind fun l9 =>
  (go (.fn F.nat_Bit [a1.v, .int .i64 (IntKind.wrap .i64 ((IntKind.wrap .i64 ((IntKind.wrap .i64 (a5 * 4)) - 1)) - a7))]) q8.2).bind fun q10 =>
  ((some q10.1).bind AV.asBool).bind fun b11 =>
  cond b11 (
  cond (decide ((IntKind.wrap .i64 (3 - a7)) < 0)) none (
  go (.pt F.mont_Ring_Exp Td.mont_Ring_Exp_16 [(2, a1.v), (8, .func (.func F.mont_Ring_product) [.ptr a2] []), (9, a3.v), (11, l9.v), (12, .int .i64 a5), (13, .int .i64 (ior .i64 a6 (ishl .i64 1 (IntKind.wrap .i64 (3 - a7))))), (72, .int .i64 (IntKind.wrap .i64 (a7 + 1)))]) q10.2)) (
  go (.pt F.mont_Ring_Exp Td.mont_Ring_Exp_16 [(2, a1.v), (8, .func (.func F.mont_Ring_product) [.ptr a2] []), (9, a3.v), (11, l9.v), (12, .int .i64 a5), (13, .int .i64 a6), (72, .int .i64 (IntKind.wrap .i64 (a7 + 1)))]) q10.2)) (
  (idx a3.ref a3.len a6 1).bind fun r12 =>
  ((h.cell r12).bind AV.asSl).bind fun l13 =>
  (go (.fn F.mont_Ring_product [.ptr a2, a4.v, l13.v]) h).bind fun q14 =>
  ((some q14.1).bind AV.asSl).bind fun l15 =>
  go (.pt F.mont_Ring_Exp Td.mont_Ring_Exp_12 [(2, a1.v), (8, .func (.func F.mont_Ring_product) [.ptr a2] []), (9, a3.v), (11, l15.v), (12, .int .i64 (IntKind.wrap .i64 (a5 - 1)))]) q14.2) := (go_step _ h).trans (by kernel_rfl)

theorem u_math_bits_Div64 (a1 : Int) (a2 : Int) (a3 : Int) (h : AH) : go (.fn F.math_bits_Div64 [.int .u64 a1, .int .u64 a2, .int .u64 a3]) h =
  cond (decide (a3 = 0)) (
  (h.cell (.old ⟨0, 0, none⟩)).bind fun v4 =>
  none) (
  go (.pt F.math_bits_Div64 Td.math_bits_Div64_3 [(0, .int .u64 a1), (1, .int .u64 a2), (2, .int .u64 a3)]) h) := (go_step _ h).trans (by kernel_rfl)

theorem p_nat_up_3 (a1 : Int) (a2 : Sl) (a3 : Sl) (a4 : Int) (a5 : Int) (h : AH) : go (.pt F.nat_up Td.nat_up_3 [(1, .int .u64 a1), (5, a2.v), (12, a3.v), (13, .int .i64 a4), (14, .int .i64 a5)]) h =
  cond (decide (a5 < a4)) (
  (idx a3.ref a3.len a5 1).bind fun r6 =>
  ((h.cell r6).bind (AV.asInt .u64)).bind fun n7 =>
  (idx a2.ref a2.len a5 1).bind fun r8 =>
  ((h.cell r8).bind (AV.asInt .u64)).bind fun n9 =>
  cond (decide (a1 < 0)) none (
  (idx a2.ref a2.len a5 1).bind fun r10 =>
  (h.puts r10 [.int .u64 (ior .u64 n9 (ishl .u64 n7 a1))]).bind fun h11 =>
  cond (decide (a1 > 0)) (
  cond (decide ((IntKind.wrap .u64 (64 - a1)) < 0)) none (
  (idx a2.ref a2.len (IntKind.wrap .i64 (a5 + 1)) 1).bind fun r12 =>
  (h11.puts r12 [.int .u64 (ishr .u64 n7 (IntKind.wrap .u64 (64 - a1)))]).bind fun h13 =>
  go (.pt F.nat_up Td.nat_up_3 [(1, .int .u64 a1), (5, a2.v), (12, a3.v), (13, .int .i64 a4), (14, .int .i64 (IntKind.wrap .i64 (a5 + 1)))]) h13)) (
  go (.pt F.nat_up Td.nat_up_3 [(1, .int .u64 a1), (5, a2.v), (12, a3.v), (13, .int .i64 a4), (14, .int .i64 (IntKind.wrap .i64 (a5 + 1)))]) h11))) (
  some (a2.v, h)) := (go_step _ h).trans (by kernel_rfl)

theorem u_nat_guess (a1 : Int) (a2 : Int) (a3 : Int) (a4 : Int) (a5 : Int) (h : AH) : go (.fn F.nat_guess [.int .u64 a1, .int .u64 a2, .int .u64 a3, .int .u64 a4, .int .u64 a5]) h =
  cond (decide (a1 ≥ a4)) (
  some (.int .u64 18446744073709551615, h)) (
  (go (.fn F.math_bits_Div64 [.int .u64 a1, .int .u64 a2, .int .u64 a4]) h).bind fun q6 =>
  (AV.asTup2 q6.1).bind fun p7 =>
  ((some p7.1).bind (AV.asInt .u64)).bind fun n8 =>
  ((some p7.2).bind (AV.asInt .u64)).bind fun n9 =>
  go (.pt F.nat_guess Td.nat_guess_4 [(2, .int .u64 a3), (3, .int .u64 a4), (4, .int .u64 a5), (11, .int .u64 n8), (12, .int .u64 n9)]) q6.2) := (go_step _ h).trans (by kernel_rfl)

theorem p_nat_long_10 (a1 : Int) (a2 : Sl) (a3 : Sl) (a4 : Int) (a5 : Sl) (a6 : Int) (a7 : Int) (a8 : Sl) (h : AH) : go (.pt F.nat_long Td.nat_long_10 [(6, .int .u64 a1), (7, a2.v), (8, a3.v), (9, .int .i64 a4), (10, a5.v), (11, .int .i64 a6), (12, .int .u64 a7), (13, a8.v)]) h =
  (go (.fn F.nat_Of [.int .u64 a7]) h).bind fun q9 =>
  ((some q9.1).bind AV.asSl).bind fun l10 =>
  (go (.fn F.nat_school [a3.v, l10.v]) q9.2).bind fun q11 =>
  ((some q11.1).bind AV.asSl).bind fun l12 =>
  (go (.fn F.slices_Clone_api_Nat_uint64 [a8.v]) q11.2).bind fun q13 =>
  ((some q13.1).bind AV.asSl).bind fun l14 =>
  (go (.fn F.nat_trim [l14.v]) q13.2).bind fun q15 =>
  ((some q15.1).bind AV.asSl).bind fun l16 =>
  (go (.fn F.nat_compare [l16.v, l12.v]) q15.2).bind fun q17 =>
  ((some q17.1).bind (AV.asInt .i64)).bind fun n18 =>
  cond (decide (n18 ≥ 0)) (
  (go (.fn F.nat_less [a8.v, l12.v]) q17.2).bind fun q19 =>
  ((some q19.1).bind AV.asSl).bind fun l20 =>
  (copyH l20 a8 1 q19.2).bind fun h21 =>
  (idx a5.ref a5.len a6 1).bind fun r22 =>
  (h21.puts r22 [.int .u64 a7]).bind fun h23 =>
  go (.pt F.nat_long Td.nat_long_6 [(6, .int .u64 a1), (7, a2.v), (8, a3.v), (9, .int .i64 a4), (10, a5.v), (11, .int .i64 (IntKind.wrap .i64 (a6 - 1)))]) h23) (
  go (.pt F.nat_long Td.nat_long_10 [(6, .int .u64 a1), (7, a2.v), (8, a3.v), (9, .int .i64 a4), (10, a5.v), (11, .int .i64 a6), (12, .int .u64 (IntKind.wrap .u64 (a7 - 1))), (13, a8.v)]) q17.2) := (go_step _ h).trans (by kernel_rfl)

theorem p_nat_long_18 (a1 : Int) (a2 : Sl) (a3 : Sl) (a4 : Sl) (a5 : Int) (a6 : Int) (h : AH) : go (.pt F.nat_long Td.nat_long_18 [(6, .int .u64 a1), (10, a2.v), (15, a3.v), (16, a4.v), (112, .int .i64 a5), (113, .int .i64 a6)]) h =
  cond (decide (a6 < a5)) (
  (idx a3.ref a3.len a6 1).bind fun r7 =>
  ((h.cell r7).bind (AV.asInt .u64)).bind fun n8 =>
  cond (decide (a1 < 0)) none (
  (idx a4.ref a4.len a6 1).bind fun r9 =>
  (h.puts r9 [.int .u64 (ishr .u64 n8 a1)]).bind fun h10 =>
  cond (decide (a1 > 0)) (
  cond (decide ((IntKind.wrap .i64 (a6 + 1)) < (a3.len : Int))) (
  (idx a4.ref a4.len a6 1).bind fun r11 =>
  ((h10.cell r11).bind (AV.asInt .u64)).bind fun n12 =>
  (idx a3.ref a3.len (IntKind.wrap .i64 (a6 + 1)) 1).bind fun r13 =>
  ((h10.cell r13).bind (AV.asInt .u64)).bind fun n14 =>
  cond (decide ((IntKind.wrap .u64 (64 - a1)) < 0)) none (
  (idx a4.ref a4.len a6 1).bind fun r15 =>
  (h10.puts r15 [.int .u64 (ior .u64 n12 (ishl .u64 n14 (IntKind.wrap .u64 (64 - a1))))]).bind fun h16 =>
  go (.pt F.nat_long Td.nat_long_18 [(6, .int .u64 a1), (10, a2.v), (15, a3.v), (16, a4.v), (112, .int .i64 a5), (113, .int .i64 (IntKind.wrap .i64 (a6 + 1)))]) h16)) (
  go (.pt F.nat_long Td.nat_long_18 [(6, .int .u64 a1), (10, a2.v), (15, a3.v), (16, a4.v), (112, .int .i64 a5), (113, .int .i64 (IntKind.wrap .i64 (a6 + 1)))]) h10)) (
  go (.pt F.nat_long Td.nat_long_18 [(6, .int .u64 a1), (10, a2.v), (15, a3.v), (16, a4.v), (112, .int .i64 a5), (113, .int .i64 (IntKind.wrap .i64 (a6 + 1)))]) h10))) (
  (go (.fn F.nat_trim [a2.v]) h).bind fun q17 =>
  ((some q17.1).bind AV.asSl).bind fun l18 =>
  (go (.fn F.nat_trim [a4.v]) q17.2).bind fun q19 =>
  ((some q19.1).bind AV.asSl).bind fun l20 =>
  some (.tup [l18.v, l20.v], q19.2)) := (go_step _ h).trans (by kernel_rfl)

theorem u_nat_right_1 (a1 : Sl) (h : AH) : go (.fn F.nat_right_1 [a1.v]) h =
  (go (.fn F.nat_Right [a1.v]) h).bind fun q2 =>
  ((some q2.1).bind AV.asBool).bind fun b3 =>
  some (.bool (!b3), q2.2) := (go_step _ h).trans (by kernel_rfl)

theorem u_ref01_div (a1 : Sl) (a2 : Sl) (h : AH) : go (.fn F.ref01_div [a1.v, a2.v]) h =
  (makeSliceH (a1.len : Int) (a1.len : Int) T.uint64 (Pg.bytesOf T.uint64) [.int .u64 0] h).bind fun q3 =>
  go (.pt F.ref01_div Td.ref01_div_4 [(0, a1.v), (1, a2.v), (6, q3.1.v), (7, (⟨none, 0, .is 0⟩ : Sl).v), (8, .int .i64 (IntKind.wrap .i64 ((a1.len : Int) - 1)))]) q3.2 := (go_step _ h).trans (by kernel_rfl)

theorem p_slices_IndexFunc_api_Nat_api_Nat_2__mont_Ring_below_1 (a1 : Sl) (a2 : Option Ref) (a3 : Int) (a4 : Int) (h : AH) : go (.pt F.slices_IndexFunc_api_Nat_api_Nat Td.slices_IndexFunc_api_Nat_api_Nat_2 [(0, a1.v), (1, .func (.func F.mont_Ring_below_1) [] [.ptr a2]), (7, .int .i64 a3), (8, .int .i64 a4)]) h =
  cond (decide (a4 < a3)) (
  (idx a1.ref a1.len a4 1).bind fun r5 =>
  ((h.cell r5).bind AV.asSl).bind fun l6 =>
  (go (.fn F.mont_Ring_below_1 [l6.v, .ptr a2]) h).bind fun q7 =>
  ((some q7.1).bind AV.asBool).bind fun b8 =>
  cond b8 (
  some (.int .i64 a4, q7.2)) (
  go (.pt F.slices_IndexFunc_api_Nat_api_Nat Td.slices_IndexFunc_api_Nat_api_Nat_2 [(0, a1.v), (1, .func (.func F.mont_Ring_below_1) [] [.ptr a2]), (7, .int .i64 a3), (8, .int .i64 (IntKind.wrap .i64 (a4 + 1)))]) q7.2)) (
  some (.int .i64 (-1), h)) := (go_step _ h).trans (by kernel_rfl)

theorem p_mont_add_2 (a1 : Sl) (a2 : Sl) (a3 : Int) (a4 : Int) (a5 : Int) (a6 : Int) (h : AH) : go (.pt F.mont_add Td.mont_add_2 [(0, a1.v), (1, a2.v), (2, .int .u64 a3), (6, .int .u64 a4), (12, .int .i64 a5), (13, .int .i64 a6)]) h =
  cond (decide (a6 < a5)) (
  cond (decide (a6 < (a2.len : Int))) (
  (idx a2.ref a2.len a6 1).bind fun r7 =>
  ((h.cell r7).bind (AV.asInt .u64)).bind fun n8 =>
  (go (.fn F.math_bits_Mul64 [.int .u64 n8, .int .u64 a3]) h).bind fun q9 =>
  (AV.asTup2 q9.1).bind fun p10 =>
  ((some p10.1).bind (AV.asInt .u64)).bind fun n11 =>
  ((some p10.2).bind (AV.asInt .u64)).bind fun n12 =>
  ((prim "math/bits.Add64" [.int .u64 n12, .int .u64 a4, .int .u64 0]).map fun v => (v, q9.2)).bind fun q13 =>
  (AV.asTup2 q13.1).bind fun p14 =>
  ((some p14.1).bind (AV.asInt .u64)).bind fun n15 =>
  ((some p14.2).bind (AV.asInt .u64)).bind fun n16 =>
  (idx a1.ref a1.len a6 1).bind fun r17 =>
  ((q13.2.cell r17).bind (AV.asInt .u64)).bind fun n18 =>
  ((prim "math/bits.Add64" [.int .u64 n18, .int .u64 n15, .int .u64 0]).map fun v => (v, q13.2)).bind fun q19 =>
  (AV.asTup2 q19.1).bind fun p20 =>
  ((some p20.1).bind (AV.asInt .u64)).bind fun n21 =>
  ((some p20.2).bind (AV.asInt .u64)).bind fun n22 =>
  (idx a1.ref a1.len a6 1).bind fun r23 =>
  (q19.2.puts r23 [.int .u64 n21]).bind fun h24 =>
  go (.pt F.mont_add Td.mont_add_2 [(0, a1.v), (1, a2.v), (2, .int .u64 a3), (6, .int .u64 (IntKind.wrap .u64 ((IntKind.wrap .u64 (n11 + n16)) + n22))), (12, .int .i64 a5), (13, .int .i64 (IntKind.wrap .i64 (a6 + 1)))]) h24) (
  ((prim "math/bits.Add64" [.int .u64 0, .int .u64 a4, .int .u64 0]).map fun v => (v, h)).bind fun q25 =>
  (AV.asTup2 q25.1).bind fun p26 =>
  ((some p26.1).bind (AV.asInt .u64)).bind fun n27 =>
  ((some p26.2).bind (AV.asInt .u64)).bind fun n28 =>
  (idx a1.ref a1.len a6 1).bind fun r29 =>
  ((q25.2.cell r29).bind (AV.asInt .u64)).bind fun n30 =>
  ((prim "math/bits.Add64" [.int .u64 n30, .int .u64 n27, .int .u64 0]).map fun v => (v, q25.2)).bind fun q31 =>
  (AV.asTup2 q31.1).bind fun p32 =>
  ((some p32.1).bind (AV.asInt .u64)).bind fun n33 =>
  ((some p32.2).bind (AV.asInt .u64)).bind fun n34 =>
  (idx a1.ref a1.len a6 1).bind fun r35 =>
  (q31.2.puts r35 [.int .u64 n33]).bind fun h36 =>
  go (.pt F.mont_add Td.mont_add_2 [(0, a1.v), (1, a2.v), (2, .int .u64 a3), (6, .int .u64 (IntKind.wrap .u64 ((IntKind.wrap .u64 (0 + n28)) + n34))), (12, .int .i64 a5), (13, .int .i64 (IntKind.wrap .i64 (a6 + 1)))]) h36)) (
  some (.tup [], h)) := (go_step _ h).trans (by kernel_rfl)

theorem p_mont_trim_2 (a1 : Sl) (a2 : Int) (h : AH) : go (.pt F.mont_trim Td.mont_trim_2 [(0, a1.v), (3, .int .i64 a2)]) h =
  cond (decide (a2 > 0)) (
  (idx a1.ref a1.len (IntKind.wrap .i64 (a2 - 1)) 1).bind fun r3 =>
  ((h.cell r3).bind (AV.asInt .u64)).bind fun n4 =>
  cond (decide (n4 = 0)) (
  go (.pt F.mont_trim Td.mont_trim_2 [(0, a1.v), (3, .int .i64 (IntKind.wrap .i64 (a2 - 1)))]) h) (
  (cutSl a1 0 a2 1).bind fun l5 =>
  some (l5.v, h))) (
  (cutSl a1 0 a2 1).bind fun l6 =>
  some (l6.v, h)) := (go_step _ h).trans (by kernel_rfl)

theorem p_math_bits_Div64_3 (a1 : Int) (a2 : Int) (a3 : Int) (h : AH) : go (.pt F.math_bits_Div64 Td.math_bits_Div64_3 [(0, .int .u64 a1), (1, .int .u64 a2), (2, .int .u64 a3)]) h =
  cond (decide (a3 ≤ a1)) (
  (h.cell (.old ⟨1, 0, none⟩)).bind fun v4 =>
  none) (
  cond (decide (a1 = 0)) (
  cond (decide (a3 = 0)) none (
  cond (decide (a3 = 0)) none (
  some (.tup [.int .u64 (IntKind.wrap .u64 (Int.tdiv a2 a3)), .int .u64 (Int.tmod a2 a3)], h)))) (
  (go (.fn F.math_bits_LeadingZeros64 [.int .u64 a3]) h).bind fun q5 =>
  ((some q5.1).bind (AV.asInt .i64)).bind fun n6 =>
  cond (decide ((IntKind.wrap .u64 n6) < 0)) none (
  cond (decide ((IntKind.wrap .u64 n6) < 0)) none (
  cond (decide ((IntKind.wrap .u64 (64 - (IntKind.wrap .u64 n6))) < 0)) none (
  cond (decide ((IntKind.wrap .u64 n6) < 0)) none (
  cond (decide ((ishr .u64 (ishl .u64 a3 (IntKind.wrap .u64 n6)) 32) = 0)) none (
  go (.pt F.math_bits_Div64 Td.math_bits_Div64_17 [(2, .int .u64 (ishl .u64 a3 (IntKind.wrap .u64 n6))), (8, .int .u64 (IntKind.wrap .u64 n6)), (9, .int .u64 (ishr .u64 (ishl .u64 a3 (IntKind.wrap .u64 n6)) 32)), (10, .int .u64 (iand .u64 (ishl .u64 a3 (IntKind.wrap .u64 n6)) 4294967295)), (11, .int .u64 (ior .u64 (ishl .u64 a1 (IntKind.wrap .u64 n6)) (ishr .u64 a2 (IntKind.wrap .u64 (64 - (IntKind.wrap .u64 n6)))))), (13, .int .u64 (ishr .u64 (ishl .u64 a2 (IntKind.wrap .u64 n6)) 32)), (14, .int .u64 (iand .u64 (ishl .u64 a2 (IntKind.wrap .u64 n6)) 4294967295)), (15, .int .u64 (IntKind.wrap .u64 (Int.tdiv (ior .u64 (ishl .u64 a1 (IntKind.wrap .u64 n6)) (ishr .u64 a2 (IntKind.wrap .u64 (64 - (IntKind.wrap .u64 n6))))) (ishr .u64 (ishl .u64 a3 (IntKind.wrap .u64 n6)) 32)))), (16, .int .u64 (IntKind.wrap .u64 ((ior .u64 (ishl .u64 a1 (IntKind.wrap .u64 n6)) (ishr .u64 a2 (IntKind.wrap .u64 (64 - (IntKind.wrap .u64 n6))))) - (IntKind.wrap .u64 ((IntKind.wrap .u64 (Int.tdiv (ior .u64 (ishl .u64 a1 (IntKind.wrap .u64 n6)) (ishr .u64 a2 (IntKind.wrap .u64 (64 - (IntKind.wrap .u64 n6))))) (ishr .u64 (ishl .u64 a3 (IntKind.wrap .u64 n6)) 32))) * (ishr .u64 (ishl .u64 a3 (IntKind.wrap .u64 n6)) 32))))))]) q5.2))))))) := (go_step _ h).trans (by kernel_rfl)

theorem p_nat_guess_4 (a1 : Int) (a2 : Int) (a3 : Int) (a4 : Int) (a5 : Int) (h : AH) : go (.pt F.nat_guess Td.nat_guess_4 [(2, .int .u64 a1), (3, .int .u64 a2), (4, .int .u64 a3), (11, .int .u64 a4), (12, .int .u64 a5)]) h =
  (go (.fn F.math_bits_Mul64 [.int .u64 a4, .int .u64 a3]) h).bind fun q6 =>
  (AV.asTup2 q6.1).bind fun p7 =>
  ((some p7.1).bind (AV.asInt .u64)).bind fun n8 =>
  ((some p7.2).bind (AV.asInt .u64)).bind fun n9 =>
  cond (decide (n8 < a5)) (
  some (.int .u64 a4, q6.2)) (
  cond (decide (n8 = a5)) (
  cond (decide (n9 ≤ a1)) (
  some (.int .u64 a4, q6.2)) (
  cond (decide ((IntKind.wrap .u64 (a5 + a2)) < a5)) (
  some (.int .u64 (IntKind.wrap .u64 (a4 - 1)), q6.2)) (
  go (.pt F.nat_guess Td.nat_guess_4 [(2, .int .u64 a1), (3, .int .u64 a2), (4, .int .u64 a3), (11, .int .u64 (IntKind.wrap .u64 (a4 - 1))), (12, .int .u64 (IntKind.wrap .u64 (a5 + a2)))]) q6.2))) (
  cond (decide ((IntKind.wrap .u64 (a5 + a2)) < a5)) (
  some (.int .u64 (IntKind.wrap .u64 (a4 - 1)), q6.2)) (
  go (.pt F.nat_guess Td.nat_guess_4 [(2, .int .u64 a1), (3, .int .u64 a2), (4, .int .u64 a3), (11, .int .u64 (IntKind.wrap .u64 (a4 - 1))), (12, .int .u64 (IntKind.wrap .u64 (a5 + a2)))]) q6.2))) := (go_step _ h).trans (by kernel_rfl)

theorem p_ref01_div_4 (a1 : Sl) (a2 : Sl) (a3 : Sl) (a4 : Sl) (a5 : Int) (h : AH) : go (.pt F.ref01_div Td.ref01_div_4 [(0, a1.v), (1, a2.v), (6, a3.v), (7, a4.v), (8, .int .i64 a5)]) h =
  cond (decide (a5 ≥ 0)) (
  (idx a1.ref a1.len a5 1).bind fun r6 =>
  ((h.cell r6).bind (AV.asInt .u64)).bind fun n7 =>
  newK h (.cells [.int .u64 n7] T.uint64) fun h8r h8 =>
  (appendArgs Pg T.uint64 a4.v h8).bind fun p10 =>
  (appendH Pg (⟨some h8r, 1, .is 1⟩ : Sl) p10.1 p10.2 T.uint64 1 h8).bind fun q9 =>
  (AV.asSl q9.1).bind fun l11 =>
  (go (.fn F.ref01_cut [l11.v]) q9.2).bind fun q12 =>
  ((some q12.1).bind AV.asSl).bind fun l13 =>
  go (.pt F.ref01_div Td.ref01_div_9 [(0, a1.v), (1, a2.v), (6, a3.v), (7, l13.v), (8, .int .i64 a5), (9, .int .u64 0), (10, .int .u64 65535)]) q12.2) (
  (go (.fn F.ref01_cut [a3.v]) h).bind fun q14 =>
  ((some q14.1).bind AV.asSl).bind fun l15 =>
  some (.tup [l15.v, a4.v], q14.2)) := (go_step _ h).trans (by kernel_rfl)

theorem u_mont_Ring_below_1 (a1 : Sl) (a2 : Option Ref) (h : AH) : go (.fn F.mont_Ring_below_1 [a1.v, .ptr a2]) h =
  (go (.fn F.nat_Right [a1.v]) h).bind fun q3 =>
  ((some q3.1).bind AV.asBool).bind fun b4 =>
  cond (!b4) (
  some (.bool true, q3.2)) (
  a2.bind fun r5 =>
  ((q3.2.cell r5).bind AV.asPtr).bind fun p6 =>
  p6.bind fun r7 =>
  ((q3.2.cell (r7.add 0)).bind AV.asSl).bind fun l8 =>
  (go (.fn F.nat_Cmp [a1.v, l8.v]) q3.2).bind fun q9 =>
  ((some q9.1).bind (AV.asInt .i64)).bind fun n10 =>
  some (.bool (decide (n10 ≥ 0)), q9.2)) := (go_step _ h).trans (by kernel_rfl)

theorem p_math_bits_Div64_17 (a1 : Int) (a2 : Int) (a3 : Int) (a4 : Int) (a5 : Int) (a6 : Int) (a7 : Int) (a8 : Int) (a9 : Int) (h : AH) : go (.pt F.math_bits_Div64 Td.math_bits_Div64_17 [(2, .int .u64 a1), (8, .int .u64 a2), (9, .int .u64 a3), (10, .int .u64 a4), (11, .int .u64 a5), (13, .int .u64 a6), (14, .int .u64 a7), (15, .int .u64 a8), (16, .int .u64 a9)]) h =
  cond (decide (a8 ≥ 4294967296)) (
  cond (decide ((IntKind.wrap .u64 (a9 + a3)) ≥ 4294967296)) (
  cond (decide (a3 = 0)) none (
  go (.pt F.math_bits_Div64 Td.math_bits_Div64_24 [(2, .int .u64 a1), (8, .int .u64 a2), (9, .int .u64 a3), (10, .int .u64 a4), (14, .int .u64 a7), (15, .int .u64 (IntKind.wrap .u64 (a8 - 1))), (16, .int .u64 (IntKind.wrap .u64 ((IntKind.wrap .u64 ((IntKind.wrap .u64 ((IntKind.wrap .u64 (a5 * 4294967296)) + a6)) - (IntKind.wrap .u64 ((IntKind.wrap .u64 (a8 - 1)) * a1)))) - (IntKind.wrap .u64 ((IntKind.wrap .u64 (Int.tdiv (IntKind.wrap .u64 ((IntKind.wrap .u64 ((IntKind.wrap .u64 (a5 * 4294967296)) + a6)) - (IntKind.wrap .u64 ((IntKind.wrap .u64 (a8 - 1)) * a1)))) a3)) * a3))))), (17, .int .u64 (IntKind.wrap .u64 ((IntKind.wrap .u64 ((IntKind.wrap .u64 (a5 * 4294967296)) + a6)) - (IntKind.wrap .u64 ((IntKind.wrap .u64 (a8 - 1)) * a1))))), (18, .int .u64 (IntKind.wrap .u64 (Int.tdiv (IntKind.wrap .u64 ((IntKind.wrap .u64 ((IntKind.wrap .u64 (a5 * 4294967296)) + a6)) - (IntKind.wrap .u64 ((IntKind.wrap .u64 (a8 - 1)) * a1)))) a3)))]) h)) (
  go (.pt F.math_bits_Div64 Td.math_bits_Div64_17 [(2, .int .u64 a1), (8, .int .u64 a2), (9, .int .u64 a3), (10, .int .u64 a4), (11, .int .u64 a5), (13, .int .u64 a6), (14, .int .u64 a7), (15, .int .u64 (IntKind.wrap .u64 (a8 - 1))), (16, .int .u64 (IntKind.wrap .u64 (a9 + a3)))]) h)) (
  cond (decide ((IntKind.wrap .u64 (a8 * a4)) > (IntKind.wrap .u64 ((IntKind.wrap .u64 (4294967296 * a9)) + a6)))) (
  cond (decide ((IntKind.wrap .u64 (a9 + a3)) ≥ 4294967296)) (
  cond (decide (a3 = 0)) none (
  go (.pt F.math_bits_Div64 Td.math_bits_Div64_24 [(2, .int .u64 a1), (8, .int .u64 a2), (9, .int .u64 a3), (10, .int .u64 a4), (14, .int .u64 a7), (15, .int .u64 (IntKind.wrap .u64 (a8 - 1))), (16, .int .u64 (IntKind.wrap .u64 ((IntKind.wrap .u64 ((IntKind.wrap .u64 ((IntKind.wrap .u64 (a5 * 4294967296)) + a6)) - (IntKind.wrap .u64 ((IntKind.wrap .u64 (a8 - 1)) * a1)))) - (IntKind.wrap .u64 ((IntKind.wrap .u64 (Int.tdiv (IntKind.wrap .u64 ((IntKind.wrap .u64 ((IntKind.wrap .u64 (a5 * 4294967296)) + a6)) - (IntKind.wrap .u64 ((IntKind.wrap .u64 (a8 - 1)) * a1)))) a3)) * a3))))), (17, .int .u64 (IntKind.wrap .u64 ((IntKind.wrap .u64 ((IntKind.wrap .u64 (a5 * 4294967296)) + a6)) - (IntKind.wrap .u64 ((IntKind.wrap .u64 (a8 - 1)) * a1))))), (18, .int .u64 (IntKind.wrap .u64 (Int.tdiv (IntKind.wrap .u64 ((IntKind.wrap .u64 ((IntKind.wrap .u64 (a5 * 4294967296)) + a6)) - (IntKind.wrap .u64 ((IntKind.wrap .u64 (a8 - 1)) * a1)))) a3)))]) h)) (
  go (.pt F.math_bits_Div64 Td.math_bits_Div64_17 [(2, .int .u64 a1), (8, .int .u64 a2), (9, .int .u64 a3), (10, .int .u64 a4), (11, .int .u64 a5), (13, .int .u64 a6), (14, .int .u64 a7), (15, .int .u64 (IntKind.wrap .u64 (a8 - 1))), (16, .int .u64 (IntKind.wrap .u64 (a9 + a3)))]) h)) (
  cond (decide (a3 = 0)) none (
  go (.pt F.math_bits_Div64 Td.math_bits_Div64_24 [(2, .int .u64 a1), (8, .int .u64 a2), (9, .int .u64 a3), (10, .int .u64 a4), (14, .int .u64 a7), (15, .int .u64 a8), (16, .int .u64 (IntKind.wrap .u64 ((IntKind.wrap .u64 ((IntKind.wrap .u64 ((IntKind.wrap .u64 (a5 * 4294967296)) + a6)) - (IntKind.wrap .u64 (a8 * a1)))) - (IntKind.wrap .u64 ((IntKind.wrap .u64 (Int.tdiv (IntKind.wrap .u64 ((IntKind.wrap .u64 ((IntKind.wrap .u64 (a5 * 4294967296)) + a6)) - (IntKind.wrap .u64 (a8 * a1)))) a3)) * a3))))), (17, .int .u64 (IntKind.wrap .u64 ((IntKind.wrap .u64 ((IntKind.wrap .u64 (a5 * 4294967296)) + a6)) - (IntKind.wrap .u64 (a8 * a1))))), (18, .int .u64 (IntKind.wrap .u64 (Int.tdiv (IntKind.wrap .u64 ((IntKind.wrap .u64 ((IntKind.wrap .u64 (a5 * 4294967296)) + a6)) - (IntKind.wrap .u64 (a8 * a1)))) a3)))]) h))) := (go_step _ h).trans (by kernel_rfl)

theorem p_ref01_div_9 (a1 : Sl) (a2 : Sl) (a3 : Sl) (a4 : Sl) (a5 : Int) (a6 : Int) (a7 : Int) (h : AH) : go (.pt F.ref01_div Td.ref01_div_9 [(0, a1.v), (1, a2.v), (6, a3.v), (7, a4.v), (8, .int .i64 a5), (9, .int .u64 a6), (10, .int .u64 a7)]) h =
  cond (decide (a6 < a7)) (
  newK h (.cells [.int .u64 (IntKind.wrap .u64 (Int.tdiv (IntKind.wrap .u64 ((IntKind.wrap .u64 (a6 + a7)) + 1)) 2))] T.uint64) fun h8r h8 =>
  (go (.fn F.ref01_mul [a2.v, (⟨some h8r, 1, .is 1⟩ : Sl).v]) h8).bind fun q9 =>
  ((some q9.1).bind AV.asSl).bind fun l10 =>
  (go (.fn F.ref01_compare [l10.v, a4.v]) q9.2).bind fun q11 =>
  ((some q11.1).bind (AV.asInt .i64)).bind fun n12 =>
  cond (decide (n12 ≤ 0)) (
  go (.pt F.ref01_div Td.ref01_div_9 [(0, a1.v), (1, a2.v), (6, a3.v), (7, a4.v), (8, .int .i64 a5), (9, .int .u64 (IntKind.wrap .u64 (Int.tdiv (IntKind.wrap .u64 ((IntKind.wrap .u64 (a6 + a7)) + 1)) 2))), (10, .int .u64 a7)]) q11.2) (
  go (.pt F.ref01_div Td.ref01_div_9 [(0, a1.v), (1, a2.v), (6, a3.v), (7, a4.v), (8, .int .i64 a5), (9, .int .u64 a6), (10, .int .u64 (IntKind.wrap .u64 ((IntKind.wrap .u64 (Int.tdiv (IntKind.wrap .u64 ((IntKind.wrap .u64 (a6 + a7)) + 1)) 2)) - 1)))]) q11.2)) (
  (idx a3.ref a3.len a5 1).bind fun r13 =>
  (h.puts r13 [.int .u64 a6]).bind fun h14 =>
  newK h14 (.cells [.int .u64 a6] T.uint64) fun h15r h15 =>
  (go (.fn F.ref01_mul [a2.v, (⟨some h15r, 1, .is 1⟩ : Sl).v]) h15).bind fun q16 =>
  ((some q16.1).bind AV.asSl).bind fun l17 =>
  (go (.fn F.ref01_sub [a4.v, l17.v]) q16.2).bind fun q18 =>
  ((some q18.1).bind AV.asSl).bind fun l19 =>
  go (.pt F.ref01_div Td.ref01_div_4 [(0, a1.v), (1, a2.v), (6, a3.v), (7, l19.v), (8, .int .i64 (IntKind.wrap .i64 (a5 - 1)))]) q18.2) := (go_step _ h).trans (by kernel_rfl)

theorem p_math_bits_Div64_24 (a1 : Int) (a2 : Int) (a3 : Int) (a4 : Int) (a5 : Int) (a6 : Int) (a7 : Int) (a8 : Int) (a9 : Int) (h : AH) : go (.pt F.math_bits_Div64 Td.math_bits_Div64_24 [(2, .int .u64 a1), (8, .int .u64 a2), (9, .int .u64 a3), (10, .int .u64 a4), (14, .int .u64 a5), (15, .int .u64 a6), (16, .int .u64 a7), (17, .int .u64 a8), (18, .int .u64 a9)]) h =
  cond (decide (a9 ≥ 4294967296)) (
  cond (decide ((IntKind.wrap .u64 (a7 + a3)) ≥ 4294967296)) (
  cond (decide (a2 < 0)) none (
  some (.tup [.int .u64 (IntKind.wrap .u64 ((IntKind.wrap .u64 (a6 * 4294967296)) + (IntKind.wrap .u64 (a9 - 1)))), .int .u64 (ishr .u64 (IntKind.wrap .u64 ((IntKind.wrap .u64 ((IntKind.wrap .u64 (a8 * 4294967296)) + a5)) - (IntKind.wrap .u64 ((IntKind.wrap .u64 (a9 - 1)) * a1)))) a2)], h))) (
  go (.pt F.math_bits_Div64 Td.math_bits_Div64_24 [(2, .int .u64 a1), (8, .int .u64 a2), (9, .int .u64 a3), (10, .int .u64 a4), (14, .int .u64 a5), (15, .int .u64 a6), (16, .int .u64 (IntKind.wrap .u64 (a7 + a3))), (17, .int .u64 a8), (18, .int .u64 (IntKind.wrap .u64 (a9 - 1)))]) h)) (
  cond (decide ((IntKind.wrap .u64 (a9 * a4)) > (IntKind.wrap .u64 ((IntKind.wrap .u64 (4294967296 * a7)) + a5)))) (
  cond (decide ((IntKind.wrap .u64 (a7 + a3)) ≥ 4294967296)) (
  cond (decide (a2 < 0)) none (
  some (.tup [.int .u64 (IntKind.wrap .u64 ((IntKind.wrap .u64 (a6 * 4294967296)) + (IntKind.wrap .u64 (a9 - 1)))), .int .u64 (ishr .u64 (IntKind.wrap .u64 ((IntKind.wrap .u64 ((IntKind.wrap .u64 (a8 * 4294967296)) + a5)) - (IntKind.wrap .u64 ((IntKind.wrap .u64 (a9 - 1)) * a1)))) a2)], h))) (
  go (.pt F.math_bits_Div64 Td.math_bits_Div64_24 [(2, .int .u64 a1), (8, .int .u64 a2), (9, .int .u64 a3), (10, .int .u64 a4), (14, .int .u64 a5), (15, .int .u64 a6), (16, .int .u64 (IntKind.wrap .u64 (a7 + a3))), (17, .int .u64 a8), (18, .int .u64 (IntKind.wrap .u64 (a9 - 1)))]) h)) (
  cond (decide (a2 < 0)) none (
  some (.tup [.int .u64 (IntKind.wrap .u64 ((IntKind.wrap .u64 (a6 * 4294967296)) + a9)), .int .u64 (ishr .u64 (IntKind.wrap .u64 ((IntKind.wrap .u64 ((IntKind.wrap .u64 (a8 * 4294967296)) + a5)) - (IntKind.wrap .u64 (a9 * a1)))) a2)], h)))) := (go_step _ h).trans (by kernel_rfl)

theorem u_ref01_sub (a1 : Sl) (a2 : Sl) (h : AH) : go (.fn F.ref01_sub [a1.v, a2.v]) h =
  go (.pt F.ref01_sub Td.ref01_sub_4 [(0, a1.v), (1, a2.v), (5, (⟨none, 0, .is 0⟩ : Sl).v), (6, .int .u64 0), (7, .int .i64 0)]) h := (go_step _ h).trans (by kernel_rfl)

theorem p_ref01_sub_4 (a1 : Sl) (a2 : Sl) (a3 : Sl) (a4 : Int) (a5 : Int) (h : AH) : go (.pt F.ref01_sub Td.ref01_sub_4 [(0, a1.v), (1, a2.v), (5, a3.v), (6, .int .u64 a4), (7, .int .i64 a5)]) h =
  cond (decide (a5 < (a1.len : Int))) (
  (idx a1.ref a1.len a5 1).bind fun r6 =>
  ((h.cell r6).bind (AV.asInt .u64)).bind fun n7 =>
  (go (.fn F.ref01_digit [a2.v, .int .i64 a5]) h).bind fun q8 =>
  ((some q8.1).bind (AV.asInt .u64)).bind fun n9 =>
  whenK (SameAt h q8.2 r6 1) (
  newK q8.2 (.cells [.int .u64 (Int.tmod (IntKind.wrap .u64 ((IntKind.wrap .u64 ((IntKind.wrap .u64 (65536 + n7)) - n9)) - a4)) 65536)] T.uint64) fun h10r h10 =>
  (appendArgs Pg T.uint64 ((⟨some h10r, 1, .is 1⟩ : Sl).v) h10).bind fun p12 =>
  (appendH Pg a3 p12.1 p12.2 T.uint64 1 h10).bind fun q11 =>
  (AV.asSl q11.1).bind fun l13 =>
  go (.pt F.ref01_sub Td.ref01_sub_4 [(0, a1.v), (1, a2.v), (5, l13.v), (6, .int .u64 (IntKind.wrap .u64 (1 - (IntKind.wrap .u64 (Int.tdiv (IntKind.wrap .u64 ((IntKind.wrap .u64 ((IntKind.wrap .u64 (65536 + n7)) - n9)) - a4)) 65536))))), (7, .int .i64 (IntKind.wrap .i64 (a5 + 1)))]) q11.2)) (
  (go (.fn F.ref01_cut [a3.v]) h).bind fun q14 =>
  ((some q14.1).bind AV.asSl).bind fun l15 =>
  some (l15.v, q14.2)) := (go_step _ h).trans (by kernel_rfl)

theorem u_ref01_digit (a1 : Sl) (a2 : Int) (h : AH) : go (.fn F.ref01_digit [a1.v, .int .i64 a2]) h =
  cond (decide (a2 < (a1.len : Int))) (
  (idx a1.ref a1.len a2 1).bind fun r3 =>
  ((h.cell r3).bind (AV.asInt .u64)).bind fun n4 =>
  some (.int .u64 n4, h)) (
  some (.int .u64 0, h)) := (go_step _ h).trans (by kernel_rfl)

end Go.Ab

/- Layers 1 and 3: limbs, whole numbers: what the small functions answer. -/
set_option linter.unusedVariables false
set_option linter.unusedSimpArgs false
set_option maxRecDepth 10000
namespace Go.Ab
open Go.Proofs Go.Num

@[reducible] def B : Nat := 18446744073709551616
theorem B2 : 2 ≤ B := by decide

/-- May these limbs be a number? -/
def rt (xs : List Nat) : Bool := decide (xs.length ≤ 64) && (decide (xs.length = 0) || !decide (xs.getD (xs.length - 1) 0 = 0))

theorem getD_lt {xs : List Nat} {i : Nat} (h : i < xs.length) : xs.getD i 0 = xs[i] := by simp [List.getD, h]

theorem rt_iff {xs : List Nat} : rt xs = true ↔ xs.length ≤ 64 ∧ Trim xs := by
  unfold rt Trim
  simp only [Bool.and_eq_true, decide_eq_true_eq, Bool.or_eq_true, Bool.not_eq_true', decide_eq_false_iff_not, List.length_eq_zero_iff]
  refine and_congr_right fun _ => ?_
  constructor
  · rintro (h | h) hne
    · exact absurd h hne
    · rwa [List.getLast_eq_getElem, ← getD_lt]
  · intro h
    by_cases he : xs = []
    · exact .inl he
    · right
      have := h he
      rwa [List.getLast_eq_getElem, ← getD_lt] at this

theorem Nats.last {h : AH} {s : Sl} {xs : List Nat} (n : Nats h s xs) (hx : xs.length ≠ 0) : ∃ r, idx s.ref s.len (IntKind.wrap .i64 ((s.len : Int) - 1)) 1 = some r ∧ h.cell r = some (.int .u64 ((xs.getD (xs.length - 1) 0 : Nat) : Int)) := by
  obtain ⟨k, hk⟩ : ∃ k, xs.length = k + 1 := ⟨xs.length - 1, by omega⟩
  have hs := n.short
  obtain ⟨r, e1, e2⟩ := n.at (i := k) (by omega)
  rw [n.len, hk] at e1 ⊢
  rw [wrap_pred (by omega)]
  refine ⟨r, e1, ?_⟩
  rw [e2, show k + 1 - 1 = k from rfl, getD_lt (by omega)]

theorem nat_Right_spec {h : AH} {s : Sl} {xs : List Nat} (n : Nats h s xs) : go (.fn F.nat_Right [s.v]) h = some (.bool (rt xs), h) := by
  rw [u_nat_Right]
  have hl := n.len
  refine cond_elim (fun h1 => ?_) (fun h1 => ?_)
  · have h1 : xs.length ≤ 64 := by rw [decide_eq_true_eq] at h1; omega
    refine cond_elim (fun h2 => ?_) (fun h2 => ?_)
    · have h2 : xs.length = 0 := by rw [decide_eq_true_eq] at h2; omega
      simp [rt, h2]
    · have h2 : xs.length ≠ 0 := by rw [decide_eq_false_iff_not] at h2; omega
      obtain ⟨r, e1, e2⟩ := n.last h2
      simp [e1, e2, rt, h1]
      cases xs
      · simp at h2
      · simp
  · have h1 : ¬ xs.length ≤ 64 := by rw [decide_eq_false_iff_not] at h1; omega
    simp [rt, h1]

theorem ref01_Right_spec {h : AH} {s : Sl} {xs : List Nat} (n : Nats h s xs) : go (.fn F.ref01_Right [s.v]) h = some (.bool (rt xs), h) := by
  rw [u_ref01_Right]
  have hl := n.len
  refine cond_elim (fun h1 => ?_) (fun h1 => ?_)
  · have h1 : xs.length ≤ 64 := by rw [decide_eq_true_eq] at h1; omega
    refine cond_elim (fun h2 => ?_) (fun h2 => ?_)
    · have h2 : xs.length = 0 := by rw [decide_eq_true_eq] at h2; omega
      simp [rt, h2]
    · have h2 : xs.length ≠ 0 := by rw [decide_eq_false_iff_not] at h2; omega
      obtain ⟨r, e1, e2⟩ := n.last h2
      simp [e1, e2, rt, h1]
      cases xs
      · simp at h2
      · simp
  · have h1 : ¬ xs.length ≤ 64 := by rw [decide_eq_false_iff_not] at h1; omega
    simp [rt, h1]

/-- The loop that takes noughts away: it stops at a place. -/
theorem nat_trim_loop {h : AH} {s : Sl} {xs : List Nat} (n : Nats h s xs) : ∀ (k : Nat), k ≤ xs.length → (∀ i, k ≤ i → (hi : i < xs.length) → xs[i] = 0) →
    ∃ s', go (.pt F.nat_trim Td.nat_trim_2 [(0, s.v), (3, .int .i64 (k : Int))]) h = some (s'.v, h) ∧ Nats h s' (digs B (num B xs)) ∧ ∀ h0, Own h0 s → Own h0 s'
  | 0, hk, hz => by
    rw [p_nat_trim_2]
    obtain ⟨s', e1, e2, e3⟩ := n.cut (l := 0) (n := 0) (Nat.le_refl _) hk
    have := take_digs B2 n.lt hz hk (.inl rfl)
    simp at e1
    simp only [Int.natCast_zero, gt_iff_lt, Int.lt_irrefl, decide_false, cond_false, e1, Option.bind_some]
    refine ⟨s', rfl, ?_, e3⟩
    rw [← this]
    simpa using e2
  | k + 1, hk, hz => by
    rw [p_nat_trim_2]
    obtain ⟨r, e1, e2⟩ := n.at (i := k) (by omega)
    have hs := n.short
    rw [wrap_pred (by omega)]
    rw [show (decide (((k + 1 : Nat) : Int) > 0)) = true from by rw [decide_eq_true_eq]; omega]
    simp only [cond_true, e1, e2, Option.bind_some, avInt_int]
    by_cases hx : xs[k] = 0
    · rw [hx, show (decide (((0 : Nat) : Int) = 0)) = true from rfl, cond_true]
      refine nat_trim_loop n k (by omega) fun i hi hil => ?_
      rcases Nat.lt_or_ge k i with h1 | h1
      · exact hz i (by omega) hil
      · have : i = k := by omega
        subst this
        exact hx
    · obtain ⟨s', e3, e4, e5⟩ := n.cut (l := 0) (n := k + 1) (by omega) hk
      have ht := take_digs B2 n.lt hz hk (.inr ⟨by omega, by simpa using hx⟩)
      rw [show (decide (((xs[k] : Nat) : Int) = 0)) = false from by rw [decide_eq_false_iff_not]; omega]
      simp only [cond_false]
      rw [show cutSl s 0 ((k + 1 : Nat) : Int) 1 = some s' from e3]
      refine ⟨s', rfl, ?_, e5⟩
      rw [← ht]
      simpa using e4

theorem nat_trim_spec {h : AH} {s : Sl} {xs : List Nat} (n : Nats h s xs) : ∃ s', go (.fn F.nat_trim [s.v]) h = some (s'.v, h) ∧ Nats h s' (digs B (num B xs)) ∧ ∀ h0, Own h0 s → Own h0 s' := by
  rw [u_nat_trim, n.len]
  exact nat_trim_loop n xs.length (Nat.le_refl _) fun i h1 h2 => by omega

end Go.Ab

/- Layers 1 and 3: from and to small numbers; whole numbers. -/
set_option linter.unusedVariables false
set_option linter.unusedSimpArgs false
set_option maxRecDepth 10000
namespace Go.Ab
open Go.Proofs Go.Num

theorem growOk_u64 {n : Nat} (h : n ≤ 8796093022208) : growOk Pg n T.uint64 1 = true := by
  unfold growOk
  rw [zero_uint64, bytes_uint64]
  have h1 : n * 8 ≤ mostBytes := by simp only [mostBytes]; omega
  have h2 : n ≤ mostBytes := by simp only [mostBytes]; omega
  simp [h1, h2]

theorem clone_spec {h : AH} {s : Sl} {xs : List Nat} (n : Nats h s xs) (hl : xs.length ≤ 8796093022208) : ∃ s' h', go (.fn F.slices_Clone_api_Nat_uint64 [s.v]) h = some (s'.v, h') ∧ Nats h' s' xs ∧ Grow h h' ∧ Own h s' := by
  rw [u_slices_Clone_api_Nat_uint64]
  cases hr : s.ref with
  | none =>
    have : xs = [] := by
      cases xs with
      | nil => rfl
      | cons x xs =>
        obtain ⟨r, e1, _⟩ := n.cells.get 0 (u64 x) rfl
        rw [hr] at e1
        cases e1
    subst this
    exact ⟨_, _, rfl, Nats.nil h, Grow.refl h, Own.nil h⟩
  | some r =>
    simp only [Option.isNone_some, cond_false, newK_eq]
    have n1 := n.grow (Grow.push h (.cells [] T.uint64))
    have c1 := n1.cells
    rw [← cells_uint64] at c1
    rw [appendArgs_of c1, n.len]
    simp only [Option.bind_some]
    have own : ∀ (m : Nat) (c : Cap), Own h ⟨some (.new h.blks.size 0), m, c⟩ := fun m c r hr => by cases hr; exact ⟨_, _, rfl, Nat.le_refl _⟩
    cases xs with
    | nil =>
      obtain ⟨s', e1, e2, e3⟩ := append_none (P := Pg) (elem := T.uint64) (m := 1) (by omega) (Cells.of_has (n := 1) (m := 0) (AH.has_push h [] T.uint64) rfl)
      simp only [List.map_nil, List.length_nil, e1, Option.bind_some, asSl_v]
      exact ⟨s', _, rfl, ⟨e2, by simp, by simp⟩, Grow.push _ _, e3 h (own 0 (.is 0))⟩
    | cons x xs =>
      rw [append_new (c := 0) rfl (by simp) (growOk_u64 (by simpa using hl)) (Cells.of_has (n := 1) (m := 0) (AH.has_push h [] T.uint64) rfl)]
      simp only [Option.bind_some, asSl_v]
      refine ⟨_, _, rfl, ⟨⟨rfl, by simp, fun i v hv => ⟨_, rfl, by rw [Ref.add_new, Nat.zero_add, AH.cell_push]; exact hv⟩⟩, n.lt, n.short⟩, (Grow.push _ _).trans (Grow.push _ _), fun r hr => ?_⟩
      cases hr
      exact ⟨_, _, rfl, by simp⟩

theorem nat_Of_spec {h : AH} {x : Nat} (hx : x < B) : ∃ (s' : Sl) (h' : AH), go (.fn F.nat_Of [.int .u64 (x : Int)]) h = some (s'.v, h') ∧ Nats h' s' (digs B x) ∧ Grow h h' ∧ Own h s' := by
  rw [u_nat_Of]
  simp only [newK_eq]
  have n0 : Nats (h.push (.cells [u64 x] T.uint64)) ⟨some (.new h.blks.size 0), 1, .is 1⟩ [x] := ⟨Cells.of_has (AH.has_push h [u64 x] T.uint64) rfl, by simpa using hx, by simp⟩
  obtain ⟨s', e1, e2, e3⟩ := nat_trim_spec n0
  rw [e1]
  simp only [Option.bind_some, asSl_v]
  refine ⟨s', _, rfl, by simpa [num] using e2, Grow.push _ _, e3 h fun r hr => by cases hr; exact ⟨_, _, rfl, Nat.le_refl _⟩⟩

theorem ref01_Of_spec {h : AH} {x : Nat} (hx : x < B) : ∃ (s' : Sl) (h' : AH), go (.fn F.ref01_Of [.int .u64 (x : Int)]) h = some (s'.v, h') ∧ Nats h' s' (digs B x) ∧ Grow h h' ∧ Own h s' := by
  rw [u_ref01_Of]
  by_cases h0 : x = 0
  · subst h0
    rw [digs_zero]
    exact ⟨_, _, rfl, Nats.nil h, Grow.refl h, Own.nil h⟩
  · have hd : digs B x = [x] := by
      rw [digs_pos B2 h0, Nat.mod_eq_of_lt hx, Nat.div_eq_of_lt hx, digs_zero]
    rw [hd]
    rw [show decide ((x : Int) = 0) = false from by rw [decide_eq_false_iff_not]; omega]
    refine ⟨_, _, rfl, ⟨Cells.of_has (AH.has_push h [u64 x] T.uint64) rfl, by simpa using hx, by simp⟩, Grow.push _ _, fun r hr => by cases hr; exact ⟨_, _, rfl, Nat.le_refl _⟩⟩

end Go.Ab

/- Layers 1 and 3: small numbers, sameness; the first law of layer 3. -/
set_option linter.unusedVariables false
set_option linter.unusedSimpArgs false
set_option maxRecDepth 10000
namespace Go.Ab
open Go.Proofs Go.Num

theorem ref01_Same_loop {h : AH} {s t : Sl} {xs : List Nat} (n : Nats h s xs) (m : Nats h t xs) : ∀ (k i : Nat), i + k = xs.length →
    go (.pt F.ref01_Same Td.ref01_Same_4 [(0, s.v), (1, t.v), (5, .int .i64 (i : Int))]) h = some (.bool true, h)
  | 0, i, hi => by
    rw [p_ref01_Same_4, n.len, show decide ((i : Int) < (xs.length : Int)) = false from by rw [decide_eq_false_iff_not]; omega]
    rfl
  | k + 1, i, hi => by
    have hs := n.short
    obtain ⟨r, e1, e2⟩ := n.at (i := i) (by omega)
    obtain ⟨q, e3, e4⟩ := m.at (i := i) (by omega)
    rw [p_ref01_Same_4, show decide ((i : Int) < (s.len : Int)) = true from by rw [decide_eq_true_eq, n.len]; omega, cond_true, e1, e3]
    simp only [Option.bind_some, e2, e4, avInt_int, decide_true, Bool.not_true, cond_false]
    rw [wrap_succ (by omega)]
    exact ref01_Same_loop n m k (i + 1) (by omega)

/-- The same limbs are the same. -/
theorem ref01_Same_spec {h : AH} {s t : Sl} {xs : List Nat} (n : Nats h s xs) (m : Nats h t xs) : go (.fn F.ref01_Same [s.v, t.v]) h = some (.bool true, h) := by
  rw [u_ref01_Same, n.len, m.len]
  simp only [decide_true, Bool.not_true, cond_false]
  exact ref01_Same_loop n m xs.length 0 (by omega)

end Go.Ab

/- Layer 3: the law of rights. -/
set_option linter.unusedVariables false
set_option linter.unusedSimpArgs false
set_option maxRecDepth 10000
namespace Go.Ab
open Go.Proofs Go.Num
/-- A list of numbers' limbs, each in its slice. -/

structure Rows (h : AH) (s : Sl) (rows : List (Sl × List Nat)) : Prop where
  cells : Cells h s 1 (rows.map fun p => p.1.v)
  each : ∀ p ∈ rows, Nats h p.1 p.2
  short : rows.length ≤ 9223372036854775807

theorem Rows.len {h : AH} {s : Sl} {rows : List (Sl × List Nat)} (n : Rows h s rows) : s.len = rows.length := by
  have := n.cells.len
  simpa using this

theorem Rows.at {h : AH} {s : Sl} {rows : List (Sl × List Nat)} (n : Rows h s rows) {i : Nat} (hi : i < rows.length) : ∃ r, idx s.ref s.len (i : Int) 1 = some r ∧ h.cell r = some (rows[i].1).v := by
  obtain ⟨r, e1, e2⟩ := n.cells.get i (rows[i].1).v (by simp [hi])
  refine ⟨r.add i, ?_, e2⟩
  rw [e1, idx_some _ _ _ _ (by omega) (by rw [n.len]; omega)]
  simp

/-- Two of them, in a new block. -/

theorem Rows.two {h : AH} {a b : Sl} {xs ys : List Nat} (n : Nats h a xs) (m : Nats h b ys) : Rows (h.push (.cells [a.v, b.v] T.api_Nat)) ⟨some (.new h.blks.size 0), 2, .is 2⟩ [(a, xs), (b, ys)] := by
  refine ⟨Cells.of_has (AH.has_push _ _ _) rfl, fun p hp => ?_, by simp⟩
  have g := Grow.push h (.cells [a.v, b.v] T.api_Nat)
  simp at hp
  rcases hp with rfl | rfl
  · exact n.grow g
  · exact m.grow g

theorem nats_of_arg {h : AH} {cs : List AV} (a : ArgT Pg h T.api_Nat cs) : ∃ (s : Sl) (xs : List Nat), cs = [s.v] ∧ Nats h s xs := by
  rcases a.slice und_api_Nat with rfl | ⟨ad, len, cap, rfl, h1, h2, h3⟩
  · exact ⟨⟨none, 0, .is 0⟩, [], rfl, Nats.nil h⟩
  · rw [cells_uint64] at h3
    have key : ∀ i, i < len → ∃ x : Nat, h.cell (.old (ad.add i)) = some (u64 x) ∧ x < 18446744073709551616 := by
      intro i hi
      obtain ⟨es, e1, e2⟩ := h3 i hi
      obtain ⟨x, rfl, hw⟩ := e2.int und_uint64
      rw [Nat.mul_one] at e1
      have hx : 0 ≤ x ∧ x < 18446744073709551616 := by
        have : 0 ≤ x ∧ x ≤ 18446744073709551615 := by simpa [Lit.wf, IntKind.has, IntKind.min, IntKind.max, IntKind.bits, IntKind.signed] using hw
        omega
      refine ⟨x.toNat, ?_, by omega⟩
      show _ = some (AV.int .u64 ((x.toNat : Nat) : Int))
      rw [show ((x.toNat : Nat) : Int) = x from by omega]
      simp only [AH.gets, Option.bind_eq_some_iff, Option.map_eq_some_iff] at e1
      obtain ⟨v, e3, l, e4, e5⟩ := e1
      simp only [List.cons.injEq] at e5
      rw [e3, e5.1]
    have mk : ∀ n, n ≤ len → ∃ xs : List Nat, xs.length = n ∧ ∀ (i : Nat) (hi : i < xs.length), h.cell (.old (ad.add i)) = some (u64 xs[i]) ∧ xs[i] < 18446744073709551616 := by
      intro n
      induction n with
      | zero => exact fun _ => ⟨[], rfl, fun i hi => by simp at hi⟩
      | succ n ih =>
        intro hn
        obtain ⟨xs, hl, hx⟩ := ih (by omega)
        obtain ⟨x, k1, k2⟩ := key n (by omega)
        refine ⟨xs ++ [x], by simp [hl], fun i hi => ?_⟩
        simp only [List.length_append, List.length_singleton] at hi
        by_cases hin : i < xs.length
        · rw [List.getElem_append_left hin]
          exact hx i hin
        · have : i = n := by omega
          subst this
          rw [List.getElem_append_right (by omega)]
          simp only [hl, Nat.sub_self, List.getElem_singleton]
          exact ⟨k1, k2⟩
    obtain ⟨xs, hl, hx⟩ := mk len (Nat.le_refl _)
    refine ⟨⟨some (.old ad), len, .is cap⟩, xs, rfl, ⟨⟨h1, by simp [hl], fun i v hv => ?_⟩, fun x hx' => ?_, ?_⟩⟩
    · rw [List.getElem?_map, Option.map_eq_some_iff] at hv
      obtain ⟨x, e1, rfl⟩ := hv
      obtain ⟨hi, rfl⟩ := List.getElem?_eq_some_iff.1 e1
      exact ⟨_, rfl, (hx i hi).1⟩
    · obtain ⟨i, hi, rfl⟩ := List.getElem_of_mem hx'
      exact (hx i hi).2
    · have : maxLen = 9223372036854775807 := by decide
      omega

theorem nat_of_arg {h : AH} {x : AV} (a : ArgV Pg h T.api_Nat x) : ∃ (s : Sl) (xs : List Nat), x = s.v ∧ Nats h s xs := by
  unfold ArgV at a
  rw [und_api_Nat] at a
  obtain ⟨s, xs, e, n⟩ := nats_of_arg a
  cases e
  exact ⟨s, xs, rfl, n⟩

end Go.Ab
