/- What each function does, step by step: printed by a program of ours, checked by the kernel. -/
import Derived.Test.YtpmbjekomcldmaaPAbsDra
import Derived.Test.YtpmbjekomcldmaaProg

set_option linter.unusedVariables false
set_option maxRecDepth 100000
namespace Go.Ab
open Go.Proofs

@[reducible] def F.law06_PaillierBack : FuncId := 4
@[reducible] def F.law06_few : FuncId := 5
@[reducible] def F.law06_awake : FuncId := 6
@[reducible] def F.paillier_Public : FuncId := 7
@[reducible] def F.ref01_Same : FuncId := 9
@[reducible] def F.paillier_May : FuncId := 10
@[reducible] def F.paillier_Valid : FuncId := 12
@[reducible] def F.paillier_Encrypt : FuncId := 14
@[reducible] def F.paillier_Decrypt : FuncId := 15
@[reducible] def F.prime_Check : FuncId := 16
@[reducible] def F.nat_Mul : FuncId := 17
@[reducible] def F.nat_Bits : FuncId := 21
@[reducible] def F.nat_Right : FuncId := 22
@[reducible] def F.nat_Bit : FuncId := 23
@[reducible] def F.paillier_alone : FuncId := 26
@[reducible] def F.paillier_square : FuncId := 27
@[reducible] def F.paillier_isPlain : FuncId := 30
@[reducible] def F.paillier_times : FuncId := 31
@[reducible] def F.paillier_shown : FuncId := 32
@[reducible] def F.paillier_power : FuncId := 33
@[reducible] def F.modint_Crt : FuncId := 34
@[reducible] def F.paillier_part : FuncId := 35
@[reducible] def F.prime_Check_1 : FuncId := 36
@[reducible] def F.prime_least : FuncId := 37
@[reducible] def F.math_bits_Len64 : FuncId := 38
@[reducible] def F.modint_Gcd : FuncId := 39
@[reducible] def F.nat_Cmp : FuncId := 40
@[reducible] def F.nat_right : FuncId := 41
@[reducible] def F.nat_told : FuncId := 42
@[reducible] def F.nat_product : FuncId := 43
@[reducible] def F.nat_Div : FuncId := 52
@[reducible] def F.nat_Add : FuncId := 53
@[reducible] def F.mont_New : FuncId := 54
@[reducible] def F.mont_Ring_Exp : FuncId := 55
@[reducible] def F.modint_Crt_1 : FuncId := 56
@[reducible] def F.modint_Crt_2 : FuncId := 57
@[reducible] def F.modint_Inverse : FuncId := 58
@[reducible] def F.modint_Sub : FuncId := 59
@[reducible] def F.modint_From : FuncId := 60
@[reducible] def F.modint_Mul : FuncId := 61
@[reducible] def F.modint_Floor : FuncId := 62
@[reducible] def F.paillier_part_1 : FuncId := 63
@[reducible] def F.nat_Sub : FuncId := 64
@[reducible] def F.prime_divisors : FuncId := 65
@[reducible] def F.slices_Clone_api_Nat_uint64 : FuncId := 66
@[reducible] def F.nat_compare : FuncId := 67
@[reducible] def F.slices_ContainsFunc_api_Nat_api_Nat : FuncId := 68
@[reducible] def F.nat_right_1 : FuncId := 69
@[reducible] def F.nat_trim : FuncId := 70
@[reducible] def F.nat_product_1 : FuncId := 71
@[reducible] def F.nat_school : FuncId := 72
@[reducible] def F.nat_product_1_1 : FuncId := 73
@[reducible] def F.nat_product_1_2 : FuncId := 74
@[reducible] def F.nat_sum : FuncId := 75
@[reducible] def F.nat_less : FuncId := 76
@[reducible] def F.nat_into : FuncId := 77
@[reducible] def F.nat_short : FuncId := 82
@[reducible] def F.nat_Of : FuncId := 83
@[reducible] def F.nat_long : FuncId := 84
@[reducible] def F.mont_Ring_rest : FuncId := 85
@[reducible] def F.mont_Ring_below : FuncId := 86
@[reducible] def F.mont_Ring_product : FuncId := 87
@[reducible] def F.modint_Of : FuncId := 88
@[reducible] def F.modint_Inverse_1 : FuncId := 89
@[reducible] def F.modint_right : FuncId := 90
@[reducible] def F.modint_Add : FuncId := 91
@[reducible] def F.modint_Neg : FuncId := 92
@[reducible] def F.prime_divisors_1 : FuncId := 93
@[reducible] def F.slices_IndexFunc_api_Nat_api_Nat : FuncId := 94
@[reducible] def F.math_bits_Mul64 : FuncId := 95
@[reducible] def F.math_bits_Div64 : FuncId := 99
@[reducible] def F.math_bits_LeadingZeros64 : FuncId := 100
@[reducible] def F.nat_up : FuncId := 101
@[reducible] def F.nat_guess : FuncId := 102
@[reducible] def F.mont_Ring_below_1 : FuncId := 103
@[reducible] def F.mont_add : FuncId := 104
@[reducible] def F.mont_trim : FuncId := 105
@[reducible] def F.slices_ContainsFunc_api_Int_api_Int : FuncId := 106
@[reducible] def F.modint_right_1 : FuncId := 107
@[reducible] def F.modint_Right : FuncId := 108
@[reducible] def F.slices_IndexFunc_api_Int_api_Int : FuncId := 110
@[reducible] def T.unit : TypeId := 0
@[reducible] def T.func : TypeId := 1
@[reducible] def T.int : TypeId := 3
@[reducible] def T.bool : TypeId := 4
@[reducible] def T.uint64 : TypeId := 22
@[reducible] def T.api_Key : TypeId := 24
@[reducible] def T.api_Nat : TypeId := 26
@[reducible] def T.func_api_Nat_api_Nat_api_Nat : TypeId := 46
@[reducible] def T.P_mont_Ring : TypeId := 62
@[reducible] def T.api_Int : TypeId := 66
@[reducible] def T.mont_Ring : TypeId := 87
@[reducible] noncomputable def Pg : Program := Try.prog
def keepTab : List (Nat × Nat × List Nat) := [(5, 2, [0, 3]), (8, 1000004, [0, 1, 3, 4, 2, 5, 6, 7, 8, 9, 10]), (9, 4, [0, 1, 5]), (15, 1000006, [0, 1, 2, 3, 5, 6, 7, 8, 9, 10, 11, 13, 14, 15, 4, 12, 16, 17, 18, 19, 20]), (15, 2000006, [7, 15]), (15, 3000006, [5, 6, 13, 14]), (16, 1000002, [0, 1, 2, 3, 4, 5, 6, 7, 8, 9, 10, 11, 12, 13, 14, 15, 16, 17, 18, 19, 21, 22, 20, 23, 24, 25]), (18, 1000001, [0, 1, 2, 3, 4, 5, 6, 7, 8, 9, 10, 11, 12, 13, 14, 15, 16, 17, 18, 19, 20, 22, 23, 21, 24, 25, 26, 27, 28, 30, 31, 29, 32, 33, 34, 35, 36, 37, 38, 39, 40, 41, 42, 43, 45, 46, 44, 47, 48, 49]), (18, 1000003, [0, 1, 3, 4, 2, 5, 6, 7, 8, 9, 10, 11]), (18, 1000004, [0, 1, 2, 4, 5, 6, 3, 7, 8, 9, 10, 11, 12, 13]), (25, 6, [0, 4, 5]), (34, 1000009, [0, 1, 7, 2, 3, 4, 5, 6, 8, 9]), (34, 1000010, [0, 1, 8, 9, 2, 3, 4, 5, 6, 7, 10, 11, 12]), (34, 2000009, [7]), (34, 2000010, [8, 9]), (35, 1000004, [0, 1, 5, 2, 3, 4, 6, 7, 8, 9, 10, 11]), (39, 4, [0, 1]), (44, 2, [0, 3]), (46, 7, [8, 9]), (49, 3, [0, 1, 5, 6]), (49, 7, [0, 1, 5, 6, 7, 8]), (50, 3, [0, 3, 4]), (50, 7, [0, 3, 4, 5, 6]), (54, 5, [0, 4, 40]), (55, 7, [0, 2, 8, 9, 10, 44]), (55, 12, [2, 8, 9, 11, 12]), (55, 16, [2, 8, 9, 11, 12, 13, 72]), (58, 7, [1, 7, 9, 10, 12]), (58, 1000011, [0, 1, 8, 9, 2, 3, 4, 5, 6, 7, 10, 11, 12]), (58, 2000011, [8, 9]), (67, 6, [0, 1, 5]), (70, 2, [0, 3]), (71, 1000006, [0, 1, 2, 4, 5, 8, 9, 10, 12, 13, 3, 6, 7, 11, 14, 15, 16, 17]), (71, 1000007, [0, 1, 2, 4, 5, 9, 10, 12, 13, 3, 6, 7, 8, 11, 14, 15, 16, 17, 18]), (72, 3, [1, 5, 20, 21, 22]), (72, 7, [1, 5, 6, 7, 8, 20, 21, 22, 27, 28, 29]), (75, 6, [0, 1, 5, 6, 21, 22]), (76, 4, [0, 1, 5, 6, 13, 14]), (77, 2, [0, 1, 2, 6, 7]), (79, 3, [0, 4, 5]), (79, 7, [0, 4, 5, 6, 7]), (80, 2, [0, 3]), (81, 6, [0, 1, 5]), (82, 4, [0, 1, 6, 7, 8]), (84, 6, [6, 7, 8, 9, 10, 11]), (84, 10, [6, 7, 8, 9, 10, 11, 12, 13]), (84, 18, [6, 10, 15, 16, 112, 113]), (87, 4, [0, 1, 2, 7, 8, 20, 21]), (89, 1000001, [0, 2, 7, 1, 3, 4, 5, 6, 8, 9]), (89, 2000001, [7]), (93, 1, [0, 1, 6, 7, 8]), (93, 6, [0, 1, 5]), (94, 2, [0, 1, 7, 8]), (99, 3, [0, 1, 2]), (99, 17, [2, 8, 9, 10, 11, 13, 14, 15, 16]), (99, 24, [2, 8, 9, 10, 14, 15, 16, 17, 18]), (101, 3, [1, 5, 12, 13, 14]), (102, 4, [2, 3, 4, 11, 12]), (104, 2, [0, 1, 2, 6, 12, 13]), (105, 2, [0, 3]), (109, 4, [0, 1, 6, 7, 8]), (109, 9, [0, 1, 6, 7, 8, 9, 10]), (110, 2, [0, 1, 7, 8]), (111, 4, [0, 1, 5, 6, 7]), (111, 1000006, [0, 1, 2, 3, 4, 5, 6, 9, 7, 8, 10, 11])]
noncomputable def go : Rec := run Pg (keepOf keepTab)
theorem go_step (k : Key) (h : AH) : go k h = stepA Pg (keepOf keepTab) go k h := run_unfold _ k h
theorem und_uint64 : Pg.underlying T.uint64 = some (.int .u64) := Try.underlying22
theorem cells_uint64 : Pg.cellsOf T.uint64 = 1 := by kernel_rfl
theorem zero_uint64 : zeroCells? Pg T.uint64 = some [.int .u64 0] := by kernel_rfl
theorem bytes_uint64 : Pg.bytesOf T.uint64 = 8 := by kernel_rfl
theorem und_api_Key : Pg.underlying T.api_Key = some (.struct #[{ name := "P", type := T.uint64, offset := 0, embedded := false, tag := "", pkgPath := "", byteOffset := 0 }, { name := "Q", type := T.uint64, offset := 1, embedded := false, tag := "", pkgPath := "", byteOffset := 8 }]) := Try.underlying24
theorem cells_api_Key : Pg.cellsOf T.api_Key = 2 := by kernel_rfl
theorem und_api_Nat : Pg.underlying T.api_Nat = some (.slice T.uint64) := Try.underlying26
theorem cells_api_Nat : Pg.cellsOf T.api_Nat = 1 := by kernel_rfl
theorem zero_api_Nat : zeroCells? Pg T.api_Nat = some [(⟨none, 0, .is 0⟩ : Sl).v] := by kernel_rfl
theorem bytes_api_Nat : Pg.bytesOf T.api_Nat = 24 := by kernel_rfl
noncomputable def Td.law06_few_2 : List Item := todoAt Try.f5 2
noncomputable def Td.ref01_Same_4 : List Item := todoAt Try.f9 4
noncomputable def Td.modint_Gcd_4 : List Item := todoAt Try.f39 4
noncomputable def Td.mont_New_5 : List Item := todoAt Try.f54 5
noncomputable def Td.mont_Ring_Exp_7 : List Item := todoAt Try.f55 7
noncomputable def Td.mont_Ring_Exp_12 : List Item := todoAt Try.f55 12
noncomputable def Td.mont_Ring_Exp_16 : List Item := todoAt Try.f55 16
noncomputable def Td.modint_Inverse_7 : List Item := todoAt Try.f58 7
noncomputable def Td.nat_compare_6 : List Item := todoAt Try.f67 6
noncomputable def Td.nat_trim_2 : List Item := todoAt Try.f70 2
noncomputable def Td.nat_school_3 : List Item := todoAt Try.f72 3
noncomputable def Td.nat_school_7 : List Item := todoAt Try.f72 7
noncomputable def Td.nat_sum_6 : List Item := todoAt Try.f75 6
noncomputable def Td.nat_less_4 : List Item := todoAt Try.f76 4
noncomputable def Td.nat_into_2 : List Item := todoAt Try.f77 2
noncomputable def Td.nat_short_4 : List Item := todoAt Try.f82 4
noncomputable def Td.nat_long_6 : List Item := todoAt Try.f84 6
noncomputable def Td.nat_long_10 : List Item := todoAt Try.f84 10
noncomputable def Td.nat_long_18 : List Item := todoAt Try.f84 18
noncomputable def Td.mont_Ring_product_4 : List Item := todoAt Try.f87 4
noncomputable def Td.prime_divisors_1_1 : List Item := todoAt Try.f93 1
noncomputable def Td.prime_divisors_1_6 : List Item := todoAt Try.f93 6
noncomputable def Td.slices_IndexFunc_api_Nat_api_Nat_2 : List Item := todoAt Try.f94 2
noncomputable def Td.math_bits_Div64_3 : List Item := todoAt Try.f99 3
noncomputable def Td.math_bits_Div64_17 : List Item := todoAt Try.f99 17
noncomputable def Td.math_bits_Div64_24 : List Item := todoAt Try.f99 24
noncomputable def Td.nat_up_3 : List Item := todoAt Try.f101 3
noncomputable def Td.nat_guess_4 : List Item := todoAt Try.f102 4
noncomputable def Td.mont_add_2 : List Item := todoAt Try.f104 2
noncomputable def Td.mont_trim_2 : List Item := todoAt Try.f105 2
noncomputable def Td.slices_IndexFunc_api_Int_api_Int_2 : List Item := todoAt Try.f110 2
noncomputable def Tr.prime_least_0 : List Item := loopTodo Try.f37 0 (.tmp 5)
noncomputable def Ta.prime_least_0 : List Item := (loopAt Try.f37 0).2.2.2
def lit1 : ByteArray := (⟨((List.append (List.append ([0, 1, 2, 2, 3, 3, 3, 3, 4, 4, 4, 4, 4, 4, 4, 4, 5, 5, 5, 5, 5, 5, 5, 5, 5, 5, 5, 5, 5, 5, 5, 5, 6, 6, 6, 6, 6, 6, 6, 6, 6, 6, 6, 6, 6, 6, 6, 6, 6, 6, 6, 6, 6, 6, 6, 6, 6, 6, 6, 6, 6, 6, 6, 6] : List UInt8) ([7, 7, 7, 7, 7, 7, 7, 7, 7, 7, 7, 7, 7, 7, 7, 7, 7, 7, 7, 7, 7, 7, 7, 7, 7, 7, 7, 7, 7, 7, 7, 7, 7, 7, 7, 7, 7, 7, 7, 7, 7, 7, 7, 7, 7, 7, 7, 7, 7, 7, 7, 7, 7, 7, 7, 7, 7, 7, 7, 7, 7, 7, 7, 7] : List UInt8)) (List.append ([8, 8, 8, 8, 8, 8, 8, 8, 8, 8, 8, 8, 8, 8, 8, 8, 8, 8, 8, 8, 8, 8, 8, 8, 8, 8, 8, 8, 8, 8, 8, 8, 8, 8, 8, 8, 8, 8, 8, 8, 8, 8, 8, 8, 8, 8, 8, 8, 8, 8, 8, 8, 8, 8, 8, 8, 8, 8, 8, 8, 8, 8, 8, 8] : List UInt8) ([8, 8, 8, 8, 8, 8, 8, 8, 8, 8, 8, 8, 8, 8, 8, 8, 8, 8, 8, 8, 8, 8, 8, 8, 8, 8, 8, 8, 8, 8, 8, 8, 8, 8, 8, 8, 8, 8, 8, 8, 8, 8, 8, 8, 8, 8, 8, 8, 8, 8, 8, 8, 8, 8, 8, 8, 8, 8, 8, 8, 8, 8, 8, 8] : List UInt8)))).toArray⟩ : ByteArray)

theorem callF_prime_divisors_1 (args : List AV) (h : AH) : callF Pg go F.prime_divisors_1 args h = go (.fn F.prime_divisors_1 args) h := by kernel_rfl
theorem u_law06_PaillierBack (a1 : Int) (a2 : Int) (a3 : Sl) (a4 : Sl) (h : AH) : go (.fn F.law06_PaillierBack [.agg [.int .u64 a1, .int .u64 a2], a3.v, a4.v]) h =
  newK h (.cells [.int .u64 a1, .int .u64 a2] T.api_Key) fun h5r h5 =>
  newK h5 (.cells [a3.v, a4.v] T.api_Nat) fun h6r h6 =>
  (go (.fn F.law06_few [(⟨some h6r, 2, .is 2⟩ : Sl).v]) h6).bind fun q7 =>
  ((some q7.1).bind AV.asBool).bind fun b8 =>
  cond (!b8) (
  some (.bool true, q7.2)) (
  (go (.fn F.law06_awake []) q7.2).bind fun q9 =>
  ((some q9.1).bind AV.asBool).bind fun b10 =>
  ((q9.2.cell (h5r.add 0)).bind (AV.asInt .u64)).bind fun n11 =>
  ((q9.2.cell (h5r.add 1)).bind (AV.asInt .u64)).bind fun n12 =>
  (go (.fn F.paillier_Public [.agg [.int .u64 n11, .int .u64 n12]]) q9.2).bind fun q13 =>
  (AV.asTup2 q13.1).bind fun p14 =>
  ((some p14.1).bind AV.asSl).bind fun l15 =>
  ((some p14.2).bind (AV.asInt .i64)).bind fun n16 =>
  cond (!b10) (
  cond b10 (
  some (.bool (decide (n16 = 9)), q13.2)) (
  some (.bool false, q13.2))) (
  cond (!decide (n16 = 0)) (
  cond b10 (
  some (.bool (decide (n16 = 9)), q13.2)) (
  some (.bool false, q13.2))) (
  (go (.fn F.paillier_Encrypt [l15.v, a3.v, a4.v]) q13.2).bind fun q17 =>
  (AV.asTup2 q17.1).bind fun p18 =>
  ((some p18.1).bind AV.asSl).bind fun l19 =>
  ((some p18.2).bind (AV.asInt .i64)).bind fun n20 =>
  cond (!decide (n20 = 0)) (
  cond (decide (n20 = 10)) (
  some (.bool true, q17.2)) (
  some (.bool (decide (n20 = 1)), q17.2))) (
  ((q17.2.cell (h5r.add 0)).bind (AV.asInt .u64)).bind fun n21 =>
  ((q17.2.cell (h5r.add 1)).bind (AV.asInt .u64)).bind fun n22 =>
  (go (.fn F.paillier_Decrypt [.agg [.int .u64 n21, .int .u64 n22], l19.v]) q17.2).bind fun q23 =>
  (AV.asTup2 q23.1).bind fun p24 =>
  ((some p24.1).bind AV.asSl).bind fun l25 =>
  ((some p24.2).bind (AV.asInt .i64)).bind fun n26 =>
  (go (.fn F.ref01_Same [l25.v, a3.v]) q23.2).bind fun q27 =>
  ((some q27.1).bind AV.asBool).bind fun b28 =>
  cond (decide (n26 = 0)) (
  cond b28 (
  (go (.fn F.paillier_Valid [l15.v, l19.v]) q27.2).bind fun q29 =>
  ((some q29.1).bind AV.asBool).bind fun b30 =>
  some (.bool b30, q29.2)) (
  some (.bool false, q27.2))) (
  some (.bool false, q27.2)))))) := (go_step _ h).trans (by kernel_rfl)

theorem u_nat_product_1 (a1 : Sl) (a2 : Sl) (a3 : Ref) (h : AH) : go (.fn F.nat_product_1 [a1.v, a2.v, .ptr (some a3)]) h =
  cond (decide ((a1.len : Int) < 24)) (
  (go (.fn F.nat_school [a1.v, a2.v]) h).bind fun q4 =>
  ((some q4.1).bind AV.asSl).bind fun l5 =>
  some (l5.v, q4.2)) (
  cond (decide ((a2.len : Int) < 24)) (
  (go (.fn F.nat_school [a1.v, a2.v]) h).bind fun q6 =>
  ((some q6.1).bind AV.asSl).bind fun l7 =>
  some (l7.v, q6.2)) (
  newK h (.cells [.int .i64 0] T.int) fun h8r h8 =>
  (h8.puts h8r [.int .i64 (IntKind.wrap .i64 (Int.tdiv (IntKind.wrap .i64 ((imax (a1.len : Int) (a2.len : Int)) + 1)) 2))]).bind fun h9 =>
  (h9.cell a3).bind fun v10 =>
  (h9.cell a3).bind fun v11 =>
  (go (.fn F.nat_product_1_1 [a1.v, .ptr (some h8r)]) h9).bind fun q12 =>
  ((some q12.1).bind AV.asSl).bind fun l13 =>
  whenK (SameAt h9 q12.2 a3 1) (
  whenK (SameAt h9 q12.2 a3 1) (
  (go (.fn F.nat_product_1_1 [a2.v, .ptr (some h8r)]) q12.2).bind fun q14 =>
  ((some q14.1).bind AV.asSl).bind fun l15 =>
  whenK (SameAt q12.2 q14.2 a3 1) (
  whenK (SameAt q12.2 q14.2 a3 1) (
  (callV Pg go v10 [l13.v, l15.v] q14.2).bind fun q16 =>
  ((some q16.1).bind AV.asSl).bind fun l17 =>
  whenK (SameAt q14.2 q16.2 a3 1) (
  (go (.fn F.nat_product_1_2 [a1.v, .ptr (some h8r)]) q16.2).bind fun q18 =>
  ((some q18.1).bind AV.asSl).bind fun l19 =>
  whenK (SameAt q16.2 q18.2 a3 1) (
  (go (.fn F.nat_product_1_2 [a2.v, .ptr (some h8r)]) q18.2).bind fun q20 =>
  ((some q20.1).bind AV.asSl).bind fun l21 =>
  whenK (SameAt q18.2 q20.2 a3 1) (
  (callV Pg go v11 [l19.v, l21.v] q20.2).bind fun q22 =>
  ((some q22.1).bind AV.asSl).bind fun l23 =>
  (q22.2.cell a3).bind fun v24 =>
  (go (.fn F.nat_product_1_1 [a1.v, .ptr (some h8r)]) q22.2).bind fun q25 =>
  ((some q25.1).bind AV.asSl).bind fun l26 =>
  whenK (SameAt q22.2 q25.2 a3 1) (
  (go (.fn F.nat_product_1_2 [a1.v, .ptr (some h8r)]) q25.2).bind fun q27 =>
  ((some q27.1).bind AV.asSl).bind fun l28 =>
  whenK (SameAt q25.2 q27.2 a3 1) (
  (go (.fn F.nat_sum [l26.v, l28.v]) q27.2).bind fun q29 =>
  ((some q29.1).bind AV.asSl).bind fun l30 =>
  whenK (SameAt q27.2 q29.2 a3 1) (
  (go (.fn F.nat_trim [l30.v]) q29.2).bind fun q31 =>
  ((some q31.1).bind AV.asSl).bind fun l32 =>
  whenK (SameAt q29.2 q31.2 a3 1) (
  (go (.fn F.nat_product_1_1 [a2.v, .ptr (some h8r)]) q31.2).bind fun q33 =>
  ((some q33.1).bind AV.asSl).bind fun l34 =>
  whenK (SameAt q31.2 q33.2 a3 1) (
  (go (.fn F.nat_product_1_2 [a2.v, .ptr (some h8r)]) q33.2).bind fun q35 =>
  ((some q35.1).bind AV.asSl).bind fun l36 =>
  whenK (SameAt q33.2 q35.2 a3 1) (
  (go (.fn F.nat_sum [l34.v, l36.v]) q35.2).bind fun q37 =>
  ((some q37.1).bind AV.asSl).bind fun l38 =>
  whenK (SameAt q35.2 q37.2 a3 1) (
  (go (.fn F.nat_trim [l38.v]) q37.2).bind fun q39 =>
  ((some q39.1).bind AV.asSl).bind fun l40 =>
  whenK (SameAt q37.2 q39.2 a3 1) (
  (callV Pg go v24 [l32.v, l40.v] q39.2).bind fun q41 =>
  ((some q41.1).bind AV.asSl).bind fun l42 =>
  (go (.fn F.nat_less [l42.v, l17.v]) q41.2).bind fun q43 =>
  ((some q43.1).bind AV.asSl).bind fun l44 =>
  (go (.fn F.nat_trim [l44.v]) q43.2).bind fun q45 =>
  ((some q45.1).bind AV.asSl).bind fun l46 =>
  (go (.fn F.nat_less [l46.v, l23.v]) q45.2).bind fun q47 =>
  ((some q47.1).bind AV.asSl).bind fun l48 =>
  (go (.fn F.nat_trim [l48.v]) q47.2).bind fun q49 =>
  ((some q49.1).bind AV.asSl).bind fun l50 =>
  (makeSliceH (IntKind.wrap .i64 ((IntKind.wrap .i64 ((a1.len : Int) + (a2.len : Int))) + 1)) (IntKind.wrap .i64 ((IntKind.wrap .i64 ((a1.len : Int) + (a2.len : Int))) + 1)) T.uint64 (Pg.bytesOf T.uint64) [.int .u64 0] q49.2).bind fun q51 =>
  (copyH l17 q51.1 1 q51.2).bind fun h52 =>
  ((h52.cell h8r).bind (AV.asInt .i64)).bind fun n53 =>
  (go (.fn F.nat_into [q51.1.v, l50.v, .int .i64 n53]) h52).bind fun q54 =>
  (AV.asTup0 q54.1).bind fun _ =>
  ((q54.2.cell h8r).bind (AV.asInt .i64)).bind fun n55 =>
  (go (.fn F.nat_into [q51.1.v, l23.v, .int .i64 (IntKind.wrap .i64 (2 * n55))]) q54.2).bind fun q56 =>
  (AV.asTup0 q56.1).bind fun _ =>
  (go (.fn F.nat_trim [q51.1.v]) q56.2).bind fun q57 =>
  ((some q57.1).bind AV.asSl).bind fun l58 =>
  some (l58.v, q57.2)))))))))))))))))) := (go_step _ h).trans (by kernel_rfl)

theorem u_prime_divisors_1 (a1 : Nat) (a2 : Ref) (h : AH) : go (.fn F.prime_divisors_1 [.func (.yield a1) [] [], .ptr (some a2)]) h =
  newK h (.cells [.int .u64 2, .int .u64 3] T.uint64) fun h3r h3 =>
  go (.pt F.prime_divisors_1 Td.prime_divisors_1_1 [(0, .func (.yield a1) [] []), (1, .ptr (some a2)), (6, (⟨some h3r, 2, .is 2⟩ : Sl).v), (7, .int .i64 2), (8, .int .i64 0)]) h3 := (go_step _ h).trans (by kernel_rfl)

theorem u_law06_few (a1 : Sl) (h : AH) : go (.fn F.law06_few [a1.v]) h =
  go (.pt F.law06_few Td.law06_few_2 [(0, a1.v), (3, .int .i64 0)]) h := (go_step _ h).trans (by kernel_rfl)

theorem u_law06_awake  (h : AH) : go (.fn F.law06_awake []) h =
  newK h (.cells [.int .u64 17947] T.uint64) fun h1r h1 =>
  newK h1 (.cells [.int .u64 5] T.uint64) fun h2r h2 =>
  newK h2 (.cells [.int .u64 1] T.uint64) fun h3r h3 =>
  (go (.fn F.paillier_Encrypt [(⟨some h1r, 1, .is 1⟩ : Sl).v, (⟨some h2r, 1, .is 1⟩ : Sl).v, (⟨some h3r, 1, .is 1⟩ : Sl).v]) h3).bind fun q4 =>
  (AV.asTup2 q4.1).bind fun p5 =>
  ((some p5.1).bind AV.asSl).bind fun l6 =>
  ((some p5.2).bind (AV.asInt .i64)).bind fun n7 =>
  cond (decide (n7 = 0)) (
  cond (decide ((l6.len : Int) = 1)) (
  (idx l6.ref l6.len 0 1).bind fun r8 =>
  ((q4.2.cell r8).bind (AV.asInt .u64)).bind fun n9 =>
  some (.bool (decide (n9 = 89736)), q4.2)) (
  some (.bool false, q4.2))) (
  some (.bool false, q4.2)) := (go_step _ h).trans (by kernel_rfl)

theorem u_paillier_Public (a1 : Int) (a2 : Int) (h : AH) : go (.fn F.paillier_Public [.agg [.int .u64 a1, .int .u64 a2]]) h =
  newK h (.cells [.int .u64 a1, .int .u64 a2] T.api_Key) fun h3r h3 =>
  ((h3.cell (h3r.add 0)).bind (AV.asInt .u64)).bind fun n4 =>
  ((h3.cell (h3r.add 1)).bind (AV.asInt .u64)).bind fun n5 =>
  (go (.fn F.prime_Check [.agg [.int .u64 n4, .int .u64 n5]]) h3).bind fun q6 =>
  ((some q6.1).bind (AV.asInt .i64)).bind fun n7 =>
  cond (!decide (n7 = 0)) (
  some (.tup [(⟨none, 0, .is 0⟩ : Sl).v, .int .i64 n7], q6.2)) (
  ((q6.2.cell (h3r.add 0)).bind (AV.asInt .u64)).bind fun n8 =>
  newK q6.2 (.cells [.int .u64 n8] T.uint64) fun h9r h9 =>
  ((h9.cell (h3r.add 1)).bind (AV.asInt .u64)).bind fun n10 =>
  newK h9 (.cells [.int .u64 n10] T.uint64) fun h11r h11 =>
  (go (.fn F.nat_Mul [(⟨some h9r, 1, .is 1⟩ : Sl).v, (⟨some h11r, 1, .is 1⟩ : Sl).v]) h11).bind fun q12 =>
  (AV.asTup2 q12.1).bind fun p13 =>
  ((some p13.1).bind AV.asSl).bind fun l14 =>
  ((some p13.2).bind (AV.asInt .i64)).bind fun n15 =>
  some (.tup [l14.v, .int .i64 n15], q12.2)) := (go_step _ h).trans (by kernel_rfl)

theorem u_ref01_Same (a1 : Sl) (a2 : Sl) (h : AH) : go (.fn F.ref01_Same [a1.v, a2.v]) h =
  cond (!decide ((a1.len : Int) = (a2.len : Int))) (
  some (.bool false, h)) (
  go (.pt F.ref01_Same Td.ref01_Same_4 [(0, a1.v), (1, a2.v), (5, .int .i64 0)]) h) := (go_step _ h).trans (by kernel_rfl)

theorem u_paillier_May (a1 : Sl) (h : AH) : go (.fn F.paillier_May [a1.v]) h =
  (go (.fn F.nat_Bits [a1.v]) h).bind fun q2 =>
  ((some q2.1).bind (AV.asInt .i64)).bind fun n3 =>
  (go (.fn F.nat_Right [a1.v]) q2.2).bind fun q4 =>
  ((some q4.1).bind AV.asBool).bind fun b5 =>
  cond b5 (
  (go (.fn F.nat_Bit [a1.v, .int .i64 0]) q4.2).bind fun q6 =>
  ((some q6.1).bind AV.asBool).bind fun b7 =>
  cond b7 (
  cond (decide (n3 ≥ 15)) (
  some (.bool (decide (n3 ≤ 80)), q6.2)) (
  some (.bool false, q6.2))) (
  some (.bool false, q6.2))) (
  some (.bool false, q4.2)) := (go_step _ h).trans (by kernel_rfl)

theorem u_paillier_Valid (a1 : Sl) (a2 : Sl) (h : AH) : go (.fn F.paillier_Valid [a1.v, a2.v]) h =
  (go (.fn F.paillier_May [a1.v]) h).bind fun q3 =>
  ((some q3.1).bind AV.asBool).bind fun b4 =>
  cond b4 (
  (go (.fn F.paillier_square [a1.v]) q3.2).bind fun q5 =>
  ((some q5.1).bind AV.asSl).bind fun l6 =>
  (go (.fn F.paillier_alone [a2.v, a1.v, l6.v]) q5.2).bind fun q7 =>
  ((some q7.1).bind AV.asBool).bind fun b8 =>
  some (.bool b8, q7.2)) (
  some (.bool false, q3.2)) := (go_step _ h).trans (by kernel_rfl)

theorem u_paillier_Encrypt (a1 : Sl) (a2 : Sl) (a3 : Sl) (h : AH) : go (.fn F.paillier_Encrypt [a1.v, a2.v, a3.v]) h =
  (go (.fn F.paillier_May [a1.v]) h).bind fun q4 =>
  ((some q4.1).bind AV.asBool).bind fun b5 =>
  cond (!b5) (
  some (.tup [(⟨none, 0, .is 0⟩ : Sl).v, .int .i64 1], q4.2)) (
  (go (.fn F.paillier_isPlain [a1.v, a2.v]) q4.2).bind fun q6 =>
  ((some q6.1).bind AV.asBool).bind fun b7 =>
  cond (!b7) (
  some (.tup [(⟨none, 0, .is 0⟩ : Sl).v, .int .i64 10], q6.2)) (
  (go (.fn F.paillier_alone [a3.v, a1.v, a1.v]) q6.2).bind fun q8 =>
  ((some q8.1).bind AV.asBool).bind fun b9 =>
  cond (!b9) (
  some (.tup [(⟨none, 0, .is 0⟩ : Sl).v, .int .i64 1], q8.2)) (
  (go (.fn F.paillier_shown [a1.v, a2.v]) q8.2).bind fun q10 =>
  ((some q10.1).bind AV.asSl).bind fun l11 =>
  (go (.fn F.paillier_power [a1.v, a3.v, a1.v]) q10.2).bind fun q12 =>
  ((some q12.1).bind AV.asSl).bind fun l13 =>
  (go (.fn F.paillier_times [a1.v, l11.v, l13.v]) q12.2).bind fun q14 =>
  ((some q14.1).bind AV.asSl).bind fun l15 =>
  some (.tup [l15.v, .int .i64 0], q14.2)))) := (go_step _ h).trans (by kernel_rfl)

theorem u_paillier_Decrypt (a1 : Int) (a2 : Int) (a3 : Sl) (h : AH) : go (.fn F.paillier_Decrypt [.agg [.int .u64 a1, .int .u64 a2], a3.v]) h =
  newK h (.cells [.int .u64 a1, .int .u64 a2] T.api_Key) fun h4r h4 =>
  ((h4.cell (h4r.add 0)).bind (AV.asInt .u64)).bind fun n5 =>
  ((h4.cell (h4r.add 1)).bind (AV.asInt .u64)).bind fun n6 =>
  (go (.fn F.paillier_Public [.agg [.int .u64 n5, .int .u64 n6]]) h4).bind fun q7 =>
  (AV.asTup2 q7.1).bind fun p8 =>
  ((some p8.1).bind AV.asSl).bind fun l9 =>
  ((some p8.2).bind (AV.asInt .i64)).bind fun n10 =>
  cond (!decide (n10 = 0)) (
  some (.tup [(⟨none, 0, .is 0⟩ : Sl).v, .int .i64 n10], q7.2)) (
  (go (.fn F.paillier_Valid [l9.v, a3.v]) q7.2).bind fun q11 =>
  ((some q11.1).bind AV.asBool).bind fun b12 =>
  cond (!b12) (
  some (.tup [(⟨none, 0, .is 0⟩ : Sl).v, .int .i64 11], q11.2)) (
  ((q11.2.cell (h4r.add 0)).bind (AV.asInt .u64)).bind fun n13 =>
  ((q11.2.cell (h4r.add 1)).bind (AV.asInt .u64)).bind fun n14 =>
  newK q11.2 (.cells [.int .u64 n13] T.uint64) fun h15r h15 =>
  newK h15 (.cells [.int .u64 n14] T.uint64) fun h16r h16 =>
  ((h16.cell (h4r.add 0)).bind (AV.asInt .u64)).bind fun n17 =>
  ((h16.cell (h4r.add 0)).bind (AV.asInt .u64)).bind fun n18 =>
  ((h16.cell (h4r.add 1)).bind (AV.asInt .u64)).bind fun n19 =>
  ((h16.cell (h4r.add 1)).bind (AV.asInt .u64)).bind fun n20 =>
  (go (.fn F.paillier_part [a3.v, l9.v, .int .u64 n17]) h16).bind fun q21 =>
  ((some q21.1).bind AV.asSl).bind fun l22 =>
  whenK (SameAt h16 q21.2 (h4r.add 1) 1) (
  whenK (SameAt h16 q21.2 (h4r.add 1) 1) (
  whenK (SameAt h16 q21.2 (h4r.add 0) 1) (
  whenK (SameAt h16 q21.2 h16r 0) (
  whenK (SameAt h16 q21.2 h15r 0) (
  (go (.fn F.paillier_part [a3.v, l9.v, .int .u64 n19]) q21.2).bind fun q23 =>
  ((some q23.1).bind AV.asSl).bind fun l24 =>
  whenK (SameAt q21.2 q23.2 (h4r.add 1) 1) (
  whenK (SameAt q21.2 q23.2 (h4r.add 0) 1) (
  whenK (SameAt q21.2 q23.2 h16r 0) (
  whenK (SameAt q21.2 q23.2 h15r 0) (
  (go (.fn F.modint_Crt [l22.v, (⟨some h15r, 1, .is 1⟩ : Sl).v, l24.v, (⟨some h16r, 1, .is 1⟩ : Sl).v]) q23.2).bind fun q25 =>
  (AV.asTup2 q25.1).bind fun p26 =>
  ((some p26.1).bind AV.asSl).bind fun l27 =>
  ((some p26.2).bind (AV.asInt .i64)).bind fun n28 =>
  whenK (([some (.int .u64 n20 : AV), some (.int .u64 n18 : AV)] : List (Option AV)) = [some (.int .u64 n14 : AV), some (.int .u64 n13 : AV)]) (
  some (.tup [l27.v, .int .i64 n28], q25.2))))))))))))) := (go_step _ h).trans (by kernel_rfl)

theorem u_nat_school (a1 : Sl) (a2 : Sl) (h : AH) : go (.fn F.nat_school [a1.v, a2.v]) h =
  (makeSliceH (IntKind.wrap .i64 ((a1.len : Int) + (a2.len : Int))) (IntKind.wrap .i64 ((a1.len : Int) + (a2.len : Int))) T.uint64 (Pg.bytesOf T.uint64) [.int .u64 0] h).bind fun q3 =>
  go (.pt F.nat_school Td.nat_school_3 [(1, a2.v), (5, q3.1.v), (20, a1.v), (21, .int .i64 (a1.len : Int)), (22, .int .i64 0)]) q3.2 := (go_step _ h).trans (by kernel_rfl)

theorem u_nat_product_1_1 (a1 : Sl) (a2 : Ref) (h : AH) : go (.fn F.nat_product_1_1 [a1.v, .ptr (some a2)]) h =
  ((h.cell a2).bind (AV.asInt .i64)).bind fun n3 =>
  (cutSl a1 0 (imin n3 (a1.len : Int)) 1).bind fun l4 =>
  (go (.fn F.nat_trim [l4.v]) h).bind fun q5 =>
  ((some q5.1).bind AV.asSl).bind fun l6 =>
  some (l6.v, q5.2) := (go_step _ h).trans (by kernel_rfl)

theorem u_nat_product_1_2 (a1 : Sl) (a2 : Ref) (h : AH) : go (.fn F.nat_product_1_2 [a1.v, .ptr (some a2)]) h =
  ((h.cell a2).bind (AV.asInt .i64)).bind fun n3 =>
  (cutSl a1 (imin n3 (a1.len : Int)) (a1.len : Int) 1).bind fun l4 =>
  some (l4.v, h) := (go_step _ h).trans (by kernel_rfl)

theorem u_nat_sum (a1 : Sl) (a2 : Sl) (h : AH) : go (.fn F.nat_sum [a1.v, a2.v]) h =
  cond (decide ((a1.len : Int) < (a2.len : Int))) (
  (makeSliceH (IntKind.wrap .i64 ((a2.len : Int) + 1)) (IntKind.wrap .i64 ((a2.len : Int) + 1)) T.uint64 (Pg.bytesOf T.uint64) [.int .u64 0] h).bind fun q3 =>
  go (.pt F.nat_sum Td.nat_sum_6 [(0, a2.v), (1, a1.v), (5, q3.1.v), (6, .int .u64 0), (21, .int .i64 (a2.len : Int)), (22, .int .i64 0)]) q3.2) (
  (makeSliceH (IntKind.wrap .i64 ((a1.len : Int) + 1)) (IntKind.wrap .i64 ((a1.len : Int) + 1)) T.uint64 (Pg.bytesOf T.uint64) [.int .u64 0] h).bind fun q4 =>
  go (.pt F.nat_sum Td.nat_sum_6 [(0, a1.v), (1, a2.v), (5, q4.1.v), (6, .int .u64 0), (21, .int .i64 (a1.len : Int)), (22, .int .i64 0)]) q4.2) := (go_step _ h).trans (by kernel_rfl)

theorem u_nat_trim (a1 : Sl) (h : AH) : go (.fn F.nat_trim [a1.v]) h =
  go (.pt F.nat_trim Td.nat_trim_2 [(0, a1.v), (3, .int .i64 (a1.len : Int))]) h := (go_step _ h).trans (by kernel_rfl)

theorem u_nat_less (a1 : Sl) (a2 : Sl) (h : AH) : go (.fn F.nat_less [a1.v, a2.v]) h =
  (makeSliceH (a1.len : Int) (a1.len : Int) T.uint64 (Pg.bytesOf T.uint64) [.int .u64 0] h).bind fun q3 =>
  go (.pt F.nat_less Td.nat_less_4 [(0, a1.v), (1, a2.v), (5, q3.1.v), (6, .int .u64 0), (13, .int .i64 (a1.len : Int)), (14, .int .i64 0)]) q3.2 := (go_step _ h).trans (by kernel_rfl)

theorem u_nat_into (a1 : Sl) (a2 : Sl) (a3 : Int) (h : AH) : go (.fn F.nat_into [a1.v, a2.v, .int .i64 a3]) h =
  go (.pt F.nat_into Td.nat_into_2 [(0, a1.v), (1, a2.v), (2, .int .i64 a3), (6, .int .u64 0), (7, .int .i64 a3)]) h := (go_step _ h).trans (by kernel_rfl)

theorem p_prime_divisors_1_1 (a1 : Nat) (a2 : Ref) (a3 : Sl) (a4 : Int) (a5 : Int) (h : AH) : go (.pt F.prime_divisors_1 Td.prime_divisors_1_1 [(0, .func (.yield a1) [] []), (1, .ptr (some a2)), (6, a3.v), (7, .int .i64 a4), (8, .int .i64 a5)]) h =
  cond (decide (a5 < a4)) (
  (idx a3.ref a3.len a5 1).bind fun r6 =>
  ((h.cell r6).bind (AV.asInt .u64)).bind fun n7 =>
  ((h.cell a2).bind (AV.asInt .u64)).bind fun n8 =>
  cond (decide ((IntKind.wrap .u64 (n7 * n7)) > n8)) (
  some (.tup [], h)) (
  (go (.round a1 [.int .u64 n7]) h).bind fun q9 =>
  ((some q9.1).bind AV.asBool).bind fun b10 =>
  cond (!b10) (
  some (.tup [], q9.2)) (
  go (.pt F.prime_divisors_1 Td.prime_divisors_1_1 [(0, .func (.yield a1) [] []), (1, .ptr (some a2)), (6, a3.v), (7, .int .i64 a4), (8, .int .i64 (IntKind.wrap .i64 (a5 + 1)))]) q9.2))) (
  go (.pt F.prime_divisors_1 Td.prime_divisors_1_6 [(0, .func (.yield a1) [] []), (1, .ptr (some a2)), (5, .int .u64 5)]) h) := (go_step _ h).trans (by kernel_rfl)

theorem p_law06_few_2 (a1 : Sl) (a2 : Int) (h : AH) : go (.pt F.law06_few Td.law06_few_2 [(0, a1.v), (3, .int .i64 a2)]) h =
  cond (decide (a2 < (a1.len : Int))) (
  (idx a1.ref a1.len a2 1).bind fun r3 =>
  ((h.cell r3).bind AV.asSl).bind fun l4 =>
  cond (decide ((l4.len : Int) > 20)) (
  some (.bool false, h)) (
  go (.pt F.law06_few Td.law06_few_2 [(0, a1.v), (3, .int .i64 (IntKind.wrap .i64 (a2 + 1)))]) h)) (
  some (.bool true, h)) := (go_step _ h).trans (by kernel_rfl)

theorem u_prime_Check (a1 : Int) (a2 : Int) (h : AH) : go (.fn F.prime_Check [.agg [.int .u64 a1, .int .u64 a2]]) h =
  newK h (.cells [.int .u64 a1, .int .u64 a2] T.api_Key) fun h3r h3 =>
  ((h3.cell (h3r.add 0)).bind (AV.asInt .u64)).bind fun n4 =>
  (go (.fn F.prime_Check_1 [.int .u64 n4]) h3).bind fun q5 =>
  ((some q5.1).bind AV.asBool).bind fun b6 =>
  cond b6 (
  some (.int .i64 9, q5.2)) (
  ((q5.2.cell (h3r.add 1)).bind (AV.asInt .u64)).bind fun n7 =>
  (go (.fn F.prime_Check_1 [.int .u64 n7]) q5.2).bind fun q8 =>
  ((some q8.1).bind AV.asBool).bind fun b9 =>
  cond b9 (
  some (.int .i64 9, q8.2)) (
  ((q8.2.cell (h3r.add 0)).bind (AV.asInt .u64)).bind fun n10 =>
  ((q8.2.cell (h3r.add 1)).bind (AV.asInt .u64)).bind fun n11 =>
  cond (decide (n10 = n11)) (
  some (.int .i64 9, q8.2)) (
  ((q8.2.cell (h3r.add 0)).bind (AV.asInt .u64)).bind fun n12 =>
  ((q8.2.cell (h3r.add 1)).bind (AV.asInt .u64)).bind fun n13 =>
  (go (.fn F.math_bits_Len64 [.int .u64 n12]) q8.2).bind fun q14 =>
  ((some q14.1).bind (AV.asInt .i64)).bind fun n15 =>
  whenK (SameAt q8.2 q14.2 (h3r.add 1) 1) (
  (go (.fn F.math_bits_Len64 [.int .u64 n13]) q14.2).bind fun q16 =>
  ((some q16.1).bind (AV.asInt .i64)).bind fun n17 =>
  cond (!decide (n15 = n17)) (
  some (.int .i64 9, q16.2)) (
  ((q16.2.cell (h3r.add 0)).bind (AV.asInt .u64)).bind fun n18 =>
  newK q16.2 (.cells [.int .u64 n18] T.uint64) fun h19r h19 =>
  ((h19.cell (h3r.add 1)).bind (AV.asInt .u64)).bind fun n20 =>
  newK h19 (.cells [.int .u64 n20] T.uint64) fun h21r h21 =>
  (go (.fn F.nat_Mul [(⟨some h19r, 1, .is 1⟩ : Sl).v, (⟨some h21r, 1, .is 1⟩ : Sl).v]) h21).bind fun q22 =>
  (AV.asTup2 q22.1).bind fun p23 =>
  ((some p23.1).bind AV.asSl).bind fun l24 =>
  ((some p23.2).bind (AV.asInt .i64)).bind fun n25 =>
  ((q22.2.cell (h3r.add 0)).bind (AV.asInt .u64)).bind fun n26 =>
  newK q22.2 (.cells [.int .u64 (IntKind.wrap .u64 (n26 - 1))] T.uint64) fun h27r h27 =>
  ((h27.cell (h3r.add 1)).bind (AV.asInt .u64)).bind fun n28 =>
  newK h27 (.cells [.int .u64 (IntKind.wrap .u64 (n28 - 1))] T.uint64) fun h29r h29 =>
  (go (.fn F.nat_Mul [(⟨some h27r, 1, .is 1⟩ : Sl).v, (⟨some h29r, 1, .is 1⟩ : Sl).v]) h29).bind fun q30 =>
  (AV.asTup2 q30.1).bind fun p31 =>
  ((some p31.1).bind AV.asSl).bind fun l32 =>
  ((some p31.2).bind (AV.asInt .i64)).bind fun n33 =>
  (go (.fn F.modint_Gcd [l24.v, l32.v]) q30.2).bind fun q34 =>
  (AV.asTup2 q34.1).bind fun p35 =>
  ((some p35.1).bind AV.asSl).bind fun l36 =>
  ((some p35.2).bind (AV.asInt .i64)).bind fun n37 =>
  newK q34.2 (.cells [.int .u64 1] T.uint64) fun h38r h38 =>
  (go (.fn F.nat_Cmp [l36.v, (⟨some h38r, 1, .is 1⟩ : Sl).v]) h38).bind fun q39 =>
  ((some q39.1).bind (AV.asInt .i64)).bind fun n40 =>
  cond (!decide (n40 = 0)) (
  some (.int .i64 9, q39.2)) (
  some (.int .i64 0, q39.2))))))) := (go_step _ h).trans (by kernel_rfl)

theorem u_nat_Mul (a1 : Sl) (a2 : Sl) (h : AH) : go (.fn F.nat_Mul [a1.v, a2.v]) h =
  newK h (.cells [a1.v, a2.v] T.api_Nat) fun h3r h3 =>
  (go (.fn F.nat_right [(⟨some h3r, 2, .is 2⟩ : Sl).v]) h3).bind fun q4 =>
  ((some q4.1).bind AV.asBool).bind fun b5 =>
  cond (!b5) (
  some (.tup [(⟨none, 0, .is 0⟩ : Sl).v, .int .i64 1], q4.2)) (
  (go (.fn F.nat_product [a1.v, a2.v]) q4.2).bind fun q6 =>
  ((some q6.1).bind AV.asSl).bind fun l7 =>
  (go (.fn F.nat_told [l7.v]) q6.2).bind fun q8 =>
  (AV.asTup2 q8.1).bind fun p9 =>
  ((some p9.1).bind AV.asSl).bind fun l10 =>
  ((some p9.2).bind (AV.asInt .i64)).bind fun n11 =>
  some (.tup [l10.v, .int .i64 n11], q8.2)) := (go_step _ h).trans (by kernel_rfl)

theorem p_ref01_Same_4 (a1 : Sl) (a2 : Sl) (a3 : Int) (h : AH) : go (.pt F.ref01_Same Td.ref01_Same_4 [(0, a1.v), (1, a2.v), (5, .int .i64 a3)]) h =
  cond (decide (a3 < (a1.len : Int))) (
  (idx a1.ref a1.len a3 1).bind fun r4 =>
  ((h.cell r4).bind (AV.asInt .u64)).bind fun n5 =>
  (idx a2.ref a2.len a3 1).bind fun r6 =>
  ((h.cell r6).bind (AV.asInt .u64)).bind fun n7 =>
  cond (!decide (n5 = n7)) (
  some (.bool false, h)) (
  go (.pt F.ref01_Same Td.ref01_Same_4 [(0, a1.v), (1, a2.v), (5, .int .i64 (IntKind.wrap .i64 (a3 + 1)))]) h)) (
  some (.bool true, h)) := (go_step _ h).trans (by kernel_rfl)

theorem u_nat_Bits (a1 : Sl) (h : AH) : go (.fn F.nat_Bits [a1.v]) h =
  (go (.fn F.nat_Right [a1.v]) h).bind fun q2 =>
  ((some q2.1).bind AV.asBool).bind fun b3 =>
  cond (!b3) (
  some (.int .i64 0, q2.2)) (
  cond (decide ((a1.len : Int) = 0)) (
  some (.int .i64 0, q2.2)) (
  (idx a1.ref a1.len (IntKind.wrap .i64 ((a1.len : Int) - 1)) 1).bind fun r4 =>
  ((q2.2.cell r4).bind (AV.asInt .u64)).bind fun n5 =>
  (go (.fn F.math_bits_Len64 [.int .u64 n5]) q2.2).bind fun q6 =>
  ((some q6.1).bind (AV.asInt .i64)).bind fun n7 =>
  some (.int .i64 (IntKind.wrap .i64 ((IntKind.wrap .i64 (64 * (IntKind.wrap .i64 ((a1.len : Int) - 1)))) + n7)), q6.2))) := (go_step _ h).trans (by kernel_rfl)

theorem u_nat_Right (a1 : Sl) (h : AH) : go (.fn F.nat_Right [a1.v]) h =
  cond (decide ((a1.len : Int) ≤ 64)) (
  cond (decide ((a1.len : Int) = 0)) (
  some (.bool true, h)) (
  (idx a1.ref a1.len (IntKind.wrap .i64 ((a1.len : Int) - 1)) 1).bind fun r2 =>
  ((h.cell r2).bind (AV.asInt .u64)).bind fun n3 =>
  some (.bool (!decide (n3 = 0)), h))) (
  some (.bool false, h)) := (go_step _ h).trans (by kernel_rfl)

theorem u_nat_Bit (a1 : Sl) (a2 : Int) (h : AH) : go (.fn F.nat_Bit [a1.v, .int .i64 a2]) h =
  (go (.fn F.nat_Right [a1.v]) h).bind fun q3 =>
  ((some q3.1).bind AV.asBool).bind fun b4 =>
  cond b4 (
  cond (decide (a2 ≥ 0)) (
  cond (decide ((IntKind.wrap .i64 (Int.tdiv a2 64)) < (a1.len : Int))) (
  (idx a1.ref a1.len (IntKind.wrap .i64 (Int.tdiv a2 64)) 1).bind fun r5 =>
  ((q3.2.cell r5).bind (AV.asInt .u64)).bind fun n6 =>
  cond (decide ((Int.tmod a2 64) < 0)) none (
  some (.bool (decide ((iand .u64 (ishr .u64 n6 (Int.tmod a2 64)) 1) = 1)), q3.2))) (
  some (.bool false, q3.2))) (
  some (.bool false, q3.2))) (
  some (.bool false, q3.2)) := (go_step _ h).trans (by kernel_rfl)

theorem u_paillier_square (a1 : Sl) (h : AH) : go (.fn F.paillier_square [a1.v]) h =
  (go (.fn F.nat_Mul [a1.v, a1.v]) h).bind fun q2 =>
  (AV.asTup2 q2.1).bind fun p3 =>
  ((some p3.1).bind AV.asSl).bind fun l4 =>
  ((some p3.2).bind (AV.asInt .i64)).bind fun n5 =>
  some (l4.v, q2.2) := (go_step _ h).trans (by kernel_rfl)

theorem u_paillier_alone (a1 : Sl) (a2 : Sl) (a3 : Sl) (h : AH) : go (.fn F.paillier_alone [a1.v, a2.v, a3.v]) h =
  (go (.fn F.nat_Right [a1.v]) h).bind fun q4 =>
  ((some q4.1).bind AV.asBool).bind fun b5 =>
  cond (!b5) (
  some (.bool false, q4.2)) (
  cond (decide ((a1.len : Int) = 0)) (
  some (.bool false, q4.2)) (
  (go (.fn F.nat_Cmp [a1.v, a3.v]) q4.2).bind fun q6 =>
  ((some q6.1).bind (AV.asInt .i64)).bind fun n7 =>
  cond (decide (n7 ≥ 0)) (
  some (.bool false, q6.2)) (
  (go (.fn F.modint_Gcd [a1.v, a2.v]) q6.2).bind fun q8 =>
  (AV.asTup2 q8.1).bind fun p9 =>
  ((some p9.1).bind AV.asSl).bind fun l10 =>
  ((some p9.2).bind (AV.asInt .i64)).bind fun n11 =>
  newK q8.2 (.cells [.int .u64 1] T.uint64) fun h12r h12 =>
  (go (.fn F.nat_Cmp [l10.v, (⟨some h12r, 1, .is 1⟩ : Sl).v]) h12).bind fun q13 =>
  ((some q13.1).bind (AV.asInt .i64)).bind fun n14 =>
  some (.bool (decide (n14 = 0)), q13.2)))) := (go_step _ h).trans (by kernel_rfl)

theorem u_paillier_isPlain (a1 : Sl) (a2 : Sl) (h : AH) : go (.fn F.paillier_isPlain [a1.v, a2.v]) h =
  (go (.fn F.nat_Right [a2.v]) h).bind fun q3 =>
  ((some q3.1).bind AV.asBool).bind fun b4 =>
  cond b4 (
  (go (.fn F.nat_Cmp [a2.v, a1.v]) q3.2).bind fun q5 =>
  ((some q5.1).bind (AV.asInt .i64)).bind fun n6 =>
  some (.bool (decide (n6 < 0)), q5.2)) (
  some (.bool false, q3.2)) := (go_step _ h).trans (by kernel_rfl)

theorem u_paillier_shown (a1 : Sl) (a2 : Sl) (h : AH) : go (.fn F.paillier_shown [a1.v, a2.v]) h =
  (go (.fn F.nat_Mul [a2.v, a1.v]) h).bind fun q3 =>
  (AV.asTup2 q3.1).bind fun p4 =>
  ((some p4.1).bind AV.asSl).bind fun l5 =>
  ((some p4.2).bind (AV.asInt .i64)).bind fun n6 =>
  newK q3.2 (.cells [.int .u64 1] T.uint64) fun h7r h7 =>
  (go (.fn F.nat_Add [l5.v, (⟨some h7r, 1, .is 1⟩ : Sl).v]) h7).bind fun q8 =>
  (AV.asTup2 q8.1).bind fun p9 =>
  ((some p9.1).bind AV.asSl).bind fun l10 =>
  ((some p9.2).bind (AV.asInt .i64)).bind fun n11 =>
  some (l10.v, q8.2) := (go_step _ h).trans (by kernel_rfl)

theorem u_paillier_power (a1 : Sl) (a2 : Sl) (a3 : Sl) (h : AH) : go (.fn F.paillier_power [a1.v, a2.v, a3.v]) h =
  (go (.fn F.paillier_square [a1.v]) h).bind fun q4 =>
  ((some q4.1).bind AV.asSl).bind fun l5 =>
  (go (.fn F.mont_New [l5.v]) q4.2).bind fun q6 =>
  (AV.asTup2 q6.1).bind fun p7 =>
  ((some p7.1).bind AV.asPtr).bind fun p8 =>
  ((some p7.2).bind (AV.asInt .i64)).bind fun n9 =>
  (go (.fn F.mont_Ring_Exp [.ptr p8, a2.v, a3.v]) q6.2).bind fun q10 =>
  (AV.asTup2 q10.1).bind fun p11 =>
  ((some p11.1).bind AV.asSl).bind fun l12 =>
  ((some p11.2).bind (AV.asInt .i64)).bind fun n13 =>
  some (l12.v, q10.2) := (go_step _ h).trans (by kernel_rfl)

theorem u_paillier_times (a1 : Sl) (a2 : Sl) (a3 : Sl) (h : AH) : go (.fn F.paillier_times [a1.v, a2.v, a3.v]) h =
  (go (.fn F.nat_Mul [a2.v, a3.v]) h).bind fun q4 =>
  (AV.asTup2 q4.1).bind fun p5 =>
  ((some p5.1).bind AV.asSl).bind fun l6 =>
  ((some p5.2).bind (AV.asInt .i64)).bind fun n7 =>
  (go (.fn F.paillier_square [a1.v]) q4.2).bind fun q8 =>
  ((some q8.1).bind AV.asSl).bind fun l9 =>
  (go (.fn F.nat_Div [l6.v, l9.v]) q8.2).bind fun q10 =>
  (AV.asTup3 q10.1).bind fun p11 =>
  ((some p11.1).bind AV.asSl).bind fun l12 =>
  ((some p11.2.1).bind AV.asSl).bind fun l13 =>
  ((some p11.2.2).bind (AV.asInt .i64)).bind fun n14 =>
  some (l13.v, q10.2) := (go_step _ h).trans (by kernel_rfl)

theorem u_paillier_part (a1 : Sl) (a2 : Sl) (a3 : Int) (h : AH) : go (.fn F.paillier_part [a1.v, a2.v, .int .u64 a3]) h =
  newK h (.cells [.int .u64 a3] T.uint64) fun h4r h4 =>
  ((h4.cell h4r).bind (AV.asInt .u64)).bind fun n5 =>
  newK h4 (.cells [.int .u64 n5] T.uint64) fun h6r h6 =>
  newK h6 (.cells [(⟨none, 0, .is 0⟩ : Sl).v] T.api_Nat) fun h7r h7 =>
  (h7.puts h7r [(⟨some h6r, 1, .is 1⟩ : Sl).v]).bind fun h8 =>
  ((h8.cell h7r).bind AV.asSl).bind fun l9 =>
  (go (.fn F.paillier_square [l9.v]) h8).bind fun q10 =>
  ((some q10.1).bind AV.asSl).bind fun l11 =>
  (go (.fn F.mont_New [l11.v]) q10.2).bind fun q12 =>
  (AV.asTup2 q12.1).bind fun p13 =>
  ((some p13.1).bind AV.asPtr).bind fun p14 =>
  ((some p13.2).bind (AV.asInt .i64)).bind fun n15 =>
  newK q12.2 (.cells [.ptr none] T.P_mont_Ring) fun h16r h16 =>
  (h16.puts h16r [.ptr p14]).bind fun h17 =>
  ((h17.cell h7r).bind AV.asSl).bind fun l18 =>
  newK h17 (.cells [.int .u64 1] T.uint64) fun h19r h19 =>
  whenK (SameAt h17 h19 h7r 1) (
  (go (.fn F.paillier_shown [a2.v, (⟨some h19r, 1, .is 1⟩ : Sl).v]) h19).bind fun q20 =>
  ((some q20.1).bind AV.asSl).bind fun l21 =>
  whenK (SameAt h19 q20.2 h7r 1) (
  (go (.fn F.paillier_part_1 [l21.v, .ptr (some h7r), .ptr (some h16r), .ptr (some h4r)]) q20.2).bind fun q22 =>
  ((some q22.1).bind AV.asSl).bind fun l23 =>
  whenK (SameAt q20.2 q22.2 h7r 1) (
  (go (.fn F.modint_Inverse [l23.v, l18.v]) q22.2).bind fun q24 =>
  (AV.asTup2 q24.1).bind fun p25 =>
  ((some p25.1).bind AV.asSl).bind fun l26 =>
  ((some p25.2).bind (AV.asInt .i64)).bind fun n27 =>
  (go (.fn F.paillier_part_1 [a1.v, .ptr (some h7r), .ptr (some h16r), .ptr (some h4r)]) q24.2).bind fun q28 =>
  ((some q28.1).bind AV.asSl).bind fun l29 =>
  (go (.fn F.nat_Mul [l29.v, l26.v]) q28.2).bind fun q30 =>
  (AV.asTup2 q30.1).bind fun p31 =>
  ((some p31.1).bind AV.asSl).bind fun l32 =>
  ((some p31.2).bind (AV.asInt .i64)).bind fun n33 =>
  ((q30.2.cell h7r).bind AV.asSl).bind fun l34 =>
  (go (.fn F.nat_Div [l32.v, l34.v]) q30.2).bind fun q35 =>
  (AV.asTup3 q35.1).bind fun p36 =>
  ((some p36.1).bind AV.asSl).bind fun l37 =>
  ((some p36.2.1).bind AV.asSl).bind fun l38 =>
  ((some p36.2.2).bind (AV.asInt .i64)).bind fun n39 =>
  some (l38.v, q35.2)))) := (go_step _ h).trans (by kernel_rfl)

theorem u_modint_Crt (a1 : Sl) (a2 : Sl) (a3 : Sl) (a4 : Sl) (h : AH) : go (.fn F.modint_Crt [a1.v, a2.v, a3.v, a4.v]) h =
  (go (.fn F.modint_Crt_1 [a1.v]) h).bind fun q5 =>
  ((some q5.1).bind AV.asBool).bind fun b6 =>
  cond b6 (
  some (.tup [(⟨none, 0, .is 0⟩ : Sl).v, .int .i64 1], q5.2)) (
  (go (.fn F.modint_Crt_1 [a3.v]) q5.2).bind fun q7 =>
  ((some q7.1).bind AV.asBool).bind fun b8 =>
  cond b8 (
  some (.tup [(⟨none, 0, .is 0⟩ : Sl).v, .int .i64 1], q7.2)) (
  (go (.fn F.modint_Crt_1 [a2.v]) q7.2).bind fun q9 =>
  ((some q9.1).bind AV.asBool).bind fun b10 =>
  cond b10 (
  some (.tup [(⟨none, 0, .is 0⟩ : Sl).v, .int .i64 1], q9.2)) (
  (go (.fn F.modint_Crt_1 [a4.v]) q9.2).bind fun q11 =>
  ((some q11.1).bind AV.asBool).bind fun b12 =>
  cond b12 (
  some (.tup [(⟨none, 0, .is 0⟩ : Sl).v, .int .i64 1], q11.2)) (
  (go (.fn F.modint_Crt_2 [a2.v]) q11.2).bind fun q13 =>
  ((some q13.1).bind AV.asBool).bind fun b14 =>
  cond b14 (
  some (.tup [(⟨none, 0, .is 0⟩ : Sl).v, .int .i64 1], q13.2)) (
  (go (.fn F.modint_Crt_2 [a4.v]) q13.2).bind fun q15 =>
  ((some q15.1).bind AV.asBool).bind fun b16 =>
  cond b16 (
  some (.tup [(⟨none, 0, .is 0⟩ : Sl).v, .int .i64 1], q15.2)) (
  (go (.fn F.nat_Cmp [a1.v, a2.v]) q15.2).bind fun q17 =>
  ((some q17.1).bind (AV.asInt .i64)).bind fun n18 =>
  cond (decide (n18 ≥ 0)) (
  some (.tup [(⟨none, 0, .is 0⟩ : Sl).v, .int .i64 1], q17.2)) (
  (go (.fn F.nat_Cmp [a3.v, a4.v]) q17.2).bind fun q19 =>
  ((some q19.1).bind (AV.asInt .i64)).bind fun n20 =>
  cond (decide (n20 ≥ 0)) (
  some (.tup [(⟨none, 0, .is 0⟩ : Sl).v, .int .i64 1], q19.2)) (
  (go (.fn F.modint_Inverse [a2.v, a4.v]) q19.2).bind fun q21 =>
  (AV.asTup2 q21.1).bind fun p22 =>
  ((some p22.1).bind AV.asSl).bind fun l23 =>
  ((some p22.2).bind (AV.asInt .i64)).bind fun n24 =>
  cond (!decide (n24 = 0)) (
  some (.tup [(⟨none, 0, .is 0⟩ : Sl).v, .int .i64 n24], q21.2)) (
  (go (.fn F.modint_From [.bool false, a3.v]) q21.2).bind fun q25 =>
  (AV.asAgg q25.1).bind fun cs26 =>
  cond (Nat.beq cs26.length 2) (
  ((cs26[0]?).bind AV.asBool).bind fun b27 =>
  ((cs26[1]?).bind AV.asSl).bind fun l28 =>
  (go (.fn F.modint_From [.bool false, a1.v]) q25.2).bind fun q29 =>
  (AV.asAgg q29.1).bind fun cs30 =>
  cond (Nat.beq cs30.length 2) (
  ((cs30[0]?).bind AV.asBool).bind fun b31 =>
  ((cs30[1]?).bind AV.asSl).bind fun l32 =>
  (go (.fn F.modint_Sub [.agg [.bool b27, l28.v], .agg [.bool b31, l32.v]]) q29.2).bind fun q33 =>
  (AV.asTup2 q33.1).bind fun p34 =>
  (AV.asAgg p34.1).bind fun cs35 =>
  cond (Nat.beq cs35.length 2) (
  ((cs35[0]?).bind AV.asBool).bind fun b36 =>
  ((cs35[1]?).bind AV.asSl).bind fun l37 =>
  ((some p34.2).bind (AV.asInt .i64)).bind fun n38 =>
  newK q33.2 (.cells [.bool false, (⟨none, 0, .is 0⟩ : Sl).v] T.api_Int) fun h39r h39 =>
  (h39.puts h39r [.bool b36, l37.v]).bind fun h40 =>
  newK h40 (.cells [.bool false, (⟨none, 0, .is 0⟩ : Sl).v] T.api_Int) fun h41r h41 =>
  ((h41.cell (h39r.add 0)).bind AV.asBool).bind fun b42 =>
  ((h41.cell (h39r.add 1)).bind AV.asSl).bind fun l43 =>
  (go (.fn F.modint_From [.bool false, l23.v]) h41).bind fun q44 =>
  (AV.asAgg q44.1).bind fun cs45 =>
  cond (Nat.beq cs45.length 2) (
  ((cs45[0]?).bind AV.asBool).bind fun b46 =>
  ((cs45[1]?).bind AV.asSl).bind fun l47 =>
  whenK (SameAt h41 q44.2 h39r 2) (
  whenK (SameAt h41 q44.2 h41r 0) (
  (go (.fn F.modint_Mul [.agg [.bool b42, l43.v], .agg [.bool b46, l47.v]]) q44.2).bind fun q48 =>
  (AV.asTup2 q48.1).bind fun p49 =>
  (AV.asAgg p49.1).bind fun cs50 =>
  cond (Nat.beq cs50.length 2) (
  ((cs50[0]?).bind AV.asBool).bind fun b51 =>
  ((cs50[1]?).bind AV.asSl).bind fun l52 =>
  ((some p49.2).bind (AV.asInt .i64)).bind fun n53 =>
  whenK (SameAt q44.2 q48.2 h41r 0) (
  (q48.2.puts h41r [.bool b51, l52.v]).bind fun h54 =>
  newK h54 (.cells [.bool false, (⟨none, 0, .is 0⟩ : Sl).v] T.api_Int) fun h55r h55 =>
  newK h55 (.cells [.bool false, (⟨none, 0, .is 0⟩ : Sl).v] T.api_Int) fun h56r h56 =>
  ((h56.cell (h41r.add 0)).bind AV.asBool).bind fun b57 =>
  ((h56.cell (h41r.add 1)).bind AV.asSl).bind fun l58 =>
  (go (.fn F.modint_From [.bool false, a4.v]) h56).bind fun q59 =>
  (AV.asAgg q59.1).bind fun cs60 =>
  cond (Nat.beq cs60.length 2) (
  ((cs60[0]?).bind AV.asBool).bind fun b61 =>
  ((cs60[1]?).bind AV.asSl).bind fun l62 =>
  whenK (SameAt h56 q59.2 h41r 2) (
  whenK (SameAt h56 q59.2 h56r 0) (
  whenK (SameAt h56 q59.2 h55r 0) (
  (go (.fn F.modint_Floor [.agg [.bool b57, l58.v], .agg [.bool b61, l62.v]]) q59.2).bind fun q63 =>
  (AV.asTup3 q63.1).bind fun p64 =>
  (AV.asAgg p64.1).bind fun cs65 =>
  cond (Nat.beq cs65.length 2) (
  ((cs65[0]?).bind AV.asBool).bind fun b66 =>
  ((cs65[1]?).bind AV.asSl).bind fun l67 =>
  (AV.asAgg p64.2.1).bind fun cs68 =>
  cond (Nat.beq cs68.length 2) (
  ((cs68[0]?).bind AV.asBool).bind fun b69 =>
  ((cs68[1]?).bind AV.asSl).bind fun l70 =>
  ((some p64.2.2).bind (AV.asInt .i64)).bind fun n71 =>
  whenK (SameAt q59.2 q63.2 h56r 0) (
  whenK (SameAt q59.2 q63.2 h55r 0) (
  (q63.2.puts h55r [.bool b66, l67.v]).bind fun h72 =>
  (h72.puts h56r [.bool b69, l70.v]).bind fun h73 =>
  ((h73.cell (h56r.add 1)).bind AV.asSl).bind fun l74 =>
  (go (.fn F.nat_Mul [a2.v, l74.v]) h73).bind fun q75 =>
  (AV.asTup2 q75.1).bind fun p76 =>
  ((some p76.1).bind AV.asSl).bind fun l77 =>
  ((some p76.2).bind (AV.asInt .i64)).bind fun n78 =>
  (go (.fn F.nat_Add [l77.v, a1.v]) q75.2).bind fun q79 =>
  (AV.asTup2 q79.1).bind fun p80 =>
  ((some p80.1).bind AV.asSl).bind fun l81 =>
  ((some p80.2).bind (AV.asInt .i64)).bind fun n82 =>
  some (.tup [l81.v, .int .i64 n82], q79.2)))) none) none)))) none)) none))) none) none) none) none))))))))) := (go_step _ h).trans (by kernel_rfl)

theorem p_nat_school_3 (a1 : Sl) (a2 : Sl) (a3 : Sl) (a4 : Int) (a5 : Int) (h : AH) : go (.pt F.nat_school Td.nat_school_3 [(1, a1.v), (5, a2.v), (20, a3.v), (21, .int .i64 a4), (22, .int .i64 a5)]) h =
  cond (decide (a5 < a4)) (
  (idx a3.ref a3.len a5 1).bind fun r6 =>
  ((h.cell r6).bind (AV.asInt .u64)).bind fun n7 =>
  go (.pt F.nat_school Td.nat_school_7 [(1, a1.v), (5, a2.v), (6, .int .i64 a5), (7, .int .u64 n7), (8, .int .u64 0), (20, a3.v), (21, .int .i64 a4), (22, .int .i64 a5), (27, a1.v), (28, .int .i64 (a1.len : Int)), (29, .int .i64 0)]) h) (
  (go (.fn F.nat_trim [a2.v]) h).bind fun q8 =>
  ((some q8.1).bind AV.asSl).bind fun l9 =>
  some (l9.v, q8.2)) := (go_step _ h).trans (by kernel_rfl)

theorem p_nat_sum_6 (a1 : Sl) (a2 : Sl) (a3 : Sl) (a4 : Int) (a5 : Int) (a6 : Int) (h : AH) : go (.pt F.nat_sum Td.nat_sum_6 [(0, a1.v), (1, a2.v), (5, a3.v), (6, .int .u64 a4), (21, .int .i64 a5), (22, .int .i64 a6)]) h =
  cond (decide (a6 < a5)) (
  cond (decide (a6 < (a2.len : Int))) (
  (idx a2.ref a2.len a6 1).bind fun r7 =>
  ((h.cell r7).bind (AV.asInt .u64)).bind fun n8 =>
  (idx a1.ref a1.len a6 1).bind fun r9 =>
  ((h.cell r9).bind (AV.asInt .u64)).bind fun n10 =>
  ((prim "math/bits.Add64" [.int .u64 n10, .int .u64 n8, .int .u64 a4]).map fun v => (v, h)).bind fun q11 =>
  (AV.asTup2 q11.1).bind fun p12 =>
  ((some p12.1).bind (AV.asInt .u64)).bind fun n13 =>
  ((some p12.2).bind (AV.asInt .u64)).bind fun n14 =>
  (idx a3.ref a3.len a6 1).bind fun r15 =>
  (q11.2.puts r15 [.int .u64 n13]).bind fun h16 =>
  go (.pt F.nat_sum Td.nat_sum_6 [(0, a1.v), (1, a2.v), (5, a3.v), (6, .int .u64 n14), (21, .int .i64 a5), (22, .int .i64 (IntKind.wrap .i64 (a6 + 1)))]) h16) (
  (idx a1.ref a1.len a6 1).bind fun r17 =>
  ((h.cell r17).bind (AV.asInt .u64)).bind fun n18 =>
  ((prim "math/bits.Add64" [.int .u64 n18, .int .u64 0, .int .u64 a4]).map fun v => (v, h)).bind fun q19 =>
  (AV.asTup2 q19.1).bind fun p20 =>
  ((some p20.1).bind (AV.asInt .u64)).bind fun n21 =>
  ((some p20.2).bind (AV.asInt .u64)).bind fun n22 =>
  (idx a3.ref a3.len a6 1).bind fun r23 =>
  (q19.2.puts r23 [.int .u64 n21]).bind fun h24 =>
  go (.pt F.nat_sum Td.nat_sum_6 [(0, a1.v), (1, a2.v), (5, a3.v), (6, .int .u64 n22), (21, .int .i64 a5), (22, .int .i64 (IntKind.wrap .i64 (a6 + 1)))]) h24)) (
  (idx a3.ref a3.len (a1.len : Int) 1).bind fun r25 =>
  (h.puts r25 [.int .u64 a4]).bind fun h26 =>
  some (a3.v, h26)) := (go_step _ h).trans (by kernel_rfl)

theorem p_nat_trim_2 (a1 : Sl) (a2 : Int) (h : AH) : go (.pt F.nat_trim Td.nat_trim_2 [(0, a1.v), (3, .int .i64 a2)]) h =
  cond (decide (a2 > 0)) (
  (idx a1.ref a1.len (IntKind.wrap .i64 (a2 - 1)) 1).bind fun r3 =>
  ((h.cell r3).bind (AV.asInt .u64)).bind fun n4 =>
  cond (decide (n4 = 0)) (
  go (.pt F.nat_trim Td.nat_trim_2 [(0, a1.v), (3, .int .i64 (IntKind.wrap .i64 (a2 - 1)))]) h) (
  (cutSl a1 0 a2 1).bind fun l5 =>
  some (l5.v, h))) (
  (cutSl a1 0 a2 1).bind fun l6 =>
  some (l6.v, h)) := (go_step _ h).trans (by kernel_rfl)

theorem p_nat_less_4 (a1 : Sl) (a2 : Sl) (a3 : Sl) (a4 : Int) (a5 : Int) (a6 : Int) (h : AH) : go (.pt F.nat_less Td.nat_less_4 [(0, a1.v), (1, a2.v), (5, a3.v), (6, .int .u64 a4), (13, .int .i64 a5), (14, .int .i64 a6)]) h =
  cond (decide (a6 < a5)) (
  cond (decide (a6 < (a2.len : Int))) (
  (idx a2.ref a2.len a6 1).bind fun r7 =>
  ((h.cell r7).bind (AV.asInt .u64)).bind fun n8 =>
  (idx a1.ref a1.len a6 1).bind fun r9 =>
  ((h.cell r9).bind (AV.asInt .u64)).bind fun n10 =>
  ((prim "math/bits.Sub64" [.int .u64 n10, .int .u64 n8, .int .u64 a4]).map fun v => (v, h)).bind fun q11 =>
  (AV.asTup2 q11.1).bind fun p12 =>
  ((some p12.1).bind (AV.asInt .u64)).bind fun n13 =>
  ((some p12.2).bind (AV.asInt .u64)).bind fun n14 =>
  (idx a3.ref a3.len a6 1).bind fun r15 =>
  (q11.2.puts r15 [.int .u64 n13]).bind fun h16 =>
  go (.pt F.nat_less Td.nat_less_4 [(0, a1.v), (1, a2.v), (5, a3.v), (6, .int .u64 n14), (13, .int .i64 a5), (14, .int .i64 (IntKind.wrap .i64 (a6 + 1)))]) h16) (
  (idx a1.ref a1.len a6 1).bind fun r17 =>
  ((h.cell r17).bind (AV.asInt .u64)).bind fun n18 =>
  ((prim "math/bits.Sub64" [.int .u64 n18, .int .u64 0, .int .u64 a4]).map fun v => (v, h)).bind fun q19 =>
  (AV.asTup2 q19.1).bind fun p20 =>
  ((some p20.1).bind (AV.asInt .u64)).bind fun n21 =>
  ((some p20.2).bind (AV.asInt .u64)).bind fun n22 =>
  (idx a3.ref a3.len a6 1).bind fun r23 =>
  (q19.2.puts r23 [.int .u64 n21]).bind fun h24 =>
  go (.pt F.nat_less Td.nat_less_4 [(0, a1.v), (1, a2.v), (5, a3.v), (6, .int .u64 n22), (13, .int .i64 a5), (14, .int .i64 (IntKind.wrap .i64 (a6 + 1)))]) h24)) (
  some (a3.v, h)) := (go_step _ h).trans (by kernel_rfl)

theorem p_nat_into_2 (a1 : Sl) (a2 : Sl) (a3 : Int) (a4 : Int) (a5 : Int) (h : AH) : go (.pt F.nat_into Td.nat_into_2 [(0, a1.v), (1, a2.v), (2, .int .i64 a3), (6, .int .u64 a4), (7, .int .i64 a5)]) h =
  cond (decide (a5 < (a1.len : Int))) (
  cond (decide ((IntKind.wrap .i64 (a5 - a3)) < (a2.len : Int))) (
  cond (decide ((IntKind.wrap .i64 (a5 - a3)) < (a2.len : Int))) (
  (idx a2.ref a2.len (IntKind.wrap .i64 (a5 - a3)) 1).bind fun r6 =>
  ((h.cell r6).bind (AV.asInt .u64)).bind fun n7 =>
  (idx a1.ref a1.len a5 1).bind fun r8 =>
  ((h.cell r8).bind (AV.asInt .u64)).bind fun n9 =>
  ((prim "math/bits.Add64" [.int .u64 n9, .int .u64 n7, .int .u64 a4]).map fun v => (v, h)).bind fun q10 =>
  (AV.asTup2 q10.1).bind fun p11 =>
  ((some p11.1).bind (AV.asInt .u64)).bind fun n12 =>
  ((some p11.2).bind (AV.asInt .u64)).bind fun n13 =>
  (idx a1.ref a1.len a5 1).bind fun r14 =>
  (q10.2.puts r14 [.int .u64 n12]).bind fun h15 =>
  go (.pt F.nat_into Td.nat_into_2 [(0, a1.v), (1, a2.v), (2, .int .i64 a3), (6, .int .u64 n13), (7, .int .i64 (IntKind.wrap .i64 (a5 + 1)))]) h15) (
  (idx a1.ref a1.len a5 1).bind fun r16 =>
  ((h.cell r16).bind (AV.asInt .u64)).bind fun n17 =>
  ((prim "math/bits.Add64" [.int .u64 n17, .int .u64 0, .int .u64 a4]).map fun v => (v, h)).bind fun q18 =>
  (AV.asTup2 q18.1).bind fun p19 =>
  ((some p19.1).bind (AV.asInt .u64)).bind fun n20 =>
  ((some p19.2).bind (AV.asInt .u64)).bind fun n21 =>
  (idx a1.ref a1.len a5 1).bind fun r22 =>
  (q18.2.puts r22 [.int .u64 n20]).bind fun h23 =>
  go (.pt F.nat_into Td.nat_into_2 [(0, a1.v), (1, a2.v), (2, .int .i64 a3), (6, .int .u64 n21), (7, .int .i64 (IntKind.wrap .i64 (a5 + 1)))]) h23)) (
  cond (decide (a4 > 0)) (
  cond (decide ((IntKind.wrap .i64 (a5 - a3)) < (a2.len : Int))) (
  (idx a2.ref a2.len (IntKind.wrap .i64 (a5 - a3)) 1).bind fun r24 =>
  ((h.cell r24).bind (AV.asInt .u64)).bind fun n25 =>
  (idx a1.ref a1.len a5 1).bind fun r26 =>
  ((h.cell r26).bind (AV.asInt .u64)).bind fun n27 =>
  ((prim "math/bits.Add64" [.int .u64 n27, .int .u64 n25, .int .u64 a4]).map fun v => (v, h)).bind fun q28 =>
  (AV.asTup2 q28.1).bind fun p29 =>
  ((some p29.1).bind (AV.asInt .u64)).bind fun n30 =>
  ((some p29.2).bind (AV.asInt .u64)).bind fun n31 =>
  (idx a1.ref a1.len a5 1).bind fun r32 =>
  (q28.2.puts r32 [.int .u64 n30]).bind fun h33 =>
  go (.pt F.nat_into Td.nat_into_2 [(0, a1.v), (1, a2.v), (2, .int .i64 a3), (6, .int .u64 n31), (7, .int .i64 (IntKind.wrap .i64 (a5 + 1)))]) h33) (
  (idx a1.ref a1.len a5 1).bind fun r34 =>
  ((h.cell r34).bind (AV.asInt .u64)).bind fun n35 =>
  ((prim "math/bits.Add64" [.int .u64 n35, .int .u64 0, .int .u64 a4]).map fun v => (v, h)).bind fun q36 =>
  (AV.asTup2 q36.1).bind fun p37 =>
  ((some p37.1).bind (AV.asInt .u64)).bind fun n38 =>
  ((some p37.2).bind (AV.asInt .u64)).bind fun n39 =>
  (idx a1.ref a1.len a5 1).bind fun r40 =>
  (q36.2.puts r40 [.int .u64 n38]).bind fun h41 =>
  go (.pt F.nat_into Td.nat_into_2 [(0, a1.v), (1, a2.v), (2, .int .i64 a3), (6, .int .u64 n39), (7, .int .i64 (IntKind.wrap .i64 (a5 + 1)))]) h41)) (
  some (.tup [], h)))) (
  some (.tup [], h)) := (go_step _ h).trans (by kernel_rfl)

theorem p_prime_divisors_1_6 (a1 : Nat) (a2 : Ref) (a3 : Int) (h : AH) : go (.pt F.prime_divisors_1 Td.prime_divisors_1_6 [(0, .func (.yield a1) [] []), (1, .ptr (some a2)), (5, .int .u64 a3)]) h =
  ((h.cell a2).bind (AV.asInt .u64)).bind fun n4 =>
  cond (decide ((IntKind.wrap .u64 (a3 * a3)) ≤ n4)) (
  (go (.round a1 [.int .u64 a3]) h).bind fun q5 =>
  ((some q5.1).bind AV.asBool).bind fun b6 =>
  cond (!b6) (
  some (.tup [], q5.2)) (
  ((q5.2.cell a2).bind (AV.asInt .u64)).bind fun n7 =>
  cond (decide ((IntKind.wrap .u64 ((IntKind.wrap .u64 (a3 + 2)) * (IntKind.wrap .u64 (a3 + 2)))) ≤ n7)) (
  (go (.round a1 [.int .u64 (IntKind.wrap .u64 (a3 + 2))]) q5.2).bind fun q8 =>
  ((some q8.1).bind AV.asBool).bind fun b9 =>
  cond (!b9) (
  some (.tup [], q8.2)) (
  go (.pt F.prime_divisors_1 Td.prime_divisors_1_6 [(0, .func (.yield a1) [] []), (1, .ptr (some a2)), (5, .int .u64 (IntKind.wrap .u64 (a3 + 6)))]) q8.2)) (
  go (.pt F.prime_divisors_1 Td.prime_divisors_1_6 [(0, .func (.yield a1) [] []), (1, .ptr (some a2)), (5, .int .u64 (IntKind.wrap .u64 (a3 + 6)))]) q5.2))) (
  some (.tup [], h)) := (go_step _ h).trans (by kernel_rfl)

theorem u_prime_Check_1 (a1 : Int) (h : AH) : go (.fn F.prime_Check_1 [.int .u64 a1]) h =
  cond (decide (a1 < 128)) (
  some (.bool true, h)) (
  cond (decide (a1 ≥ 1099511627776)) (
  some (.bool true, h)) (
  (go (.fn F.prime_least [.int .u64 a1]) h).bind fun q2 =>
  ((some q2.1).bind (AV.asInt .u64)).bind fun n3 =>
  some (.bool (!decide (n3 = a1)), q2.2))) := (go_step _ h).trans (by kernel_rfl)

theorem u_math_bits_Len64 (a1 : Int) (h : AH) : go (.fn F.math_bits_Len64 [.int .u64 a1]) h =
  cond (decide (a1 ≥ 4294967296)) (
  cond (decide ((ishr .u64 a1 32) ≥ 65536)) (
  cond (decide ((ishr .u64 (ishr .u64 a1 32) 16) ≥ 256)) (
  cond (decide (0 ≤ (IntKind.wrap .u8 (ishr .u64 (ishr .u64 (ishr .u64 a1 32) 16) 8)))) (
  (lit1[Int.toNat (IntKind.wrap .u8 (ishr .u64 (ishr .u64 (ishr .u64 a1 32) 16) 8))]?).bind fun b2 =>
  some (.int .i64 (IntKind.wrap .i64 ((IntKind.wrap .i64 ((IntKind.wrap .i64 (32 + 16)) + 8)) + (IntKind.wrap .i64 (b2.toNat : Int)))), h)) none) (
  cond (decide (0 ≤ (IntKind.wrap .u8 (ishr .u64 (ishr .u64 a1 32) 16)))) (
  (lit1[Int.toNat (IntKind.wrap .u8 (ishr .u64 (ishr .u64 a1 32) 16))]?).bind fun b3 =>
  some (.int .i64 (IntKind.wrap .i64 ((IntKind.wrap .i64 (32 + 16)) + (IntKind.wrap .i64 (b3.toNat : Int)))), h)) none)) (
  cond (decide ((ishr .u64 a1 32) ≥ 256)) (
  cond (decide (0 ≤ (IntKind.wrap .u8 (ishr .u64 (ishr .u64 a1 32) 8)))) (
  (lit1[Int.toNat (IntKind.wrap .u8 (ishr .u64 (ishr .u64 a1 32) 8))]?).bind fun b4 =>
  some (.int .i64 (IntKind.wrap .i64 ((IntKind.wrap .i64 (32 + 8)) + (IntKind.wrap .i64 (b4.toNat : Int)))), h)) none) (
  cond (decide (0 ≤ (IntKind.wrap .u8 (ishr .u64 a1 32)))) (
  (lit1[Int.toNat (IntKind.wrap .u8 (ishr .u64 a1 32))]?).bind fun b5 =>
  some (.int .i64 (IntKind.wrap .i64 (32 + (IntKind.wrap .i64 (b5.toNat : Int)))), h)) none))) (
  cond (decide (a1 ≥ 65536)) (
  cond (decide ((ishr .u64 a1 16) ≥ 256)) (
  cond (decide (0 ≤ (IntKind.wrap .u8 (ishr .u64 (ishr .u64 a1 16) 8)))) (
  (lit1[Int.toNat (IntKind.wrap .u8 (ishr .u64 (ishr .u64 a1 16) 8))]?).bind fun b6 =>
  some (.int .i64 (IntKind.wrap .i64 ((IntKind.wrap .i64 ((IntKind.wrap .i64 (0 + 16)) + 8)) + (IntKind.wrap .i64 (b6.toNat : Int)))), h)) none) (
  cond (decide (0 ≤ (IntKind.wrap .u8 (ishr .u64 a1 16)))) (
  (lit1[Int.toNat (IntKind.wrap .u8 (ishr .u64 a1 16))]?).bind fun b7 =>
  some (.int .i64 (IntKind.wrap .i64 ((IntKind.wrap .i64 (0 + 16)) + (IntKind.wrap .i64 (b7.toNat : Int)))), h)) none)) (
  cond (decide (a1 ≥ 256)) (
  cond (decide (0 ≤ (IntKind.wrap .u8 (ishr .u64 a1 8)))) (
  (lit1[Int.toNat (IntKind.wrap .u8 (ishr .u64 a1 8))]?).bind fun b8 =>
  some (.int .i64 (IntKind.wrap .i64 ((IntKind.wrap .i64 (0 + 8)) + (IntKind.wrap .i64 (b8.toNat : Int)))), h)) none) (
  cond (decide (0 ≤ (IntKind.wrap .u8 a1))) (
  (lit1[Int.toNat (IntKind.wrap .u8 a1)]?).bind fun b9 =>
  some (.int .i64 (IntKind.wrap .i64 (0 + (IntKind.wrap .i64 (b9.toNat : Int)))), h)) none))) := (go_step _ h).trans (by kernel_rfl)

theorem u_modint_Gcd (a1 : Sl) (a2 : Sl) (h : AH) : go (.fn F.modint_Gcd [a1.v, a2.v]) h =
  (go (.fn F.nat_Right [a1.v]) h).bind fun q3 =>
  ((some q3.1).bind AV.asBool).bind fun b4 =>
  cond (!b4) (
  some (.tup [(⟨none, 0, .is 0⟩ : Sl).v, .int .i64 1], q3.2)) (
  (go (.fn F.nat_Right [a2.v]) q3.2).bind fun q5 =>
  ((some q5.1).bind AV.asBool).bind fun b6 =>
  cond (!b6) (
  some (.tup [(⟨none, 0, .is 0⟩ : Sl).v, .int .i64 1], q5.2)) (
  (go (.fn F.slices_Clone_api_Nat_uint64 [a1.v]) q5.2).bind fun q7 =>
  ((some q7.1).bind AV.asSl).bind fun l8 =>
  (go (.fn F.slices_Clone_api_Nat_uint64 [a2.v]) q7.2).bind fun q9 =>
  ((some q9.1).bind AV.asSl).bind fun l10 =>
  go (.pt F.modint_Gcd Td.modint_Gcd_4 [(0, l8.v), (1, l10.v)]) q9.2)) := (go_step _ h).trans (by kernel_rfl)

theorem u_nat_Cmp (a1 : Sl) (a2 : Sl) (h : AH) : go (.fn F.nat_Cmp [a1.v, a2.v]) h =
  newK h (.cells [a1.v, a2.v] T.api_Nat) fun h3r h3 =>
  (go (.fn F.nat_right [(⟨some h3r, 2, .is 2⟩ : Sl).v]) h3).bind fun q4 =>
  ((some q4.1).bind AV.asBool).bind fun b5 =>
  cond (!b5) (
  some (.int .i64 0, q4.2)) (
  (go (.fn F.nat_compare [a1.v, a2.v]) q4.2).bind fun q6 =>
  ((some q6.1).bind (AV.asInt .i64)).bind fun n7 =>
  some (.int .i64 n7, q6.2)) := (go_step _ h).trans (by kernel_rfl)

theorem u_nat_right (a1 : Sl) (h : AH) : go (.fn F.nat_right [a1.v]) h =
  (go (.fn F.slices_ContainsFunc_api_Nat_api_Nat [a1.v, .func (.func F.nat_right_1) [] []]) h).bind fun q2 =>
  ((some q2.1).bind AV.asBool).bind fun b3 =>
  some (.bool (!b3), q2.2) := (go_step _ h).trans (by kernel_rfl)

theorem u_nat_product (a1 : Sl) (a2 : Sl) (h : AH) : go (.fn F.nat_product [a1.v, a2.v]) h =
  newK h (.cells [.nilFunc] T.func_api_Nat_api_Nat_api_Nat) fun h3r h3 =>
  (h3.puts h3r [.func (.func F.nat_product_1) [] [.ptr (some h3r)]]).bind fun h4 =>
  (h4.cell h3r).bind fun v5 =>
  yieldK v5 [a1.v, a2.v] (fun y7 =>
  (go (.round y7.1 y7.2) h4).bind fun q6 =>
  ((some q6.1).bind AV.asSl).bind fun l9 =>
  some (l9.v, q6.2)) (
  (callV Pg go v5 [a1.v, a2.v] h4).bind fun q8 =>
  ((some q8.1).bind AV.asSl).bind fun l10 =>
  some (l10.v, q8.2)) := (go_step _ h).trans (by kernel_rfl)

theorem u_nat_told (a1 : Sl) (h : AH) : go (.fn F.nat_told [a1.v]) h =
  (go (.fn F.nat_trim [a1.v]) h).bind fun q2 =>
  ((some q2.1).bind AV.asSl).bind fun l3 =>
  cond (decide ((l3.len : Int) > 64)) (
  some (.tup [(⟨none, 0, .is 0⟩ : Sl).v, .int .i64 4], q2.2)) (
  some (.tup [l3.v, .int .i64 0], q2.2)) := (go_step _ h).trans (by kernel_rfl)

theorem u_nat_Add (a1 : Sl) (a2 : Sl) (h : AH) : go (.fn F.nat_Add [a1.v, a2.v]) h =
  newK h (.cells [a1.v, a2.v] T.api_Nat) fun h3r h3 =>
  (go (.fn F.nat_right [(⟨some h3r, 2, .is 2⟩ : Sl).v]) h3).bind fun q4 =>
  ((some q4.1).bind AV.asBool).bind fun b5 =>
  cond (!b5) (
  some (.tup [(⟨none, 0, .is 0⟩ : Sl).v, .int .i64 1], q4.2)) (
  (go (.fn F.nat_sum [a1.v, a2.v]) q4.2).bind fun q6 =>
  ((some q6.1).bind AV.asSl).bind fun l7 =>
  (go (.fn F.nat_told [l7.v]) q6.2).bind fun q8 =>
  (AV.asTup2 q8.1).bind fun p9 =>
  ((some p9.1).bind AV.asSl).bind fun l10 =>
  ((some p9.2).bind (AV.asInt .i64)).bind fun n11 =>
  some (.tup [l10.v, .int .i64 n11], q8.2)) := (go_step _ h).trans (by kernel_rfl)

theorem u_mont_New (a1 : Sl) (h : AH) : go (.fn F.mont_New [a1.v]) h =
  (go (.fn F.nat_Right [a1.v]) h).bind fun q2 =>
  ((some q2.1).bind AV.asBool).bind fun b3 =>
  cond (!b3) (
  some (.tup [.ptr none, .int .i64 1], q2.2)) (
  cond (decide ((a1.len : Int) = 0)) (
  some (.tup [.ptr none, .int .i64 1], q2.2)) (
  cond (decide ((a1.len : Int) > 8)) (
  some (.tup [.ptr none, .int .i64 1], q2.2)) (
  (idx a1.ref a1.len 0 1).bind fun r4 =>
  ((q2.2.cell r4).bind (AV.asInt .u64)).bind fun n5 =>
  cond (decide ((iand .u64 n5 1) = 0)) (
  some (.tup [.ptr none, .int .i64 1], q2.2)) (
  cond (decide ((a1.len : Int) = 1)) (
  (idx a1.ref a1.len 0 1).bind fun r6 =>
  ((q2.2.cell r6).bind (AV.asInt .u64)).bind fun n7 =>
  cond (decide (n7 = 1)) (
  some (.tup [.ptr none, .int .i64 1], q2.2)) (
  (idx a1.ref a1.len 0 1).bind fun r8 =>
  ((q2.2.cell r8).bind (AV.asInt .u64)).bind fun n9 =>
  go (.pt F.mont_New Td.mont_New_5 [(0, a1.v), (4, .int .u64 n9), (40, .int .i64 0)]) q2.2)) (
  (idx a1.ref a1.len 0 1).bind fun r10 =>
  ((q2.2.cell r10).bind (AV.asInt .u64)).bind fun n11 =>
  go (.pt F.mont_New Td.mont_New_5 [(0, a1.v), (4, .int .u64 n11), (40, .int .i64 0)]) q2.2))))) := (go_step _ h).trans (by kernel_rfl)

theorem u_mont_Ring_Exp (a1 : Option Ref) (a2 : Sl) (a3 : Sl) (h : AH) : go (.fn F.mont_Ring_Exp [.ptr a1, a2.v, a3.v]) h =
  newK h (.cells [a2.v] T.api_Nat) fun h4r h4 =>
  (go (.fn F.mont_Ring_below [.ptr a1, (⟨some h4r, 1, .is 1⟩ : Sl).v]) h4).bind fun q5 =>
  ((some q5.1).bind AV.asBool).bind fun b6 =>
  cond (!b6) (
  some (.tup [(⟨none, 0, .is 0⟩ : Sl).v, .int .i64 1], q5.2)) (
  (go (.fn F.nat_Right [a3.v]) q5.2).bind fun q7 =>
  ((some q7.1).bind AV.asBool).bind fun b8 =>
  cond (!b8) (
  some (.tup [(⟨none, 0, .is 0⟩ : Sl).v, .int .i64 1], q7.2)) (
  cond (decide ((a3.len : Int) > 8)) (
  some (.tup [(⟨none, 0, .is 0⟩ : Sl).v, .int .i64 1], q7.2)) (
  a1.bind fun r9 =>
  ((q7.2.cell (r9.add 2)).bind AV.asSl).bind fun l10 =>
  newK q7.2 (.cells [l10.v] T.api_Nat) fun h11r h11 =>
  a1.bind fun r12 =>
  ((h11.cell (r12.add 3)).bind AV.asSl).bind fun l13 =>
  (go (.fn F.mont_Ring_product [.ptr a1, a2.v, l13.v]) h11).bind fun q14 =>
  ((some q14.1).bind AV.asSl).bind fun l15 =>
  go (.pt F.mont_Ring_Exp Td.mont_Ring_Exp_7 [(0, .ptr a1), (2, a3.v), (8, .func (.func F.mont_Ring_product) [.ptr a1] []), (9, (⟨some h11r, 1, .is 1⟩ : Sl).v), (10, l15.v), (44, .int .i64 0)]) q14.2))) := (go_step _ h).trans (by kernel_rfl)

theorem u_nat_Div (a1 : Sl) (a2 : Sl) (h : AH) : go (.fn F.nat_Div [a1.v, a2.v]) h =
  newK h (.cells [a1.v, a2.v] T.api_Nat) fun h3r h3 =>
  (go (.fn F.nat_right [(⟨some h3r, 2, .is 2⟩ : Sl).v]) h3).bind fun q4 =>
  ((some q4.1).bind AV.asBool).bind fun b5 =>
  cond (!b5) (
  some (.tup [(⟨none, 0, .is 0⟩ : Sl).v, (⟨none, 0, .is 0⟩ : Sl).v, .int .i64 1], q4.2)) (
  cond (decide ((a2.len : Int) = 0)) (
  some (.tup [(⟨none, 0, .is 0⟩ : Sl).v, (⟨none, 0, .is 0⟩ : Sl).v, .int .i64 3], q4.2)) (
  (go (.fn F.nat_compare [a1.v, a2.v]) q4.2).bind fun q6 =>
  ((some q6.1).bind (AV.asInt .i64)).bind fun n7 =>
  cond (decide (n7 < 0)) (
  (go (.fn F.slices_Clone_api_Nat_uint64 [a1.v]) q6.2).bind fun q8 =>
  ((some q8.1).bind AV.asSl).bind fun l9 =>
  some (.tup [(⟨none, 0, .is 0⟩ : Sl).v, l9.v, .int .i64 0], q8.2)) (
  cond (decide ((a2.len : Int) = 1)) (
  (idx a2.ref a2.len 0 1).bind fun r10 =>
  ((q6.2.cell r10).bind (AV.asInt .u64)).bind fun n11 =>
  (go (.fn F.nat_short [a1.v, .int .u64 n11]) q6.2).bind fun q12 =>
  (AV.asTup2 q12.1).bind fun p13 =>
  ((some p13.1).bind AV.asSl).bind fun l14 =>
  ((some p13.2).bind (AV.asInt .u64)).bind fun n15 =>
  (go (.fn F.nat_Of [.int .u64 n15]) q12.2).bind fun q16 =>
  ((some q16.1).bind AV.asSl).bind fun l17 =>
  some (.tup [l14.v, l17.v, .int .i64 0], q16.2)) (
  (go (.fn F.nat_long [a1.v, a2.v]) q6.2).bind fun q18 =>
  (AV.asTup2 q18.1).bind fun p19 =>
  ((some p19.1).bind AV.asSl).bind fun l20 =>
  ((some p19.2).bind AV.asSl).bind fun l21 =>
  some (.tup [l20.v, l21.v, .int .i64 0], q18.2))))) := (go_step _ h).trans (by kernel_rfl)

theorem u_paillier_part_1 (a1 : Sl) (a2 : Ref) (a3 : Ref) (a4 : Ref) (h : AH) : go (.fn F.paillier_part_1 [a1.v, .ptr (some a2), .ptr (some a3), .ptr (some a4)]) h =
  ((h.cell a2).bind AV.asSl).bind fun l5 =>
  (go (.fn F.paillier_square [l5.v]) h).bind fun q6 =>
  ((some q6.1).bind AV.asSl).bind fun l7 =>
  (go (.fn F.nat_Div [a1.v, l7.v]) q6.2).bind fun q8 =>
  (AV.asTup3 q8.1).bind fun p9 =>
  ((some p9.1).bind AV.asSl).bind fun l10 =>
  ((some p9.2.1).bind AV.asSl).bind fun l11 =>
  ((some p9.2.2).bind (AV.asInt .i64)).bind fun n12 =>
  ((q8.2.cell a3).bind AV.asPtr).bind fun p13 =>
  ((q8.2.cell a4).bind (AV.asInt .u64)).bind fun n14 =>
  newK q8.2 (.cells [.int .u64 (IntKind.wrap .u64 (n14 - 1))] T.uint64) fun h15r h15 =>
  (go (.fn F.mont_Ring_Exp [.ptr p13, l11.v, (⟨some h15r, 1, .is 1⟩ : Sl).v]) h15).bind fun q16 =>
  (AV.asTup2 q16.1).bind fun p17 =>
  ((some p17.1).bind AV.asSl).bind fun l18 =>
  ((some p17.2).bind (AV.asInt .i64)).bind fun n19 =>
  newK q16.2 (.cells [.int .u64 1] T.uint64) fun h20r h20 =>
  (go (.fn F.nat_Sub [l18.v, (⟨some h20r, 1, .is 1⟩ : Sl).v]) h20).bind fun q21 =>
  (AV.asTup2 q21.1).bind fun p22 =>
  ((some p22.1).bind AV.asSl).bind fun l23 =>
  ((some p22.2).bind (AV.asInt .i64)).bind fun n24 =>
  ((q21.2.cell a2).bind AV.asSl).bind fun l25 =>
  (go (.fn F.nat_Div [l23.v, l25.v]) q21.2).bind fun q26 =>
  (AV.asTup3 q26.1).bind fun p27 =>
  ((some p27.1).bind AV.asSl).bind fun l28 =>
  ((some p27.2.1).bind AV.asSl).bind fun l29 =>
  ((some p27.2.2).bind (AV.asInt .i64)).bind fun n30 =>
  some (l28.v, q26.2) := (go_step _ h).trans (by kernel_rfl)

theorem u_modint_Inverse (a1 : Sl) (a2 : Sl) (h : AH) : go (.fn F.modint_Inverse [a1.v, a2.v]) h =
  (go (.fn F.nat_Right [a1.v]) h).bind fun q3 =>
  ((some q3.1).bind AV.asBool).bind fun b4 =>
  cond (!b4) (
  some (.tup [(⟨none, 0, .is 0⟩ : Sl).v, .int .i64 1], q3.2)) (
  (go (.fn F.nat_Right [a2.v]) q3.2).bind fun q5 =>
  ((some q5.1).bind AV.asBool).bind fun b6 =>
  cond (!b6) (
  some (.tup [(⟨none, 0, .is 0⟩ : Sl).v, .int .i64 1], q5.2)) (
  newK q5.2 (.cells [.int .u64 1] T.uint64) fun h7r h7 =>
  (go (.fn F.nat_Cmp [a2.v, (⟨some h7r, 1, .is 1⟩ : Sl).v]) h7).bind fun q8 =>
  ((some q8.1).bind (AV.asInt .i64)).bind fun n9 =>
  cond (decide (n9 ≤ 0)) (
  some (.tup [(⟨none, 0, .is 0⟩ : Sl).v, .int .i64 1], q8.2)) (
  (go (.fn F.nat_Div [a1.v, a2.v]) q8.2).bind fun q10 =>
  (AV.asTup3 q10.1).bind fun p11 =>
  ((some p11.1).bind AV.asSl).bind fun l12 =>
  ((some p11.2.1).bind AV.asSl).bind fun l13 =>
  ((some p11.2.2).bind (AV.asInt .i64)).bind fun n14 =>
  newK q10.2 (.cells [(⟨none, 0, .is 0⟩ : Sl).v] T.api_Nat) fun h15r h15 =>
  (h15.puts h15r [l13.v]).bind fun h16 =>
  newK h16 (.cells [(⟨none, 0, .is 0⟩ : Sl).v] T.api_Nat) fun h17r h17 =>
  (h17.puts h17r [a2.v]).bind fun h18 =>
  (go (.fn F.modint_Of [.int .i64 1]) h18).bind fun q19 =>
  (AV.asAgg q19.1).bind fun cs20 =>
  cond (Nat.beq cs20.length 2) (
  ((cs20[0]?).bind AV.asBool).bind fun b21 =>
  ((cs20[1]?).bind AV.asSl).bind fun l22 =>
  newK q19.2 (.cells [.bool false, (⟨none, 0, .is 0⟩ : Sl).v] T.api_Int) fun h23r h23 =>
  newK h23 (.cells [.bool false, (⟨none, 0, .is 0⟩ : Sl).v] T.api_Int) fun h24r h24 =>
  (h24.puts h23r [.bool false, (⟨none, 0, .is 0⟩ : Sl).v]).bind fun h25 =>
  (h25.puts h24r [.bool b21, l22.v]).bind fun h26 =>
  go (.pt F.modint_Inverse Td.modint_Inverse_7 [(1, a2.v), (7, .ptr (some h15r)), (9, .ptr (some h17r)), (10, .ptr (some h23r)), (12, .func (.func F.modint_Inverse_1) [] [.ptr (some h17r), .ptr (some h15r), .ptr (some h24r), .ptr (some h23r)])]) h26) none))) := (go_step _ h).trans (by kernel_rfl)

theorem u_modint_Crt_1 (a1 : Sl) (h : AH) : go (.fn F.modint_Crt_1 [a1.v]) h =
  (go (.fn F.nat_Right [a1.v]) h).bind fun q2 =>
  ((some q2.1).bind AV.asBool).bind fun b3 =>
  cond (!b3) (
  some (.bool true, q2.2)) (
  some (.bool (decide ((a1.len : Int) > 8)), q2.2)) := (go_step _ h).trans (by kernel_rfl)

theorem u_modint_Crt_2 (a1 : Sl) (h : AH) : go (.fn F.modint_Crt_2 [a1.v]) h =
  newK h (.cells [.int .u64 1] T.uint64) fun h2r h2 =>
  (go (.fn F.nat_Cmp [a1.v, (⟨some h2r, 1, .is 1⟩ : Sl).v]) h2).bind fun q3 =>
  ((some q3.1).bind (AV.asInt .i64)).bind fun n4 =>
  some (.bool (decide (n4 ≤ 0)), q3.2) := (go_step _ h).trans (by kernel_rfl)

theorem u_modint_From (a1 : Bool) (a2 : Sl) (h : AH) : go (.fn F.modint_From [.bool a1, a2.v]) h =
  newK h (.cells [.bool false, (⟨none, 0, .is 0⟩ : Sl).v] T.api_Int) fun h3r h3 =>
  (go (.fn F.nat_Right [a2.v]) h3).bind fun q4 =>
  ((some q4.1).bind AV.asBool).bind fun b5 =>
  cond (!b5) (
  (q4.2.puts h3r [.bool false, (⟨none, 0, .is 0⟩ : Sl).v]).bind fun h6 =>
  ((h6.cell (h3r.add 0)).bind AV.asBool).bind fun b7 =>
  ((h6.cell (h3r.add 1)).bind AV.asSl).bind fun l8 =>
  some (.agg [.bool b7, l8.v], h6)) (
  cond (decide ((a2.len : Int) = 0)) (
  (q4.2.puts h3r [.bool false, (⟨none, 0, .is 0⟩ : Sl).v]).bind fun h9 =>
  ((h9.cell (h3r.add 0)).bind AV.asBool).bind fun b10 =>
  ((h9.cell (h3r.add 1)).bind AV.asSl).bind fun l11 =>
  some (.agg [.bool b10, l11.v], h9)) (
  (go (.fn F.slices_Clone_api_Nat_uint64 [a2.v]) q4.2).bind fun q12 =>
  ((some q12.1).bind AV.asSl).bind fun l13 =>
  (q12.2.puts h3r [.bool a1, l13.v]).bind fun h14 =>
  ((h14.cell (h3r.add 0)).bind AV.asBool).bind fun b15 =>
  ((h14.cell (h3r.add 1)).bind AV.asSl).bind fun l16 =>
  some (.agg [.bool b15, l16.v], h14))) := (go_step _ h).trans (by kernel_rfl)

theorem u_modint_Sub (a1 : Bool) (a2 : Sl) (a3 : Bool) (a4 : Sl) (h : AH) : go (.fn F.modint_Sub [.agg [.bool a1, a2.v], .agg [.bool a3, a4.v]]) h =
  newK h (.cells [.bool a1, a2.v] T.api_Int) fun h5r h5 =>
  newK h5 (.cells [.bool a3, a4.v] T.api_Int) fun h6r h6 =>
  newK h6 (.cells [.bool false, (⟨none, 0, .is 0⟩ : Sl).v] T.api_Int) fun h7r h7 =>
  ((h7.cell (h5r.add 0)).bind AV.asBool).bind fun b8 =>
  ((h7.cell (h5r.add 1)).bind AV.asSl).bind fun l9 =>
  ((h7.cell (h6r.add 0)).bind AV.asBool).bind fun b10 =>
  ((h7.cell (h6r.add 1)).bind AV.asSl).bind fun l11 =>
  newK h7 (.cells [.bool b8, l9.v, .bool b10, l11.v] T.api_Int) fun h12r h12 =>
  (go (.fn F.modint_right [(⟨some h12r, 2, .is 2⟩ : Sl).v]) h12).bind fun q13 =>
  ((some q13.1).bind AV.asBool).bind fun b14 =>
  cond (!b14) (
  (q13.2.puts h7r [.bool false, (⟨none, 0, .is 0⟩ : Sl).v]).bind fun h15 =>
  ((h15.cell (h7r.add 0)).bind AV.asBool).bind fun b16 =>
  ((h15.cell (h7r.add 1)).bind AV.asSl).bind fun l17 =>
  some (.tup [.agg [.bool b16, l17.v], .int .i64 1], h15)) (
  ((q13.2.cell (h5r.add 0)).bind AV.asBool).bind fun b18 =>
  ((q13.2.cell (h5r.add 1)).bind AV.asSl).bind fun l19 =>
  ((q13.2.cell (h6r.add 0)).bind AV.asBool).bind fun b20 =>
  ((q13.2.cell (h6r.add 1)).bind AV.asSl).bind fun l21 =>
  (go (.fn F.modint_Neg [.agg [.bool b20, l21.v]]) q13.2).bind fun q22 =>
  (AV.asAgg q22.1).bind fun cs23 =>
  cond (Nat.beq cs23.length 2) (
  ((cs23[0]?).bind AV.asBool).bind fun b24 =>
  ((cs23[1]?).bind AV.asSl).bind fun l25 =>
  whenK (SameAt q13.2 q22.2 h5r 2) (
  (go (.fn F.modint_Add [.agg [.bool b18, l19.v], .agg [.bool b24, l25.v]]) q22.2).bind fun q26 =>
  (AV.asTup2 q26.1).bind fun p27 =>
  (AV.asAgg p27.1).bind fun cs28 =>
  cond (Nat.beq cs28.length 2) (
  ((cs28[0]?).bind AV.asBool).bind fun b29 =>
  ((cs28[1]?).bind AV.asSl).bind fun l30 =>
  ((some p27.2).bind (AV.asInt .i64)).bind fun n31 =>
  (q26.2.puts h7r [.bool b29, l30.v]).bind fun h32 =>
  ((h32.cell (h7r.add 0)).bind AV.asBool).bind fun b33 =>
  ((h32.cell (h7r.add 1)).bind AV.asSl).bind fun l34 =>
  some (.tup [.agg [.bool b33, l34.v], .int .i64 n31], h32)) none)) none) := (go_step _ h).trans (by kernel_rfl)

theorem u_modint_Mul (a1 : Bool) (a2 : Sl) (a3 : Bool) (a4 : Sl) (h : AH) : go (.fn F.modint_Mul [.agg [.bool a1, a2.v], .agg [.bool a3, a4.v]]) h =
  newK h (.cells [.bool a1, a2.v] T.api_Int) fun h5r h5 =>
  newK h5 (.cells [.bool a3, a4.v] T.api_Int) fun h6r h6 =>
  newK h6 (.cells [.bool false, (⟨none, 0, .is 0⟩ : Sl).v] T.api_Int) fun h7r h7 =>
  ((h7.cell (h5r.add 0)).bind AV.asBool).bind fun b8 =>
  ((h7.cell (h5r.add 1)).bind AV.asSl).bind fun l9 =>
  ((h7.cell (h6r.add 0)).bind AV.asBool).bind fun b10 =>
  ((h7.cell (h6r.add 1)).bind AV.asSl).bind fun l11 =>
  newK h7 (.cells [.bool b8, l9.v, .bool b10, l11.v] T.api_Int) fun h12r h12 =>
  (go (.fn F.modint_right [(⟨some h12r, 2, .is 2⟩ : Sl).v]) h12).bind fun q13 =>
  ((some q13.1).bind AV.asBool).bind fun b14 =>
  cond (!b14) (
  (q13.2.puts h7r [.bool false, (⟨none, 0, .is 0⟩ : Sl).v]).bind fun h15 =>
  ((h15.cell (h7r.add 0)).bind AV.asBool).bind fun b16 =>
  ((h15.cell (h7r.add 1)).bind AV.asSl).bind fun l17 =>
  some (.tup [.agg [.bool b16, l17.v], .int .i64 1], h15)) (
  ((q13.2.cell (h5r.add 1)).bind AV.asSl).bind fun l18 =>
  ((q13.2.cell (h6r.add 1)).bind AV.asSl).bind fun l19 =>
  (go (.fn F.nat_Mul [l18.v, l19.v]) q13.2).bind fun q20 =>
  (AV.asTup2 q20.1).bind fun p21 =>
  ((some p21.1).bind AV.asSl).bind fun l22 =>
  ((some p21.2).bind (AV.asInt .i64)).bind fun n23 =>
  ((q20.2.cell (h5r.add 0)).bind AV.asBool).bind fun b24 =>
  ((q20.2.cell (h6r.add 0)).bind AV.asBool).bind fun b25 =>
  (go (.fn F.modint_From [.bool (!(b24 == b25)), l22.v]) q20.2).bind fun q26 =>
  (AV.asAgg q26.1).bind fun cs27 =>
  cond (Nat.beq cs27.length 2) (
  ((cs27[0]?).bind AV.asBool).bind fun b28 =>
  ((cs27[1]?).bind AV.asSl).bind fun l29 =>
  (q26.2.puts h7r [.bool b28, l29.v]).bind fun h30 =>
  ((h30.cell (h7r.add 0)).bind AV.asBool).bind fun b31 =>
  ((h30.cell (h7r.add 1)).bind AV.asSl).bind fun l32 =>
  some (.tup [.agg [.bool b31, l32.v], .int .i64 n23], h30)) none) := (go_step _ h).trans (by kernel_rfl)

theorem u_modint_Floor (a1 : Bool) (a2 : Sl) (a3 : Bool) (a4 : Sl) (h : AH) : go (.fn F.modint_Floor [.agg [.bool a1, a2.v], .agg [.bool a3, a4.v]]) h =
  newK h (.cells [.bool a1, a2.v] T.api_Int) fun h5r h5 =>
  newK h5 (.cells [.bool a3, a4.v] T.api_Int) fun h6r h6 =>
  newK h6 (.cells [.bool false, (⟨none, 0, .is 0⟩ : Sl).v] T.api_Int) fun h7r h7 =>
  newK h7 (.cells [.bool false, (⟨none, 0, .is 0⟩ : Sl).v] T.api_Int) fun h8r h8 =>
  ((h8.cell (h5r.add 0)).bind AV.asBool).bind fun b9 =>
  ((h8.cell (h5r.add 1)).bind AV.asSl).bind fun l10 =>
  ((h8.cell (h6r.add 0)).bind AV.asBool).bind fun b11 =>
  ((h8.cell (h6r.add 1)).bind AV.asSl).bind fun l12 =>
  newK h8 (.cells [.bool b9, l10.v, .bool b11, l12.v] T.api_Int) fun h13r h13 =>
  (go (.fn F.modint_right [(⟨some h13r, 2, .is 2⟩ : Sl).v]) h13).bind fun q14 =>
  ((some q14.1).bind AV.asBool).bind fun b15 =>
  cond (!b15) (
  (q14.2.puts h7r [.bool false, (⟨none, 0, .is 0⟩ : Sl).v]).bind fun h16 =>
  (h16.puts h8r [.bool false, (⟨none, 0, .is 0⟩ : Sl).v]).bind fun h17 =>
  ((h17.cell (h7r.add 0)).bind AV.asBool).bind fun b18 =>
  ((h17.cell (h7r.add 1)).bind AV.asSl).bind fun l19 =>
  ((h17.cell (h8r.add 0)).bind AV.asBool).bind fun b20 =>
  ((h17.cell (h8r.add 1)).bind AV.asSl).bind fun l21 =>
  some (.tup [.agg [.bool b18, l19.v], .agg [.bool b20, l21.v], .int .i64 1], h17)) (
  ((q14.2.cell (h6r.add 1)).bind AV.asSl).bind fun l22 =>
  cond (decide ((l22.len : Int) = 0)) (
  (q14.2.puts h7r [.bool false, (⟨none, 0, .is 0⟩ : Sl).v]).bind fun h23 =>
  (h23.puts h8r [.bool false, (⟨none, 0, .is 0⟩ : Sl).v]).bind fun h24 =>
  ((h24.cell (h7r.add 0)).bind AV.asBool).bind fun b25 =>
  ((h24.cell (h7r.add 1)).bind AV.asSl).bind fun l26 =>
  ((h24.cell (h8r.add 0)).bind AV.asBool).bind fun b27 =>
  ((h24.cell (h8r.add 1)).bind AV.asSl).bind fun l28 =>
  some (.tup [.agg [.bool b25, l26.v], .agg [.bool b27, l28.v], .int .i64 3], h24)) (
  ((q14.2.cell (h6r.add 0)).bind AV.asBool).bind fun b29 =>
  cond b29 (
  (q14.2.puts h7r [.bool false, (⟨none, 0, .is 0⟩ : Sl).v]).bind fun h30 =>
  (h30.puts h8r [.bool false, (⟨none, 0, .is 0⟩ : Sl).v]).bind fun h31 =>
  ((h31.cell (h7r.add 0)).bind AV.asBool).bind fun b32 =>
  ((h31.cell (h7r.add 1)).bind AV.asSl).bind fun l33 =>
  ((h31.cell (h8r.add 0)).bind AV.asBool).bind fun b34 =>
  ((h31.cell (h8r.add 1)).bind AV.asSl).bind fun l35 =>
  some (.tup [.agg [.bool b32, l33.v], .agg [.bool b34, l35.v], .int .i64 1], h31)) (
  ((q14.2.cell (h5r.add 1)).bind AV.asSl).bind fun l36 =>
  ((q14.2.cell (h6r.add 1)).bind AV.asSl).bind fun l37 =>
  (go (.fn F.nat_Div [l36.v, l37.v]) q14.2).bind fun q38 =>
  (AV.asTup3 q38.1).bind fun p39 =>
  ((some p39.1).bind AV.asSl).bind fun l40 =>
  ((some p39.2.1).bind AV.asSl).bind fun l41 =>
  ((some p39.2.2).bind (AV.asInt .i64)).bind fun n42 =>
  ((q38.2.cell (h5r.add 0)).bind AV.asBool).bind fun b43 =>
  cond b43 (
  cond (decide ((l41.len : Int) > 0)) (
  (go (.fn F.nat_Of [.int .u64 1]) q38.2).bind fun q44 =>
  ((some q44.1).bind AV.asSl).bind fun l45 =>
  (go (.fn F.nat_Add [l40.v, l45.v]) q44.2).bind fun q46 =>
  (AV.asTup2 q46.1).bind fun p47 =>
  ((some p47.1).bind AV.asSl).bind fun l48 =>
  ((some p47.2).bind (AV.asInt .i64)).bind fun n49 =>
  cond (!decide (n49 = 0)) (
  (q46.2.puts h7r [.bool false, (⟨none, 0, .is 0⟩ : Sl).v]).bind fun h50 =>
  (h50.puts h8r [.bool false, (⟨none, 0, .is 0⟩ : Sl).v]).bind fun h51 =>
  ((h51.cell (h7r.add 0)).bind AV.asBool).bind fun b52 =>
  ((h51.cell (h7r.add 1)).bind AV.asSl).bind fun l53 =>
  ((h51.cell (h8r.add 0)).bind AV.asBool).bind fun b54 =>
  ((h51.cell (h8r.add 1)).bind AV.asSl).bind fun l55 =>
  some (.tup [.agg [.bool b52, l53.v], .agg [.bool b54, l55.v], .int .i64 n49], h51)) (
  ((q46.2.cell (h6r.add 1)).bind AV.asSl).bind fun l56 =>
  (go (.fn F.nat_Sub [l56.v, l41.v]) q46.2).bind fun q57 =>
  (AV.asTup2 q57.1).bind fun p58 =>
  ((some p58.1).bind AV.asSl).bind fun l59 =>
  ((some p58.2).bind (AV.asInt .i64)).bind fun n60 =>
  ((q57.2.cell (h5r.add 0)).bind AV.asBool).bind fun b61 =>
  (go (.fn F.modint_From [.bool b61, l48.v]) q57.2).bind fun q62 =>
  (AV.asAgg q62.1).bind fun cs63 =>
  cond (Nat.beq cs63.length 2) (
  ((cs63[0]?).bind AV.asBool).bind fun b64 =>
  ((cs63[1]?).bind AV.asSl).bind fun l65 =>
  (go (.fn F.modint_From [.bool false, l59.v]) q62.2).bind fun q66 =>
  (AV.asAgg q66.1).bind fun cs67 =>
  cond (Nat.beq cs67.length 2) (
  ((cs67[0]?).bind AV.asBool).bind fun b68 =>
  ((cs67[1]?).bind AV.asSl).bind fun l69 =>
  (q66.2.puts h7r [.bool b64, l65.v]).bind fun h70 =>
  (h70.puts h8r [.bool b68, l69.v]).bind fun h71 =>
  ((h71.cell (h7r.add 0)).bind AV.asBool).bind fun b72 =>
  ((h71.cell (h7r.add 1)).bind AV.asSl).bind fun l73 =>
  ((h71.cell (h8r.add 0)).bind AV.asBool).bind fun b74 =>
  ((h71.cell (h8r.add 1)).bind AV.asSl).bind fun l75 =>
  some (.tup [.agg [.bool b72, l73.v], .agg [.bool b74, l75.v], .int .i64 0], h71)) none) none)) (
  ((q38.2.cell (h5r.add 0)).bind AV.asBool).bind fun b76 =>
  (go (.fn F.modint_From [.bool b76, l40.v]) q38.2).bind fun q77 =>
  (AV.asAgg q77.1).bind fun cs78 =>
  cond (Nat.beq cs78.length 2) (
  ((cs78[0]?).bind AV.asBool).bind fun b79 =>
  ((cs78[1]?).bind AV.asSl).bind fun l80 =>
  (go (.fn F.modint_From [.bool false, l41.v]) q77.2).bind fun q81 =>
  (AV.asAgg q81.1).bind fun cs82 =>
  cond (Nat.beq cs82.length 2) (
  ((cs82[0]?).bind AV.asBool).bind fun b83 =>
  ((cs82[1]?).bind AV.asSl).bind fun l84 =>
  (q81.2.puts h7r [.bool b79, l80.v]).bind fun h85 =>
  (h85.puts h8r [.bool b83, l84.v]).bind fun h86 =>
  ((h86.cell (h7r.add 0)).bind AV.asBool).bind fun b87 =>
  ((h86.cell (h7r.add 1)).bind AV.asSl).bind fun l88 =>
  ((h86.cell (h8r.add 0)).bind AV.asBool).bind fun b89 =>
  ((h86.cell (h8r.add 1)).bind AV.asSl).bind fun l90 =>
  some (.tup [.agg [.bool b87, l88.v], .agg [.bool b89, l90.v], .int .i64 0], h86)) none) none)) (
  ((q38.2.cell (h5r.add 0)).bind AV.asBool).bind fun b91 =>
  (go (.fn F.modint_From [.bool b91, l40.v]) q38.2).bind fun q92 =>
  (AV.asAgg q92.1).bind fun cs93 =>
  cond (Nat.beq cs93.length 2) (
  ((cs93[0]?).bind AV.asBool).bind fun b94 =>
  ((cs93[1]?).bind AV.asSl).bind fun l95 =>
  (go (.fn F.modint_From [.bool false, l41.v]) q92.2).bind fun q96 =>
  (AV.asAgg q96.1).bind fun cs97 =>
  cond (Nat.beq cs97.length 2) (
  ((cs97[0]?).bind AV.asBool).bind fun b98 =>
  ((cs97[1]?).bind AV.asSl).bind fun l99 =>
  (q96.2.puts h7r [.bool b94, l95.v]).bind fun h100 =>
  (h100.puts h8r [.bool b98, l99.v]).bind fun h101 =>
  ((h101.cell (h7r.add 0)).bind AV.asBool).bind fun b102 =>
  ((h101.cell (h7r.add 1)).bind AV.asSl).bind fun l103 =>
  ((h101.cell (h8r.add 0)).bind AV.asBool).bind fun b104 =>
  ((h101.cell (h8r.add 1)).bind AV.asSl).bind fun l105 =>
  some (.tup [.agg [.bool b102, l103.v], .agg [.bool b104, l105.v], .int .i64 0], h101)) none) none)))) := (go_step _ h).trans (by kernel_rfl)

theorem p_nat_school_7 (a1 : Sl) (a2 : Sl) (a3 : Int) (a4 : Int) (a5 : Int) (a6 : Sl) (a7 : Int) (a8 : Int) (a9 : Sl) (a10 : Int) (a11 : Int) (h : AH) : go (.pt F.nat_school Td.nat_school_7 [(1, a1.v), (5, a2.v), (6, .int .i64 a3), (7, .int .u64 a4), (8, .int .u64 a5), (20, a6.v), (21, .int .i64 a7), (22, .int .i64 a8), (27, a9.v), (28, .int .i64 a10), (29, .int .i64 a11)]) h =
  cond (decide (a11 < a10)) (
  (idx a9.ref a9.len a11 1).bind fun r12 =>
  ((h.cell r12).bind (AV.asInt .u64)).bind fun n13 =>
  (go (.fn F.math_bits_Mul64 [.int .u64 a4, .int .u64 n13]) h).bind fun q14 =>
  (AV.asTup2 q14.1).bind fun p15 =>
  ((some p15.1).bind (AV.asInt .u64)).bind fun n16 =>
  ((some p15.2).bind (AV.asInt .u64)).bind fun n17 =>
  (idx a2.ref a2.len (IntKind.wrap .i64 (a3 + a11)) 1).bind fun r18 =>
  ((q14.2.cell r18).bind (AV.asInt .u64)).bind fun n19 =>
  ((prim "math/bits.Add64" [.int .u64 n17, .int .u64 n19, .int .u64 0]).map fun v => (v, q14.2)).bind fun q20 =>
  (AV.asTup2 q20.1).bind fun p21 =>
  ((some p21.1).bind (AV.asInt .u64)).bind fun n22 =>
  ((some p21.2).bind (AV.asInt .u64)).bind fun n23 =>
  ((prim "math/bits.Add64" [.int .u64 n22, .int .u64 a5, .int .u64 0]).map fun v => (v, q20.2)).bind fun q24 =>
  (AV.asTup2 q24.1).bind fun p25 =>
  ((some p25.1).bind (AV.asInt .u64)).bind fun n26 =>
  ((some p25.2).bind (AV.asInt .u64)).bind fun n27 =>
  (idx a2.ref a2.len (IntKind.wrap .i64 (a3 + a11)) 1).bind fun r28 =>
  (q24.2.puts r28 [.int .u64 n26]).bind fun h29 =>
  go (.pt F.nat_school Td.nat_school_7 [(1, a1.v), (5, a2.v), (6, .int .i64 a3), (7, .int .u64 a4), (8, .int .u64 (IntKind.wrap .u64 ((IntKind.wrap .u64 (n16 + n23)) + n27))), (20, a6.v), (21, .int .i64 a7), (22, .int .i64 a8), (27, a9.v), (28, .int .i64 a10), (29, .int .i64 (IntKind.wrap .i64 (a11 + 1)))]) h29) (
  (idx a2.ref a2.len (IntKind.wrap .i64 (a3 + (a1.len : Int))) 1).bind fun r30 =>
  (h.puts r30 [.int .u64 a5]).bind fun h31 =>
  go (.pt F.nat_school Td.nat_school_3 [(1, a1.v), (5, a2.v), (20, a6.v), (21, .int .i64 a7), (22, .int .i64 (IntKind.wrap .i64 (a8 + 1)))]) h31) := (go_step _ h).trans (by kernel_rfl)

theorem u_prime_least (a1 : Int) (h : AH) : go (.fn F.prime_least [.int .u64 a1]) h =
  newK h (.cells [.int .u64 a1] T.uint64) fun h2r h2 =>
  newK h2 (.cells [.int .u64 0] T.uint64) fun h3r h3 =>
  ((h3.cell h2r).bind (AV.asInt .u64)).bind fun n4 =>
  (go (.fn F.prime_divisors [.int .u64 n4]) h3).bind fun q5 =>
  go (.pt F.prime_least Tr.prime_least_0 [(0, .int .u64 a1), (1, .ptr (some h2r)), (2, .ptr (some h3r)), (4, .int .u64 n4), (5, q5.1)]) q5.2 := (go_step _ h).trans (by kernel_rfl)

theorem u_slices_Clone_api_Nat_uint64 (a1 : Sl) (h : AH) : go (.fn F.slices_Clone_api_Nat_uint64 [a1.v]) h =
  cond a1.ref.isNone (
  some ((⟨none, 0, .is 0⟩ : Sl).v, h)) (
  newK h (.cells [] T.uint64) fun h2r h2 =>
  (appendArgs Pg T.uint64 a1.v h2).bind fun p4 =>
  (appendH Pg (⟨some h2r, 0, .is 0⟩ : Sl) p4.1 p4.2 T.uint64 1 h2).bind fun q3 =>
  (AV.asSl q3.1).bind fun l5 =>
  some (l5.v, q3.2)) := (go_step _ h).trans (by kernel_rfl)

theorem p_modint_Gcd_4 (a1 : Sl) (a2 : Sl) (h : AH) : go (.pt F.modint_Gcd Td.modint_Gcd_4 [(0, a1.v), (1, a2.v)]) h =
  cond (decide ((a2.len : Int) > 0)) (
  (go (.fn F.nat_Div [a1.v, a2.v]) h).bind fun q3 =>
  (AV.asTup3 q3.1).bind fun p4 =>
  ((some p4.1).bind AV.asSl).bind fun l5 =>
  ((some p4.2.1).bind AV.asSl).bind fun l6 =>
  ((some p4.2.2).bind (AV.asInt .i64)).bind fun n7 =>
  go (.pt F.modint_Gcd Td.modint_Gcd_4 [(0, a2.v), (1, l6.v)]) q3.2) (
  some (.tup [a1.v, .int .i64 0], h)) := (go_step _ h).trans (by kernel_rfl)

theorem u_nat_compare (a1 : Sl) (a2 : Sl) (h : AH) : go (.fn F.nat_compare [a1.v, a2.v]) h =
  cond (!decide ((a1.len : Int) = (a2.len : Int))) (
  cond (decide ((a1.len : Int) < (a2.len : Int))) (
  some (.int .i64 (-1), h)) (
  some (.int .i64 1, h))) (
  go (.pt F.nat_compare Td.nat_compare_6 [(0, a1.v), (1, a2.v), (5, .int .i64 (IntKind.wrap .i64 ((a1.len : Int) - 1)))]) h) := (go_step _ h).trans (by kernel_rfl)

theorem u_slices_ContainsFunc_api_Nat_api_Nat__nat_right_1 (a1 : Sl) (h : AH) : go (.fn F.slices_ContainsFunc_api_Nat_api_Nat [a1.v, .func (.func F.nat_right_1) [] []]) h =
  (go (.fn F.slices_IndexFunc_api_Nat_api_Nat [a1.v, .func (.func F.nat_right_1) [] []]) h).bind fun q2 =>
  ((some q2.1).bind (AV.asInt .i64)).bind fun n3 =>
  some (.bool (decide (n3 ≥ 0)), q2.2) := (go_step _ h).trans (by kernel_rfl)

theorem p_mont_New_5 (a1 : Sl) (a2 : Int) (a3 : Int) (h : AH) : go (.pt F.mont_New Td.mont_New_5 [(0, a1.v), (4, .int .u64 a2), (40, .int .i64 a3)]) h =
  cond (decide (a3 < 6)) (
  (idx a1.ref a1.len 0 1).bind fun r4 =>
  ((h.cell r4).bind (AV.asInt .u64)).bind fun n5 =>
  go (.pt F.mont_New Td.mont_New_5 [(0, a1.v), (4, .int .u64 (IntKind.wrap .u64 (a2 * (IntKind.wrap .u64 (2 - (IntKind.wrap .u64 (n5 * a2))))))), (40, .int .i64 (IntKind.wrap .i64 (a3 + 1)))]) h) (
  (go (.fn F.slices_Clone_api_Nat_uint64 [a1.v]) h).bind fun q6 =>
  ((some q6.1).bind AV.asSl).bind fun l7 =>
  newK q6.2 (.cells [l7.v, .int .u64 (IntKind.wrap .u64 (0 - a2)), (⟨none, 0, .is 0⟩ : Sl).v, (⟨none, 0, .is 0⟩ : Sl).v] T.mont_Ring) fun h8r h8 =>
  (go (.fn F.mont_Ring_rest [.ptr (some h8r), .int .i64 1]) h8).bind fun q9 =>
  ((some q9.1).bind AV.asSl).bind fun l10 =>
  (q9.2.puts (h8r.add 2) [l10.v]).bind fun h11 =>
  (go (.fn F.mont_Ring_rest [.ptr (some h8r), .int .i64 2]) h11).bind fun q12 =>
  ((some q12.1).bind AV.asSl).bind fun l13 =>
  (q12.2.puts (h8r.add 3) [l13.v]).bind fun h14 =>
  some (.tup [.ptr (some h8r), .int .i64 0], h14)) := (go_step _ h).trans (by kernel_rfl)

theorem u_mont_Ring_below (a1 : Option Ref) (a2 : Sl) (h : AH) : go (.fn F.mont_Ring_below [.ptr a1, a2.v]) h =
  newK h (.cells [.ptr a1] T.P_mont_Ring) fun h3r h3 =>
  (go (.fn F.slices_ContainsFunc_api_Nat_api_Nat [a2.v, .func (.func F.mont_Ring_below_1) [] [.ptr (some h3r)]]) h3).bind fun q4 =>
  ((some q4.1).bind AV.asBool).bind fun b5 =>
  some (.bool (!b5), q4.2) := (go_step _ h).trans (by kernel_rfl)

theorem u_mont_Ring_product (a1 : Option Ref) (a2 : Sl) (a3 : Sl) (h : AH) : go (.fn F.mont_Ring_product [.ptr a1, a2.v, a3.v]) h =
  a1.bind fun r4 =>
  ((h.cell (r4.add 0)).bind AV.asSl).bind fun l5 =>
  (makeSliceH (IntKind.wrap .i64 ((l5.len : Int) + 2)) (IntKind.wrap .i64 ((l5.len : Int) + 2)) T.uint64 (Pg.bytesOf T.uint64) [.int .u64 0] h).bind fun q6 =>
  go (.pt F.mont_Ring_product Td.mont_Ring_product_4 [(0, .ptr a1), (1, a2.v), (2, a3.v), (7, .int .i64 (l5.len : Int)), (8, q6.1.v), (20, .int .i64 (l5.len : Int)), (21, .int .i64 0)]) q6.2 := (go_step _ h).trans (by kernel_rfl)

theorem p_mont_Ring_Exp_7__mont_Ring_product (a1 : Option Ref) (a2 : Sl) (a3 : Option Ref) (a4 : Sl) (a5 : Sl) (a6 : Int) (h : AH) : go (.pt F.mont_Ring_Exp Td.mont_Ring_Exp_7 [(0, .ptr a1), (2, a2.v), (8, .func (.func F.mont_Ring_product) [.ptr a3] []), (9, a4.v), (10, a5.v), (44, .int .i64 a6)]) h =
  cond (decide (a6 < 15)) (
  (idx a4.ref a4.len (IntKind.wrap .i64 ((a4.len : Int) - 1)) 1).bind fun r7 =>
  ((h.cell r7).bind AV.asSl).bind fun l8 =>
  (go (.fn F.mont_Ring_product [.ptr a3, l8.v, a5.v]) h).bind fun q9 =>
  ((some q9.1).bind AV.asSl).bind fun l10 =>
  newK q9.2 (.cells [l10.v] T.api_Nat) fun h11r h11 =>
  (appendArgs Pg T.api_Nat ((⟨some h11r, 1, .is 1⟩ : Sl).v) h11).bind fun p13 =>
  (appendH Pg a4 p13.1 p13.2 T.api_Nat 1 h11).bind fun q12 =>
  (AV.asSl q12.1).bind fun l14 =>
  go (.pt F.mont_Ring_Exp Td.mont_Ring_Exp_7 [(0, .ptr a1), (2, a2.v), (8, .func (.func F.mont_Ring_product) [.ptr a3] []), (9, l14.v), (10, a5.v), (44, .int .i64 (IntKind.wrap .i64 (a6 + 1)))]) q12.2) (
  a1.bind fun r15 =>
  ((h.cell (r15.add 2)).bind AV.asSl).bind fun l16 =>
  (go (.fn F.nat_Bits [a2.v]) h).bind fun q17 =>
  ((some q17.1).bind (AV.asInt .i64)).bind fun n18 =>
  go (.pt F.mont_Ring_Exp Td.mont_Ring_Exp_12 [(2, a2.v), (8, .func (.func F.mont_Ring_product) [.ptr a3] []), (9, a4.v), (11, l16.v), (12, .int .i64 (IntKind.wrap .i64 (Int.tdiv (IntKind.wrap .i64 ((IntKind.wrap .i64 (n18 + 4)) - 1)) 4)))]) q17.2) := (go_step _ h).trans (by kernel_rfl)

theorem u_nat_short (a1 : Sl) (a2 : Int) (h : AH) : go (.fn F.nat_short [a1.v, .int .u64 a2]) h =
  (makeSliceH (a1.len : Int) (a1.len : Int) T.uint64 (Pg.bytesOf T.uint64) [.int .u64 0] h).bind fun q3 =>
  go (.pt F.nat_short Td.nat_short_4 [(0, a1.v), (1, .int .u64 a2), (6, q3.1.v), (7, .int .u64 0), (8, .int .i64 (IntKind.wrap .i64 ((a1.len : Int) - 1)))]) q3.2 := (go_step _ h).trans (by kernel_rfl)

theorem u_nat_Of (a1 : Int) (h : AH) : go (.fn F.nat_Of [.int .u64 a1]) h =
  newK h (.cells [.int .u64 a1] T.uint64) fun h2r h2 =>
  (go (.fn F.nat_trim [(⟨some h2r, 1, .is 1⟩ : Sl).v]) h2).bind fun q3 =>
  ((some q3.1).bind AV.asSl).bind fun l4 =>
  some (l4.v, q3.2) := (go_step _ h).trans (by kernel_rfl)

theorem u_nat_long (a1 : Sl) (a2 : Sl) (h : AH) : go (.fn F.nat_long [a1.v, a2.v]) h =
  (idx a2.ref a2.len (IntKind.wrap .i64 ((a2.len : Int) - 1)) 1).bind fun r3 =>
  ((h.cell r3).bind (AV.asInt .u64)).bind fun n4 =>
  (go (.fn F.math_bits_LeadingZeros64 [.int .u64 n4]) h).bind fun q5 =>
  ((some q5.1).bind (AV.asInt .i64)).bind fun n6 =>
  (go (.fn F.nat_up [a1.v, .int .u64 (IntKind.wrap .u64 n6)]) q5.2).bind fun q7 =>
  ((some q7.1).bind AV.asSl).bind fun l8 =>
  (go (.fn F.nat_up [a2.v, .int .u64 (IntKind.wrap .u64 n6)]) q7.2).bind fun q9 =>
  ((some q9.1).bind AV.asSl).bind fun l10 =>
  (go (.fn F.nat_trim [l10.v]) q9.2).bind fun q11 =>
  ((some q11.1).bind AV.asSl).bind fun l12 =>
  (makeSliceH (IntKind.wrap .i64 ((l8.len : Int) - (l12.len : Int))) (IntKind.wrap .i64 ((l8.len : Int) - (l12.len : Int))) T.uint64 (Pg.bytesOf T.uint64) [.int .u64 0] q11.2).bind fun q13 =>
  go (.pt F.nat_long Td.nat_long_6 [(6, .int .u64 (IntKind.wrap .u64 n6)), (7, l8.v), (8, l12.v), (9, .int .i64 (l12.len : Int)), (10, q13.1.v), (11, .int .i64 (IntKind.wrap .i64 ((q13.1.len : Int) - 1)))]) q13.2 := (go_step _ h).trans (by kernel_rfl)

theorem u_nat_Sub (a1 : Sl) (a2 : Sl) (h : AH) : go (.fn F.nat_Sub [a1.v, a2.v]) h =
  newK h (.cells [a1.v, a2.v] T.api_Nat) fun h3r h3 =>
  (go (.fn F.nat_right [(⟨some h3r, 2, .is 2⟩ : Sl).v]) h3).bind fun q4 =>
  ((some q4.1).bind AV.asBool).bind fun b5 =>
  cond (!b5) (
  some (.tup [(⟨none, 0, .is 0⟩ : Sl).v, .int .i64 1], q4.2)) (
  (go (.fn F.nat_compare [a1.v, a2.v]) q4.2).bind fun q6 =>
  ((some q6.1).bind (AV.asInt .i64)).bind fun n7 =>
  cond (decide (n7 < 0)) (
  some (.tup [(⟨none, 0, .is 0⟩ : Sl).v, .int .i64 2], q6.2)) (
  (go (.fn F.nat_less [a1.v, a2.v]) q6.2).bind fun q8 =>
  ((some q8.1).bind AV.asSl).bind fun l9 =>
  (go (.fn F.nat_told [l9.v]) q8.2).bind fun q10 =>
  (AV.asTup2 q10.1).bind fun p11 =>
  ((some p11.1).bind AV.asSl).bind fun l12 =>
  ((some p11.2).bind (AV.asInt .i64)).bind fun n13 =>
  some (.tup [l12.v, .int .i64 n13], q10.2))) := (go_step _ h).trans (by kernel_rfl)

theorem u_modint_Of (a1 : Int) (h : AH) : go (.fn F.modint_Of [.int .i64 a1]) h =
  newK h (.cells [.bool false, (⟨none, 0, .is 0⟩ : Sl).v] T.api_Int) fun h2r h2 =>
  cond (decide (a1 < 0)) (
  (go (.fn F.nat_Of [.int .u64 (IntKind.wrap .u64 (0 - (IntKind.wrap .u64 a1)))]) h2).bind fun q3 =>
  ((some q3.1).bind AV.asSl).bind fun l4 =>
  (go (.fn F.modint_From [.bool true, l4.v]) q3.2).bind fun q5 =>
  (AV.asAgg q5.1).bind fun cs6 =>
  cond (Nat.beq cs6.length 2) (
  ((cs6[0]?).bind AV.asBool).bind fun b7 =>
  ((cs6[1]?).bind AV.asSl).bind fun l8 =>
  (q5.2.puts h2r [.bool b7, l8.v]).bind fun h9 =>
  ((h9.cell (h2r.add 0)).bind AV.asBool).bind fun b10 =>
  ((h9.cell (h2r.add 1)).bind AV.asSl).bind fun l11 =>
  some (.agg [.bool b10, l11.v], h9)) none) (
  (go (.fn F.nat_Of [.int .u64 (IntKind.wrap .u64 a1)]) h2).bind fun q12 =>
  ((some q12.1).bind AV.asSl).bind fun l13 =>
  (go (.fn F.modint_From [.bool false, l13.v]) q12.2).bind fun q14 =>
  (AV.asAgg q14.1).bind fun cs15 =>
  cond (Nat.beq cs15.length 2) (
  ((cs15[0]?).bind AV.asBool).bind fun b16 =>
  ((cs15[1]?).bind AV.asSl).bind fun l17 =>
  (q14.2.puts h2r [.bool b16, l17.v]).bind fun h18 =>
  ((h18.cell (h2r.add 0)).bind AV.asBool).bind fun b19 =>
  ((h18.cell (h2r.add 1)).bind AV.asSl).bind fun l20 =>
  some (.agg [.bool b19, l20.v], h18)) none) := (go_step _ h).trans (by kernel_rfl)

theorem p_modint_Inverse_7__modint_Inverse_1 (a1 : Sl) (a2 : Ref) (a3 : Ref) (a4 : Ref) (a5 : Ref) (a6 : Ref) (a7 : Ref) (a8 : Ref) (h : AH) : go (.pt F.modint_Inverse Td.modint_Inverse_7 [(1, a1.v), (7, .ptr (some a2)), (9, .ptr (some a3)), (10, .ptr (some a4)), (12, .func (.func F.modint_Inverse_1) [] [.ptr (some a5), .ptr (some a6), .ptr (some a7), .ptr (some a8)])]) h =
  ((h.cell a2).bind AV.asSl).bind fun l9 =>
  cond (decide ((l9.len : Int) > 0)) (
  (go (.fn F.modint_Inverse_1 [.ptr (some a5), .ptr (some a6), .ptr (some a7), .ptr (some a8)]) h).bind fun q10 =>
  (AV.asTup0 q10.1).bind fun _ =>
  go (.pt F.modint_Inverse Td.modint_Inverse_7 [(1, a1.v), (7, .ptr (some a2)), (9, .ptr (some a3)), (10, .ptr (some a4)), (12, .func (.func F.modint_Inverse_1) [] [.ptr (some a5), .ptr (some a6), .ptr (some a7), .ptr (some a8)])]) q10.2) (
  ((h.cell a3).bind AV.asSl).bind fun l11 =>
  newK h (.cells [.int .u64 1] T.uint64) fun h12r h12 =>
  (go (.fn F.nat_Cmp [l11.v, (⟨some h12r, 1, .is 1⟩ : Sl).v]) h12).bind fun q13 =>
  ((some q13.1).bind (AV.asInt .i64)).bind fun n14 =>
  cond (!decide (n14 = 0)) (
  some (.tup [(⟨none, 0, .is 0⟩ : Sl).v, .int .i64 6], q13.2)) (
  newK q13.2 (.cells [.bool false, (⟨none, 0, .is 0⟩ : Sl).v] T.api_Int) fun h15r h15 =>
  newK h15 (.cells [.bool false, (⟨none, 0, .is 0⟩ : Sl).v] T.api_Int) fun h16r h16 =>
  ((h16.cell (a4.add 0)).bind AV.asBool).bind fun b17 =>
  ((h16.cell (a4.add 1)).bind AV.asSl).bind fun l18 =>
  (go (.fn F.modint_From [.bool false, a1.v]) h16).bind fun q19 =>
  (AV.asAgg q19.1).bind fun cs20 =>
  cond (Nat.beq cs20.length 2) (
  ((cs20[0]?).bind AV.asBool).bind fun b21 =>
  ((cs20[1]?).bind AV.asSl).bind fun l22 =>
  whenK (SameAt h16 q19.2 a4 2) (
  whenK (SameAt h16 q19.2 h16r 0) (
  whenK (SameAt h16 q19.2 h15r 0) (
  (go (.fn F.modint_Floor [.agg [.bool b17, l18.v], .agg [.bool b21, l22.v]]) q19.2).bind fun q23 =>
  (AV.asTup3 q23.1).bind fun p24 =>
  (AV.asAgg p24.1).bind fun cs25 =>
  cond (Nat.beq cs25.length 2) (
  ((cs25[0]?).bind AV.asBool).bind fun b26 =>
  ((cs25[1]?).bind AV.asSl).bind fun l27 =>
  (AV.asAgg p24.2.1).bind fun cs28 =>
  cond (Nat.beq cs28.length 2) (
  ((cs28[0]?).bind AV.asBool).bind fun b29 =>
  ((cs28[1]?).bind AV.asSl).bind fun l30 =>
  ((some p24.2.2).bind (AV.asInt .i64)).bind fun n31 =>
  whenK (SameAt q19.2 q23.2 h16r 0) (
  whenK (SameAt q19.2 q23.2 h15r 0) (
  (q23.2.puts h15r [.bool b26, l27.v]).bind fun h32 =>
  (h32.puts h16r [.bool b29, l30.v]).bind fun h33 =>
  ((h33.cell (h16r.add 1)).bind AV.asSl).bind fun l34 =>
  some (.tup [l34.v, .int .i64 n31], h33)))) none) none)))) none)) := (go_step _ h).trans (by kernel_rfl)

theorem u_modint_right (a1 : Sl) (h : AH) : go (.fn F.modint_right [a1.v]) h =
  (go (.fn F.slices_ContainsFunc_api_Int_api_Int [a1.v, .func (.func F.modint_right_1) [] []]) h).bind fun q2 =>
  ((some q2.1).bind AV.asBool).bind fun b3 =>
  some (.bool (!b3), q2.2) := (go_step _ h).trans (by kernel_rfl)

theorem u_modint_Neg (a1 : Bool) (a2 : Sl) (h : AH) : go (.fn F.modint_Neg [.agg [.bool a1, a2.v]]) h =
  newK h (.cells [.bool a1, a2.v] T.api_Int) fun h3r h3 =>
  newK h3 (.cells [.bool false, (⟨none, 0, .is 0⟩ : Sl).v] T.api_Int) fun h4r h4 =>
  ((h4.cell (h3r.add 0)).bind AV.asBool).bind fun b5 =>
  ((h4.cell (h3r.add 1)).bind AV.asSl).bind fun l6 =>
  (go (.fn F.modint_Right [.agg [.bool b5, l6.v]]) h4).bind fun q7 =>
  ((some q7.1).bind AV.asBool).bind fun b8 =>
  cond (!b8) (
  (q7.2.puts h4r [.bool false, (⟨none, 0, .is 0⟩ : Sl).v]).bind fun h9 =>
  ((h9.cell (h4r.add 0)).bind AV.asBool).bind fun b10 =>
  ((h9.cell (h4r.add 1)).bind AV.asSl).bind fun l11 =>
  some (.agg [.bool b10, l11.v], h9)) (
  ((q7.2.cell (h3r.add 0)).bind AV.asBool).bind fun b12 =>
  ((q7.2.cell (h3r.add 1)).bind AV.asSl).bind fun l13 =>
  (go (.fn F.modint_From [.bool (!b12), l13.v]) q7.2).bind fun q14 =>
  (AV.asAgg q14.1).bind fun cs15 =>
  cond (Nat.beq cs15.length 2) (
  ((cs15[0]?).bind AV.asBool).bind fun b16 =>
  ((cs15[1]?).bind AV.asSl).bind fun l17 =>
  (q14.2.puts h4r [.bool b16, l17.v]).bind fun h18 =>
  ((h18.cell (h4r.add 0)).bind AV.asBool).bind fun b19 =>
  ((h18.cell (h4r.add 1)).bind AV.asSl).bind fun l20 =>
  some (.agg [.bool b19, l20.v], h18)) none) := (go_step _ h).trans (by kernel_rfl)

theorem u_modint_Add (a1 : Bool) (a2 : Sl) (a3 : Bool) (a4 : Sl) (h : AH) : go (.fn F.modint_Add [.agg [.bool a1, a2.v], .agg [.bool a3, a4.v]]) h =
  newK h (.cells [.bool a1, a2.v] T.api_Int) fun h5r h5 =>
  newK h5 (.cells [.bool a3, a4.v] T.api_Int) fun h6r h6 =>
  newK h6 (.cells [.bool false, (⟨none, 0, .is 0⟩ : Sl).v] T.api_Int) fun h7r h7 =>
  ((h7.cell (h5r.add 0)).bind AV.asBool).bind fun b8 =>
  ((h7.cell (h5r.add 1)).bind AV.asSl).bind fun l9 =>
  ((h7.cell (h6r.add 0)).bind AV.asBool).bind fun b10 =>
  ((h7.cell (h6r.add 1)).bind AV.asSl).bind fun l11 =>
  newK h7 (.cells [.bool b8, l9.v, .bool b10, l11.v] T.api_Int) fun h12r h12 =>
  (go (.fn F.modint_right [(⟨some h12r, 2, .is 2⟩ : Sl).v]) h12).bind fun q13 =>
  ((some q13.1).bind AV.asBool).bind fun b14 =>
  cond (!b14) (
  (q13.2.puts h7r [.bool false, (⟨none, 0, .is 0⟩ : Sl).v]).bind fun h15 =>
  ((h15.cell (h7r.add 0)).bind AV.asBool).bind fun b16 =>
  ((h15.cell (h7r.add 1)).bind AV.asSl).bind fun l17 =>
  some (.tup [.agg [.bool b16, l17.v], .int .i64 1], h15)) (
  ((q13.2.cell (h5r.add 0)).bind AV.asBool).bind fun b18 =>
  ((q13.2.cell (h6r.add 0)).bind AV.asBool).bind fun b19 =>
  cond (b18 == b19) (
  ((q13.2.cell (h5r.add 1)).bind AV.asSl).bind fun l20 =>
  ((q13.2.cell (h6r.add 1)).bind AV.asSl).bind fun l21 =>
  (go (.fn F.nat_Add [l20.v, l21.v]) q13.2).bind fun q22 =>
  (AV.asTup2 q22.1).bind fun p23 =>
  ((some p23.1).bind AV.asSl).bind fun l24 =>
  ((some p23.2).bind (AV.asInt .i64)).bind fun n25 =>
  ((q22.2.cell (h5r.add 0)).bind AV.asBool).bind fun b26 =>
  (go (.fn F.modint_From [.bool b26, l24.v]) q22.2).bind fun q27 =>
  (AV.asAgg q27.1).bind fun cs28 =>
  cond (Nat.beq cs28.length 2) (
  ((cs28[0]?).bind AV.asBool).bind fun b29 =>
  ((cs28[1]?).bind AV.asSl).bind fun l30 =>
  (q27.2.puts h7r [.bool b29, l30.v]).bind fun h31 =>
  ((h31.cell (h7r.add 0)).bind AV.asBool).bind fun b32 =>
  ((h31.cell (h7r.add 1)).bind AV.asSl).bind fun l33 =>
  some (.tup [.agg [.bool b32, l33.v], .int .i64 n25], h31)) none) (
  ((q13.2.cell (h5r.add 1)).bind AV.asSl).bind fun l34 =>
  ((q13.2.cell (h6r.add 1)).bind AV.asSl).bind fun l35 =>
  (go (.fn F.nat_Cmp [l34.v, l35.v]) q13.2).bind fun q36 =>
  ((some q36.1).bind (AV.asInt .i64)).bind fun n37 =>
  cond (decide (n37 < 0)) (
  ((q36.2.cell (h6r.add 0)).bind AV.asBool).bind fun b38 =>
  ((q36.2.cell (h6r.add 1)).bind AV.asSl).bind fun l39 =>
  ((q36.2.cell (h5r.add 0)).bind AV.asBool).bind fun b40 =>
  ((q36.2.cell (h5r.add 1)).bind AV.asSl).bind fun l41 =>
  (q36.2.puts h5r [.bool b38, l39.v]).bind fun h42 =>
  (h42.puts h6r [.bool b40, l41.v]).bind fun h43 =>
  ((h43.cell (h5r.add 1)).bind AV.asSl).bind fun l44 =>
  ((h43.cell (h6r.add 1)).bind AV.asSl).bind fun l45 =>
  (go (.fn F.nat_Sub [l44.v, l45.v]) h43).bind fun q46 =>
  (AV.asTup2 q46.1).bind fun p47 =>
  ((some p47.1).bind AV.asSl).bind fun l48 =>
  ((some p47.2).bind (AV.asInt .i64)).bind fun n49 =>
  ((q46.2.cell (h5r.add 0)).bind AV.asBool).bind fun b50 =>
  (go (.fn F.modint_From [.bool b50, l48.v]) q46.2).bind fun q51 =>
  (AV.asAgg q51.1).bind fun cs52 =>
  cond (Nat.beq cs52.length 2) (
  ((cs52[0]?).bind AV.asBool).bind fun b53 =>
  ((cs52[1]?).bind AV.asSl).bind fun l54 =>
  (q51.2.puts h7r [.bool b53, l54.v]).bind fun h55 =>
  ((h55.cell (h7r.add 0)).bind AV.asBool).bind fun b56 =>
  ((h55.cell (h7r.add 1)).bind AV.asSl).bind fun l57 =>
  some (.tup [.agg [.bool b56, l57.v], .int .i64 n49], h55)) none) (
  ((q36.2.cell (h5r.add 1)).bind AV.asSl).bind fun l58 =>
  ((q36.2.cell (h6r.add 1)).bind AV.asSl).bind fun l59 =>
  (go (.fn F.nat_Sub [l58.v, l59.v]) q36.2).bind fun q60 =>
  (AV.asTup2 q60.1).bind fun p61 =>
  ((some p61.1).bind AV.asSl).bind fun l62 =>
  ((some p61.2).bind (AV.asInt .i64)).bind fun n63 =>
  ((q60.2.cell (h5r.add 0)).bind AV.asBool).bind fun b64 =>
  (go (.fn F.modint_From [.bool b64, l62.v]) q60.2).bind fun q65 =>
  (AV.asAgg q65.1).bind fun cs66 =>
  cond (Nat.beq cs66.length 2) (
  ((cs66[0]?).bind AV.asBool).bind fun b67 =>
  ((cs66[1]?).bind AV.asSl).bind fun l68 =>
  (q65.2.puts h7r [.bool b67, l68.v]).bind fun h69 =>
  ((h69.cell (h7r.add 0)).bind AV.asBool).bind fun b70 =>
  ((h69.cell (h7r.add 1)).bind AV.asSl).bind fun l71 =>
  some (.tup [.agg [.bool b70, l71.v], .int .i64 n63], h69)) none))) := (go_step _ h).trans (by kernel_rfl)

theorem u_math_bits_Mul64 (a1 : Int) (a2 : Int) (h : AH) : go (.fn F.math_bits_Mul64 [.int .u64 a1, .int .u64 a2]) h =
  some (.tup [.int .u64 (IntKind.wrap .u64 ((IntKind.wrap .u64 ((IntKind.wrap .u64 ((ishr .u64 a1 32) * (ishr .u64 a2 32))) + (ishr .u64 (IntKind.wrap .u64 ((IntKind.wrap .u64 ((ishr .u64 a1 32) * (iand .u64 a2 4294967295))) + (ishr .u64 (IntKind.wrap .u64 ((iand .u64 a1 4294967295) * (iand .u64 a2 4294967295))) 32))) 32))) + (ishr .u64 (IntKind.wrap .u64 ((iand .u64 (IntKind.wrap .u64 ((IntKind.wrap .u64 ((ishr .u64 a1 32) * (iand .u64 a2 4294967295))) + (ishr .u64 (IntKind.wrap .u64 ((iand .u64 a1 4294967295) * (iand .u64 a2 4294967295))) 32))) 4294967295) + (IntKind.wrap .u64 ((iand .u64 a1 4294967295) * (ishr .u64 a2 32))))) 32))), .int .u64 (IntKind.wrap .u64 (a1 * a2))], h) := (go_step _ h).trans (by kernel_rfl)

theorem u_prime_divisors (a1 : Int) (h : AH) : go (.fn F.prime_divisors [.int .u64 a1]) h =
  newK h (.cells [.int .u64 a1] T.uint64) fun h2r h2 =>
  some (.func (.func F.prime_divisors_1) [] [.ptr (some h2r)], h2) := (go_step _ h).trans (by kernel_rfl)

theorem l_prime_least_0 (a1 : Int) (a2 : Ref) (a3 : Ref) (a4 : Int) (a5 : AV) (h : AH) : go (.pt F.prime_least Tr.prime_least_0 [(0, .int .u64 a1), (1, .ptr (some a2)), (2, .ptr (some a3)), (4, .int .u64 a4), (5, a5)]) h =
  funcK a5 fun g10 f11 c12 =>
  newM h (loopBlk Try.f37 F.prime_least 0 .ready none [(0, .int .u64 a1), (1, .ptr (some a2)), (2, .ptr (some a3)), (4, .int .u64 a4), (5, a5)]) fun m6 h7 =>
  (callF Pg go g10 (f11 ++ [.func (.yield m6) [] []] ++ c12) h7).bind fun q8 =>
  (endLoopA m6 q8.2).bind fun p9 =>
  go (.pt F.prime_least ((p9.1.map Item.code).toList ++ Ta.prime_least_0) [(0, .int .u64 a1), (1, .ptr (some a2)), (2, .ptr (some a3)), (4, .int .u64 a4), (5, a5)]) p9.2 := (go_step _ h).trans (by kernel_rfl)

theorem p_nat_compare_6 (a1 : Sl) (a2 : Sl) (a3 : Int) (h : AH) : go (.pt F.nat_compare Td.nat_compare_6 [(0, a1.v), (1, a2.v), (5, .int .i64 a3)]) h =
  cond (decide (a3 ≥ 0)) (
  (idx a1.ref a1.len a3 1).bind fun r4 =>
  ((h.cell r4).bind (AV.asInt .u64)).bind fun n5 =>
  (idx a2.ref a2.len a3 1).bind fun r6 =>
  ((h.cell r6).bind (AV.asInt .u64)).bind fun n7 =>
  cond (!decide (n5 = n7)) (
  (idx a1.ref a1.len a3 1).bind fun r8 =>
  ((h.cell r8).bind (AV.asInt .u64)).bind fun n9 =>
  (idx a2.ref a2.len a3 1).bind fun r10 =>
  ((h.cell r10).bind (AV.asInt .u64)).bind fun n11 =>
  cond (decide (n9 < n11)) (
  some (.int .i64 (-1), h)) (
  some (.int .i64 1, h))) (
  go (.pt F.nat_compare Td.nat_compare_6 [(0, a1.v), (1, a2.v), (5, .int .i64 (IntKind.wrap .i64 (a3 - 1)))]) h)) (
  some (.int .i64 0, h)) := (go_step _ h).trans (by kernel_rfl)

theorem u_slices_IndexFunc_api_Nat_api_Nat__nat_right_1 (a1 : Sl) (h : AH) : go (.fn F.slices_IndexFunc_api_Nat_api_Nat [a1.v, .func (.func F.nat_right_1) [] []]) h =
  go (.pt F.slices_IndexFunc_api_Nat_api_Nat Td.slices_IndexFunc_api_Nat_api_Nat_2 [(0, a1.v), (1, .func (.func F.nat_right_1) [] []), (7, .int .i64 (a1.len : Int)), (8, .int .i64 0)]) h := (go_step _ h).trans (by kernel_rfl)

theorem u_mont_Ring_rest (a1 : Option Ref) (a2 : Int) (h : AH) : go (.fn F.mont_Ring_rest [.ptr a1, .int .i64 a2]) h =
  a1.bind fun r3 =>
  ((h.cell (r3.add 0)).bind AV.asSl).bind fun l4 =>
  (makeSliceH (IntKind.wrap .i64 ((IntKind.wrap .i64 (a2 * (l4.len : Int))) + 1)) (IntKind.wrap .i64 ((IntKind.wrap .i64 (a2 * (l4.len : Int))) + 1)) T.uint64 (Pg.bytesOf T.uint64) [.int .u64 0] h).bind fun q5 =>
  a1.bind fun r6 =>
  ((q5.2.cell (r6.add 0)).bind AV.asSl).bind fun l7 =>
  (idx q5.1.ref q5.1.len (IntKind.wrap .i64 (a2 * (l7.len : Int))) 1).bind fun r8 =>
  (q5.2.puts r8 [.int .u64 1]).bind fun h9 =>
  a1.bind fun r10 =>
  ((h9.cell (r10.add 0)).bind AV.asSl).bind fun l11 =>
  (go (.fn F.nat_Div [q5.1.v, l11.v]) h9).bind fun q12 =>
  (AV.asTup3 q12.1).bind fun p13 =>
  ((some p13.1).bind AV.asSl).bind fun l14 =>
  ((some p13.2.1).bind AV.asSl).bind fun l15 =>
  ((some p13.2.2).bind (AV.asInt .i64)).bind fun n16 =>
  some (l15.v, q12.2) := (go_step _ h).trans (by kernel_rfl)

theorem u_slices_ContainsFunc_api_Nat_api_Nat__mont_Ring_below_1 (a1 : Sl) (a2 : Option Ref) (h : AH) : go (.fn F.slices_ContainsFunc_api_Nat_api_Nat [a1.v, .func (.func F.mont_Ring_below_1) [] [.ptr a2]]) h =
  (go (.fn F.slices_IndexFunc_api_Nat_api_Nat [a1.v, .func (.func F.mont_Ring_below_1) [] [.ptr a2]]) h).bind fun q3 =>
  ((some q3.1).bind (AV.asInt .i64)).bind fun n4 =>
  some (.bool (decide (n4 ≥ 0)), q3.2) := (go_step _ h).trans (by kernel_rfl)

theorem p_mont_Ring_product_4 (a1 : Option Ref) (a2 : Sl) (a3 : Sl) (a4 : Int) (a5 : Sl) (a6 : Int) (a7 : Int) (h : AH) : go (.pt F.mont_Ring_product Td.mont_Ring_product_4 [(0, .ptr a1), (1, a2.v), (2, a3.v), (7, .int .i64 a4), (8, a5.v), (20, .int .i64 a6), (21, .int .i64 a7)]) h =
  cond (decide (a7 < a6)) (
  cond (decide (a7 < (a2.len : Int))) (
  (idx a2.ref a2.len a7 1).bind fun r8 =>
  ((h.cell r8).bind (AV.asInt .u64)).bind fun n9 =>
  (go (.fn F.mont_add [a5.v, a3.v, .int .u64 n9]) h).bind fun q10 =>
  (AV.asTup0 q10.1).bind fun _ =>
  a1.bind fun r11 =>
  ((q10.2.cell (r11.add 0)).bind AV.asSl).bind fun l12 =>
  (idx a5.ref a5.len 0 1).bind fun r13 =>
  ((q10.2.cell r13).bind (AV.asInt .u64)).bind fun n14 =>
  a1.bind fun r15 =>
  ((q10.2.cell (r15.add 1)).bind (AV.asInt .u64)).bind fun n16 =>
  (go (.fn F.mont_add [a5.v, l12.v, .int .u64 (IntKind.wrap .u64 (n14 * n16))]) q10.2).bind fun q17 =>
  (AV.asTup0 q17.1).bind fun _ =>
  (cutSl a5 1 (a5.len : Int) 1).bind fun l18 =>
  (copyH l18 a5 1 q17.2).bind fun h19 =>
  (idx a5.ref a5.len (IntKind.wrap .i64 (a4 + 1)) 1).bind fun r20 =>
  (h19.puts r20 [.int .u64 0]).bind fun h21 =>
  go (.pt F.mont_Ring_product Td.mont_Ring_product_4 [(0, .ptr a1), (1, a2.v), (2, a3.v), (7, .int .i64 a4), (8, a5.v), (20, .int .i64 a6), (21, .int .i64 (IntKind.wrap .i64 (a7 + 1)))]) h21) (
  (go (.fn F.mont_add [a5.v, a3.v, .int .u64 0]) h).bind fun q22 =>
  (AV.asTup0 q22.1).bind fun _ =>
  a1.bind fun r23 =>
  ((q22.2.cell (r23.add 0)).bind AV.asSl).bind fun l24 =>
  (idx a5.ref a5.len 0 1).bind fun r25 =>
  ((q22.2.cell r25).bind (AV.asInt .u64)).bind fun n26 =>
  a1.bind fun r27 =>
  ((q22.2.cell (r27.add 1)).bind (AV.asInt .u64)).bind fun n28 =>
  (go (.fn F.mont_add [a5.v, l24.v, .int .u64 (IntKind.wrap .u64 (n26 * n28))]) q22.2).bind fun q29 =>
  (AV.asTup0 q29.1).bind fun _ =>
  (cutSl a5 1 (a5.len : Int) 1).bind fun l30 =>
  (copyH l30 a5 1 q29.2).bind fun h31 =>
  (idx a5.ref a5.len (IntKind.wrap .i64 (a4 + 1)) 1).bind fun r32 =>
  (h31.puts r32 [.int .u64 0]).bind fun h33 =>
  go (.pt F.mont_Ring_product Td.mont_Ring_product_4 [(0, .ptr a1), (1, a2.v), (2, a3.v), (7, .int .i64 a4), (8, a5.v), (20, .int .i64 a6), (21, .int .i64 (IntKind.wrap .i64 (a7 + 1)))]) h33)) (
  (go (.fn F.mont_trim [a5.v]) h).bind fun q34 =>
  ((some q34.1).bind AV.asSl).bind fun l35 =>
  a1.bind fun r36 =>
  ((q34.2.cell (r36.add 0)).bind AV.asSl).bind fun l37 =>
  (go (.fn F.nat_Cmp [l35.v, l37.v]) q34.2).bind fun q38 =>
  ((some q38.1).bind (AV.asInt .i64)).bind fun n39 =>
  cond (decide (n39 ≥ 0)) (
  a1.bind fun r40 =>
  ((q38.2.cell (r40.add 0)).bind AV.asSl).bind fun l41 =>
  (go (.fn F.nat_Sub [l35.v, l41.v]) q38.2).bind fun q42 =>
  (AV.asTup2 q42.1).bind fun p43 =>
  ((some p43.1).bind AV.asSl).bind fun l44 =>
  ((some p43.2).bind (AV.asInt .i64)).bind fun n45 =>
  some (l44.v, q42.2)) (
  some (l35.v, q38.2))) := (go_step _ h).trans (by kernel_rfl)

theorem p_mont_Ring_Exp_12__mont_Ring_product (a1 : Sl) (a2 : Option Ref) (a3 : Sl) (a4 : Sl) (a5 : Int) (h : AH) : go (.pt F.mont_Ring_Exp Td.mont_Ring_Exp_12 [(2, a1.v), (8, .func (.func F.mont_Ring_product) [.ptr a2] []), (9, a3.v), (11, a4.v), (12, .int .i64 a5)]) h =
  cond (decide (a5 > 0)) (
  go (.pt F.mont_Ring_Exp Td.mont_Ring_Exp_16 [(2, a1.v), (8, .func (.func F.mont_Ring_product) [.ptr a2] []), (9, a3.v), (11, a4.v), (12, .int .i64 a5), (13, .int .i64 0), (72, .int .i64 0)]) h) (
  newK h (.cells [.int .u64 1] T.uint64) fun h6r h6 =>
  (go (.fn F.mont_Ring_product [.ptr a2, a4.v, (⟨some h6r, 1, .is 1⟩ : Sl).v]) h6).bind fun q7 =>
  ((some q7.1).bind AV.asSl).bind fun l8 =>
  some (.tup [l8.v, .int .i64 0], q7.2)) := (go_step _ h).trans (by kernel_rfl)

theorem p_nat_short_4 (a1 : Sl) (a2 : Int) (a3 : Sl) (a4 : Int) (a5 : Int) (h : AH) : go (.pt F.nat_short Td.nat_short_4 [(0, a1.v), (1, .int .u64 a2), (6, a3.v), (7, .int .u64 a4), (8, .int .i64 a5)]) h =
  cond (decide (a5 ≥ 0)) (
  (idx a1.ref a1.len a5 1).bind fun r6 =>
  ((h.cell r6).bind (AV.asInt .u64)).bind fun n7 =>
  (go (.fn F.math_bits_Div64 [.int .u64 a4, .int .u64 n7, .int .u64 a2]) h).bind fun q8 =>
  (AV.asTup2 q8.1).bind fun p9 =>
  ((some p9.1).bind (AV.asInt .u64)).bind fun n10 =>
  ((some p9.2).bind (AV.asInt .u64)).bind fun n11 =>
  (idx a3.ref a3.len a5 1).bind fun r12 =>
  (q8.2.puts r12 [.int .u64 n10]).bind fun h13 =>
  go (.pt F.nat_short Td.nat_short_4 [(0, a1.v), (1, .int .u64 a2), (6, a3.v), (7, .int .u64 n11), (8, .int .i64 (IntKind.wrap .i64 (a5 - 1)))]) h13) (
  (go (.fn F.nat_trim [a3.v]) h).bind fun q14 =>
  ((some q14.1).bind AV.asSl).bind fun l15 =>
  some (.tup [l15.v, .int .u64 a4], q14.2)) := (go_step _ h).trans (by kernel_rfl)

theorem u_math_bits_LeadingZeros64 (a1 : Int) (h : AH) : go (.fn F.math_bits_LeadingZeros64 [.int .u64 a1]) h =
  (go (.fn F.math_bits_Len64 [.int .u64 a1]) h).bind fun q2 =>
  ((some q2.1).bind (AV.asInt .i64)).bind fun n3 =>
  some (.int .i64 (IntKind.wrap .i64 (64 - n3)), q2.2) := (go_step _ h).trans (by kernel_rfl)

theorem u_nat_up (a1 : Sl) (a2 : Int) (h : AH) : go (.fn F.nat_up [a1.v, .int .u64 a2]) h =
  (makeSliceH (IntKind.wrap .i64 ((a1.len : Int) + 1)) (IntKind.wrap .i64 ((a1.len : Int) + 1)) T.uint64 (Pg.bytesOf T.uint64) [.int .u64 0] h).bind fun q3 =>
  go (.pt F.nat_up Td.nat_up_3 [(1, .int .u64 a2), (5, q3.1.v), (12, a1.v), (13, .int .i64 (a1.len : Int)), (14, .int .i64 0)]) q3.2 := (go_step _ h).trans (by kernel_rfl)

theorem p_nat_long_6 (a1 : Int) (a2 : Sl) (a3 : Sl) (a4 : Int) (a5 : Sl) (a6 : Int) (h : AH) : go (.pt F.nat_long Td.nat_long_6 [(6, .int .u64 a1), (7, a2.v), (8, a3.v), (9, .int .i64 a4), (10, a5.v), (11, .int .i64 a6)]) h =
  cond (decide (a6 ≥ 0)) (
  (idx a2.ref a2.len (IntKind.wrap .i64 (a6 + a4)) 1).bind fun r7 =>
  ((h.cell r7).bind (AV.asInt .u64)).bind fun n8 =>
  (idx a2.ref a2.len (IntKind.wrap .i64 ((IntKind.wrap .i64 (a6 + a4)) - 1)) 1).bind fun r9 =>
  ((h.cell r9).bind (AV.asInt .u64)).bind fun n10 =>
  (idx a2.ref a2.len (IntKind.wrap .i64 ((IntKind.wrap .i64 (a6 + a4)) - 2)) 1).bind fun r11 =>
  ((h.cell r11).bind (AV.asInt .u64)).bind fun n12 =>
  (idx a3.ref a3.len (IntKind.wrap .i64 (a4 - 1)) 1).bind fun r13 =>
  ((h.cell r13).bind (AV.asInt .u64)).bind fun n14 =>
  (idx a3.ref a3.len (IntKind.wrap .i64 (a4 - 2)) 1).bind fun r15 =>
  ((h.cell r15).bind (AV.asInt .u64)).bind fun n16 =>
  (go (.fn F.nat_guess [.int .u64 n8, .int .u64 n10, .int .u64 n12, .int .u64 n14, .int .u64 n16]) h).bind fun q17 =>
  ((some q17.1).bind (AV.asInt .u64)).bind fun n18 =>
  (cutSl a2 a6 (IntKind.wrap .i64 ((IntKind.wrap .i64 (a6 + a4)) + 1)) 1).bind fun l19 =>
  go (.pt F.nat_long Td.nat_long_10 [(6, .int .u64 a1), (7, a2.v), (8, a3.v), (9, .int .i64 a4), (10, a5.v), (11, .int .i64 a6), (12, .int .u64 n18), (13, l19.v)]) q17.2) (
  (go (.fn F.nat_trim [a2.v]) h).bind fun q20 =>
  ((some q20.1).bind AV.asSl).bind fun l21 =>
  (makeSliceH (l21.len : Int) (l21.len : Int) T.uint64 (Pg.bytesOf T.uint64) [.int .u64 0] q20.2).bind fun q22 =>
  go (.pt F.nat_long Td.nat_long_18 [(6, .int .u64 a1), (10, a5.v), (15, l21.v), (16, q22.1.v), (112, .int .i64 (l21.len : Int)), (113, .int .i64 0)]) q22.2) := (go_step _ h).trans (by kernel_rfl)

theorem u_modint_Inverse_1 (a1 : Ref) (a2 : Ref) (a3 : Ref) (a4 : Ref) (h : AH) : go (.fn F.modint_Inverse_1 [.ptr (some a1), .ptr (some a2), .ptr (some a3), .ptr (some a4)]) h =
  ((h.cell a1).bind AV.asSl).bind fun l5 =>
  ((h.cell a2).bind AV.asSl).bind fun l6 =>
  (go (.fn F.nat_Div [l5.v, l6.v]) h).bind fun q7 =>
  (AV.asTup3 q7.1).bind fun p8 =>
  ((some p8.1).bind AV.asSl).bind fun l9 =>
  ((some p8.2.1).bind AV.asSl).bind fun l10 =>
  ((some p8.2.2).bind (AV.asInt .i64)).bind fun n11 =>
  newK q7.2 (.cells [.bool false, (⟨none, 0, .is 0⟩ : Sl).v] T.api_Int) fun h12r h12 =>
  ((h12.cell (a3.add 0)).bind AV.asBool).bind fun b13 =>
  ((h12.cell (a3.add 1)).bind AV.asSl).bind fun l14 =>
  (go (.fn F.modint_From [.bool false, l9.v]) h12).bind fun q15 =>
  (AV.asAgg q15.1).bind fun cs16 =>
  cond (Nat.beq cs16.length 2) (
  ((cs16[0]?).bind AV.asBool).bind fun b17 =>
  ((cs16[1]?).bind AV.asSl).bind fun l18 =>
  whenK (SameAt h12 q15.2 a3 2) (
  whenK (SameAt h12 q15.2 h12r 0) (
  (go (.fn F.modint_Mul [.agg [.bool b17, l18.v], .agg [.bool b13, l14.v]]) q15.2).bind fun q19 =>
  (AV.asTup2 q19.1).bind fun p20 =>
  (AV.asAgg p20.1).bind fun cs21 =>
  cond (Nat.beq cs21.length 2) (
  ((cs21[0]?).bind AV.asBool).bind fun b22 =>
  ((cs21[1]?).bind AV.asSl).bind fun l23 =>
  ((some p20.2).bind (AV.asInt .i64)).bind fun n24 =>
  whenK (SameAt q15.2 q19.2 h12r 0) (
  (q19.2.puts h12r [.bool b22, l23.v]).bind fun h25 =>
  ((h25.cell (a4.add 0)).bind AV.asBool).bind fun b26 =>
  ((h25.cell (a4.add 1)).bind AV.asSl).bind fun l27 =>
  ((h25.cell (h12r.add 0)).bind AV.asBool).bind fun b28 =>
  ((h25.cell (h12r.add 1)).bind AV.asSl).bind fun l29 =>
  (go (.fn F.modint_Sub [.agg [.bool b26, l27.v], .agg [.bool b28, l29.v]]) h25).bind fun q30 =>
  (AV.asTup2 q30.1).bind fun p31 =>
  (AV.asAgg p31.1).bind fun cs32 =>
  cond (Nat.beq cs32.length 2) (
  ((cs32[0]?).bind AV.asBool).bind fun b33 =>
  ((cs32[1]?).bind AV.asSl).bind fun l34 =>
  ((some p31.2).bind (AV.asInt .i64)).bind fun n35 =>
  newK q30.2 (.cells [.bool false, (⟨none, 0, .is 0⟩ : Sl).v] T.api_Int) fun h36r h36 =>
  (h36.puts h36r [.bool b33, l34.v]).bind fun h37 =>
  ((h37.cell a2).bind AV.asSl).bind fun l38 =>
  ((h37.cell (a3.add 0)).bind AV.asBool).bind fun b39 =>
  ((h37.cell (a3.add 1)).bind AV.asSl).bind fun l40 =>
  ((h37.cell (h36r.add 0)).bind AV.asBool).bind fun b41 =>
  ((h37.cell (h36r.add 1)).bind AV.asSl).bind fun l42 =>
  (h37.puts a1 [l38.v]).bind fun h43 =>
  whenK (SameAt h37 h43 h36r 2) (
  whenK (SameAt h37 h43 a3 2) (
  (h43.puts a2 [l10.v]).bind fun h44 =>
  whenK (SameAt h43 h44 h36r 2) (
  whenK (SameAt h43 h44 a3 2) (
  (h44.puts a4 [.bool b39, l40.v]).bind fun h45 =>
  whenK (SameAt h44 h45 h36r 2) (
  (h45.puts a3 [.bool b41, l42.v]).bind fun h46 =>
  some (.tup [], h46))))))) none)) none))) none := (go_step _ h).trans (by kernel_rfl)

theorem u_slices_ContainsFunc_api_Int_api_Int__modint_right_1 (a1 : Sl) (h : AH) : go (.fn F.slices_ContainsFunc_api_Int_api_Int [a1.v, .func (.func F.modint_right_1) [] []]) h =
  (go (.fn F.slices_IndexFunc_api_Int_api_Int [a1.v, .func (.func F.modint_right_1) [] []]) h).bind fun q2 =>
  ((some q2.1).bind (AV.asInt .i64)).bind fun n3 =>
  some (.bool (decide (n3 ≥ 0)), q2.2) := (go_step _ h).trans (by kernel_rfl)

theorem u_modint_Right (a1 : Bool) (a2 : Sl) (h : AH) : go (.fn F.modint_Right [.agg [.bool a1, a2.v]]) h =
  newK h (.cells [.bool a1, a2.v] T.api_Int) fun h3r h3 =>
  ((h3.cell (h3r.add 1)).bind AV.asSl).bind fun l4 =>
  (go (.fn F.nat_Right [l4.v]) h3).bind fun q5 =>
  ((some q5.1).bind AV.asBool).bind fun b6 =>
  cond b6 (
  ((q5.2.cell (h3r.add 0)).bind AV.asBool).bind fun b7 =>
  cond (!b7) (
  some (.bool true, q5.2)) (
  ((q5.2.cell (h3r.add 1)).bind AV.asSl).bind fun l8 =>
  some (.bool (decide ((l8.len : Int) > 0)), q5.2))) (
  some (.bool false, q5.2)) := (go_step _ h).trans (by kernel_rfl)

theorem r_prime_least_0 (l : Nat) (pe : Option Code) (a1 : Int) (a2 : Ref) (a3 : Ref) (a4 : Int) (a5 : AV) (a6 : Int) (h : AH) (hb : h.blks[l]? = some (loopBlk Try.f37 F.prime_least 0 .ready pe [(0, .int .u64 a1), (1, .ptr (some a2)), (2, .ptr (some a3)), (4, .int .u64 a4), (5, a5)])) : go (.round l [.int .u64 a6]) h =
  (beginA l h).bind fun h7 =>
  ((h7.cell a2).bind (AV.asInt .u64)).bind fun n8 =>
  cond (decide (a6 = 0)) none (
  cond (decide ((Int.tmod n8 a6) = 0)) (
  (h7.puts a3 [.int .u64 a6]).bind fun h9 =>
  endRoundA l (some .ret) h9) (
  endRoundA l none h7)) := (go_step _ h).trans ((stepA_round hb).trans (by kernel_rfl))

theorem a_prime_least_0_none (a1 : Int) (a2 : Ref) (a3 : Ref) (a4 : Int) (a5 : AV) (h : AH) : go (.pt F.prime_least ((Option.map Item.code none).toList ++ Ta.prime_least_0) [(0, .int .u64 a1), (1, .ptr (some a2)), (2, .ptr (some a3)), (4, .int .u64 a4), (5, a5)]) h =
  ((h.cell a2).bind (AV.asInt .u64)).bind fun n6 =>
  (h.puts a3 [.int .u64 n6]).bind fun h7 =>
  ((h7.cell a3).bind (AV.asInt .u64)).bind fun n8 =>
  some (.int .u64 n8, h7) := (go_step _ h).trans (by kernel_rfl)

theorem a_prime_least_0_ret (a1 : Int) (a2 : Ref) (a3 : Ref) (a4 : Int) (a5 : AV) (h : AH) : go (.pt F.prime_least ((Option.map Item.code (some .ret)).toList ++ Ta.prime_least_0) [(0, .int .u64 a1), (1, .ptr (some a2)), (2, .ptr (some a3)), (4, .int .u64 a4), (5, a5)]) h =
  ((h.cell a3).bind (AV.asInt .u64)).bind fun n6 =>
  some (.int .u64 n6, h) := (go_step _ h).trans (by kernel_rfl)

theorem p_slices_IndexFunc_api_Nat_api_Nat_2__nat_right_1 (a1 : Sl) (a2 : Int) (a3 : Int) (h : AH) : go (.pt F.slices_IndexFunc_api_Nat_api_Nat Td.slices_IndexFunc_api_Nat_api_Nat_2 [(0, a1.v), (1, .func (.func F.nat_right_1) [] []), (7, .int .i64 a2), (8, .int .i64 a3)]) h =
  cond (decide (a3 < a2)) (
  (idx a1.ref a1.len a3 1).bind fun r4 =>
  ((h.cell r4).bind AV.asSl).bind fun l5 =>
  (go (.fn F.nat_right_1 [l5.v]) h).bind fun q6 =>
  ((some q6.1).bind AV.asBool).bind fun b7 =>
  cond b7 (
  some (.int .i64 a3, q6.2)) (
  go (.pt F.slices_IndexFunc_api_Nat_api_Nat Td.slices_IndexFunc_api_Nat_api_Nat_2 [(0, a1.v), (1, .func (.func F.nat_right_1) [] []), (7, .int .i64 a2), (8, .int .i64 (IntKind.wrap .i64 (a3 + 1)))]) q6.2)) (
  some (.int .i64 (-1), h)) := (go_step _ h).trans (by kernel_rfl)

theorem u_slices_IndexFunc_api_Nat_api_Nat__mont_Ring_below_1 (a1 : Sl) (a2 : Option Ref) (h : AH) : go (.fn F.slices_IndexFunc_api_Nat_api_Nat [a1.v, .func (.func F.mont_Ring_below_1) [] [.ptr a2]]) h =
  go (.pt F.slices_IndexFunc_api_Nat_api_Nat Td.slices_IndexFunc_api_Nat_api_Nat_2 [(0, a1.v), (1, .func (.func F.mont_Ring_below_1) [] [.ptr a2]), (7, .int .i64 (a1.len : Int)), (8, .int .i64 0)]) h := (go_step _ h).trans (by kernel_rfl)

theorem u_mont_add (a1 : Sl) (a2 : Sl) (a3 : Int) (h : AH) : go (.fn F.mont_add [a1.v, a2.v, .int .u64 a3]) h =
  go (.pt F.mont_add Td.mont_add_2 [(0, a1.v), (1, a2.v), (2, .int .u64 a3), (6, .int .u64 0), (12, .int .i64 (a1.len : Int)), (13, .int .i64 0)]) h := (go_step _ h).trans (by kernel_rfl)

theorem u_mont_trim (a1 : Sl) (h : AH) : go (.fn F.mont_trim [a1.v]) h =
  go (.pt F.mont_trim Td.mont_trim_2 [(0, a1.v), (3, .int .i64 (a1.len : Int))]) h := (go_step _ h).trans (by kernel_rfl)

theorem p_mont_Ring_Exp_16__mont_Ring_product (a1 : Sl) (a2 : Option Ref) (a3 : Sl) (a4 : Sl) (a5 : Int) (a6 : Int) (a7 : Int) (h : AH) : go (.pt F.mont_Ring_Exp Td.mont_Ring_Exp_16 [(2, a1.v), (8, .func (.func F.mont_Ring_product) [.ptr a2] []), (9, a3.v), (11, a4.v), (12, .int .i64 a5), (13, .int .i64 a6), (72, .int .i64 a7)]) h =
  cond (decide (a7 < 4)) (
  (go (.fn F.mont_Ring_product [.ptr a2, a4.v, a4.v]) h).bind fun q8 =>
  ((some q8.1).bind AV.asSl).bind fun l9 =>
  (go (.fn F.nat_Bit [a1.v, .int .i64 (IntKind.wrap .i64 ((IntKind.wrap .i64 ((IntKind.wrap .i64 (a5 * 4)) - 1)) - a7))]) q8.2).bind fun q10 =>
  ((some q10.1).bind AV.asBool).bind fun b11 =>
  cond b11 (
  cond (decide ((IntKind.wrap .i64 (3 - a7)) < 0)) none (
  go (.pt F.mont_Ring_Exp Td.mont_Ring_Exp_16 [(2, a1.v), (8, .func (.func F.mont_Ring_product) [.ptr a2] []), (9, a3.v), (11, l9.v), (12, .int .i64 a5), (13, .int .i64 (ior .i64 a6 (ishl .i64 1 (IntKind.wrap .i64 (3 - a7))))), (72, .int .i64 (IntKind.wrap .i64 (a7 + 1)))]) q10.2)) (
  go (.pt F.mont_Ring_Exp Td.mont_Ring_Exp_16 [(2, a1.v), (8, .func (.func F.mont_Ring_product) [.ptr a2] []), (9, a3.v), (11, l9.v), (12, .int .i64 a5), (13, .int .i64 a6), (72, .int .i64 (IntKind.wrap .i64 (a7 + 1)))]) q10.2)) (
  (idx a3.ref a3.len a6 1).bind fun r12 =>
  ((h.cell r12).bind AV.asSl).bind fun l13 =>
  (go (.fn F.mont_Ring_product [.ptr a2, a4.v, l13.v]) h).bind fun q14 =>
  ((some q14.1).bind AV.asSl).bind fun l15 =>
  go (.pt F.mont_Ring_Exp Td.mont_Ring_Exp_12 [(2, a1.v), (8, .func (.func F.mont_Ring_product) [.ptr a2] []), (9, a3.v), (11, l15.v), (12, .int .i64 (IntKind.wrap .i64 (a5 - 1)))]) q14.2) := (go_step _ h).trans (by kernel_rfl)

theorem u_math_bits_Div64 (a1 : Int) (a2 : Int) (a3 : Int) (h : AH) : go (.fn F.math_bits_Div64 [.int .u64 a1, .int .u64 a2, .int .u64 a3]) h =
  cond (decide (a3 = 0)) (
  (h.cell (.old ⟨0, 0, none⟩)).bind fun v4 =>
  none) (
  go (.pt F.math_bits_Div64 Td.math_bits_Div64_3 [(0, .int .u64 a1), (1, .int .u64 a2), (2, .int .u64 a3)]) h) := (go_step _ h).trans (by kernel_rfl)

theorem p_nat_up_3 (a1 : Int) (a2 : Sl) (a3 : Sl) (a4 : Int) (a5 : Int) (h : AH) : go (.pt F.nat_up Td.nat_up_3 [(1, .int .u64 a1), (5, a2.v), (12, a3.v), (13, .int .i64 a4), (14, .int .i64 a5)]) h =
  cond (decide (a5 < a4)) (
  (idx a3.ref a3.len a5 1).bind fun r6 =>
  ((h.cell r6).bind (AV.asInt .u64)).bind fun n7 =>
  (idx a2.ref a2.len a5 1).bind fun r8 =>
  ((h.cell r8).bind (AV.asInt .u64)).bind fun n9 =>
  cond (decide (a1 < 0)) none (
  (idx a2.ref a2.len a5 1).bind fun r10 =>
  (h.puts r10 [.int .u64 (ior .u64 n9 (ishl .u64 n7 a1))]).bind fun h11 =>
  cond (decide (a1 > 0)) (
  cond (decide ((IntKind.wrap .u64 (64 - a1)) < 0)) none (
  (idx a2.ref a2.len (IntKind.wrap .i64 (a5 + 1)) 1).bind fun r12 =>
  (h11.puts r12 [.int .u64 (ishr .u64 n7 (IntKind.wrap .u64 (64 - a1)))]).bind fun h13 =>
  go (.pt F.nat_up Td.nat_up_3 [(1, .int .u64 a1), (5, a2.v), (12, a3.v), (13, .int .i64 a4), (14, .int .i64 (IntKind.wrap .i64 (a5 + 1)))]) h13)) (
  go (.pt F.nat_up Td.nat_up_3 [(1, .int .u64 a1), (5, a2.v), (12, a3.v), (13, .int .i64 a4), (14, .int .i64 (IntKind.wrap .i64 (a5 + 1)))]) h11))) (
  some (a2.v, h)) := (go_step _ h).trans (by kernel_rfl)

theorem u_nat_guess (a1 : Int) (a2 : Int) (a3 : Int) (a4 : Int) (a5 : Int) (h : AH) : go (.fn F.nat_guess [.int .u64 a1, .int .u64 a2, .int .u64 a3, .int .u64 a4, .int .u64 a5]) h =
  cond (decide (a1 ≥ a4)) (
  some (.int .u64 18446744073709551615, h)) (
  (go (.fn F.math_bits_Div64 [.int .u64 a1, .int .u64 a2, .int .u64 a4]) h).bind fun q6 =>
  (AV.asTup2 q6.1).bind fun p7 =>
  ((some p7.1).bind (AV.asInt .u64)).bind fun n8 =>
  ((some p7.2).bind (AV.asInt .u64)).bind fun n9 =>
  go (.pt F.nat_guess Td.nat_guess_4 [(2, .int .u64 a3), (3, .int .u64 a4), (4, .int .u64 a5), (11, .int .u64 n8), (12, .int .u64 n9)]) q6.2) := (go_step _ h).trans (by kernel_rfl)

theorem p_nat_long_10 (a1 : Int) (a2 : Sl) (a3 : Sl) (a4 : Int) (a5 : Sl) (a6 : Int) (a7 : Int) (a8 : Sl) (h : AH) : go (.pt F.nat_long Td.nat_long_10 [(6, .int .u64 a1), (7, a2.v), (8, a3.v), (9, .int .i64 a4), (10, a5.v), (11, .int .i64 a6), (12, .int .u64 a7), (13, a8.v)]) h =
  (go (.fn F.nat_Of [.int .u64 a7]) h).bind fun q9 =>
  ((some q9.1).bind AV.asSl).bind fun l10 =>
  (go (.fn F.nat_school [a3.v, l10.v]) q9.2).bind fun q11 =>
  ((some q11.1).bind AV.asSl).bind fun l12 =>
  (go (.fn F.slices_Clone_api_Nat_uint64 [a8.v]) q11.2).bind fun q13 =>
  ((some q13.1).bind AV.asSl).bind fun l14 =>
  (go (.fn F.nat_trim [l14.v]) q13.2).bind fun q15 =>
  ((some q15.1).bind AV.asSl).bind fun l16 =>
  (go (.fn F.nat_compare [l16.v, l12.v]) q15.2).bind fun q17 =>
  ((some q17.1).bind (AV.asInt .i64)).bind fun n18 =>
  cond (decide (n18 ≥ 0)) (
  (go (.fn F.nat_less [a8.v, l12.v]) q17.2).bind fun q19 =>
  ((some q19.1).bind AV.asSl).bind fun l20 =>
  (copyH l20 a8 1 q19.2).bind fun h21 =>
  (idx a5.ref a5.len a6 1).bind fun r22 =>
  (h21.puts r22 [.int .u64 a7]).bind fun h23 =>
  go (.pt F.nat_long Td.nat_long_6 [(6, .int .u64 a1), (7, a2.v), (8, a3.v), (9, .int .i64 a4), (10, a5.v), (11, .int .i64 (IntKind.wrap .i64 (a6 - 1)))]) h23) (
  go (.pt F.nat_long Td.nat_long_10 [(6, .int .u64 a1), (7, a2.v), (8, a3.v), (9, .int .i64 a4), (10, a5.v), (11, .int .i64 a6), (12, .int .u64 (IntKind.wrap .u64 (a7 - 1))), (13, a8.v)]) q17.2) := (go_step _ h).trans (by kernel_rfl)

theorem p_nat_long_18 (a1 : Int) (a2 : Sl) (a3 : Sl) (a4 : Sl) (a5 : Int) (a6 : Int) (h : AH) : go (.pt F.nat_long Td.nat_long_18 [(6, .int .u64 a1), (10, a2.v), (15, a3.v), (16, a4.v), (112, .int .i64 a5), (113, .int .i64 a6)]) h =
  cond (decide (a6 < a5)) (
  (idx a3.ref a3.len a6 1).bind fun r7 =>
  ((h.cell r7).bind (AV.asInt .u64)).bind fun n8 =>
  cond (decide (a1 < 0)) none (
  (idx a4.ref a4.len a6 1).bind fun r9 =>
  (h.puts r9 [.int .u64 (ishr .u64 n8 a1)]).bind fun h10 =>
  cond (decide (a1 > 0)) (
  cond (decide ((IntKind.wrap .i64 (a6 + 1)) < (a3.len : Int))) (
  (idx a4.ref a4.len a6 1).bind fun r11 =>
  ((h10.cell r11).bind (AV.asInt .u64)).bind fun n12 =>
  (idx a3.ref a3.len (IntKind.wrap .i64 (a6 + 1)) 1).bind fun r13 =>
  ((h10.cell r13).bind (AV.asInt .u64)).bind fun n14 =>
  cond (decide ((IntKind.wrap .u64 (64 - a1)) < 0)) none (
  (idx a4.ref a4.len a6 1).bind fun r15 =>
  (h10.puts r15 [.int .u64 (ior .u64 n12 (ishl .u64 n14 (IntKind.wrap .u64 (64 - a1))))]).bind fun h16 =>
  go (.pt F.nat_long Td.nat_long_18 [(6, .int .u64 a1), (10, a2.v), (15, a3.v), (16, a4.v), (112, .int .i64 a5), (113, .int .i64 (IntKind.wrap .i64 (a6 + 1)))]) h16)) (
  go (.pt F.nat_long Td.nat_long_18 [(6, .int .u64 a1), (10, a2.v), (15, a3.v), (16, a4.v), (112, .int .i64 a5), (113, .int .i64 (IntKind.wrap .i64 (a6 + 1)))]) h10)) (
  go (.pt F.nat_long Td.nat_long_18 [(6, .int .u64 a1), (10, a2.v), (15, a3.v), (16, a4.v), (112, .int .i64 a5), (113, .int .i64 (IntKind.wrap .i64 (a6 + 1)))]) h10))) (
  (go (.fn F.nat_trim [a2.v]) h).bind fun q17 =>
  ((some q17.1).bind AV.asSl).bind fun l18 =>
  (go (.fn F.nat_trim [a4.v]) q17.2).bind fun q19 =>
  ((some q19.1).bind AV.asSl).bind fun l20 =>
  some (.tup [l18.v, l20.v], q19.2)) := (go_step _ h).trans (by kernel_rfl)

theorem u_slices_IndexFunc_api_Int_api_Int__modint_right_1 (a1 : Sl) (h : AH) : go (.fn F.slices_IndexFunc_api_Int_api_Int [a1.v, .func (.func F.modint_right_1) [] []]) h =
  go (.pt F.slices_IndexFunc_api_Int_api_Int Td.slices_IndexFunc_api_Int_api_Int_2 [(0, a1.v), (1, .func (.func F.modint_right_1) [] []), (7, .int .i64 (a1.len : Int)), (8, .int .i64 0)]) h := (go_step _ h).trans (by kernel_rfl)

theorem u_nat_right_1 (a1 : Sl) (h : AH) : go (.fn F.nat_right_1 [a1.v]) h =
  (go (.fn F.nat_Right [a1.v]) h).bind fun q2 =>
  ((some q2.1).bind AV.asBool).bind fun b3 =>
  some (.bool (!b3), q2.2) := (go_step _ h).trans (by kernel_rfl)

theorem p_slices_IndexFunc_api_Nat_api_Nat_2__mont_Ring_below_1 (a1 : Sl) (a2 : Option Ref) (a3 : Int) (a4 : Int) (h : AH) : go (.pt F.slices_IndexFunc_api_Nat_api_Nat Td.slices_IndexFunc_api_Nat_api_Nat_2 [(0, a1.v), (1, .func (.func F.mont_Ring_below_1) [] [.ptr a2]), (7, .int .i64 a3), (8, .int .i64 a4)]) h =
  cond (decide (a4 < a3)) (
  (idx a1.ref a1.len a4 1).bind fun r5 =>
  ((h.cell r5).bind AV.asSl).bind fun l6 =>
  (go (.fn F.mont_Ring_below_1 [l6.v, .ptr a2]) h).bind fun q7 =>
  ((some q7.1).bind AV.asBool).bind fun b8 =>
  cond b8 (
  some (.int .i64 a4, q7.2)) (
  go (.pt F.slices_IndexFunc_api_Nat_api_Nat Td.slices_IndexFunc_api_Nat_api_Nat_2 [(0, a1.v), (1, .func (.func F.mont_Ring_below_1) [] [.ptr a2]), (7, .int .i64 a3), (8, .int .i64 (IntKind.wrap .i64 (a4 + 1)))]) q7.2)) (
  some (.int .i64 (-1), h)) := (go_step _ h).trans (by kernel_rfl)

theorem p_mont_add_2 (a1 : Sl) (a2 : Sl) (a3 : Int) (a4 : Int) (a5 : Int) (a6 : Int) (h : AH) : go (.pt F.mont_add Td.mont_add_2 [(0, a1.v), (1, a2.v), (2, .int .u64 a3), (6, .int .u64 a4), (12, .int .i64 a5), (13, .int .i64 a6)]) h =
  cond (decide (a6 < a5)) (
  cond (decide (a6 < (a2.len : Int))) (
  (idx a2.ref a2.len a6 1).bind fun r7 =>
  ((h.cell r7).bind (AV.asInt .u64)).bind fun n8 =>
  (go (.fn F.math_bits_Mul64 [.int .u64 n8, .int .u64 a3]) h).bind fun q9 =>
  (AV.asTup2 q9.1).bind fun p10 =>
  ((some p10.1).bind (AV.asInt .u64)).bind fun n11 =>
  ((some p10.2).bind (AV.asInt .u64)).bind fun n12 =>
  ((prim "math/bits.Add64" [.int .u64 n12, .int .u64 a4, .int .u64 0]).map fun v => (v, q9.2)).bind fun q13 =>
  (AV.asTup2 q13.1).bind fun p14 =>
  ((some p14.1).bind (AV.asInt .u64)).bind fun n15 =>
  ((some p14.2).bind (AV.asInt .u64)).bind fun n16 =>
  (idx a1.ref a1.len a6 1).bind fun r17 =>
  ((q13.2.cell r17).bind (AV.asInt .u64)).bind fun n18 =>
  ((prim "math/bits.Add64" [.int .u64 n18, .int .u64 n15, .int .u64 0]).map fun v => (v, q13.2)).bind fun q19 =>
  (AV.asTup2 q19.1).bind fun p20 =>
  ((some p20.1).bind (AV.asInt .u64)).bind fun n21 =>
  ((some p20.2).bind (AV.asInt .u64)).bind fun n22 =>
  (idx a1.ref a1.len a6 1).bind fun r23 =>
  (q19.2.puts r23 [.int .u64 n21]).bind fun h24 =>
  go (.pt F.mont_add Td.mont_add_2 [(0, a1.v), (1, a2.v), (2, .int .u64 a3), (6, .int .u64 (IntKind.wrap .u64 ((IntKind.wrap .u64 (n11 + n16)) + n22))), (12, .int .i64 a5), (13, .int .i64 (IntKind.wrap .i64 (a6 + 1)))]) h24) (
  ((prim "math/bits.Add64" [.int .u64 0, .int .u64 a4, .int .u64 0]).map fun v => (v, h)).bind fun q25 =>
  (AV.asTup2 q25.1).bind fun p26 =>
  ((some p26.1).bind (AV.asInt .u64)).bind fun n27 =>
  ((some p26.2).bind (AV.asInt .u64)).bind fun n28 =>
  (idx a1.ref a1.len a6 1).bind fun r29 =>
  ((q25.2.cell r29).bind (AV.asInt .u64)).bind fun n30 =>
  ((prim "math/bits.Add64" [.int .u64 n30, .int .u64 n27, .int .u64 0]).map fun v => (v, q25.2)).bind fun q31 =>
  (AV.asTup2 q31.1).bind fun p32 =>
  ((some p32.1).bind (AV.asInt .u64)).bind fun n33 =>
  ((some p32.2).bind (AV.asInt .u64)).bind fun n34 =>
  (idx a1.ref a1.len a6 1).bind fun r35 =>
  (q31.2.puts r35 [.int .u64 n33]).bind fun h36 =>
  go (.pt F.mont_add Td.mont_add_2 [(0, a1.v), (1, a2.v), (2, .int .u64 a3), (6, .int .u64 (IntKind.wrap .u64 ((IntKind.wrap .u64 (0 + n28)) + n34))), (12, .int .i64 a5), (13, .int .i64 (IntKind.wrap .i64 (a6 + 1)))]) h36)) (
  some (.tup [], h)) := (go_step _ h).trans (by kernel_rfl)

theorem p_mont_trim_2 (a1 : Sl) (a2 : Int) (h : AH) : go (.pt F.mont_trim Td.mont_trim_2 [(0, a1.v), (3, .int .i64 a2)]) h =
  cond (decide (a2 > 0)) (
  (idx a1.ref a1.len (IntKind.wrap .i64 (a2 - 1)) 1).bind fun r3 =>
  ((h.cell r3).bind (AV.asInt .u64)).bind fun n4 =>
  cond (decide (n4 = 0)) (
  go (.pt F.mont_trim Td.mont_trim_2 [(0, a1.v), (3, .int .i64 (IntKind.wrap .i64 (a2 - 1)))]) h) (
  (cutSl a1 0 a2 1).bind fun l5 =>
  some (l5.v, h))) (
  (cutSl a1 0 a2 1).bind fun l6 =>
  some (l6.v, h)) := (go_step _ h).trans (by kernel_rfl)

theorem p_math_bits_Div64_3 (a1 : Int) (a2 : Int) (a3 : Int) (h : AH) : go (.pt F.math_bits_Div64 Td.math_bits_Div64_3 [(0, .int .u64 a1), (1, .int .u64 a2), (2, .int .u64 a3)]) h =
  cond (decide (a3 ≤ a1)) (
  (h.cell (.old ⟨1, 0, none⟩)).bind fun v4 =>
  none) (
  cond (decide (a1 = 0)) (
  cond (decide (a3 = 0)) none (
  cond (decide (a3 = 0)) none (
  some (.tup [.int .u64 (IntKind.wrap .u64 (Int.tdiv a2 a3)), .int .u64 (Int.tmod a2 a3)], h)))) (
  (go (.fn F.math_bits_LeadingZeros64 [.int .u64 a3]) h).bind fun q5 =>
  ((some q5.1).bind (AV.asInt .i64)).bind fun n6 =>
  cond (decide ((IntKind.wrap .u64 n6) < 0)) none (
  cond (decide ((IntKind.wrap .u64 n6) < 0)) none (
  cond (decide ((IntKind.wrap .u64 (64 - (IntKind.wrap .u64 n6))) < 0)) none (
  cond (decide ((IntKind.wrap .u64 n6) < 0)) none (
  cond (decide ((ishr .u64 (ishl .u64 a3 (IntKind.wrap .u64 n6)) 32) = 0)) none (
  go (.pt F.math_bits_Div64 Td.math_bits_Div64_17 [(2, .int .u64 (ishl .u64 a3 (IntKind.wrap .u64 n6))), (8, .int .u64 (IntKind.wrap .u64 n6)), (9, .int .u64 (ishr .u64 (ishl .u64 a3 (IntKind.wrap .u64 n6)) 32)), (10, .int .u64 (iand .u64 (ishl .u64 a3 (IntKind.wrap .u64 n6)) 4294967295)), (11, .int .u64 (ior .u64 (ishl .u64 a1 (IntKind.wrap .u64 n6)) (ishr .u64 a2 (IntKind.wrap .u64 (64 - (IntKind.wrap .u64 n6)))))), (13, .int .u64 (ishr .u64 (ishl .u64 a2 (IntKind.wrap .u64 n6)) 32)), (14, .int .u64 (iand .u64 (ishl .u64 a2 (IntKind.wrap .u64 n6)) 4294967295)), (15, .int .u64 (IntKind.wrap .u64 (Int.tdiv (ior .u64 (ishl .u64 a1 (IntKind.wrap .u64 n6)) (ishr .u64 a2 (IntKind.wrap .u64 (64 - (IntKind.wrap .u64 n6))))) (ishr .u64 (ishl .u64 a3 (IntKind.wrap .u64 n6)) 32)))), (16, .int .u64 (IntKind.wrap .u64 ((ior .u64 (ishl .u64 a1 (IntKind.wrap .u64 n6)) (ishr .u64 a2 (IntKind.wrap .u64 (64 - (IntKind.wrap .u64 n6))))) - (IntKind.wrap .u64 ((IntKind.wrap .u64 (Int.tdiv (ior .u64 (ishl .u64 a1 (IntKind.wrap .u64 n6)) (ishr .u64 a2 (IntKind.wrap .u64 (64 - (IntKind.wrap .u64 n6))))) (ishr .u64 (ishl .u64 a3 (IntKind.wrap .u64 n6)) 32))) * (ishr .u64 (ishl .u64 a3 (IntKind.wrap .u64 n6)) 32))))))]) q5.2))))))) := (go_step _ h).trans (by kernel_rfl)

theorem p_nat_guess_4 (a1 : Int) (a2 : Int) (a3 : Int) (a4 : Int) (a5 : Int) (h : AH) : go (.pt F.nat_guess Td.nat_guess_4 [(2, .int .u64 a1), (3, .int .u64 a2), (4, .int .u64 a3), (11, .int .u64 a4), (12, .int .u64 a5)]) h =
  (go (.fn F.math_bits_Mul64 [.int .u64 a4, .int .u64 a3]) h).bind fun q6 =>
  (AV.asTup2 q6.1).bind fun p7 =>
  ((some p7.1).bind (AV.asInt .u64)).bind fun n8 =>
  ((some p7.2).bind (AV.asInt .u64)).bind fun n9 =>
  cond (decide (n8 < a5)) (
  some (.int .u64 a4, q6.2)) (
  cond (decide (n8 = a5)) (
  cond (decide (n9 ≤ a1)) (
  some (.int .u64 a4, q6.2)) (
  cond (decide ((IntKind.wrap .u64 (a5 + a2)) < a5)) (
  some (.int .u64 (IntKind.wrap .u64 (a4 - 1)), q6.2)) (
  go (.pt F.nat_guess Td.nat_guess_4 [(2, .int .u64 a1), (3, .int .u64 a2), (4, .int .u64 a3), (11, .int .u64 (IntKind.wrap .u64 (a4 - 1))), (12, .int .u64 (IntKind.wrap .u64 (a5 + a2)))]) q6.2))) (
  cond (decide ((IntKind.wrap .u64 (a5 + a2)) < a5)) (
  some (.int .u64 (IntKind.wrap .u64 (a4 - 1)), q6.2)) (
  go (.pt F.nat_guess Td.nat_guess_4 [(2, .int .u64 a1), (3, .int .u64 a2), (4, .int .u64 a3), (11, .int .u64 (IntKind.wrap .u64 (a4 - 1))), (12, .int .u64 (IntKind.wrap .u64 (a5 + a2)))]) q6.2))) := (go_step _ h).trans (by kernel_rfl)

theorem p_slices_IndexFunc_api_Int_api_Int_2__modint_right_1 (a1 : Sl) (a2 : Int) (a3 : Int) (h : AH) : go (.pt F.slices_IndexFunc_api_Int_api_Int Td.slices_IndexFunc_api_Int_api_Int_2 [(0, a1.v), (1, .func (.func F.modint_right_1) [] []), (7, .int .i64 a2), (8, .int .i64 a3)]) h =
  cond (decide (a3 < a2)) (
  (idx a1.ref a1.len a3 2).bind fun r4 =>
  ((h.cell (r4.add 0)).bind AV.asBool).bind fun b5 =>
  ((h.cell (r4.add 1)).bind AV.asSl).bind fun l6 =>
  (go (.fn F.modint_right_1 [.agg [.bool b5, l6.v]]) h).bind fun q7 =>
  ((some q7.1).bind AV.asBool).bind fun b8 =>
  cond b8 (
  some (.int .i64 a3, q7.2)) (
  go (.pt F.slices_IndexFunc_api_Int_api_Int Td.slices_IndexFunc_api_Int_api_Int_2 [(0, a1.v), (1, .func (.func F.modint_right_1) [] []), (7, .int .i64 a2), (8, .int .i64 (IntKind.wrap .i64 (a3 + 1)))]) q7.2)) (
  some (.int .i64 (-1), h)) := (go_step _ h).trans (by kernel_rfl)

theorem u_mont_Ring_below_1 (a1 : Sl) (a2 : Option Ref) (h : AH) : go (.fn F.mont_Ring_below_1 [a1.v, .ptr a2]) h =
  (go (.fn F.nat_Right [a1.v]) h).bind fun q3 =>
  ((some q3.1).bind AV.asBool).bind fun b4 =>
  cond (!b4) (
  some (.bool true, q3.2)) (
  a2.bind fun r5 =>
  ((q3.2.cell r5).bind AV.asPtr).bind fun p6 =>
  p6.bind fun r7 =>
  ((q3.2.cell (r7.add 0)).bind AV.asSl).bind fun l8 =>
  (go (.fn F.nat_Cmp [a1.v, l8.v]) q3.2).bind fun q9 =>
  ((some q9.1).bind (AV.asInt .i64)).bind fun n10 =>
  some (.bool (decide (n10 ≥ 0)), q9.2)) := (go_step _ h).trans (by kernel_rfl)

theorem p_math_bits_Div64_17 (a1 : Int) (a2 : Int) (a3 : Int) (a4 : Int) (a5 : Int) (a6 : Int) (a7 : Int) (a8 : Int) (a9 : Int) (h : AH) : go (.pt F.math_bits_Div64 Td.math_bits_Div64_17 [(2, .int .u64 a1), (8, .int .u64 a2), (9, .int .u64 a3), (10, .int .u64 a4), (11, .int .u64 a5), (13, .int .u64 a6), (14, .int .u64 a7), (15, .int .u64 a8), (16, .int .u64 a9)]) h =
  cond (decide (a8 ≥ 4294967296)) (
  cond (decide ((IntKind.wrap .u64 (a9 + a3)) ≥ 4294967296)) (
  cond (decide (a3 = 0)) none (
  go (.pt F.math_bits_Div64 Td.math_bits_Div64_24 [(2, .int .u64 a1), (8, .int .u64 a2), (9, .int .u64 a3), (10, .int .u64 a4), (14, .int .u64 a7), (15, .int .u64 (IntKind.wrap .u64 (a8 - 1))), (16, .int .u64 (IntKind.wrap .u64 ((IntKind.wrap .u64 ((IntKind.wrap .u64 ((IntKind.wrap .u64 (a5 * 4294967296)) + a6)) - (IntKind.wrap .u64 ((IntKind.wrap .u64 (a8 - 1)) * a1)))) - (IntKind.wrap .u64 ((IntKind.wrap .u64 (Int.tdiv (IntKind.wrap .u64 ((IntKind.wrap .u64 ((IntKind.wrap .u64 (a5 * 4294967296)) + a6)) - (IntKind.wrap .u64 ((IntKind.wrap .u64 (a8 - 1)) * a1)))) a3)) * a3))))), (17, .int .u64 (IntKind.wrap .u64 ((IntKind.wrap .u64 ((IntKind.wrap .u64 (a5 * 4294967296)) + a6)) - (IntKind.wrap .u64 ((IntKind.wrap .u64 (a8 - 1)) * a1))))), (18, .int .u64 (IntKind.wrap .u64 (Int.tdiv (IntKind.wrap .u64 ((IntKind.wrap .u64 ((IntKind.wrap .u64 (a5 * 4294967296)) + a6)) - (IntKind.wrap .u64 ((IntKind.wrap .u64 (a8 - 1)) * a1)))) a3)))]) h)) (
  go (.pt F.math_bits_Div64 Td.math_bits_Div64_17 [(2, .int .u64 a1), (8, .int .u64 a2), (9, .int .u64 a3), (10, .int .u64 a4), (11, .int .u64 a5), (13, .int .u64 a6), (14, .int .u64 a7), (15, .int .u64 (IntKind.wrap .u64 (a8 - 1))), (16, .int .u64 (IntKind.wrap .u64 (a9 + a3)))]) h)) (
  cond (decide ((IntKind.wrap .u64 (a8 * a4)) > (IntKind.wrap .u64 ((IntKind.wrap .u64 (4294967296 * a9)) + a6)))) (
  cond (decide ((IntKind.wrap .u64 (a9 + a3)) ≥ 4294967296)) (
  cond (decide (a3 = 0)) none (
  go (.pt F.math_bits_Div64 Td.math_bits_Div64_24 [(2, .int .u64 a1), (8, .int .u64 a2), (9, .int .u64 a3), (10, .int .u64 a4), (14, .int .u64 a7), (15, .int .u64 (IntKind.wrap .u64 (a8 - 1))), (16, .int .u64 (IntKind.wrap .u64 ((IntKind.wrap .u64 ((IntKind.wrap .u64 ((IntKind.wrap .u64 (a5 * 4294967296)) + a6)) - (IntKind.wrap .u64 ((IntKind.wrap .u64 (a8 - 1)) * a1)))) - (IntKind.wrap .u64 ((IntKind.wrap .u64 (Int.tdiv (IntKind.wrap .u64 ((IntKind.wrap .u64 ((IntKind.wrap .u64 (a5 * 4294967296)) + a6)) - (IntKind.wrap .u64 ((IntKind.wrap .u64 (a8 - 1)) * a1)))) a3)) * a3))))), (17, .int .u64 (IntKind.wrap .u64 ((IntKind.wrap .u64 ((IntKind.wrap .u64 (a5 * 4294967296)) + a6)) - (IntKind.wrap .u64 ((IntKind.wrap .u64 (a8 - 1)) * a1))))), (18, .int .u64 (IntKind.wrap .u64 (Int.tdiv (IntKind.wrap .u64 ((IntKind.wrap .u64 ((IntKind.wrap .u64 (a5 * 4294967296)) + a6)) - (IntKind.wrap .u64 ((IntKind.wrap .u64 (a8 - 1)) * a1)))) a3)))]) h)) (
  go (.pt F.math_bits_Div64 Td.math_bits_Div64_17 [(2, .int .u64 a1), (8, .int .u64 a2), (9, .int .u64 a3), (10, .int .u64 a4), (11, .int .u64 a5), (13, .int .u64 a6), (14, .int .u64 a7), (15, .int .u64 (IntKind.wrap .u64 (a8 - 1))), (16, .int .u64 (IntKind.wrap .u64 (a9 + a3)))]) h)) (
  cond (decide (a3 = 0)) none (
  go (.pt F.math_bits_Div64 Td.math_bits_Div64_24 [(2, .int .u64 a1), (8, .int .u64 a2), (9, .int .u64 a3), (10, .int .u64 a4), (14, .int .u64 a7), (15, .int .u64 a8), (16, .int .u64 (IntKind.wrap .u64 ((IntKind.wrap .u64 ((IntKind.wrap .u64 ((IntKind.wrap .u64 (a5 * 4294967296)) + a6)) - (IntKind.wrap .u64 (a8 * a1)))) - (IntKind.wrap .u64 ((IntKind.wrap .u64 (Int.tdiv (IntKind.wrap .u64 ((IntKind.wrap .u64 ((IntKind.wrap .u64 (a5 * 4294967296)) + a6)) - (IntKind.wrap .u64 (a8 * a1)))) a3)) * a3))))), (17, .int .u64 (IntKind.wrap .u64 ((IntKind.wrap .u64 ((IntKind.wrap .u64 (a5 * 4294967296)) + a6)) - (IntKind.wrap .u64 (a8 * a1))))), (18, .int .u64 (IntKind.wrap .u64 (Int.tdiv (IntKind.wrap .u64 ((IntKind.wrap .u64 ((IntKind.wrap .u64 (a5 * 4294967296)) + a6)) - (IntKind.wrap .u64 (a8 * a1)))) a3)))]) h))) := (go_step _ h).trans (by kernel_rfl)

theorem u_modint_right_1 (a1 : Bool) (a2 : Sl) (h : AH) : go (.fn F.modint_right_1 [.agg [.bool a1, a2.v]]) h =
  newK h (.cells [.bool a1, a2.v] T.api_Int) fun h3r h3 =>
  ((h3.cell (h3r.add 0)).bind AV.asBool).bind fun b4 =>
  ((h3.cell (h3r.add 1)).bind AV.asSl).bind fun l5 =>
  (go (.fn F.modint_Right [.agg [.bool b4, l5.v]]) h3).bind fun q6 =>
  ((some q6.1).bind AV.asBool).bind fun b7 =>
  some (.bool (!b7), q6.2) := (go_step _ h).trans (by kernel_rfl)

theorem p_math_bits_Div64_24 (a1 : Int) (a2 : Int) (a3 : Int) (a4 : Int) (a5 : Int) (a6 : Int) (a7 : Int) (a8 : Int) (a9 : Int) (h : AH) : go (.pt F.math_bits_Div64 Td.math_bits_Div64_24 [(2, .int .u64 a1), (8, .int .u64 a2), (9, .int .u64 a3), (10, .int .u64 a4), (14, .int .u64 a5), (15, .int .u64 a6), (16, .int .u64 a7), (17, .int .u64 a8), (18, .int .u64 a9)]) h =
  cond (decide (a9 ≥ 4294967296)) (
  cond (decide ((IntKind.wrap .u64 (a7 + a3)) ≥ 4294967296)) (
  cond (decide (a2 < 0)) none (
  some (.tup [.int .u64 (IntKind.wrap .u64 ((IntKind.wrap .u64 (a6 * 4294967296)) + (IntKind.wrap .u64 (a9 - 1)))), .int .u64 (ishr .u64 (IntKind.wrap .u64 ((IntKind.wrap .u64 ((IntKind.wrap .u64 (a8 * 4294967296)) + a5)) - (IntKind.wrap .u64 ((IntKind.wrap .u64 (a9 - 1)) * a1)))) a2)], h))) (
  go (.pt F.math_bits_Div64 Td.math_bits_Div64_24 [(2, .int .u64 a1), (8, .int .u64 a2), (9, .int .u64 a3), (10, .int .u64 a4), (14, .int .u64 a5), (15, .int .u64 a6), (16, .int .u64 (IntKind.wrap .u64 (a7 + a3))), (17, .int .u64 a8), (18, .int .u64 (IntKind.wrap .u64 (a9 - 1)))]) h)) (
  cond (decide ((IntKind.wrap .u64 (a9 * a4)) > (IntKind.wrap .u64 ((IntKind.wrap .u64 (4294967296 * a7)) + a5)))) (
  cond (decide ((IntKind.wrap .u64 (a7 + a3)) ≥ 4294967296)) (
  cond (decide (a2 < 0)) none (
  some (.tup [.int .u64 (IntKind.wrap .u64 ((IntKind.wrap .u64 (a6 * 4294967296)) + (IntKind.wrap .u64 (a9 - 1)))), .int .u64 (ishr .u64 (IntKind.wrap .u64 ((IntKind.wrap .u64 ((IntKind.wrap .u64 (a8 * 4294967296)) + a5)) - (IntKind.wrap .u64 ((IntKind.wrap .u64 (a9 - 1)) * a1)))) a2)], h))) (
  go (.pt F.math_bits_Div64 Td.math_bits_Div64_24 [(2, .int .u64 a1), (8, .int .u64 a2), (9, .int .u64 a3), (10, .int .u64 a4), (14, .int .u64 a5), (15, .int .u64 a6), (16, .int .u64 (IntKind.wrap .u64 (a7 + a3))), (17, .int .u64 a8), (18, .int .u64 (IntKind.wrap .u64 (a9 - 1)))]) h)) (
  cond (decide (a2 < 0)) none (
  some (.tup [.int .u64 (IntKind.wrap .u64 ((IntKind.wrap .u64 (a6 * 4294967296)) + a9)), .int .u64 (ishr .u64 (IntKind.wrap .u64 ((IntKind.wrap .u64 ((IntKind.wrap .u64 (a8 * 4294967296)) + a5)) - (IntKind.wrap .u64 (a9 * a1)))) a2)], h)))) := (go_step _ h).trans (by kernel_rfl)

end Go.Ab
