/- squeezed -/
import Derived.Test.YtpbgcebgmgjnjaaGreatPAbsDra
import Derived.Test.YtpbgcebgmgjnjaaGreatProg

set_option linter.unusedVariables false
set_option maxRecDepth 100000
namespace Go.Ab
open Go.Proofs
@[reducible] def F.kna : FuncId := 3
@[reducible] def F.klh : FuncId := 4
@[reducible] def F.kdx : FuncId := 5
@[reducible] def F.kbq : FuncId := 6
@[reducible] def F.kgk : FuncId := 7
@[reducible] def F.ki9 : FuncId := 8
@[reducible] def F.kfp : FuncId := 9
@[reducible] def F.kiq : FuncId := 10
@[reducible] def F.kg1 : FuncId := 11
@[reducible] def F.kjy : FuncId := 12
@[reducible] def F.kdj : FuncId := 13
@[reducible] def F.km5 : FuncId := 14
@[reducible] def F.klu : FuncId := 15
@[reducible] def F.ke1 : FuncId := 16
@[reducible] def F.kjq : FuncId := 17
@[reducible] def F.kg4 : FuncId := 18
@[reducible] def F.kgd : FuncId := 19
@[reducible] def F.kj0 : FuncId := 20
@[reducible] def F.kn5 : FuncId := 21
@[reducible] def F.kmo : FuncId := 22
@[reducible] def F.keh : FuncId := 23
@[reducible] def F.kg7 : FuncId := 24
@[reducible] def F.kes : FuncId := 25
@[reducible] def F.kd5 : FuncId := 26
@[reducible] def F.khv : FuncId := 27
@[reducible] def F.kcy : FuncId := 28
@[reducible] def F.kgx : FuncId := 29
@[reducible] def F.kov : FuncId := 30
@[reducible] def F.kfc : FuncId := 31
@[reducible] def F.kn9 : FuncId := 32
@[reducible] def F.kls : FuncId := 33
@[reducible] def F.kl8 : FuncId := 34
@[reducible] def F.kkc : FuncId := 35
@[reducible] def F.kc8 : FuncId := 36
@[reducible] def F.kby : FuncId := 37
@[reducible] def F.kee : FuncId := 38
@[reducible] def F.khz : FuncId := 39
@[reducible] def F.kc1 : FuncId := 40
@[reducible] def F.kf4 : FuncId := 41
@[reducible] def F.kgs : FuncId := 42
@[reducible] def F.kjr : FuncId := 43
@[reducible] def F.kka : FuncId := 44
@[reducible] def F.kek : FuncId := 45
@[reducible] def F.kmx : FuncId := 46
@[reducible] def F.kgl : FuncId := 47
@[reducible] def F.kf2 : FuncId := 48
@[reducible] def F.kiy : FuncId := 49
@[reducible] def F.kbi : FuncId := 50
@[reducible] def F.kfw : FuncId := 51
@[reducible] def F.kev : FuncId := 52
@[reducible] def F.kdk : FuncId := 53
@[reducible] def F.keq : FuncId := 54
@[reducible] def F.kbz : FuncId := 55
@[reducible] def F.krw : FuncId := 56
@[reducible] def F.kdb : FuncId := 57
@[reducible] def F.kog : FuncId := 58
@[reducible] def F.khj : FuncId := 59
@[reducible] def F.khx : FuncId := 60
@[reducible] def F.kf3 : FuncId := 61
@[reducible] def F.kgu : FuncId := 62
@[reducible] def F.koc : FuncId := 63
@[reducible] def F.kct : FuncId := 64
@[reducible] def F.kbl : FuncId := 65
@[reducible] def F.kca : FuncId := 66
@[reducible] def F.kik : FuncId := 67
@[reducible] def F.kli : FuncId := 68
@[reducible] def F.kmh : FuncId := 69
@[reducible] def F.km1 : FuncId := 70
@[reducible] def F.khd : FuncId := 71
@[reducible] def F.kr2 : FuncId := 72
@[reducible] def F.kc9 : FuncId := 73
@[reducible] def F.ki7 : FuncId := 74
@[reducible] def F.kl2 : FuncId := 75
@[reducible] def F.kr7 : FuncId := 76
@[reducible] def F.kc7 : FuncId := 77
@[reducible] def F.kbo : FuncId := 78
@[reducible] def F.kk0 : FuncId := 79
@[reducible] def F.kdq : FuncId := 80
@[reducible] def F.kep : FuncId := 81
@[reducible] def F.kcg : FuncId := 82
@[reducible] def F.kcp : FuncId := 83
@[reducible] def F.khf : FuncId := 84
@[reducible] def F.kng : FuncId := 85
@[reducible] def F.kla : FuncId := 86
@[reducible] def F.kno : FuncId := 87
@[reducible] def F.kcm : FuncId := 88
@[reducible] def F.kd0 : FuncId := 89
@[reducible] def F.kci : FuncId := 90
@[reducible] def F.kd9 : FuncId := 91
@[reducible] def F.km4 : FuncId := 92
@[reducible] def F.kj6 : FuncId := 93
@[reducible] def F.kix : FuncId := 94
@[reducible] def F.kg6 : FuncId := 95
@[reducible] def F.kip : FuncId := 96
@[reducible] def F.kh5 : FuncId := 97
@[reducible] def F.khy : FuncId := 98
@[reducible] def F.kcq : FuncId := 99
@[reducible] def F.kc0 : FuncId := 100
@[reducible] def F.khw : FuncId := 101
@[reducible] def F.kk7 : FuncId := 102
@[reducible] def F.kkr : FuncId := 103
@[reducible] def F.kfu : FuncId := 106
@[reducible] def F.keg : FuncId := 107
@[reducible] def T.func : TypeId := 1
@[reducible] def T.int : TypeId := 3
@[reducible] def T.bool : TypeId := 4
@[reducible] def T.string : TypeId := 9
@[reducible] def T.kh6 : TypeId := 22
@[reducible] def T.kz : TypeId := 24
@[reducible] def T.ko5 : TypeId := 25
@[reducible] def T.kul : TypeId := 27
@[reducible] def T.kcb : TypeId := 34
@[reducible] def T.kg : TypeId := 36
@[reducible] def T.kj : TypeId := 38
@[reducible] def T.kf : TypeId := 41
@[reducible] def T.k4j : TypeId := 79
@[reducible] noncomputable def Pg : Program := Tryz.prog
def keepTab : List (Nat × Nat × List Nat) := [(5, 7, [0, 6, 10, 13, 47, 48, 49]), (6, 5, [0, 1, 3, 6, 11]), (6, 13, [0, 3, 6, 14, 16, 17]), (6, 1000007, [0, 1, 2, 3, 4, 9, 5, 6, 7, 8, 10, 11]), (6, 1000016, [0, 1, 2, 3, 4, 5, 10, 6, 7, 8, 9, 11, 12]), (6, 2000007, [9]), (6, 2000016, [10]), (7, 4, [0, 1, 5]), (13, 1000003, [0, 2, 1, 3, 4]), (14, 1000003, [0, 1, 3, 4, 2, 5, 6, 7]), (15, 1000005, [0, 1, 3, 4, 10, 2, 5, 6, 7, 8, 9, 11, 12]), (15, 2000005, [10]), (21, 1000005, [0, 1, 3, 4, 2, 5, 6, 7]), (26, 4, [0, 1]), (31, 1000001, [0, 1, 2, 3, 9, 4, 5, 6, 7, 8, 10, 11]), (31, 2000001, [9]), (38, 7, [8, 9]), (43, 1000005, [0, 1, 3, 4, 10, 2, 5, 6, 7, 8, 9, 11, 12]), (43, 2000005, [10]), (44, 1000005, [0, 1, 2, 4, 5, 3, 6, 7, 8, 9, 10, 11]), (47, 1000001, [0, 1, 2, 3, 9, 4, 5, 6, 7, 8, 10, 11]), (47, 2000001, [9]), (50, 2, [0, 3]), (53, 6, [0, 1, 5]), (54, 4, [0, 1, 6, 7, 8]), (55, 6, [6, 7, 8, 9, 10, 11]), (55, 10, [6, 7, 8, 9, 10, 11, 12, 13]), (55, 18, [6, 10, 15, 16, 112, 113]), (60, 1000003, [0, 1, 2, 4, 5, 11, 3, 6, 7, 8, 9, 10, 12, 13]), (60, 2000003, [11]), (64, 4, [0, 1, 6, 7, 8]), (64, 9, [0, 1, 6, 7, 8, 9, 10]), (65, 3, [0, 3, 4]), (65, 7, [0, 3, 4, 5, 6]), (66, 3, [0, 4, 5]), (66, 7, [0, 4, 5, 6, 7]), (78, 3, [0, 1, 2]), (78, 17, [2, 8, 9, 10, 11, 13, 14, 15, 16]), (78, 24, [2, 8, 9, 10, 14, 15, 16, 17, 18]), (80, 3, [1, 5, 12, 13, 14]), (81, 4, [2, 3, 4, 11, 12]), (82, 3, [1, 5, 20, 21, 22]), (82, 7, [1, 5, 6, 7, 8, 20, 21, 22, 27, 28, 29]), (83, 4, [0, 1, 5, 6, 13, 14]), (84, 2, [0, 1, 7, 8]), (88, 2, [0, 3]), (89, 6, [0, 1, 5]), (90, 3, [0, 1, 5, 6]), (90, 7, [0, 1, 5, 6, 7, 8]), (91, 4, [0, 1, 5, 6, 7]), (91, 1000006, [0, 1, 2, 3, 4, 5, 6, 9, 7, 8, 10, 11]), (95, 2, [0, 1, 7, 8]), (96, 1000006, [0, 1, 2, 4, 5, 8, 9, 10, 12, 13, 3, 6, 7, 11, 14, 15, 16, 17]), (96, 1000007, [0, 1, 2, 4, 5, 9, 10, 12, 13, 3, 6, 7, 8, 11, 14, 15, 16, 17, 18]), (99, 6, [0, 1, 5, 6, 21, 22]), (100, 2, [0, 1, 2, 6, 7]), (101, 2, [0, 1, 7, 8]), (107, 4, [0, 1, 5, 6, 7])]
noncomputable def go : Rec := run Pg (keepOf keepTab)
theorem ke (k : Key) (h : AH) : go k h = stepA Pg (keepOf keepTab) go k h := k3w _ k h
theorem kho : Pg.underlying T.int = some (.int .i64) := Tryz.underlying3
theorem kgt : Pg.cellsOf T.int = 1 := by kernel_rfl
theorem kwd : kdc Pg T.int = some [.int .i64 0] := by kernel_rfl
theorem kvv : Pg.bytesOf T.int = 8 := by kernel_rfl
theorem kqb : Pg.underlying T.kh6 = some (.array 2 T.int) := Tryz.underlying22
theorem k08 : Pg.cellsOf T.kh6 = 2 := by kernel_rfl
theorem kpi : Pg.underlying T.kz = some (.struct #[{ name := "G", type := T.int, offset := 0, embedded := false, tag := "", pkgPath := "", byteOffset := 0 }, { name := "H", type := T.int, offset := 1, embedded := false, tag := "", pkgPath := "", byteOffset := 8 }]) := Tryz.underlying24
theorem kpj : Pg.cellsOf T.kz = 2 := by kernel_rfl
theorem kup : Pg.underlying T.ko5 = some (.slice T.kz) := Tryz.underlying25
theorem kig : Pg.cellsOf T.kf = 1 := by kernel_rfl
theorem k66 : kdc Pg T.kf = some [.int .u64 0] := by kernel_rfl
theorem kdm : Pg.bytesOf T.kf = 8 := by kernel_rfl
noncomputable def Td.kfr : List Item := todoAt Tryz.f5 7
noncomputable def Td.kln : List Item := todoAt Tryz.f6 5
noncomputable def Td.kcu : List Item := todoAt Tryz.f6 13
noncomputable def Td.kld : List Item := todoAt Tryz.f7 4
noncomputable def Td.klf : List Item := todoAt Tryz.f26 4
noncomputable def Td.kmj : List Item := todoAt Tryz.f38 7
noncomputable def Td.kjl : List Item := todoAt Tryz.f50 2
noncomputable def Td.klc : List Item := todoAt Tryz.f53 6
noncomputable def Td.kl5 : List Item := todoAt Tryz.f54 4
noncomputable def Td.klv : List Item := todoAt Tryz.f55 6
noncomputable def Td.kmn : List Item := todoAt Tryz.f55 10
noncomputable def Td.khg : List Item := todoAt Tryz.f55 18
noncomputable def Td.kkt : List Item := todoAt Tryz.f64 4
noncomputable def Td.kii : List Item := todoAt Tryz.f64 9
noncomputable def Td.kiz : List Item := todoAt Tryz.f65 3
noncomputable def Td.kl6 : List Item := todoAt Tryz.f65 7
noncomputable def Td.kh3 : List Item := todoAt Tryz.f66 3
noncomputable def Td.kim : List Item := todoAt Tryz.f66 7
noncomputable def Td.kns : List Item := todoAt Tryz.f78 3
noncomputable def Td.kie : List Item := todoAt Tryz.f78 17
noncomputable def Td.kf8 : List Item := todoAt Tryz.f78 24
noncomputable def Td.kjb : List Item := todoAt Tryz.f80 3
noncomputable def Td.kiw : List Item := todoAt Tryz.f81 4
noncomputable def Td.kl0 : List Item := todoAt Tryz.f82 3
noncomputable def Td.kkn : List Item := todoAt Tryz.f82 7
noncomputable def Td.khb : List Item := todoAt Tryz.f83 4
noncomputable def Td.kku : List Item := todoAt Tryz.f84 2
noncomputable def Td.kkb : List Item := todoAt Tryz.f88 2
noncomputable def Td.kmb : List Item := todoAt Tryz.f89 6
noncomputable def Td.kkd : List Item := todoAt Tryz.f90 3
noncomputable def Td.kk8 : List Item := todoAt Tryz.f90 7
noncomputable def Td.ki1 : List Item := todoAt Tryz.f91 4
noncomputable def Td.kly : List Item := todoAt Tryz.f95 2
noncomputable def Td.ke4 : List Item := todoAt Tryz.f99 6
noncomputable def Td.kfx : List Item := todoAt Tryz.f100 2
noncomputable def Td.klx : List Item := todoAt Tryz.f101 2
noncomputable def Td.khs : List Item := todoAt Tryz.f107 4
def lit1 : ByteArray := (⟨((List.append (List.append ([0, 1, 2, 2, 3, 3, 3, 3, 4, 4, 4, 4, 4, 4, 4, 4, 5, 5, 5, 5, 5, 5, 5, 5, 5, 5, 5, 5, 5, 5, 5, 5, 6, 6, 6, 6, 6, 6, 6, 6, 6, 6, 6, 6, 6, 6, 6, 6, 6, 6, 6, 6, 6, 6, 6, 6, 6, 6, 6, 6, 6, 6, 6, 6] : List UInt8) ([7, 7, 7, 7, 7, 7, 7, 7, 7, 7, 7, 7, 7, 7, 7, 7, 7, 7, 7, 7, 7, 7, 7, 7, 7, 7, 7, 7, 7, 7, 7, 7, 7, 7, 7, 7, 7, 7, 7, 7, 7, 7, 7, 7, 7, 7, 7, 7, 7, 7, 7, 7, 7, 7, 7, 7, 7, 7, 7, 7, 7, 7, 7, 7] : List UInt8)) (List.append ([8, 8, 8, 8, 8, 8, 8, 8, 8, 8, 8, 8, 8, 8, 8, 8, 8, 8, 8, 8, 8, 8, 8, 8, 8, 8, 8, 8, 8, 8, 8, 8, 8, 8, 8, 8, 8, 8, 8, 8, 8, 8, 8, 8, 8, 8, 8, 8, 8, 8, 8, 8, 8, 8, 8, 8, 8, 8, 8, 8, 8, 8, 8, 8] : List UInt8) ([8, 8, 8, 8, 8, 8, 8, 8, 8, 8, 8, 8, 8, 8, 8, 8, 8, 8, 8, 8, 8, 8, 8, 8, 8, 8, 8, 8, 8, 8, 8, 8, 8, 8, 8, 8, 8, 8, 8, 8, 8, 8, 8, 8, 8, 8, 8, 8, 8, 8, 8, 8, 8, 8, 8, 8, 8, 8, 8, 8, 8, 8, 8, 8] : List UInt8)))).toArray⟩ : ByteArray)
theorem k3v (a1 : Int) (a2 : Int) (a3 : Int) (a4 : Int) (a5 : Sl) (h : AH) : go (.fn F.kna [.agg [.int .i64 a1, .int .i64 a2], .agg [.int .i64 a3, .int .i64 a4], a5.v]) h =
 newK h (.cells [.int .i64 a1, .int .i64 a2] T.kh6) fun h6r h6 =>
 newK h6 (.cells [.int .i64 a3, .int .i64 a4] T.kz) fun h7r h7 =>
 cond (decide ((a5.len : Int) > 20000)) (
 some (.bool true, h7)) (
 (go (.fn F.klh []) h7).bind fun q8 =>
 ((some q8.1).bind AV.asBool).bind fun b9 =>
 (idx (some h6r) 2 0 1).bind fun r10 =>
 ((q8.2.cell r10).bind (AV.asInt .i64)).bind fun n11 =>
 (idx (some h6r) 2 1 1).bind fun r12 =>
 ((q8.2.cell r12).bind (AV.asInt .i64)).bind fun n13 =>
 ((q8.2.cell (h7r.add 0)).bind (AV.asInt .i64)).bind fun n14 =>
 ((q8.2.cell (h7r.add 1)).bind (AV.asInt .i64)).bind fun n15 =>
 (go (.fn F.kdx [.int .i64 n11, .int .i64 n13, .agg [.int .i64 n14, .int .i64 n15], a5.v]) q8.2).bind fun q16 =>
 (AV.asTup2 q16.1).bind fun p17 =>
 ((some p17.1).bind AV.asSl).bind fun l18 =>
 ((some p17.2).bind (AV.asInt .i64)).bind fun n19 =>
 (idx (some h6r) 2 0 1).bind fun r20 =>
 ((q16.2.cell r20).bind (AV.asInt .i64)).bind fun n21 =>
 (idx (some h6r) 2 1 1).bind fun r22 =>
 ((q16.2.cell r22).bind (AV.asInt .i64)).bind fun n23 =>
 ((q16.2.cell (h7r.add 0)).bind (AV.asInt .i64)).bind fun n24 =>
 ((q16.2.cell (h7r.add 1)).bind (AV.asInt .i64)).bind fun n25 =>
 (go (.fn F.kbq [.int .i64 n21, .int .i64 n23, .agg [.int .i64 n24, .int .i64 n25], a5.v]) q16.2).bind fun q26 =>
 (AV.asTup2 q26.1).bind fun p27 =>
 ((some p27.1).bind AV.asSl).bind fun l28 =>
 ((some p27.2).bind (AV.asInt .i64)).bind fun n29 =>
 (go (.fn F.kgk [l18.v, l28.v]) q26.2).bind fun q30 =>
 ((some q30.1).bind AV.asBool).bind fun b31 =>
 cond b9 (
 cond b31 (
 some (.bool (decide (n19 = n29)), q30.2)) (
 some (.bool false, q30.2))) (
 some (.bool false, q30.2))) := (ke _ h).trans (by kernel_rfl)
theorem kwn (a1 : Sl) (a2 : Sl) (a3 : Ref) (h : AH) : go (.fn F.kip [a1.v, a2.v, .ptr (some a3)]) h =
 cond (decide ((a1.len : Int) < 24)) (
 (go (.fn F.kcg [a1.v, a2.v]) h).bind fun q4 =>
 ((some q4.1).bind AV.asSl).bind fun l5 =>
 some (l5.v, q4.2)) (
 cond (decide ((a2.len : Int) < 24)) (
 (go (.fn F.kcg [a1.v, a2.v]) h).bind fun q6 =>
 ((some q6.1).bind AV.asSl).bind fun l7 =>
 some (l7.v, q6.2)) (
 newK h (.cells [.int .i64 0] T.int) fun h8r h8 =>
 (h8.puts h8r [.int .i64 (IntKind.wrap .i64 (Int.tdiv (IntKind.wrap .i64 ((imax (a1.len : Int) (a2.len : Int)) + 1)) 2))]).bind fun h9 =>
 (h9.cell a3).bind fun v10 =>
 (h9.cell a3).bind fun v11 =>
 (go (.fn F.kh5 [a1.v, .ptr (some h8r)]) h9).bind fun q12 =>
 ((some q12.1).bind AV.asSl).bind fun l13 =>
 whenK (SameAt h9 q12.2 a3 1) (
 whenK (SameAt h9 q12.2 a3 1) (
 (go (.fn F.kh5 [a2.v, .ptr (some h8r)]) q12.2).bind fun q14 =>
 ((some q14.1).bind AV.asSl).bind fun l15 =>
 whenK (SameAt q12.2 q14.2 a3 1) (
 whenK (SameAt q12.2 q14.2 a3 1) (
 (callV Pg go v10 [l13.v, l15.v] q14.2).bind fun q16 =>
 ((some q16.1).bind AV.asSl).bind fun l17 =>
 whenK (SameAt q14.2 q16.2 a3 1) (
 (go (.fn F.khy [a1.v, .ptr (some h8r)]) q16.2).bind fun q18 =>
 ((some q18.1).bind AV.asSl).bind fun l19 =>
 whenK (SameAt q16.2 q18.2 a3 1) (
 (go (.fn F.khy [a2.v, .ptr (some h8r)]) q18.2).bind fun q20 =>
 ((some q20.1).bind AV.asSl).bind fun l21 =>
 whenK (SameAt q18.2 q20.2 a3 1) (
 (callV Pg go v11 [l19.v, l21.v] q20.2).bind fun q22 =>
 ((some q22.1).bind AV.asSl).bind fun l23 =>
 (q22.2.cell a3).bind fun v24 =>
 (go (.fn F.kh5 [a1.v, .ptr (some h8r)]) q22.2).bind fun q25 =>
 ((some q25.1).bind AV.asSl).bind fun l26 =>
 whenK (SameAt q22.2 q25.2 a3 1) (
 (go (.fn F.khy [a1.v, .ptr (some h8r)]) q25.2).bind fun q27 =>
 ((some q27.1).bind AV.asSl).bind fun l28 =>
 whenK (SameAt q25.2 q27.2 a3 1) (
 (go (.fn F.kcq [l26.v, l28.v]) q27.2).bind fun q29 =>
 ((some q29.1).bind AV.asSl).bind fun l30 =>
 whenK (SameAt q27.2 q29.2 a3 1) (
 (go (.fn F.kbi [l30.v]) q29.2).bind fun q31 =>
 ((some q31.1).bind AV.asSl).bind fun l32 =>
 whenK (SameAt q29.2 q31.2 a3 1) (
 (go (.fn F.kh5 [a2.v, .ptr (some h8r)]) q31.2).bind fun q33 =>
 ((some q33.1).bind AV.asSl).bind fun l34 =>
 whenK (SameAt q31.2 q33.2 a3 1) (
 (go (.fn F.khy [a2.v, .ptr (some h8r)]) q33.2).bind fun q35 =>
 ((some q35.1).bind AV.asSl).bind fun l36 =>
 whenK (SameAt q33.2 q35.2 a3 1) (
 (go (.fn F.kcq [l34.v, l36.v]) q35.2).bind fun q37 =>
 ((some q37.1).bind AV.asSl).bind fun l38 =>
 whenK (SameAt q35.2 q37.2 a3 1) (
 (go (.fn F.kbi [l38.v]) q37.2).bind fun q39 =>
 ((some q39.1).bind AV.asSl).bind fun l40 =>
 whenK (SameAt q37.2 q39.2 a3 1) (
 (callV Pg go v24 [l32.v, l40.v] q39.2).bind fun q41 =>
 ((some q41.1).bind AV.asSl).bind fun l42 =>
 (go (.fn F.kcp [l42.v, l17.v]) q41.2).bind fun q43 =>
 ((some q43.1).bind AV.asSl).bind fun l44 =>
 (go (.fn F.kbi [l44.v]) q43.2).bind fun q45 =>
 ((some q45.1).bind AV.asSl).bind fun l46 =>
 (go (.fn F.kcp [l46.v, l23.v]) q45.2).bind fun q47 =>
 ((some q47.1).bind AV.asSl).bind fun l48 =>
 (go (.fn F.kbi [l48.v]) q47.2).bind fun q49 =>
 ((some q49.1).bind AV.asSl).bind fun l50 =>
 (kbv (IntKind.wrap .i64 ((IntKind.wrap .i64 ((a1.len : Int) + (a2.len : Int))) + 1)) (IntKind.wrap .i64 ((IntKind.wrap .i64 ((a1.len : Int) + (a2.len : Int))) + 1)) T.kf (Pg.bytesOf T.kf) [.int .u64 0] q49.2).bind fun q51 =>
 (copyH l17 q51.1 1 q51.2).bind fun h52 =>
 ((h52.cell h8r).bind (AV.asInt .i64)).bind fun n53 =>
 (go (.fn F.kc0 [q51.1.v, l50.v, .int .i64 n53]) h52).bind fun q54 =>
 (AV.asTup0 q54.1).bind fun _ =>
 ((q54.2.cell h8r).bind (AV.asInt .i64)).bind fun n55 =>
 (go (.fn F.kc0 [q51.1.v, l23.v, .int .i64 (IntKind.wrap .i64 (2 * n55))]) q54.2).bind fun q56 =>
 (AV.asTup0 q56.1).bind fun _ =>
 (go (.fn F.kbi [q51.1.v]) q56.2).bind fun q57 =>
 ((some q57.1).bind AV.asSl).bind fun l58 =>
 some (l58.v, q57.2)))))))))))))))))) := (ke _ h).trans (by kernel_rfl)
theorem k1i  (h : AH) : go (.fn F.klh []) h =
 (go (.fn F.ki9 [.int .i64 1, .agg [.int .i64 4, .int .i64 1]]) h).bind fun q1 =>
 (AV.asTup2 q1.1).bind fun p2 =>
 (AV.asAgg p2.1).bind fun cs3 =>
 cond (Nat.beq cs3.length 3) (
 ((cs3[0]?).bind AV.asBool).bind fun b4 =>
 ((cs3[1]?).bind AV.asSl).bind fun l5 =>
 ((cs3[2]?).bind AV.asSl).bind fun l6 =>
 ((some p2.2).bind (AV.asInt .i64)).bind fun n7 =>
 newK q1.2 (.cells [.bool false, (⟨none, 0, .is 0⟩ : Sl).v, (⟨none, 0, .is 0⟩ : Sl).v] T.kj) fun h8r h8 =>
 (h8.puts h8r [.bool b4, l5.v, l6.v]).bind fun h9 =>
 cond (decide (n7 = 0)) (
 ((h9.cell ((h8r.add 0).add 1)).bind AV.asSl).bind fun l10 =>
 cond (decide ((l10.len : Int) = 1)) (
 ((h9.cell ((h8r.add 0).add 1)).bind AV.asSl).bind fun l11 =>
 (idx l11.ref l11.len 0 1).bind fun r12 =>
 ((h9.cell r12).bind (AV.asInt .u64)).bind fun n13 =>
 some (.bool (decide (n13 = 8)), h9)) (
 some (.bool false, h9))) (
 some (.bool false, h9))) none := (ke _ h).trans (by kernel_rfl)
theorem k55 (a1 : Int) (a2 : Int) (a3 : Int) (a4 : Int) (a5 : Sl) (h : AH) : go (.fn F.kdx [.int .i64 a1, .int .i64 a2, .agg [.int .i64 a3, .int .i64 a4], a5.v]) h =
 newK h (.cells [.int .i64 a3, .int .i64 a4] T.kz) fun h6r h6 =>
 ((h6.cell (h6r.add 0)).bind (AV.asInt .i64)).bind fun n7 =>
 ((h6.cell (h6r.add 1)).bind (AV.asInt .i64)).bind fun n8 =>
 (go (.fn F.kfp [.agg [.int .i64 n7, .int .i64 n8]]) h6).bind fun q9 =>
 ((some q9.1).bind AV.asBool).bind fun b10 =>
 cond (!b10) (
 some (.tup [(⟨none, 0, .is 0⟩ : Sl).v, .int .i64 1], q9.2)) (
 (go (.fn F.kiq [.int .i64 a1]) q9.2).bind fun q11 =>
 ((some q11.1).bind AV.asBool).bind fun b12 =>
 cond (!b12) (
 some (.tup [(⟨none, 0, .is 0⟩ : Sl).v, .int .i64 1], q11.2)) (
 cond (decide (a2 < 0)) (
 some (.tup [(⟨none, 0, .is 0⟩ : Sl).v, .int .i64 1], q11.2)) (
 cond (decide (a2 > 1048576)) (
 some (.tup [(⟨none, 0, .is 0⟩ : Sl).v, .int .i64 1], q11.2)) (
 cond (decide ((a5.len : Int) > 16384)) (
 some (.tup [(⟨none, 0, .is 0⟩ : Sl).v, .int .i64 1], q11.2)) (
 newK q11.2 (.cells [(⟨none, 0, .is 0⟩ : Sl).v] T.kul) fun h13r h13 =>
 (go (.fn F.kjy [.int .i64 a2]) h13).bind fun q14 =>
 (AV.asAgg q14.1).bind fun cs15 =>
 cond (Nat.beq cs15.length 2) (
 ((cs15[0]?).bind AV.asBool).bind fun b16 =>
 ((cs15[1]?).bind AV.asSl).bind fun l17 =>
 newK q14.2 (.cells [.int .u64 1] T.kf) fun h18r h18 =>
 (go (.fn F.kg1 [.agg [.bool b16, l17.v], (⟨some h18r, 1, .is 1⟩ : Sl).v]) h18).bind fun q19 =>
 (AV.asTup2 q19.1).bind fun p20 =>
 (AV.asAgg p20.1).bind fun cs21 =>
 cond (Nat.beq cs21.length 3) (
 ((cs21[0]?).bind AV.asBool).bind fun b22 =>
 ((cs21[1]?).bind AV.asSl).bind fun l23 =>
 ((cs21[2]?).bind AV.asSl).bind fun l24 =>
 ((some p20.2).bind (AV.asInt .i64)).bind fun n25 =>
 newK q19.2 (.cells [.bool false, (⟨none, 0, .is 0⟩ : Sl).v, (⟨none, 0, .is 0⟩ : Sl).v] T.kj) fun h26r h26 =>
 (h26.puts h26r [.bool b22, l23.v, l24.v]).bind fun h27 =>
 go (.pt F.kdx Td.kfr [(0, .int .i64 a1), (6, .ptr (some h6r)), (10, .ptr (some h13r)), (13, .func (.func F.kdj) [] [.ptr (some h26r), .ptr (some h13r)]), (47, a5.v), (48, .int .i64 (a5.len : Int)), (49, .int .i64 0)]) h27) none) none))))) := (ke _ h).trans (by kernel_rfl)
theorem k4z (a1 : Int) (a2 : Int) (a3 : Int) (a4 : Int) (a5 : Sl) (h : AH) : go (.fn F.kbq [.int .i64 a1, .int .i64 a2, .agg [.int .i64 a3, .int .i64 a4], a5.v]) h =
 newK h (.cells [.int .i64 a3, .int .i64 a4] T.kz) fun h6r h6 =>
 ((h6.cell (h6r.add 0)).bind (AV.asInt .i64)).bind fun n7 =>
 ((h6.cell (h6r.add 1)).bind (AV.asInt .i64)).bind fun n8 =>
 (go (.fn F.ke1 [.agg [.int .i64 n7, .int .i64 n8]]) h6).bind fun q9 =>
 ((some q9.1).bind AV.asBool).bind fun b10 =>
 cond (!b10) (
 some (.tup [(⟨none, 0, .is 0⟩ : Sl).v, .int .i64 1], q9.2)) (
 cond (decide (a2 < 0)) (
 some (.tup [(⟨none, 0, .is 0⟩ : Sl).v, .int .i64 1], q9.2)) (
 cond (decide (a2 > 1048576)) (
 some (.tup [(⟨none, 0, .is 0⟩ : Sl).v, .int .i64 1], q9.2)) (
 cond (decide (a1 < 1)) (
 some (.tup [(⟨none, 0, .is 0⟩ : Sl).v, .int .i64 1], q9.2)) (
 cond (decide (a1 > 1048576)) (
 some (.tup [(⟨none, 0, .is 0⟩ : Sl).v, .int .i64 1], q9.2)) (
 cond (decide ((a5.len : Int) > 16384)) (
 some (.tup [(⟨none, 0, .is 0⟩ : Sl).v, .int .i64 1], q9.2)) (
 go (.pt F.kbq Td.kln [(0, .int .i64 a1), (1, .int .i64 a2), (3, a5.v), (6, .ptr (some h6r)), (11, .int .i64 0)]) q9.2)))))) := (ke _ h).trans (by kernel_rfl)
theorem kzm (a1 : Sl) (a2 : Sl) (h : AH) : go (.fn F.kgk [a1.v, a2.v]) h =
 cond (!decide ((a1.len : Int) = (a2.len : Int))) (
 some (.bool false, h)) (
 go (.pt F.kgk Td.kld [(0, a1.v), (1, a2.v), (5, .int .i64 0)]) h) := (ke _ h).trans (by kernel_rfl)
theorem kxb (a1 : Sl) (a2 : Sl) (h : AH) : go (.fn F.kcg [a1.v, a2.v]) h =
 (kbv (IntKind.wrap .i64 ((a1.len : Int) + (a2.len : Int))) (IntKind.wrap .i64 ((a1.len : Int) + (a2.len : Int))) T.kf (Pg.bytesOf T.kf) [.int .u64 0] h).bind fun q3 =>
 go (.pt F.kcg Td.kl0 [(1, a2.v), (5, q3.1.v), (20, a1.v), (21, .int .i64 (a1.len : Int)), (22, .int .i64 0)]) q3.2 := (ke _ h).trans (by kernel_rfl)
theorem k5r (a1 : Sl) (a2 : Ref) (h : AH) : go (.fn F.kh5 [a1.v, .ptr (some a2)]) h =
 ((h.cell a2).bind (AV.asInt .i64)).bind fun n3 =>
 (cutSl a1 0 (imin n3 (a1.len : Int)) 1).bind fun l4 =>
 (go (.fn F.kbi [l4.v]) h).bind fun q5 =>
 ((some q5.1).bind AV.asSl).bind fun l6 =>
 some (l6.v, q5.2) := (ke _ h).trans (by kernel_rfl)
theorem k57 (a1 : Sl) (a2 : Ref) (h : AH) : go (.fn F.khy [a1.v, .ptr (some a2)]) h =
 ((h.cell a2).bind (AV.asInt .i64)).bind fun n3 =>
 (cutSl a1 (imin n3 (a1.len : Int)) (a1.len : Int) 1).bind fun l4 =>
 some (l4.v, h) := (ke _ h).trans (by kernel_rfl)
theorem k4x (a1 : Sl) (a2 : Sl) (h : AH) : go (.fn F.kcq [a1.v, a2.v]) h =
 cond (decide ((a1.len : Int) < (a2.len : Int))) (
 (kbv (IntKind.wrap .i64 ((a2.len : Int) + 1)) (IntKind.wrap .i64 ((a2.len : Int) + 1)) T.kf (Pg.bytesOf T.kf) [.int .u64 0] h).bind fun q3 =>
 go (.pt F.kcq Td.ke4 [(0, a2.v), (1, a1.v), (5, q3.1.v), (6, .int .u64 0), (21, .int .i64 (a2.len : Int)), (22, .int .i64 0)]) q3.2) (
 (kbv (IntKind.wrap .i64 ((a1.len : Int) + 1)) (IntKind.wrap .i64 ((a1.len : Int) + 1)) T.kf (Pg.bytesOf T.kf) [.int .u64 0] h).bind fun q4 =>
 go (.pt F.kcq Td.ke4 [(0, a1.v), (1, a2.v), (5, q4.1.v), (6, .int .u64 0), (21, .int .i64 (a1.len : Int)), (22, .int .i64 0)]) q4.2) := (ke _ h).trans (by kernel_rfl)
theorem kpo (a1 : Sl) (h : AH) : go (.fn F.kbi [a1.v]) h =
 go (.pt F.kbi Td.kjl [(0, a1.v), (3, .int .i64 (a1.len : Int))]) h := (ke _ h).trans (by kernel_rfl)
theorem k1v (a1 : Sl) (a2 : Sl) (h : AH) : go (.fn F.kcp [a1.v, a2.v]) h =
 (kbv (a1.len : Int) (a1.len : Int) T.kf (Pg.bytesOf T.kf) [.int .u64 0] h).bind fun q3 =>
 go (.pt F.kcp Td.khb [(0, a1.v), (1, a2.v), (5, q3.1.v), (6, .int .u64 0), (13, .int .i64 (a1.len : Int)), (14, .int .i64 0)]) q3.2 := (ke _ h).trans (by kernel_rfl)
theorem kvq (a1 : Sl) (a2 : Sl) (a3 : Int) (h : AH) : go (.fn F.kc0 [a1.v, a2.v, .int .i64 a3]) h =
 go (.pt F.kc0 Td.kfx [(0, a1.v), (1, a2.v), (2, .int .i64 a3), (6, .int .u64 0), (7, .int .i64 a3)]) h := (ke _ h).trans (by kernel_rfl)
theorem k32 (a1 : Int) (a2 : Int) (a3 : Int) (h : AH) : go (.fn F.ki9 [.int .i64 a1, .agg [.int .i64 a2, .int .i64 a3]]) h =
 newK h (.cells [.int .i64 a2, .int .i64 a3] T.kz) fun h4r h4 =>
 newK h4 (.cells [.bool false, (⟨none, 0, .is 0⟩ : Sl).v, (⟨none, 0, .is 0⟩ : Sl).v] T.kj) fun h5r h5 =>
 ((h5.cell (h4r.add 0)).bind (AV.asInt .i64)).bind fun n6 =>
 ((h5.cell (h4r.add 1)).bind (AV.asInt .i64)).bind fun n7 =>
 (go (.fn F.kfp [.agg [.int .i64 n6, .int .i64 n7]]) h5).bind fun q8 =>
 ((some q8.1).bind AV.asBool).bind fun b9 =>
 cond (!b9) (
 (q8.2.puts h5r [.bool false, (⟨none, 0, .is 0⟩ : Sl).v, (⟨none, 0, .is 0⟩ : Sl).v]).bind fun h10 =>
 ((h10.cell (h5r.add 0)).bind AV.asBool).bind fun b11 =>
 ((h10.cell (h5r.add 1)).bind AV.asSl).bind fun l12 =>
 ((h10.cell (h5r.add 2)).bind AV.asSl).bind fun l13 =>
 some (.tup [.agg [.bool b11, l12.v, l13.v], .int .i64 1], h10)) (
 (go (.fn F.kiq [.int .i64 a1]) q8.2).bind fun q14 =>
 ((some q14.1).bind AV.asBool).bind fun b15 =>
 cond (!b15) (
 (q14.2.puts h5r [.bool false, (⟨none, 0, .is 0⟩ : Sl).v, (⟨none, 0, .is 0⟩ : Sl).v]).bind fun h16 =>
 ((h16.cell (h5r.add 0)).bind AV.asBool).bind fun b17 =>
 ((h16.cell (h5r.add 1)).bind AV.asSl).bind fun l18 =>
 ((h16.cell (h5r.add 2)).bind AV.asSl).bind fun l19 =>
 some (.tup [.agg [.bool b17, l18.v, l19.v], .int .i64 1], h16)) (
 ((q14.2.cell (h4r.add 0)).bind (AV.asInt .i64)).bind fun n20 =>
 (go (.fn F.kjy [.int .i64 n20]) q14.2).bind fun q21 =>
 (AV.asAgg q21.1).bind fun cs22 =>
 cond (Nat.beq cs22.length 2) (
 ((cs22[0]?).bind AV.asBool).bind fun b23 =>
 ((cs22[1]?).bind AV.asSl).bind fun l24 =>
 newK q21.2 (.cells [.bool false, (⟨none, 0, .is 0⟩ : Sl).v] T.kg) fun h25r h25 =>
 (h25.puts h25r [.bool b23, l24.v]).bind fun h26 =>
 ((h26.cell (h25r.add 0)).bind AV.asBool).bind fun b27 =>
 ((h26.cell (h25r.add 1)).bind AV.asSl).bind fun l28 =>
 ((h26.cell (h25r.add 0)).bind AV.asBool).bind fun b29 =>
 ((h26.cell (h25r.add 1)).bind AV.asSl).bind fun l30 =>
 (go (.fn F.kmo [.agg [.bool b27, l28.v], .agg [.bool b29, l30.v]]) h26).bind fun q31 =>
 (AV.asTup2 q31.1).bind fun p32 =>
 (AV.asAgg p32.1).bind fun cs33 =>
 cond (Nat.beq cs33.length 2) (
 ((cs33[0]?).bind AV.asBool).bind fun b34 =>
 ((cs33[1]?).bind AV.asSl).bind fun l35 =>
 ((some p32.2).bind (AV.asInt .i64)).bind fun n36 =>
 newK q31.2 (.cells [.bool false, (⟨none, 0, .is 0⟩ : Sl).v] T.kg) fun h37r h37 =>
 (h37.puts h37r [.bool b34, l35.v]).bind fun h38 =>
 ((h38.cell (h37r.add 0)).bind AV.asBool).bind fun b39 =>
 ((h38.cell (h37r.add 1)).bind AV.asSl).bind fun l40 =>
 ((h38.cell (h4r.add 1)).bind (AV.asInt .i64)).bind fun n41 =>
 (go (.fn F.keh [.int .u64 (IntKind.wrap .u64 (IntKind.wrap .i64 (n41 + a1)))]) h38).bind fun q42 =>
 ((some q42.1).bind AV.asSl).bind fun l43 =>
 whenK (SameAt h38 q42.2 h37r 2) (
 (go (.fn F.kg1 [.agg [.bool b39, l40.v], l43.v]) q42.2).bind fun q44 =>
 (AV.asTup2 q44.1).bind fun p45 =>
 (AV.asAgg p45.1).bind fun cs46 =>
 cond (Nat.beq cs46.length 3) (
 ((cs46[0]?).bind AV.asBool).bind fun b47 =>
 ((cs46[1]?).bind AV.asSl).bind fun l48 =>
 ((cs46[2]?).bind AV.asSl).bind fun l49 =>
 ((some p45.2).bind (AV.asInt .i64)).bind fun n50 =>
 (q44.2.puts h5r [.bool b47, l48.v, l49.v]).bind fun h51 =>
 ((h51.cell (h5r.add 0)).bind AV.asBool).bind fun b52 =>
 ((h51.cell (h5r.add 1)).bind AV.asSl).bind fun l53 =>
 ((h51.cell (h5r.add 2)).bind AV.asSl).bind fun l54 =>
 some (.tup [.agg [.bool b52, l53.v, l54.v], .int .i64 n50], h51)) none)) none) none)) := (ke _ h).trans (by kernel_rfl)
theorem kyt (a1 : Int) (a2 : Int) (h : AH) : go (.fn F.kfp [.agg [.int .i64 a1, .int .i64 a2]]) h =
 newK h (.cells [.int .i64 a1, .int .i64 a2] T.kz) fun h3r h3 =>
 ((h3.cell (h3r.add 0)).bind (AV.asInt .i64)).bind fun n4 =>
 cond (decide (n4 ≥ (-1099511627776))) (
 ((h3.cell (h3r.add 0)).bind (AV.asInt .i64)).bind fun n5 =>
 cond (decide (n5 ≤ 1099511627776)) (
 ((h3.cell (h3r.add 1)).bind (AV.asInt .i64)).bind fun n6 =>
 cond (decide (n6 ≥ 0)) (
 ((h3.cell (h3r.add 1)).bind (AV.asInt .i64)).bind fun n7 =>
 some (.bool (decide (n7 ≤ 1048576)), h3)) (
 some (.bool false, h3))) (
 some (.bool false, h3))) (
 some (.bool false, h3)) := (ke _ h).trans (by kernel_rfl)
theorem k35 (a1 : Int) (h : AH) : go (.fn F.kiq [.int .i64 a1]) h =
 cond (decide (a1 ≥ 1)) (
 some (.bool (decide (a1 ≤ 1048576)), h)) (
 some (.bool false, h)) := (ke _ h).trans (by kernel_rfl)
theorem kyn (a1 : Int) (h : AH) : go (.fn F.kjy [.int .i64 a1]) h =
 newK h (.cells [.bool false, (⟨none, 0, .is 0⟩ : Sl).v] T.kg) fun h2r h2 =>
 cond (decide (a1 < 0)) (
 (go (.fn F.keh [.int .u64 (IntKind.wrap .u64 (0 - (IntKind.wrap .u64 a1)))]) h2).bind fun q3 =>
 ((some q3.1).bind AV.asSl).bind fun l4 =>
 (go (.fn F.kcy [.bool true, l4.v]) q3.2).bind fun q5 =>
 (AV.asAgg q5.1).bind fun cs6 =>
 cond (Nat.beq cs6.length 2) (
 ((cs6[0]?).bind AV.asBool).bind fun b7 =>
 ((cs6[1]?).bind AV.asSl).bind fun l8 =>
 (q5.2.puts h2r [.bool b7, l8.v]).bind fun h9 =>
 ((h9.cell (h2r.add 0)).bind AV.asBool).bind fun b10 =>
 ((h9.cell (h2r.add 1)).bind AV.asSl).bind fun l11 =>
 some (.agg [.bool b10, l11.v], h9)) none) (
 (go (.fn F.keh [.int .u64 (IntKind.wrap .u64 a1)]) h2).bind fun q12 =>
 ((some q12.1).bind AV.asSl).bind fun l13 =>
 (go (.fn F.kcy [.bool false, l13.v]) q12.2).bind fun q14 =>
 (AV.asAgg q14.1).bind fun cs15 =>
 cond (Nat.beq cs15.length 2) (
 ((cs15[0]?).bind AV.asBool).bind fun b16 =>
 ((cs15[1]?).bind AV.asSl).bind fun l17 =>
 (q14.2.puts h2r [.bool b16, l17.v]).bind fun h18 =>
 ((h18.cell (h2r.add 0)).bind AV.asBool).bind fun b19 =>
 ((h18.cell (h2r.add 1)).bind AV.asSl).bind fun l20 =>
 some (.agg [.bool b19, l20.v], h18)) none) := (ke _ h).trans (by kernel_rfl)
theorem k4r (a1 : Bool) (a2 : Sl) (a3 : Sl) (h : AH) : go (.fn F.kg1 [.agg [.bool a1, a2.v], a3.v]) h =
 newK h (.cells [.bool a1, a2.v] T.kg) fun h4r h4 =>
 newK h4 (.cells [.bool false, (⟨none, 0, .is 0⟩ : Sl).v, (⟨none, 0, .is 0⟩ : Sl).v] T.kj) fun h5r h5 =>
 ((h5.cell (h4r.add 0)).bind AV.asBool).bind fun b6 =>
 ((h5.cell (h4r.add 1)).bind AV.asSl).bind fun l7 =>
 (go (.fn F.kg7 [.agg [.bool b6, l7.v]]) h5).bind fun q8 =>
 ((some q8.1).bind AV.asBool).bind fun b9 =>
 cond (!b9) (
 (q8.2.puts h5r [.bool false, (⟨none, 0, .is 0⟩ : Sl).v, (⟨none, 0, .is 0⟩ : Sl).v]).bind fun h10 =>
 ((h10.cell (h5r.add 0)).bind AV.asBool).bind fun b11 =>
 ((h10.cell (h5r.add 1)).bind AV.asSl).bind fun l12 =>
 ((h10.cell (h5r.add 2)).bind AV.asSl).bind fun l13 =>
 some (.tup [.agg [.bool b11, l12.v, l13.v], .int .i64 1], h10)) (
 (go (.fn F.kes [a3.v]) q8.2).bind fun q14 =>
 ((some q14.1).bind AV.asBool).bind fun b15 =>
 cond (!b15) (
 (q14.2.puts h5r [.bool false, (⟨none, 0, .is 0⟩ : Sl).v, (⟨none, 0, .is 0⟩ : Sl).v]).bind fun h16 =>
 ((h16.cell (h5r.add 0)).bind AV.asBool).bind fun b17 =>
 ((h16.cell (h5r.add 1)).bind AV.asSl).bind fun l18 =>
 ((h16.cell (h5r.add 2)).bind AV.asSl).bind fun l19 =>
 some (.tup [.agg [.bool b17, l18.v, l19.v], .int .i64 1], h16)) (
 cond (decide ((a3.len : Int) = 0)) (
 (q14.2.puts h5r [.bool false, (⟨none, 0, .is 0⟩ : Sl).v, (⟨none, 0, .is 0⟩ : Sl).v]).bind fun h20 =>
 ((h20.cell (h5r.add 0)).bind AV.asBool).bind fun b21 =>
 ((h20.cell (h5r.add 1)).bind AV.asSl).bind fun l22 =>
 ((h20.cell (h5r.add 2)).bind AV.asSl).bind fun l23 =>
 some (.tup [.agg [.bool b21, l22.v, l23.v], .int .i64 3], h20)) (
 ((q14.2.cell (h4r.add 1)).bind AV.asSl).bind fun l24 =>
 (go (.fn F.kd5 [l24.v, a3.v]) q14.2).bind fun q25 =>
 (AV.asTup2 q25.1).bind fun p26 =>
 ((some p26.1).bind AV.asSl).bind fun l27 =>
 ((some p26.2).bind (AV.asInt .i64)).bind fun n28 =>
 ((q25.2.cell (h4r.add 1)).bind AV.asSl).bind fun l29 =>
 (go (.fn F.khv [l29.v, l27.v]) q25.2).bind fun q30 =>
 (AV.asTup3 q30.1).bind fun p31 =>
 ((some p31.1).bind AV.asSl).bind fun l32 =>
 ((some p31.2.1).bind AV.asSl).bind fun l33 =>
 ((some p31.2.2).bind (AV.asInt .i64)).bind fun n34 =>
 (go (.fn F.khv [a3.v, l27.v]) q30.2).bind fun q35 =>
 (AV.asTup3 q35.1).bind fun p36 =>
 ((some p36.1).bind AV.asSl).bind fun l37 =>
 ((some p36.2.1).bind AV.asSl).bind fun l38 =>
 ((some p36.2.2).bind (AV.asInt .i64)).bind fun n39 =>
 cond (decide ((imax (l32.len : Int) (l37.len : Int)) > 16)) (
 (q35.2.puts h5r [.bool false, (⟨none, 0, .is 0⟩ : Sl).v, (⟨none, 0, .is 0⟩ : Sl).v]).bind fun h40 =>
 ((h40.cell (h5r.add 0)).bind AV.asBool).bind fun b41 =>
 ((h40.cell (h5r.add 1)).bind AV.asSl).bind fun l42 =>
 ((h40.cell (h5r.add 2)).bind AV.asSl).bind fun l43 =>
 some (.tup [.agg [.bool b41, l42.v, l43.v], .int .i64 4], h40)) (
 ((q35.2.cell (h4r.add 0)).bind AV.asBool).bind fun b44 =>
 (go (.fn F.kcy [.bool b44, l32.v]) q35.2).bind fun q45 =>
 (AV.asAgg q45.1).bind fun cs46 =>
 cond (Nat.beq cs46.length 2) (
 ((cs46[0]?).bind AV.asBool).bind fun b47 =>
 ((cs46[1]?).bind AV.asSl).bind fun l48 =>
 (q45.2.puts h5r [.bool b47, l48.v, l37.v]).bind fun h49 =>
 ((h49.cell (h5r.add 0)).bind AV.asBool).bind fun b50 =>
 ((h49.cell (h5r.add 1)).bind AV.asSl).bind fun l51 =>
 ((h49.cell (h5r.add 2)).bind AV.asSl).bind fun l52 =>
 some (.tup [.agg [.bool b50, l51.v, l52.v], .int .i64 0], h49)) none)))) := (ke _ h).trans (by kernel_rfl)
theorem ksg (a1 : Int) (a2 : Ref) (a3 : Ref) (a4 : Ref) (a5 : Ref) (a6 : Sl) (a7 : Int) (a8 : Int) (h : AH) : go (.pt F.kdx Td.kfr [(0, .int .i64 a1), (6, .ptr (some a2)), (10, .ptr (some a3)), (13, .func (.func F.kdj) [] [.ptr (some a4), .ptr (some a5)]), (47, a6.v), (48, .int .i64 a7), (49, .int .i64 a8)]) h =
 cond (decide (a8 < a7)) (
 (idx a6.ref a6.len a8 2).bind fun r9 =>
 ((h.cell (r9.add 0)).bind (AV.asInt .i64)).bind fun n10 =>
 ((h.cell (r9.add 1)).bind (AV.asInt .i64)).bind fun n11 =>
 newK h (.cells [.int .i64 0, .int .i64 0] T.kz) fun h12r h12 =>
 (h12.puts h12r [.int .i64 n10, .int .i64 n11]).bind fun h13 =>
 ((h13.cell (h12r.add 0)).bind (AV.asInt .i64)).bind fun n14 =>
 ((h13.cell (h12r.add 1)).bind (AV.asInt .i64)).bind fun n15 =>
 ((h13.cell (a2.add 0)).bind (AV.asInt .i64)).bind fun n16 =>
 ((h13.cell (a2.add 1)).bind (AV.asInt .i64)).bind fun n17 =>
 (go (.fn F.klu [.int .i64 a1, .agg [.int .i64 n14, .int .i64 n15], .agg [.int .i64 n16, .int .i64 n17]]) h13).bind fun q18 =>
 (AV.asTup2 q18.1).bind fun p19 =>
 (AV.asAgg p19.1).bind fun cs20 =>
 cond (Nat.beq cs20.length 3) (
 ((cs20[0]?).bind AV.asBool).bind fun b21 =>
 ((cs20[1]?).bind AV.asSl).bind fun l22 =>
 ((cs20[2]?).bind AV.asSl).bind fun l23 =>
 ((some p19.2).bind (AV.asInt .i64)).bind fun n24 =>
 newK q18.2 (.cells [.bool false, (⟨none, 0, .is 0⟩ : Sl).v, (⟨none, 0, .is 0⟩ : Sl).v] T.kj) fun h25r h25 =>
 (h25.puts h25r [.bool b21, l22.v, l23.v]).bind fun h26 =>
 cond (!decide (n24 = 0)) (
 some (.tup [(⟨none, 0, .is 0⟩ : Sl).v, .int .i64 n24], h26)) (
 ((h26.cell (h12r.add 1)).bind (AV.asInt .i64)).bind fun n27 =>
 cond (decide (n27 > 0)) (
 ((h26.cell (h12r.add 1)).bind (AV.asInt .i64)).bind fun n28 =>
 ((h26.cell (a2.add 1)).bind (AV.asInt .i64)).bind fun n29 =>
 cond (decide (n28 < n29)) (
 ((h26.cell (h25r.add 0)).bind AV.asBool).bind fun b30 =>
 ((h26.cell (h25r.add 1)).bind AV.asSl).bind fun l31 =>
 ((h26.cell (h25r.add 2)).bind AV.asSl).bind fun l32 =>
 (go (.fn F.kdj [.int .i64 a8, .agg [.bool b30, l31.v, l32.v], .ptr (some a4), .ptr (some a5)]) h26).bind fun q33 =>
 (AV.asTup0 q33.1).bind fun _ =>
 go (.pt F.kdx Td.kfr [(0, .int .i64 a1), (6, .ptr (some a2)), (10, .ptr (some a3)), (13, .func (.func F.kdj) [] [.ptr (some a4), .ptr (some a5)]), (47, a6.v), (48, .int .i64 a7), (49, .int .i64 (IntKind.wrap .i64 (a8 + 1)))]) q33.2) (
 go (.pt F.kdx Td.kfr [(0, .int .i64 a1), (6, .ptr (some a2)), (10, .ptr (some a3)), (13, .func (.func F.kdj) [] [.ptr (some a4), .ptr (some a5)]), (47, a6.v), (48, .int .i64 a7), (49, .int .i64 (IntKind.wrap .i64 (a8 + 1)))]) h26)) (
 go (.pt F.kdx Td.kfr [(0, .int .i64 a1), (6, .ptr (some a2)), (10, .ptr (some a3)), (13, .func (.func F.kdj) [] [.ptr (some a4), .ptr (some a5)]), (47, a6.v), (48, .int .i64 a7), (49, .int .i64 (IntKind.wrap .i64 (a8 + 1)))]) h26))) none) (
 ((h.cell a3).bind AV.asSl).bind fun l34 =>
 some (.tup [l34.v, .int .i64 0], h)) := (ke _ h).trans (by kernel_rfl)
theorem kyb (a1 : Int) (a2 : Int) (h : AH) : go (.fn F.ke1 [.agg [.int .i64 a1, .int .i64 a2]]) h =
 newK h (.cells [.int .i64 a1, .int .i64 a2] T.kz) fun h3r h3 =>
 ((h3.cell (h3r.add 0)).bind (AV.asInt .i64)).bind fun n4 =>
 cond (decide (n4 ≥ (-1099511627776))) (
 ((h3.cell (h3r.add 0)).bind (AV.asInt .i64)).bind fun n5 =>
 cond (decide (n5 ≤ 1099511627776)) (
 ((h3.cell (h3r.add 1)).bind (AV.asInt .i64)).bind fun n6 =>
 cond (decide (n6 ≥ 0)) (
 ((h3.cell (h3r.add 1)).bind (AV.asInt .i64)).bind fun n7 =>
 some (.bool (decide (n7 ≤ 1048576)), h3)) (
 some (.bool false, h3))) (
 some (.bool false, h3))) (
 some (.bool false, h3)) := (ke _ h).trans (by kernel_rfl)
theorem kt4 (a1 : Int) (a2 : Int) (a3 : Sl) (a4 : Ref) (a5 : Int) (h : AH) : go (.pt F.kbq Td.kln [(0, .int .i64 a1), (1, .int .i64 a2), (3, a3.v), (6, .ptr (some a4)), (11, .int .i64 a5)]) h =
 cond (decide (a5 < (a3.len : Int))) (
 newK h (.cells [.int .i64 0, .int .i64 0] T.kz) fun h6r h6 =>
 (idx a3.ref a3.len a5 2).bind fun r7 =>
 ((h6.cell (r7.add 0)).bind (AV.asInt .i64)).bind fun n8 =>
 ((h6.cell (r7.add 1)).bind (AV.asInt .i64)).bind fun n9 =>
 ((h6.cell (a4.add 0)).bind (AV.asInt .i64)).bind fun n10 =>
 ((h6.cell (a4.add 1)).bind (AV.asInt .i64)).bind fun n11 =>
 (go (.fn F.kjq [.agg [.int .i64 n8, .int .i64 n9], .agg [.int .i64 n10, .int .i64 n11]]) h6).bind fun q12 =>
 (AV.asTup2 q12.1).bind fun p13 =>
 (AV.asAgg p13.1).bind fun cs14 =>
 cond (Nat.beq cs14.length 2) (
 ((cs14[0]?).bind (AV.asInt .i64)).bind fun n15 =>
 ((cs14[1]?).bind (AV.asInt .i64)).bind fun n16 =>
 ((some p13.2).bind AV.asBool).bind fun b17 =>
 whenK (SameAt h6 q12.2 h6r 0) (
 (q12.2.puts h6r [.int .i64 n15, .int .i64 n16]).bind fun h18 =>
 cond (!b17) (
 some (.tup [(⟨none, 0, .is 0⟩ : Sl).v, .int .i64 1], h18)) (
 go (.pt F.kbq Td.kln [(0, .int .i64 a1), (1, .int .i64 a2), (3, a3.v), (6, .ptr (some a4)), (11, .int .i64 (IntKind.wrap .i64 (a5 + 1)))]) h18))) none) (
 (go (.fn F.kgd [.int .i64 a2]) h).bind fun q19 =>
 (AV.asAgg q19.1).bind fun cs20 =>
 cond (Nat.beq cs20.length 2) (
 ((cs20[0]?).bind AV.asBool).bind fun b21 =>
 ((cs20[1]?).bind AV.asSl).bind fun l22 =>
 (go (.fn F.kgd [.int .i64 1]) q19.2).bind fun q23 =>
 (AV.asAgg q23.1).bind fun cs24 =>
 cond (Nat.beq cs24.length 2) (
 ((cs24[0]?).bind AV.asBool).bind fun b25 =>
 ((cs24[1]?).bind AV.asSl).bind fun l26 =>
 (go (.fn F.kg4 [.agg [.bool b21, l22.v], l26.v]) q23.2).bind fun q27 =>
 (AV.asTup2 q27.1).bind fun p28 =>
 (AV.asAgg p28.1).bind fun cs29 =>
 cond (Nat.beq cs29.length 3) (
 ((cs29[0]?).bind AV.asBool).bind fun b30 =>
 ((cs29[1]?).bind AV.asSl).bind fun l31 =>
 ((cs29[2]?).bind AV.asSl).bind fun l32 =>
 ((some p28.2).bind (AV.asInt .i64)).bind fun n33 =>
 newK q27.2 (.cells [.bool false, (⟨none, 0, .is 0⟩ : Sl).v, (⟨none, 0, .is 0⟩ : Sl).v] T.kj) fun h34r h34 =>
 (h34.puts h34r [.bool b30, l31.v, l32.v]).bind fun h35 =>
 go (.pt F.kbq Td.kcu [(0, .int .i64 a1), (3, a3.v), (6, .ptr (some a4)), (14, .ptr (some h34r)), (16, (⟨none, 0, .is 0⟩ : Sl).v), (17, .int .i64 0)]) h35) none) none) none) := (ke _ h).trans (by kernel_rfl)
theorem ktu (a1 : Sl) (a2 : Sl) (a3 : Int) (h : AH) : go (.pt F.kgk Td.kld [(0, a1.v), (1, a2.v), (5, .int .i64 a3)]) h =
 cond (decide (a3 < (a1.len : Int))) (
 (idx a1.ref a1.len a3 1).bind fun r4 =>
 ((h.cell r4).bind (AV.asInt .i64)).bind fun n5 =>
 (idx a2.ref a2.len a3 1).bind fun r6 =>
 ((h.cell r6).bind (AV.asInt .i64)).bind fun n7 =>
 cond (!decide (n5 = n7)) (
 some (.bool false, h)) (
 go (.pt F.kgk Td.kld [(0, a1.v), (1, a2.v), (5, .int .i64 (IntKind.wrap .i64 (a3 + 1)))]) h)) (
 some (.bool true, h)) := (ke _ h).trans (by kernel_rfl)
theorem kvz (a1 : Sl) (a2 : Sl) (a3 : Sl) (a4 : Int) (a5 : Int) (h : AH) : go (.pt F.kcg Td.kl0 [(1, a1.v), (5, a2.v), (20, a3.v), (21, .int .i64 a4), (22, .int .i64 a5)]) h =
 cond (decide (a5 < a4)) (
 (idx a3.ref a3.len a5 1).bind fun r6 =>
 ((h.cell r6).bind (AV.asInt .u64)).bind fun n7 =>
 go (.pt F.kcg Td.kkn [(1, a1.v), (5, a2.v), (6, .int .i64 a5), (7, .int .u64 n7), (8, .int .u64 0), (20, a3.v), (21, .int .i64 a4), (22, .int .i64 a5), (27, a1.v), (28, .int .i64 (a1.len : Int)), (29, .int .i64 0)]) h) (
 (go (.fn F.kbi [a2.v]) h).bind fun q8 =>
 ((some q8.1).bind AV.asSl).bind fun l9 =>
 some (l9.v, q8.2)) := (ke _ h).trans (by kernel_rfl)
theorem kr5 (a1 : Sl) (a2 : Sl) (a3 : Sl) (a4 : Int) (a5 : Int) (a6 : Int) (h : AH) : go (.pt F.kcq Td.ke4 [(0, a1.v), (1, a2.v), (5, a3.v), (6, .int .u64 a4), (21, .int .i64 a5), (22, .int .i64 a6)]) h =
 cond (decide (a6 < a5)) (
 cond (decide (a6 < (a2.len : Int))) (
 (idx a2.ref a2.len a6 1).bind fun r7 =>
 ((h.cell r7).bind (AV.asInt .u64)).bind fun n8 =>
 (idx a1.ref a1.len a6 1).bind fun r9 =>
 ((h.cell r9).bind (AV.asInt .u64)).bind fun n10 =>
 ((prim "math/bits.Add64" [.int .u64 n10, .int .u64 n8, .int .u64 a4]).map fun v => (v, h)).bind fun q11 =>
 (AV.asTup2 q11.1).bind fun p12 =>
 ((some p12.1).bind (AV.asInt .u64)).bind fun n13 =>
 ((some p12.2).bind (AV.asInt .u64)).bind fun n14 =>
 (idx a3.ref a3.len a6 1).bind fun r15 =>
 (q11.2.puts r15 [.int .u64 n13]).bind fun h16 =>
 go (.pt F.kcq Td.ke4 [(0, a1.v), (1, a2.v), (5, a3.v), (6, .int .u64 n14), (21, .int .i64 a5), (22, .int .i64 (IntKind.wrap .i64 (a6 + 1)))]) h16) (
 (idx a1.ref a1.len a6 1).bind fun r17 =>
 ((h.cell r17).bind (AV.asInt .u64)).bind fun n18 =>
 ((prim "math/bits.Add64" [.int .u64 n18, .int .u64 0, .int .u64 a4]).map fun v => (v, h)).bind fun q19 =>
 (AV.asTup2 q19.1).bind fun p20 =>
 ((some p20.1).bind (AV.asInt .u64)).bind fun n21 =>
 ((some p20.2).bind (AV.asInt .u64)).bind fun n22 =>
 (idx a3.ref a3.len a6 1).bind fun r23 =>
 (q19.2.puts r23 [.int .u64 n21]).bind fun h24 =>
 go (.pt F.kcq Td.ke4 [(0, a1.v), (1, a2.v), (5, a3.v), (6, .int .u64 n22), (21, .int .i64 a5), (22, .int .i64 (IntKind.wrap .i64 (a6 + 1)))]) h24)) (
 (idx a3.ref a3.len (a1.len : Int) 1).bind fun r25 =>
 (h.puts r25 [.int .u64 a4]).bind fun h26 =>
 some (a3.v, h26)) := (ke _ h).trans (by kernel_rfl)
theorem kmp (a1 : Sl) (a2 : Int) (h : AH) : go (.pt F.kbi Td.kjl [(0, a1.v), (3, .int .i64 a2)]) h =
 cond (decide (a2 > 0)) (
 (idx a1.ref a1.len (IntKind.wrap .i64 (a2 - 1)) 1).bind fun r3 =>
 ((h.cell r3).bind (AV.asInt .u64)).bind fun n4 =>
 cond (decide (n4 = 0)) (
 go (.pt F.kbi Td.kjl [(0, a1.v), (3, .int .i64 (IntKind.wrap .i64 (a2 - 1)))]) h) (
 (cutSl a1 0 a2 1).bind fun l5 =>
 some (l5.v, h))) (
 (cutSl a1 0 a2 1).bind fun l6 =>
 some (l6.v, h)) := (ke _ h).trans (by kernel_rfl)
theorem kp3 (a1 : Sl) (a2 : Sl) (a3 : Sl) (a4 : Int) (a5 : Int) (a6 : Int) (h : AH) : go (.pt F.kcp Td.khb [(0, a1.v), (1, a2.v), (5, a3.v), (6, .int .u64 a4), (13, .int .i64 a5), (14, .int .i64 a6)]) h =
 cond (decide (a6 < a5)) (
 cond (decide (a6 < (a2.len : Int))) (
 (idx a2.ref a2.len a6 1).bind fun r7 =>
 ((h.cell r7).bind (AV.asInt .u64)).bind fun n8 =>
 (idx a1.ref a1.len a6 1).bind fun r9 =>
 ((h.cell r9).bind (AV.asInt .u64)).bind fun n10 =>
 ((prim "math/bits.Sub64" [.int .u64 n10, .int .u64 n8, .int .u64 a4]).map fun v => (v, h)).bind fun q11 =>
 (AV.asTup2 q11.1).bind fun p12 =>
 ((some p12.1).bind (AV.asInt .u64)).bind fun n13 =>
 ((some p12.2).bind (AV.asInt .u64)).bind fun n14 =>
 (idx a3.ref a3.len a6 1).bind fun r15 =>
 (q11.2.puts r15 [.int .u64 n13]).bind fun h16 =>
 go (.pt F.kcp Td.khb [(0, a1.v), (1, a2.v), (5, a3.v), (6, .int .u64 n14), (13, .int .i64 a5), (14, .int .i64 (IntKind.wrap .i64 (a6 + 1)))]) h16) (
 (idx a1.ref a1.len a6 1).bind fun r17 =>
 ((h.cell r17).bind (AV.asInt .u64)).bind fun n18 =>
 ((prim "math/bits.Sub64" [.int .u64 n18, .int .u64 0, .int .u64 a4]).map fun v => (v, h)).bind fun q19 =>
 (AV.asTup2 q19.1).bind fun p20 =>
 ((some p20.1).bind (AV.asInt .u64)).bind fun n21 =>
 ((some p20.2).bind (AV.asInt .u64)).bind fun n22 =>
 (idx a3.ref a3.len a6 1).bind fun r23 =>
 (q19.2.puts r23 [.int .u64 n21]).bind fun h24 =>
 go (.pt F.kcp Td.khb [(0, a1.v), (1, a2.v), (5, a3.v), (6, .int .u64 n22), (13, .int .i64 a5), (14, .int .i64 (IntKind.wrap .i64 (a6 + 1)))]) h24)) (
 some (a3.v, h)) := (ke _ h).trans (by kernel_rfl)
theorem k2m (a1 : Sl) (a2 : Sl) (a3 : Int) (a4 : Int) (a5 : Int) (h : AH) : go (.pt F.kc0 Td.kfx [(0, a1.v), (1, a2.v), (2, .int .i64 a3), (6, .int .u64 a4), (7, .int .i64 a5)]) h =
 cond (decide (a5 < (a1.len : Int))) (
 cond (decide ((IntKind.wrap .i64 (a5 - a3)) < (a2.len : Int))) (
 cond (decide ((IntKind.wrap .i64 (a5 - a3)) < (a2.len : Int))) (
 (idx a2.ref a2.len (IntKind.wrap .i64 (a5 - a3)) 1).bind fun r6 =>
 ((h.cell r6).bind (AV.asInt .u64)).bind fun n7 =>
 (idx a1.ref a1.len a5 1).bind fun r8 =>
 ((h.cell r8).bind (AV.asInt .u64)).bind fun n9 =>
 ((prim "math/bits.Add64" [.int .u64 n9, .int .u64 n7, .int .u64 a4]).map fun v => (v, h)).bind fun q10 =>
 (AV.asTup2 q10.1).bind fun p11 =>
 ((some p11.1).bind (AV.asInt .u64)).bind fun n12 =>
 ((some p11.2).bind (AV.asInt .u64)).bind fun n13 =>
 (idx a1.ref a1.len a5 1).bind fun r14 =>
 (q10.2.puts r14 [.int .u64 n12]).bind fun h15 =>
 go (.pt F.kc0 Td.kfx [(0, a1.v), (1, a2.v), (2, .int .i64 a3), (6, .int .u64 n13), (7, .int .i64 (IntKind.wrap .i64 (a5 + 1)))]) h15) (
 (idx a1.ref a1.len a5 1).bind fun r16 =>
 ((h.cell r16).bind (AV.asInt .u64)).bind fun n17 =>
 ((prim "math/bits.Add64" [.int .u64 n17, .int .u64 0, .int .u64 a4]).map fun v => (v, h)).bind fun q18 =>
 (AV.asTup2 q18.1).bind fun p19 =>
 ((some p19.1).bind (AV.asInt .u64)).bind fun n20 =>
 ((some p19.2).bind (AV.asInt .u64)).bind fun n21 =>
 (idx a1.ref a1.len a5 1).bind fun r22 =>
 (q18.2.puts r22 [.int .u64 n20]).bind fun h23 =>
 go (.pt F.kc0 Td.kfx [(0, a1.v), (1, a2.v), (2, .int .i64 a3), (6, .int .u64 n21), (7, .int .i64 (IntKind.wrap .i64 (a5 + 1)))]) h23)) (
 cond (decide (a4 > 0)) (
 cond (decide ((IntKind.wrap .i64 (a5 - a3)) < (a2.len : Int))) (
 (idx a2.ref a2.len (IntKind.wrap .i64 (a5 - a3)) 1).bind fun r24 =>
 ((h.cell r24).bind (AV.asInt .u64)).bind fun n25 =>
 (idx a1.ref a1.len a5 1).bind fun r26 =>
 ((h.cell r26).bind (AV.asInt .u64)).bind fun n27 =>
 ((prim "math/bits.Add64" [.int .u64 n27, .int .u64 n25, .int .u64 a4]).map fun v => (v, h)).bind fun q28 =>
 (AV.asTup2 q28.1).bind fun p29 =>
 ((some p29.1).bind (AV.asInt .u64)).bind fun n30 =>
 ((some p29.2).bind (AV.asInt .u64)).bind fun n31 =>
 (idx a1.ref a1.len a5 1).bind fun r32 =>
 (q28.2.puts r32 [.int .u64 n30]).bind fun h33 =>
 go (.pt F.kc0 Td.kfx [(0, a1.v), (1, a2.v), (2, .int .i64 a3), (6, .int .u64 n31), (7, .int .i64 (IntKind.wrap .i64 (a5 + 1)))]) h33) (
 (idx a1.ref a1.len a5 1).bind fun r34 =>
 ((h.cell r34).bind (AV.asInt .u64)).bind fun n35 =>
 ((prim "math/bits.Add64" [.int .u64 n35, .int .u64 0, .int .u64 a4]).map fun v => (v, h)).bind fun q36 =>
 (AV.asTup2 q36.1).bind fun p37 =>
 ((some p37.1).bind (AV.asInt .u64)).bind fun n38 =>
 ((some p37.2).bind (AV.asInt .u64)).bind fun n39 =>
 (idx a1.ref a1.len a5 1).bind fun r40 =>
 (q36.2.puts r40 [.int .u64 n38]).bind fun h41 =>
 go (.pt F.kc0 Td.kfx [(0, a1.v), (1, a2.v), (2, .int .i64 a3), (6, .int .u64 n39), (7, .int .i64 (IntKind.wrap .i64 (a5 + 1)))]) h41)) (
 some (.tup [], h)))) (
 some (.tup [], h)) := (ke _ h).trans (by kernel_rfl)
theorem k3p (a1 : Bool) (a2 : Sl) (a3 : Bool) (a4 : Sl) (h : AH) : go (.fn F.kmo [.agg [.bool a1, a2.v], .agg [.bool a3, a4.v]]) h =
 newK h (.cells [.bool a1, a2.v] T.kg) fun h5r h5 =>
 newK h5 (.cells [.bool a3, a4.v] T.kg) fun h6r h6 =>
 newK h6 (.cells [.bool false, (⟨none, 0, .is 0⟩ : Sl).v] T.kg) fun h7r h7 =>
 ((h7.cell (h5r.add 0)).bind AV.asBool).bind fun b8 =>
 ((h7.cell (h5r.add 1)).bind AV.asSl).bind fun l9 =>
 ((h7.cell (h6r.add 0)).bind AV.asBool).bind fun b10 =>
 ((h7.cell (h6r.add 1)).bind AV.asSl).bind fun l11 =>
 newK h7 (.cells [.bool b8, l9.v, .bool b10, l11.v] T.kg) fun h12r h12 =>
 (go (.fn F.kf2 [(⟨some h12r, 2, .is 2⟩ : Sl).v]) h12).bind fun q13 =>
 ((some q13.1).bind AV.asBool).bind fun b14 =>
 cond (!b14) (
 (q13.2.puts h7r [.bool false, (⟨none, 0, .is 0⟩ : Sl).v]).bind fun h15 =>
 ((h15.cell (h7r.add 0)).bind AV.asBool).bind fun b16 =>
 ((h15.cell (h7r.add 1)).bind AV.asSl).bind fun l17 =>
 some (.tup [.agg [.bool b16, l17.v], .int .i64 1], h15)) (
 ((q13.2.cell (h5r.add 1)).bind AV.asSl).bind fun l18 =>
 ((q13.2.cell (h6r.add 1)).bind AV.asSl).bind fun l19 =>
 (go (.fn F.kiy [l18.v, l19.v]) q13.2).bind fun q20 =>
 (AV.asTup2 q20.1).bind fun p21 =>
 ((some p21.1).bind AV.asSl).bind fun l22 =>
 ((some p21.2).bind (AV.asInt .i64)).bind fun n23 =>
 ((q20.2.cell (h5r.add 0)).bind AV.asBool).bind fun b24 =>
 ((q20.2.cell (h6r.add 0)).bind AV.asBool).bind fun b25 =>
 (go (.fn F.kcy [.bool (!(b24 == b25)), l22.v]) q20.2).bind fun q26 =>
 (AV.asAgg q26.1).bind fun cs27 =>
 cond (Nat.beq cs27.length 2) (
 ((cs27[0]?).bind AV.asBool).bind fun b28 =>
 ((cs27[1]?).bind AV.asSl).bind fun l29 =>
 (q26.2.puts h7r [.bool b28, l29.v]).bind fun h30 =>
 ((h30.cell (h7r.add 0)).bind AV.asBool).bind fun b31 =>
 ((h30.cell (h7r.add 1)).bind AV.asSl).bind fun l32 =>
 some (.tup [.agg [.bool b31, l32.v], .int .i64 n23], h30)) none) := (ke _ h).trans (by kernel_rfl)
theorem k2l (a1 : Int) (h : AH) : go (.fn F.keh [.int .u64 a1]) h =
 newK h (.cells [.int .u64 a1] T.kf) fun h2r h2 =>
 (go (.fn F.kbi [(⟨some h2r, 1, .is 1⟩ : Sl).v]) h2).bind fun q3 =>
 ((some q3.1).bind AV.asSl).bind fun l4 =>
 some (l4.v, q3.2) := (ke _ h).trans (by kernel_rfl)
theorem k6c (a1 : Bool) (a2 : Sl) (h : AH) : go (.fn F.kcy [.bool a1, a2.v]) h =
 newK h (.cells [.bool false, (⟨none, 0, .is 0⟩ : Sl).v] T.kg) fun h3r h3 =>
 (go (.fn F.kes [a2.v]) h3).bind fun q4 =>
 ((some q4.1).bind AV.asBool).bind fun b5 =>
 cond (!b5) (
 (q4.2.puts h3r [.bool false, (⟨none, 0, .is 0⟩ : Sl).v]).bind fun h6 =>
 ((h6.cell (h3r.add 0)).bind AV.asBool).bind fun b7 =>
 ((h6.cell (h3r.add 1)).bind AV.asSl).bind fun l8 =>
 some (.agg [.bool b7, l8.v], h6)) (
 cond (decide ((a2.len : Int) = 0)) (
 (q4.2.puts h3r [.bool false, (⟨none, 0, .is 0⟩ : Sl).v]).bind fun h9 =>
 ((h9.cell (h3r.add 0)).bind AV.asBool).bind fun b10 =>
 ((h9.cell (h3r.add 1)).bind AV.asSl).bind fun l11 =>
 some (.agg [.bool b10, l11.v], h9)) (
 (go (.fn F.kfw [a2.v]) q4.2).bind fun q12 =>
 ((some q12.1).bind AV.asSl).bind fun l13 =>
 (q12.2.puts h3r [.bool a1, l13.v]).bind fun h14 =>
 ((h14.cell (h3r.add 0)).bind AV.asBool).bind fun b15 =>
 ((h14.cell (h3r.add 1)).bind AV.asSl).bind fun l16 =>
 some (.agg [.bool b15, l16.v], h14))) := (ke _ h).trans (by kernel_rfl)
theorem kvg (a1 : Bool) (a2 : Sl) (h : AH) : go (.fn F.kg7 [.agg [.bool a1, a2.v]]) h =
 newK h (.cells [.bool a1, a2.v] T.kg) fun h3r h3 =>
 ((h3.cell (h3r.add 1)).bind AV.asSl).bind fun l4 =>
 (go (.fn F.kes [l4.v]) h3).bind fun q5 =>
 ((some q5.1).bind AV.asBool).bind fun b6 =>
 cond b6 (
 ((q5.2.cell (h3r.add 0)).bind AV.asBool).bind fun b7 =>
 cond (!b7) (
 some (.bool true, q5.2)) (
 ((q5.2.cell (h3r.add 1)).bind AV.asSl).bind fun l8 =>
 some (.bool (decide ((l8.len : Int) > 0)), q5.2))) (
 some (.bool false, q5.2)) := (ke _ h).trans (by kernel_rfl)
theorem kzo (a1 : Sl) (h : AH) : go (.fn F.kes [a1.v]) h =
 cond (decide ((a1.len : Int) ≤ 64)) (
 cond (decide ((a1.len : Int) = 0)) (
 some (.bool true, h)) (
 (idx a1.ref a1.len (IntKind.wrap .i64 ((a1.len : Int) - 1)) 1).bind fun r2 =>
 ((h.cell r2).bind (AV.asInt .u64)).bind fun n3 =>
 some (.bool (!decide (n3 = 0)), h))) (
 some (.bool false, h)) := (ke _ h).trans (by kernel_rfl)
theorem ky9 (a1 : Sl) (a2 : Sl) (h : AH) : go (.fn F.kd5 [a1.v, a2.v]) h =
 (go (.fn F.kes [a1.v]) h).bind fun q3 =>
 ((some q3.1).bind AV.asBool).bind fun b4 =>
 cond (!b4) (
 some (.tup [(⟨none, 0, .is 0⟩ : Sl).v, .int .i64 1], q3.2)) (
 (go (.fn F.kes [a2.v]) q3.2).bind fun q5 =>
 ((some q5.1).bind AV.asBool).bind fun b6 =>
 cond (!b6) (
 some (.tup [(⟨none, 0, .is 0⟩ : Sl).v, .int .i64 1], q5.2)) (
 (go (.fn F.kfw [a1.v]) q5.2).bind fun q7 =>
 ((some q7.1).bind AV.asSl).bind fun l8 =>
 (go (.fn F.kfw [a2.v]) q7.2).bind fun q9 =>
 ((some q9.1).bind AV.asSl).bind fun l10 =>
 go (.pt F.kd5 Td.klf [(0, l8.v), (1, l10.v)]) q9.2)) := (ke _ h).trans (by kernel_rfl)
theorem kxa (a1 : Sl) (a2 : Sl) (h : AH) : go (.fn F.khv [a1.v, a2.v]) h =
 newK h (.cells [a1.v, a2.v] T.kcb) fun h3r h3 =>
 (go (.fn F.kev [(⟨some h3r, 2, .is 2⟩ : Sl).v]) h3).bind fun q4 =>
 ((some q4.1).bind AV.asBool).bind fun b5 =>
 cond (!b5) (
 some (.tup [(⟨none, 0, .is 0⟩ : Sl).v, (⟨none, 0, .is 0⟩ : Sl).v, .int .i64 1], q4.2)) (
 cond (decide ((a2.len : Int) = 0)) (
 some (.tup [(⟨none, 0, .is 0⟩ : Sl).v, (⟨none, 0, .is 0⟩ : Sl).v, .int .i64 3], q4.2)) (
 (go (.fn F.kdk [a1.v, a2.v]) q4.2).bind fun q6 =>
 ((some q6.1).bind (AV.asInt .i64)).bind fun n7 =>
 cond (decide (n7 < 0)) (
 (go (.fn F.kfw [a1.v]) q6.2).bind fun q8 =>
 ((some q8.1).bind AV.asSl).bind fun l9 =>
 some (.tup [(⟨none, 0, .is 0⟩ : Sl).v, l9.v, .int .i64 0], q8.2)) (
 cond (decide ((a2.len : Int) = 1)) (
 (idx a2.ref a2.len 0 1).bind fun r10 =>
 ((q6.2.cell r10).bind (AV.asInt .u64)).bind fun n11 =>
 (go (.fn F.keq [a1.v, .int .u64 n11]) q6.2).bind fun q12 =>
 (AV.asTup2 q12.1).bind fun p13 =>
 ((some p13.1).bind AV.asSl).bind fun l14 =>
 ((some p13.2).bind (AV.asInt .u64)).bind fun n15 =>
 (go (.fn F.keh [.int .u64 n15]) q12.2).bind fun q16 =>
 ((some q16.1).bind AV.asSl).bind fun l17 =>
 some (.tup [l14.v, l17.v, .int .i64 0], q16.2)) (
 (go (.fn F.kbz [a1.v, a2.v]) q6.2).bind fun q18 =>
 (AV.asTup2 q18.1).bind fun p19 =>
 ((some p19.1).bind AV.asSl).bind fun l20 =>
 ((some p19.2).bind AV.asSl).bind fun l21 =>
 some (.tup [l20.v, l21.v, .int .i64 0], q18.2))))) := (ke _ h).trans (by kernel_rfl)
theorem k2j (a1 : Int) (a2 : Int) (a3 : Int) (a4 : Int) (a5 : Int) (h : AH) : go (.fn F.klu [.int .i64 a1, .agg [.int .i64 a2, .int .i64 a3], .agg [.int .i64 a4, .int .i64 a5]]) h =
 newK h (.cells [.int .i64 a1] T.int) fun h6r h6 =>
 newK h6 (.cells [.int .i64 a2, .int .i64 a3] T.kz) fun h7r h7 =>
 newK h7 (.cells [.int .i64 a4, .int .i64 a5] T.kz) fun h8r h8 =>
 newK h8 (.cells [.bool false, (⟨none, 0, .is 0⟩ : Sl).v, (⟨none, 0, .is 0⟩ : Sl).v] T.kj) fun h9r h9 =>
 ((h9.cell (h7r.add 0)).bind (AV.asInt .i64)).bind fun n10 =>
 ((h9.cell (h7r.add 1)).bind (AV.asInt .i64)).bind fun n11 =>
 ((h9.cell (h8r.add 0)).bind (AV.asInt .i64)).bind fun n12 =>
 ((h9.cell (h8r.add 1)).bind (AV.asInt .i64)).bind fun n13 =>
 (go (.fn F.kn9 [.agg [.int .i64 n10, .int .i64 n11], .agg [.int .i64 n12, .int .i64 n13]]) h9).bind fun q14 =>
 (AV.asTup2 q14.1).bind fun p15 =>
 (AV.asAgg p15.1).bind fun cs16 =>
 cond (Nat.beq cs16.length 2) (
 ((cs16[0]?).bind (AV.asInt .i64)).bind fun n17 =>
 ((cs16[1]?).bind (AV.asInt .i64)).bind fun n18 =>
 ((some p15.2).bind AV.asBool).bind fun b19 =>
 newK q14.2 (.cells [.int .i64 0, .int .i64 0] T.kz) fun h20r h20 =>
 (h20.puts h20r [.int .i64 n17, .int .i64 n18]).bind fun h21 =>
 cond (!b19) (
 (h21.puts h9r [.bool false, (⟨none, 0, .is 0⟩ : Sl).v, (⟨none, 0, .is 0⟩ : Sl).v]).bind fun h22 =>
 ((h22.cell (h9r.add 0)).bind AV.asBool).bind fun b23 =>
 ((h22.cell (h9r.add 1)).bind AV.asSl).bind fun l24 =>
 ((h22.cell (h9r.add 2)).bind AV.asSl).bind fun l25 =>
 some (.tup [.agg [.bool b23, l24.v, l25.v], .int .i64 1], h22)) (
 ((h21.cell h6r).bind (AV.asInt .i64)).bind fun n26 =>
 (go (.fn F.kiq [.int .i64 n26]) h21).bind fun q27 =>
 ((some q27.1).bind AV.asBool).bind fun b28 =>
 cond (!b28) (
 (q27.2.puts h9r [.bool false, (⟨none, 0, .is 0⟩ : Sl).v, (⟨none, 0, .is 0⟩ : Sl).v]).bind fun h29 =>
 ((h29.cell (h9r.add 0)).bind AV.asBool).bind fun b30 =>
 ((h29.cell (h9r.add 1)).bind AV.asSl).bind fun l31 =>
 ((h29.cell (h9r.add 2)).bind AV.asSl).bind fun l32 =>
 some (.tup [.agg [.bool b30, l31.v, l32.v], .int .i64 1], h29)) (
 newK q27.2 (.cells [.bool false, (⟨none, 0, .is 0⟩ : Sl).v, (⟨none, 0, .is 0⟩ : Sl).v] T.kj) fun h33r h33 =>
 ((h33.cell (h7r.add 0)).bind (AV.asInt .i64)).bind fun n34 =>
 ((h33.cell (h7r.add 1)).bind (AV.asInt .i64)).bind fun n35 =>
 ((h33.cell (h20r.add 0)).bind (AV.asInt .i64)).bind fun n36 =>
 ((h33.cell (h20r.add 1)).bind (AV.asInt .i64)).bind fun n37 =>
 (go (.fn F.kls [.agg [.int .i64 n34, .int .i64 n35], .ptr (some h6r)]) h33).bind fun q38 =>
 (AV.asAgg q38.1).bind fun cs39 =>
 cond (Nat.beq cs39.length 3) (
 ((cs39[0]?).bind AV.asBool).bind fun b40 =>
 ((cs39[1]?).bind AV.asSl).bind fun l41 =>
 ((cs39[2]?).bind AV.asSl).bind fun l42 =>
 whenK (SameAt h33 q38.2 h20r 2) (
 whenK (SameAt h33 q38.2 h33r 0) (
 (go (.fn F.kls [.agg [.int .i64 n36, .int .i64 n37], .ptr (some h6r)]) q38.2).bind fun q43 =>
 (AV.asAgg q43.1).bind fun cs44 =>
 cond (Nat.beq cs44.length 3) (
 ((cs44[0]?).bind AV.asBool).bind fun b45 =>
 ((cs44[1]?).bind AV.asSl).bind fun l46 =>
 ((cs44[2]?).bind AV.asSl).bind fun l47 =>
 whenK (SameAt q38.2 q43.2 h33r 0) (
 (go (.fn F.kl8 [.agg [.bool b40, l41.v, l42.v], .agg [.bool b45, l46.v, l47.v]]) q43.2).bind fun q48 =>
 (AV.asTup2 q48.1).bind fun p49 =>
 (AV.asAgg p49.1).bind fun cs50 =>
 cond (Nat.beq cs50.length 3) (
 ((cs50[0]?).bind AV.asBool).bind fun b51 =>
 ((cs50[1]?).bind AV.asSl).bind fun l52 =>
 ((cs50[2]?).bind AV.asSl).bind fun l53 =>
 ((some p49.2).bind (AV.asInt .i64)).bind fun n54 =>
 whenK (SameAt q43.2 q48.2 h33r 0) (
 (q48.2.puts h33r [.bool b51, l52.v, l53.v]).bind fun h55 =>
 ((h55.cell (h33r.add 0)).bind AV.asBool).bind fun b56 =>
 ((h55.cell (h33r.add 1)).bind AV.asSl).bind fun l57 =>
 ((h55.cell (h33r.add 2)).bind AV.asSl).bind fun l58 =>
 ((h55.cell (h8r.add 0)).bind (AV.asInt .i64)).bind fun n59 =>
 ((h55.cell (h8r.add 1)).bind (AV.asInt .i64)).bind fun n60 =>
 (go (.fn F.kls [.agg [.int .i64 n59, .int .i64 n60], .ptr (some h6r)]) h55).bind fun q61 =>
 (AV.asAgg q61.1).bind fun cs62 =>
 cond (Nat.beq cs62.length 3) (
 ((cs62[0]?).bind AV.asBool).bind fun b63 =>
 ((cs62[1]?).bind AV.asSl).bind fun l64 =>
 ((cs62[2]?).bind AV.asSl).bind fun l65 =>
 whenK (SameAt h55 q61.2 h33r 3) (
 (go (.fn F.kkc [.agg [.bool b56, l57.v, l58.v], .agg [.bool b63, l64.v, l65.v]]) q61.2).bind fun q66 =>
 (AV.asTup2 q66.1).bind fun p67 =>
 (AV.asAgg p67.1).bind fun cs68 =>
 cond (Nat.beq cs68.length 3) (
 ((cs68[0]?).bind AV.asBool).bind fun b69 =>
 ((cs68[1]?).bind AV.asSl).bind fun l70 =>
 ((cs68[2]?).bind AV.asSl).bind fun l71 =>
 ((some p67.2).bind (AV.asInt .i64)).bind fun n72 =>
 (q66.2.puts h9r [.bool b69, l70.v, l71.v]).bind fun h73 =>
 ((h73.cell (h9r.add 0)).bind AV.asBool).bind fun b74 =>
 ((h73.cell (h9r.add 1)).bind AV.asSl).bind fun l75 =>
 ((h73.cell (h9r.add 2)).bind AV.asSl).bind fun l76 =>
 some (.tup [.agg [.bool b74, l75.v, l76.v], .int .i64 n72], h73)) none)) none)) none)) none))) none))) none := (ke _ h).trans (by kernel_rfl)
theorem kyx (a1 : Int) (a2 : Bool) (a3 : Sl) (a4 : Sl) (a5 : Ref) (a6 : Ref) (h : AH) : go (.fn F.kdj [.int .i64 a1, .agg [.bool a2, a3.v, a4.v], .ptr (some a5), .ptr (some a6)]) h =
 newK h (.cells [.bool a2, a3.v, a4.v] T.kj) fun h7r h7 =>
 ((h7.cell (h7r.add 0)).bind AV.asBool).bind fun b8 =>
 ((h7.cell (h7r.add 1)).bind AV.asSl).bind fun l9 =>
 ((h7.cell (h7r.add 2)).bind AV.asSl).bind fun l10 =>
 ((h7.cell (a5.add 0)).bind AV.asBool).bind fun b11 =>
 ((h7.cell (a5.add 1)).bind AV.asSl).bind fun l12 =>
 ((h7.cell (a5.add 2)).bind AV.asSl).bind fun l13 =>
 (go (.fn F.km5 [.agg [.bool b8, l9.v, l10.v], .agg [.bool b11, l12.v, l13.v]]) h7).bind fun q14 =>
 ((some q14.1).bind (AV.asInt .i64)).bind fun n15 =>
 cond (decide (n15 > 0)) (
 ((q14.2.cell (h7r.add 0)).bind AV.asBool).bind fun b16 =>
 ((q14.2.cell (h7r.add 1)).bind AV.asSl).bind fun l17 =>
 ((q14.2.cell (h7r.add 2)).bind AV.asSl).bind fun l18 =>
 newK q14.2 (.cells [.int .i64 a1] T.int) fun h19r h19 =>
 whenK (SameAt q14.2 h19 h7r 3) (
 (h19.puts a6 [(⟨some h19r, 1, .is 1⟩ : Sl).v]).bind fun h20 =>
 whenK (SameAt h19 h20 h7r 3) (
 (h20.puts a5 [.bool b16, l17.v, l18.v]).bind fun h21 =>
 some (.tup [], h21)))) (
 cond (decide (n15 = 0)) (
 ((q14.2.cell a6).bind AV.asSl).bind fun l22 =>
 cond (decide ((l22.len : Int) > 0)) (
 ((q14.2.cell a6).bind AV.asSl).bind fun l23 =>
 newK q14.2 (.cells [.int .i64 a1] T.int) fun h24r h24 =>
 (kbj Pg T.int ((⟨some h24r, 1, .is 1⟩ : Sl).v) h24).bind fun p26 =>
 (kx Pg l23 p26.1 p26.2 T.int 1 h24).bind fun q25 =>
 (AV.asSl q25.1).bind fun l27 =>
 (q25.2.puts a6 [l27.v]).bind fun h28 =>
 some (.tup [], h28)) (
 some (.tup [], q14.2))) (
 some (.tup [], q14.2))) := (ke _ h).trans (by kernel_rfl)
theorem kzc (a1 : Int) (a2 : Int) (a3 : Int) (a4 : Int) (h : AH) : go (.fn F.kjq [.agg [.int .i64 a1, .int .i64 a2], .agg [.int .i64 a3, .int .i64 a4]]) h =
 newK h (.cells [.int .i64 a1, .int .i64 a2] T.kz) fun h5r h5 =>
 newK h5 (.cells [.int .i64 a3, .int .i64 a4] T.kz) fun h6r h6 =>
 newK h6 (.cells [.int .i64 0, .int .i64 0] T.kz) fun h7r h7 =>
 ((h7.cell (h5r.add 0)).bind (AV.asInt .i64)).bind fun n8 =>
 ((h7.cell (h5r.add 1)).bind (AV.asInt .i64)).bind fun n9 =>
 (go (.fn F.ke1 [.agg [.int .i64 n8, .int .i64 n9]]) h7).bind fun q10 =>
 ((some q10.1).bind AV.asBool).bind fun b11 =>
 ((q10.2.cell (h6r.add 0)).bind (AV.asInt .i64)).bind fun n12 =>
 ((q10.2.cell (h6r.add 1)).bind (AV.asInt .i64)).bind fun n13 =>
 (go (.fn F.ke1 [.agg [.int .i64 n12, .int .i64 n13]]) q10.2).bind fun q14 =>
 ((some q14.1).bind AV.asBool).bind fun b15 =>
 cond (!b11) (
 (q14.2.puts h7r [.int .i64 0, .int .i64 0]).bind fun h16 =>
 ((h16.cell (h7r.add 0)).bind (AV.asInt .i64)).bind fun n17 =>
 ((h16.cell (h7r.add 1)).bind (AV.asInt .i64)).bind fun n18 =>
 some (.tup [.agg [.int .i64 n17, .int .i64 n18], .bool false], h16)) (
 cond (!b15) (
 (q14.2.puts h7r [.int .i64 0, .int .i64 0]).bind fun h19 =>
 ((h19.cell (h7r.add 0)).bind (AV.asInt .i64)).bind fun n20 =>
 ((h19.cell (h7r.add 1)).bind (AV.asInt .i64)).bind fun n21 =>
 some (.tup [.agg [.int .i64 n20, .int .i64 n21], .bool false], h19)) (
 ((q14.2.cell (h6r.add 0)).bind (AV.asInt .i64)).bind fun n22 =>
 ((q14.2.cell (h5r.add 0)).bind (AV.asInt .i64)).bind fun n23 =>
 ((q14.2.cell (h6r.add 1)).bind (AV.asInt .i64)).bind fun n24 =>
 ((q14.2.cell (h5r.add 1)).bind (AV.asInt .i64)).bind fun n25 =>
 newK q14.2 (.cells [.int .i64 0, .int .i64 0] T.kz) fun h26r h26 =>
 (h26.puts h26r [.int .i64 (IntKind.wrap .i64 (n22 - n23)), .int .i64 (IntKind.wrap .i64 (n24 - n25))]).bind fun h27 =>
 ((h27.cell (h26r.add 0)).bind (AV.asInt .i64)).bind fun n28 =>
 ((h27.cell (h26r.add 1)).bind (AV.asInt .i64)).bind fun n29 =>
 ((h27.cell (h26r.add 0)).bind (AV.asInt .i64)).bind fun n30 =>
 ((h27.cell (h26r.add 1)).bind (AV.asInt .i64)).bind fun n31 =>
 (go (.fn F.ke1 [.agg [.int .i64 n30, .int .i64 n31]]) h27).bind fun q32 =>
 ((some q32.1).bind AV.asBool).bind fun b33 =>
 whenK (SameAt h27 q32.2 h26r 2) (
 (q32.2.puts h7r [.int .i64 n28, .int .i64 n29]).bind fun h34 =>
 ((h34.cell (h7r.add 0)).bind (AV.asInt .i64)).bind fun n35 =>
 ((h34.cell (h7r.add 1)).bind (AV.asInt .i64)).bind fun n36 =>
 some (.tup [.agg [.int .i64 n35, .int .i64 n36], .bool b33], h34)))) := (ke _ h).trans (by kernel_rfl)
theorem kvk (a1 : Int) (h : AH) : go (.fn F.kgd [.int .i64 a1]) h =
 newK h (.cells [.bool false, (⟨none, 0, .is 0⟩ : Sl).v] T.kg) fun h2r h2 =>
 cond (decide (a1 < 0)) (
 (go (.fn F.kf4 [.int .u64 (IntKind.wrap .u64 ((IntKind.wrap .u64 (IntKind.wrap .i64 (0 - (IntKind.wrap .i64 (a1 + 1))))) + 1))]) h2).bind fun q3 =>
 ((some q3.1).bind AV.asSl).bind fun l4 =>
 (go (.fn F.kc1 [.bool true, l4.v]) q3.2).bind fun q5 =>
 (AV.asAgg q5.1).bind fun cs6 =>
 cond (Nat.beq cs6.length 2) (
 ((cs6[0]?).bind AV.asBool).bind fun b7 =>
 ((cs6[1]?).bind AV.asSl).bind fun l8 =>
 (q5.2.puts h2r [.bool b7, l8.v]).bind fun h9 =>
 ((h9.cell (h2r.add 0)).bind AV.asBool).bind fun b10 =>
 ((h9.cell (h2r.add 1)).bind AV.asSl).bind fun l11 =>
 some (.agg [.bool b10, l11.v], h9)) none) (
 (go (.fn F.kf4 [.int .u64 (IntKind.wrap .u64 a1)]) h2).bind fun q12 =>
 ((some q12.1).bind AV.asSl).bind fun l13 =>
 (go (.fn F.kc1 [.bool false, l13.v]) q12.2).bind fun q14 =>
 (AV.asAgg q14.1).bind fun cs15 =>
 cond (Nat.beq cs15.length 2) (
 ((cs15[0]?).bind AV.asBool).bind fun b16 =>
 ((cs15[1]?).bind AV.asSl).bind fun l17 =>
 (q14.2.puts h2r [.bool b16, l17.v]).bind fun h18 =>
 ((h18.cell (h2r.add 0)).bind AV.asBool).bind fun b19 =>
 ((h18.cell (h2r.add 1)).bind AV.asSl).bind fun l20 =>
 some (.agg [.bool b19, l20.v], h18)) none) := (ke _ h).trans (by kernel_rfl)
theorem k5i (a1 : Bool) (a2 : Sl) (a3 : Sl) (h : AH) : go (.fn F.kg4 [.agg [.bool a1, a2.v], a3.v]) h =
 newK h (.cells [.bool a1, a2.v] T.kg) fun h4r h4 =>
 newK h4 (.cells [.bool false, (⟨none, 0, .is 0⟩ : Sl).v, (⟨none, 0, .is 0⟩ : Sl).v] T.kj) fun h5r h5 =>
 ((h5.cell (h4r.add 0)).bind AV.asBool).bind fun b6 =>
 ((h5.cell (h4r.add 1)).bind AV.asSl).bind fun l7 =>
 (go (.fn F.kc8 [.agg [.bool b6, l7.v]]) h5).bind fun q8 =>
 ((some q8.1).bind AV.asBool).bind fun b9 =>
 (go (.fn F.kby [a3.v]) q8.2).bind fun q10 =>
 ((some q10.1).bind AV.asBool).bind fun b11 =>
 cond (!b9) (
 (q10.2.puts h5r [.bool false, (⟨none, 0, .is 0⟩ : Sl).v, (⟨none, 0, .is 0⟩ : Sl).v]).bind fun h12 =>
 ((h12.cell (h5r.add 0)).bind AV.asBool).bind fun b13 =>
 ((h12.cell (h5r.add 1)).bind AV.asSl).bind fun l14 =>
 ((h12.cell (h5r.add 2)).bind AV.asSl).bind fun l15 =>
 some (.tup [.agg [.bool b13, l14.v, l15.v], .int .i64 1], h12)) (
 cond (!b11) (
 (q10.2.puts h5r [.bool false, (⟨none, 0, .is 0⟩ : Sl).v, (⟨none, 0, .is 0⟩ : Sl).v]).bind fun h16 =>
 ((h16.cell (h5r.add 0)).bind AV.asBool).bind fun b17 =>
 ((h16.cell (h5r.add 1)).bind AV.asSl).bind fun l18 =>
 ((h16.cell (h5r.add 2)).bind AV.asSl).bind fun l19 =>
 some (.tup [.agg [.bool b17, l18.v, l19.v], .int .i64 1], h16)) (
 cond (decide ((a3.len : Int) = 0)) (
 (q10.2.puts h5r [.bool false, (⟨none, 0, .is 0⟩ : Sl).v, (⟨none, 0, .is 0⟩ : Sl).v]).bind fun h20 =>
 ((h20.cell (h5r.add 0)).bind AV.asBool).bind fun b21 =>
 ((h20.cell (h5r.add 1)).bind AV.asSl).bind fun l22 =>
 ((h20.cell (h5r.add 2)).bind AV.asSl).bind fun l23 =>
 some (.tup [.agg [.bool b21, l22.v, l23.v], .int .i64 3], h20)) (
 ((q10.2.cell (h4r.add 1)).bind AV.asSl).bind fun l24 =>
 (go (.fn F.kee [l24.v, a3.v]) q10.2).bind fun q25 =>
 (AV.asTup2 q25.1).bind fun p26 =>
 ((some p26.1).bind AV.asSl).bind fun l27 =>
 ((some p26.2).bind (AV.asInt .i64)).bind fun n28 =>
 ((q25.2.cell (h4r.add 1)).bind AV.asSl).bind fun l29 =>
 (go (.fn F.khz [l29.v, l27.v]) q25.2).bind fun q30 =>
 (AV.asTup3 q30.1).bind fun p31 =>
 ((some p31.1).bind AV.asSl).bind fun l32 =>
 ((some p31.2.1).bind AV.asSl).bind fun l33 =>
 ((some p31.2.2).bind (AV.asInt .i64)).bind fun n34 =>
 (go (.fn F.khz [a3.v, l27.v]) q30.2).bind fun q35 =>
 (AV.asTup3 q35.1).bind fun p36 =>
 ((some p36.1).bind AV.asSl).bind fun l37 =>
 ((some p36.2.1).bind AV.asSl).bind fun l38 =>
 ((some p36.2.2).bind (AV.asInt .i64)).bind fun n39 =>
 cond (decide ((l32.len : Int) > 16)) (
 (q35.2.puts h5r [.bool false, (⟨none, 0, .is 0⟩ : Sl).v, (⟨none, 0, .is 0⟩ : Sl).v]).bind fun h40 =>
 ((h40.cell (h5r.add 0)).bind AV.asBool).bind fun b41 =>
 ((h40.cell (h5r.add 1)).bind AV.asSl).bind fun l42 =>
 ((h40.cell (h5r.add 2)).bind AV.asSl).bind fun l43 =>
 some (.tup [.agg [.bool b41, l42.v, l43.v], .int .i64 4], h40)) (
 cond (decide ((l37.len : Int) > 16)) (
 (q35.2.puts h5r [.bool false, (⟨none, 0, .is 0⟩ : Sl).v, (⟨none, 0, .is 0⟩ : Sl).v]).bind fun h44 =>
 ((h44.cell (h5r.add 0)).bind AV.asBool).bind fun b45 =>
 ((h44.cell (h5r.add 1)).bind AV.asSl).bind fun l46 =>
 ((h44.cell (h5r.add 2)).bind AV.asSl).bind fun l47 =>
 some (.tup [.agg [.bool b45, l46.v, l47.v], .int .i64 4], h44)) (
 ((q35.2.cell (h4r.add 0)).bind AV.asBool).bind fun b48 =>
 (go (.fn F.kc1 [.bool b48, l32.v]) q35.2).bind fun q49 =>
 (AV.asAgg q49.1).bind fun cs50 =>
 cond (Nat.beq cs50.length 2) (
 ((cs50[0]?).bind AV.asBool).bind fun b51 =>
 ((cs50[1]?).bind AV.asSl).bind fun l52 =>
 (q49.2.puts h5r [.bool b51, l52.v, l37.v]).bind fun h53 =>
 ((h53.cell (h5r.add 0)).bind AV.asBool).bind fun b54 =>
 ((h53.cell (h5r.add 1)).bind AV.asSl).bind fun l55 =>
 ((h53.cell (h5r.add 2)).bind AV.asSl).bind fun l56 =>
 some (.tup [.agg [.bool b54, l55.v, l56.v], .int .i64 0], h53)) none))))) := (ke _ h).trans (by kernel_rfl)
theorem kqp (a1 : Int) (a2 : Sl) (a3 : Ref) (a4 : Ref) (a5 : Sl) (a6 : Int) (h : AH) : go (.pt F.kbq Td.kcu [(0, .int .i64 a1), (3, a2.v), (6, .ptr (some a3)), (14, .ptr (some a4)), (16, a5.v), (17, .int .i64 a6)]) h =
 cond (decide (a6 < (a2.len : Int))) (
 (idx a2.ref a2.len a6 2).bind fun r7 =>
 ((h.cell (r7.add 1)).bind (AV.asInt .i64)).bind fun n8 =>
 cond (decide (n8 < 1)) (
 go (.pt F.kbq Td.kcu [(0, .int .i64 a1), (3, a2.v), (6, .ptr (some a3)), (14, .ptr (some a4)), (16, a5.v), (17, .int .i64 (IntKind.wrap .i64 (a6 + 1)))]) h) (
 ((h.cell (a3.add 1)).bind (AV.asInt .i64)).bind fun n9 =>
 (idx a2.ref a2.len a6 2).bind fun r10 =>
 ((h.cell (r10.add 1)).bind (AV.asInt .i64)).bind fun n11 =>
 cond (decide ((IntKind.wrap .i64 (n9 - n11)) < 1)) (
 go (.pt F.kbq Td.kcu [(0, .int .i64 a1), (3, a2.v), (6, .ptr (some a3)), (14, .ptr (some a4)), (16, a5.v), (17, .int .i64 (IntKind.wrap .i64 (a6 + 1)))]) h) (
 newK h (.cells [.bool false, (⟨none, 0, .is 0⟩ : Sl).v, (⟨none, 0, .is 0⟩ : Sl).v] T.kj) fun h12r h12 =>
 (idx a2.ref a2.len a6 2).bind fun r13 =>
 ((h12.cell (r13.add 0)).bind (AV.asInt .i64)).bind fun n14 =>
 ((h12.cell (r13.add 1)).bind (AV.asInt .i64)).bind fun n15 =>
 ((h12.cell (a3.add 0)).bind (AV.asInt .i64)).bind fun n16 =>
 ((h12.cell (a3.add 1)).bind (AV.asInt .i64)).bind fun n17 =>
 (go (.fn F.kj0 [.int .i64 a1, .agg [.int .i64 n14, .int .i64 n15], .agg [.int .i64 n16, .int .i64 n17]]) h12).bind fun q18 =>
 (AV.asTup2 q18.1).bind fun p19 =>
 (AV.asAgg p19.1).bind fun cs20 =>
 cond (Nat.beq cs20.length 3) (
 ((cs20[0]?).bind AV.asBool).bind fun b21 =>
 ((cs20[1]?).bind AV.asSl).bind fun l22 =>
 ((cs20[2]?).bind AV.asSl).bind fun l23 =>
 ((some p19.2).bind (AV.asInt .i64)).bind fun n24 =>
 whenK (SameAt h12 q18.2 h12r 0) (
 (q18.2.puts h12r [.bool b21, l22.v, l23.v]).bind fun h25 =>
 ((h25.cell (h12r.add 0)).bind AV.asBool).bind fun b26 =>
 ((h25.cell (h12r.add 1)).bind AV.asSl).bind fun l27 =>
 ((h25.cell (h12r.add 2)).bind AV.asSl).bind fun l28 =>
 ((h25.cell (a4.add 0)).bind AV.asBool).bind fun b29 =>
 ((h25.cell (a4.add 1)).bind AV.asSl).bind fun l30 =>
 ((h25.cell (a4.add 2)).bind AV.asSl).bind fun l31 =>
 (go (.fn F.kn5 [.agg [.bool b26, l27.v, l28.v], .agg [.bool b29, l30.v, l31.v]]) h25).bind fun q32 =>
 ((some q32.1).bind (AV.asInt .i64)).bind fun n33 =>
 cond (decide (n33 > 0)) (
 ((q32.2.cell (h12r.add 0)).bind AV.asBool).bind fun b34 =>
 ((q32.2.cell (h12r.add 1)).bind AV.asSl).bind fun l35 =>
 ((q32.2.cell (h12r.add 2)).bind AV.asSl).bind fun l36 =>
 (q32.2.puts a4 [.bool b34, l35.v, l36.v]).bind fun h37 =>
 cond (decide (n33 > 0)) (
 newK h37 (.cells [.int .i64 a6] T.int) fun h38r h38 =>
 (kbj Pg T.int ((⟨some h38r, 1, .is 1⟩ : Sl).v) h38).bind fun p40 =>
 (kx Pg (⟨none, 0, .is 0⟩ : Sl) p40.1 p40.2 T.int 1 h38).bind fun q39 =>
 (AV.asSl q39.1).bind fun l41 =>
 go (.pt F.kbq Td.kcu [(0, .int .i64 a1), (3, a2.v), (6, .ptr (some a3)), (14, .ptr (some a4)), (16, l41.v), (17, .int .i64 (IntKind.wrap .i64 (a6 + 1)))]) q39.2) (
 cond (decide (n33 = 0)) (
 go (.pt F.kbq Td.kcu [(0, .int .i64 a1), (3, a2.v), (6, .ptr (some a3)), (14, .ptr (some a4)), (16, (⟨none, 0, .is 0⟩ : Sl).v), (17, .int .i64 (IntKind.wrap .i64 (a6 + 1)))]) h37) (
 go (.pt F.kbq Td.kcu [(0, .int .i64 a1), (3, a2.v), (6, .ptr (some a3)), (14, .ptr (some a4)), (16, (⟨none, 0, .is 0⟩ : Sl).v), (17, .int .i64 (IntKind.wrap .i64 (a6 + 1)))]) h37))) (
 cond (decide (n33 > 0)) (
 newK q32.2 (.cells [.int .i64 a6] T.int) fun h42r h42 =>
 (kbj Pg T.int ((⟨some h42r, 1, .is 1⟩ : Sl).v) h42).bind fun p44 =>
 (kx Pg a5 p44.1 p44.2 T.int 1 h42).bind fun q43 =>
 (AV.asSl q43.1).bind fun l45 =>
 go (.pt F.kbq Td.kcu [(0, .int .i64 a1), (3, a2.v), (6, .ptr (some a3)), (14, .ptr (some a4)), (16, l45.v), (17, .int .i64 (IntKind.wrap .i64 (a6 + 1)))]) q43.2) (
 cond (decide (n33 = 0)) (
 cond (decide ((a5.len : Int) > 0)) (
 newK q32.2 (.cells [.int .i64 a6] T.int) fun h46r h46 =>
 (kbj Pg T.int ((⟨some h46r, 1, .is 1⟩ : Sl).v) h46).bind fun p48 =>
 (kx Pg a5 p48.1 p48.2 T.int 1 h46).bind fun q47 =>
 (AV.asSl q47.1).bind fun l49 =>
 go (.pt F.kbq Td.kcu [(0, .int .i64 a1), (3, a2.v), (6, .ptr (some a3)), (14, .ptr (some a4)), (16, l49.v), (17, .int .i64 (IntKind.wrap .i64 (a6 + 1)))]) q47.2) (
 go (.pt F.kbq Td.kcu [(0, .int .i64 a1), (3, a2.v), (6, .ptr (some a3)), (14, .ptr (some a4)), (16, a5.v), (17, .int .i64 (IntKind.wrap .i64 (a6 + 1)))]) q32.2)) (
 go (.pt F.kbq Td.kcu [(0, .int .i64 a1), (3, a2.v), (6, .ptr (some a3)), (14, .ptr (some a4)), (16, a5.v), (17, .int .i64 (IntKind.wrap .i64 (a6 + 1)))]) q32.2))))) none))) (
 some (.tup [a5.v, .int .i64 0], h)) := (ke _ h).trans (by kernel_rfl)
theorem kyp (a1 : Sl) (a2 : Sl) (a3 : Int) (a4 : Int) (a5 : Int) (a6 : Sl) (a7 : Int) (a8 : Int) (a9 : Sl) (a10 : Int) (a11 : Int) (h : AH) : go (.pt F.kcg Td.kkn [(1, a1.v), (5, a2.v), (6, .int .i64 a3), (7, .int .u64 a4), (8, .int .u64 a5), (20, a6.v), (21, .int .i64 a7), (22, .int .i64 a8), (27, a9.v), (28, .int .i64 a10), (29, .int .i64 a11)]) h =
 cond (decide (a11 < a10)) (
 (idx a9.ref a9.len a11 1).bind fun r12 =>
 ((h.cell r12).bind (AV.asInt .u64)).bind fun n13 =>
 (go (.fn F.kkr [.int .u64 a4, .int .u64 n13]) h).bind fun q14 =>
 (AV.asTup2 q14.1).bind fun p15 =>
 ((some p15.1).bind (AV.asInt .u64)).bind fun n16 =>
 ((some p15.2).bind (AV.asInt .u64)).bind fun n17 =>
 (idx a2.ref a2.len (IntKind.wrap .i64 (a3 + a11)) 1).bind fun r18 =>
 ((q14.2.cell r18).bind (AV.asInt .u64)).bind fun n19 =>
 ((prim "math/bits.Add64" [.int .u64 n17, .int .u64 n19, .int .u64 0]).map fun v => (v, q14.2)).bind fun q20 =>
 (AV.asTup2 q20.1).bind fun p21 =>
 ((some p21.1).bind (AV.asInt .u64)).bind fun n22 =>
 ((some p21.2).bind (AV.asInt .u64)).bind fun n23 =>
 ((prim "math/bits.Add64" [.int .u64 n22, .int .u64 a5, .int .u64 0]).map fun v => (v, q20.2)).bind fun q24 =>
 (AV.asTup2 q24.1).bind fun p25 =>
 ((some p25.1).bind (AV.asInt .u64)).bind fun n26 =>
 ((some p25.2).bind (AV.asInt .u64)).bind fun n27 =>
 (idx a2.ref a2.len (IntKind.wrap .i64 (a3 + a11)) 1).bind fun r28 =>
 (q24.2.puts r28 [.int .u64 n26]).bind fun h29 =>
 go (.pt F.kcg Td.kkn [(1, a1.v), (5, a2.v), (6, .int .i64 a3), (7, .int .u64 a4), (8, .int .u64 (IntKind.wrap .u64 ((IntKind.wrap .u64 (n16 + n23)) + n27))), (20, a6.v), (21, .int .i64 a7), (22, .int .i64 a8), (27, a9.v), (28, .int .i64 a10), (29, .int .i64 (IntKind.wrap .i64 (a11 + 1)))]) h29) (
 (idx a2.ref a2.len (IntKind.wrap .i64 (a3 + (a1.len : Int))) 1).bind fun r30 =>
 (h.puts r30 [.int .u64 a5]).bind fun h31 =>
 go (.pt F.kcg Td.kl0 [(1, a1.v), (5, a2.v), (20, a6.v), (21, .int .i64 a7), (22, .int .i64 (IntKind.wrap .i64 (a8 + 1)))]) h31) := (ke _ h).trans (by kernel_rfl)
theorem k26 (a1 : Sl) (h : AH) : go (.fn F.kf2 [a1.v]) h =
 (go (.fn F.kr2 [a1.v, .func (.func F.kc9) [] []]) h).bind fun q2 =>
 ((some q2.1).bind AV.asBool).bind fun b3 =>
 some (.bool (!b3), q2.2) := (ke _ h).trans (by kernel_rfl)
theorem kwq (a1 : Sl) (a2 : Sl) (h : AH) : go (.fn F.kiy [a1.v, a2.v]) h =
 newK h (.cells [a1.v, a2.v] T.kcb) fun h3r h3 =>
 (go (.fn F.kev [(⟨some h3r, 2, .is 2⟩ : Sl).v]) h3).bind fun q4 =>
 ((some q4.1).bind AV.asBool).bind fun b5 =>
 cond (!b5) (
 some (.tup [(⟨none, 0, .is 0⟩ : Sl).v, .int .i64 1], q4.2)) (
 (go (.fn F.kl2 [a1.v, a2.v]) q4.2).bind fun q6 =>
 ((some q6.1).bind AV.asSl).bind fun l7 =>
 (go (.fn F.ki7 [l7.v]) q6.2).bind fun q8 =>
 (AV.asTup2 q8.1).bind fun p9 =>
 ((some p9.1).bind AV.asSl).bind fun l10 =>
 ((some p9.2).bind (AV.asInt .i64)).bind fun n11 =>
 some (.tup [l10.v, .int .i64 n11], q8.2)) := (ke _ h).trans (by kernel_rfl)
theorem k6x (a1 : Sl) (h : AH) : go (.fn F.kfw [a1.v]) h =
 cond a1.ref.isNone (
 some ((⟨none, 0, .is 0⟩ : Sl).v, h)) (
 newK h (.cells [] T.kf) fun h2r h2 =>
 (kbj Pg T.kf a1.v h2).bind fun p4 =>
 (kx Pg (⟨some h2r, 0, .is 0⟩ : Sl) p4.1 p4.2 T.kf 1 h2).bind fun q3 =>
 (AV.asSl q3.1).bind fun l5 =>
 some (l5.v, q3.2)) := (ke _ h).trans (by kernel_rfl)
theorem k3x (a1 : Sl) (a2 : Sl) (h : AH) : go (.pt F.kd5 Td.klf [(0, a1.v), (1, a2.v)]) h =
 cond (decide ((a2.len : Int) > 0)) (
 (go (.fn F.khv [a1.v, a2.v]) h).bind fun q3 =>
 (AV.asTup3 q3.1).bind fun p4 =>
 ((some p4.1).bind AV.asSl).bind fun l5 =>
 ((some p4.2.1).bind AV.asSl).bind fun l6 =>
 ((some p4.2.2).bind (AV.asInt .i64)).bind fun n7 =>
 go (.pt F.kd5 Td.klf [(0, a2.v), (1, l6.v)]) q3.2) (
 some (.tup [a1.v, .int .i64 0], h)) := (ke _ h).trans (by kernel_rfl)
theorem k2h (a1 : Sl) (h : AH) : go (.fn F.kev [a1.v]) h =
 (go (.fn F.kr7 [a1.v, .func (.func F.kc7) [] []]) h).bind fun q2 =>
 ((some q2.1).bind AV.asBool).bind fun b3 =>
 some (.bool (!b3), q2.2) := (ke _ h).trans (by kernel_rfl)
theorem ky3 (a1 : Sl) (a2 : Sl) (h : AH) : go (.fn F.kdk [a1.v, a2.v]) h =
 cond (!decide ((a1.len : Int) = (a2.len : Int))) (
 cond (decide ((a1.len : Int) < (a2.len : Int))) (
 some (.int .i64 (-1), h)) (
 some (.int .i64 1, h))) (
 go (.pt F.kdk Td.klc [(0, a1.v), (1, a2.v), (5, .int .i64 (IntKind.wrap .i64 ((a1.len : Int) - 1)))]) h) := (ke _ h).trans (by kernel_rfl)
theorem k4w (a1 : Sl) (a2 : Int) (h : AH) : go (.fn F.keq [a1.v, .int .u64 a2]) h =
 (kbv (a1.len : Int) (a1.len : Int) T.kf (Pg.bytesOf T.kf) [.int .u64 0] h).bind fun q3 =>
 go (.pt F.keq Td.kl5 [(0, a1.v), (1, .int .u64 a2), (6, q3.1.v), (7, .int .u64 0), (8, .int .i64 (IntKind.wrap .i64 ((a1.len : Int) - 1)))]) q3.2 := (ke _ h).trans (by kernel_rfl)
theorem k6n (a1 : Sl) (a2 : Sl) (h : AH) : go (.fn F.kbz [a1.v, a2.v]) h =
 (idx a2.ref a2.len (IntKind.wrap .i64 ((a2.len : Int) - 1)) 1).bind fun r3 =>
 ((h.cell r3).bind (AV.asInt .u64)).bind fun n4 =>
 (go (.fn F.kk0 [.int .u64 n4]) h).bind fun q5 =>
 ((some q5.1).bind (AV.asInt .i64)).bind fun n6 =>
 (go (.fn F.kdq [a1.v, .int .u64 (IntKind.wrap .u64 n6)]) q5.2).bind fun q7 =>
 ((some q7.1).bind AV.asSl).bind fun l8 =>
 (go (.fn F.kdq [a2.v, .int .u64 (IntKind.wrap .u64 n6)]) q7.2).bind fun q9 =>
 ((some q9.1).bind AV.asSl).bind fun l10 =>
 (go (.fn F.kbi [l10.v]) q9.2).bind fun q11 =>
 ((some q11.1).bind AV.asSl).bind fun l12 =>
 (kbv (IntKind.wrap .i64 ((l8.len : Int) - (l12.len : Int))) (IntKind.wrap .i64 ((l8.len : Int) - (l12.len : Int))) T.kf (Pg.bytesOf T.kf) [.int .u64 0] q11.2).bind fun q13 =>
 go (.pt F.kbz Td.klv [(6, .int .u64 (IntKind.wrap .u64 n6)), (7, l8.v), (8, l12.v), (9, .int .i64 (l12.len : Int)), (10, q13.1.v), (11, .int .i64 (IntKind.wrap .i64 ((q13.1.len : Int) - 1)))]) q13.2 := (ke _ h).trans (by kernel_rfl)
theorem ku8 (a1 : Int) (a2 : Int) (a3 : Int) (a4 : Int) (h : AH) : go (.fn F.kn9 [.agg [.int .i64 a1, .int .i64 a2], .agg [.int .i64 a3, .int .i64 a4]]) h =
 newK h (.cells [.int .i64 a1, .int .i64 a2] T.kz) fun h5r h5 =>
 newK h5 (.cells [.int .i64 a3, .int .i64 a4] T.kz) fun h6r h6 =>
 newK h6 (.cells [.int .i64 0, .int .i64 0] T.kz) fun h7r h7 =>
 ((h7.cell (h5r.add 0)).bind (AV.asInt .i64)).bind fun n8 =>
 ((h7.cell (h5r.add 1)).bind (AV.asInt .i64)).bind fun n9 =>
 (go (.fn F.kfp [.agg [.int .i64 n8, .int .i64 n9]]) h7).bind fun q10 =>
 ((some q10.1).bind AV.asBool).bind fun b11 =>
 cond (!b11) (
 (q10.2.puts h7r [.int .i64 0, .int .i64 0]).bind fun h12 =>
 ((h12.cell (h7r.add 0)).bind (AV.asInt .i64)).bind fun n13 =>
 ((h12.cell (h7r.add 1)).bind (AV.asInt .i64)).bind fun n14 =>
 some (.tup [.agg [.int .i64 n13, .int .i64 n14], .bool false], h12)) (
 ((q10.2.cell (h6r.add 0)).bind (AV.asInt .i64)).bind fun n15 =>
 ((q10.2.cell (h6r.add 1)).bind (AV.asInt .i64)).bind fun n16 =>
 (go (.fn F.kfp [.agg [.int .i64 n15, .int .i64 n16]]) q10.2).bind fun q17 =>
 ((some q17.1).bind AV.asBool).bind fun b18 =>
 cond (!b18) (
 (q17.2.puts h7r [.int .i64 0, .int .i64 0]).bind fun h19 =>
 ((h19.cell (h7r.add 0)).bind (AV.asInt .i64)).bind fun n20 =>
 ((h19.cell (h7r.add 1)).bind (AV.asInt .i64)).bind fun n21 =>
 some (.tup [.agg [.int .i64 n20, .int .i64 n21], .bool false], h19)) (
 ((q17.2.cell (h6r.add 0)).bind (AV.asInt .i64)).bind fun n22 =>
 ((q17.2.cell (h5r.add 0)).bind (AV.asInt .i64)).bind fun n23 =>
 ((q17.2.cell (h6r.add 1)).bind (AV.asInt .i64)).bind fun n24 =>
 ((q17.2.cell (h5r.add 1)).bind (AV.asInt .i64)).bind fun n25 =>
 newK q17.2 (.cells [.int .i64 0, .int .i64 0] T.kz) fun h26r h26 =>
 (h26.puts h26r [.int .i64 (IntKind.wrap .i64 (n22 - n23)), .int .i64 (IntKind.wrap .i64 (n24 - n25))]).bind fun h27 =>
 ((h27.cell (h26r.add 0)).bind (AV.asInt .i64)).bind fun n28 =>
 ((h27.cell (h26r.add 1)).bind (AV.asInt .i64)).bind fun n29 =>
 ((h27.cell (h26r.add 0)).bind (AV.asInt .i64)).bind fun n30 =>
 ((h27.cell (h26r.add 1)).bind (AV.asInt .i64)).bind fun n31 =>
 (go (.fn F.kfp [.agg [.int .i64 n30, .int .i64 n31]]) h27).bind fun q32 =>
 ((some q32.1).bind AV.asBool).bind fun b33 =>
 whenK (SameAt h27 q32.2 h26r 2) (
 (q32.2.puts h7r [.int .i64 n28, .int .i64 n29]).bind fun h34 =>
 ((h34.cell (h7r.add 0)).bind (AV.asInt .i64)).bind fun n35 =>
 ((h34.cell (h7r.add 1)).bind (AV.asInt .i64)).bind fun n36 =>
 some (.tup [.agg [.int .i64 n35, .int .i64 n36], .bool b33], h34)))) := (ke _ h).trans (by kernel_rfl)
theorem knw (a1 : Int) (a2 : Int) (a3 : Ref) (h : AH) : go (.fn F.kls [.agg [.int .i64 a1, .int .i64 a2], .ptr (some a3)]) h =
 newK h (.cells [.int .i64 a1, .int .i64 a2] T.kz) fun h4r h4 =>
 newK h4 (.cells [.bool false, (⟨none, 0, .is 0⟩ : Sl).v, (⟨none, 0, .is 0⟩ : Sl).v] T.kj) fun h5r h5 =>
 ((h5.cell a3).bind (AV.asInt .i64)).bind fun n6 =>
 ((h5.cell (h4r.add 0)).bind (AV.asInt .i64)).bind fun n7 =>
 ((h5.cell (h4r.add 1)).bind (AV.asInt .i64)).bind fun n8 =>
 (go (.fn F.ki9 [.int .i64 n6, .agg [.int .i64 n7, .int .i64 n8]]) h5).bind fun q9 =>
 (AV.asTup2 q9.1).bind fun p10 =>
 (AV.asAgg p10.1).bind fun cs11 =>
 cond (Nat.beq cs11.length 3) (
 ((cs11[0]?).bind AV.asBool).bind fun b12 =>
 ((cs11[1]?).bind AV.asSl).bind fun l13 =>
 ((cs11[2]?).bind AV.asSl).bind fun l14 =>
 ((some p10.2).bind (AV.asInt .i64)).bind fun n15 =>
 newK q9.2 (.cells [.bool false, (⟨none, 0, .is 0⟩ : Sl).v, (⟨none, 0, .is 0⟩ : Sl).v] T.kj) fun h16r h16 =>
 (h16.puts h16r [.bool b12, l13.v, l14.v]).bind fun h17 =>
 ((h17.cell (h16r.add 0)).bind AV.asBool).bind fun b18 =>
 ((h17.cell (h16r.add 1)).bind AV.asSl).bind fun l19 =>
 ((h17.cell (h16r.add 2)).bind AV.asSl).bind fun l20 =>
 (h17.puts h5r [.bool b18, l19.v, l20.v]).bind fun h21 =>
 ((h21.cell (h5r.add 0)).bind AV.asBool).bind fun b22 =>
 ((h21.cell (h5r.add 1)).bind AV.asSl).bind fun l23 =>
 ((h21.cell (h5r.add 2)).bind AV.asSl).bind fun l24 =>
 some (.agg [.bool b22, l23.v, l24.v], h21)) none := (ke _ h).trans (by kernel_rfl)
theorem ky4 (a1 : Bool) (a2 : Sl) (a3 : Sl) (a4 : Bool) (a5 : Sl) (a6 : Sl) (h : AH) : go (.fn F.kl8 [.agg [.bool a1, a2.v, a3.v], .agg [.bool a4, a5.v, a6.v]]) h =
 newK h (.cells [.bool a1, a2.v, a3.v] T.kj) fun h7r h7 =>
 newK h7 (.cells [.bool a4, a5.v, a6.v] T.kj) fun h8r h8 =>
 newK h8 (.cells [.bool false, (⟨none, 0, .is 0⟩ : Sl).v, (⟨none, 0, .is 0⟩ : Sl).v] T.kj) fun h9r h9 =>
 ((h9.cell (h7r.add 0)).bind AV.asBool).bind fun b10 =>
 ((h9.cell (h7r.add 1)).bind AV.asSl).bind fun l11 =>
 ((h9.cell (h7r.add 2)).bind AV.asSl).bind fun l12 =>
 ((h9.cell (h8r.add 0)).bind AV.asBool).bind fun b13 =>
 ((h9.cell (h8r.add 1)).bind AV.asSl).bind fun l14 =>
 ((h9.cell (h8r.add 2)).bind AV.asSl).bind fun l15 =>
 (go (.fn F.khx [.agg [.bool b10, l11.v, l12.v], .agg [.bool b13, l14.v, l15.v], .func (.func F.kf3) [] []]) h9).bind fun q16 =>
 (AV.asTup2 q16.1).bind fun p17 =>
 (AV.asAgg p17.1).bind fun cs18 =>
 cond (Nat.beq cs18.length 3) (
 ((cs18[0]?).bind AV.asBool).bind fun b19 =>
 ((cs18[1]?).bind AV.asSl).bind fun l20 =>
 ((cs18[2]?).bind AV.asSl).bind fun l21 =>
 ((some p17.2).bind (AV.asInt .i64)).bind fun n22 =>
 (q16.2.puts h9r [.bool b19, l20.v, l21.v]).bind fun h23 =>
 ((h23.cell (h9r.add 0)).bind AV.asBool).bind fun b24 =>
 ((h23.cell (h9r.add 1)).bind AV.asSl).bind fun l25 =>
 ((h23.cell (h9r.add 2)).bind AV.asSl).bind fun l26 =>
 some (.tup [.agg [.bool b24, l25.v, l26.v], .int .i64 n22], h23)) none := (ke _ h).trans (by kernel_rfl)
theorem k1z (a1 : Bool) (a2 : Sl) (a3 : Sl) (a4 : Bool) (a5 : Sl) (a6 : Sl) (h : AH) : go (.fn F.kkc [.agg [.bool a1, a2.v, a3.v], .agg [.bool a4, a5.v, a6.v]]) h =
 newK h (.cells [.bool a1, a2.v, a3.v] T.kj) fun h7r h7 =>
 newK h7 (.cells [.bool a4, a5.v, a6.v] T.kj) fun h8r h8 =>
 newK h8 (.cells [.bool false, (⟨none, 0, .is 0⟩ : Sl).v, (⟨none, 0, .is 0⟩ : Sl).v] T.kj) fun h9r h9 =>
 ((h9.cell (h7r.add 0)).bind AV.asBool).bind fun b10 =>
 ((h9.cell (h7r.add 1)).bind AV.asSl).bind fun l11 =>
 ((h9.cell (h7r.add 2)).bind AV.asSl).bind fun l12 =>
 ((h9.cell (h8r.add 0)).bind AV.asBool).bind fun b13 =>
 ((h9.cell (h8r.add 1)).bind AV.asSl).bind fun l14 =>
 ((h9.cell (h8r.add 2)).bind AV.asSl).bind fun l15 =>
 (go (.fn F.khx [.agg [.bool b10, l11.v, l12.v], .agg [.bool b13, l14.v, l15.v], .func (.func F.kgu) [] []]) h9).bind fun q16 =>
 (AV.asTup2 q16.1).bind fun p17 =>
 (AV.asAgg p17.1).bind fun cs18 =>
 cond (Nat.beq cs18.length 3) (
 ((cs18[0]?).bind AV.asBool).bind fun b19 =>
 ((cs18[1]?).bind AV.asSl).bind fun l20 =>
 ((cs18[2]?).bind AV.asSl).bind fun l21 =>
 ((some p17.2).bind (AV.asInt .i64)).bind fun n22 =>
 (q16.2.puts h9r [.bool b19, l20.v, l21.v]).bind fun h23 =>
 ((h23.cell (h9r.add 0)).bind AV.asBool).bind fun b24 =>
 ((h23.cell (h9r.add 1)).bind AV.asSl).bind fun l25 =>
 ((h23.cell (h9r.add 2)).bind AV.asSl).bind fun l26 =>
 some (.tup [.agg [.bool b24, l25.v, l26.v], .int .i64 n22], h23)) none := (ke _ h).trans (by kernel_rfl)
theorem k52 (a1 : Bool) (a2 : Sl) (a3 : Sl) (a4 : Bool) (a5 : Sl) (a6 : Sl) (h : AH) : go (.fn F.km5 [.agg [.bool a1, a2.v, a3.v], .agg [.bool a4, a5.v, a6.v]]) h =
 newK h (.cells [.bool a1, a2.v, a3.v] T.kj) fun h7r h7 =>
 newK h7 (.cells [.bool a4, a5.v, a6.v] T.kj) fun h8r h8 =>
 ((h8.cell (h7r.add 0)).bind AV.asBool).bind fun b9 =>
 ((h8.cell (h7r.add 1)).bind AV.asSl).bind fun l10 =>
 ((h8.cell (h7r.add 2)).bind AV.asSl).bind fun l11 =>
 ((h8.cell (h8r.add 0)).bind AV.asBool).bind fun b12 =>
 ((h8.cell (h8r.add 1)).bind AV.asSl).bind fun l13 =>
 ((h8.cell (h8r.add 2)).bind AV.asSl).bind fun l14 =>
 newK h8 (.cells [.bool b9, l10.v, l11.v, .bool b12, l13.v, l14.v] T.kj) fun h15r h15 =>
 (go (.fn F.kgx [(⟨some h15r, 2, .is 2⟩ : Sl).v]) h15).bind fun q16 =>
 ((some q16.1).bind AV.asBool).bind fun b17 =>
 cond (!b17) (
 some (.int .i64 0, q16.2)) (
 ((q16.2.cell (h7r.add 0)).bind AV.asBool).bind fun b18 =>
 ((q16.2.cell (h7r.add 1)).bind AV.asSl).bind fun l19 =>
 ((q16.2.cell (h7r.add 2)).bind AV.asSl).bind fun l20 =>
 ((q16.2.cell (h8r.add 0)).bind AV.asBool).bind fun b21 =>
 ((q16.2.cell (h8r.add 1)).bind AV.asSl).bind fun l22 =>
 ((q16.2.cell (h8r.add 2)).bind AV.asSl).bind fun l23 =>
 ((q16.2.cell (h8r.add 0)).bind AV.asBool).bind fun b24 =>
 ((q16.2.cell (h8r.add 1)).bind AV.asSl).bind fun l25 =>
 ((q16.2.cell (h8r.add 2)).bind AV.asSl).bind fun l26 =>
 ((q16.2.cell (h7r.add 0)).bind AV.asBool).bind fun b27 =>
 ((q16.2.cell (h7r.add 1)).bind AV.asSl).bind fun l28 =>
 ((q16.2.cell (h7r.add 2)).bind AV.asSl).bind fun l29 =>
 (go (.fn F.kfc [.agg [.bool b18, l19.v, l20.v], .agg [.bool b21, l22.v, l23.v]]) q16.2).bind fun q30 =>
 (AV.asAgg q30.1).bind fun cs31 =>
 cond (Nat.beq cs31.length 2) (
 ((cs31[0]?).bind AV.asBool).bind fun b32 =>
 ((cs31[1]?).bind AV.asSl).bind fun l33 =>
 whenK (SameAt q16.2 q30.2 h7r 3) (
 whenK (SameAt q16.2 q30.2 h8r 3) (
 (go (.fn F.kfc [.agg [.bool b24, l25.v, l26.v], .agg [.bool b27, l28.v, l29.v]]) q30.2).bind fun q34 =>
 (AV.asAgg q34.1).bind fun cs35 =>
 cond (Nat.beq cs35.length 2) (
 ((cs35[0]?).bind AV.asBool).bind fun b36 =>
 ((cs35[1]?).bind AV.asSl).bind fun l37 =>
 (go (.fn F.kov [.agg [.bool b32, l33.v], .agg [.bool b36, l37.v]]) q34.2).bind fun q38 =>
 ((some q38.1).bind (AV.asInt .i64)).bind fun n39 =>
 some (.int .i64 n39, q38.2)) none))) none) := (ke _ h).trans (by kernel_rfl)
theorem k09 (a1 : Int) (h : AH) : go (.fn F.kf4 [.int .u64 a1]) h =
 cond (decide (a1 = 0)) (
 some ((⟨none, 0, .is 0⟩ : Sl).v, h)) (
 newK h (.cells [.int .u64 a1] T.kf) fun h2r h2 =>
 some ((⟨some h2r, 1, .is 1⟩ : Sl).v, h2)) := (ke _ h).trans (by kernel_rfl)
theorem kya (a1 : Bool) (a2 : Sl) (h : AH) : go (.fn F.kc1 [.bool a1, a2.v]) h =
 newK h (.cells [.bool false, (⟨none, 0, .is 0⟩ : Sl).v] T.kg) fun h3r h3 =>
 (go (.fn F.kby [a2.v]) h3).bind fun q4 =>
 ((some q4.1).bind AV.asBool).bind fun b5 =>
 cond (!b5) (
 (q4.2.puts h3r [.bool false, (⟨none, 0, .is 0⟩ : Sl).v]).bind fun h6 =>
 ((h6.cell (h3r.add 0)).bind AV.asBool).bind fun b7 =>
 ((h6.cell (h3r.add 1)).bind AV.asSl).bind fun l8 =>
 some (.agg [.bool b7, l8.v], h6)) (
 cond (decide ((a2.len : Int) = 0)) (
 (q4.2.puts h3r [.bool false, (⟨none, 0, .is 0⟩ : Sl).v]).bind fun h9 =>
 ((h9.cell (h3r.add 0)).bind AV.asBool).bind fun b10 =>
 ((h9.cell (h3r.add 1)).bind AV.asSl).bind fun l11 =>
 some (.agg [.bool b10, l11.v], h9)) (
 newK q4.2 (.cells [] T.kf) fun h12r h12 =>
 (kbj Pg T.kf a2.v h12).bind fun p14 =>
 (kx Pg (⟨some h12r, 0, .is 0⟩ : Sl) p14.1 p14.2 T.kf 1 h12).bind fun q13 =>
 (AV.asSl q13.1).bind fun l15 =>
 (q13.2.puts h3r [.bool a1, l15.v]).bind fun h16 =>
 ((h16.cell (h3r.add 0)).bind AV.asBool).bind fun b17 =>
 ((h16.cell (h3r.add 1)).bind AV.asSl).bind fun l18 =>
 some (.agg [.bool b17, l18.v], h16))) := (ke _ h).trans (by kernel_rfl)
theorem k6j (a1 : Bool) (a2 : Sl) (h : AH) : go (.fn F.kc8 [.agg [.bool a1, a2.v]]) h =
 newK h (.cells [.bool a1, a2.v] T.kg) fun h3r h3 =>
 ((h3.cell (h3r.add 1)).bind AV.asSl).bind fun l4 =>
 (go (.fn F.kby [l4.v]) h3).bind fun q5 =>
 ((some q5.1).bind AV.asBool).bind fun b6 =>
 cond b6 (
 ((q5.2.cell (h3r.add 0)).bind AV.asBool).bind fun b7 =>
 cond (!b7) (
 some (.bool true, q5.2)) (
 ((q5.2.cell (h3r.add 1)).bind AV.asSl).bind fun l8 =>
 some (.bool (decide ((l8.len : Int) > 0)), q5.2))) (
 some (.bool false, q5.2)) := (ke _ h).trans (by kernel_rfl)
theorem ky6 (a1 : Sl) (h : AH) : go (.fn F.kby [a1.v]) h =
 cond (decide ((a1.len : Int) ≤ 64)) (
 cond (decide ((a1.len : Int) = 0)) (
 some (.bool true, h)) (
 (idx a1.ref a1.len (IntKind.wrap .i64 ((a1.len : Int) - 1)) 1).bind fun r2 =>
 ((h.cell r2).bind (AV.asInt .u64)).bind fun n3 =>
 some (.bool (!decide (n3 = 0)), h))) (
 some (.bool false, h)) := (ke _ h).trans (by kernel_rfl)
theorem k5q (a1 : Sl) (a2 : Sl) (h : AH) : go (.fn F.kee [a1.v, a2.v]) h =
 (go (.fn F.kby [a1.v]) h).bind fun q3 =>
 ((some q3.1).bind AV.asBool).bind fun b4 =>
 (go (.fn F.kby [a2.v]) q3.2).bind fun q5 =>
 ((some q5.1).bind AV.asBool).bind fun b6 =>
 cond (!b4) (
 some (.tup [(⟨none, 0, .is 0⟩ : Sl).v, .int .i64 1], q5.2)) (
 cond (!b6) (
 some (.tup [(⟨none, 0, .is 0⟩ : Sl).v, .int .i64 1], q5.2)) (
 newK q5.2 (.cells [] T.kf) fun h7r h7 =>
 (kbj Pg T.kf a1.v h7).bind fun p9 =>
 (kx Pg (⟨some h7r, 0, .is 0⟩ : Sl) p9.1 p9.2 T.kf 1 h7).bind fun q8 =>
 (AV.asSl q8.1).bind fun l10 =>
 newK q8.2 (.cells [] T.kf) fun h11r h11 =>
 (kbj Pg T.kf a2.v h11).bind fun p13 =>
 (kx Pg (⟨some h11r, 0, .is 0⟩ : Sl) p13.1 p13.2 T.kf 1 h11).bind fun q12 =>
 (AV.asSl q12.1).bind fun l14 =>
 go (.pt F.kee Td.kmj [(8, l10.v), (9, l14.v)]) q12.2)) := (ke _ h).trans (by kernel_rfl)
theorem k5f (a1 : Sl) (a2 : Sl) (h : AH) : go (.fn F.khz [a1.v, a2.v]) h =
 (go (.fn F.kby [a1.v]) h).bind fun q3 =>
 ((some q3.1).bind AV.asBool).bind fun b4 =>
 (go (.fn F.kby [a2.v]) q3.2).bind fun q5 =>
 ((some q5.1).bind AV.asBool).bind fun b6 =>
 cond (!b4) (
 some (.tup [(⟨none, 0, .is 0⟩ : Sl).v, (⟨none, 0, .is 0⟩ : Sl).v, .int .i64 1], q5.2)) (
 cond (!b6) (
 some (.tup [(⟨none, 0, .is 0⟩ : Sl).v, (⟨none, 0, .is 0⟩ : Sl).v, .int .i64 1], q5.2)) (
 cond (decide ((a2.len : Int) = 0)) (
 some (.tup [(⟨none, 0, .is 0⟩ : Sl).v, (⟨none, 0, .is 0⟩ : Sl).v, .int .i64 3], q5.2)) (
 (go (.fn F.kbl [a1.v]) q5.2).bind fun q7 =>
 ((some q7.1).bind AV.asSl).bind fun l8 =>
 (go (.fn F.kbl [a2.v]) q7.2).bind fun q9 =>
 ((some q9.1).bind AV.asSl).bind fun l10 =>
 (go (.fn F.kct [l8.v, l10.v]) q9.2).bind fun q11 =>
 (AV.asTup2 q11.1).bind fun p12 =>
 ((some p12.1).bind AV.asSl).bind fun l13 =>
 ((some p12.2).bind AV.asSl).bind fun l14 =>
 (go (.fn F.kca [l13.v]) q11.2).bind fun q15 =>
 (AV.asTup2 q15.1).bind fun p16 =>
 ((some p16.1).bind AV.asSl).bind fun l17 =>
 ((some p16.2).bind AV.asBool).bind fun b18 =>
 (go (.fn F.kca [l14.v]) q15.2).bind fun q19 =>
 (AV.asTup2 q19.1).bind fun p20 =>
 ((some p20.1).bind AV.asSl).bind fun l21 =>
 ((some p20.2).bind AV.asBool).bind fun b22 =>
 some (.tup [l17.v, l21.v, .int .i64 0], q19.2)))) := (ke _ h).trans (by kernel_rfl)
theorem k0u (a1 : Int) (a2 : Int) (a3 : Int) (a4 : Int) (a5 : Int) (h : AH) : go (.fn F.kj0 [.int .i64 a1, .agg [.int .i64 a2, .int .i64 a3], .agg [.int .i64 a4, .int .i64 a5]]) h =
 newK h (.cells [.int .i64 a2, .int .i64 a3] T.kz) fun h6r h6 =>
 newK h6 (.cells [.int .i64 a4, .int .i64 a5] T.kz) fun h7r h7 =>
 newK h7 (.cells [.bool false, (⟨none, 0, .is 0⟩ : Sl).v, (⟨none, 0, .is 0⟩ : Sl).v] T.kj) fun h8r h8 =>
 ((h8.cell (h6r.add 0)).bind (AV.asInt .i64)).bind fun n9 =>
 ((h8.cell (h6r.add 1)).bind (AV.asInt .i64)).bind fun n10 =>
 ((h8.cell (h7r.add 0)).bind (AV.asInt .i64)).bind fun n11 =>
 ((h8.cell (h7r.add 1)).bind (AV.asInt .i64)).bind fun n12 =>
 (go (.fn F.kjq [.agg [.int .i64 n9, .int .i64 n10], .agg [.int .i64 n11, .int .i64 n12]]) h8).bind fun q13 =>
 (AV.asTup2 q13.1).bind fun p14 =>
 (AV.asAgg p14.1).bind fun cs15 =>
 cond (Nat.beq cs15.length 2) (
 ((cs15[0]?).bind (AV.asInt .i64)).bind fun n16 =>
 ((cs15[1]?).bind (AV.asInt .i64)).bind fun n17 =>
 ((some p14.2).bind AV.asBool).bind fun b18 =>
 newK q13.2 (.cells [.int .i64 0, .int .i64 0] T.kz) fun h19r h19 =>
 (h19.puts h19r [.int .i64 n16, .int .i64 n17]).bind fun h20 =>
 cond (!b18) (
 (h20.puts h8r [.bool false, (⟨none, 0, .is 0⟩ : Sl).v, (⟨none, 0, .is 0⟩ : Sl).v]).bind fun h21 =>
 ((h21.cell (h8r.add 0)).bind AV.asBool).bind fun b22 =>
 ((h21.cell (h8r.add 1)).bind AV.asSl).bind fun l23 =>
 ((h21.cell (h8r.add 2)).bind AV.asSl).bind fun l24 =>
 some (.tup [.agg [.bool b22, l23.v, l24.v], .int .i64 1], h21)) (
 cond (decide (a1 < 1)) (
 (h20.puts h8r [.bool false, (⟨none, 0, .is 0⟩ : Sl).v, (⟨none, 0, .is 0⟩ : Sl).v]).bind fun h25 =>
 ((h25.cell (h8r.add 0)).bind AV.asBool).bind fun b26 =>
 ((h25.cell (h8r.add 1)).bind AV.asSl).bind fun l27 =>
 ((h25.cell (h8r.add 2)).bind AV.asSl).bind fun l28 =>
 some (.tup [.agg [.bool b26, l27.v, l28.v], .int .i64 1], h25)) (
 cond (decide (a1 > 1048576)) (
 (h20.puts h8r [.bool false, (⟨none, 0, .is 0⟩ : Sl).v, (⟨none, 0, .is 0⟩ : Sl).v]).bind fun h29 =>
 ((h29.cell (h8r.add 0)).bind AV.asBool).bind fun b30 =>
 ((h29.cell (h8r.add 1)).bind AV.asSl).bind fun l31 =>
 ((h29.cell (h8r.add 2)).bind AV.asSl).bind fun l32 =>
 some (.tup [.agg [.bool b30, l31.v, l32.v], .int .i64 1], h29)) (
 ((h20.cell (h6r.add 0)).bind (AV.asInt .i64)).bind fun n33 =>
 ((h20.cell (h6r.add 1)).bind (AV.asInt .i64)).bind fun n34 =>
 (go (.fn F.kgs [.int .i64 a1, .agg [.int .i64 n33, .int .i64 n34]]) h20).bind fun q35 =>
 (AV.asTup2 q35.1).bind fun p36 =>
 (AV.asAgg p36.1).bind fun cs37 =>
 cond (Nat.beq cs37.length 3) (
 ((cs37[0]?).bind AV.asBool).bind fun b38 =>
 ((cs37[1]?).bind AV.asSl).bind fun l39 =>
 ((cs37[2]?).bind AV.asSl).bind fun l40 =>
 ((some p36.2).bind (AV.asInt .i64)).bind fun n41 =>
 newK q35.2 (.cells [.bool false, (⟨none, 0, .is 0⟩ : Sl).v, (⟨none, 0, .is 0⟩ : Sl).v] T.kj) fun h42r h42 =>
 (h42.puts h42r [.bool b38, l39.v, l40.v]).bind fun h43 =>
 ((h43.cell (h19r.add 0)).bind (AV.asInt .i64)).bind fun n44 =>
 ((h43.cell (h19r.add 1)).bind (AV.asInt .i64)).bind fun n45 =>
 (go (.fn F.kgs [.int .i64 a1, .agg [.int .i64 n44, .int .i64 n45]]) h43).bind fun q46 =>
 (AV.asTup2 q46.1).bind fun p47 =>
 (AV.asAgg p47.1).bind fun cs48 =>
 cond (Nat.beq cs48.length 3) (
 ((cs48[0]?).bind AV.asBool).bind fun b49 =>
 ((cs48[1]?).bind AV.asSl).bind fun l50 =>
 ((cs48[2]?).bind AV.asSl).bind fun l51 =>
 ((some p47.2).bind (AV.asInt .i64)).bind fun n52 =>
 newK q46.2 (.cells [.bool false, (⟨none, 0, .is 0⟩ : Sl).v, (⟨none, 0, .is 0⟩ : Sl).v] T.kj) fun h53r h53 =>
 (h53.puts h53r [.bool b49, l50.v, l51.v]).bind fun h54 =>
 ((h54.cell (h7r.add 0)).bind (AV.asInt .i64)).bind fun n55 =>
 ((h54.cell (h7r.add 1)).bind (AV.asInt .i64)).bind fun n56 =>
 (go (.fn F.kgs [.int .i64 a1, .agg [.int .i64 n55, .int .i64 n56]]) h54).bind fun q57 =>
 (AV.asTup2 q57.1).bind fun p58 =>
 (AV.asAgg p58.1).bind fun cs59 =>
 cond (Nat.beq cs59.length 3) (
 ((cs59[0]?).bind AV.asBool).bind fun b60 =>
 ((cs59[1]?).bind AV.asSl).bind fun l61 =>
 ((cs59[2]?).bind AV.asSl).bind fun l62 =>
 ((some p58.2).bind (AV.asInt .i64)).bind fun n63 =>
 newK q57.2 (.cells [.bool false, (⟨none, 0, .is 0⟩ : Sl).v, (⟨none, 0, .is 0⟩ : Sl).v] T.kj) fun h64r h64 =>
 (h64.puts h64r [.bool b60, l61.v, l62.v]).bind fun h65 =>
 ((h65.cell (h42r.add 0)).bind AV.asBool).bind fun b66 =>
 ((h65.cell (h42r.add 1)).bind AV.asSl).bind fun l67 =>
 ((h65.cell (h42r.add 2)).bind AV.asSl).bind fun l68 =>
 ((h65.cell (h53r.add 0)).bind AV.asBool).bind fun b69 =>
 ((h65.cell (h53r.add 1)).bind AV.asSl).bind fun l70 =>
 ((h65.cell (h53r.add 2)).bind AV.asSl).bind fun l71 =>
 (go (.fn F.kjr [.agg [.bool b66, l67.v, l68.v], .agg [.bool b69, l70.v, l71.v]]) h65).bind fun q72 =>
 (AV.asTup2 q72.1).bind fun p73 =>
 (AV.asAgg p73.1).bind fun cs74 =>
 cond (Nat.beq cs74.length 3) (
 ((cs74[0]?).bind AV.asBool).bind fun b75 =>
 ((cs74[1]?).bind AV.asSl).bind fun l76 =>
 ((cs74[2]?).bind AV.asSl).bind fun l77 =>
 ((some p73.2).bind (AV.asInt .i64)).bind fun n78 =>
 newK q72.2 (.cells [.bool false, (⟨none, 0, .is 0⟩ : Sl).v, (⟨none, 0, .is 0⟩ : Sl).v] T.kj) fun h79r h79 =>
 (h79.puts h79r [.bool b75, l76.v, l77.v]).bind fun h80 =>
 ((h80.cell (h79r.add 0)).bind AV.asBool).bind fun b81 =>
 ((h80.cell (h79r.add 1)).bind AV.asSl).bind fun l82 =>
 ((h80.cell (h79r.add 2)).bind AV.asSl).bind fun l83 =>
 ((h80.cell (h64r.add 0)).bind AV.asBool).bind fun b84 =>
 ((h80.cell (h64r.add 1)).bind AV.asSl).bind fun l85 =>
 ((h80.cell (h64r.add 2)).bind AV.asSl).bind fun l86 =>
 (go (.fn F.kka [.agg [.bool b81, l82.v, l83.v], .agg [.bool b84, l85.v, l86.v]]) h80).bind fun q87 =>
 (AV.asTup2 q87.1).bind fun p88 =>
 (AV.asAgg p88.1).bind fun cs89 =>
 cond (Nat.beq cs89.length 3) (
 ((cs89[0]?).bind AV.asBool).bind fun b90 =>
 ((cs89[1]?).bind AV.asSl).bind fun l91 =>
 ((cs89[2]?).bind AV.asSl).bind fun l92 =>
 ((some p88.2).bind (AV.asInt .i64)).bind fun n93 =>
 (q87.2.puts h8r [.bool b90, l91.v, l92.v]).bind fun h94 =>
 ((h94.cell (h8r.add 0)).bind AV.asBool).bind fun b95 =>
 ((h94.cell (h8r.add 1)).bind AV.asSl).bind fun l96 =>
 ((h94.cell (h8r.add 2)).bind AV.asSl).bind fun l97 =>
 some (.tup [.agg [.bool b95, l96.v, l97.v], .int .i64 n93], h94)) none) none) none) none) none)))) none := (ke _ h).trans (by kernel_rfl)
theorem kw5 (a1 : Bool) (a2 : Sl) (a3 : Sl) (a4 : Bool) (a5 : Sl) (a6 : Sl) (h : AH) : go (.fn F.kn5 [.agg [.bool a1, a2.v, a3.v], .agg [.bool a4, a5.v, a6.v]]) h =
 newK h (.cells [.bool a1, a2.v, a3.v] T.kj) fun h7r h7 =>
 newK h7 (.cells [.bool a4, a5.v, a6.v] T.kj) fun h8r h8 =>
 ((h8.cell (h7r.add 0)).bind AV.asBool).bind fun b9 =>
 ((h8.cell (h7r.add 1)).bind AV.asSl).bind fun l10 =>
 ((h8.cell (h7r.add 2)).bind AV.asSl).bind fun l11 =>
 (go (.fn F.kek [.agg [.bool b9, l10.v, l11.v]]) h8).bind fun q12 =>
 ((some q12.1).bind AV.asBool).bind fun b13 =>
 ((q12.2.cell (h8r.add 0)).bind AV.asBool).bind fun b14 =>
 ((q12.2.cell (h8r.add 1)).bind AV.asSl).bind fun l15 =>
 ((q12.2.cell (h8r.add 2)).bind AV.asSl).bind fun l16 =>
 (go (.fn F.kek [.agg [.bool b14, l15.v, l16.v]]) q12.2).bind fun q17 =>
 ((some q17.1).bind AV.asBool).bind fun b18 =>
 cond (!b13) (
 some (.int .i64 0, q17.2)) (
 cond (!b18) (
 some (.int .i64 0, q17.2)) (
 ((q17.2.cell (h7r.add 0)).bind AV.asBool).bind fun b19 =>
 ((q17.2.cell (h7r.add 1)).bind AV.asSl).bind fun l20 =>
 ((q17.2.cell (h7r.add 2)).bind AV.asSl).bind fun l21 =>
 ((q17.2.cell (h8r.add 0)).bind AV.asBool).bind fun b22 =>
 ((q17.2.cell (h8r.add 1)).bind AV.asSl).bind fun l23 =>
 ((q17.2.cell (h8r.add 2)).bind AV.asSl).bind fun l24 =>
 ((q17.2.cell (h8r.add 0)).bind AV.asBool).bind fun b25 =>
 ((q17.2.cell (h8r.add 1)).bind AV.asSl).bind fun l26 =>
 ((q17.2.cell (h8r.add 2)).bind AV.asSl).bind fun l27 =>
 ((q17.2.cell (h7r.add 0)).bind AV.asBool).bind fun b28 =>
 ((q17.2.cell (h7r.add 1)).bind AV.asSl).bind fun l29 =>
 ((q17.2.cell (h7r.add 2)).bind AV.asSl).bind fun l30 =>
 (go (.fn F.kgl [.agg [.bool b19, l20.v, l21.v], .agg [.bool b22, l23.v, l24.v]]) q17.2).bind fun q31 =>
 (AV.asAgg q31.1).bind fun cs32 =>
 cond (Nat.beq cs32.length 2) (
 ((cs32[0]?).bind AV.asBool).bind fun b33 =>
 ((cs32[1]?).bind AV.asSl).bind fun l34 =>
 whenK (SameAt q17.2 q31.2 h7r 3) (
 whenK (SameAt q17.2 q31.2 h8r 3) (
 (go (.fn F.kgl [.agg [.bool b25, l26.v, l27.v], .agg [.bool b28, l29.v, l30.v]]) q31.2).bind fun q35 =>
 (AV.asAgg q35.1).bind fun cs36 =>
 cond (Nat.beq cs36.length 2) (
 ((cs36[0]?).bind AV.asBool).bind fun b37 =>
 ((cs36[1]?).bind AV.asSl).bind fun l38 =>
 (go (.fn F.kmx [.agg [.bool b33, l34.v], .agg [.bool b37, l38.v]]) q35.2).bind fun q39 =>
 ((some q39.1).bind (AV.asInt .i64)).bind fun n40 =>
 some (.int .i64 n40, q39.2)) none))) none)) := (ke _ h).trans (by kernel_rfl)
theorem k2z (a1 : Int) (a2 : Int) (h : AH) : go (.fn F.kkr [.int .u64 a1, .int .u64 a2]) h =
 some (.tup [.int .u64 (IntKind.wrap .u64 ((IntKind.wrap .u64 ((IntKind.wrap .u64 ((ishr .u64 a1 32) * (ishr .u64 a2 32))) + (ishr .u64 (IntKind.wrap .u64 ((IntKind.wrap .u64 ((ishr .u64 a1 32) * (iand .u64 a2 4294967295))) + (ishr .u64 (IntKind.wrap .u64 ((iand .u64 a1 4294967295) * (iand .u64 a2 4294967295))) 32))) 32))) + (ishr .u64 (IntKind.wrap .u64 ((iand .u64 (IntKind.wrap .u64 ((IntKind.wrap .u64 ((ishr .u64 a1 32) * (iand .u64 a2 4294967295))) + (ishr .u64 (IntKind.wrap .u64 ((iand .u64 a1 4294967295) * (iand .u64 a2 4294967295))) 32))) 4294967295) + (IntKind.wrap .u64 ((iand .u64 a1 4294967295) * (ishr .u64 a2 32))))) 32))), .int .u64 (IntKind.wrap .u64 (a1 * a2))], h) := (ke _ h).trans (by kernel_rfl)
theorem kx2 (a1 : Sl) (h : AH) : go (.fn F.kr2 [a1.v, .func (.func F.kc9) [] []]) h =
 (go (.fn F.kg6 [a1.v, .func (.func F.kc9) [] []]) h).bind fun q2 =>
 ((some q2.1).bind (AV.asInt .i64)).bind fun n3 =>
 some (.bool (decide (n3 ≥ 0)), q2.2) := (ke _ h).trans (by kernel_rfl)
theorem kwe (a1 : Sl) (a2 : Sl) (h : AH) : go (.fn F.kl2 [a1.v, a2.v]) h =
 newK h (.cells [.nilFunc] T.k4j) fun h3r h3 =>
 (h3.puts h3r [.func (.func F.kip) [] [.ptr (some h3r)]]).bind fun h4 =>
 (h4.cell h3r).bind fun v5 =>
 yieldK v5 [a1.v, a2.v] (fun y7 =>
 (go (.round y7.1 y7.2) h4).bind fun q6 =>
 ((some q6.1).bind AV.asSl).bind fun l9 =>
 some (l9.v, q6.2)) (
 (callV Pg go v5 [a1.v, a2.v] h4).bind fun q8 =>
 ((some q8.1).bind AV.asSl).bind fun l10 =>
 some (l10.v, q8.2)) := (ke _ h).trans (by kernel_rfl)
theorem kwb (a1 : Sl) (h : AH) : go (.fn F.ki7 [a1.v]) h =
 (go (.fn F.kbi [a1.v]) h).bind fun q2 =>
 ((some q2.1).bind AV.asSl).bind fun l3 =>
 cond (decide ((l3.len : Int) > 64)) (
 some (.tup [(⟨none, 0, .is 0⟩ : Sl).v, .int .i64 4], q2.2)) (
 some (.tup [l3.v, .int .i64 0], q2.2)) := (ke _ h).trans (by kernel_rfl)
theorem kvl (a1 : Sl) (h : AH) : go (.fn F.kr7 [a1.v, .func (.func F.kc7) [] []]) h =
 (go (.fn F.khw [a1.v, .func (.func F.kc7) [] []]) h).bind fun q2 =>
 ((some q2.1).bind (AV.asInt .i64)).bind fun n3 =>
 some (.bool (decide (n3 ≥ 0)), q2.2) := (ke _ h).trans (by kernel_rfl)
theorem ksw (a1 : Sl) (a2 : Sl) (a3 : Int) (h : AH) : go (.pt F.kdk Td.klc [(0, a1.v), (1, a2.v), (5, .int .i64 a3)]) h =
 cond (decide (a3 ≥ 0)) (
 (idx a1.ref a1.len a3 1).bind fun r4 =>
 ((h.cell r4).bind (AV.asInt .u64)).bind fun n5 =>
 (idx a2.ref a2.len a3 1).bind fun r6 =>
 ((h.cell r6).bind (AV.asInt .u64)).bind fun n7 =>
 cond (!decide (n5 = n7)) (
 (idx a1.ref a1.len a3 1).bind fun r8 =>
 ((h.cell r8).bind (AV.asInt .u64)).bind fun n9 =>
 (idx a2.ref a2.len a3 1).bind fun r10 =>
 ((h.cell r10).bind (AV.asInt .u64)).bind fun n11 =>
 cond (decide (n9 < n11)) (
 some (.int .i64 (-1), h)) (
 some (.int .i64 1, h))) (
 go (.pt F.kdk Td.klc [(0, a1.v), (1, a2.v), (5, .int .i64 (IntKind.wrap .i64 (a3 - 1)))]) h)) (
 some (.int .i64 0, h)) := (ke _ h).trans (by kernel_rfl)
theorem ky8 (a1 : Sl) (a2 : Int) (a3 : Sl) (a4 : Int) (a5 : Int) (h : AH) : go (.pt F.keq Td.kl5 [(0, a1.v), (1, .int .u64 a2), (6, a3.v), (7, .int .u64 a4), (8, .int .i64 a5)]) h =
 cond (decide (a5 ≥ 0)) (
 (idx a1.ref a1.len a5 1).bind fun r6 =>
 ((h.cell r6).bind (AV.asInt .u64)).bind fun n7 =>
 (go (.fn F.kbo [.int .u64 a4, .int .u64 n7, .int .u64 a2]) h).bind fun q8 =>
 (AV.asTup2 q8.1).bind fun p9 =>
 ((some p9.1).bind (AV.asInt .u64)).bind fun n10 =>
 ((some p9.2).bind (AV.asInt .u64)).bind fun n11 =>
 (idx a3.ref a3.len a5 1).bind fun r12 =>
 (q8.2.puts r12 [.int .u64 n10]).bind fun h13 =>
 go (.pt F.keq Td.kl5 [(0, a1.v), (1, .int .u64 a2), (6, a3.v), (7, .int .u64 n11), (8, .int .i64 (IntKind.wrap .i64 (a5 - 1)))]) h13) (
 (go (.fn F.kbi [a3.v]) h).bind fun q14 =>
 ((some q14.1).bind AV.asSl).bind fun l15 =>
 some (.tup [l15.v, .int .u64 a4], q14.2)) := (ke _ h).trans (by kernel_rfl)
theorem k5g (a1 : Int) (h : AH) : go (.fn F.kk0 [.int .u64 a1]) h =
 (go (.fn F.kk7 [.int .u64 a1]) h).bind fun q2 =>
 ((some q2.1).bind (AV.asInt .i64)).bind fun n3 =>
 some (.int .i64 (IntKind.wrap .i64 (64 - n3)), q2.2) := (ke _ h).trans (by kernel_rfl)
theorem k4h (a1 : Sl) (a2 : Int) (h : AH) : go (.fn F.kdq [a1.v, .int .u64 a2]) h =
 (kbv (IntKind.wrap .i64 ((a1.len : Int) + 1)) (IntKind.wrap .i64 ((a1.len : Int) + 1)) T.kf (Pg.bytesOf T.kf) [.int .u64 0] h).bind fun q3 =>
 go (.pt F.kdq Td.kjb [(1, .int .u64 a2), (5, q3.1.v), (12, a1.v), (13, .int .i64 (a1.len : Int)), (14, .int .i64 0)]) q3.2 := (ke _ h).trans (by kernel_rfl)
theorem k6a (a1 : Int) (a2 : Sl) (a3 : Sl) (a4 : Int) (a5 : Sl) (a6 : Int) (h : AH) : go (.pt F.kbz Td.klv [(6, .int .u64 a1), (7, a2.v), (8, a3.v), (9, .int .i64 a4), (10, a5.v), (11, .int .i64 a6)]) h =
 cond (decide (a6 ≥ 0)) (
 (idx a2.ref a2.len (IntKind.wrap .i64 (a6 + a4)) 1).bind fun r7 =>
 ((h.cell r7).bind (AV.asInt .u64)).bind fun n8 =>
 (idx a2.ref a2.len (IntKind.wrap .i64 ((IntKind.wrap .i64 (a6 + a4)) - 1)) 1).bind fun r9 =>
 ((h.cell r9).bind (AV.asInt .u64)).bind fun n10 =>
 (idx a2.ref a2.len (IntKind.wrap .i64 ((IntKind.wrap .i64 (a6 + a4)) - 2)) 1).bind fun r11 =>
 ((h.cell r11).bind (AV.asInt .u64)).bind fun n12 =>
 (idx a3.ref a3.len (IntKind.wrap .i64 (a4 - 1)) 1).bind fun r13 =>
 ((h.cell r13).bind (AV.asInt .u64)).bind fun n14 =>
 (idx a3.ref a3.len (IntKind.wrap .i64 (a4 - 2)) 1).bind fun r15 =>
 ((h.cell r15).bind (AV.asInt .u64)).bind fun n16 =>
 (go (.fn F.kep [.int .u64 n8, .int .u64 n10, .int .u64 n12, .int .u64 n14, .int .u64 n16]) h).bind fun q17 =>
 ((some q17.1).bind (AV.asInt .u64)).bind fun n18 =>
 (cutSl a2 a6 (IntKind.wrap .i64 ((IntKind.wrap .i64 (a6 + a4)) + 1)) 1).bind fun l19 =>
 go (.pt F.kbz Td.kmn [(6, .int .u64 a1), (7, a2.v), (8, a3.v), (9, .int .i64 a4), (10, a5.v), (11, .int .i64 a6), (12, .int .u64 n18), (13, l19.v)]) q17.2) (
 (go (.fn F.kbi [a2.v]) h).bind fun q20 =>
 ((some q20.1).bind AV.asSl).bind fun l21 =>
 (kbv (l21.len : Int) (l21.len : Int) T.kf (Pg.bytesOf T.kf) [.int .u64 0] q20.2).bind fun q22 =>
 go (.pt F.kbz Td.khg [(6, .int .u64 a1), (10, a5.v), (15, l21.v), (16, q22.1.v), (112, .int .i64 (l21.len : Int)), (113, .int .i64 0)]) q22.2) := (ke _ h).trans (by kernel_rfl)
theorem k2q (a1 : Bool) (a2 : Sl) (a3 : Sl) (a4 : Bool) (a5 : Sl) (a6 : Sl) (h : AH) : go (.fn F.khx [.agg [.bool a1, a2.v, a3.v], .agg [.bool a4, a5.v, a6.v], .func (.func F.kf3) [] []]) h =
 newK h (.cells [.bool a1, a2.v, a3.v] T.kj) fun h7r h7 =>
 newK h7 (.cells [.bool a4, a5.v, a6.v] T.kj) fun h8r h8 =>
 newK h8 (.cells [.bool false, (⟨none, 0, .is 0⟩ : Sl).v, (⟨none, 0, .is 0⟩ : Sl).v] T.kj) fun h9r h9 =>
 ((h9.cell (h7r.add 0)).bind AV.asBool).bind fun b10 =>
 ((h9.cell (h7r.add 1)).bind AV.asSl).bind fun l11 =>
 ((h9.cell (h7r.add 2)).bind AV.asSl).bind fun l12 =>
 ((h9.cell (h8r.add 0)).bind AV.asBool).bind fun b13 =>
 ((h9.cell (h8r.add 1)).bind AV.asSl).bind fun l14 =>
 ((h9.cell (h8r.add 2)).bind AV.asSl).bind fun l15 =>
 newK h9 (.cells [.bool b10, l11.v, l12.v, .bool b13, l14.v, l15.v] T.kj) fun h16r h16 =>
 (go (.fn F.kgx [(⟨some h16r, 2, .is 2⟩ : Sl).v]) h16).bind fun q17 =>
 ((some q17.1).bind AV.asBool).bind fun b18 =>
 cond (!b18) (
 (q17.2.puts h9r [.bool false, (⟨none, 0, .is 0⟩ : Sl).v, (⟨none, 0, .is 0⟩ : Sl).v]).bind fun h19 =>
 ((h19.cell (h9r.add 0)).bind AV.asBool).bind fun b20 =>
 ((h19.cell (h9r.add 1)).bind AV.asSl).bind fun l21 =>
 ((h19.cell (h9r.add 2)).bind AV.asSl).bind fun l22 =>
 some (.tup [.agg [.bool b20, l21.v, l22.v], .int .i64 1], h19)) (
 newK q17.2 (.cells [.bool false, (⟨none, 0, .is 0⟩ : Sl).v] T.kg) fun h23r h23 =>
 ((h23.cell (h7r.add 0)).bind AV.asBool).bind fun b24 =>
 ((h23.cell (h7r.add 1)).bind AV.asSl).bind fun l25 =>
 ((h23.cell (h7r.add 2)).bind AV.asSl).bind fun l26 =>
 ((h23.cell (h8r.add 0)).bind AV.asBool).bind fun b27 =>
 ((h23.cell (h8r.add 1)).bind AV.asSl).bind fun l28 =>
 ((h23.cell (h8r.add 2)).bind AV.asSl).bind fun l29 =>
 ((h23.cell (h8r.add 0)).bind AV.asBool).bind fun b30 =>
 ((h23.cell (h8r.add 1)).bind AV.asSl).bind fun l31 =>
 ((h23.cell (h8r.add 2)).bind AV.asSl).bind fun l32 =>
 ((h23.cell (h7r.add 0)).bind AV.asBool).bind fun b33 =>
 ((h23.cell (h7r.add 1)).bind AV.asSl).bind fun l34 =>
 ((h23.cell (h7r.add 2)).bind AV.asSl).bind fun l35 =>
 (go (.fn F.kfc [.agg [.bool b24, l25.v, l26.v], .agg [.bool b27, l28.v, l29.v]]) h23).bind fun q36 =>
 (AV.asAgg q36.1).bind fun cs37 =>
 cond (Nat.beq cs37.length 2) (
 ((cs37[0]?).bind AV.asBool).bind fun b38 =>
 ((cs37[1]?).bind AV.asSl).bind fun l39 =>
 whenK (SameAt h23 q36.2 h7r 3) (
 whenK (SameAt h23 q36.2 h8r 3) (
 whenK (SameAt h23 q36.2 h23r 0) (
 (go (.fn F.kfc [.agg [.bool b30, l31.v, l32.v], .agg [.bool b33, l34.v, l35.v]]) q36.2).bind fun q40 =>
 (AV.asAgg q40.1).bind fun cs41 =>
 cond (Nat.beq cs41.length 2) (
 ((cs41[0]?).bind AV.asBool).bind fun b42 =>
 ((cs41[1]?).bind AV.asSl).bind fun l43 =>
 whenK (SameAt q36.2 q40.2 h23r 0) (
 (go (.fn F.kf3 [.agg [.bool b38, l39.v], .agg [.bool b42, l43.v]]) q40.2).bind fun q44 =>
 (AV.asTup2 q44.1).bind fun p45 =>
 (AV.asAgg p45.1).bind fun cs46 =>
 cond (Nat.beq cs46.length 2) (
 ((cs46[0]?).bind AV.asBool).bind fun b47 =>
 ((cs46[1]?).bind AV.asSl).bind fun l48 =>
 ((some p45.2).bind (AV.asInt .i64)).bind fun n49 =>
 whenK (SameAt q40.2 q44.2 h23r 0) (
 (q44.2.puts h23r [.bool b47, l48.v]).bind fun h50 =>
 ((h50.cell (h7r.add 2)).bind AV.asSl).bind fun l51 =>
 ((h50.cell (h8r.add 2)).bind AV.asSl).bind fun l52 =>
 (go (.fn F.kiy [l51.v, l52.v]) h50).bind fun q53 =>
 (AV.asTup2 q53.1).bind fun p54 =>
 ((some p54.1).bind AV.asSl).bind fun l55 =>
 ((some p54.2).bind (AV.asInt .i64)).bind fun n56 =>
 ((q53.2.cell (h23r.add 0)).bind AV.asBool).bind fun b57 =>
 ((q53.2.cell (h23r.add 1)).bind AV.asSl).bind fun l58 =>
 (go (.fn F.kg1 [.agg [.bool b57, l58.v], l55.v]) q53.2).bind fun q59 =>
 (AV.asTup2 q59.1).bind fun p60 =>
 (AV.asAgg p60.1).bind fun cs61 =>
 cond (Nat.beq cs61.length 3) (
 ((cs61[0]?).bind AV.asBool).bind fun b62 =>
 ((cs61[1]?).bind AV.asSl).bind fun l63 =>
 ((cs61[2]?).bind AV.asSl).bind fun l64 =>
 ((some p60.2).bind (AV.asInt .i64)).bind fun n65 =>
 (q59.2.puts h9r [.bool b62, l63.v, l64.v]).bind fun h66 =>
 ((h66.cell (h9r.add 0)).bind AV.asBool).bind fun b67 =>
 ((h66.cell (h9r.add 1)).bind AV.asSl).bind fun l68 =>
 ((h66.cell (h9r.add 2)).bind AV.asSl).bind fun l69 =>
 some (.tup [.agg [.bool b67, l68.v, l69.v], .int .i64 n65], h66)) none)) none)) none)))) none) := (ke _ h).trans (by kernel_rfl)
theorem kww (a1 : Bool) (a2 : Sl) (a3 : Sl) (a4 : Bool) (a5 : Sl) (a6 : Sl) (h : AH) : go (.fn F.khx [.agg [.bool a1, a2.v, a3.v], .agg [.bool a4, a5.v, a6.v], .func (.func F.kgu) [] []]) h =
 newK h (.cells [.bool a1, a2.v, a3.v] T.kj) fun h7r h7 =>
 newK h7 (.cells [.bool a4, a5.v, a6.v] T.kj) fun h8r h8 =>
 newK h8 (.cells [.bool false, (⟨none, 0, .is 0⟩ : Sl).v, (⟨none, 0, .is 0⟩ : Sl).v] T.kj) fun h9r h9 =>
 ((h9.cell (h7r.add 0)).bind AV.asBool).bind fun b10 =>
 ((h9.cell (h7r.add 1)).bind AV.asSl).bind fun l11 =>
 ((h9.cell (h7r.add 2)).bind AV.asSl).bind fun l12 =>
 ((h9.cell (h8r.add 0)).bind AV.asBool).bind fun b13 =>
 ((h9.cell (h8r.add 1)).bind AV.asSl).bind fun l14 =>
 ((h9.cell (h8r.add 2)).bind AV.asSl).bind fun l15 =>
 newK h9 (.cells [.bool b10, l11.v, l12.v, .bool b13, l14.v, l15.v] T.kj) fun h16r h16 =>
 (go (.fn F.kgx [(⟨some h16r, 2, .is 2⟩ : Sl).v]) h16).bind fun q17 =>
 ((some q17.1).bind AV.asBool).bind fun b18 =>
 cond (!b18) (
 (q17.2.puts h9r [.bool false, (⟨none, 0, .is 0⟩ : Sl).v, (⟨none, 0, .is 0⟩ : Sl).v]).bind fun h19 =>
 ((h19.cell (h9r.add 0)).bind AV.asBool).bind fun b20 =>
 ((h19.cell (h9r.add 1)).bind AV.asSl).bind fun l21 =>
 ((h19.cell (h9r.add 2)).bind AV.asSl).bind fun l22 =>
 some (.tup [.agg [.bool b20, l21.v, l22.v], .int .i64 1], h19)) (
 newK q17.2 (.cells [.bool false, (⟨none, 0, .is 0⟩ : Sl).v] T.kg) fun h23r h23 =>
 ((h23.cell (h7r.add 0)).bind AV.asBool).bind fun b24 =>
 ((h23.cell (h7r.add 1)).bind AV.asSl).bind fun l25 =>
 ((h23.cell (h7r.add 2)).bind AV.asSl).bind fun l26 =>
 ((h23.cell (h8r.add 0)).bind AV.asBool).bind fun b27 =>
 ((h23.cell (h8r.add 1)).bind AV.asSl).bind fun l28 =>
 ((h23.cell (h8r.add 2)).bind AV.asSl).bind fun l29 =>
 ((h23.cell (h8r.add 0)).bind AV.asBool).bind fun b30 =>
 ((h23.cell (h8r.add 1)).bind AV.asSl).bind fun l31 =>
 ((h23.cell (h8r.add 2)).bind AV.asSl).bind fun l32 =>
 ((h23.cell (h7r.add 0)).bind AV.asBool).bind fun b33 =>
 ((h23.cell (h7r.add 1)).bind AV.asSl).bind fun l34 =>
 ((h23.cell (h7r.add 2)).bind AV.asSl).bind fun l35 =>
 (go (.fn F.kfc [.agg [.bool b24, l25.v, l26.v], .agg [.bool b27, l28.v, l29.v]]) h23).bind fun q36 =>
 (AV.asAgg q36.1).bind fun cs37 =>
 cond (Nat.beq cs37.length 2) (
 ((cs37[0]?).bind AV.asBool).bind fun b38 =>
 ((cs37[1]?).bind AV.asSl).bind fun l39 =>
 whenK (SameAt h23 q36.2 h7r 3) (
 whenK (SameAt h23 q36.2 h8r 3) (
 whenK (SameAt h23 q36.2 h23r 0) (
 (go (.fn F.kfc [.agg [.bool b30, l31.v, l32.v], .agg [.bool b33, l34.v, l35.v]]) q36.2).bind fun q40 =>
 (AV.asAgg q40.1).bind fun cs41 =>
 cond (Nat.beq cs41.length 2) (
 ((cs41[0]?).bind AV.asBool).bind fun b42 =>
 ((cs41[1]?).bind AV.asSl).bind fun l43 =>
 whenK (SameAt q36.2 q40.2 h23r 0) (
 (go (.fn F.kgu [.agg [.bool b38, l39.v], .agg [.bool b42, l43.v]]) q40.2).bind fun q44 =>
 (AV.asTup2 q44.1).bind fun p45 =>
 (AV.asAgg p45.1).bind fun cs46 =>
 cond (Nat.beq cs46.length 2) (
 ((cs46[0]?).bind AV.asBool).bind fun b47 =>
 ((cs46[1]?).bind AV.asSl).bind fun l48 =>
 ((some p45.2).bind (AV.asInt .i64)).bind fun n49 =>
 whenK (SameAt q40.2 q44.2 h23r 0) (
 (q44.2.puts h23r [.bool b47, l48.v]).bind fun h50 =>
 ((h50.cell (h7r.add 2)).bind AV.asSl).bind fun l51 =>
 ((h50.cell (h8r.add 2)).bind AV.asSl).bind fun l52 =>
 (go (.fn F.kiy [l51.v, l52.v]) h50).bind fun q53 =>
 (AV.asTup2 q53.1).bind fun p54 =>
 ((some p54.1).bind AV.asSl).bind fun l55 =>
 ((some p54.2).bind (AV.asInt .i64)).bind fun n56 =>
 ((q53.2.cell (h23r.add 0)).bind AV.asBool).bind fun b57 =>
 ((q53.2.cell (h23r.add 1)).bind AV.asSl).bind fun l58 =>
 (go (.fn F.kg1 [.agg [.bool b57, l58.v], l55.v]) q53.2).bind fun q59 =>
 (AV.asTup2 q59.1).bind fun p60 =>
 (AV.asAgg p60.1).bind fun cs61 =>
 cond (Nat.beq cs61.length 3) (
 ((cs61[0]?).bind AV.asBool).bind fun b62 =>
 ((cs61[1]?).bind AV.asSl).bind fun l63 =>
 ((cs61[2]?).bind AV.asSl).bind fun l64 =>
 ((some p60.2).bind (AV.asInt .i64)).bind fun n65 =>
 (q59.2.puts h9r [.bool b62, l63.v, l64.v]).bind fun h66 =>
 ((h66.cell (h9r.add 0)).bind AV.asBool).bind fun b67 =>
 ((h66.cell (h9r.add 1)).bind AV.asSl).bind fun l68 =>
 ((h66.cell (h9r.add 2)).bind AV.asSl).bind fun l69 =>
 some (.tup [.agg [.bool b67, l68.v, l69.v], .int .i64 n65], h66)) none)) none)) none)))) none) := (ke _ h).trans (by kernel_rfl)
theorem k5y (a1 : Sl) (h : AH) : go (.fn F.kgx [a1.v]) h =
 (go (.fn F.krw [a1.v, .func (.func F.kdb) [] []]) h).bind fun q2 =>
 ((some q2.1).bind AV.asBool).bind fun b3 =>
 some (.bool (!b3), q2.2) := (ke _ h).trans (by kernel_rfl)
theorem kxn (a1 : Bool) (a2 : Sl) (a3 : Sl) (a4 : Bool) (a5 : Sl) (a6 : Sl) (h : AH) : go (.fn F.kfc [.agg [.bool a1, a2.v, a3.v], .agg [.bool a4, a5.v, a6.v]]) h =
 newK h (.cells [.bool a1, a2.v, a3.v] T.kj) fun h7r h7 =>
 newK h7 (.cells [.bool a4, a5.v, a6.v] T.kj) fun h8r h8 =>
 newK h8 (.cells [.bool false, (⟨none, 0, .is 0⟩ : Sl).v] T.kg) fun h9r h9 =>
 newK h9 (.cells [.bool false, (⟨none, 0, .is 0⟩ : Sl).v] T.kg) fun h10r h10 =>
 ((h10.cell ((h7r.add 0).add 0)).bind AV.asBool).bind fun b11 =>
 ((h10.cell ((h7r.add 0).add 1)).bind AV.asSl).bind fun l12 =>
 ((h10.cell (h8r.add 2)).bind AV.asSl).bind fun l13 =>
 (go (.fn F.kcy [.bool false, l13.v]) h10).bind fun q14 =>
 (AV.asAgg q14.1).bind fun cs15 =>
 cond (Nat.beq cs15.length 2) (
 ((cs15[0]?).bind AV.asBool).bind fun b16 =>
 ((cs15[1]?).bind AV.asSl).bind fun l17 =>
 whenK (SameAt h10 q14.2 (h7r.add 0) 2) (
 whenK (SameAt h10 q14.2 h10r 0) (
 (go (.fn F.kmo [.agg [.bool b11, l12.v], .agg [.bool b16, l17.v]]) q14.2).bind fun q18 =>
 (AV.asTup2 q18.1).bind fun p19 =>
 (AV.asAgg p19.1).bind fun cs20 =>
 cond (Nat.beq cs20.length 2) (
 ((cs20[0]?).bind AV.asBool).bind fun b21 =>
 ((cs20[1]?).bind AV.asSl).bind fun l22 =>
 ((some p19.2).bind (AV.asInt .i64)).bind fun n23 =>
 whenK (SameAt q14.2 q18.2 h10r 0) (
 (q18.2.puts h10r [.bool b21, l22.v]).bind fun h24 =>
 ((h24.cell (h10r.add 0)).bind AV.asBool).bind fun b25 =>
 ((h24.cell (h10r.add 1)).bind AV.asSl).bind fun l26 =>
 (h24.puts h9r [.bool b25, l26.v]).bind fun h27 =>
 ((h27.cell (h9r.add 0)).bind AV.asBool).bind fun b28 =>
 ((h27.cell (h9r.add 1)).bind AV.asSl).bind fun l29 =>
 some (.agg [.bool b28, l29.v], h27))) none))) none := (ke _ h).trans (by kernel_rfl)
theorem k31 (a1 : Bool) (a2 : Sl) (a3 : Bool) (a4 : Sl) (h : AH) : go (.fn F.kov [.agg [.bool a1, a2.v], .agg [.bool a3, a4.v]]) h =
 newK h (.cells [.bool a1, a2.v] T.kg) fun h5r h5 =>
 newK h5 (.cells [.bool a3, a4.v] T.kg) fun h6r h6 =>
 ((h6.cell (h5r.add 0)).bind AV.asBool).bind fun b7 =>
 ((h6.cell (h5r.add 1)).bind AV.asSl).bind fun l8 =>
 ((h6.cell (h6r.add 0)).bind AV.asBool).bind fun b9 =>
 ((h6.cell (h6r.add 1)).bind AV.asSl).bind fun l10 =>
 newK h6 (.cells [.bool b7, l8.v, .bool b9, l10.v] T.kg) fun h11r h11 =>
 (go (.fn F.kf2 [(⟨some h11r, 2, .is 2⟩ : Sl).v]) h11).bind fun q12 =>
 ((some q12.1).bind AV.asBool).bind fun b13 =>
 cond (!b13) (
 some (.int .i64 0, q12.2)) (
 ((q12.2.cell (h5r.add 0)).bind AV.asBool).bind fun b14 =>
 ((q12.2.cell (h6r.add 0)).bind AV.asBool).bind fun b15 =>
 cond ((b14 == true) && ((b15 == false) && true)) (
 some (.int .i64 (-1), q12.2)) (
 cond ((b14 == false) && ((b15 == true) && true)) (
 some (.int .i64 1, q12.2)) (
 cond ((b14 == true) && ((b15 == true) && true)) (
 ((q12.2.cell (h6r.add 1)).bind AV.asSl).bind fun l16 =>
 ((q12.2.cell (h5r.add 1)).bind AV.asSl).bind fun l17 =>
 (go (.fn F.khj [l16.v, l17.v]) q12.2).bind fun q18 =>
 ((some q18.1).bind (AV.asInt .i64)).bind fun n19 =>
 some (.int .i64 n19, q18.2)) (
 ((q12.2.cell (h5r.add 1)).bind AV.asSl).bind fun l20 =>
 ((q12.2.cell (h6r.add 1)).bind AV.asSl).bind fun l21 =>
 (go (.fn F.khj [l20.v, l21.v]) q12.2).bind fun q22 =>
 ((some q22.1).bind (AV.asInt .i64)).bind fun n23 =>
 some (.int .i64 n23, q22.2))))) := (ke _ h).trans (by kernel_rfl)
theorem k2y (a1 : Sl) (a2 : Sl) (h : AH) : go (.pt F.kee Td.kmj [(8, a1.v), (9, a2.v)]) h =
 cond (decide ((a2.len : Int) > 0)) (
 (go (.fn F.koc [a1.v, a2.v]) h).bind fun q3 =>
 ((some q3.1).bind AV.asSl).bind fun l4 =>
 go (.pt F.kee Td.kmj [(8, a2.v), (9, l4.v)]) q3.2) (
 some (.tup [a1.v, .int .i64 0], h)) := (ke _ h).trans (by kernel_rfl)
theorem kzu (a1 : Sl) (h : AH) : go (.fn F.kbl [a1.v]) h =
 go (.pt F.kbl Td.kiz [(0, a1.v), (3, (⟨none, 0, .is 0⟩ : Sl).v), (4, .int .i64 0)]) h := (ke _ h).trans (by kernel_rfl)
theorem k5t (a1 : Sl) (a2 : Sl) (h : AH) : go (.fn F.kct [a1.v, a2.v]) h =
 (kbv (a1.len : Int) (a1.len : Int) T.kf (Pg.bytesOf T.kf) [.int .u64 0] h).bind fun q3 =>
 go (.pt F.kct Td.kkt [(0, a1.v), (1, a2.v), (6, q3.1.v), (7, (⟨none, 0, .is 0⟩ : Sl).v), (8, .int .i64 (IntKind.wrap .i64 ((a1.len : Int) - 1)))]) q3.2 := (ke _ h).trans (by kernel_rfl)
theorem kw0 (a1 : Sl) (h : AH) : go (.fn F.kca [a1.v]) h =
 go (.pt F.kca Td.kh3 [(0, a1.v), (4, (⟨none, 0, .is 0⟩ : Sl).v), (5, .int .i64 0)]) h := (ke _ h).trans (by kernel_rfl)
theorem kys (a1 : Int) (a2 : Int) (a3 : Int) (h : AH) : go (.fn F.kgs [.int .i64 a1, .agg [.int .i64 a2, .int .i64 a3]]) h =
 newK h (.cells [.int .i64 a2, .int .i64 a3] T.kz) fun h4r h4 =>
 newK h4 (.cells [.bool false, (⟨none, 0, .is 0⟩ : Sl).v, (⟨none, 0, .is 0⟩ : Sl).v] T.kj) fun h5r h5 =>
 ((h5.cell (h4r.add 0)).bind (AV.asInt .i64)).bind fun n6 =>
 ((h5.cell (h4r.add 1)).bind (AV.asInt .i64)).bind fun n7 =>
 (go (.fn F.ke1 [.agg [.int .i64 n6, .int .i64 n7]]) h5).bind fun q8 =>
 ((some q8.1).bind AV.asBool).bind fun b9 =>
 cond (!b9) (
 (q8.2.puts h5r [.bool false, (⟨none, 0, .is 0⟩ : Sl).v, (⟨none, 0, .is 0⟩ : Sl).v]).bind fun h10 =>
 ((h10.cell (h5r.add 0)).bind AV.asBool).bind fun b11 =>
 ((h10.cell (h5r.add 1)).bind AV.asSl).bind fun l12 =>
 ((h10.cell (h5r.add 2)).bind AV.asSl).bind fun l13 =>
 some (.tup [.agg [.bool b11, l12.v, l13.v], .int .i64 1], h10)) (
 cond (decide (a1 < 1)) (
 (q8.2.puts h5r [.bool false, (⟨none, 0, .is 0⟩ : Sl).v, (⟨none, 0, .is 0⟩ : Sl).v]).bind fun h14 =>
 ((h14.cell (h5r.add 0)).bind AV.asBool).bind fun b15 =>
 ((h14.cell (h5r.add 1)).bind AV.asSl).bind fun l16 =>
 ((h14.cell (h5r.add 2)).bind AV.asSl).bind fun l17 =>
 some (.tup [.agg [.bool b15, l16.v, l17.v], .int .i64 1], h14)) (
 cond (decide (a1 > 1048576)) (
 (q8.2.puts h5r [.bool false, (⟨none, 0, .is 0⟩ : Sl).v, (⟨none, 0, .is 0⟩ : Sl).v]).bind fun h18 =>
 ((h18.cell (h5r.add 0)).bind AV.asBool).bind fun b19 =>
 ((h18.cell (h5r.add 1)).bind AV.asSl).bind fun l20 =>
 ((h18.cell (h5r.add 2)).bind AV.asSl).bind fun l21 =>
 some (.tup [.agg [.bool b19, l20.v, l21.v], .int .i64 1], h18)) (
 ((q8.2.cell (h4r.add 0)).bind (AV.asInt .i64)).bind fun n22 =>
 (go (.fn F.kgd [.int .i64 n22]) q8.2).bind fun q23 =>
 (AV.asAgg q23.1).bind fun cs24 =>
 cond (Nat.beq cs24.length 2) (
 ((cs24[0]?).bind AV.asBool).bind fun b25 =>
 ((cs24[1]?).bind AV.asSl).bind fun l26 =>
 newK q23.2 (.cells [.bool false, (⟨none, 0, .is 0⟩ : Sl).v] T.kg) fun h27r h27 =>
 (h27.puts h27r [.bool b25, l26.v]).bind fun h28 =>
 ((h28.cell (h27r.add 0)).bind AV.asBool).bind fun b29 =>
 ((h28.cell (h27r.add 1)).bind AV.asSl).bind fun l30 =>
 ((h28.cell (h27r.add 0)).bind AV.asBool).bind fun b31 =>
 ((h28.cell (h27r.add 1)).bind AV.asSl).bind fun l32 =>
 (go (.fn F.kik [.agg [.bool b29, l30.v], .agg [.bool b31, l32.v]]) h28).bind fun q33 =>
 (AV.asTup2 q33.1).bind fun p34 =>
 (AV.asAgg p34.1).bind fun cs35 =>
 cond (Nat.beq cs35.length 2) (
 ((cs35[0]?).bind AV.asBool).bind fun b36 =>
 ((cs35[1]?).bind AV.asSl).bind fun l37 =>
 ((some p34.2).bind (AV.asInt .i64)).bind fun n38 =>
 newK q33.2 (.cells [.bool false, (⟨none, 0, .is 0⟩ : Sl).v] T.kg) fun h39r h39 =>
 (h39.puts h39r [.bool b36, l37.v]).bind fun h40 =>
 ((h40.cell (h39r.add 0)).bind AV.asBool).bind fun b41 =>
 ((h40.cell (h39r.add 1)).bind AV.asSl).bind fun l42 =>
 ((h40.cell (h4r.add 1)).bind (AV.asInt .i64)).bind fun n43 =>
 (go (.fn F.kgd [.int .i64 (IntKind.wrap .i64 (n43 + a1))]) h40).bind fun q44 =>
 (AV.asAgg q44.1).bind fun cs45 =>
 cond (Nat.beq cs45.length 2) (
 ((cs45[0]?).bind AV.asBool).bind fun b46 =>
 ((cs45[1]?).bind AV.asSl).bind fun l47 =>
 whenK (SameAt h40 q44.2 h39r 2) (
 (go (.fn F.kg4 [.agg [.bool b41, l42.v], l47.v]) q44.2).bind fun q48 =>
 (AV.asTup2 q48.1).bind fun p49 =>
 (AV.asAgg p49.1).bind fun cs50 =>
 cond (Nat.beq cs50.length 3) (
 ((cs50[0]?).bind AV.asBool).bind fun b51 =>
 ((cs50[1]?).bind AV.asSl).bind fun l52 =>
 ((cs50[2]?).bind AV.asSl).bind fun l53 =>
 ((some p49.2).bind (AV.asInt .i64)).bind fun n54 =>
 (q48.2.puts h5r [.bool b51, l52.v, l53.v]).bind fun h55 =>
 ((h55.cell (h5r.add 0)).bind AV.asBool).bind fun b56 =>
 ((h55.cell (h5r.add 1)).bind AV.asSl).bind fun l57 =>
 ((h55.cell (h5r.add 2)).bind AV.asSl).bind fun l58 =>
 some (.tup [.agg [.bool b56, l57.v, l58.v], .int .i64 n54], h55)) none)) none) none) none))) := (ke _ h).trans (by kernel_rfl)
theorem kx6 (a1 : Bool) (a2 : Sl) (a3 : Sl) (a4 : Bool) (a5 : Sl) (a6 : Sl) (h : AH) : go (.fn F.kjr [.agg [.bool a1, a2.v, a3.v], .agg [.bool a4, a5.v, a6.v]]) h =
 newK h (.cells [.bool a1, a2.v, a3.v] T.kj) fun h7r h7 =>
 newK h7 (.cells [.bool a4, a5.v, a6.v] T.kj) fun h8r h8 =>
 newK h8 (.cells [.bool false, (⟨none, 0, .is 0⟩ : Sl).v, (⟨none, 0, .is 0⟩ : Sl).v] T.kj) fun h9r h9 =>
 ((h9.cell (h7r.add 0)).bind AV.asBool).bind fun b10 =>
 ((h9.cell (h7r.add 1)).bind AV.asSl).bind fun l11 =>
 ((h9.cell (h7r.add 2)).bind AV.asSl).bind fun l12 =>
 (go (.fn F.kek [.agg [.bool b10, l11.v, l12.v]]) h9).bind fun q13 =>
 ((some q13.1).bind AV.asBool).bind fun b14 =>
 ((q13.2.cell (h8r.add 0)).bind AV.asBool).bind fun b15 =>
 ((q13.2.cell (h8r.add 1)).bind AV.asSl).bind fun l16 =>
 ((q13.2.cell (h8r.add 2)).bind AV.asSl).bind fun l17 =>
 (go (.fn F.kek [.agg [.bool b15, l16.v, l17.v]]) q13.2).bind fun q18 =>
 ((some q18.1).bind AV.asBool).bind fun b19 =>
 cond (!b14) (
 (q18.2.puts h9r [.bool false, (⟨none, 0, .is 0⟩ : Sl).v, (⟨none, 0, .is 0⟩ : Sl).v]).bind fun h20 =>
 ((h20.cell (h9r.add 0)).bind AV.asBool).bind fun b21 =>
 ((h20.cell (h9r.add 1)).bind AV.asSl).bind fun l22 =>
 ((h20.cell (h9r.add 2)).bind AV.asSl).bind fun l23 =>
 some (.tup [.agg [.bool b21, l22.v, l23.v], .int .i64 1], h20)) (
 cond (!b19) (
 (q18.2.puts h9r [.bool false, (⟨none, 0, .is 0⟩ : Sl).v, (⟨none, 0, .is 0⟩ : Sl).v]).bind fun h24 =>
 ((h24.cell (h9r.add 0)).bind AV.asBool).bind fun b25 =>
 ((h24.cell (h9r.add 1)).bind AV.asSl).bind fun l26 =>
 ((h24.cell (h9r.add 2)).bind AV.asSl).bind fun l27 =>
 some (.tup [.agg [.bool b25, l26.v, l27.v], .int .i64 1], h24)) (
 newK q18.2 (.cells [.bool false, (⟨none, 0, .is 0⟩ : Sl).v] T.kg) fun h28r h28 =>
 ((h28.cell (h7r.add 0)).bind AV.asBool).bind fun b29 =>
 ((h28.cell (h7r.add 1)).bind AV.asSl).bind fun l30 =>
 ((h28.cell (h7r.add 2)).bind AV.asSl).bind fun l31 =>
 ((h28.cell (h8r.add 0)).bind AV.asBool).bind fun b32 =>
 ((h28.cell (h8r.add 1)).bind AV.asSl).bind fun l33 =>
 ((h28.cell (h8r.add 2)).bind AV.asSl).bind fun l34 =>
 ((h28.cell (h8r.add 0)).bind AV.asBool).bind fun b35 =>
 ((h28.cell (h8r.add 1)).bind AV.asSl).bind fun l36 =>
 ((h28.cell (h8r.add 2)).bind AV.asSl).bind fun l37 =>
 ((h28.cell (h7r.add 0)).bind AV.asBool).bind fun b38 =>
 ((h28.cell (h7r.add 1)).bind AV.asSl).bind fun l39 =>
 ((h28.cell (h7r.add 2)).bind AV.asSl).bind fun l40 =>
 (go (.fn F.kgl [.agg [.bool b29, l30.v, l31.v], .agg [.bool b32, l33.v, l34.v]]) h28).bind fun q41 =>
 (AV.asAgg q41.1).bind fun cs42 =>
 cond (Nat.beq cs42.length 2) (
 ((cs42[0]?).bind AV.asBool).bind fun b43 =>
 ((cs42[1]?).bind AV.asSl).bind fun l44 =>
 whenK (SameAt h28 q41.2 h7r 3) (
 whenK (SameAt h28 q41.2 h8r 3) (
 whenK (SameAt h28 q41.2 h28r 0) (
 (go (.fn F.kgl [.agg [.bool b35, l36.v, l37.v], .agg [.bool b38, l39.v, l40.v]]) q41.2).bind fun q45 =>
 (AV.asAgg q45.1).bind fun cs46 =>
 cond (Nat.beq cs46.length 2) (
 ((cs46[0]?).bind AV.asBool).bind fun b47 =>
 ((cs46[1]?).bind AV.asSl).bind fun l48 =>
 whenK (SameAt q41.2 q45.2 h28r 0) (
 (go (.fn F.kli [.agg [.bool b43, l44.v], .agg [.bool b47, l48.v]]) q45.2).bind fun q49 =>
 (AV.asTup2 q49.1).bind fun p50 =>
 (AV.asAgg p50.1).bind fun cs51 =>
 cond (Nat.beq cs51.length 2) (
 ((cs51[0]?).bind AV.asBool).bind fun b52 =>
 ((cs51[1]?).bind AV.asSl).bind fun l53 =>
 ((some p50.2).bind (AV.asInt .i64)).bind fun n54 =>
 whenK (SameAt q45.2 q49.2 h28r 0) (
 (q49.2.puts h28r [.bool b52, l53.v]).bind fun h55 =>
 ((h55.cell (h7r.add 2)).bind AV.asSl).bind fun l56 =>
 ((h55.cell (h8r.add 2)).bind AV.asSl).bind fun l57 =>
 (go (.fn F.kmh [l56.v, l57.v]) h55).bind fun q58 =>
 (AV.asTup2 q58.1).bind fun p59 =>
 ((some p59.1).bind AV.asSl).bind fun l60 =>
 ((some p59.2).bind (AV.asInt .i64)).bind fun n61 =>
 ((q58.2.cell (h28r.add 0)).bind AV.asBool).bind fun b62 =>
 ((q58.2.cell (h28r.add 1)).bind AV.asSl).bind fun l63 =>
 (go (.fn F.kg4 [.agg [.bool b62, l63.v], l60.v]) q58.2).bind fun q64 =>
 (AV.asTup2 q64.1).bind fun p65 =>
 (AV.asAgg p65.1).bind fun cs66 =>
 cond (Nat.beq cs66.length 3) (
 ((cs66[0]?).bind AV.asBool).bind fun b67 =>
 ((cs66[1]?).bind AV.asSl).bind fun l68 =>
 ((cs66[2]?).bind AV.asSl).bind fun l69 =>
 ((some p65.2).bind (AV.asInt .i64)).bind fun n70 =>
 (q64.2.puts h9r [.bool b67, l68.v, l69.v]).bind fun h71 =>
 ((h71.cell (h9r.add 0)).bind AV.asBool).bind fun b72 =>
 ((h71.cell (h9r.add 1)).bind AV.asSl).bind fun l73 =>
 ((h71.cell (h9r.add 2)).bind AV.asSl).bind fun l74 =>
 some (.tup [.agg [.bool b72, l73.v, l74.v], .int .i64 n70], h71)) none)) none)) none)))) none)) := (ke _ h).trans (by kernel_rfl)
theorem kxj (a1 : Bool) (a2 : Sl) (a3 : Sl) (a4 : Bool) (a5 : Sl) (a6 : Sl) (h : AH) : go (.fn F.kka [.agg [.bool a1, a2.v, a3.v], .agg [.bool a4, a5.v, a6.v]]) h =
 newK h (.cells [.bool a1, a2.v, a3.v] T.kj) fun h7r h7 =>
 newK h7 (.cells [.bool a4, a5.v, a6.v] T.kj) fun h8r h8 =>
 newK h8 (.cells [.bool false, (⟨none, 0, .is 0⟩ : Sl).v, (⟨none, 0, .is 0⟩ : Sl).v] T.kj) fun h9r h9 =>
 ((h9.cell (h7r.add 0)).bind AV.asBool).bind fun b10 =>
 ((h9.cell (h7r.add 1)).bind AV.asSl).bind fun l11 =>
 ((h9.cell (h7r.add 2)).bind AV.asSl).bind fun l12 =>
 (go (.fn F.kek [.agg [.bool b10, l11.v, l12.v]]) h9).bind fun q13 =>
 ((some q13.1).bind AV.asBool).bind fun b14 =>
 ((q13.2.cell (h8r.add 0)).bind AV.asBool).bind fun b15 =>
 ((q13.2.cell (h8r.add 1)).bind AV.asSl).bind fun l16 =>
 ((q13.2.cell (h8r.add 2)).bind AV.asSl).bind fun l17 =>
 (go (.fn F.kek [.agg [.bool b15, l16.v, l17.v]]) q13.2).bind fun q18 =>
 ((some q18.1).bind AV.asBool).bind fun b19 =>
 cond (!b14) (
 (q18.2.puts h9r [.bool false, (⟨none, 0, .is 0⟩ : Sl).v, (⟨none, 0, .is 0⟩ : Sl).v]).bind fun h20 =>
 ((h20.cell (h9r.add 0)).bind AV.asBool).bind fun b21 =>
 ((h20.cell (h9r.add 1)).bind AV.asSl).bind fun l22 =>
 ((h20.cell (h9r.add 2)).bind AV.asSl).bind fun l23 =>
 some (.tup [.agg [.bool b21, l22.v, l23.v], .int .i64 1], h20)) (
 cond (!b19) (
 (q18.2.puts h9r [.bool false, (⟨none, 0, .is 0⟩ : Sl).v, (⟨none, 0, .is 0⟩ : Sl).v]).bind fun h24 =>
 ((h24.cell (h9r.add 0)).bind AV.asBool).bind fun b25 =>
 ((h24.cell (h9r.add 1)).bind AV.asSl).bind fun l26 =>
 ((h24.cell (h9r.add 2)).bind AV.asSl).bind fun l27 =>
 some (.tup [.agg [.bool b25, l26.v, l27.v], .int .i64 1], h24)) (
 ((q18.2.cell (h7r.add 0)).bind AV.asBool).bind fun b28 =>
 ((q18.2.cell (h7r.add 1)).bind AV.asSl).bind fun l29 =>
 ((q18.2.cell (h7r.add 2)).bind AV.asSl).bind fun l30 =>
 ((q18.2.cell ((h8r.add 0).add 0)).bind AV.asBool).bind fun b31 =>
 ((q18.2.cell ((h8r.add 0).add 1)).bind AV.asSl).bind fun l32 =>
 ((q18.2.cell (h8r.add 2)).bind AV.asSl).bind fun l33 =>
 (go (.fn F.km1 [.agg [.bool b31, l32.v]]) q18.2).bind fun q34 =>
 (AV.asAgg q34.1).bind fun cs35 =>
 cond (Nat.beq cs35.length 2) (
 ((cs35[0]?).bind AV.asBool).bind fun b36 =>
 ((cs35[1]?).bind AV.asSl).bind fun l37 =>
 whenK (SameAt q18.2 q34.2 (h8r.add 2) 1) (
 whenK (SameAt q18.2 q34.2 h7r 3) (
 (go (.fn F.kjr [.agg [.bool b28, l29.v, l30.v], .agg [.bool b36, l37.v, l33.v]]) q34.2).bind fun q38 =>
 (AV.asTup2 q38.1).bind fun p39 =>
 (AV.asAgg p39.1).bind fun cs40 =>
 cond (Nat.beq cs40.length 3) (
 ((cs40[0]?).bind AV.asBool).bind fun b41 =>
 ((cs40[1]?).bind AV.asSl).bind fun l42 =>
 ((cs40[2]?).bind AV.asSl).bind fun l43 =>
 ((some p39.2).bind (AV.asInt .i64)).bind fun n44 =>
 (q38.2.puts h9r [.bool b41, l42.v, l43.v]).bind fun h45 =>
 ((h45.cell (h9r.add 0)).bind AV.asBool).bind fun b46 =>
 ((h45.cell (h9r.add 1)).bind AV.asSl).bind fun l47 =>
 ((h45.cell (h9r.add 2)).bind AV.asSl).bind fun l48 =>
 some (.tup [.agg [.bool b46, l47.v, l48.v], .int .i64 n44], h45)) none))) none)) := (ke _ h).trans (by kernel_rfl)
theorem k2k (a1 : Bool) (a2 : Sl) (a3 : Sl) (h : AH) : go (.fn F.kek [.agg [.bool a1, a2.v, a3.v]]) h =
 newK h (.cells [.bool a1, a2.v, a3.v] T.kj) fun h4r h4 =>
 ((h4.cell ((h4r.add 0).add 0)).bind AV.asBool).bind fun b5 =>
 ((h4.cell ((h4r.add 0).add 1)).bind AV.asSl).bind fun l6 =>
 (go (.fn F.kc8 [.agg [.bool b5, l6.v]]) h4).bind fun q7 =>
 ((some q7.1).bind AV.asBool).bind fun b8 =>
 ((q7.2.cell (h4r.add 2)).bind AV.asSl).bind fun l9 =>
 (go (.fn F.kby [l9.v]) q7.2).bind fun q10 =>
 ((some q10.1).bind AV.asBool).bind fun b11 =>
 cond (!b8) (
 some (.bool false, q10.2)) (
 cond (!b11) (
 some (.bool false, q10.2)) (
 ((q10.2.cell (h4r.add 2)).bind AV.asSl).bind fun l12 =>
 cond (decide ((l12.len : Int) = 0)) (
 some (.bool false, q10.2)) (
 ((q10.2.cell (h4r.add 2)).bind AV.asSl).bind fun l13 =>
 cond (decide ((l13.len : Int) > 16)) (
 some (.bool false, q10.2)) (
 ((q10.2.cell ((h4r.add 0).add 1)).bind AV.asSl).bind fun l14 =>
 cond (decide ((l14.len : Int) > 16)) (
 some (.bool false, q10.2)) (
 ((q10.2.cell ((h4r.add 0).add 1)).bind AV.asSl).bind fun l15 =>
 ((q10.2.cell (h4r.add 2)).bind AV.asSl).bind fun l16 =>
 (go (.fn F.kee [l15.v, l16.v]) q10.2).bind fun q17 =>
 (AV.asTup2 q17.1).bind fun p18 =>
 ((some p18.1).bind AV.asSl).bind fun l19 =>
 ((some p18.2).bind (AV.asInt .i64)).bind fun n20 =>
 (go (.fn F.kf4 [.int .u64 1]) q17.2).bind fun q21 =>
 ((some q21.1).bind AV.asSl).bind fun l22 =>
 (go (.fn F.khd [l19.v, l22.v]) q21.2).bind fun q23 =>
 ((some q23.1).bind (AV.asInt .i64)).bind fun n24 =>
 some (.bool (decide (n24 = 0)), q23.2)))))) := (ke _ h).trans (by kernel_rfl)
theorem k2a (a1 : Bool) (a2 : Sl) (a3 : Sl) (a4 : Bool) (a5 : Sl) (a6 : Sl) (h : AH) : go (.fn F.kgl [.agg [.bool a1, a2.v, a3.v], .agg [.bool a4, a5.v, a6.v]]) h =
 newK h (.cells [.bool a1, a2.v, a3.v] T.kj) fun h7r h7 =>
 newK h7 (.cells [.bool a4, a5.v, a6.v] T.kj) fun h8r h8 =>
 newK h8 (.cells [.bool false, (⟨none, 0, .is 0⟩ : Sl).v] T.kg) fun h9r h9 =>
 newK h9 (.cells [.bool false, (⟨none, 0, .is 0⟩ : Sl).v] T.kg) fun h10r h10 =>
 ((h10.cell ((h7r.add 0).add 0)).bind AV.asBool).bind fun b11 =>
 ((h10.cell ((h7r.add 0).add 1)).bind AV.asSl).bind fun l12 =>
 ((h10.cell (h8r.add 2)).bind AV.asSl).bind fun l13 =>
 (go (.fn F.kc1 [.bool false, l13.v]) h10).bind fun q14 =>
 (AV.asAgg q14.1).bind fun cs15 =>
 cond (Nat.beq cs15.length 2) (
 ((cs15[0]?).bind AV.asBool).bind fun b16 =>
 ((cs15[1]?).bind AV.asSl).bind fun l17 =>
 whenK (SameAt h10 q14.2 (h7r.add 0) 2) (
 whenK (SameAt h10 q14.2 h10r 0) (
 (go (.fn F.kik [.agg [.bool b11, l12.v], .agg [.bool b16, l17.v]]) q14.2).bind fun q18 =>
 (AV.asTup2 q18.1).bind fun p19 =>
 (AV.asAgg p19.1).bind fun cs20 =>
 cond (Nat.beq cs20.length 2) (
 ((cs20[0]?).bind AV.asBool).bind fun b21 =>
 ((cs20[1]?).bind AV.asSl).bind fun l22 =>
 ((some p19.2).bind (AV.asInt .i64)).bind fun n23 =>
 whenK (SameAt q14.2 q18.2 h10r 0) (
 (q18.2.puts h10r [.bool b21, l22.v]).bind fun h24 =>
 ((h24.cell (h10r.add 0)).bind AV.asBool).bind fun b25 =>
 ((h24.cell (h10r.add 1)).bind AV.asSl).bind fun l26 =>
 (h24.puts h9r [.bool b25, l26.v]).bind fun h27 =>
 ((h27.cell (h9r.add 0)).bind AV.asBool).bind fun b28 =>
 ((h27.cell (h9r.add 1)).bind AV.asSl).bind fun l29 =>
 some (.agg [.bool b28, l29.v], h27))) none))) none := (ke _ h).trans (by kernel_rfl)
theorem kx8 (a1 : Bool) (a2 : Sl) (a3 : Bool) (a4 : Sl) (h : AH) : go (.fn F.kmx [.agg [.bool a1, a2.v], .agg [.bool a3, a4.v]]) h =
 newK h (.cells [.bool a1, a2.v] T.kg) fun h5r h5 =>
 newK h5 (.cells [.bool a3, a4.v] T.kg) fun h6r h6 =>
 ((h6.cell (h5r.add 0)).bind AV.asBool).bind fun b7 =>
 ((h6.cell (h5r.add 1)).bind AV.asSl).bind fun l8 =>
 (go (.fn F.kc8 [.agg [.bool b7, l8.v]]) h6).bind fun q9 =>
 ((some q9.1).bind AV.asBool).bind fun b10 =>
 ((q9.2.cell (h6r.add 0)).bind AV.asBool).bind fun b11 =>
 ((q9.2.cell (h6r.add 1)).bind AV.asSl).bind fun l12 =>
 (go (.fn F.kc8 [.agg [.bool b11, l12.v]]) q9.2).bind fun q13 =>
 ((some q13.1).bind AV.asBool).bind fun b14 =>
 cond (!b10) (
 some (.int .i64 0, q13.2)) (
 cond (!b14) (
 some (.int .i64 0, q13.2)) (
 ((q13.2.cell (h5r.add 0)).bind AV.asBool).bind fun b15 =>
 ((q13.2.cell (h6r.add 0)).bind AV.asBool).bind fun b16 =>
 cond (!(b15 == b16)) (
 ((q13.2.cell (h5r.add 0)).bind AV.asBool).bind fun b17 =>
 cond b17 (
 some (.int .i64 (-1), q13.2)) (
 some (.int .i64 1, q13.2))) (
 ((q13.2.cell (h5r.add 0)).bind AV.asBool).bind fun b18 =>
 cond b18 (
 ((q13.2.cell (h6r.add 1)).bind AV.asSl).bind fun l19 =>
 ((q13.2.cell (h5r.add 1)).bind AV.asSl).bind fun l20 =>
 (go (.fn F.khd [l19.v, l20.v]) q13.2).bind fun q21 =>
 ((some q21.1).bind (AV.asInt .i64)).bind fun n22 =>
 some (.int .i64 n22, q21.2)) (
 ((q13.2.cell (h5r.add 1)).bind AV.asSl).bind fun l23 =>
 ((q13.2.cell (h6r.add 1)).bind AV.asSl).bind fun l24 =>
 (go (.fn F.khd [l23.v, l24.v]) q13.2).bind fun q25 =>
 ((some q25.1).bind (AV.asInt .i64)).bind fun n26 =>
 some (.int .i64 n26, q25.2))))) := (ke _ h).trans (by kernel_rfl)
theorem kx5 (a1 : Sl) (h : AH) : go (.fn F.kg6 [a1.v, .func (.func F.kc9) [] []]) h =
 go (.pt F.kg6 Td.kly [(0, a1.v), (1, .func (.func F.kc9) [] []), (7, .int .i64 (a1.len : Int)), (8, .int .i64 0)]) h := (ke _ h).trans (by kernel_rfl)
theorem kyz (a1 : Sl) (h : AH) : go (.fn F.khw [a1.v, .func (.func F.kc7) [] []]) h =
 go (.pt F.khw Td.klx [(0, a1.v), (1, .func (.func F.kc7) [] []), (7, .int .i64 (a1.len : Int)), (8, .int .i64 0)]) h := (ke _ h).trans (by kernel_rfl)
theorem kz1 (a1 : Int) (a2 : Int) (a3 : Int) (h : AH) : go (.fn F.kbo [.int .u64 a1, .int .u64 a2, .int .u64 a3]) h =
 cond (decide (a3 = 0)) (
 (h.cell (.old ⟨0, 0, none⟩)).bind fun v4 =>
 none) (
 go (.pt F.kbo Td.kns [(0, .int .u64 a1), (1, .int .u64 a2), (2, .int .u64 a3)]) h) := (ke _ h).trans (by kernel_rfl)
theorem k4n (a1 : Int) (h : AH) : go (.fn F.kk7 [.int .u64 a1]) h =
 cond (decide (a1 ≥ 4294967296)) (
 cond (decide ((ishr .u64 a1 32) ≥ 65536)) (
 cond (decide ((ishr .u64 (ishr .u64 a1 32) 16) ≥ 256)) (
 cond (decide (0 ≤ (IntKind.wrap .u8 (ishr .u64 (ishr .u64 (ishr .u64 a1 32) 16) 8)))) (
 (lit1[Int.toNat (IntKind.wrap .u8 (ishr .u64 (ishr .u64 (ishr .u64 a1 32) 16) 8))]?).bind fun b2 =>
 some (.int .i64 (IntKind.wrap .i64 ((IntKind.wrap .i64 ((IntKind.wrap .i64 (32 + 16)) + 8)) + (IntKind.wrap .i64 (b2.toNat : Int)))), h)) none) (
 cond (decide (0 ≤ (IntKind.wrap .u8 (ishr .u64 (ishr .u64 a1 32) 16)))) (
 (lit1[Int.toNat (IntKind.wrap .u8 (ishr .u64 (ishr .u64 a1 32) 16))]?).bind fun b3 =>
 some (.int .i64 (IntKind.wrap .i64 ((IntKind.wrap .i64 (32 + 16)) + (IntKind.wrap .i64 (b3.toNat : Int)))), h)) none)) (
 cond (decide ((ishr .u64 a1 32) ≥ 256)) (
 cond (decide (0 ≤ (IntKind.wrap .u8 (ishr .u64 (ishr .u64 a1 32) 8)))) (
 (lit1[Int.toNat (IntKind.wrap .u8 (ishr .u64 (ishr .u64 a1 32) 8))]?).bind fun b4 =>
 some (.int .i64 (IntKind.wrap .i64 ((IntKind.wrap .i64 (32 + 8)) + (IntKind.wrap .i64 (b4.toNat : Int)))), h)) none) (
 cond (decide (0 ≤ (IntKind.wrap .u8 (ishr .u64 a1 32)))) (
 (lit1[Int.toNat (IntKind.wrap .u8 (ishr .u64 a1 32))]?).bind fun b5 =>
 some (.int .i64 (IntKind.wrap .i64 (32 + (IntKind.wrap .i64 (b5.toNat : Int)))), h)) none))) (
 cond (decide (a1 ≥ 65536)) (
 cond (decide ((ishr .u64 a1 16) ≥ 256)) (
 cond (decide (0 ≤ (IntKind.wrap .u8 (ishr .u64 (ishr .u64 a1 16) 8)))) (
 (lit1[Int.toNat (IntKind.wrap .u8 (ishr .u64 (ishr .u64 a1 16) 8))]?).bind fun b6 =>
 some (.int .i64 (IntKind.wrap .i64 ((IntKind.wrap .i64 ((IntKind.wrap .i64 (0 + 16)) + 8)) + (IntKind.wrap .i64 (b6.toNat : Int)))), h)) none) (
 cond (decide (0 ≤ (IntKind.wrap .u8 (ishr .u64 a1 16)))) (
 (lit1[Int.toNat (IntKind.wrap .u8 (ishr .u64 a1 16))]?).bind fun b7 =>
 some (.int .i64 (IntKind.wrap .i64 ((IntKind.wrap .i64 (0 + 16)) + (IntKind.wrap .i64 (b7.toNat : Int)))), h)) none)) (
 cond (decide (a1 ≥ 256)) (
 cond (decide (0 ≤ (IntKind.wrap .u8 (ishr .u64 a1 8)))) (
 (lit1[Int.toNat (IntKind.wrap .u8 (ishr .u64 a1 8))]?).bind fun b8 =>
 some (.int .i64 (IntKind.wrap .i64 ((IntKind.wrap .i64 (0 + 8)) + (IntKind.wrap .i64 (b8.toNat : Int)))), h)) none) (
 cond (decide (0 ≤ (IntKind.wrap .u8 a1))) (
 (lit1[Int.toNat (IntKind.wrap .u8 a1)]?).bind fun b9 =>
 some (.int .i64 (IntKind.wrap .i64 (0 + (IntKind.wrap .i64 (b9.toNat : Int)))), h)) none))) := (ke _ h).trans (by kernel_rfl)
theorem kze (a1 : Int) (a2 : Sl) (a3 : Sl) (a4 : Int) (a5 : Int) (h : AH) : go (.pt F.kdq Td.kjb [(1, .int .u64 a1), (5, a2.v), (12, a3.v), (13, .int .i64 a4), (14, .int .i64 a5)]) h =
 cond (decide (a5 < a4)) (
 (idx a3.ref a3.len a5 1).bind fun r6 =>
 ((h.cell r6).bind (AV.asInt .u64)).bind fun n7 =>
 (idx a2.ref a2.len a5 1).bind fun r8 =>
 ((h.cell r8).bind (AV.asInt .u64)).bind fun n9 =>
 cond (decide (a1 < 0)) none (
 (idx a2.ref a2.len a5 1).bind fun r10 =>
 (h.puts r10 [.int .u64 (ior .u64 n9 (ishl .u64 n7 a1))]).bind fun h11 =>
 cond (decide (a1 > 0)) (
 cond (decide ((IntKind.wrap .u64 (64 - a1)) < 0)) none (
 (idx a2.ref a2.len (IntKind.wrap .i64 (a5 + 1)) 1).bind fun r12 =>
 (h11.puts r12 [.int .u64 (ishr .u64 n7 (IntKind.wrap .u64 (64 - a1)))]).bind fun h13 =>
 go (.pt F.kdq Td.kjb [(1, .int .u64 a1), (5, a2.v), (12, a3.v), (13, .int .i64 a4), (14, .int .i64 (IntKind.wrap .i64 (a5 + 1)))]) h13)) (
 go (.pt F.kdq Td.kjb [(1, .int .u64 a1), (5, a2.v), (12, a3.v), (13, .int .i64 a4), (14, .int .i64 (IntKind.wrap .i64 (a5 + 1)))]) h11))) (
 some (a2.v, h)) := (ke _ h).trans (by kernel_rfl)
theorem kwg (a1 : Int) (a2 : Int) (a3 : Int) (a4 : Int) (a5 : Int) (h : AH) : go (.fn F.kep [.int .u64 a1, .int .u64 a2, .int .u64 a3, .int .u64 a4, .int .u64 a5]) h =
 cond (decide (a1 ≥ a4)) (
 some (.int .u64 18446744073709551615, h)) (
 (go (.fn F.kbo [.int .u64 a1, .int .u64 a2, .int .u64 a4]) h).bind fun q6 =>
 (AV.asTup2 q6.1).bind fun p7 =>
 ((some p7.1).bind (AV.asInt .u64)).bind fun n8 =>
 ((some p7.2).bind (AV.asInt .u64)).bind fun n9 =>
 go (.pt F.kep Td.kiw [(2, .int .u64 a3), (3, .int .u64 a4), (4, .int .u64 a5), (11, .int .u64 n8), (12, .int .u64 n9)]) q6.2) := (ke _ h).trans (by kernel_rfl)
theorem k05 (a1 : Int) (a2 : Sl) (a3 : Sl) (a4 : Int) (a5 : Sl) (a6 : Int) (a7 : Int) (a8 : Sl) (h : AH) : go (.pt F.kbz Td.kmn [(6, .int .u64 a1), (7, a2.v), (8, a3.v), (9, .int .i64 a4), (10, a5.v), (11, .int .i64 a6), (12, .int .u64 a7), (13, a8.v)]) h =
 (go (.fn F.keh [.int .u64 a7]) h).bind fun q9 =>
 ((some q9.1).bind AV.asSl).bind fun l10 =>
 (go (.fn F.kcg [a3.v, l10.v]) q9.2).bind fun q11 =>
 ((some q11.1).bind AV.asSl).bind fun l12 =>
 (go (.fn F.kfw [a8.v]) q11.2).bind fun q13 =>
 ((some q13.1).bind AV.asSl).bind fun l14 =>
 (go (.fn F.kbi [l14.v]) q13.2).bind fun q15 =>
 ((some q15.1).bind AV.asSl).bind fun l16 =>
 (go (.fn F.kdk [l16.v, l12.v]) q15.2).bind fun q17 =>
 ((some q17.1).bind (AV.asInt .i64)).bind fun n18 =>
 cond (decide (n18 ≥ 0)) (
 (go (.fn F.kcp [a8.v, l12.v]) q17.2).bind fun q19 =>
 ((some q19.1).bind AV.asSl).bind fun l20 =>
 (copyH l20 a8 1 q19.2).bind fun h21 =>
 (idx a5.ref a5.len a6 1).bind fun r22 =>
 (h21.puts r22 [.int .u64 a7]).bind fun h23 =>
 go (.pt F.kbz Td.klv [(6, .int .u64 a1), (7, a2.v), (8, a3.v), (9, .int .i64 a4), (10, a5.v), (11, .int .i64 (IntKind.wrap .i64 (a6 - 1)))]) h23) (
 go (.pt F.kbz Td.kmn [(6, .int .u64 a1), (7, a2.v), (8, a3.v), (9, .int .i64 a4), (10, a5.v), (11, .int .i64 a6), (12, .int .u64 (IntKind.wrap .u64 (a7 - 1))), (13, a8.v)]) q17.2) := (ke _ h).trans (by kernel_rfl)
theorem kv5 (a1 : Int) (a2 : Sl) (a3 : Sl) (a4 : Sl) (a5 : Int) (a6 : Int) (h : AH) : go (.pt F.kbz Td.khg [(6, .int .u64 a1), (10, a2.v), (15, a3.v), (16, a4.v), (112, .int .i64 a5), (113, .int .i64 a6)]) h =
 cond (decide (a6 < a5)) (
 (idx a3.ref a3.len a6 1).bind fun r7 =>
 ((h.cell r7).bind (AV.asInt .u64)).bind fun n8 =>
 cond (decide (a1 < 0)) none (
 (idx a4.ref a4.len a6 1).bind fun r9 =>
 (h.puts r9 [.int .u64 (ishr .u64 n8 a1)]).bind fun h10 =>
 cond (decide (a1 > 0)) (
 cond (decide ((IntKind.wrap .i64 (a6 + 1)) < (a3.len : Int))) (
 (idx a4.ref a4.len a6 1).bind fun r11 =>
 ((h10.cell r11).bind (AV.asInt .u64)).bind fun n12 =>
 (idx a3.ref a3.len (IntKind.wrap .i64 (a6 + 1)) 1).bind fun r13 =>
 ((h10.cell r13).bind (AV.asInt .u64)).bind fun n14 =>
 cond (decide ((IntKind.wrap .u64 (64 - a1)) < 0)) none (
 (idx a4.ref a4.len a6 1).bind fun r15 =>
 (h10.puts r15 [.int .u64 (ior .u64 n12 (ishl .u64 n14 (IntKind.wrap .u64 (64 - a1))))]).bind fun h16 =>
 go (.pt F.kbz Td.khg [(6, .int .u64 a1), (10, a2.v), (15, a3.v), (16, a4.v), (112, .int .i64 a5), (113, .int .i64 (IntKind.wrap .i64 (a6 + 1)))]) h16)) (
 go (.pt F.kbz Td.khg [(6, .int .u64 a1), (10, a2.v), (15, a3.v), (16, a4.v), (112, .int .i64 a5), (113, .int .i64 (IntKind.wrap .i64 (a6 + 1)))]) h10)) (
 go (.pt F.kbz Td.khg [(6, .int .u64 a1), (10, a2.v), (15, a3.v), (16, a4.v), (112, .int .i64 a5), (113, .int .i64 (IntKind.wrap .i64 (a6 + 1)))]) h10))) (
 (go (.fn F.kbi [a2.v]) h).bind fun q17 =>
 ((some q17.1).bind AV.asSl).bind fun l18 =>
 (go (.fn F.kbi [a4.v]) q17.2).bind fun q19 =>
 ((some q19.1).bind AV.asSl).bind fun l20 =>
 some (.tup [l18.v, l20.v], q19.2)) := (ke _ h).trans (by kernel_rfl)
theorem k5w (a1 : Bool) (a2 : Sl) (a3 : Bool) (a4 : Sl) (h : AH) : go (.fn F.kf3 [.agg [.bool a1, a2.v], .agg [.bool a3, a4.v]]) h =
 newK h (.cells [.bool a1, a2.v] T.kg) fun h5r h5 =>
 newK h5 (.cells [.bool a3, a4.v] T.kg) fun h6r h6 =>
 newK h6 (.cells [.bool false, (⟨none, 0, .is 0⟩ : Sl).v] T.kg) fun h7r h7 =>
 ((h7.cell (h5r.add 0)).bind AV.asBool).bind fun b8 =>
 ((h7.cell (h5r.add 1)).bind AV.asSl).bind fun l9 =>
 ((h7.cell (h6r.add 0)).bind AV.asBool).bind fun b10 =>
 ((h7.cell (h6r.add 1)).bind AV.asSl).bind fun l11 =>
 newK h7 (.cells [.bool b8, l9.v, .bool b10, l11.v] T.kg) fun h12r h12 =>
 (go (.fn F.kf2 [(⟨some h12r, 2, .is 2⟩ : Sl).v]) h12).bind fun q13 =>
 ((some q13.1).bind AV.asBool).bind fun b14 =>
 cond (!b14) (
 (q13.2.puts h7r [.bool false, (⟨none, 0, .is 0⟩ : Sl).v]).bind fun h15 =>
 ((h15.cell (h7r.add 0)).bind AV.asBool).bind fun b16 =>
 ((h15.cell (h7r.add 1)).bind AV.asSl).bind fun l17 =>
 some (.tup [.agg [.bool b16, l17.v], .int .i64 1], h15)) (
 ((q13.2.cell (h5r.add 0)).bind AV.asBool).bind fun b18 =>
 ((q13.2.cell (h6r.add 0)).bind AV.asBool).bind fun b19 =>
 cond (b18 == b19) (
 ((q13.2.cell (h5r.add 1)).bind AV.asSl).bind fun l20 =>
 ((q13.2.cell (h6r.add 1)).bind AV.asSl).bind fun l21 =>
 (go (.fn F.kng [l20.v, l21.v]) q13.2).bind fun q22 =>
 (AV.asTup2 q22.1).bind fun p23 =>
 ((some p23.1).bind AV.asSl).bind fun l24 =>
 ((some p23.2).bind (AV.asInt .i64)).bind fun n25 =>
 ((q22.2.cell (h5r.add 0)).bind AV.asBool).bind fun b26 =>
 (go (.fn F.kcy [.bool b26, l24.v]) q22.2).bind fun q27 =>
 (AV.asAgg q27.1).bind fun cs28 =>
 cond (Nat.beq cs28.length 2) (
 ((cs28[0]?).bind AV.asBool).bind fun b29 =>
 ((cs28[1]?).bind AV.asSl).bind fun l30 =>
 (q27.2.puts h7r [.bool b29, l30.v]).bind fun h31 =>
 ((h31.cell (h7r.add 0)).bind AV.asBool).bind fun b32 =>
 ((h31.cell (h7r.add 1)).bind AV.asSl).bind fun l33 =>
 some (.tup [.agg [.bool b32, l33.v], .int .i64 n25], h31)) none) (
 ((q13.2.cell (h5r.add 1)).bind AV.asSl).bind fun l34 =>
 ((q13.2.cell (h6r.add 1)).bind AV.asSl).bind fun l35 =>
 (go (.fn F.khj [l34.v, l35.v]) q13.2).bind fun q36 =>
 ((some q36.1).bind (AV.asInt .i64)).bind fun n37 =>
 cond (decide (n37 < 0)) (
 ((q36.2.cell (h6r.add 0)).bind AV.asBool).bind fun b38 =>
 ((q36.2.cell (h6r.add 1)).bind AV.asSl).bind fun l39 =>
 ((q36.2.cell (h5r.add 0)).bind AV.asBool).bind fun b40 =>
 ((q36.2.cell (h5r.add 1)).bind AV.asSl).bind fun l41 =>
 (q36.2.puts h5r [.bool b38, l39.v]).bind fun h42 =>
 (h42.puts h6r [.bool b40, l41.v]).bind fun h43 =>
 ((h43.cell (h5r.add 1)).bind AV.asSl).bind fun l44 =>
 ((h43.cell (h6r.add 1)).bind AV.asSl).bind fun l45 =>
 (go (.fn F.kla [l44.v, l45.v]) h43).bind fun q46 =>
 (AV.asTup2 q46.1).bind fun p47 =>
 ((some p47.1).bind AV.asSl).bind fun l48 =>
 ((some p47.2).bind (AV.asInt .i64)).bind fun n49 =>
 ((q46.2.cell (h5r.add 0)).bind AV.asBool).bind fun b50 =>
 (go (.fn F.kcy [.bool b50, l48.v]) q46.2).bind fun q51 =>
 (AV.asAgg q51.1).bind fun cs52 =>
 cond (Nat.beq cs52.length 2) (
 ((cs52[0]?).bind AV.asBool).bind fun b53 =>
 ((cs52[1]?).bind AV.asSl).bind fun l54 =>
 (q51.2.puts h7r [.bool b53, l54.v]).bind fun h55 =>
 ((h55.cell (h7r.add 0)).bind AV.asBool).bind fun b56 =>
 ((h55.cell (h7r.add 1)).bind AV.asSl).bind fun l57 =>
 some (.tup [.agg [.bool b56, l57.v], .int .i64 n49], h55)) none) (
 ((q36.2.cell (h5r.add 1)).bind AV.asSl).bind fun l58 =>
 ((q36.2.cell (h6r.add 1)).bind AV.asSl).bind fun l59 =>
 (go (.fn F.kla [l58.v, l59.v]) q36.2).bind fun q60 =>
 (AV.asTup2 q60.1).bind fun p61 =>
 ((some p61.1).bind AV.asSl).bind fun l62 =>
 ((some p61.2).bind (AV.asInt .i64)).bind fun n63 =>
 ((q60.2.cell (h5r.add 0)).bind AV.asBool).bind fun b64 =>
 (go (.fn F.kcy [.bool b64, l62.v]) q60.2).bind fun q65 =>
 (AV.asAgg q65.1).bind fun cs66 =>
 cond (Nat.beq cs66.length 2) (
 ((cs66[0]?).bind AV.asBool).bind fun b67 =>
 ((cs66[1]?).bind AV.asSl).bind fun l68 =>
 (q65.2.puts h7r [.bool b67, l68.v]).bind fun h69 =>
 ((h69.cell (h7r.add 0)).bind AV.asBool).bind fun b70 =>
 ((h69.cell (h7r.add 1)).bind AV.asSl).bind fun l71 =>
 some (.tup [.agg [.bool b70, l71.v], .int .i64 n63], h69)) none))) := (ke _ h).trans (by kernel_rfl)
theorem kwf (a1 : Bool) (a2 : Sl) (a3 : Bool) (a4 : Sl) (h : AH) : go (.fn F.kgu [.agg [.bool a1, a2.v], .agg [.bool a3, a4.v]]) h =
 newK h (.cells [.bool a1, a2.v] T.kg) fun h5r h5 =>
 newK h5 (.cells [.bool a3, a4.v] T.kg) fun h6r h6 =>
 newK h6 (.cells [.bool false, (⟨none, 0, .is 0⟩ : Sl).v] T.kg) fun h7r h7 =>
 ((h7.cell (h5r.add 0)).bind AV.asBool).bind fun b8 =>
 ((h7.cell (h5r.add 1)).bind AV.asSl).bind fun l9 =>
 ((h7.cell (h6r.add 0)).bind AV.asBool).bind fun b10 =>
 ((h7.cell (h6r.add 1)).bind AV.asSl).bind fun l11 =>
 newK h7 (.cells [.bool b8, l9.v, .bool b10, l11.v] T.kg) fun h12r h12 =>
 (go (.fn F.kf2 [(⟨some h12r, 2, .is 2⟩ : Sl).v]) h12).bind fun q13 =>
 ((some q13.1).bind AV.asBool).bind fun b14 =>
 cond (!b14) (
 (q13.2.puts h7r [.bool false, (⟨none, 0, .is 0⟩ : Sl).v]).bind fun h15 =>
 ((h15.cell (h7r.add 0)).bind AV.asBool).bind fun b16 =>
 ((h15.cell (h7r.add 1)).bind AV.asSl).bind fun l17 =>
 some (.tup [.agg [.bool b16, l17.v], .int .i64 1], h15)) (
 ((q13.2.cell (h5r.add 0)).bind AV.asBool).bind fun b18 =>
 ((q13.2.cell (h5r.add 1)).bind AV.asSl).bind fun l19 =>
 ((q13.2.cell (h6r.add 0)).bind AV.asBool).bind fun b20 =>
 ((q13.2.cell (h6r.add 1)).bind AV.asSl).bind fun l21 =>
 (go (.fn F.kno [.agg [.bool b20, l21.v]]) q13.2).bind fun q22 =>
 (AV.asAgg q22.1).bind fun cs23 =>
 cond (Nat.beq cs23.length 2) (
 ((cs23[0]?).bind AV.asBool).bind fun b24 =>
 ((cs23[1]?).bind AV.asSl).bind fun l25 =>
 whenK (SameAt q13.2 q22.2 h5r 2) (
 (go (.fn F.kf3 [.agg [.bool b18, l19.v], .agg [.bool b24, l25.v]]) q22.2).bind fun q26 =>
 (AV.asTup2 q26.1).bind fun p27 =>
 (AV.asAgg p27.1).bind fun cs28 =>
 cond (Nat.beq cs28.length 2) (
 ((cs28[0]?).bind AV.asBool).bind fun b29 =>
 ((cs28[1]?).bind AV.asSl).bind fun l30 =>
 ((some p27.2).bind (AV.asInt .i64)).bind fun n31 =>
 (q26.2.puts h7r [.bool b29, l30.v]).bind fun h32 =>
 ((h32.cell (h7r.add 0)).bind AV.asBool).bind fun b33 =>
 ((h32.cell (h7r.add 1)).bind AV.asSl).bind fun l34 =>
 some (.tup [.agg [.bool b33, l34.v], .int .i64 n31], h32)) none)) none) := (ke _ h).trans (by kernel_rfl)
theorem kz7 (a1 : Sl) (h : AH) : go (.fn F.krw [a1.v, .func (.func F.kdb) [] []]) h =
 (go (.fn F.khf [a1.v, .func (.func F.kdb) [] []]) h).bind fun q2 =>
 ((some q2.1).bind (AV.asInt .i64)).bind fun n3 =>
 some (.bool (decide (n3 ≥ 0)), q2.2) := (ke _ h).trans (by kernel_rfl)
theorem kzg (a1 : Sl) (a2 : Sl) (h : AH) : go (.fn F.khj [a1.v, a2.v]) h =
 newK h (.cells [a1.v, a2.v] T.kcb) fun h3r h3 =>
 (go (.fn F.kev [(⟨some h3r, 2, .is 2⟩ : Sl).v]) h3).bind fun q4 =>
 ((some q4.1).bind AV.asBool).bind fun b5 =>
 cond (!b5) (
 some (.int .i64 0, q4.2)) (
 (go (.fn F.kdk [a1.v, a2.v]) q4.2).bind fun q6 =>
 ((some q6.1).bind (AV.asInt .i64)).bind fun n7 =>
 some (.int .i64 n7, q6.2)) := (ke _ h).trans (by kernel_rfl)
theorem kyq (a1 : Sl) (a2 : Sl) (h : AH) : go (.fn F.koc [a1.v, a2.v]) h =
 (go (.fn F.khz [a1.v, a2.v]) h).bind fun q3 =>
 (AV.asTup3 q3.1).bind fun p4 =>
 ((some p4.1).bind AV.asSl).bind fun l5 =>
 ((some p4.2.1).bind AV.asSl).bind fun l6 =>
 ((some p4.2.2).bind (AV.asInt .i64)).bind fun n7 =>
 some (l6.v, q3.2) := (ke _ h).trans (by kernel_rfl)
theorem kux (a1 : Sl) (a2 : Sl) (a3 : Int) (h : AH) : go (.pt F.kbl Td.kiz [(0, a1.v), (3, a2.v), (4, .int .i64 a3)]) h =
 cond (decide (a3 < (a1.len : Int))) (
 (idx a1.ref a1.len a3 1).bind fun r4 =>
 ((h.cell r4).bind (AV.asInt .u64)).bind fun n5 =>
 go (.pt F.kbl Td.kl6 [(0, a1.v), (3, a2.v), (4, .int .i64 a3), (5, .int .u64 n5), (6, .int .i64 0)]) h) (
 (go (.fn F.kcm [a2.v]) h).bind fun q6 =>
 ((some q6.1).bind AV.asSl).bind fun l7 =>
 some (l7.v, q6.2)) := (ke _ h).trans (by kernel_rfl)
theorem k63 (a1 : Sl) (a2 : Sl) (a3 : Sl) (a4 : Sl) (a5 : Int) (h : AH) : go (.pt F.kct Td.kkt [(0, a1.v), (1, a2.v), (6, a3.v), (7, a4.v), (8, .int .i64 a5)]) h =
 cond (decide (a5 ≥ 0)) (
 (idx a1.ref a1.len a5 1).bind fun r6 =>
 ((h.cell r6).bind (AV.asInt .u64)).bind fun n7 =>
 newK h (.cells [.int .u64 n7] T.kf) fun h8r h8 =>
 (kbj Pg T.kf a4.v h8).bind fun p10 =>
 (kx Pg (⟨some h8r, 1, .is 1⟩ : Sl) p10.1 p10.2 T.kf 1 h8).bind fun q9 =>
 (AV.asSl q9.1).bind fun l11 =>
 (go (.fn F.kcm [l11.v]) q9.2).bind fun q12 =>
 ((some q12.1).bind AV.asSl).bind fun l13 =>
 go (.pt F.kct Td.kii [(0, a1.v), (1, a2.v), (6, a3.v), (7, l13.v), (8, .int .i64 a5), (9, .int .u64 0), (10, .int .u64 65535)]) q12.2) (
 (go (.fn F.kcm [a3.v]) h).bind fun q14 =>
 ((some q14.1).bind AV.asSl).bind fun l15 =>
 some (.tup [l15.v, a4.v], q14.2)) := (ke _ h).trans (by kernel_rfl)
theorem krv (a1 : Sl) (a2 : Sl) (a3 : Int) (h : AH) : go (.pt F.kca Td.kh3 [(0, a1.v), (4, a2.v), (5, .int .i64 a3)]) h =
 cond (decide (a3 < (a1.len : Int))) (
 go (.pt F.kca Td.kim [(0, a1.v), (4, a2.v), (5, .int .i64 a3), (6, .int .u64 0), (7, .int .i64 3)]) h) (
 some (.tup [a2.v, .bool (decide ((a2.len : Int) ≤ 64))], h)) := (ke _ h).trans (by kernel_rfl)
theorem k3e (a1 : Bool) (a2 : Sl) (a3 : Bool) (a4 : Sl) (h : AH) : go (.fn F.kik [.agg [.bool a1, a2.v], .agg [.bool a3, a4.v]]) h =
 newK h (.cells [.bool a1, a2.v] T.kg) fun h5r h5 =>
 newK h5 (.cells [.bool a3, a4.v] T.kg) fun h6r h6 =>
 newK h6 (.cells [.bool false, (⟨none, 0, .is 0⟩ : Sl).v] T.kg) fun h7r h7 =>
 ((h7.cell (h5r.add 0)).bind AV.asBool).bind fun b8 =>
 ((h7.cell (h5r.add 1)).bind AV.asSl).bind fun l9 =>
 (go (.fn F.kc8 [.agg [.bool b8, l9.v]]) h7).bind fun q10 =>
 ((some q10.1).bind AV.asBool).bind fun b11 =>
 ((q10.2.cell (h6r.add 0)).bind AV.asBool).bind fun b12 =>
 ((q10.2.cell (h6r.add 1)).bind AV.asSl).bind fun l13 =>
 (go (.fn F.kc8 [.agg [.bool b12, l13.v]]) q10.2).bind fun q14 =>
 ((some q14.1).bind AV.asBool).bind fun b15 =>
 cond (!b11) (
 (q14.2.puts h7r [.bool false, (⟨none, 0, .is 0⟩ : Sl).v]).bind fun h16 =>
 ((h16.cell (h7r.add 0)).bind AV.asBool).bind fun b17 =>
 ((h16.cell (h7r.add 1)).bind AV.asSl).bind fun l18 =>
 some (.tup [.agg [.bool b17, l18.v], .int .i64 1], h16)) (
 cond (!b15) (
 (q14.2.puts h7r [.bool false, (⟨none, 0, .is 0⟩ : Sl).v]).bind fun h19 =>
 ((h19.cell (h7r.add 0)).bind AV.asBool).bind fun b20 =>
 ((h19.cell (h7r.add 1)).bind AV.asSl).bind fun l21 =>
 some (.tup [.agg [.bool b20, l21.v], .int .i64 1], h19)) (
 ((q14.2.cell (h5r.add 1)).bind AV.asSl).bind fun l22 =>
 ((q14.2.cell (h6r.add 1)).bind AV.asSl).bind fun l23 =>
 (go (.fn F.kmh [l22.v, l23.v]) q14.2).bind fun q24 =>
 (AV.asTup2 q24.1).bind fun p25 =>
 ((some p25.1).bind AV.asSl).bind fun l26 =>
 ((some p25.2).bind (AV.asInt .i64)).bind fun n27 =>
 ((q24.2.cell (h5r.add 0)).bind AV.asBool).bind fun b28 =>
 ((q24.2.cell (h6r.add 0)).bind AV.asBool).bind fun b29 =>
 (go (.fn F.kc1 [.bool (!(b28 == b29)), l26.v]) q24.2).bind fun q30 =>
 (AV.asAgg q30.1).bind fun cs31 =>
 cond (Nat.beq cs31.length 2) (
 ((cs31[0]?).bind AV.asBool).bind fun b32 =>
 ((cs31[1]?).bind AV.asSl).bind fun l33 =>
 (q30.2.puts h7r [.bool b32, l33.v]).bind fun h34 =>
 ((h34.cell (h7r.add 0)).bind AV.asBool).bind fun b35 =>
 ((h34.cell (h7r.add 1)).bind AV.asSl).bind fun l36 =>
 some (.tup [.agg [.bool b35, l36.v], .int .i64 n27], h34)) none)) := (ke _ h).trans (by kernel_rfl)
theorem k5l (a1 : Bool) (a2 : Sl) (a3 : Bool) (a4 : Sl) (h : AH) : go (.fn F.kli [.agg [.bool a1, a2.v], .agg [.bool a3, a4.v]]) h =
 newK h (.cells [.bool a1, a2.v] T.kg) fun h5r h5 =>
 newK h5 (.cells [.bool a3, a4.v] T.kg) fun h6r h6 =>
 newK h6 (.cells [.bool false, (⟨none, 0, .is 0⟩ : Sl).v] T.kg) fun h7r h7 =>
 ((h7.cell (h5r.add 0)).bind AV.asBool).bind fun b8 =>
 ((h7.cell (h5r.add 1)).bind AV.asSl).bind fun l9 =>
 (go (.fn F.kc8 [.agg [.bool b8, l9.v]]) h7).bind fun q10 =>
 ((some q10.1).bind AV.asBool).bind fun b11 =>
 ((q10.2.cell (h6r.add 0)).bind AV.asBool).bind fun b12 =>
 ((q10.2.cell (h6r.add 1)).bind AV.asSl).bind fun l13 =>
 (go (.fn F.kc8 [.agg [.bool b12, l13.v]]) q10.2).bind fun q14 =>
 ((some q14.1).bind AV.asBool).bind fun b15 =>
 cond (!b11) (
 (q14.2.puts h7r [.bool false, (⟨none, 0, .is 0⟩ : Sl).v]).bind fun h16 =>
 ((h16.cell (h7r.add 0)).bind AV.asBool).bind fun b17 =>
 ((h16.cell (h7r.add 1)).bind AV.asSl).bind fun l18 =>
 some (.tup [.agg [.bool b17, l18.v], .int .i64 1], h16)) (
 cond (!b15) (
 (q14.2.puts h7r [.bool false, (⟨none, 0, .is 0⟩ : Sl).v]).bind fun h19 =>
 ((h19.cell (h7r.add 0)).bind AV.asBool).bind fun b20 =>
 ((h19.cell (h7r.add 1)).bind AV.asSl).bind fun l21 =>
 some (.tup [.agg [.bool b20, l21.v], .int .i64 1], h19)) (
 ((q14.2.cell (h5r.add 0)).bind AV.asBool).bind fun b22 =>
 ((q14.2.cell (h6r.add 0)).bind AV.asBool).bind fun b23 =>
 cond (b22 == b23) (
 ((q14.2.cell (h5r.add 1)).bind AV.asSl).bind fun l24 =>
 ((q14.2.cell (h6r.add 1)).bind AV.asSl).bind fun l25 =>
 (go (.fn F.km4 [l24.v, l25.v]) q14.2).bind fun q26 =>
 (AV.asTup2 q26.1).bind fun p27 =>
 ((some p27.1).bind AV.asSl).bind fun l28 =>
 ((some p27.2).bind (AV.asInt .i64)).bind fun n29 =>
 ((q26.2.cell (h5r.add 0)).bind AV.asBool).bind fun b30 =>
 (go (.fn F.kc1 [.bool b30, l28.v]) q26.2).bind fun q31 =>
 (AV.asAgg q31.1).bind fun cs32 =>
 cond (Nat.beq cs32.length 2) (
 ((cs32[0]?).bind AV.asBool).bind fun b33 =>
 ((cs32[1]?).bind AV.asSl).bind fun l34 =>
 (q31.2.puts h7r [.bool b33, l34.v]).bind fun h35 =>
 ((h35.cell (h7r.add 0)).bind AV.asBool).bind fun b36 =>
 ((h35.cell (h7r.add 1)).bind AV.asSl).bind fun l37 =>
 some (.tup [.agg [.bool b36, l37.v], .int .i64 n29], h35)) none) (
 ((q14.2.cell (h5r.add 1)).bind AV.asSl).bind fun l38 =>
 ((q14.2.cell (h6r.add 1)).bind AV.asSl).bind fun l39 =>
 (go (.fn F.khd [l38.v, l39.v]) q14.2).bind fun q40 =>
 ((some q40.1).bind (AV.asInt .i64)).bind fun n41 =>
 cond (decide (n41 ≥ 0)) (
 ((q40.2.cell (h5r.add 1)).bind AV.asSl).bind fun l42 =>
 ((q40.2.cell (h6r.add 1)).bind AV.asSl).bind fun l43 =>
 (go (.fn F.kj6 [l42.v, l43.v]) q40.2).bind fun q44 =>
 (AV.asTup2 q44.1).bind fun p45 =>
 ((some p45.1).bind AV.asSl).bind fun l46 =>
 ((some p45.2).bind (AV.asInt .i64)).bind fun n47 =>
 ((q44.2.cell (h5r.add 0)).bind AV.asBool).bind fun b48 =>
 (go (.fn F.kc1 [.bool b48, l46.v]) q44.2).bind fun q49 =>
 (AV.asAgg q49.1).bind fun cs50 =>
 cond (Nat.beq cs50.length 2) (
 ((cs50[0]?).bind AV.asBool).bind fun b51 =>
 ((cs50[1]?).bind AV.asSl).bind fun l52 =>
 (q49.2.puts h7r [.bool b51, l52.v]).bind fun h53 =>
 ((h53.cell (h7r.add 0)).bind AV.asBool).bind fun b54 =>
 ((h53.cell (h7r.add 1)).bind AV.asSl).bind fun l55 =>
 some (.tup [.agg [.bool b54, l55.v], .int .i64 0], h53)) none) (
 ((q40.2.cell (h6r.add 1)).bind AV.asSl).bind fun l56 =>
 ((q40.2.cell (h5r.add 1)).bind AV.asSl).bind fun l57 =>
 (go (.fn F.kj6 [l56.v, l57.v]) q40.2).bind fun q58 =>
 (AV.asTup2 q58.1).bind fun p59 =>
 ((some p59.1).bind AV.asSl).bind fun l60 =>
 ((some p59.2).bind (AV.asInt .i64)).bind fun n61 =>
 ((q58.2.cell (h6r.add 0)).bind AV.asBool).bind fun b62 =>
 (go (.fn F.kc1 [.bool b62, l60.v]) q58.2).bind fun q63 =>
 (AV.asAgg q63.1).bind fun cs64 =>
 cond (Nat.beq cs64.length 2) (
 ((cs64[0]?).bind AV.asBool).bind fun b65 =>
 ((cs64[1]?).bind AV.asSl).bind fun l66 =>
 (q63.2.puts h7r [.bool b65, l66.v]).bind fun h67 =>
 ((h67.cell (h7r.add 0)).bind AV.asBool).bind fun b68 =>
 ((h67.cell (h7r.add 1)).bind AV.asSl).bind fun l69 =>
 some (.tup [.agg [.bool b68, l69.v], .int .i64 0], h67)) none)))) := (ke _ h).trans (by kernel_rfl)
theorem k6k (a1 : Sl) (a2 : Sl) (h : AH) : go (.fn F.kmh [a1.v, a2.v]) h =
 (go (.fn F.kby [a1.v]) h).bind fun q3 =>
 ((some q3.1).bind AV.asBool).bind fun b4 =>
 (go (.fn F.kby [a2.v]) q3.2).bind fun q5 =>
 ((some q5.1).bind AV.asBool).bind fun b6 =>
 cond (!b4) (
 some (.tup [(⟨none, 0, .is 0⟩ : Sl).v, .int .i64 1], q5.2)) (
 cond (!b6) (
 some (.tup [(⟨none, 0, .is 0⟩ : Sl).v, .int .i64 1], q5.2)) (
 (go (.fn F.kbl [a1.v]) q5.2).bind fun q7 =>
 ((some q7.1).bind AV.asSl).bind fun l8 =>
 (go (.fn F.kbl [a2.v]) q7.2).bind fun q9 =>
 ((some q9.1).bind AV.asSl).bind fun l10 =>
 (go (.fn F.kci [l8.v, l10.v]) q9.2).bind fun q11 =>
 ((some q11.1).bind AV.asSl).bind fun l12 =>
 (go (.fn F.kix [l12.v]) q11.2).bind fun q13 =>
 (AV.asTup2 q13.1).bind fun p14 =>
 ((some p14.1).bind AV.asSl).bind fun l15 =>
 ((some p14.2).bind (AV.asInt .i64)).bind fun n16 =>
 some (.tup [l15.v, .int .i64 n16], q13.2))) := (ke _ h).trans (by kernel_rfl)
theorem k28 (a1 : Bool) (a2 : Sl) (h : AH) : go (.fn F.km1 [.agg [.bool a1, a2.v]]) h =
 newK h (.cells [.bool a1, a2.v] T.kg) fun h3r h3 =>
 newK h3 (.cells [.bool false, (⟨none, 0, .is 0⟩ : Sl).v] T.kg) fun h4r h4 =>
 ((h4.cell (h3r.add 0)).bind AV.asBool).bind fun b5 =>
 ((h4.cell (h3r.add 1)).bind AV.asSl).bind fun l6 =>
 (go (.fn F.kc8 [.agg [.bool b5, l6.v]]) h4).bind fun q7 =>
 ((some q7.1).bind AV.asBool).bind fun b8 =>
 cond (!b8) (
 (q7.2.puts h4r [.bool false, (⟨none, 0, .is 0⟩ : Sl).v]).bind fun h9 =>
 ((h9.cell (h4r.add 0)).bind AV.asBool).bind fun b10 =>
 ((h9.cell (h4r.add 1)).bind AV.asSl).bind fun l11 =>
 some (.agg [.bool b10, l11.v], h9)) (
 ((q7.2.cell (h3r.add 0)).bind AV.asBool).bind fun b12 =>
 ((q7.2.cell (h3r.add 1)).bind AV.asSl).bind fun l13 =>
 (go (.fn F.kc1 [.bool (!b12), l13.v]) q7.2).bind fun q14 =>
 (AV.asAgg q14.1).bind fun cs15 =>
 cond (Nat.beq cs15.length 2) (
 ((cs15[0]?).bind AV.asBool).bind fun b16 =>
 ((cs15[1]?).bind AV.asSl).bind fun l17 =>
 (q14.2.puts h4r [.bool b16, l17.v]).bind fun h18 =>
 ((h18.cell (h4r.add 0)).bind AV.asBool).bind fun b19 =>
 ((h18.cell (h4r.add 1)).bind AV.asSl).bind fun l20 =>
 some (.agg [.bool b19, l20.v], h18)) none) := (ke _ h).trans (by kernel_rfl)
theorem kvm (a1 : Sl) (a2 : Sl) (h : AH) : go (.fn F.khd [a1.v, a2.v]) h =
 (go (.fn F.kby [a1.v]) h).bind fun q3 =>
 ((some q3.1).bind AV.asBool).bind fun b4 =>
 (go (.fn F.kby [a2.v]) q3.2).bind fun q5 =>
 ((some q5.1).bind AV.asBool).bind fun b6 =>
 cond (!b4) (
 some (.int .i64 0, q5.2)) (
 cond (!b6) (
 some (.int .i64 0, q5.2)) (
 (go (.fn F.kbl [a1.v]) q5.2).bind fun q7 =>
 ((some q7.1).bind AV.asSl).bind fun l8 =>
 (go (.fn F.kbl [a2.v]) q7.2).bind fun q9 =>
 ((some q9.1).bind AV.asSl).bind fun l10 =>
 (go (.fn F.kd0 [l8.v, l10.v]) q9.2).bind fun q11 =>
 ((some q11.1).bind (AV.asInt .i64)).bind fun n12 =>
 some (.int .i64 n12, q11.2))) := (ke _ h).trans (by kernel_rfl)
theorem kqh (a1 : Sl) (a2 : Int) (a3 : Int) (h : AH) : go (.pt F.kg6 Td.kly [(0, a1.v), (1, .func (.func F.kc9) [] []), (7, .int .i64 a2), (8, .int .i64 a3)]) h =
 cond (decide (a3 < a2)) (
 (idx a1.ref a1.len a3 2).bind fun r4 =>
 ((h.cell (r4.add 0)).bind AV.asBool).bind fun b5 =>
 ((h.cell (r4.add 1)).bind AV.asSl).bind fun l6 =>
 (go (.fn F.kc9 [.agg [.bool b5, l6.v]]) h).bind fun q7 =>
 ((some q7.1).bind AV.asBool).bind fun b8 =>
 cond b8 (
 some (.int .i64 a3, q7.2)) (
 go (.pt F.kg6 Td.kly [(0, a1.v), (1, .func (.func F.kc9) [] []), (7, .int .i64 a2), (8, .int .i64 (IntKind.wrap .i64 (a3 + 1)))]) q7.2)) (
 some (.int .i64 (-1), h)) := (ke _ h).trans (by kernel_rfl)
theorem ksq (a1 : Sl) (a2 : Int) (a3 : Int) (h : AH) : go (.pt F.khw Td.klx [(0, a1.v), (1, .func (.func F.kc7) [] []), (7, .int .i64 a2), (8, .int .i64 a3)]) h =
 cond (decide (a3 < a2)) (
 (idx a1.ref a1.len a3 1).bind fun r4 =>
 ((h.cell r4).bind AV.asSl).bind fun l5 =>
 (go (.fn F.kc7 [l5.v]) h).bind fun q6 =>
 ((some q6.1).bind AV.asBool).bind fun b7 =>
 cond b7 (
 some (.int .i64 a3, q6.2)) (
 go (.pt F.khw Td.klx [(0, a1.v), (1, .func (.func F.kc7) [] []), (7, .int .i64 a2), (8, .int .i64 (IntKind.wrap .i64 (a3 + 1)))]) q6.2)) (
 some (.int .i64 (-1), h)) := (ke _ h).trans (by kernel_rfl)
theorem k49 (a1 : Int) (a2 : Int) (a3 : Int) (h : AH) : go (.pt F.kbo Td.kns [(0, .int .u64 a1), (1, .int .u64 a2), (2, .int .u64 a3)]) h =
 cond (decide (a3 ≤ a1)) (
 (h.cell (.old ⟨1, 0, none⟩)).bind fun v4 =>
 none) (
 cond (decide (a1 = 0)) (
 cond (decide (a3 = 0)) none (
 cond (decide (a3 = 0)) none (
 some (.tup [.int .u64 (IntKind.wrap .u64 (Int.tdiv a2 a3)), .int .u64 (Int.tmod a2 a3)], h)))) (
 (go (.fn F.kk0 [.int .u64 a3]) h).bind fun q5 =>
 ((some q5.1).bind (AV.asInt .i64)).bind fun n6 =>
 cond (decide ((IntKind.wrap .u64 n6) < 0)) none (
 cond (decide ((IntKind.wrap .u64 n6) < 0)) none (
 cond (decide ((IntKind.wrap .u64 (64 - (IntKind.wrap .u64 n6))) < 0)) none (
 cond (decide ((IntKind.wrap .u64 n6) < 0)) none (
 cond (decide ((ishr .u64 (ishl .u64 a3 (IntKind.wrap .u64 n6)) 32) = 0)) none (
 go (.pt F.kbo Td.kie [(2, .int .u64 (ishl .u64 a3 (IntKind.wrap .u64 n6))), (8, .int .u64 (IntKind.wrap .u64 n6)), (9, .int .u64 (ishr .u64 (ishl .u64 a3 (IntKind.wrap .u64 n6)) 32)), (10, .int .u64 (iand .u64 (ishl .u64 a3 (IntKind.wrap .u64 n6)) 4294967295)), (11, .int .u64 (ior .u64 (ishl .u64 a1 (IntKind.wrap .u64 n6)) (ishr .u64 a2 (IntKind.wrap .u64 (64 - (IntKind.wrap .u64 n6)))))), (13, .int .u64 (ishr .u64 (ishl .u64 a2 (IntKind.wrap .u64 n6)) 32)), (14, .int .u64 (iand .u64 (ishl .u64 a2 (IntKind.wrap .u64 n6)) 4294967295)), (15, .int .u64 (IntKind.wrap .u64 (Int.tdiv (ior .u64 (ishl .u64 a1 (IntKind.wrap .u64 n6)) (ishr .u64 a2 (IntKind.wrap .u64 (64 - (IntKind.wrap .u64 n6))))) (ishr .u64 (ishl .u64 a3 (IntKind.wrap .u64 n6)) 32)))), (16, .int .u64 (IntKind.wrap .u64 ((ior .u64 (ishl .u64 a1 (IntKind.wrap .u64 n6)) (ishr .u64 a2 (IntKind.wrap .u64 (64 - (IntKind.wrap .u64 n6))))) - (IntKind.wrap .u64 ((IntKind.wrap .u64 (Int.tdiv (ior .u64 (ishl .u64 a1 (IntKind.wrap .u64 n6)) (ishr .u64 a2 (IntKind.wrap .u64 (64 - (IntKind.wrap .u64 n6))))) (ishr .u64 (ishl .u64 a3 (IntKind.wrap .u64 n6)) 32))) * (ishr .u64 (ishl .u64 a3 (IntKind.wrap .u64 n6)) 32))))))]) q5.2))))))) := (ke _ h).trans (by kernel_rfl)
theorem ku9 (a1 : Int) (a2 : Int) (a3 : Int) (a4 : Int) (a5 : Int) (h : AH) : go (.pt F.kep Td.kiw [(2, .int .u64 a1), (3, .int .u64 a2), (4, .int .u64 a3), (11, .int .u64 a4), (12, .int .u64 a5)]) h =
 (go (.fn F.kkr [.int .u64 a4, .int .u64 a3]) h).bind fun q6 =>
 (AV.asTup2 q6.1).bind fun p7 =>
 ((some p7.1).bind (AV.asInt .u64)).bind fun n8 =>
 ((some p7.2).bind (AV.asInt .u64)).bind fun n9 =>
 cond (decide (n8 < a5)) (
 some (.int .u64 a4, q6.2)) (
 cond (decide (n8 = a5)) (
 cond (decide (n9 ≤ a1)) (
 some (.int .u64 a4, q6.2)) (
 cond (decide ((IntKind.wrap .u64 (a5 + a2)) < a5)) (
 some (.int .u64 (IntKind.wrap .u64 (a4 - 1)), q6.2)) (
 go (.pt F.kep Td.kiw [(2, .int .u64 a1), (3, .int .u64 a2), (4, .int .u64 a3), (11, .int .u64 (IntKind.wrap .u64 (a4 - 1))), (12, .int .u64 (IntKind.wrap .u64 (a5 + a2)))]) q6.2))) (
 cond (decide ((IntKind.wrap .u64 (a5 + a2)) < a5)) (
 some (.int .u64 (IntKind.wrap .u64 (a4 - 1)), q6.2)) (
 go (.pt F.kep Td.kiw [(2, .int .u64 a1), (3, .int .u64 a2), (4, .int .u64 a3), (11, .int .u64 (IntKind.wrap .u64 (a4 - 1))), (12, .int .u64 (IntKind.wrap .u64 (a5 + a2)))]) q6.2))) := (ke _ h).trans (by kernel_rfl)
theorem kw2 (a1 : Sl) (a2 : Sl) (h : AH) : go (.fn F.kng [a1.v, a2.v]) h =
 newK h (.cells [a1.v, a2.v] T.kcb) fun h3r h3 =>
 (go (.fn F.kev [(⟨some h3r, 2, .is 2⟩ : Sl).v]) h3).bind fun q4 =>
 ((some q4.1).bind AV.asBool).bind fun b5 =>
 cond (!b5) (
 some (.tup [(⟨none, 0, .is 0⟩ : Sl).v, .int .i64 1], q4.2)) (
 (go (.fn F.kcq [a1.v, a2.v]) q4.2).bind fun q6 =>
 ((some q6.1).bind AV.asSl).bind fun l7 =>
 (go (.fn F.ki7 [l7.v]) q6.2).bind fun q8 =>
 (AV.asTup2 q8.1).bind fun p9 =>
 ((some p9.1).bind AV.asSl).bind fun l10 =>
 ((some p9.2).bind (AV.asInt .i64)).bind fun n11 =>
 some (.tup [l10.v, .int .i64 n11], q8.2)) := (ke _ h).trans (by kernel_rfl)
theorem k1f (a1 : Sl) (a2 : Sl) (h : AH) : go (.fn F.kla [a1.v, a2.v]) h =
 newK h (.cells [a1.v, a2.v] T.kcb) fun h3r h3 =>
 (go (.fn F.kev [(⟨some h3r, 2, .is 2⟩ : Sl).v]) h3).bind fun q4 =>
 ((some q4.1).bind AV.asBool).bind fun b5 =>
 cond (!b5) (
 some (.tup [(⟨none, 0, .is 0⟩ : Sl).v, .int .i64 1], q4.2)) (
 (go (.fn F.kdk [a1.v, a2.v]) q4.2).bind fun q6 =>
 ((some q6.1).bind (AV.asInt .i64)).bind fun n7 =>
 cond (decide (n7 < 0)) (
 some (.tup [(⟨none, 0, .is 0⟩ : Sl).v, .int .i64 2], q6.2)) (
 (go (.fn F.kcp [a1.v, a2.v]) q6.2).bind fun q8 =>
 ((some q8.1).bind AV.asSl).bind fun l9 =>
 (go (.fn F.ki7 [l9.v]) q8.2).bind fun q10 =>
 (AV.asTup2 q10.1).bind fun p11 =>
 ((some p11.1).bind AV.asSl).bind fun l12 =>
 ((some p11.2).bind (AV.asInt .i64)).bind fun n13 =>
 some (.tup [l12.v, .int .i64 n13], q10.2))) := (ke _ h).trans (by kernel_rfl)
theorem kx4 (a1 : Bool) (a2 : Sl) (h : AH) : go (.fn F.kno [.agg [.bool a1, a2.v]]) h =
 newK h (.cells [.bool a1, a2.v] T.kg) fun h3r h3 =>
 newK h3 (.cells [.bool false, (⟨none, 0, .is 0⟩ : Sl).v] T.kg) fun h4r h4 =>
 ((h4.cell (h3r.add 0)).bind AV.asBool).bind fun b5 =>
 ((h4.cell (h3r.add 1)).bind AV.asSl).bind fun l6 =>
 (go (.fn F.kg7 [.agg [.bool b5, l6.v]]) h4).bind fun q7 =>
 ((some q7.1).bind AV.asBool).bind fun b8 =>
 cond (!b8) (
 (q7.2.puts h4r [.bool false, (⟨none, 0, .is 0⟩ : Sl).v]).bind fun h9 =>
 ((h9.cell (h4r.add 0)).bind AV.asBool).bind fun b10 =>
 ((h9.cell (h4r.add 1)).bind AV.asSl).bind fun l11 =>
 some (.agg [.bool b10, l11.v], h9)) (
 ((q7.2.cell (h3r.add 0)).bind AV.asBool).bind fun b12 =>
 ((q7.2.cell (h3r.add 1)).bind AV.asSl).bind fun l13 =>
 (go (.fn F.kcy [.bool (!b12), l13.v]) q7.2).bind fun q14 =>
 (AV.asAgg q14.1).bind fun cs15 =>
 cond (Nat.beq cs15.length 2) (
 ((cs15[0]?).bind AV.asBool).bind fun b16 =>
 ((cs15[1]?).bind AV.asSl).bind fun l17 =>
 (q14.2.puts h4r [.bool b16, l17.v]).bind fun h18 =>
 ((h18.cell (h4r.add 0)).bind AV.asBool).bind fun b19 =>
 ((h18.cell (h4r.add 1)).bind AV.asSl).bind fun l20 =>
 some (.agg [.bool b19, l20.v], h18)) none) := (ke _ h).trans (by kernel_rfl)
theorem k0d (a1 : Sl) (h : AH) : go (.fn F.khf [a1.v, .func (.func F.kdb) [] []]) h =
 go (.pt F.khf Td.kku [(0, a1.v), (1, .func (.func F.kdb) [] []), (7, .int .i64 (a1.len : Int)), (8, .int .i64 0)]) h := (ke _ h).trans (by kernel_rfl)
theorem kte (a1 : Sl) (a2 : Sl) (a3 : Int) (a4 : Int) (a5 : Int) (h : AH) : go (.pt F.kbl Td.kl6 [(0, a1.v), (3, a2.v), (4, .int .i64 a3), (5, .int .u64 a4), (6, .int .i64 a5)]) h =
 cond (decide (a5 < 4)) (
 newK h (.cells [.int .u64 (Int.tmod a4 65536)] T.kf) fun h6r h6 =>
 (kbj Pg T.kf ((⟨some h6r, 1, .is 1⟩ : Sl).v) h6).bind fun p8 =>
 (kx Pg a2 p8.1 p8.2 T.kf 1 h6).bind fun q7 =>
 (AV.asSl q7.1).bind fun l9 =>
 go (.pt F.kbl Td.kl6 [(0, a1.v), (3, l9.v), (4, .int .i64 a3), (5, .int .u64 (IntKind.wrap .u64 (Int.tdiv a4 65536))), (6, .int .i64 (IntKind.wrap .i64 (a5 + 1)))]) q7.2) (
 go (.pt F.kbl Td.kiz [(0, a1.v), (3, a2.v), (4, .int .i64 (IntKind.wrap .i64 (a3 + 1)))]) h) := (ke _ h).trans (by kernel_rfl)
theorem kyj (a1 : Sl) (h : AH) : go (.fn F.kcm [a1.v]) h =
 go (.pt F.kcm Td.kkb [(0, a1.v), (3, .int .i64 (a1.len : Int))]) h := (ke _ h).trans (by kernel_rfl)
theorem kv7 (a1 : Sl) (a2 : Sl) (a3 : Sl) (a4 : Sl) (a5 : Int) (a6 : Int) (a7 : Int) (h : AH) : go (.pt F.kct Td.kii [(0, a1.v), (1, a2.v), (6, a3.v), (7, a4.v), (8, .int .i64 a5), (9, .int .u64 a6), (10, .int .u64 a7)]) h =
 cond (decide (a6 < a7)) (
 newK h (.cells [.int .u64 (IntKind.wrap .u64 (Int.tdiv (IntKind.wrap .u64 ((IntKind.wrap .u64 (a6 + a7)) + 1)) 2))] T.kf) fun h8r h8 =>
 (go (.fn F.kci [a2.v, (⟨some h8r, 1, .is 1⟩ : Sl).v]) h8).bind fun q9 =>
 ((some q9.1).bind AV.asSl).bind fun l10 =>
 (go (.fn F.kd0 [l10.v, a4.v]) q9.2).bind fun q11 =>
 ((some q11.1).bind (AV.asInt .i64)).bind fun n12 =>
 cond (decide (n12 ≤ 0)) (
 go (.pt F.kct Td.kii [(0, a1.v), (1, a2.v), (6, a3.v), (7, a4.v), (8, .int .i64 a5), (9, .int .u64 (IntKind.wrap .u64 (Int.tdiv (IntKind.wrap .u64 ((IntKind.wrap .u64 (a6 + a7)) + 1)) 2))), (10, .int .u64 a7)]) q11.2) (
 go (.pt F.kct Td.kii [(0, a1.v), (1, a2.v), (6, a3.v), (7, a4.v), (8, .int .i64 a5), (9, .int .u64 a6), (10, .int .u64 (IntKind.wrap .u64 ((IntKind.wrap .u64 (Int.tdiv (IntKind.wrap .u64 ((IntKind.wrap .u64 (a6 + a7)) + 1)) 2)) - 1)))]) q11.2)) (
 (idx a3.ref a3.len a5 1).bind fun r13 =>
 (h.puts r13 [.int .u64 a6]).bind fun h14 =>
 newK h14 (.cells [.int .u64 a6] T.kf) fun h15r h15 =>
 (go (.fn F.kci [a2.v, (⟨some h15r, 1, .is 1⟩ : Sl).v]) h15).bind fun q16 =>
 ((some q16.1).bind AV.asSl).bind fun l17 =>
 (go (.fn F.kd9 [a4.v, l17.v]) q16.2).bind fun q18 =>
 ((some q18.1).bind AV.asSl).bind fun l19 =>
 go (.pt F.kct Td.kkt [(0, a1.v), (1, a2.v), (6, a3.v), (7, l19.v), (8, .int .i64 (IntKind.wrap .i64 (a5 - 1)))]) q18.2) := (ke _ h).trans (by kernel_rfl)
theorem ks6 (a1 : Sl) (a2 : Sl) (a3 : Int) (a4 : Int) (a5 : Int) (h : AH) : go (.pt F.kca Td.kim [(0, a1.v), (4, a2.v), (5, .int .i64 a3), (6, .int .u64 a4), (7, .int .i64 a5)]) h =
 cond (decide (a5 ≥ 0)) (
 cond (decide ((IntKind.wrap .i64 (a3 + a5)) < (a1.len : Int))) (
 (idx a1.ref a1.len (IntKind.wrap .i64 (a3 + a5)) 1).bind fun r6 =>
 ((h.cell r6).bind (AV.asInt .u64)).bind fun n7 =>
 go (.pt F.kca Td.kim [(0, a1.v), (4, a2.v), (5, .int .i64 a3), (6, .int .u64 (IntKind.wrap .u64 ((IntKind.wrap .u64 (a4 * 65536)) + n7))), (7, .int .i64 (IntKind.wrap .i64 (a5 - 1)))]) h) (
 go (.pt F.kca Td.kim [(0, a1.v), (4, a2.v), (5, .int .i64 a3), (6, .int .u64 (IntKind.wrap .u64 (a4 * 65536))), (7, .int .i64 (IntKind.wrap .i64 (a5 - 1)))]) h)) (
 newK h (.cells [.int .u64 a4] T.kf) fun h8r h8 =>
 (kbj Pg T.kf ((⟨some h8r, 1, .is 1⟩ : Sl).v) h8).bind fun p10 =>
 (kx Pg a2 p10.1 p10.2 T.kf 1 h8).bind fun q9 =>
 (AV.asSl q9.1).bind fun l11 =>
 go (.pt F.kca Td.kh3 [(0, a1.v), (4, l11.v), (5, .int .i64 (IntKind.wrap .i64 (a3 + 4)))]) q9.2) := (ke _ h).trans (by kernel_rfl)
theorem k39 (a1 : Sl) (a2 : Sl) (h : AH) : go (.fn F.km4 [a1.v, a2.v]) h =
 (go (.fn F.kby [a1.v]) h).bind fun q3 =>
 ((some q3.1).bind AV.asBool).bind fun b4 =>
 (go (.fn F.kby [a2.v]) q3.2).bind fun q5 =>
 ((some q5.1).bind AV.asBool).bind fun b6 =>
 cond (!b4) (
 some (.tup [(⟨none, 0, .is 0⟩ : Sl).v, .int .i64 1], q5.2)) (
 cond (!b6) (
 some (.tup [(⟨none, 0, .is 0⟩ : Sl).v, .int .i64 1], q5.2)) (
 (go (.fn F.kbl [a1.v]) q5.2).bind fun q7 =>
 ((some q7.1).bind AV.asSl).bind fun l8 =>
 (go (.fn F.kbl [a2.v]) q7.2).bind fun q9 =>
 ((some q9.1).bind AV.asSl).bind fun l10 =>
 (go (.fn F.keg [l8.v, l10.v]) q9.2).bind fun q11 =>
 ((some q11.1).bind AV.asSl).bind fun l12 =>
 (go (.fn F.kix [l12.v]) q11.2).bind fun q13 =>
 (AV.asTup2 q13.1).bind fun p14 =>
 ((some p14.1).bind AV.asSl).bind fun l15 =>
 ((some p14.2).bind (AV.asInt .i64)).bind fun n16 =>
 some (.tup [l15.v, .int .i64 n16], q13.2))) := (ke _ h).trans (by kernel_rfl)
theorem kvj (a1 : Sl) (a2 : Sl) (h : AH) : go (.fn F.kj6 [a1.v, a2.v]) h =
 (go (.fn F.kby [a1.v]) h).bind fun q3 =>
 ((some q3.1).bind AV.asBool).bind fun b4 =>
 (go (.fn F.kby [a2.v]) q3.2).bind fun q5 =>
 ((some q5.1).bind AV.asBool).bind fun b6 =>
 cond (!b4) (
 some (.tup [(⟨none, 0, .is 0⟩ : Sl).v, .int .i64 1], q5.2)) (
 cond (!b6) (
 some (.tup [(⟨none, 0, .is 0⟩ : Sl).v, .int .i64 1], q5.2)) (
 (go (.fn F.kbl [a1.v]) q5.2).bind fun q7 =>
 ((some q7.1).bind AV.asSl).bind fun l8 =>
 (go (.fn F.kbl [a2.v]) q7.2).bind fun q9 =>
 ((some q9.1).bind AV.asSl).bind fun l10 =>
 (go (.fn F.kd0 [l8.v, l10.v]) q9.2).bind fun q11 =>
 ((some q11.1).bind (AV.asInt .i64)).bind fun n12 =>
 cond (decide (n12 < 0)) (
 some (.tup [(⟨none, 0, .is 0⟩ : Sl).v, .int .i64 2], q11.2)) (
 (go (.fn F.kd9 [l8.v, l10.v]) q11.2).bind fun q13 =>
 ((some q13.1).bind AV.asSl).bind fun l14 =>
 (go (.fn F.kix [l14.v]) q13.2).bind fun q15 =>
 (AV.asTup2 q15.1).bind fun p16 =>
 ((some p16.1).bind AV.asSl).bind fun l17 =>
 ((some p16.2).bind (AV.asInt .i64)).bind fun n18 =>
 some (.tup [l17.v, .int .i64 n18], q15.2)))) := (ke _ h).trans (by kernel_rfl)
theorem k0h (a1 : Sl) (a2 : Sl) (h : AH) : go (.fn F.kci [a1.v, a2.v]) h =
 (kbv (IntKind.wrap .i64 ((a1.len : Int) + (a2.len : Int))) (IntKind.wrap .i64 ((a1.len : Int) + (a2.len : Int))) T.kf (Pg.bytesOf T.kf) [.int .u64 0] h).bind fun q3 =>
 go (.pt F.kci Td.kkd [(0, a1.v), (1, a2.v), (5, q3.1.v), (6, .int .i64 0)]) q3.2 := (ke _ h).trans (by kernel_rfl)
theorem k4f (a1 : Sl) (h : AH) : go (.fn F.kix [a1.v]) h =
 (go (.fn F.kca [a1.v]) h).bind fun q2 =>
 (AV.asTup2 q2.1).bind fun p3 =>
 ((some p3.1).bind AV.asSl).bind fun l4 =>
 ((some p3.2).bind AV.asBool).bind fun b5 =>
 cond (!b5) (
 some (.tup [(⟨none, 0, .is 0⟩ : Sl).v, .int .i64 4], q2.2)) (
 some (.tup [l4.v, .int .i64 0], q2.2)) := (ke _ h).trans (by kernel_rfl)
theorem kv1 (a1 : Sl) (a2 : Sl) (h : AH) : go (.fn F.kd0 [a1.v, a2.v]) h =
 cond (!decide ((a1.len : Int) = (a2.len : Int))) (
 cond (decide ((a1.len : Int) < (a2.len : Int))) (
 some (.int .i64 (-1), h)) (
 some (.int .i64 1, h))) (
 go (.pt F.kd0 Td.kmb [(0, a1.v), (1, a2.v), (5, .int .i64 (IntKind.wrap .i64 ((a1.len : Int) - 1)))]) h) := (ke _ h).trans (by kernel_rfl)
theorem k06 (a1 : Bool) (a2 : Sl) (h : AH) : go (.fn F.kc9 [.agg [.bool a1, a2.v]]) h =
 newK h (.cells [.bool a1, a2.v] T.kg) fun h3r h3 =>
 ((h3.cell (h3r.add 0)).bind AV.asBool).bind fun b4 =>
 ((h3.cell (h3r.add 1)).bind AV.asSl).bind fun l5 =>
 (go (.fn F.kg7 [.agg [.bool b4, l5.v]]) h3).bind fun q6 =>
 ((some q6.1).bind AV.asBool).bind fun b7 =>
 some (.bool (!b7), q6.2) := (ke _ h).trans (by kernel_rfl)
theorem kx9 (a1 : Sl) (h : AH) : go (.fn F.kc7 [a1.v]) h =
 (go (.fn F.kes [a1.v]) h).bind fun q2 =>
 ((some q2.1).bind AV.asBool).bind fun b3 =>
 some (.bool (!b3), q2.2) := (ke _ h).trans (by kernel_rfl)
theorem kza (a1 : Int) (a2 : Int) (a3 : Int) (a4 : Int) (a5 : Int) (a6 : Int) (a7 : Int) (a8 : Int) (a9 : Int) (h : AH) : go (.pt F.kbo Td.kie [(2, .int .u64 a1), (8, .int .u64 a2), (9, .int .u64 a3), (10, .int .u64 a4), (11, .int .u64 a5), (13, .int .u64 a6), (14, .int .u64 a7), (15, .int .u64 a8), (16, .int .u64 a9)]) h =
 cond (decide (a8 ≥ 4294967296)) (
 cond (decide ((IntKind.wrap .u64 (a9 + a3)) ≥ 4294967296)) (
 cond (decide (a3 = 0)) none (
 go (.pt F.kbo Td.kf8 [(2, .int .u64 a1), (8, .int .u64 a2), (9, .int .u64 a3), (10, .int .u64 a4), (14, .int .u64 a7), (15, .int .u64 (IntKind.wrap .u64 (a8 - 1))), (16, .int .u64 (IntKind.wrap .u64 ((IntKind.wrap .u64 ((IntKind.wrap .u64 ((IntKind.wrap .u64 (a5 * 4294967296)) + a6)) - (IntKind.wrap .u64 ((IntKind.wrap .u64 (a8 - 1)) * a1)))) - (IntKind.wrap .u64 ((IntKind.wrap .u64 (Int.tdiv (IntKind.wrap .u64 ((IntKind.wrap .u64 ((IntKind.wrap .u64 (a5 * 4294967296)) + a6)) - (IntKind.wrap .u64 ((IntKind.wrap .u64 (a8 - 1)) * a1)))) a3)) * a3))))), (17, .int .u64 (IntKind.wrap .u64 ((IntKind.wrap .u64 ((IntKind.wrap .u64 (a5 * 4294967296)) + a6)) - (IntKind.wrap .u64 ((IntKind.wrap .u64 (a8 - 1)) * a1))))), (18, .int .u64 (IntKind.wrap .u64 (Int.tdiv (IntKind.wrap .u64 ((IntKind.wrap .u64 ((IntKind.wrap .u64 (a5 * 4294967296)) + a6)) - (IntKind.wrap .u64 ((IntKind.wrap .u64 (a8 - 1)) * a1)))) a3)))]) h)) (
 go (.pt F.kbo Td.kie [(2, .int .u64 a1), (8, .int .u64 a2), (9, .int .u64 a3), (10, .int .u64 a4), (11, .int .u64 a5), (13, .int .u64 a6), (14, .int .u64 a7), (15, .int .u64 (IntKind.wrap .u64 (a8 - 1))), (16, .int .u64 (IntKind.wrap .u64 (a9 + a3)))]) h)) (
 cond (decide ((IntKind.wrap .u64 (a8 * a4)) > (IntKind.wrap .u64 ((IntKind.wrap .u64 (4294967296 * a9)) + a6)))) (
 cond (decide ((IntKind.wrap .u64 (a9 + a3)) ≥ 4294967296)) (
 cond (decide (a3 = 0)) none (
 go (.pt F.kbo Td.kf8 [(2, .int .u64 a1), (8, .int .u64 a2), (9, .int .u64 a3), (10, .int .u64 a4), (14, .int .u64 a7), (15, .int .u64 (IntKind.wrap .u64 (a8 - 1))), (16, .int .u64 (IntKind.wrap .u64 ((IntKind.wrap .u64 ((IntKind.wrap .u64 ((IntKind.wrap .u64 (a5 * 4294967296)) + a6)) - (IntKind.wrap .u64 ((IntKind.wrap .u64 (a8 - 1)) * a1)))) - (IntKind.wrap .u64 ((IntKind.wrap .u64 (Int.tdiv (IntKind.wrap .u64 ((IntKind.wrap .u64 ((IntKind.wrap .u64 (a5 * 4294967296)) + a6)) - (IntKind.wrap .u64 ((IntKind.wrap .u64 (a8 - 1)) * a1)))) a3)) * a3))))), (17, .int .u64 (IntKind.wrap .u64 ((IntKind.wrap .u64 ((IntKind.wrap .u64 (a5 * 4294967296)) + a6)) - (IntKind.wrap .u64 ((IntKind.wrap .u64 (a8 - 1)) * a1))))), (18, .int .u64 (IntKind.wrap .u64 (Int.tdiv (IntKind.wrap .u64 ((IntKind.wrap .u64 ((IntKind.wrap .u64 (a5 * 4294967296)) + a6)) - (IntKind.wrap .u64 ((IntKind.wrap .u64 (a8 - 1)) * a1)))) a3)))]) h)) (
 go (.pt F.kbo Td.kie [(2, .int .u64 a1), (8, .int .u64 a2), (9, .int .u64 a3), (10, .int .u64 a4), (11, .int .u64 a5), (13, .int .u64 a6), (14, .int .u64 a7), (15, .int .u64 (IntKind.wrap .u64 (a8 - 1))), (16, .int .u64 (IntKind.wrap .u64 (a9 + a3)))]) h)) (
 cond (decide (a3 = 0)) none (
 go (.pt F.kbo Td.kf8 [(2, .int .u64 a1), (8, .int .u64 a2), (9, .int .u64 a3), (10, .int .u64 a4), (14, .int .u64 a7), (15, .int .u64 a8), (16, .int .u64 (IntKind.wrap .u64 ((IntKind.wrap .u64 ((IntKind.wrap .u64 ((IntKind.wrap .u64 (a5 * 4294967296)) + a6)) - (IntKind.wrap .u64 (a8 * a1)))) - (IntKind.wrap .u64 ((IntKind.wrap .u64 (Int.tdiv (IntKind.wrap .u64 ((IntKind.wrap .u64 ((IntKind.wrap .u64 (a5 * 4294967296)) + a6)) - (IntKind.wrap .u64 (a8 * a1)))) a3)) * a3))))), (17, .int .u64 (IntKind.wrap .u64 ((IntKind.wrap .u64 ((IntKind.wrap .u64 (a5 * 4294967296)) + a6)) - (IntKind.wrap .u64 (a8 * a1))))), (18, .int .u64 (IntKind.wrap .u64 (Int.tdiv (IntKind.wrap .u64 ((IntKind.wrap .u64 ((IntKind.wrap .u64 (a5 * 4294967296)) + a6)) - (IntKind.wrap .u64 (a8 * a1)))) a3)))]) h))) := (ke _ h).trans (by kernel_rfl)
theorem ks5 (a1 : Sl) (a2 : Int) (a3 : Int) (h : AH) : go (.pt F.khf Td.kku [(0, a1.v), (1, .func (.func F.kdb) [] []), (7, .int .i64 a2), (8, .int .i64 a3)]) h =
 cond (decide (a3 < a2)) (
 (idx a1.ref a1.len a3 3).bind fun r4 =>
 ((h.cell (r4.add 0)).bind AV.asBool).bind fun b5 =>
 ((h.cell (r4.add 1)).bind AV.asSl).bind fun l6 =>
 ((h.cell (r4.add 2)).bind AV.asSl).bind fun l7 =>
 (go (.fn F.kdb [.agg [.bool b5, l6.v, l7.v]]) h).bind fun q8 =>
 ((some q8.1).bind AV.asBool).bind fun b9 =>
 cond b9 (
 some (.int .i64 a3, q8.2)) (
 go (.pt F.khf Td.kku [(0, a1.v), (1, .func (.func F.kdb) [] []), (7, .int .i64 a2), (8, .int .i64 (IntKind.wrap .i64 (a3 + 1)))]) q8.2)) (
 some (.int .i64 (-1), h)) := (ke _ h).trans (by kernel_rfl)
theorem kti (a1 : Sl) (a2 : Int) (h : AH) : go (.pt F.kcm Td.kkb [(0, a1.v), (3, .int .i64 a2)]) h =
 cond (decide (a2 > 0)) (
 (idx a1.ref a1.len (IntKind.wrap .i64 (a2 - 1)) 1).bind fun r3 =>
 ((h.cell r3).bind (AV.asInt .u64)).bind fun n4 =>
 cond (decide (n4 = 0)) (
 go (.pt F.kcm Td.kkb [(0, a1.v), (3, .int .i64 (IntKind.wrap .i64 (a2 - 1)))]) h) (
 (cutSl a1 0 a2 1).bind fun l5 =>
 some (l5.v, h))) (
 (cutSl a1 0 a2 1).bind fun l6 =>
 some (l6.v, h)) := (ke _ h).trans (by kernel_rfl)
theorem k6m (a1 : Sl) (a2 : Sl) (h : AH) : go (.fn F.kd9 [a1.v, a2.v]) h =
 go (.pt F.kd9 Td.ki1 [(0, a1.v), (1, a2.v), (5, (⟨none, 0, .is 0⟩ : Sl).v), (6, .int .u64 0), (7, .int .i64 0)]) h := (ke _ h).trans (by kernel_rfl)
theorem kx7 (a1 : Sl) (a2 : Sl) (h : AH) : go (.fn F.keg [a1.v, a2.v]) h =
 go (.pt F.keg Td.khs [(0, a1.v), (1, a2.v), (5, (⟨none, 0, .is 0⟩ : Sl).v), (6, .int .u64 0), (7, .int .i64 0)]) h := (ke _ h).trans (by kernel_rfl)
theorem kzy (a1 : Sl) (a2 : Sl) (a3 : Sl) (a4 : Int) (h : AH) : go (.pt F.kci Td.kkd [(0, a1.v), (1, a2.v), (5, a3.v), (6, .int .i64 a4)]) h =
 cond (decide (a4 < (a1.len : Int))) (
 go (.pt F.kci Td.kk8 [(0, a1.v), (1, a2.v), (5, a3.v), (6, .int .i64 a4), (7, .int .u64 0), (8, .int .i64 0)]) h) (
 (go (.fn F.kcm [a3.v]) h).bind fun q5 =>
 ((some q5.1).bind AV.asSl).bind fun l6 =>
 some (l6.v, q5.2)) := (ke _ h).trans (by kernel_rfl)
theorem kp9 (a1 : Sl) (a2 : Sl) (a3 : Int) (h : AH) : go (.pt F.kd0 Td.kmb [(0, a1.v), (1, a2.v), (5, .int .i64 a3)]) h =
 cond (decide (a3 ≥ 0)) (
 (idx a1.ref a1.len a3 1).bind fun r4 =>
 ((h.cell r4).bind (AV.asInt .u64)).bind fun n5 =>
 (idx a2.ref a2.len a3 1).bind fun r6 =>
 ((h.cell r6).bind (AV.asInt .u64)).bind fun n7 =>
 cond (decide (n5 < n7)) (
 some (.int .i64 (-1), h)) (
 (idx a1.ref a1.len a3 1).bind fun r8 =>
 ((h.cell r8).bind (AV.asInt .u64)).bind fun n9 =>
 (idx a2.ref a2.len a3 1).bind fun r10 =>
 ((h.cell r10).bind (AV.asInt .u64)).bind fun n11 =>
 cond (decide (n9 > n11)) (
 some (.int .i64 1, h)) (
 go (.pt F.kd0 Td.kmb [(0, a1.v), (1, a2.v), (5, .int .i64 (IntKind.wrap .i64 (a3 - 1)))]) h))) (
 some (.int .i64 0, h)) := (ke _ h).trans (by kernel_rfl)
theorem kwk (a1 : Int) (a2 : Int) (a3 : Int) (a4 : Int) (a5 : Int) (a6 : Int) (a7 : Int) (a8 : Int) (a9 : Int) (h : AH) : go (.pt F.kbo Td.kf8 [(2, .int .u64 a1), (8, .int .u64 a2), (9, .int .u64 a3), (10, .int .u64 a4), (14, .int .u64 a5), (15, .int .u64 a6), (16, .int .u64 a7), (17, .int .u64 a8), (18, .int .u64 a9)]) h =
 cond (decide (a9 ≥ 4294967296)) (
 cond (decide ((IntKind.wrap .u64 (a7 + a3)) ≥ 4294967296)) (
 cond (decide (a2 < 0)) none (
 some (.tup [.int .u64 (IntKind.wrap .u64 ((IntKind.wrap .u64 (a6 * 4294967296)) + (IntKind.wrap .u64 (a9 - 1)))), .int .u64 (ishr .u64 (IntKind.wrap .u64 ((IntKind.wrap .u64 ((IntKind.wrap .u64 (a8 * 4294967296)) + a5)) - (IntKind.wrap .u64 ((IntKind.wrap .u64 (a9 - 1)) * a1)))) a2)], h))) (
 go (.pt F.kbo Td.kf8 [(2, .int .u64 a1), (8, .int .u64 a2), (9, .int .u64 a3), (10, .int .u64 a4), (14, .int .u64 a5), (15, .int .u64 a6), (16, .int .u64 (IntKind.wrap .u64 (a7 + a3))), (17, .int .u64 a8), (18, .int .u64 (IntKind.wrap .u64 (a9 - 1)))]) h)) (
 cond (decide ((IntKind.wrap .u64 (a9 * a4)) > (IntKind.wrap .u64 ((IntKind.wrap .u64 (4294967296 * a7)) + a5)))) (
 cond (decide ((IntKind.wrap .u64 (a7 + a3)) ≥ 4294967296)) (
 cond (decide (a2 < 0)) none (
 some (.tup [.int .u64 (IntKind.wrap .u64 ((IntKind.wrap .u64 (a6 * 4294967296)) + (IntKind.wrap .u64 (a9 - 1)))), .int .u64 (ishr .u64 (IntKind.wrap .u64 ((IntKind.wrap .u64 ((IntKind.wrap .u64 (a8 * 4294967296)) + a5)) - (IntKind.wrap .u64 ((IntKind.wrap .u64 (a9 - 1)) * a1)))) a2)], h))) (
 go (.pt F.kbo Td.kf8 [(2, .int .u64 a1), (8, .int .u64 a2), (9, .int .u64 a3), (10, .int .u64 a4), (14, .int .u64 a5), (15, .int .u64 a6), (16, .int .u64 (IntKind.wrap .u64 (a7 + a3))), (17, .int .u64 a8), (18, .int .u64 (IntKind.wrap .u64 (a9 - 1)))]) h)) (
 cond (decide (a2 < 0)) none (
 some (.tup [.int .u64 (IntKind.wrap .u64 ((IntKind.wrap .u64 (a6 * 4294967296)) + a9)), .int .u64 (ishr .u64 (IntKind.wrap .u64 ((IntKind.wrap .u64 ((IntKind.wrap .u64 (a8 * 4294967296)) + a5)) - (IntKind.wrap .u64 (a9 * a1)))) a2)], h)))) := (ke _ h).trans (by kernel_rfl)
theorem kzj (a1 : Bool) (a2 : Sl) (a3 : Sl) (h : AH) : go (.fn F.kdb [.agg [.bool a1, a2.v, a3.v]]) h =
 newK h (.cells [.bool a1, a2.v, a3.v] T.kj) fun h4r h4 =>
 ((h4.cell (h4r.add 0)).bind AV.asBool).bind fun b5 =>
 ((h4.cell (h4r.add 1)).bind AV.asSl).bind fun l6 =>
 ((h4.cell (h4r.add 2)).bind AV.asSl).bind fun l7 =>
 (go (.fn F.kog [.agg [.bool b5, l6.v, l7.v]]) h4).bind fun q8 =>
 ((some q8.1).bind AV.asBool).bind fun b9 =>
 some (.bool (!b9), q8.2) := (ke _ h).trans (by kernel_rfl)
theorem kqj (a1 : Sl) (a2 : Sl) (a3 : Sl) (a4 : Int) (a5 : Int) (h : AH) : go (.pt F.kd9 Td.ki1 [(0, a1.v), (1, a2.v), (5, a3.v), (6, .int .u64 a4), (7, .int .i64 a5)]) h =
 cond (decide (a5 < (a1.len : Int))) (
 (idx a1.ref a1.len a5 1).bind fun r6 =>
 ((h.cell r6).bind (AV.asInt .u64)).bind fun n7 =>
 (go (.fn F.kfu [a2.v, .int .i64 a5]) h).bind fun q8 =>
 ((some q8.1).bind (AV.asInt .u64)).bind fun n9 =>
 whenK (SameAt h q8.2 r6 1) (
 newK q8.2 (.cells [.int .u64 (Int.tmod (IntKind.wrap .u64 ((IntKind.wrap .u64 ((IntKind.wrap .u64 (65536 + n7)) - n9)) - a4)) 65536)] T.kf) fun h10r h10 =>
 (kbj Pg T.kf ((⟨some h10r, 1, .is 1⟩ : Sl).v) h10).bind fun p12 =>
 (kx Pg a3 p12.1 p12.2 T.kf 1 h10).bind fun q11 =>
 (AV.asSl q11.1).bind fun l13 =>
 go (.pt F.kd9 Td.ki1 [(0, a1.v), (1, a2.v), (5, l13.v), (6, .int .u64 (IntKind.wrap .u64 (1 - (IntKind.wrap .u64 (Int.tdiv (IntKind.wrap .u64 ((IntKind.wrap .u64 ((IntKind.wrap .u64 (65536 + n7)) - n9)) - a4)) 65536))))), (7, .int .i64 (IntKind.wrap .i64 (a5 + 1)))]) q11.2)) (
 (go (.fn F.kcm [a3.v]) h).bind fun q14 =>
 ((some q14.1).bind AV.asSl).bind fun l15 =>
 some (l15.v, q14.2)) := (ke _ h).trans (by kernel_rfl)
theorem kq2 (a1 : Sl) (a2 : Sl) (a3 : Sl) (a4 : Int) (a5 : Int) (h : AH) : go (.pt F.keg Td.khs [(0, a1.v), (1, a2.v), (5, a3.v), (6, .int .u64 a4), (7, .int .i64 a5)]) h =
 cond (decide (a5 < (a1.len : Int))) (
 (go (.fn F.kfu [a1.v, .int .i64 a5]) h).bind fun q6 =>
 ((some q6.1).bind (AV.asInt .u64)).bind fun n7 =>
 (go (.fn F.kfu [a2.v, .int .i64 a5]) q6.2).bind fun q8 =>
 ((some q8.1).bind (AV.asInt .u64)).bind fun n9 =>
 newK q8.2 (.cells [.int .u64 (Int.tmod (IntKind.wrap .u64 ((IntKind.wrap .u64 (n7 + n9)) + a4)) 65536)] T.kf) fun h10r h10 =>
 (kbj Pg T.kf ((⟨some h10r, 1, .is 1⟩ : Sl).v) h10).bind fun p12 =>
 (kx Pg a3 p12.1 p12.2 T.kf 1 h10).bind fun q11 =>
 (AV.asSl q11.1).bind fun l13 =>
 go (.pt F.keg Td.khs [(0, a1.v), (1, a2.v), (5, l13.v), (6, .int .u64 (IntKind.wrap .u64 (Int.tdiv (IntKind.wrap .u64 ((IntKind.wrap .u64 (n7 + n9)) + a4)) 65536))), (7, .int .i64 (IntKind.wrap .i64 (a5 + 1)))]) q11.2) (
 cond (decide (a5 < (a2.len : Int))) (
 (go (.fn F.kfu [a1.v, .int .i64 a5]) h).bind fun q14 =>
 ((some q14.1).bind (AV.asInt .u64)).bind fun n15 =>
 (go (.fn F.kfu [a2.v, .int .i64 a5]) q14.2).bind fun q16 =>
 ((some q16.1).bind (AV.asInt .u64)).bind fun n17 =>
 newK q16.2 (.cells [.int .u64 (Int.tmod (IntKind.wrap .u64 ((IntKind.wrap .u64 (n15 + n17)) + a4)) 65536)] T.kf) fun h18r h18 =>
 (kbj Pg T.kf ((⟨some h18r, 1, .is 1⟩ : Sl).v) h18).bind fun p20 =>
 (kx Pg a3 p20.1 p20.2 T.kf 1 h18).bind fun q19 =>
 (AV.asSl q19.1).bind fun l21 =>
 go (.pt F.keg Td.khs [(0, a1.v), (1, a2.v), (5, l21.v), (6, .int .u64 (IntKind.wrap .u64 (Int.tdiv (IntKind.wrap .u64 ((IntKind.wrap .u64 (n15 + n17)) + a4)) 65536))), (7, .int .i64 (IntKind.wrap .i64 (a5 + 1)))]) q19.2) (
 newK h (.cells [.int .u64 a4] T.kf) fun h22r h22 =>
 (kbj Pg T.kf ((⟨some h22r, 1, .is 1⟩ : Sl).v) h22).bind fun p24 =>
 (kx Pg a3 p24.1 p24.2 T.kf 1 h22).bind fun q23 =>
 (AV.asSl q23.1).bind fun l25 =>
 (go (.fn F.kcm [l25.v]) q23.2).bind fun q26 =>
 ((some q26.1).bind AV.asSl).bind fun l27 =>
 some (l27.v, q26.2))) := (ke _ h).trans (by kernel_rfl)
theorem ky7 (a1 : Sl) (a2 : Sl) (a3 : Sl) (a4 : Int) (a5 : Int) (a6 : Int) (h : AH) : go (.pt F.kci Td.kk8 [(0, a1.v), (1, a2.v), (5, a3.v), (6, .int .i64 a4), (7, .int .u64 a5), (8, .int .i64 a6)]) h =
 cond (decide (a6 < (a2.len : Int))) (
 (idx a3.ref a3.len (IntKind.wrap .i64 (a4 + a6)) 1).bind fun r7 =>
 ((h.cell r7).bind (AV.asInt .u64)).bind fun n8 =>
 (idx a1.ref a1.len a4 1).bind fun r9 =>
 ((h.cell r9).bind (AV.asInt .u64)).bind fun n10 =>
 (idx a2.ref a2.len a6 1).bind fun r11 =>
 ((h.cell r11).bind (AV.asInt .u64)).bind fun n12 =>
 (idx a3.ref a3.len (IntKind.wrap .i64 (a4 + a6)) 1).bind fun r13 =>
 (h.puts r13 [.int .u64 (Int.tmod (IntKind.wrap .u64 ((IntKind.wrap .u64 (n8 + (IntKind.wrap .u64 (n10 * n12)))) + a5)) 65536)]).bind fun h14 =>
 go (.pt F.kci Td.kk8 [(0, a1.v), (1, a2.v), (5, a3.v), (6, .int .i64 a4), (7, .int .u64 (IntKind.wrap .u64 (Int.tdiv (IntKind.wrap .u64 ((IntKind.wrap .u64 (n8 + (IntKind.wrap .u64 (n10 * n12)))) + a5)) 65536))), (8, .int .i64 (IntKind.wrap .i64 (a6 + 1)))]) h14) (
 (idx a3.ref a3.len (IntKind.wrap .i64 (a4 + (a2.len : Int))) 1).bind fun r15 =>
 (h.puts r15 [.int .u64 a5]).bind fun h16 =>
 go (.pt F.kci Td.kkd [(0, a1.v), (1, a2.v), (5, a3.v), (6, .int .i64 (IntKind.wrap .i64 (a4 + 1)))]) h16) := (ke _ h).trans (by kernel_rfl)
theorem k1r (a1 : Bool) (a2 : Sl) (a3 : Sl) (h : AH) : go (.fn F.kog [.agg [.bool a1, a2.v, a3.v]]) h =
 newK h (.cells [.bool a1, a2.v, a3.v] T.kj) fun h4r h4 =>
 ((h4.cell ((h4r.add 0).add 0)).bind AV.asBool).bind fun b5 =>
 ((h4.cell ((h4r.add 0).add 1)).bind AV.asSl).bind fun l6 =>
 (go (.fn F.kg7 [.agg [.bool b5, l6.v]]) h4).bind fun q7 =>
 ((some q7.1).bind AV.asBool).bind fun b8 =>
 cond (!b8) (
 some (.bool false, q7.2)) (
 ((q7.2.cell (h4r.add 2)).bind AV.asSl).bind fun l9 =>
 (go (.fn F.kes [l9.v]) q7.2).bind fun q10 =>
 ((some q10.1).bind AV.asBool).bind fun b11 =>
 cond (!b11) (
 some (.bool false, q10.2)) (
 ((q10.2.cell (h4r.add 2)).bind AV.asSl).bind fun l12 =>
 cond (decide ((l12.len : Int) = 0)) (
 some (.bool false, q10.2)) (
 ((q10.2.cell (h4r.add 2)).bind AV.asSl).bind fun l13 =>
 cond (decide ((l13.len : Int) > 16)) (
 some (.bool false, q10.2)) (
 ((q10.2.cell ((h4r.add 0).add 1)).bind AV.asSl).bind fun l14 =>
 cond (decide ((l14.len : Int) > 16)) (
 some (.bool false, q10.2)) (
 ((q10.2.cell ((h4r.add 0).add 1)).bind AV.asSl).bind fun l15 =>
 ((q10.2.cell (h4r.add 2)).bind AV.asSl).bind fun l16 =>
 (go (.fn F.kd5 [l15.v, l16.v]) q10.2).bind fun q17 =>
 (AV.asTup2 q17.1).bind fun p18 =>
 ((some p18.1).bind AV.asSl).bind fun l19 =>
 ((some p18.2).bind (AV.asInt .i64)).bind fun n20 =>
 newK q17.2 (.cells [.int .u64 1] T.kf) fun h21r h21 =>
 (go (.fn F.khj [l19.v, (⟨some h21r, 1, .is 1⟩ : Sl).v]) h21).bind fun q22 =>
 ((some q22.1).bind (AV.asInt .i64)).bind fun n23 =>
 some (.bool (decide (n23 = 0)), q22.2)))))) := (ke _ h).trans (by kernel_rfl)
theorem kxs (a1 : Sl) (a2 : Int) (h : AH) : go (.fn F.kfu [a1.v, .int .i64 a2]) h =
 cond (decide (a2 < (a1.len : Int))) (
 (idx a1.ref a1.len a2 1).bind fun r3 =>
 ((h.cell r3).bind (AV.asInt .u64)).bind fun n4 =>
 some (.int .u64 n4, h)) (
 some (.int .u64 0, h)) := (ke _ h).trans (by kernel_rfl)
end Go.Ab
