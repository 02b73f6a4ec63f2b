/- squeezed -/
import Derived.Test.YtpmbjekomcldmaaGreatPAbsDra
import Derived.Test.YtpmbjekomcldmaaGreatProg

set_option linter.unusedVariables false
set_option maxRecDepth 100000
namespace Go.Ab
open Go.Proofs
@[reducible] def F.kso : FuncId := 4
@[reducible] def F.kff : FuncId := 5
@[reducible] def F.ko8 : FuncId := 6
@[reducible] def F.kd8 : FuncId := 7
@[reducible] def F.kc5 : FuncId := 9
@[reducible] def F.kh6 : FuncId := 10
@[reducible] def F.kj4 : FuncId := 11
@[reducible] def F.kj8 : FuncId := 12
@[reducible] def F.kht : FuncId := 13
@[reducible] def F.klv : FuncId := 14
@[reducible] def F.kis : FuncId := 15
@[reducible] def F.ki2 : FuncId := 16
@[reducible] def F.km6 : FuncId := 17
@[reducible] def F.kmp : FuncId := 18
@[reducible] def F.koh : FuncId := 19
@[reducible] def F.kod : FuncId := 20
@[reducible] def F.kok : FuncId := 21
@[reducible] def F.kmq : FuncId := 28
@[reducible] def F.kld : FuncId := 31
@[reducible] def F.kdp : FuncId := 32
@[reducible] def F.kf2 : FuncId := 33
@[reducible] def F.kmo : FuncId := 34
@[reducible] def F.ker : FuncId := 35
@[reducible] def F.kb5 : FuncId := 36
@[reducible] def F.kc4 : FuncId := 37
@[reducible] def F.kjf : FuncId := 38
@[reducible] def F.kjp : FuncId := 39
@[reducible] def F.kke : FuncId := 40
@[reducible] def F.kky : FuncId := 41
@[reducible] def F.kkw : FuncId := 42
@[reducible] def F.kck : FuncId := 43
@[reducible] def F.kln : FuncId := 44
@[reducible] def F.khn : FuncId := 45
@[reducible] def F.kja : FuncId := 46
@[reducible] def F.kby : FuncId := 47
@[reducible] def F.kom : FuncId := 48
@[reducible] def F.kcj : FuncId := 49
@[reducible] def F.ke5 : FuncId := 50
@[reducible] def F.kow : FuncId := 51
@[reducible] def F.kbk : FuncId := 52
@[reducible] def F.kng : FuncId := 53
@[reducible] def F.klg : FuncId := 54
@[reducible] def F.kjb : FuncId := 55
@[reducible] def F.kdg : FuncId := 56
@[reducible] def F.km5 : FuncId := 57
@[reducible] def F.kc0 : FuncId := 58
@[reducible] def F.kbv : FuncId := 59
@[reducible] def F.kgp : FuncId := 60
@[reducible] def F.khi : FuncId := 66
@[reducible] def F.kfq : FuncId := 67
@[reducible] def F.kcr : FuncId := 68
@[reducible] def F.kca : FuncId := 69
@[reducible] def F.kh1 : FuncId := 76
@[reducible] def F.kce : FuncId := 77
@[reducible] def F.kf3 : FuncId := 78
@[reducible] def F.kfb : FuncId := 79
@[reducible] def F.kgf : FuncId := 80
@[reducible] def F.klt : FuncId := 81
@[reducible] def F.kpg : FuncId := 82
@[reducible] def F.kg9 : FuncId := 83
@[reducible] def F.kcs : FuncId := 84
@[reducible] def F.kje : FuncId := 85
@[reducible] def F.ki1 : FuncId := 86
@[reducible] def F.kd9 : FuncId := 87
@[reducible] def F.kpi : FuncId := 88
@[reducible] def F.kjh : FuncId := 89
@[reducible] def F.kg4 : FuncId := 90
@[reducible] def F.kqw : FuncId := 91
@[reducible] def F.krs : FuncId := 92
@[reducible] def F.kfp : FuncId := 93
@[reducible] def F.kfc : FuncId := 94
@[reducible] def F.kcw : FuncId := 95
@[reducible] def F.kkh : FuncId := 96
@[reducible] def F.ke8 : FuncId := 97
@[reducible] def F.kb1 : FuncId := 98
@[reducible] def F.kpw : FuncId := 99
@[reducible] def F.kbb : FuncId := 100
@[reducible] def F.kct : FuncId := 101
@[reducible] def F.kyu : FuncId := 109
@[reducible] def F.kkp : FuncId := 110
@[reducible] def F.kdw : FuncId := 111
@[reducible] def F.kbi : FuncId := 112
@[reducible] def F.kl8 : FuncId := 113
@[reducible] def F.kcm : FuncId := 114
@[reducible] def F.kh3 : FuncId := 115
@[reducible] def F.kig : FuncId := 116
@[reducible] def F.kde : FuncId := 117
@[reducible] def F.kwj : FuncId := 118
@[reducible] def F.kdr : FuncId := 119
@[reducible] def F.kn9 : FuncId := 120
@[reducible] def F.kbn : FuncId := 122
@[reducible] def F.kpb : FuncId := 123
@[reducible] def F.kee : FuncId := 124
@[reducible] def F.ke9 : FuncId := 125
@[reducible] def F.kc6 : FuncId := 126
@[reducible] def F.kc7 : FuncId := 127
@[reducible] def F.kgq : FuncId := 128
@[reducible] def F.kbu : FuncId := 130
@[reducible] def F.kc1 : FuncId := 131
@[reducible] def F.kjn : FuncId := 132
@[reducible] def F.kil : FuncId := 133
@[reducible] def T.unit : TypeId := 0
@[reducible] def T.func : TypeId := 1
@[reducible] def T.int : TypeId := 3
@[reducible] def T.bool : TypeId := 4
@[reducible] def T.string : TypeId := 9
@[reducible] def T.kc : TypeId := 22
@[reducible] def T.kfi : TypeId := 24
@[reducible] def T.ku : TypeId := 26
@[reducible] def T.kgs : TypeId := 34
@[reducible] def T.kbcm : TypeId := 38
@[reducible] def T.kj : TypeId := 58
@[reducible] def T.kmz : TypeId := 64
@[reducible] def T.kcd : TypeId := 84
@[reducible] noncomputable def Pg : Program := Tryz.prog
def keepTab : List (Nat × Nat × List Nat) := [(5, 2, [0, 3]), (7, 1000006, [0, 1, 2, 3, 5, 6, 7, 8, 9, 10, 11, 13, 14, 15, 4, 12, 16, 17, 18, 19, 20]), (7, 2000006, [7, 15]), (7, 3000006, [5, 6, 13, 14]), (8, 1000007, [0, 1, 2, 4, 5, 6, 3, 7, 8, 9, 10, 11, 12, 13]), (9, 4, [0, 1, 5]), (20, 1000009, [0, 1, 7, 2, 3, 4, 5, 6, 8, 9]), (20, 1000010, [0, 1, 8, 9, 2, 3, 4, 5, 6, 7, 10, 11, 12]), (20, 2000009, [7]), (20, 2000010, [8, 9]), (21, 1000004, [0, 1, 5, 2, 3, 4, 6, 7, 8, 9, 10, 11]), (22, 1000004, [0, 1, 3, 4, 2, 5, 6, 7, 8, 9, 10]), (25, 3, [0, 1, 2, 7, 8]), (29, 9, [1, 8, 9, 10, 11]), (29, 1000013, [0, 2, 7, 1, 3, 4, 5, 6, 8, 9]), (29, 1000019, [0, 1, 8, 9, 2, 3, 4, 5, 6, 7, 10, 11, 12]), (29, 2000013, [7]), (29, 2000019, [8, 9]), (31, 1000002, [0, 1, 2, 3, 4, 5, 6, 7, 8, 9, 10, 11, 12, 13, 14, 15, 16, 17, 18, 19, 21, 22, 20, 23, 24, 25]), (35, 4, [0, 1, 5, 6, 7]), (36, 3, [0, 3, 4]), (36, 7, [0, 3, 4, 5, 6]), (37, 4, [0, 10, 11, 12]), (43, 3, [0, 1, 5, 6]), (43, 7, [0, 1, 5, 6, 7, 8]), (50, 7, [1, 7, 9, 10, 12]), (50, 1000011, [0, 1, 8, 9, 2, 3, 4, 5, 6, 7, 10, 11, 12]), (50, 2000011, [8, 9]), (56, 5, [0, 4, 40]), (59, 7, [0, 2, 8, 9, 10, 44]), (59, 12, [2, 8, 9, 11, 12]), (59, 16, [2, 8, 9, 11, 12, 13, 72]), (61, 1000001, [0, 1, 2, 3, 4, 5, 6, 7, 8, 9, 10, 11, 12, 13, 14, 15, 16, 17, 18, 19, 20, 22, 23, 21, 24, 25, 26, 27, 28, 30, 31, 29, 32, 33, 34, 35, 36, 37, 38, 39, 40, 41, 42, 43, 45, 46, 44, 47, 48, 49]), (61, 1000003, [0, 1, 3, 4, 2, 5, 6, 7, 8, 9, 10, 11]), (61, 1000004, [0, 1, 2, 4, 5, 6, 3, 7, 8, 9, 10, 11, 12, 13]), (64, 6, [0, 4, 5]), (65, 6, [1, 6, 7]), (66, 6, [0, 1, 5]), (67, 4, [0, 1, 5, 6, 7]), (67, 1000006, [0, 1, 2, 3, 4, 5, 6, 9, 7, 8, 10, 11]), (68, 4, [0, 1, 6, 7, 8]), (68, 9, [0, 1, 6, 7, 8, 9, 10]), (69, 3, [0, 4, 5]), (69, 7, [0, 4, 5, 6, 7]), (79, 4, [0, 1]), (84, 2, [0, 3]), (87, 6, [0, 1, 5]), (89, 1000001, [0, 2, 7, 1, 3, 4, 5, 6, 8, 9]), (89, 2000001, [7]), (95, 6, [0, 1, 5, 6, 21, 22]), (97, 4, [0, 1, 6, 7, 8]), (98, 6, [6, 7, 8, 9, 10, 11]), (98, 10, [6, 7, 8, 9, 10, 11, 12, 13]), (98, 18, [6, 10, 15, 16, 112, 113]), (100, 4, [0, 1, 2, 7, 8, 20, 21]), (101, 4, [0, 1, 5, 6, 13, 14]), (102, 2, [0, 3]), (104, 7, [8, 9]), (112, 2, [0, 3]), (113, 1000006, [0, 1, 2, 4, 5, 8, 9, 10, 12, 13, 3, 6, 7, 11, 14, 15, 16, 17]), (113, 1000007, [0, 1, 2, 4, 5, 9, 10, 12, 13, 3, 6, 7, 8, 11, 14, 15, 16, 17, 18]), (114, 3, [1, 5, 20, 21, 22]), (114, 7, [1, 5, 6, 7, 8, 20, 21, 22, 27, 28, 29]), (117, 2, [0, 1, 2, 6, 7]), (122, 3, [0, 1, 2]), (122, 17, [2, 8, 9, 10, 11, 13, 14, 15, 16]), (122, 24, [2, 8, 9, 10, 14, 15, 16, 17, 18]), (124, 3, [1, 5, 12, 13, 14]), (125, 4, [2, 3, 4, 11, 12]), (127, 2, [0, 1, 2, 6, 12, 13]), (128, 2, [0, 3]), (130, 1, [0, 1, 6, 7, 8]), (130, 6, [0, 1, 5]), (131, 2, [0, 1, 7, 8]), (133, 2, [0, 1, 7, 8])]
noncomputable def go : Rec := run Pg (keepOf keepTab)
theorem ke (k : Key) (h : AH) : go k h = stepA Pg (keepOf keepTab) go k h := k1h _ k h
theorem kpq : Pg.underlying T.kc = some (.int .u64) := Tryz.underlying22
theorem kit : Pg.cellsOf T.kc = 1 := by kernel_rfl
theorem k73 : kdy Pg T.kc = some [.int .u64 0] := by kernel_rfl
theorem kc2 : Pg.bytesOf T.kc = 8 := by kernel_rfl
theorem kyn : Pg.underlying T.kfi = some (.struct #[{ name := "P", type := T.kc, offset := 0, embedded := false, tag := "", pkgPath := "", byteOffset := 0 }, { name := "Q", type := T.kc, offset := 1, embedded := false, tag := "", pkgPath := "", byteOffset := 8 }]) := Tryz.underlying24
theorem k27 : Pg.cellsOf T.kfi = 2 := by kernel_rfl
theorem k3q : Pg.underlying T.ku = some (.slice T.kc) := Tryz.underlying26
theorem kw3 : Pg.cellsOf T.ku = 1 := by kernel_rfl
theorem kba6 : kdy Pg T.ku = some [(⟨none, 0, .is 0⟩ : Sl).v] := by kernel_rfl
theorem kbc7 : Pg.bytesOf T.ku = 24 := by kernel_rfl
theorem kuj : Pg.underlying T.kgs = some (.array 2 T.ku) := Tryz.underlying34
theorem k4o : Pg.cellsOf T.kgs = 2 := by kernel_rfl
noncomputable def Td.koc : List Item := todoAt Tryz.f5 2
noncomputable def Td.kmw : List Item := todoAt Tryz.f9 4
noncomputable def Td.kjd : List Item := todoAt Tryz.f35 4
noncomputable def Td.kk5 : List Item := todoAt Tryz.f36 3
noncomputable def Td.kn8 : List Item := todoAt Tryz.f36 7
noncomputable def Td.knn : List Item := todoAt Tryz.f37 4
noncomputable def Td.knq : List Item := todoAt Tryz.f43 3
noncomputable def Td.kmb : List Item := todoAt Tryz.f43 7
noncomputable def Td.knh : List Item := todoAt Tryz.f50 7
noncomputable def Td.kiv : List Item := todoAt Tryz.f56 5
noncomputable def Td.ko0 : List Item := todoAt Tryz.f59 7
noncomputable def Td.ko7 : List Item := todoAt Tryz.f59 12
noncomputable def Td.kjz : List Item := todoAt Tryz.f59 16
noncomputable def Td.km3 : List Item := todoAt Tryz.f66 6
noncomputable def Td.kj7 : List Item := todoAt Tryz.f67 4
noncomputable def Td.kpj : List Item := todoAt Tryz.f68 4
noncomputable def Td.kjt : List Item := todoAt Tryz.f68 9
noncomputable def Td.kim : List Item := todoAt Tryz.f69 3
noncomputable def Td.kle : List Item := todoAt Tryz.f69 7
noncomputable def Td.kma : List Item := todoAt Tryz.f79 4
noncomputable def Td.km4 : List Item := todoAt Tryz.f84 2
noncomputable def Td.kni : List Item := todoAt Tryz.f87 6
noncomputable def Td.kge : List Item := todoAt Tryz.f95 6
noncomputable def Td.ko1 : List Item := todoAt Tryz.f97 4
noncomputable def Td.kne : List Item := todoAt Tryz.f98 6
noncomputable def Td.kmc : List Item := todoAt Tryz.f98 10
noncomputable def Td.ki3 : List Item := todoAt Tryz.f98 18
noncomputable def Td.kkg : List Item := todoAt Tryz.f100 4
noncomputable def Td.kiu : List Item := todoAt Tryz.f101 4
noncomputable def Td.kku : List Item := todoAt Tryz.f112 2
noncomputable def Td.knd : List Item := todoAt Tryz.f114 3
noncomputable def Td.ko2 : List Item := todoAt Tryz.f114 7
noncomputable def Td.khm : List Item := todoAt Tryz.f117 2
noncomputable def Td.kr7 : List Item := todoAt Tryz.f122 3
noncomputable def Td.kjs : List Item := todoAt Tryz.f122 17
noncomputable def Td.kgj : List Item := todoAt Tryz.f122 24
noncomputable def Td.kla : List Item := todoAt Tryz.f124 3
noncomputable def Td.kk3 : List Item := todoAt Tryz.f125 4
noncomputable def Td.kj6 : List Item := todoAt Tryz.f127 2
noncomputable def Td.kn1 : List Item := todoAt Tryz.f128 2
noncomputable def Td.kgk : List Item := todoAt Tryz.f130 1
noncomputable def Td.kl3 : List Item := todoAt Tryz.f130 6
noncomputable def Td.kgl : List Item := todoAt Tryz.f131 2
noncomputable def Td.kol : List Item := todoAt Tryz.f133 2
noncomputable def Fx.ktt : Func := Tryz.f77
noncomputable def Tr.ks0 : List Item := kbcz Tryz.f77 0 (.tmp 5)
noncomputable def Ta.kkd : List Item := (loopAt Tryz.f77 0).2.2.2
def lit1 : ByteArray := (⟨((List.append (List.append ([0, 1, 2, 2, 3, 3, 3, 3, 4, 4, 4, 4, 4, 4, 4, 4, 5, 5, 5, 5, 5, 5, 5, 5, 5, 5, 5, 5, 5, 5, 5, 5, 6, 6, 6, 6, 6, 6, 6, 6, 6, 6, 6, 6, 6, 6, 6, 6, 6, 6, 6, 6, 6, 6, 6, 6, 6, 6, 6, 6, 6, 6, 6, 6] : List UInt8) ([7, 7, 7, 7, 7, 7, 7, 7, 7, 7, 7, 7, 7, 7, 7, 7, 7, 7, 7, 7, 7, 7, 7, 7, 7, 7, 7, 7, 7, 7, 7, 7, 7, 7, 7, 7, 7, 7, 7, 7, 7, 7, 7, 7, 7, 7, 7, 7, 7, 7, 7, 7, 7, 7, 7, 7, 7, 7, 7, 7, 7, 7, 7, 7] : List UInt8)) (List.append ([8, 8, 8, 8, 8, 8, 8, 8, 8, 8, 8, 8, 8, 8, 8, 8, 8, 8, 8, 8, 8, 8, 8, 8, 8, 8, 8, 8, 8, 8, 8, 8, 8, 8, 8, 8, 8, 8, 8, 8, 8, 8, 8, 8, 8, 8, 8, 8, 8, 8, 8, 8, 8, 8, 8, 8, 8, 8, 8, 8, 8, 8, 8, 8] : List UInt8) ([8, 8, 8, 8, 8, 8, 8, 8, 8, 8, 8, 8, 8, 8, 8, 8, 8, 8, 8, 8, 8, 8, 8, 8, 8, 8, 8, 8, 8, 8, 8, 8, 8, 8, 8, 8, 8, 8, 8, 8, 8, 8, 8, 8, 8, 8, 8, 8, 8, 8, 8, 8, 8, 8, 8, 8, 8, 8, 8, 8, 8, 8, 8, 8] : List UInt8)))).toArray⟩ : ByteArray)
theorem k8z (args : List AV) (h : AH) : callF Pg go F.kbu args h = go (.fn F.kbu args) h := by kernel_rfl
theorem kba8 (a1 : Int) (a2 : Int) (a3 : Sl) (a4 : Sl) (a5 : Sl) (a6 : Sl) (h : AH) : go (.fn F.kso [.agg [.int .u64 a1, .int .u64 a2], .agg [a3.v, a4.v], .agg [a5.v, a6.v]]) h =
 newK h (.cells [.int .u64 a1, .int .u64 a2] T.kfi) fun h7r h7 =>
 newK h7 (.cells [a3.v, a4.v] T.kgs) fun h8r h8 =>
 newK h8 (.cells [a5.v, a6.v] T.kgs) fun h9r h9 =>
 (idx (some h8r) 2 0 1).bind fun r10 =>
 ((h9.cell r10).bind AV.asSl).bind fun l11 =>
 (idx (some h8r) 2 1 1).bind fun r12 =>
 ((h9.cell r12).bind AV.asSl).bind fun l13 =>
 (idx (some h9r) 2 0 1).bind fun r14 =>
 ((h9.cell r14).bind AV.asSl).bind fun l15 =>
 (idx (some h9r) 2 1 1).bind fun r16 =>
 ((h9.cell r16).bind AV.asSl).bind fun l17 =>
 newK h9 (.cells [l11.v, l13.v, l15.v, l17.v] T.ku) fun h18r h18 =>
 (go (.fn F.kff [(⟨some h18r, 4, .is 4⟩ : Sl).v]) h18).bind fun q19 =>
 ((some q19.1).bind AV.asBool).bind fun b20 =>
 cond (!b20) (
 some (.bool true, q19.2)) (
 (go (.fn F.ko8 []) q19.2).bind fun q21 =>
 ((some q21.1).bind AV.asBool).bind fun b22 =>
 ((q21.2.cell (h7r.add 0)).bind (AV.asInt .u64)).bind fun n23 =>
 ((q21.2.cell (h7r.add 1)).bind (AV.asInt .u64)).bind fun n24 =>
 (go (.fn F.kh6 [.agg [.int .u64 n23, .int .u64 n24]]) q21.2).bind fun q25 =>
 (AV.asTup2 q25.1).bind fun p26 =>
 ((some p26.1).bind AV.asSl).bind fun l27 =>
 ((some p26.2).bind (AV.asInt .i64)).bind fun n28 =>
 cond (!b22) (
 cond b22 (
 some (.bool (decide (n28 = 9)), q25.2)) (
 some (.bool false, q25.2))) (
 cond (!decide (n28 = 0)) (
 cond b22 (
 some (.bool (decide (n28 = 9)), q25.2)) (
 some (.bool false, q25.2))) (
 ((q25.2.cell (h7r.add 0)).bind (AV.asInt .u64)).bind fun n29 =>
 ((q25.2.cell (h7r.add 1)).bind (AV.asInt .u64)).bind fun n30 =>
 (go (.fn F.kd8 [.agg [.int .u64 n29, .int .u64 n30], l11.v]) q25.2).bind fun q31 =>
 (AV.asTup2 q31.1).bind fun p32 =>
 ((some p32.1).bind AV.asSl).bind fun l33 =>
 ((some p32.2).bind (AV.asInt .i64)).bind fun n34 =>
 ((q31.2.cell (h7r.add 0)).bind (AV.asInt .u64)).bind fun n35 =>
 ((q31.2.cell (h7r.add 1)).bind (AV.asInt .u64)).bind fun n36 =>
 (go (.fn F.kd8 [.agg [.int .u64 n35, .int .u64 n36], l13.v]) q31.2).bind fun q37 =>
 (AV.asTup2 q37.1).bind fun p38 =>
 ((some p38.1).bind AV.asSl).bind fun l39 =>
 ((some p38.2).bind (AV.asInt .i64)).bind fun n40 =>
 cond (!decide (n34 = 0)) (
 cond (decide (n34 = 0)) (
 cond (decide (n40 = 0)) (
 some (.bool true, q37.2)) (
 some (.bool (decide (n40 = 11)), q37.2))) (
 cond (decide (n34 = 11)) (
 cond (decide (n40 = 0)) (
 some (.bool true, q37.2)) (
 some (.bool (decide (n40 = 11)), q37.2))) (
 some (.bool false, q37.2)))) (
 cond (!decide (n40 = 0)) (
 cond (decide (n34 = 0)) (
 cond (decide (n40 = 0)) (
 some (.bool true, q37.2)) (
 some (.bool (decide (n40 = 11)), q37.2))) (
 cond (decide (n34 = 11)) (
 cond (decide (n40 = 0)) (
 some (.bool true, q37.2)) (
 some (.bool (decide (n40 = 11)), q37.2))) (
 some (.bool false, q37.2)))) (
 (go (.fn F.kj4 [l33.v, l39.v]) q37.2).bind fun q41 =>
 (AV.asTup2 q41.1).bind fun p42 =>
 ((some p42.1).bind AV.asSl).bind fun l43 =>
 ((some p42.2).bind (AV.asInt .i64)).bind fun n44 =>
 (go (.fn F.kj8 [l27.v, l11.v, l13.v]) q41.2).bind fun q45 =>
 (AV.asTup2 q45.1).bind fun p46 =>
 ((some p46.1).bind AV.asSl).bind fun l47 =>
 ((some p46.2).bind (AV.asInt .i64)).bind fun n48 =>
 ((q45.2.cell (h7r.add 0)).bind (AV.asInt .u64)).bind fun n49 =>
 ((q45.2.cell (h7r.add 1)).bind (AV.asInt .u64)).bind fun n50 =>
 (go (.fn F.kd8 [.agg [.int .u64 n49, .int .u64 n50], l47.v]) q45.2).bind fun q51 =>
 (AV.asTup2 q51.1).bind fun p52 =>
 ((some p52.1).bind AV.asSl).bind fun l53 =>
 ((some p52.2).bind (AV.asInt .i64)).bind fun n54 =>
 (go (.fn F.kht [l43.v, l27.v]) q51.2).bind fun q55 =>
 ((some q55.1).bind AV.asSl).bind fun l56 =>
 (go (.fn F.kc5 [l53.v, l56.v]) q55.2).bind fun q57 =>
 ((some q57.1).bind AV.asBool).bind fun b58 =>
 cond (!decide (n48 = 0)) (
 some (.bool false, q57.2)) (
 cond (!decide (n54 = 0)) (
 some (.bool false, q57.2)) (
 cond (!b58) (
 some (.bool false, q57.2)) (
 (go (.fn F.klv [l27.v, l11.v, l17.v]) q57.2).bind fun q59 =>
 (AV.asTup2 q59.1).bind fun p60 =>
 ((some p60.1).bind AV.asSl).bind fun l61 =>
 ((some p60.2).bind (AV.asInt .i64)).bind fun n62 =>
 cond (decide (n62 = 0)) (
 ((q59.2.cell (h7r.add 0)).bind (AV.asInt .u64)).bind fun n63 =>
 ((q59.2.cell (h7r.add 1)).bind (AV.asInt .u64)).bind fun n64 =>
 (go (.fn F.kd8 [.agg [.int .u64 n63, .int .u64 n64], l61.v]) q59.2).bind fun q65 =>
 (AV.asTup2 q65.1).bind fun p66 =>
 ((some p66.1).bind AV.asSl).bind fun l67 =>
 ((some p66.2).bind (AV.asInt .i64)).bind fun n68 =>
 (go (.fn F.kc5 [l67.v, l33.v]) q65.2).bind fun q69 =>
 ((some q69.1).bind AV.asBool).bind fun b70 =>
 cond (!decide (n68 = 0)) (
 some (.bool false, q69.2)) (
 cond (!b70) (
 some (.bool false, q69.2)) (
 (go (.fn F.kis [l27.v, l11.v, l15.v]) q69.2).bind fun q71 =>
 (AV.asTup2 q71.1).bind fun p72 =>
 ((some p72.1).bind AV.asSl).bind fun l73 =>
 ((some p72.2).bind (AV.asInt .i64)).bind fun n74 =>
 (go (.fn F.ki2 [l27.v, l11.v, l15.v]) q71.2).bind fun q75 =>
 (AV.asTup2 q75.1).bind fun p76 =>
 ((some p76.1).bind AV.asSl).bind fun l77 =>
 ((some p76.2).bind (AV.asInt .i64)).bind fun n78 =>
 cond (!decide (n74 = n78)) (
 cond (decide (n74 = n78)) (
 some (.bool (decide (n74 = 10)), q75.2)) (
 some (.bool false, q75.2))) (
 cond (!decide (n74 = 0)) (
 cond (decide (n74 = n78)) (
 some (.bool (decide (n74 = 10)), q75.2)) (
 some (.bool false, q75.2))) (
 (go (.fn F.kj4 [l33.v, l15.v]) q75.2).bind fun q79 =>
 (AV.asTup2 q79.1).bind fun p80 =>
 ((some p80.1).bind AV.asSl).bind fun l81 =>
 ((some p80.2).bind (AV.asInt .i64)).bind fun n82 =>
 (go (.fn F.km6 [l33.v, l15.v]) q79.2).bind fun q83 =>
 (AV.asTup2 q83.1).bind fun p84 =>
 ((some p84.1).bind AV.asSl).bind fun l85 =>
 ((some p84.2).bind (AV.asInt .i64)).bind fun n86 =>
 ((q83.2.cell (h7r.add 0)).bind (AV.asInt .u64)).bind fun n87 =>
 ((q83.2.cell (h7r.add 1)).bind (AV.asInt .u64)).bind fun n88 =>
 (go (.fn F.kd8 [.agg [.int .u64 n87, .int .u64 n88], l73.v]) q83.2).bind fun q89 =>
 (AV.asTup2 q89.1).bind fun p90 =>
 ((some p90.1).bind AV.asSl).bind fun l91 =>
 ((some p90.2).bind (AV.asInt .i64)).bind fun n92 =>
 ((q89.2.cell (h7r.add 0)).bind (AV.asInt .u64)).bind fun n93 =>
 ((q89.2.cell (h7r.add 1)).bind (AV.asInt .u64)).bind fun n94 =>
 (go (.fn F.kd8 [.agg [.int .u64 n93, .int .u64 n94], l77.v]) q89.2).bind fun q95 =>
 (AV.asTup2 q95.1).bind fun p96 =>
 ((some p96.1).bind AV.asSl).bind fun l97 =>
 ((some p96.2).bind (AV.asInt .i64)).bind fun n98 =>
 (go (.fn F.kht [l81.v, l27.v]) q95.2).bind fun q99 =>
 ((some q99.1).bind AV.asSl).bind fun l100 =>
 (go (.fn F.kc5 [l91.v, l100.v]) q99.2).bind fun q101 =>
 ((some q101.1).bind AV.asBool).bind fun b102 =>
 (go (.fn F.kht [l85.v, l27.v]) q101.2).bind fun q103 =>
 ((some q103.1).bind AV.asSl).bind fun l104 =>
 (go (.fn F.kc5 [l97.v, l104.v]) q103.2).bind fun q105 =>
 ((some q105.1).bind AV.asBool).bind fun b106 =>
 cond (decide (n92 = 0)) (
 cond (decide (n98 = 0)) (
 cond b102 (
 some (.bool b106, q105.2)) (
 some (.bool false, q105.2))) (
 some (.bool false, q105.2))) (
 some (.bool false, q105.2))))))) (
 (go (.fn F.kis [l27.v, l11.v, l15.v]) q59.2).bind fun q107 =>
 (AV.asTup2 q107.1).bind fun p108 =>
 ((some p108.1).bind AV.asSl).bind fun l109 =>
 ((some p108.2).bind (AV.asInt .i64)).bind fun n110 =>
 (go (.fn F.ki2 [l27.v, l11.v, l15.v]) q107.2).bind fun q111 =>
 (AV.asTup2 q111.1).bind fun p112 =>
 ((some p112.1).bind AV.asSl).bind fun l113 =>
 ((some p112.2).bind (AV.asInt .i64)).bind fun n114 =>
 cond (!decide (n110 = n114)) (
 cond (decide (n110 = n114)) (
 some (.bool (decide (n110 = 10)), q111.2)) (
 some (.bool false, q111.2))) (
 cond (!decide (n110 = 0)) (
 cond (decide (n110 = n114)) (
 some (.bool (decide (n110 = 10)), q111.2)) (
 some (.bool false, q111.2))) (
 (go (.fn F.kj4 [l33.v, l15.v]) q111.2).bind fun q115 =>
 (AV.asTup2 q115.1).bind fun p116 =>
 ((some p116.1).bind AV.asSl).bind fun l117 =>
 ((some p116.2).bind (AV.asInt .i64)).bind fun n118 =>
 (go (.fn F.km6 [l33.v, l15.v]) q115.2).bind fun q119 =>
 (AV.asTup2 q119.1).bind fun p120 =>
 ((some p120.1).bind AV.asSl).bind fun l121 =>
 ((some p120.2).bind (AV.asInt .i64)).bind fun n122 =>
 ((q119.2.cell (h7r.add 0)).bind (AV.asInt .u64)).bind fun n123 =>
 ((q119.2.cell (h7r.add 1)).bind (AV.asInt .u64)).bind fun n124 =>
 (go (.fn F.kd8 [.agg [.int .u64 n123, .int .u64 n124], l109.v]) q119.2).bind fun q125 =>
 (AV.asTup2 q125.1).bind fun p126 =>
 ((some p126.1).bind AV.asSl).bind fun l127 =>
 ((some p126.2).bind (AV.asInt .i64)).bind fun n128 =>
 ((q125.2.cell (h7r.add 0)).bind (AV.asInt .u64)).bind fun n129 =>
 ((q125.2.cell (h7r.add 1)).bind (AV.asInt .u64)).bind fun n130 =>
 (go (.fn F.kd8 [.agg [.int .u64 n129, .int .u64 n130], l113.v]) q125.2).bind fun q131 =>
 (AV.asTup2 q131.1).bind fun p132 =>
 ((some p132.1).bind AV.asSl).bind fun l133 =>
 ((some p132.2).bind (AV.asInt .i64)).bind fun n134 =>
 (go (.fn F.kht [l117.v, l27.v]) q131.2).bind fun q135 =>
 ((some q135.1).bind AV.asSl).bind fun l136 =>
 (go (.fn F.kc5 [l127.v, l136.v]) q135.2).bind fun q137 =>
 ((some q137.1).bind AV.asBool).bind fun b138 =>
 (go (.fn F.kht [l121.v, l27.v]) q137.2).bind fun q139 =>
 ((some q139.1).bind AV.asSl).bind fun l140 =>
 (go (.fn F.kc5 [l133.v, l140.v]) q139.2).bind fun q141 =>
 ((some q141.1).bind AV.asBool).bind fun b142 =>
 cond (decide (n128 = 0)) (
 cond (decide (n134 = 0)) (
 cond b138 (
 some (.bool b142, q141.2)) (
 some (.bool false, q141.2))) (
 some (.bool false, q141.2))) (
 some (.bool false, q141.2))))))))))))) := (ke _ h).trans (by kernel_rfl)
theorem kba9 (a1 : Sl) (a2 : Sl) (a3 : Ref) (h : AH) : go (.fn F.kl8 [a1.v, a2.v, .ptr (some a3)]) h =
 cond (decide ((a1.len : Int) < 24)) (
 (go (.fn F.kcm [a1.v, a2.v]) h).bind fun q4 =>
 ((some q4.1).bind AV.asSl).bind fun l5 =>
 some (l5.v, q4.2)) (
 cond (decide ((a2.len : Int) < 24)) (
 (go (.fn F.kcm [a1.v, a2.v]) h).bind fun q6 =>
 ((some q6.1).bind AV.asSl).bind fun l7 =>
 some (l7.v, q6.2)) (
 newK h (.cells [.int .i64 0] T.int) fun h8r h8 =>
 (h8.puts h8r [.int .i64 (IntKind.wrap .i64 (Int.tdiv (IntKind.wrap .i64 ((imax (a1.len : Int) (a2.len : Int)) + 1)) 2))]).bind fun h9 =>
 (h9.cell a3).bind fun v10 =>
 (h9.cell a3).bind fun v11 =>
 (go (.fn F.kh3 [a1.v, .ptr (some h8r)]) h9).bind fun q12 =>
 ((some q12.1).bind AV.asSl).bind fun l13 =>
 whenK (SameAt h9 q12.2 a3 1) (
 whenK (SameAt h9 q12.2 a3 1) (
 (go (.fn F.kh3 [a2.v, .ptr (some h8r)]) q12.2).bind fun q14 =>
 ((some q14.1).bind AV.asSl).bind fun l15 =>
 whenK (SameAt q12.2 q14.2 a3 1) (
 whenK (SameAt q12.2 q14.2 a3 1) (
 (callV Pg go v10 [l13.v, l15.v] q14.2).bind fun q16 =>
 ((some q16.1).bind AV.asSl).bind fun l17 =>
 whenK (SameAt q14.2 q16.2 a3 1) (
 (go (.fn F.kig [a1.v, .ptr (some h8r)]) q16.2).bind fun q18 =>
 ((some q18.1).bind AV.asSl).bind fun l19 =>
 whenK (SameAt q16.2 q18.2 a3 1) (
 (go (.fn F.kig [a2.v, .ptr (some h8r)]) q18.2).bind fun q20 =>
 ((some q20.1).bind AV.asSl).bind fun l21 =>
 whenK (SameAt q18.2 q20.2 a3 1) (
 (callV Pg go v11 [l19.v, l21.v] q20.2).bind fun q22 =>
 ((some q22.1).bind AV.asSl).bind fun l23 =>
 (q22.2.cell a3).bind fun v24 =>
 (go (.fn F.kh3 [a1.v, .ptr (some h8r)]) q22.2).bind fun q25 =>
 ((some q25.1).bind AV.asSl).bind fun l26 =>
 whenK (SameAt q22.2 q25.2 a3 1) (
 (go (.fn F.kig [a1.v, .ptr (some h8r)]) q25.2).bind fun q27 =>
 ((some q27.1).bind AV.asSl).bind fun l28 =>
 whenK (SameAt q25.2 q27.2 a3 1) (
 (go (.fn F.kcw [l26.v, l28.v]) q27.2).bind fun q29 =>
 ((some q29.1).bind AV.asSl).bind fun l30 =>
 whenK (SameAt q27.2 q29.2 a3 1) (
 (go (.fn F.kbi [l30.v]) q29.2).bind fun q31 =>
 ((some q31.1).bind AV.asSl).bind fun l32 =>
 whenK (SameAt q29.2 q31.2 a3 1) (
 (go (.fn F.kh3 [a2.v, .ptr (some h8r)]) q31.2).bind fun q33 =>
 ((some q33.1).bind AV.asSl).bind fun l34 =>
 whenK (SameAt q31.2 q33.2 a3 1) (
 (go (.fn F.kig [a2.v, .ptr (some h8r)]) q33.2).bind fun q35 =>
 ((some q35.1).bind AV.asSl).bind fun l36 =>
 whenK (SameAt q33.2 q35.2 a3 1) (
 (go (.fn F.kcw [l34.v, l36.v]) q35.2).bind fun q37 =>
 ((some q37.1).bind AV.asSl).bind fun l38 =>
 whenK (SameAt q35.2 q37.2 a3 1) (
 (go (.fn F.kbi [l38.v]) q37.2).bind fun q39 =>
 ((some q39.1).bind AV.asSl).bind fun l40 =>
 whenK (SameAt q37.2 q39.2 a3 1) (
 (callV Pg go v24 [l32.v, l40.v] q39.2).bind fun q41 =>
 ((some q41.1).bind AV.asSl).bind fun l42 =>
 (go (.fn F.kct [l42.v, l17.v]) q41.2).bind fun q43 =>
 ((some q43.1).bind AV.asSl).bind fun l44 =>
 (go (.fn F.kbi [l44.v]) q43.2).bind fun q45 =>
 ((some q45.1).bind AV.asSl).bind fun l46 =>
 (go (.fn F.kct [l46.v, l23.v]) q45.2).bind fun q47 =>
 ((some q47.1).bind AV.asSl).bind fun l48 =>
 (go (.fn F.kbi [l48.v]) q47.2).bind fun q49 =>
 ((some q49.1).bind AV.asSl).bind fun l50 =>
 (kbs (IntKind.wrap .i64 ((IntKind.wrap .i64 ((a1.len : Int) + (a2.len : Int))) + 1)) (IntKind.wrap .i64 ((IntKind.wrap .i64 ((a1.len : Int) + (a2.len : Int))) + 1)) T.kc (Pg.bytesOf T.kc) [.int .u64 0] q49.2).bind fun q51 =>
 (copyH l17 q51.1 1 q51.2).bind fun h52 =>
 ((h52.cell h8r).bind (AV.asInt .i64)).bind fun n53 =>
 (go (.fn F.kde [q51.1.v, l50.v, .int .i64 n53]) h52).bind fun q54 =>
 (AV.asTup0 q54.1).bind fun _ =>
 ((q54.2.cell h8r).bind (AV.asInt .i64)).bind fun n55 =>
 (go (.fn F.kde [q51.1.v, l23.v, .int .i64 (IntKind.wrap .i64 (2 * n55))]) q54.2).bind fun q56 =>
 (AV.asTup0 q56.1).bind fun _ =>
 (go (.fn F.kbi [q51.1.v]) q56.2).bind fun q57 =>
 ((some q57.1).bind AV.asSl).bind fun l58 =>
 some (l58.v, q57.2)))))))))))))))))) := (ke _ h).trans (by kernel_rfl)
theorem k4q (a1 : Nat) (a2 : Ref) (h : AH) : go (.fn F.kbu [.func (.yield a1) [] [], .ptr (some a2)]) h =
 newK h (.cells [.int .u64 2, .int .u64 3] T.kc) fun h3r h3 =>
 go (.pt F.kbu Td.kgk [(0, .func (.yield a1) [] []), (1, .ptr (some a2)), (6, (⟨some h3r, 2, .is 2⟩ : Sl).v), (7, .int .i64 2), (8, .int .i64 0)]) h3 := (ke _ h).trans (by kernel_rfl)
theorem k87 (a1 : Sl) (h : AH) : go (.fn F.kff [a1.v]) h =
 go (.pt F.kff Td.koc [(0, a1.v), (3, .int .i64 0)]) h := (ke _ h).trans (by kernel_rfl)
theorem kbdv  (h : AH) : go (.fn F.ko8 []) h =
 newK h (.cells [.int .u64 17947] T.kc) fun h1r h1 =>
 newK h1 (.cells [.int .u64 5] T.kc) fun h2r h2 =>
 newK h2 (.cells [.int .u64 1] T.kc) fun h3r h3 =>
 (go (.fn F.kmp [(⟨some h1r, 1, .is 1⟩ : Sl).v, (⟨some h2r, 1, .is 1⟩ : Sl).v, (⟨some h3r, 1, .is 1⟩ : Sl).v]) h3).bind fun q4 =>
 (AV.asTup2 q4.1).bind fun p5 =>
 ((some p5.1).bind AV.asSl).bind fun l6 =>
 ((some p5.2).bind (AV.asInt .i64)).bind fun n7 =>
 cond (decide (n7 = 0)) (
 cond (decide ((l6.len : Int) = 1)) (
 (idx l6.ref l6.len 0 1).bind fun r8 =>
 ((q4.2.cell r8).bind (AV.asInt .u64)).bind fun n9 =>
 some (.bool (decide (n9 = 89736)), q4.2)) (
 some (.bool false, q4.2))) (
 some (.bool false, q4.2)) := (ke _ h).trans (by kernel_rfl)
theorem kbe4 (a1 : Int) (a2 : Int) (a3 : Sl) (h : AH) : go (.fn F.kd8 [.agg [.int .u64 a1, .int .u64 a2], a3.v]) h =
 newK h (.cells [.int .u64 a1, .int .u64 a2] T.kfi) fun h4r h4 =>
 ((h4.cell (h4r.add 0)).bind (AV.asInt .u64)).bind fun n5 =>
 ((h4.cell (h4r.add 1)).bind (AV.asInt .u64)).bind fun n6 =>
 (go (.fn F.kh6 [.agg [.int .u64 n5, .int .u64 n6]]) h4).bind fun q7 =>
 (AV.asTup2 q7.1).bind fun p8 =>
 ((some p8.1).bind AV.asSl).bind fun l9 =>
 ((some p8.2).bind (AV.asInt .i64)).bind fun n10 =>
 cond (!decide (n10 = 0)) (
 some (.tup [(⟨none, 0, .is 0⟩ : Sl).v, .int .i64 n10], q7.2)) (
 (go (.fn F.koh [l9.v, a3.v]) q7.2).bind fun q11 =>
 ((some q11.1).bind AV.asBool).bind fun b12 =>
 cond (!b12) (
 some (.tup [(⟨none, 0, .is 0⟩ : Sl).v, .int .i64 11], q11.2)) (
 ((q11.2.cell (h4r.add 0)).bind (AV.asInt .u64)).bind fun n13 =>
 ((q11.2.cell (h4r.add 1)).bind (AV.asInt .u64)).bind fun n14 =>
 newK q11.2 (.cells [.int .u64 n13] T.kc) fun h15r h15 =>
 newK h15 (.cells [.int .u64 n14] T.kc) fun h16r h16 =>
 ((h16.cell (h4r.add 0)).bind (AV.asInt .u64)).bind fun n17 =>
 ((h16.cell (h4r.add 0)).bind (AV.asInt .u64)).bind fun n18 =>
 ((h16.cell (h4r.add 1)).bind (AV.asInt .u64)).bind fun n19 =>
 ((h16.cell (h4r.add 1)).bind (AV.asInt .u64)).bind fun n20 =>
 (go (.fn F.kok [a3.v, l9.v, .int .u64 n17]) h16).bind fun q21 =>
 ((some q21.1).bind AV.asSl).bind fun l22 =>
 whenK (SameAt h16 q21.2 (h4r.add 1) 1) (
 whenK (SameAt h16 q21.2 (h4r.add 1) 1) (
 whenK (SameAt h16 q21.2 (h4r.add 0) 1) (
 whenK (SameAt h16 q21.2 h16r 0) (
 whenK (SameAt h16 q21.2 h15r 0) (
 (go (.fn F.kok [a3.v, l9.v, .int .u64 n19]) q21.2).bind fun q23 =>
 ((some q23.1).bind AV.asSl).bind fun l24 =>
 whenK (SameAt q21.2 q23.2 (h4r.add 1) 1) (
 whenK (SameAt q21.2 q23.2 (h4r.add 0) 1) (
 whenK (SameAt q21.2 q23.2 h16r 0) (
 whenK (SameAt q21.2 q23.2 h15r 0) (
 (go (.fn F.kod [l22.v, (⟨some h15r, 1, .is 1⟩ : Sl).v, l24.v, (⟨some h16r, 1, .is 1⟩ : Sl).v]) q23.2).bind fun q25 =>
 (AV.asTup2 q25.1).bind fun p26 =>
 ((some p26.1).bind AV.asSl).bind fun l27 =>
 ((some p26.2).bind (AV.asInt .i64)).bind fun n28 =>
 whenK (([some (.int .u64 n20 : AV), some (.int .u64 n18 : AV)] : List (Option AV)) = [some (.int .u64 n14 : AV), some (.int .u64 n13 : AV)]) (
 some (.tup [l27.v, .int .i64 n28], q25.2))))))))))))) := (ke _ h).trans (by kernel_rfl)
theorem kbel (a1 : Sl) (a2 : Sl) (h : AH) : go (.fn F.kc5 [a1.v, a2.v]) h =
 cond (!decide ((a1.len : Int) = (a2.len : Int))) (
 some (.bool false, h)) (
 go (.pt F.kc5 Td.kmw [(0, a1.v), (1, a2.v), (5, .int .i64 0)]) h) := (ke _ h).trans (by kernel_rfl)
theorem kz7 (a1 : Int) (a2 : Int) (h : AH) : go (.fn F.kh6 [.agg [.int .u64 a1, .int .u64 a2]]) h =
 newK h (.cells [.int .u64 a1, .int .u64 a2] T.kfi) fun h3r h3 =>
 ((h3.cell (h3r.add 0)).bind (AV.asInt .u64)).bind fun n4 =>
 ((h3.cell (h3r.add 1)).bind (AV.asInt .u64)).bind fun n5 =>
 (go (.fn F.kld [.agg [.int .u64 n4, .int .u64 n5]]) h3).bind fun q6 =>
 ((some q6.1).bind (AV.asInt .i64)).bind fun n7 =>
 cond (!decide (n7 = 0)) (
 some (.tup [(⟨none, 0, .is 0⟩ : Sl).v, .int .i64 n7], q6.2)) (
 ((q6.2.cell (h3r.add 0)).bind (AV.asInt .u64)).bind fun n8 =>
 newK q6.2 (.cells [.int .u64 n8] T.kc) fun h9r h9 =>
 ((h9.cell (h3r.add 1)).bind (AV.asInt .u64)).bind fun n10 =>
 newK h9 (.cells [.int .u64 n10] T.kc) fun h11r h11 =>
 (go (.fn F.kdp [(⟨some h9r, 1, .is 1⟩ : Sl).v, (⟨some h11r, 1, .is 1⟩ : Sl).v]) h11).bind fun q12 =>
 (AV.asTup2 q12.1).bind fun p13 =>
 ((some p13.1).bind AV.asSl).bind fun l14 =>
 ((some p13.2).bind (AV.asInt .i64)).bind fun n15 =>
 some (.tup [l14.v, .int .i64 n15], q12.2)) := (ke _ h).trans (by kernel_rfl)
theorem k8f (a1 : Sl) (a2 : Sl) (h : AH) : go (.fn F.kj4 [a1.v, a2.v]) h =
 (go (.fn F.kf2 [a1.v]) h).bind fun q3 =>
 ((some q3.1).bind AV.asBool).bind fun b4 =>
 (go (.fn F.kf2 [a2.v]) q3.2).bind fun q5 =>
 ((some q5.1).bind AV.asBool).bind fun b6 =>
 cond (!b4) (
 some (.tup [(⟨none, 0, .is 0⟩ : Sl).v, .int .i64 1], q5.2)) (
 cond (!b6) (
 some (.tup [(⟨none, 0, .is 0⟩ : Sl).v, .int .i64 1], q5.2)) (
 (go (.fn F.kb5 [a1.v]) q5.2).bind fun q7 =>
 ((some q7.1).bind AV.asSl).bind fun l8 =>
 (go (.fn F.kb5 [a2.v]) q7.2).bind fun q9 =>
 ((some q9.1).bind AV.asSl).bind fun l10 =>
 (go (.fn F.ker [l8.v, l10.v]) q9.2).bind fun q11 =>
 ((some q11.1).bind AV.asSl).bind fun l12 =>
 (go (.fn F.kmo [l12.v]) q11.2).bind fun q13 =>
 (AV.asTup2 q13.1).bind fun p14 =>
 ((some p14.1).bind AV.asSl).bind fun l15 =>
 ((some p14.2).bind (AV.asInt .i64)).bind fun n16 =>
 some (.tup [l15.v, .int .i64 n16], q13.2))) := (ke _ h).trans (by kernel_rfl)
theorem k1i (a1 : Sl) (a2 : Sl) (a3 : Sl) (h : AH) : go (.fn F.kj8 [a1.v, a2.v, a3.v]) h =
 newK h (.cells [a2.v, a3.v] T.ku) fun h4r h4 =>
 (go (.fn F.kc4 [a1.v, (⟨some h4r, 2, .is 2⟩ : Sl).v]) h4).bind fun q5 =>
 ((some q5.1).bind (AV.asInt .i64)).bind fun n6 =>
 cond (!decide (n6 = 0)) (
 some (.tup [(⟨none, 0, .is 0⟩ : Sl).v, .int .i64 n6], q5.2)) (
 (go (.fn F.kjf [a1.v, a2.v, a3.v]) q5.2).bind fun q7 =>
 ((some q7.1).bind AV.asSl).bind fun l8 =>
 some (.tup [l8.v, .int .i64 0], q7.2)) := (ke _ h).trans (by kernel_rfl)
theorem k6y (a1 : Sl) (a2 : Sl) (h : AH) : go (.fn F.kht [a1.v, a2.v]) h =
 (go (.fn F.kmq [a1.v, a2.v]) h).bind fun q3 =>
 (AV.asTup3 q3.1).bind fun p4 =>
 ((some p4.1).bind AV.asSl).bind fun l5 =>
 ((some p4.2.1).bind AV.asSl).bind fun l6 =>
 ((some p4.2.2).bind (AV.asInt .i64)).bind fun n7 =>
 some (l6.v, q3.2) := (ke _ h).trans (by kernel_rfl)
theorem k8r (a1 : Sl) (a2 : Sl) (a3 : Sl) (h : AH) : go (.fn F.klv [a1.v, a2.v, a3.v]) h =
 newK h (.cells [a2.v] T.ku) fun h4r h4 =>
 (go (.fn F.kc4 [a1.v, (⟨some h4r, 1, .is 1⟩ : Sl).v]) h4).bind fun q5 =>
 ((some q5.1).bind (AV.asInt .i64)).bind fun n6 =>
 cond (!decide (n6 = 0)) (
 some (.tup [(⟨none, 0, .is 0⟩ : Sl).v, .int .i64 n6], q5.2)) (
 (go (.fn F.kjp [a3.v, a1.v, a1.v]) q5.2).bind fun q7 =>
 ((some q7.1).bind AV.asBool).bind fun b8 =>
 cond (!b8) (
 some (.tup [(⟨none, 0, .is 0⟩ : Sl).v, .int .i64 1], q7.2)) (
 (go (.fn F.kke [a1.v, a3.v, a1.v]) q7.2).bind fun q9 =>
 ((some q9.1).bind AV.asSl).bind fun l10 =>
 (go (.fn F.kjf [a1.v, a2.v, l10.v]) q9.2).bind fun q11 =>
 ((some q11.1).bind AV.asSl).bind fun l12 =>
 some (.tup [l12.v, .int .i64 0], q11.2))) := (ke _ h).trans (by kernel_rfl)
theorem kbco (a1 : Sl) (a2 : Sl) (a3 : Sl) (h : AH) : go (.fn F.kis [a1.v, a2.v, a3.v]) h =
 newK h (.cells [a2.v] T.ku) fun h4r h4 =>
 (go (.fn F.kc4 [a1.v, (⟨some h4r, 1, .is 1⟩ : Sl).v]) h4).bind fun q5 =>
 ((some q5.1).bind (AV.asInt .i64)).bind fun n6 =>
 cond (!decide (n6 = 0)) (
 some (.tup [(⟨none, 0, .is 0⟩ : Sl).v, .int .i64 n6], q5.2)) (
 (go (.fn F.kky [a1.v, a3.v]) q5.2).bind fun q7 =>
 ((some q7.1).bind AV.asBool).bind fun b8 =>
 cond (!b8) (
 some (.tup [(⟨none, 0, .is 0⟩ : Sl).v, .int .i64 10], q7.2)) (
 (go (.fn F.kkw [a1.v, a3.v]) q7.2).bind fun q9 =>
 ((some q9.1).bind AV.asSl).bind fun l10 =>
 (go (.fn F.kjf [a1.v, a2.v, l10.v]) q9.2).bind fun q11 =>
 ((some q11.1).bind AV.asSl).bind fun l12 =>
 some (.tup [l12.v, .int .i64 0], q11.2))) := (ke _ h).trans (by kernel_rfl)
theorem kbb1 (a1 : Sl) (a2 : Sl) (a3 : Sl) (h : AH) : go (.fn F.ki2 [a1.v, a2.v, a3.v]) h =
 newK h (.cells [a2.v] T.ku) fun h4r h4 =>
 (go (.fn F.kc4 [a1.v, (⟨some h4r, 1, .is 1⟩ : Sl).v]) h4).bind fun q5 =>
 ((some q5.1).bind (AV.asInt .i64)).bind fun n6 =>
 cond (!decide (n6 = 0)) (
 some (.tup [(⟨none, 0, .is 0⟩ : Sl).v, .int .i64 n6], q5.2)) (
 (go (.fn F.kky [a1.v, a3.v]) q5.2).bind fun q7 =>
 ((some q7.1).bind AV.asBool).bind fun b8 =>
 cond (!b8) (
 some (.tup [(⟨none, 0, .is 0⟩ : Sl).v, .int .i64 10], q7.2)) (
 (go (.fn F.kke [a1.v, a2.v, a3.v]) q7.2).bind fun q9 =>
 ((some q9.1).bind AV.asSl).bind fun l10 =>
 some (.tup [l10.v, .int .i64 0], q9.2))) := (ke _ h).trans (by kernel_rfl)
theorem k6u (a1 : Sl) (a2 : Sl) (h : AH) : go (.fn F.km6 [a1.v, a2.v]) h =
 (go (.fn F.kf2 [a1.v]) h).bind fun q3 =>
 ((some q3.1).bind AV.asBool).bind fun b4 =>
 (go (.fn F.kf2 [a2.v]) q3.2).bind fun q5 =>
 ((some q5.1).bind AV.asBool).bind fun b6 =>
 cond (!b4) (
 some (.tup [(⟨none, 0, .is 0⟩ : Sl).v, .int .i64 1], q5.2)) (
 cond (!b6) (
 some (.tup [(⟨none, 0, .is 0⟩ : Sl).v, .int .i64 1], q5.2)) (
 (go (.fn F.kb5 [a1.v]) q5.2).bind fun q7 =>
 ((some q7.1).bind AV.asSl).bind fun l8 =>
 (go (.fn F.kb5 [a2.v]) q7.2).bind fun q9 =>
 ((some q9.1).bind AV.asSl).bind fun l10 =>
 (go (.fn F.kck [l8.v, l10.v]) q9.2).bind fun q11 =>
 ((some q11.1).bind AV.asSl).bind fun l12 =>
 (go (.fn F.kmo [l12.v]) q11.2).bind fun q13 =>
 (AV.asTup2 q13.1).bind fun p14 =>
 ((some p14.1).bind AV.asSl).bind fun l15 =>
 ((some p14.2).bind (AV.asInt .i64)).bind fun n16 =>
 some (.tup [l15.v, .int .i64 n16], q13.2))) := (ke _ h).trans (by kernel_rfl)
theorem k7y (a1 : Sl) (a2 : Sl) (h : AH) : go (.fn F.kcm [a1.v, a2.v]) h =
 (kbs (IntKind.wrap .i64 ((a1.len : Int) + (a2.len : Int))) (IntKind.wrap .i64 ((a1.len : Int) + (a2.len : Int))) T.kc (Pg.bytesOf T.kc) [.int .u64 0] h).bind fun q3 =>
 go (.pt F.kcm Td.knd [(1, a2.v), (5, q3.1.v), (20, a1.v), (21, .int .i64 (a1.len : Int)), (22, .int .i64 0)]) q3.2 := (ke _ h).trans (by kernel_rfl)
theorem k9q (a1 : Sl) (a2 : Ref) (h : AH) : go (.fn F.kh3 [a1.v, .ptr (some a2)]) h =
 ((h.cell a2).bind (AV.asInt .i64)).bind fun n3 =>
 (cutSl a1 0 (imin n3 (a1.len : Int)) 1).bind fun l4 =>
 (go (.fn F.kbi [l4.v]) h).bind fun q5 =>
 ((some q5.1).bind AV.asSl).bind fun l6 =>
 some (l6.v, q5.2) := (ke _ h).trans (by kernel_rfl)
theorem k0v (a1 : Sl) (a2 : Ref) (h : AH) : go (.fn F.kig [a1.v, .ptr (some a2)]) h =
 ((h.cell a2).bind (AV.asInt .i64)).bind fun n3 =>
 (cutSl a1 (imin n3 (a1.len : Int)) (a1.len : Int) 1).bind fun l4 =>
 some (l4.v, h) := (ke _ h).trans (by kernel_rfl)
theorem k0m (a1 : Sl) (a2 : Sl) (h : AH) : go (.fn F.kcw [a1.v, a2.v]) h =
 cond (decide ((a1.len : Int) < (a2.len : Int))) (
 (kbs (IntKind.wrap .i64 ((a2.len : Int) + 1)) (IntKind.wrap .i64 ((a2.len : Int) + 1)) T.kc (Pg.bytesOf T.kc) [.int .u64 0] h).bind fun q3 =>
 go (.pt F.kcw Td.kge [(0, a2.v), (1, a1.v), (5, q3.1.v), (6, .int .u64 0), (21, .int .i64 (a2.len : Int)), (22, .int .i64 0)]) q3.2) (
 (kbs (IntKind.wrap .i64 ((a1.len : Int) + 1)) (IntKind.wrap .i64 ((a1.len : Int) + 1)) T.kc (Pg.bytesOf T.kc) [.int .u64 0] h).bind fun q4 =>
 go (.pt F.kcw Td.kge [(0, a1.v), (1, a2.v), (5, q4.1.v), (6, .int .u64 0), (21, .int .i64 (a1.len : Int)), (22, .int .i64 0)]) q4.2) := (ke _ h).trans (by kernel_rfl)
theorem ksr (a1 : Sl) (h : AH) : go (.fn F.kbi [a1.v]) h =
 go (.pt F.kbi Td.kku [(0, a1.v), (3, .int .i64 (a1.len : Int))]) h := (ke _ h).trans (by kernel_rfl)
theorem k6z (a1 : Sl) (a2 : Sl) (h : AH) : go (.fn F.kct [a1.v, a2.v]) h =
 (kbs (a1.len : Int) (a1.len : Int) T.kc (Pg.bytesOf T.kc) [.int .u64 0] h).bind fun q3 =>
 go (.pt F.kct Td.kiu [(0, a1.v), (1, a2.v), (5, q3.1.v), (6, .int .u64 0), (13, .int .i64 (a1.len : Int)), (14, .int .i64 0)]) q3.2 := (ke _ h).trans (by kernel_rfl)
theorem kbcg (a1 : Sl) (a2 : Sl) (a3 : Int) (h : AH) : go (.fn F.kde [a1.v, a2.v, .int .i64 a3]) h =
 go (.pt F.kde Td.khm [(0, a1.v), (1, a2.v), (2, .int .i64 a3), (6, .int .u64 0), (7, .int .i64 a3)]) h := (ke _ h).trans (by kernel_rfl)
theorem kp0 (a1 : Nat) (a2 : Ref) (a3 : Sl) (a4 : Int) (a5 : Int) (h : AH) : go (.pt F.kbu Td.kgk [(0, .func (.yield a1) [] []), (1, .ptr (some a2)), (6, a3.v), (7, .int .i64 a4), (8, .int .i64 a5)]) h =
 cond (decide (a5 < a4)) (
 (idx a3.ref a3.len a5 1).bind fun r6 =>
 ((h.cell r6).bind (AV.asInt .u64)).bind fun n7 =>
 ((h.cell a2).bind (AV.asInt .u64)).bind fun n8 =>
 cond (decide ((IntKind.wrap .u64 (n7 * n7)) > n8)) (
 some (.tup [], h)) (
 (go (.round a1 [.int .u64 n7]) h).bind fun q9 =>
 ((some q9.1).bind AV.asBool).bind fun b10 =>
 cond (!b10) (
 some (.tup [], q9.2)) (
 go (.pt F.kbu Td.kgk [(0, .func (.yield a1) [] []), (1, .ptr (some a2)), (6, a3.v), (7, .int .i64 a4), (8, .int .i64 (IntKind.wrap .i64 (a5 + 1)))]) q9.2))) (
 go (.pt F.kbu Td.kl3 [(0, .func (.yield a1) [] []), (1, .ptr (some a2)), (5, .int .u64 5)]) h) := (ke _ h).trans (by kernel_rfl)
theorem kbac (a1 : Sl) (a2 : Int) (h : AH) : go (.pt F.kff Td.koc [(0, a1.v), (3, .int .i64 a2)]) h =
 cond (decide (a2 < (a1.len : Int))) (
 (idx a1.ref a1.len a2 1).bind fun r3 =>
 ((h.cell r3).bind AV.asSl).bind fun l4 =>
 cond (decide ((l4.len : Int) > 20)) (
 some (.bool false, h)) (
 go (.pt F.kff Td.koc [(0, a1.v), (3, .int .i64 (IntKind.wrap .i64 (a2 + 1)))]) h)) (
 some (.bool true, h)) := (ke _ h).trans (by kernel_rfl)
theorem kbbg (a1 : Sl) (a2 : Sl) (a3 : Sl) (h : AH) : go (.fn F.kmp [a1.v, a2.v, a3.v]) h =
 (go (.fn F.kln [a1.v]) h).bind fun q4 =>
 ((some q4.1).bind AV.asBool).bind fun b5 =>
 cond (!b5) (
 some (.tup [(⟨none, 0, .is 0⟩ : Sl).v, .int .i64 1], q4.2)) (
 (go (.fn F.kky [a1.v, a2.v]) q4.2).bind fun q6 =>
 ((some q6.1).bind AV.asBool).bind fun b7 =>
 cond (!b7) (
 some (.tup [(⟨none, 0, .is 0⟩ : Sl).v, .int .i64 10], q6.2)) (
 (go (.fn F.kjp [a3.v, a1.v, a1.v]) q6.2).bind fun q8 =>
 ((some q8.1).bind AV.asBool).bind fun b9 =>
 cond (!b9) (
 some (.tup [(⟨none, 0, .is 0⟩ : Sl).v, .int .i64 1], q8.2)) (
 (go (.fn F.kkw [a1.v, a2.v]) q8.2).bind fun q10 =>
 ((some q10.1).bind AV.asSl).bind fun l11 =>
 (go (.fn F.kke [a1.v, a3.v, a1.v]) q10.2).bind fun q12 =>
 ((some q12.1).bind AV.asSl).bind fun l13 =>
 (go (.fn F.kjf [a1.v, l11.v, l13.v]) q12.2).bind fun q14 =>
 ((some q14.1).bind AV.asSl).bind fun l15 =>
 some (.tup [l15.v, .int .i64 0], q14.2)))) := (ke _ h).trans (by kernel_rfl)
theorem k7x (a1 : Sl) (a2 : Sl) (h : AH) : go (.fn F.koh [a1.v, a2.v]) h =
 (go (.fn F.kln [a1.v]) h).bind fun q3 =>
 ((some q3.1).bind AV.asBool).bind fun b4 =>
 cond b4 (
 (go (.fn F.khn [a1.v]) q3.2).bind fun q5 =>
 ((some q5.1).bind AV.asSl).bind fun l6 =>
 (go (.fn F.kjp [a2.v, a1.v, l6.v]) q5.2).bind fun q7 =>
 ((some q7.1).bind AV.asBool).bind fun b8 =>
 some (.bool b8, q7.2)) (
 some (.bool false, q3.2)) := (ke _ h).trans (by kernel_rfl)
theorem k9t (a1 : Sl) (a2 : Sl) (a3 : Int) (h : AH) : go (.fn F.kok [a1.v, a2.v, .int .u64 a3]) h =
 newK h (.cells [.int .u64 a3] T.kc) fun h4r h4 =>
 ((h4.cell h4r).bind (AV.asInt .u64)).bind fun n5 =>
 newK h4 (.cells [.int .u64 n5] T.kc) fun h6r h6 =>
 newK h6 (.cells [(⟨none, 0, .is 0⟩ : Sl).v] T.ku) fun h7r h7 =>
 (h7.puts h7r [(⟨some h6r, 1, .is 1⟩ : Sl).v]).bind fun h8 =>
 ((h8.cell h7r).bind AV.asSl).bind fun l9 =>
 (go (.fn F.khn [l9.v]) h8).bind fun q10 =>
 ((some q10.1).bind AV.asSl).bind fun l11 =>
 (go (.fn F.kdg [l11.v]) q10.2).bind fun q12 =>
 (AV.asTup2 q12.1).bind fun p13 =>
 ((some p13.1).bind AV.asPtr).bind fun p14 =>
 ((some p13.2).bind (AV.asInt .i64)).bind fun n15 =>
 newK q12.2 (.cells [.ptr none] T.kmz) fun h16r h16 =>
 (h16.puts h16r [.ptr p14]).bind fun h17 =>
 ((h17.cell h7r).bind AV.asSl).bind fun l18 =>
 newK h17 (.cells [.int .u64 1] T.kc) fun h19r h19 =>
 whenK (SameAt h17 h19 h7r 1) (
 (go (.fn F.kkw [a2.v, (⟨some h19r, 1, .is 1⟩ : Sl).v]) h19).bind fun q20 =>
 ((some q20.1).bind AV.asSl).bind fun l21 =>
 whenK (SameAt h19 q20.2 h7r 1) (
 (go (.fn F.km5 [l21.v, .ptr (some h7r), .ptr (some h16r), .ptr (some h4r)]) q20.2).bind fun q22 =>
 ((some q22.1).bind AV.asSl).bind fun l23 =>
 whenK (SameAt q20.2 q22.2 h7r 1) (
 (go (.fn F.ke5 [l23.v, l18.v]) q22.2).bind fun q24 =>
 (AV.asTup2 q24.1).bind fun p25 =>
 ((some p25.1).bind AV.asSl).bind fun l26 =>
 ((some p25.2).bind (AV.asInt .i64)).bind fun n27 =>
 (go (.fn F.km5 [a1.v, .ptr (some h7r), .ptr (some h16r), .ptr (some h4r)]) q24.2).bind fun q28 =>
 ((some q28.1).bind AV.asSl).bind fun l29 =>
 (go (.fn F.kdp [l29.v, l26.v]) q28.2).bind fun q30 =>
 (AV.asTup2 q30.1).bind fun p31 =>
 ((some p31.1).bind AV.asSl).bind fun l32 =>
 ((some p31.2).bind (AV.asInt .i64)).bind fun n33 =>
 ((q30.2.cell h7r).bind AV.asSl).bind fun l34 =>
 (go (.fn F.kc0 [l32.v, l34.v]) q30.2).bind fun q35 =>
 (AV.asTup3 q35.1).bind fun p36 =>
 ((some p36.1).bind AV.asSl).bind fun l37 =>
 ((some p36.2.1).bind AV.asSl).bind fun l38 =>
 ((some p36.2.2).bind (AV.asInt .i64)).bind fun n39 =>
 some (l38.v, q35.2)))) := (ke _ h).trans (by kernel_rfl)
theorem k5u (a1 : Sl) (a2 : Sl) (a3 : Sl) (a4 : Sl) (h : AH) : go (.fn F.kod [a1.v, a2.v, a3.v, a4.v]) h =
 (go (.fn F.kja [a1.v]) h).bind fun q5 =>
 ((some q5.1).bind AV.asBool).bind fun b6 =>
 cond b6 (
 some (.tup [(⟨none, 0, .is 0⟩ : Sl).v, .int .i64 1], q5.2)) (
 (go (.fn F.kja [a3.v]) q5.2).bind fun q7 =>
 ((some q7.1).bind AV.asBool).bind fun b8 =>
 cond b8 (
 some (.tup [(⟨none, 0, .is 0⟩ : Sl).v, .int .i64 1], q7.2)) (
 (go (.fn F.kja [a2.v]) q7.2).bind fun q9 =>
 ((some q9.1).bind AV.asBool).bind fun b10 =>
 cond b10 (
 some (.tup [(⟨none, 0, .is 0⟩ : Sl).v, .int .i64 1], q9.2)) (
 (go (.fn F.kja [a4.v]) q9.2).bind fun q11 =>
 ((some q11.1).bind AV.asBool).bind fun b12 =>
 cond b12 (
 some (.tup [(⟨none, 0, .is 0⟩ : Sl).v, .int .i64 1], q11.2)) (
 (go (.fn F.kom [a2.v]) q11.2).bind fun q13 =>
 ((some q13.1).bind AV.asBool).bind fun b14 =>
 cond b14 (
 some (.tup [(⟨none, 0, .is 0⟩ : Sl).v, .int .i64 1], q13.2)) (
 (go (.fn F.kom [a4.v]) q13.2).bind fun q15 =>
 ((some q15.1).bind AV.asBool).bind fun b16 =>
 cond b16 (
 some (.tup [(⟨none, 0, .is 0⟩ : Sl).v, .int .i64 1], q15.2)) (
 (go (.fn F.kcj [a1.v, a2.v]) q15.2).bind fun q17 =>
 ((some q17.1).bind (AV.asInt .i64)).bind fun n18 =>
 cond (decide (n18 ≥ 0)) (
 some (.tup [(⟨none, 0, .is 0⟩ : Sl).v, .int .i64 1], q17.2)) (
 (go (.fn F.kcj [a3.v, a4.v]) q17.2).bind fun q19 =>
 ((some q19.1).bind (AV.asInt .i64)).bind fun n20 =>
 cond (decide (n20 ≥ 0)) (
 some (.tup [(⟨none, 0, .is 0⟩ : Sl).v, .int .i64 1], q19.2)) (
 (go (.fn F.ke5 [a2.v, a4.v]) q19.2).bind fun q21 =>
 (AV.asTup2 q21.1).bind fun p22 =>
 ((some p22.1).bind AV.asSl).bind fun l23 =>
 ((some p22.2).bind (AV.asInt .i64)).bind fun n24 =>
 cond (!decide (n24 = 0)) (
 some (.tup [(⟨none, 0, .is 0⟩ : Sl).v, .int .i64 n24], q21.2)) (
 (go (.fn F.kbk [.bool false, a3.v]) q21.2).bind fun q25 =>
 (AV.asAgg q25.1).bind fun cs26 =>
 cond (Nat.beq cs26.length 2) (
 ((cs26[0]?).bind AV.asBool).bind fun b27 =>
 ((cs26[1]?).bind AV.asSl).bind fun l28 =>
 (go (.fn F.kbk [.bool false, a1.v]) q25.2).bind fun q29 =>
 (AV.asAgg q29.1).bind fun cs30 =>
 cond (Nat.beq cs30.length 2) (
 ((cs30[0]?).bind AV.asBool).bind fun b31 =>
 ((cs30[1]?).bind AV.asSl).bind fun l32 =>
 (go (.fn F.kow [.agg [.bool b27, l28.v], .agg [.bool b31, l32.v]]) q29.2).bind fun q33 =>
 (AV.asTup2 q33.1).bind fun p34 =>
 (AV.asAgg p34.1).bind fun cs35 =>
 cond (Nat.beq cs35.length 2) (
 ((cs35[0]?).bind AV.asBool).bind fun b36 =>
 ((cs35[1]?).bind AV.asSl).bind fun l37 =>
 ((some p34.2).bind (AV.asInt .i64)).bind fun n38 =>
 newK q33.2 (.cells [.bool false, (⟨none, 0, .is 0⟩ : Sl).v] T.kj) fun h39r h39 =>
 (h39.puts h39r [.bool b36, l37.v]).bind fun h40 =>
 newK h40 (.cells [.bool false, (⟨none, 0, .is 0⟩ : Sl).v] T.kj) fun h41r h41 =>
 ((h41.cell (h39r.add 0)).bind AV.asBool).bind fun b42 =>
 ((h41.cell (h39r.add 1)).bind AV.asSl).bind fun l43 =>
 (go (.fn F.kbk [.bool false, l23.v]) h41).bind fun q44 =>
 (AV.asAgg q44.1).bind fun cs45 =>
 cond (Nat.beq cs45.length 2) (
 ((cs45[0]?).bind AV.asBool).bind fun b46 =>
 ((cs45[1]?).bind AV.asSl).bind fun l47 =>
 whenK (SameAt h41 q44.2 h39r 2) (
 whenK (SameAt h41 q44.2 h41r 0) (
 (go (.fn F.kng [.agg [.bool b42, l43.v], .agg [.bool b46, l47.v]]) q44.2).bind fun q48 =>
 (AV.asTup2 q48.1).bind fun p49 =>
 (AV.asAgg p49.1).bind fun cs50 =>
 cond (Nat.beq cs50.length 2) (
 ((cs50[0]?).bind AV.asBool).bind fun b51 =>
 ((cs50[1]?).bind AV.asSl).bind fun l52 =>
 ((some p49.2).bind (AV.asInt .i64)).bind fun n53 =>
 whenK (SameAt q44.2 q48.2 h41r 0) (
 (q48.2.puts h41r [.bool b51, l52.v]).bind fun h54 =>
 newK h54 (.cells [.bool false, (⟨none, 0, .is 0⟩ : Sl).v] T.kj) fun h55r h55 =>
 newK h55 (.cells [.bool false, (⟨none, 0, .is 0⟩ : Sl).v] T.kj) fun h56r h56 =>
 ((h56.cell (h41r.add 0)).bind AV.asBool).bind fun b57 =>
 ((h56.cell (h41r.add 1)).bind AV.asSl).bind fun l58 =>
 (go (.fn F.kbk [.bool false, a4.v]) h56).bind fun q59 =>
 (AV.asAgg q59.1).bind fun cs60 =>
 cond (Nat.beq cs60.length 2) (
 ((cs60[0]?).bind AV.asBool).bind fun b61 =>
 ((cs60[1]?).bind AV.asSl).bind fun l62 =>
 whenK (SameAt h56 q59.2 h41r 2) (
 whenK (SameAt h56 q59.2 h56r 0) (
 whenK (SameAt h56 q59.2 h55r 0) (
 (go (.fn F.klg [.agg [.bool b57, l58.v], .agg [.bool b61, l62.v]]) q59.2).bind fun q63 =>
 (AV.asTup3 q63.1).bind fun p64 =>
 (AV.asAgg p64.1).bind fun cs65 =>
 cond (Nat.beq cs65.length 2) (
 ((cs65[0]?).bind AV.asBool).bind fun b66 =>
 ((cs65[1]?).bind AV.asSl).bind fun l67 =>
 (AV.asAgg p64.2.1).bind fun cs68 =>
 cond (Nat.beq cs68.length 2) (
 ((cs68[0]?).bind AV.asBool).bind fun b69 =>
 ((cs68[1]?).bind AV.asSl).bind fun l70 =>
 ((some p64.2.2).bind (AV.asInt .i64)).bind fun n71 =>
 whenK (SameAt q59.2 q63.2 h56r 0) (
 whenK (SameAt q59.2 q63.2 h55r 0) (
 (q63.2.puts h55r [.bool b66, l67.v]).bind fun h72 =>
 (h72.puts h56r [.bool b69, l70.v]).bind fun h73 =>
 ((h73.cell (h56r.add 1)).bind AV.asSl).bind fun l74 =>
 (go (.fn F.kdp [a2.v, l74.v]) h73).bind fun q75 =>
 (AV.asTup2 q75.1).bind fun p76 =>
 ((some p76.1).bind AV.asSl).bind fun l77 =>
 ((some p76.2).bind (AV.asInt .i64)).bind fun n78 =>
 (go (.fn F.kjb [l77.v, a1.v]) q75.2).bind fun q79 =>
 (AV.asTup2 q79.1).bind fun p80 =>
 ((some p80.1).bind AV.asSl).bind fun l81 =>
 ((some p80.2).bind (AV.asInt .i64)).bind fun n82 =>
 some (.tup [l81.v, .int .i64 n82], q79.2)))) none) none)))) none)) none))) none) none) none) none))))))))) := (ke _ h).trans (by kernel_rfl)
theorem k09 (a1 : Sl) (a2 : Sl) (h : AH) : go (.fn F.kmq [a1.v, a2.v]) h =
 (go (.fn F.kf2 [a1.v]) h).bind fun q3 =>
 ((some q3.1).bind AV.asBool).bind fun b4 =>
 (go (.fn F.kf2 [a2.v]) q3.2).bind fun q5 =>
 ((some q5.1).bind AV.asBool).bind fun b6 =>
 cond (!b4) (
 some (.tup [(⟨none, 0, .is 0⟩ : Sl).v, (⟨none, 0, .is 0⟩ : Sl).v, .int .i64 1], q5.2)) (
 cond (!b6) (
 some (.tup [(⟨none, 0, .is 0⟩ : Sl).v, (⟨none, 0, .is 0⟩ : Sl).v, .int .i64 1], q5.2)) (
 cond (decide ((a2.len : Int) = 0)) (
 some (.tup [(⟨none, 0, .is 0⟩ : Sl).v, (⟨none, 0, .is 0⟩ : Sl).v, .int .i64 3], q5.2)) (
 (go (.fn F.kb5 [a1.v]) q5.2).bind fun q7 =>
 ((some q7.1).bind AV.asSl).bind fun l8 =>
 (go (.fn F.kb5 [a2.v]) q7.2).bind fun q9 =>
 ((some q9.1).bind AV.asSl).bind fun l10 =>
 (go (.fn F.kcr [l8.v, l10.v]) q9.2).bind fun q11 =>
 (AV.asTup2 q11.1).bind fun p12 =>
 ((some p12.1).bind AV.asSl).bind fun l13 =>
 ((some p12.2).bind AV.asSl).bind fun l14 =>
 (go (.fn F.kca [l13.v]) q11.2).bind fun q15 =>
 (AV.asTup2 q15.1).bind fun p16 =>
 ((some p16.1).bind AV.asSl).bind fun l17 =>
 ((some p16.2).bind AV.asBool).bind fun b18 =>
 (go (.fn F.kca [l14.v]) q15.2).bind fun q19 =>
 (AV.asTup2 q19.1).bind fun p20 =>
 ((some p20.1).bind AV.asSl).bind fun l21 =>
 ((some p20.2).bind AV.asBool).bind fun b22 =>
 some (.tup [l17.v, l21.v, .int .i64 0], q19.2)))) := (ke _ h).trans (by kernel_rfl)
theorem kuf (a1 : Sl) (a2 : Sl) (a3 : Int) (h : AH) : go (.pt F.kc5 Td.kmw [(0, a1.v), (1, a2.v), (5, .int .i64 a3)]) h =
 cond (decide (a3 < (a1.len : Int))) (
 (idx a1.ref a1.len a3 1).bind fun r4 =>
 ((h.cell r4).bind (AV.asInt .u64)).bind fun n5 =>
 (idx a2.ref a2.len a3 1).bind fun r6 =>
 ((h.cell r6).bind (AV.asInt .u64)).bind fun n7 =>
 cond (!decide (n5 = n7)) (
 some (.bool false, h)) (
 go (.pt F.kc5 Td.kmw [(0, a1.v), (1, a2.v), (5, .int .i64 (IntKind.wrap .i64 (a3 + 1)))]) h)) (
 some (.bool true, h)) := (ke _ h).trans (by kernel_rfl)
theorem k3c (a1 : Int) (a2 : Int) (h : AH) : go (.fn F.kld [.agg [.int .u64 a1, .int .u64 a2]]) h =
 newK h (.cells [.int .u64 a1, .int .u64 a2] T.kfi) fun h3r h3 =>
 ((h3.cell (h3r.add 0)).bind (AV.asInt .u64)).bind fun n4 =>
 (go (.fn F.kh1 [.int .u64 n4]) h3).bind fun q5 =>
 ((some q5.1).bind AV.asBool).bind fun b6 =>
 cond b6 (
 some (.int .i64 9, q5.2)) (
 ((q5.2.cell (h3r.add 1)).bind (AV.asInt .u64)).bind fun n7 =>
 (go (.fn F.kh1 [.int .u64 n7]) q5.2).bind fun q8 =>
 ((some q8.1).bind AV.asBool).bind fun b9 =>
 cond b9 (
 some (.int .i64 9, q8.2)) (
 ((q8.2.cell (h3r.add 0)).bind (AV.asInt .u64)).bind fun n10 =>
 ((q8.2.cell (h3r.add 1)).bind (AV.asInt .u64)).bind fun n11 =>
 cond (decide (n10 = n11)) (
 some (.int .i64 9, q8.2)) (
 ((q8.2.cell (h3r.add 0)).bind (AV.asInt .u64)).bind fun n12 =>
 ((q8.2.cell (h3r.add 1)).bind (AV.asInt .u64)).bind fun n13 =>
 (go (.fn F.kf3 [.int .u64 n12]) q8.2).bind fun q14 =>
 ((some q14.1).bind (AV.asInt .i64)).bind fun n15 =>
 whenK (SameAt q8.2 q14.2 (h3r.add 1) 1) (
 (go (.fn F.kf3 [.int .u64 n13]) q14.2).bind fun q16 =>
 ((some q16.1).bind (AV.asInt .i64)).bind fun n17 =>
 cond (!decide (n15 = n17)) (
 some (.int .i64 9, q16.2)) (
 ((q16.2.cell (h3r.add 0)).bind (AV.asInt .u64)).bind fun n18 =>
 newK q16.2 (.cells [.int .u64 n18] T.kc) fun h19r h19 =>
 ((h19.cell (h3r.add 1)).bind (AV.asInt .u64)).bind fun n20 =>
 newK h19 (.cells [.int .u64 n20] T.kc) fun h21r h21 =>
 (go (.fn F.kdp [(⟨some h19r, 1, .is 1⟩ : Sl).v, (⟨some h21r, 1, .is 1⟩ : Sl).v]) h21).bind fun q22 =>
 (AV.asTup2 q22.1).bind fun p23 =>
 ((some p23.1).bind AV.asSl).bind fun l24 =>
 ((some p23.2).bind (AV.asInt .i64)).bind fun n25 =>
 ((q22.2.cell (h3r.add 0)).bind (AV.asInt .u64)).bind fun n26 =>
 newK q22.2 (.cells [.int .u64 (IntKind.wrap .u64 (n26 - 1))] T.kc) fun h27r h27 =>
 ((h27.cell (h3r.add 1)).bind (AV.asInt .u64)).bind fun n28 =>
 newK h27 (.cells [.int .u64 (IntKind.wrap .u64 (n28 - 1))] T.kc) fun h29r h29 =>
 (go (.fn F.kdp [(⟨some h27r, 1, .is 1⟩ : Sl).v, (⟨some h29r, 1, .is 1⟩ : Sl).v]) h29).bind fun q30 =>
 (AV.asTup2 q30.1).bind fun p31 =>
 ((some p31.1).bind AV.asSl).bind fun l32 =>
 ((some p31.2).bind (AV.asInt .i64)).bind fun n33 =>
 (go (.fn F.kfb [l24.v, l32.v]) q30.2).bind fun q34 =>
 (AV.asTup2 q34.1).bind fun p35 =>
 ((some p35.1).bind AV.asSl).bind fun l36 =>
 ((some p35.2).bind (AV.asInt .i64)).bind fun n37 =>
 newK q34.2 (.cells [.int .u64 1] T.kc) fun h38r h38 =>
 (go (.fn F.kcj [l36.v, (⟨some h38r, 1, .is 1⟩ : Sl).v]) h38).bind fun q39 =>
 ((some q39.1).bind (AV.asInt .i64)).bind fun n40 =>
 cond (!decide (n40 = 0)) (
 some (.int .i64 9, q39.2)) (
 some (.int .i64 0, q39.2))))))) := (ke _ h).trans (by kernel_rfl)
theorem k8y (a1 : Sl) (a2 : Sl) (h : AH) : go (.fn F.kdp [a1.v, a2.v]) h =
 newK h (.cells [a1.v, a2.v] T.ku) fun h3r h3 =>
 (go (.fn F.kgf [(⟨some h3r, 2, .is 2⟩ : Sl).v]) h3).bind fun q4 =>
 ((some q4.1).bind AV.asBool).bind fun b5 =>
 cond (!b5) (
 some (.tup [(⟨none, 0, .is 0⟩ : Sl).v, .int .i64 1], q4.2)) (
 (go (.fn F.kpg [a1.v, a2.v]) q4.2).bind fun q6 =>
 ((some q6.1).bind AV.asSl).bind fun l7 =>
 (go (.fn F.klt [l7.v]) q6.2).bind fun q8 =>
 (AV.asTup2 q8.1).bind fun p9 =>
 ((some p9.1).bind AV.asSl).bind fun l10 =>
 ((some p9.2).bind (AV.asInt .i64)).bind fun n11 =>
 some (.tup [l10.v, .int .i64 n11], q8.2)) := (ke _ h).trans (by kernel_rfl)
theorem kbcx (a1 : Sl) (h : AH) : go (.fn F.kf2 [a1.v]) h =
 cond (decide ((a1.len : Int) ≤ 64)) (
 cond (decide ((a1.len : Int) = 0)) (
 some (.bool true, h)) (
 (idx a1.ref a1.len (IntKind.wrap .i64 ((a1.len : Int) - 1)) 1).bind fun r2 =>
 ((h.cell r2).bind (AV.asInt .u64)).bind fun n3 =>
 some (.bool (!decide (n3 = 0)), h))) (
 some (.bool false, h)) := (ke _ h).trans (by kernel_rfl)
theorem k2a (a1 : Sl) (h : AH) : go (.fn F.kb5 [a1.v]) h =
 go (.pt F.kb5 Td.kk5 [(0, a1.v), (3, (⟨none, 0, .is 0⟩ : Sl).v), (4, .int .i64 0)]) h := (ke _ h).trans (by kernel_rfl)
theorem k8w (a1 : Sl) (a2 : Sl) (h : AH) : go (.fn F.ker [a1.v, a2.v]) h =
 go (.pt F.ker Td.kjd [(0, a1.v), (1, a2.v), (5, (⟨none, 0, .is 0⟩ : Sl).v), (6, .int .u64 0), (7, .int .i64 0)]) h := (ke _ h).trans (by kernel_rfl)
theorem k0r (a1 : Sl) (h : AH) : go (.fn F.kmo [a1.v]) h =
 (go (.fn F.kca [a1.v]) h).bind fun q2 =>
 (AV.asTup2 q2.1).bind fun p3 =>
 ((some p3.1).bind AV.asSl).bind fun l4 =>
 ((some p3.2).bind AV.asBool).bind fun b5 =>
 cond (!b5) (
 some (.tup [(⟨none, 0, .is 0⟩ : Sl).v, .int .i64 4], q2.2)) (
 some (.tup [l4.v, .int .i64 0], q2.2)) := (ke _ h).trans (by kernel_rfl)
theorem kbem (a1 : Sl) (a2 : Sl) (h : AH) : go (.fn F.kc4 [a1.v, a2.v]) h =
 (go (.fn F.kln [a1.v]) h).bind fun q3 =>
 ((some q3.1).bind AV.asBool).bind fun b4 =>
 cond (!b4) (
 some (.int .i64 1, q3.2)) (
 go (.pt F.kc4 Td.knn [(0, a1.v), (10, a2.v), (11, .int .i64 (a2.len : Int)), (12, .int .i64 0)]) q3.2) := (ke _ h).trans (by kernel_rfl)
theorem k86 (a1 : Sl) (a2 : Sl) (a3 : Sl) (h : AH) : go (.fn F.kjf [a1.v, a2.v, a3.v]) h =
 (go (.fn F.kdp [a2.v, a3.v]) h).bind fun q4 =>
 (AV.asTup2 q4.1).bind fun p5 =>
 ((some p5.1).bind AV.asSl).bind fun l6 =>
 ((some p5.2).bind (AV.asInt .i64)).bind fun n7 =>
 (go (.fn F.khn [a1.v]) q4.2).bind fun q8 =>
 ((some q8.1).bind AV.asSl).bind fun l9 =>
 (go (.fn F.kc0 [l6.v, l9.v]) q8.2).bind fun q10 =>
 (AV.asTup3 q10.1).bind fun p11 =>
 ((some p11.1).bind AV.asSl).bind fun l12 =>
 ((some p11.2.1).bind AV.asSl).bind fun l13 =>
 ((some p11.2.2).bind (AV.asInt .i64)).bind fun n14 =>
 some (l13.v, q10.2) := (ke _ h).trans (by kernel_rfl)
theorem kz8 (a1 : Sl) (a2 : Sl) (a3 : Sl) (h : AH) : go (.fn F.kjp [a1.v, a2.v, a3.v]) h =
 (go (.fn F.kby [a1.v]) h).bind fun q4 =>
 ((some q4.1).bind AV.asBool).bind fun b5 =>
 cond (!b5) (
 some (.bool false, q4.2)) (
 cond (decide ((a1.len : Int) = 0)) (
 some (.bool false, q4.2)) (
 (go (.fn F.kcj [a1.v, a3.v]) q4.2).bind fun q6 =>
 ((some q6.1).bind (AV.asInt .i64)).bind fun n7 =>
 cond (decide (n7 ≥ 0)) (
 some (.bool false, q6.2)) (
 (go (.fn F.kfb [a1.v, a2.v]) q6.2).bind fun q8 =>
 (AV.asTup2 q8.1).bind fun p9 =>
 ((some p9.1).bind AV.asSl).bind fun l10 =>
 ((some p9.2).bind (AV.asInt .i64)).bind fun n11 =>
 newK q8.2 (.cells [.int .u64 1] T.kc) fun h12r h12 =>
 (go (.fn F.kcj [l10.v, (⟨some h12r, 1, .is 1⟩ : Sl).v]) h12).bind fun q13 =>
 ((some q13.1).bind (AV.asInt .i64)).bind fun n14 =>
 some (.bool (decide (n14 = 0)), q13.2)))) := (ke _ h).trans (by kernel_rfl)
theorem k7f (a1 : Sl) (a2 : Sl) (a3 : Sl) (h : AH) : go (.fn F.kke [a1.v, a2.v, a3.v]) h =
 (go (.fn F.khn [a1.v]) h).bind fun q4 =>
 ((some q4.1).bind AV.asSl).bind fun l5 =>
 (go (.fn F.kdg [l5.v]) q4.2).bind fun q6 =>
 (AV.asTup2 q6.1).bind fun p7 =>
 ((some p7.1).bind AV.asPtr).bind fun p8 =>
 ((some p7.2).bind (AV.asInt .i64)).bind fun n9 =>
 (go (.fn F.kbv [.ptr p8, a2.v, a3.v]) q6.2).bind fun q10 =>
 (AV.asTup2 q10.1).bind fun p11 =>
 ((some p11.1).bind AV.asSl).bind fun l12 =>
 ((some p11.2).bind (AV.asInt .i64)).bind fun n13 =>
 some (l12.v, q10.2) := (ke _ h).trans (by kernel_rfl)
theorem k49 (a1 : Sl) (a2 : Sl) (h : AH) : go (.fn F.kky [a1.v, a2.v]) h =
 (go (.fn F.kby [a2.v]) h).bind fun q3 =>
 ((some q3.1).bind AV.asBool).bind fun b4 =>
 cond b4 (
 (go (.fn F.kcj [a2.v, a1.v]) q3.2).bind fun q5 =>
 ((some q5.1).bind (AV.asInt .i64)).bind fun n6 =>
 some (.bool (decide (n6 < 0)), q5.2)) (
 some (.bool false, q3.2)) := (ke _ h).trans (by kernel_rfl)
theorem k5r (a1 : Sl) (a2 : Sl) (h : AH) : go (.fn F.kkw [a1.v, a2.v]) h =
 (go (.fn F.kdp [a2.v, a1.v]) h).bind fun q3 =>
 (AV.asTup2 q3.1).bind fun p4 =>
 ((some p4.1).bind AV.asSl).bind fun l5 =>
 ((some p4.2).bind (AV.asInt .i64)).bind fun n6 =>
 newK q3.2 (.cells [.int .u64 1] T.kc) fun h7r h7 =>
 (go (.fn F.kjb [l5.v, (⟨some h7r, 1, .is 1⟩ : Sl).v]) h7).bind fun q8 =>
 (AV.asTup2 q8.1).bind fun p9 =>
 ((some p9.1).bind AV.asSl).bind fun l10 =>
 ((some p9.2).bind (AV.asInt .i64)).bind fun n11 =>
 some (l10.v, q8.2) := (ke _ h).trans (by kernel_rfl)
theorem kz0 (a1 : Sl) (a2 : Sl) (h : AH) : go (.fn F.kck [a1.v, a2.v]) h =
 (kbs (IntKind.wrap .i64 ((a1.len : Int) + (a2.len : Int))) (IntKind.wrap .i64 ((a1.len : Int) + (a2.len : Int))) T.kc (Pg.bytesOf T.kc) [.int .u64 0] h).bind fun q3 =>
 go (.pt F.kck Td.knq [(0, a1.v), (1, a2.v), (5, q3.1.v), (6, .int .i64 0)]) q3.2 := (ke _ h).trans (by kernel_rfl)
theorem kbfb (a1 : Sl) (a2 : Sl) (a3 : Sl) (a4 : Int) (a5 : Int) (h : AH) : go (.pt F.kcm Td.knd [(1, a1.v), (5, a2.v), (20, a3.v), (21, .int .i64 a4), (22, .int .i64 a5)]) h =
 cond (decide (a5 < a4)) (
 (idx a3.ref a3.len a5 1).bind fun r6 =>
 ((h.cell r6).bind (AV.asInt .u64)).bind fun n7 =>
 go (.pt F.kcm Td.ko2 [(1, a1.v), (5, a2.v), (6, .int .i64 a5), (7, .int .u64 n7), (8, .int .u64 0), (20, a3.v), (21, .int .i64 a4), (22, .int .i64 a5), (27, a1.v), (28, .int .i64 (a1.len : Int)), (29, .int .i64 0)]) h) (
 (go (.fn F.kbi [a2.v]) h).bind fun q8 =>
 ((some q8.1).bind AV.asSl).bind fun l9 =>
 some (l9.v, q8.2)) := (ke _ h).trans (by kernel_rfl)
theorem kyc (a1 : Sl) (a2 : Sl) (a3 : Sl) (a4 : Int) (a5 : Int) (a6 : Int) (h : AH) : go (.pt F.kcw Td.kge [(0, a1.v), (1, a2.v), (5, a3.v), (6, .int .u64 a4), (21, .int .i64 a5), (22, .int .i64 a6)]) h =
 cond (decide (a6 < a5)) (
 cond (decide (a6 < (a2.len : Int))) (
 (idx a2.ref a2.len a6 1).bind fun r7 =>
 ((h.cell r7).bind (AV.asInt .u64)).bind fun n8 =>
 (idx a1.ref a1.len a6 1).bind fun r9 =>
 ((h.cell r9).bind (AV.asInt .u64)).bind fun n10 =>
 ((prim "math/bits.Add64" [.int .u64 n10, .int .u64 n8, .int .u64 a4]).map fun v => (v, h)).bind fun q11 =>
 (AV.asTup2 q11.1).bind fun p12 =>
 ((some p12.1).bind (AV.asInt .u64)).bind fun n13 =>
 ((some p12.2).bind (AV.asInt .u64)).bind fun n14 =>
 (idx a3.ref a3.len a6 1).bind fun r15 =>
 (q11.2.puts r15 [.int .u64 n13]).bind fun h16 =>
 go (.pt F.kcw Td.kge [(0, a1.v), (1, a2.v), (5, a3.v), (6, .int .u64 n14), (21, .int .i64 a5), (22, .int .i64 (IntKind.wrap .i64 (a6 + 1)))]) h16) (
 (idx a1.ref a1.len a6 1).bind fun r17 =>
 ((h.cell r17).bind (AV.asInt .u64)).bind fun n18 =>
 ((prim "math/bits.Add64" [.int .u64 n18, .int .u64 0, .int .u64 a4]).map fun v => (v, h)).bind fun q19 =>
 (AV.asTup2 q19.1).bind fun p20 =>
 ((some p20.1).bind (AV.asInt .u64)).bind fun n21 =>
 ((some p20.2).bind (AV.asInt .u64)).bind fun n22 =>
 (idx a3.ref a3.len a6 1).bind fun r23 =>
 (q19.2.puts r23 [.int .u64 n21]).bind fun h24 =>
 go (.pt F.kcw Td.kge [(0, a1.v), (1, a2.v), (5, a3.v), (6, .int .u64 n22), (21, .int .i64 a5), (22, .int .i64 (IntKind.wrap .i64 (a6 + 1)))]) h24)) (
 (idx a3.ref a3.len (a1.len : Int) 1).bind fun r25 =>
 (h.puts r25 [.int .u64 a4]).bind fun h26 =>
 some (a3.v, h26)) := (ke _ h).trans (by kernel_rfl)
theorem ko6 (a1 : Sl) (a2 : Int) (h : AH) : go (.pt F.kbi Td.kku [(0, a1.v), (3, .int .i64 a2)]) h =
 cond (decide (a2 > 0)) (
 (idx a1.ref a1.len (IntKind.wrap .i64 (a2 - 1)) 1).bind fun r3 =>
 ((h.cell r3).bind (AV.asInt .u64)).bind fun n4 =>
 cond (decide (n4 = 0)) (
 go (.pt F.kbi Td.kku [(0, a1.v), (3, .int .i64 (IntKind.wrap .i64 (a2 - 1)))]) h) (
 (cutSl a1 0 a2 1).bind fun l5 =>
 some (l5.v, h))) (
 (cutSl a1 0 a2 1).bind fun l6 =>
 some (l6.v, h)) := (ke _ h).trans (by kernel_rfl)
theorem kvn (a1 : Sl) (a2 : Sl) (a3 : Sl) (a4 : Int) (a5 : Int) (a6 : Int) (h : AH) : go (.pt F.kct Td.kiu [(0, a1.v), (1, a2.v), (5, a3.v), (6, .int .u64 a4), (13, .int .i64 a5), (14, .int .i64 a6)]) h =
 cond (decide (a6 < a5)) (
 cond (decide (a6 < (a2.len : Int))) (
 (idx a2.ref a2.len a6 1).bind fun r7 =>
 ((h.cell r7).bind (AV.asInt .u64)).bind fun n8 =>
 (idx a1.ref a1.len a6 1).bind fun r9 =>
 ((h.cell r9).bind (AV.asInt .u64)).bind fun n10 =>
 ((prim "math/bits.Sub64" [.int .u64 n10, .int .u64 n8, .int .u64 a4]).map fun v => (v, h)).bind fun q11 =>
 (AV.asTup2 q11.1).bind fun p12 =>
 ((some p12.1).bind (AV.asInt .u64)).bind fun n13 =>
 ((some p12.2).bind (AV.asInt .u64)).bind fun n14 =>
 (idx a3.ref a3.len a6 1).bind fun r15 =>
 (q11.2.puts r15 [.int .u64 n13]).bind fun h16 =>
 go (.pt F.kct Td.kiu [(0, a1.v), (1, a2.v), (5, a3.v), (6, .int .u64 n14), (13, .int .i64 a5), (14, .int .i64 (IntKind.wrap .i64 (a6 + 1)))]) h16) (
 (idx a1.ref a1.len a6 1).bind fun r17 =>
 ((h.cell r17).bind (AV.asInt .u64)).bind fun n18 =>
 ((prim "math/bits.Sub64" [.int .u64 n18, .int .u64 0, .int .u64 a4]).map fun v => (v, h)).bind fun q19 =>
 (AV.asTup2 q19.1).bind fun p20 =>
 ((some p20.1).bind (AV.asInt .u64)).bind fun n21 =>
 ((some p20.2).bind (AV.asInt .u64)).bind fun n22 =>
 (idx a3.ref a3.len a6 1).bind fun r23 =>
 (q19.2.puts r23 [.int .u64 n21]).bind fun h24 =>
 go (.pt F.kct Td.kiu [(0, a1.v), (1, a2.v), (5, a3.v), (6, .int .u64 n22), (13, .int .i64 a5), (14, .int .i64 (IntKind.wrap .i64 (a6 + 1)))]) h24)) (
 some (a3.v, h)) := (ke _ h).trans (by kernel_rfl)
theorem kbdf (a1 : Sl) (a2 : Sl) (a3 : Int) (a4 : Int) (a5 : Int) (h : AH) : go (.pt F.kde Td.khm [(0, a1.v), (1, a2.v), (2, .int .i64 a3), (6, .int .u64 a4), (7, .int .i64 a5)]) h =
 cond (decide (a5 < (a1.len : Int))) (
 cond (decide ((IntKind.wrap .i64 (a5 - a3)) < (a2.len : Int))) (
 cond (decide ((IntKind.wrap .i64 (a5 - a3)) < (a2.len : Int))) (
 (idx a2.ref a2.len (IntKind.wrap .i64 (a5 - a3)) 1).bind fun r6 =>
 ((h.cell r6).bind (AV.asInt .u64)).bind fun n7 =>
 (idx a1.ref a1.len a5 1).bind fun r8 =>
 ((h.cell r8).bind (AV.asInt .u64)).bind fun n9 =>
 ((prim "math/bits.Add64" [.int .u64 n9, .int .u64 n7, .int .u64 a4]).map fun v => (v, h)).bind fun q10 =>
 (AV.asTup2 q10.1).bind fun p11 =>
 ((some p11.1).bind (AV.asInt .u64)).bind fun n12 =>
 ((some p11.2).bind (AV.asInt .u64)).bind fun n13 =>
 (idx a1.ref a1.len a5 1).bind fun r14 =>
 (q10.2.puts r14 [.int .u64 n12]).bind fun h15 =>
 go (.pt F.kde Td.khm [(0, a1.v), (1, a2.v), (2, .int .i64 a3), (6, .int .u64 n13), (7, .int .i64 (IntKind.wrap .i64 (a5 + 1)))]) h15) (
 (idx a1.ref a1.len a5 1).bind fun r16 =>
 ((h.cell r16).bind (AV.asInt .u64)).bind fun n17 =>
 ((prim "math/bits.Add64" [.int .u64 n17, .int .u64 0, .int .u64 a4]).map fun v => (v, h)).bind fun q18 =>
 (AV.asTup2 q18.1).bind fun p19 =>
 ((some p19.1).bind (AV.asInt .u64)).bind fun n20 =>
 ((some p19.2).bind (AV.asInt .u64)).bind fun n21 =>
 (idx a1.ref a1.len a5 1).bind fun r22 =>
 (q18.2.puts r22 [.int .u64 n20]).bind fun h23 =>
 go (.pt F.kde Td.khm [(0, a1.v), (1, a2.v), (2, .int .i64 a3), (6, .int .u64 n21), (7, .int .i64 (IntKind.wrap .i64 (a5 + 1)))]) h23)) (
 cond (decide (a4 > 0)) (
 cond (decide ((IntKind.wrap .i64 (a5 - a3)) < (a2.len : Int))) (
 (idx a2.ref a2.len (IntKind.wrap .i64 (a5 - a3)) 1).bind fun r24 =>
 ((h.cell r24).bind (AV.asInt .u64)).bind fun n25 =>
 (idx a1.ref a1.len a5 1).bind fun r26 =>
 ((h.cell r26).bind (AV.asInt .u64)).bind fun n27 =>
 ((prim "math/bits.Add64" [.int .u64 n27, .int .u64 n25, .int .u64 a4]).map fun v => (v, h)).bind fun q28 =>
 (AV.asTup2 q28.1).bind fun p29 =>
 ((some p29.1).bind (AV.asInt .u64)).bind fun n30 =>
 ((some p29.2).bind (AV.asInt .u64)).bind fun n31 =>
 (idx a1.ref a1.len a5 1).bind fun r32 =>
 (q28.2.puts r32 [.int .u64 n30]).bind fun h33 =>
 go (.pt F.kde Td.khm [(0, a1.v), (1, a2.v), (2, .int .i64 a3), (6, .int .u64 n31), (7, .int .i64 (IntKind.wrap .i64 (a5 + 1)))]) h33) (
 (idx a1.ref a1.len a5 1).bind fun r34 =>
 ((h.cell r34).bind (AV.asInt .u64)).bind fun n35 =>
 ((prim "math/bits.Add64" [.int .u64 n35, .int .u64 0, .int .u64 a4]).map fun v => (v, h)).bind fun q36 =>
 (AV.asTup2 q36.1).bind fun p37 =>
 ((some p37.1).bind (AV.asInt .u64)).bind fun n38 =>
 ((some p37.2).bind (AV.asInt .u64)).bind fun n39 =>
 (idx a1.ref a1.len a5 1).bind fun r40 =>
 (q36.2.puts r40 [.int .u64 n38]).bind fun h41 =>
 go (.pt F.kde Td.khm [(0, a1.v), (1, a2.v), (2, .int .i64 a3), (6, .int .u64 n39), (7, .int .i64 (IntKind.wrap .i64 (a5 + 1)))]) h41)) (
 some (.tup [], h)))) (
 some (.tup [], h)) := (ke _ h).trans (by kernel_rfl)
theorem ksa (a1 : Nat) (a2 : Ref) (a3 : Int) (h : AH) : go (.pt F.kbu Td.kl3 [(0, .func (.yield a1) [] []), (1, .ptr (some a2)), (5, .int .u64 a3)]) h =
 ((h.cell a2).bind (AV.asInt .u64)).bind fun n4 =>
 cond (decide ((IntKind.wrap .u64 (a3 * a3)) ≤ n4)) (
 (go (.round a1 [.int .u64 a3]) h).bind fun q5 =>
 ((some q5.1).bind AV.asBool).bind fun b6 =>
 cond (!b6) (
 some (.tup [], q5.2)) (
 ((q5.2.cell a2).bind (AV.asInt .u64)).bind fun n7 =>
 cond (decide ((IntKind.wrap .u64 ((IntKind.wrap .u64 (a3 + 2)) * (IntKind.wrap .u64 (a3 + 2)))) ≤ n7)) (
 (go (.round a1 [.int .u64 (IntKind.wrap .u64 (a3 + 2))]) q5.2).bind fun q8 =>
 ((some q8.1).bind AV.asBool).bind fun b9 =>
 cond (!b9) (
 some (.tup [], q8.2)) (
 go (.pt F.kbu Td.kl3 [(0, .func (.yield a1) [] []), (1, .ptr (some a2)), (5, .int .u64 (IntKind.wrap .u64 (a3 + 6)))]) q8.2)) (
 go (.pt F.kbu Td.kl3 [(0, .func (.yield a1) [] []), (1, .ptr (some a2)), (5, .int .u64 (IntKind.wrap .u64 (a3 + 6)))]) q5.2))) (
 some (.tup [], h)) := (ke _ h).trans (by kernel_rfl)
theorem kbcv (a1 : Sl) (h : AH) : go (.fn F.kln [a1.v]) h =
 (go (.fn F.kje [a1.v]) h).bind fun q2 =>
 ((some q2.1).bind (AV.asInt .i64)).bind fun n3 =>
 (go (.fn F.kby [a1.v]) q2.2).bind fun q4 =>
 ((some q4.1).bind AV.asBool).bind fun b5 =>
 cond b5 (
 (go (.fn F.ki1 [a1.v, .int .i64 0]) q4.2).bind fun q6 =>
 ((some q6.1).bind AV.asBool).bind fun b7 =>
 cond b7 (
 cond (decide (n3 ≥ 15)) (
 some (.bool (decide (n3 ≤ 80)), q6.2)) (
 some (.bool false, q6.2))) (
 some (.bool false, q6.2))) (
 some (.bool false, q4.2)) := (ke _ h).trans (by kernel_rfl)
theorem k1u (a1 : Sl) (h : AH) : go (.fn F.khn [a1.v]) h =
 (go (.fn F.kdp [a1.v, a1.v]) h).bind fun q2 =>
 (AV.asTup2 q2.1).bind fun p3 =>
 ((some p3.1).bind AV.asSl).bind fun l4 =>
 ((some p3.2).bind (AV.asInt .i64)).bind fun n5 =>
 some (l4.v, q2.2) := (ke _ h).trans (by kernel_rfl)
theorem kbar (a1 : Sl) (h : AH) : go (.fn F.kdg [a1.v]) h =
 (go (.fn F.kby [a1.v]) h).bind fun q2 =>
 ((some q2.1).bind AV.asBool).bind fun b3 =>
 cond (!b3) (
 some (.tup [.ptr none, .int .i64 1], q2.2)) (
 cond (decide ((a1.len : Int) = 0)) (
 some (.tup [.ptr none, .int .i64 1], q2.2)) (
 cond (decide ((a1.len : Int) > 8)) (
 some (.tup [.ptr none, .int .i64 1], q2.2)) (
 (idx a1.ref a1.len 0 1).bind fun r4 =>
 ((q2.2.cell r4).bind (AV.asInt .u64)).bind fun n5 =>
 cond (decide ((iand .u64 n5 1) = 0)) (
 some (.tup [.ptr none, .int .i64 1], q2.2)) (
 cond (decide ((a1.len : Int) = 1)) (
 (idx a1.ref a1.len 0 1).bind fun r6 =>
 ((q2.2.cell r6).bind (AV.asInt .u64)).bind fun n7 =>
 cond (decide (n7 = 1)) (
 some (.tup [.ptr none, .int .i64 1], q2.2)) (
 (idx a1.ref a1.len 0 1).bind fun r8 =>
 ((q2.2.cell r8).bind (AV.asInt .u64)).bind fun n9 =>
 go (.pt F.kdg Td.kiv [(0, a1.v), (4, .int .u64 n9), (40, .int .i64 0)]) q2.2)) (
 (idx a1.ref a1.len 0 1).bind fun r10 =>
 ((q2.2.cell r10).bind (AV.asInt .u64)).bind fun n11 =>
 go (.pt F.kdg Td.kiv [(0, a1.v), (4, .int .u64 n11), (40, .int .i64 0)]) q2.2))))) := (ke _ h).trans (by kernel_rfl)
theorem k9u (a1 : Sl) (a2 : Ref) (a3 : Ref) (a4 : Ref) (h : AH) : go (.fn F.km5 [a1.v, .ptr (some a2), .ptr (some a3), .ptr (some a4)]) h =
 ((h.cell a2).bind AV.asSl).bind fun l5 =>
 (go (.fn F.khn [l5.v]) h).bind fun q6 =>
 ((some q6.1).bind AV.asSl).bind fun l7 =>
 (go (.fn F.kc0 [a1.v, l7.v]) q6.2).bind fun q8 =>
 (AV.asTup3 q8.1).bind fun p9 =>
 ((some p9.1).bind AV.asSl).bind fun l10 =>
 ((some p9.2.1).bind AV.asSl).bind fun l11 =>
 ((some p9.2.2).bind (AV.asInt .i64)).bind fun n12 =>
 ((q8.2.cell a3).bind AV.asPtr).bind fun p13 =>
 ((q8.2.cell a4).bind (AV.asInt .u64)).bind fun n14 =>
 newK q8.2 (.cells [.int .u64 (IntKind.wrap .u64 (n14 - 1))] T.kc) fun h15r h15 =>
 (go (.fn F.kbv [.ptr p13, l11.v, (⟨some h15r, 1, .is 1⟩ : Sl).v]) h15).bind fun q16 =>
 (AV.asTup2 q16.1).bind fun p17 =>
 ((some p17.1).bind AV.asSl).bind fun l18 =>
 ((some p17.2).bind (AV.asInt .i64)).bind fun n19 =>
 newK q16.2 (.cells [.int .u64 1] T.kc) fun h20r h20 =>
 (go (.fn F.kgp [l18.v, (⟨some h20r, 1, .is 1⟩ : Sl).v]) h20).bind fun q21 =>
 (AV.asTup2 q21.1).bind fun p22 =>
 ((some p22.1).bind AV.asSl).bind fun l23 =>
 ((some p22.2).bind (AV.asInt .i64)).bind fun n24 =>
 ((q21.2.cell a2).bind AV.asSl).bind fun l25 =>
 (go (.fn F.kc0 [l23.v, l25.v]) q21.2).bind fun q26 =>
 (AV.asTup3 q26.1).bind fun p27 =>
 ((some p27.1).bind AV.asSl).bind fun l28 =>
 ((some p27.2.1).bind AV.asSl).bind fun l29 =>
 ((some p27.2.2).bind (AV.asInt .i64)).bind fun n30 =>
 some (l28.v, q26.2) := (ke _ h).trans (by kernel_rfl)
theorem kbb9 (a1 : Sl) (a2 : Sl) (h : AH) : go (.fn F.ke5 [a1.v, a2.v]) h =
 (go (.fn F.kby [a1.v]) h).bind fun q3 =>
 ((some q3.1).bind AV.asBool).bind fun b4 =>
 cond (!b4) (
 some (.tup [(⟨none, 0, .is 0⟩ : Sl).v, .int .i64 1], q3.2)) (
 (go (.fn F.kby [a2.v]) q3.2).bind fun q5 =>
 ((some q5.1).bind AV.asBool).bind fun b6 =>
 cond (!b6) (
 some (.tup [(⟨none, 0, .is 0⟩ : Sl).v, .int .i64 1], q5.2)) (
 newK q5.2 (.cells [.int .u64 1] T.kc) fun h7r h7 =>
 (go (.fn F.kcj [a2.v, (⟨some h7r, 1, .is 1⟩ : Sl).v]) h7).bind fun q8 =>
 ((some q8.1).bind (AV.asInt .i64)).bind fun n9 =>
 cond (decide (n9 ≤ 0)) (
 some (.tup [(⟨none, 0, .is 0⟩ : Sl).v, .int .i64 1], q8.2)) (
 (go (.fn F.kc0 [a1.v, a2.v]) q8.2).bind fun q10 =>
 (AV.asTup3 q10.1).bind fun p11 =>
 ((some p11.1).bind AV.asSl).bind fun l12 =>
 ((some p11.2.1).bind AV.asSl).bind fun l13 =>
 ((some p11.2.2).bind (AV.asInt .i64)).bind fun n14 =>
 newK q10.2 (.cells [(⟨none, 0, .is 0⟩ : Sl).v] T.ku) fun h15r h15 =>
 (h15.puts h15r [l13.v]).bind fun h16 =>
 newK h16 (.cells [(⟨none, 0, .is 0⟩ : Sl).v] T.ku) fun h17r h17 =>
 (h17.puts h17r [a2.v]).bind fun h18 =>
 (go (.fn F.kpi [.int .i64 1]) h18).bind fun q19 =>
 (AV.asAgg q19.1).bind fun cs20 =>
 cond (Nat.beq cs20.length 2) (
 ((cs20[0]?).bind AV.asBool).bind fun b21 =>
 ((cs20[1]?).bind AV.asSl).bind fun l22 =>
 newK q19.2 (.cells [.bool false, (⟨none, 0, .is 0⟩ : Sl).v] T.kj) fun h23r h23 =>
 newK h23 (.cells [.bool false, (⟨none, 0, .is 0⟩ : Sl).v] T.kj) fun h24r h24 =>
 (h24.puts h23r [.bool false, (⟨none, 0, .is 0⟩ : Sl).v]).bind fun h25 =>
 (h25.puts h24r [.bool b21, l22.v]).bind fun h26 =>
 go (.pt F.ke5 Td.knh [(1, a2.v), (7, .ptr (some h15r)), (9, .ptr (some h17r)), (10, .ptr (some h23r)), (12, .func (.func F.kjh) [] [.ptr (some h17r), .ptr (some h15r), .ptr (some h24r), .ptr (some h23r)])]) h26) none))) := (ke _ h).trans (by kernel_rfl)
theorem k9i (a1 : Sl) (a2 : Sl) (h : AH) : go (.fn F.kc0 [a1.v, a2.v]) h =
 newK h (.cells [a1.v, a2.v] T.ku) fun h3r h3 =>
 (go (.fn F.kgf [(⟨some h3r, 2, .is 2⟩ : Sl).v]) h3).bind fun q4 =>
 ((some q4.1).bind AV.asBool).bind fun b5 =>
 cond (!b5) (
 some (.tup [(⟨none, 0, .is 0⟩ : Sl).v, (⟨none, 0, .is 0⟩ : Sl).v, .int .i64 1], q4.2)) (
 cond (decide ((a2.len : Int) = 0)) (
 some (.tup [(⟨none, 0, .is 0⟩ : Sl).v, (⟨none, 0, .is 0⟩ : Sl).v, .int .i64 3], q4.2)) (
 (go (.fn F.kd9 [a1.v, a2.v]) q4.2).bind fun q6 =>
 ((some q6.1).bind (AV.asInt .i64)).bind fun n7 =>
 cond (decide (n7 < 0)) (
 (go (.fn F.kfp [a1.v]) q6.2).bind fun q8 =>
 ((some q8.1).bind AV.asSl).bind fun l9 =>
 some (.tup [(⟨none, 0, .is 0⟩ : Sl).v, l9.v, .int .i64 0], q8.2)) (
 cond (decide ((a2.len : Int) = 1)) (
 (idx a2.ref a2.len 0 1).bind fun r10 =>
 ((q6.2.cell r10).bind (AV.asInt .u64)).bind fun n11 =>
 (go (.fn F.ke8 [a1.v, .int .u64 n11]) q6.2).bind fun q12 =>
 (AV.asTup2 q12.1).bind fun p13 =>
 ((some p13.1).bind AV.asSl).bind fun l14 =>
 ((some p13.2).bind (AV.asInt .u64)).bind fun n15 =>
 (go (.fn F.kfc [.int .u64 n15]) q12.2).bind fun q16 =>
 ((some q16.1).bind AV.asSl).bind fun l17 =>
 some (.tup [l14.v, l17.v, .int .i64 0], q16.2)) (
 (go (.fn F.kb1 [a1.v, a2.v]) q6.2).bind fun q18 =>
 (AV.asTup2 q18.1).bind fun p19 =>
 ((some p19.1).bind AV.asSl).bind fun l20 =>
 ((some p19.2).bind AV.asSl).bind fun l21 =>
 some (.tup [l20.v, l21.v, .int .i64 0], q18.2))))) := (ke _ h).trans (by kernel_rfl)
theorem kbbk (a1 : Sl) (h : AH) : go (.fn F.kja [a1.v]) h =
 (go (.fn F.kby [a1.v]) h).bind fun q2 =>
 ((some q2.1).bind AV.asBool).bind fun b3 =>
 cond (!b3) (
 some (.bool true, q2.2)) (
 some (.bool (decide ((a1.len : Int) > 8)), q2.2)) := (ke _ h).trans (by kernel_rfl)
theorem kbez (a1 : Sl) (h : AH) : go (.fn F.kom [a1.v]) h =
 newK h (.cells [.int .u64 1] T.kc) fun h2r h2 =>
 (go (.fn F.kcj [a1.v, (⟨some h2r, 1, .is 1⟩ : Sl).v]) h2).bind fun q3 =>
 ((some q3.1).bind (AV.asInt .i64)).bind fun n4 =>
 some (.bool (decide (n4 ≤ 0)), q3.2) := (ke _ h).trans (by kernel_rfl)
theorem kbam (a1 : Sl) (a2 : Sl) (h : AH) : go (.fn F.kcj [a1.v, a2.v]) h =
 newK h (.cells [a1.v, a2.v] T.ku) fun h3r h3 =>
 (go (.fn F.kgf [(⟨some h3r, 2, .is 2⟩ : Sl).v]) h3).bind fun q4 =>
 ((some q4.1).bind AV.asBool).bind fun b5 =>
 cond (!b5) (
 some (.int .i64 0, q4.2)) (
 (go (.fn F.kd9 [a1.v, a2.v]) q4.2).bind fun q6 =>
 ((some q6.1).bind (AV.asInt .i64)).bind fun n7 =>
 some (.int .i64 n7, q6.2)) := (ke _ h).trans (by kernel_rfl)
theorem kbdn (a1 : Bool) (a2 : Sl) (h : AH) : go (.fn F.kbk [.bool a1, a2.v]) h =
 newK h (.cells [.bool false, (⟨none, 0, .is 0⟩ : Sl).v] T.kj) fun h3r h3 =>
 (go (.fn F.kby [a2.v]) h3).bind fun q4 =>
 ((some q4.1).bind AV.asBool).bind fun b5 =>
 cond (!b5) (
 (q4.2.puts h3r [.bool false, (⟨none, 0, .is 0⟩ : Sl).v]).bind fun h6 =>
 ((h6.cell (h3r.add 0)).bind AV.asBool).bind fun b7 =>
 ((h6.cell (h3r.add 1)).bind AV.asSl).bind fun l8 =>
 some (.agg [.bool b7, l8.v], h6)) (
 cond (decide ((a2.len : Int) = 0)) (
 (q4.2.puts h3r [.bool false, (⟨none, 0, .is 0⟩ : Sl).v]).bind fun h9 =>
 ((h9.cell (h3r.add 0)).bind AV.asBool).bind fun b10 =>
 ((h9.cell (h3r.add 1)).bind AV.asSl).bind fun l11 =>
 some (.agg [.bool b10, l11.v], h9)) (
 (go (.fn F.kfp [a2.v]) q4.2).bind fun q12 =>
 ((some q12.1).bind AV.asSl).bind fun l13 =>
 (q12.2.puts h3r [.bool a1, l13.v]).bind fun h14 =>
 ((h14.cell (h3r.add 0)).bind AV.asBool).bind fun b15 =>
 ((h14.cell (h3r.add 1)).bind AV.asSl).bind fun l16 =>
 some (.agg [.bool b15, l16.v], h14))) := (ke _ h).trans (by kernel_rfl)
theorem k6s (a1 : Bool) (a2 : Sl) (a3 : Bool) (a4 : Sl) (h : AH) : go (.fn F.kow [.agg [.bool a1, a2.v], .agg [.bool a3, a4.v]]) h =
 newK h (.cells [.bool a1, a2.v] T.kj) fun h5r h5 =>
 newK h5 (.cells [.bool a3, a4.v] T.kj) fun h6r h6 =>
 newK h6 (.cells [.bool false, (⟨none, 0, .is 0⟩ : Sl).v] T.kj) fun h7r h7 =>
 ((h7.cell (h5r.add 0)).bind AV.asBool).bind fun b8 =>
 ((h7.cell (h5r.add 1)).bind AV.asSl).bind fun l9 =>
 ((h7.cell (h6r.add 0)).bind AV.asBool).bind fun b10 =>
 ((h7.cell (h6r.add 1)).bind AV.asSl).bind fun l11 =>
 newK h7 (.cells [.bool b8, l9.v, .bool b10, l11.v] T.kj) fun h12r h12 =>
 (go (.fn F.kg4 [(⟨some h12r, 2, .is 2⟩ : Sl).v]) h12).bind fun q13 =>
 ((some q13.1).bind AV.asBool).bind fun b14 =>
 cond (!b14) (
 (q13.2.puts h7r [.bool false, (⟨none, 0, .is 0⟩ : Sl).v]).bind fun h15 =>
 ((h15.cell (h7r.add 0)).bind AV.asBool).bind fun b16 =>
 ((h15.cell (h7r.add 1)).bind AV.asSl).bind fun l17 =>
 some (.tup [.agg [.bool b16, l17.v], .int .i64 1], h15)) (
 ((q13.2.cell (h5r.add 0)).bind AV.asBool).bind fun b18 =>
 ((q13.2.cell (h5r.add 1)).bind AV.asSl).bind fun l19 =>
 ((q13.2.cell (h6r.add 0)).bind AV.asBool).bind fun b20 =>
 ((q13.2.cell (h6r.add 1)).bind AV.asSl).bind fun l21 =>
 (go (.fn F.krs [.agg [.bool b20, l21.v]]) q13.2).bind fun q22 =>
 (AV.asAgg q22.1).bind fun cs23 =>
 cond (Nat.beq cs23.length 2) (
 ((cs23[0]?).bind AV.asBool).bind fun b24 =>
 ((cs23[1]?).bind AV.asSl).bind fun l25 =>
 whenK (SameAt q13.2 q22.2 h5r 2) (
 (go (.fn F.kqw [.agg [.bool b18, l19.v], .agg [.bool b24, l25.v]]) q22.2).bind fun q26 =>
 (AV.asTup2 q26.1).bind fun p27 =>
 (AV.asAgg p27.1).bind fun cs28 =>
 cond (Nat.beq cs28.length 2) (
 ((cs28[0]?).bind AV.asBool).bind fun b29 =>
 ((cs28[1]?).bind AV.asSl).bind fun l30 =>
 ((some p27.2).bind (AV.asInt .i64)).bind fun n31 =>
 (q26.2.puts h7r [.bool b29, l30.v]).bind fun h32 =>
 ((h32.cell (h7r.add 0)).bind AV.asBool).bind fun b33 =>
 ((h32.cell (h7r.add 1)).bind AV.asSl).bind fun l34 =>
 some (.tup [.agg [.bool b33, l34.v], .int .i64 n31], h32)) none)) none) := (ke _ h).trans (by kernel_rfl)
theorem k6h (a1 : Bool) (a2 : Sl) (a3 : Bool) (a4 : Sl) (h : AH) : go (.fn F.kng [.agg [.bool a1, a2.v], .agg [.bool a3, a4.v]]) h =
 newK h (.cells [.bool a1, a2.v] T.kj) fun h5r h5 =>
 newK h5 (.cells [.bool a3, a4.v] T.kj) fun h6r h6 =>
 newK h6 (.cells [.bool false, (⟨none, 0, .is 0⟩ : Sl).v] T.kj) fun h7r h7 =>
 ((h7.cell (h5r.add 0)).bind AV.asBool).bind fun b8 =>
 ((h7.cell (h5r.add 1)).bind AV.asSl).bind fun l9 =>
 ((h7.cell (h6r.add 0)).bind AV.asBool).bind fun b10 =>
 ((h7.cell (h6r.add 1)).bind AV.asSl).bind fun l11 =>
 newK h7 (.cells [.bool b8, l9.v, .bool b10, l11.v] T.kj) fun h12r h12 =>
 (go (.fn F.kg4 [(⟨some h12r, 2, .is 2⟩ : Sl).v]) h12).bind fun q13 =>
 ((some q13.1).bind AV.asBool).bind fun b14 =>
 cond (!b14) (
 (q13.2.puts h7r [.bool false, (⟨none, 0, .is 0⟩ : Sl).v]).bind fun h15 =>
 ((h15.cell (h7r.add 0)).bind AV.asBool).bind fun b16 =>
 ((h15.cell (h7r.add 1)).bind AV.asSl).bind fun l17 =>
 some (.tup [.agg [.bool b16, l17.v], .int .i64 1], h15)) (
 ((q13.2.cell (h5r.add 1)).bind AV.asSl).bind fun l18 =>
 ((q13.2.cell (h6r.add 1)).bind AV.asSl).bind fun l19 =>
 (go (.fn F.kdp [l18.v, l19.v]) q13.2).bind fun q20 =>
 (AV.asTup2 q20.1).bind fun p21 =>
 ((some p21.1).bind AV.asSl).bind fun l22 =>
 ((some p21.2).bind (AV.asInt .i64)).bind fun n23 =>
 ((q20.2.cell (h5r.add 0)).bind AV.asBool).bind fun b24 =>
 ((q20.2.cell (h6r.add 0)).bind AV.asBool).bind fun b25 =>
 (go (.fn F.kbk [.bool (!(b24 == b25)), l22.v]) q20.2).bind fun q26 =>
 (AV.asAgg q26.1).bind fun cs27 =>
 cond (Nat.beq cs27.length 2) (
 ((cs27[0]?).bind AV.asBool).bind fun b28 =>
 ((cs27[1]?).bind AV.asSl).bind fun l29 =>
 (q26.2.puts h7r [.bool b28, l29.v]).bind fun h30 =>
 ((h30.cell (h7r.add 0)).bind AV.asBool).bind fun b31 =>
 ((h30.cell (h7r.add 1)).bind AV.asSl).bind fun l32 =>
 some (.tup [.agg [.bool b31, l32.v], .int .i64 n23], h30)) none) := (ke _ h).trans (by kernel_rfl)
theorem kbca (a1 : Bool) (a2 : Sl) (a3 : Bool) (a4 : Sl) (h : AH) : go (.fn F.klg [.agg [.bool a1, a2.v], .agg [.bool a3, a4.v]]) h =
 newK h (.cells [.bool a1, a2.v] T.kj) fun h5r h5 =>
 newK h5 (.cells [.bool a3, a4.v] T.kj) fun h6r h6 =>
 newK h6 (.cells [.bool false, (⟨none, 0, .is 0⟩ : Sl).v] T.kj) fun h7r h7 =>
 newK h7 (.cells [.bool false, (⟨none, 0, .is 0⟩ : Sl).v] T.kj) fun h8r h8 =>
 ((h8.cell (h5r.add 0)).bind AV.asBool).bind fun b9 =>
 ((h8.cell (h5r.add 1)).bind AV.asSl).bind fun l10 =>
 ((h8.cell (h6r.add 0)).bind AV.asBool).bind fun b11 =>
 ((h8.cell (h6r.add 1)).bind AV.asSl).bind fun l12 =>
 newK h8 (.cells [.bool b9, l10.v, .bool b11, l12.v] T.kj) fun h13r h13 =>
 (go (.fn F.kg4 [(⟨some h13r, 2, .is 2⟩ : Sl).v]) h13).bind fun q14 =>
 ((some q14.1).bind AV.asBool).bind fun b15 =>
 cond (!b15) (
 (q14.2.puts h7r [.bool false, (⟨none, 0, .is 0⟩ : Sl).v]).bind fun h16 =>
 (h16.puts h8r [.bool false, (⟨none, 0, .is 0⟩ : Sl).v]).bind fun h17 =>
 ((h17.cell (h7r.add 0)).bind AV.asBool).bind fun b18 =>
 ((h17.cell (h7r.add 1)).bind AV.asSl).bind fun l19 =>
 ((h17.cell (h8r.add 0)).bind AV.asBool).bind fun b20 =>
 ((h17.cell (h8r.add 1)).bind AV.asSl).bind fun l21 =>
 some (.tup [.agg [.bool b18, l19.v], .agg [.bool b20, l21.v], .int .i64 1], h17)) (
 ((q14.2.cell (h6r.add 1)).bind AV.asSl).bind fun l22 =>
 cond (decide ((l22.len : Int) = 0)) (
 (q14.2.puts h7r [.bool false, (⟨none, 0, .is 0⟩ : Sl).v]).bind fun h23 =>
 (h23.puts h8r [.bool false, (⟨none, 0, .is 0⟩ : Sl).v]).bind fun h24 =>
 ((h24.cell (h7r.add 0)).bind AV.asBool).bind fun b25 =>
 ((h24.cell (h7r.add 1)).bind AV.asSl).bind fun l26 =>
 ((h24.cell (h8r.add 0)).bind AV.asBool).bind fun b27 =>
 ((h24.cell (h8r.add 1)).bind AV.asSl).bind fun l28 =>
 some (.tup [.agg [.bool b25, l26.v], .agg [.bool b27, l28.v], .int .i64 3], h24)) (
 ((q14.2.cell (h6r.add 0)).bind AV.asBool).bind fun b29 =>
 cond b29 (
 (q14.2.puts h7r [.bool false, (⟨none, 0, .is 0⟩ : Sl).v]).bind fun h30 =>
 (h30.puts h8r [.bool false, (⟨none, 0, .is 0⟩ : Sl).v]).bind fun h31 =>
 ((h31.cell (h7r.add 0)).bind AV.asBool).bind fun b32 =>
 ((h31.cell (h7r.add 1)).bind AV.asSl).bind fun l33 =>
 ((h31.cell (h8r.add 0)).bind AV.asBool).bind fun b34 =>
 ((h31.cell (h8r.add 1)).bind AV.asSl).bind fun l35 =>
 some (.tup [.agg [.bool b32, l33.v], .agg [.bool b34, l35.v], .int .i64 1], h31)) (
 ((q14.2.cell (h5r.add 1)).bind AV.asSl).bind fun l36 =>
 ((q14.2.cell (h6r.add 1)).bind AV.asSl).bind fun l37 =>
 (go (.fn F.kc0 [l36.v, l37.v]) q14.2).bind fun q38 =>
 (AV.asTup3 q38.1).bind fun p39 =>
 ((some p39.1).bind AV.asSl).bind fun l40 =>
 ((some p39.2.1).bind AV.asSl).bind fun l41 =>
 ((some p39.2.2).bind (AV.asInt .i64)).bind fun n42 =>
 ((q38.2.cell (h5r.add 0)).bind AV.asBool).bind fun b43 =>
 cond b43 (
 cond (decide ((l41.len : Int) > 0)) (
 (go (.fn F.kfc [.int .u64 1]) q38.2).bind fun q44 =>
 ((some q44.1).bind AV.asSl).bind fun l45 =>
 (go (.fn F.kjb [l40.v, l45.v]) q44.2).bind fun q46 =>
 (AV.asTup2 q46.1).bind fun p47 =>
 ((some p47.1).bind AV.asSl).bind fun l48 =>
 ((some p47.2).bind (AV.asInt .i64)).bind fun n49 =>
 cond (!decide (n49 = 0)) (
 (q46.2.puts h7r [.bool false, (⟨none, 0, .is 0⟩ : Sl).v]).bind fun h50 =>
 (h50.puts h8r [.bool false, (⟨none, 0, .is 0⟩ : Sl).v]).bind fun h51 =>
 ((h51.cell (h7r.add 0)).bind AV.asBool).bind fun b52 =>
 ((h51.cell (h7r.add 1)).bind AV.asSl).bind fun l53 =>
 ((h51.cell (h8r.add 0)).bind AV.asBool).bind fun b54 =>
 ((h51.cell (h8r.add 1)).bind AV.asSl).bind fun l55 =>
 some (.tup [.agg [.bool b52, l53.v], .agg [.bool b54, l55.v], .int .i64 n49], h51)) (
 ((q46.2.cell (h6r.add 1)).bind AV.asSl).bind fun l56 =>
 (go (.fn F.kgp [l56.v, l41.v]) q46.2).bind fun q57 =>
 (AV.asTup2 q57.1).bind fun p58 =>
 ((some p58.1).bind AV.asSl).bind fun l59 =>
 ((some p58.2).bind (AV.asInt .i64)).bind fun n60 =>
 ((q57.2.cell (h5r.add 0)).bind AV.asBool).bind fun b61 =>
 (go (.fn F.kbk [.bool b61, l48.v]) q57.2).bind fun q62 =>
 (AV.asAgg q62.1).bind fun cs63 =>
 cond (Nat.beq cs63.length 2) (
 ((cs63[0]?).bind AV.asBool).bind fun b64 =>
 ((cs63[1]?).bind AV.asSl).bind fun l65 =>
 (go (.fn F.kbk [.bool false, l59.v]) q62.2).bind fun q66 =>
 (AV.asAgg q66.1).bind fun cs67 =>
 cond (Nat.beq cs67.length 2) (
 ((cs67[0]?).bind AV.asBool).bind fun b68 =>
 ((cs67[1]?).bind AV.asSl).bind fun l69 =>
 (q66.2.puts h7r [.bool b64, l65.v]).bind fun h70 =>
 (h70.puts h8r [.bool b68, l69.v]).bind fun h71 =>
 ((h71.cell (h7r.add 0)).bind AV.asBool).bind fun b72 =>
 ((h71.cell (h7r.add 1)).bind AV.asSl).bind fun l73 =>
 ((h71.cell (h8r.add 0)).bind AV.asBool).bind fun b74 =>
 ((h71.cell (h8r.add 1)).bind AV.asSl).bind fun l75 =>
 some (.tup [.agg [.bool b72, l73.v], .agg [.bool b74, l75.v], .int .i64 0], h71)) none) none)) (
 ((q38.2.cell (h5r.add 0)).bind AV.asBool).bind fun b76 =>
 (go (.fn F.kbk [.bool b76, l40.v]) q38.2).bind fun q77 =>
 (AV.asAgg q77.1).bind fun cs78 =>
 cond (Nat.beq cs78.length 2) (
 ((cs78[0]?).bind AV.asBool).bind fun b79 =>
 ((cs78[1]?).bind AV.asSl).bind fun l80 =>
 (go (.fn F.kbk [.bool false, l41.v]) q77.2).bind fun q81 =>
 (AV.asAgg q81.1).bind fun cs82 =>
 cond (Nat.beq cs82.length 2) (
 ((cs82[0]?).bind AV.asBool).bind fun b83 =>
 ((cs82[1]?).bind AV.asSl).bind fun l84 =>
 (q81.2.puts h7r [.bool b79, l80.v]).bind fun h85 =>
 (h85.puts h8r [.bool b83, l84.v]).bind fun h86 =>
 ((h86.cell (h7r.add 0)).bind AV.asBool).bind fun b87 =>
 ((h86.cell (h7r.add 1)).bind AV.asSl).bind fun l88 =>
 ((h86.cell (h8r.add 0)).bind AV.asBool).bind fun b89 =>
 ((h86.cell (h8r.add 1)).bind AV.asSl).bind fun l90 =>
 some (.tup [.agg [.bool b87, l88.v], .agg [.bool b89, l90.v], .int .i64 0], h86)) none) none)) (
 ((q38.2.cell (h5r.add 0)).bind AV.asBool).bind fun b91 =>
 (go (.fn F.kbk [.bool b91, l40.v]) q38.2).bind fun q92 =>
 (AV.asAgg q92.1).bind fun cs93 =>
 cond (Nat.beq cs93.length 2) (
 ((cs93[0]?).bind AV.asBool).bind fun b94 =>
 ((cs93[1]?).bind AV.asSl).bind fun l95 =>
 (go (.fn F.kbk [.bool false, l41.v]) q92.2).bind fun q96 =>
 (AV.asAgg q96.1).bind fun cs97 =>
 cond (Nat.beq cs97.length 2) (
 ((cs97[0]?).bind AV.asBool).bind fun b98 =>
 ((cs97[1]?).bind AV.asSl).bind fun l99 =>
 (q96.2.puts h7r [.bool b94, l95.v]).bind fun h100 =>
 (h100.puts h8r [.bool b98, l99.v]).bind fun h101 =>
 ((h101.cell (h7r.add 0)).bind AV.asBool).bind fun b102 =>
 ((h101.cell (h7r.add 1)).bind AV.asSl).bind fun l103 =>
 ((h101.cell (h8r.add 0)).bind AV.asBool).bind fun b104 =>
 ((h101.cell (h8r.add 1)).bind AV.asSl).bind fun l105 =>
 some (.tup [.agg [.bool b102, l103.v], .agg [.bool b104, l105.v], .int .i64 0], h101)) none) none)))) := (ke _ h).trans (by kernel_rfl)
theorem k2s (a1 : Sl) (a2 : Sl) (h : AH) : go (.fn F.kjb [a1.v, a2.v]) h =
 newK h (.cells [a1.v, a2.v] T.ku) fun h3r h3 =>
 (go (.fn F.kgf [(⟨some h3r, 2, .is 2⟩ : Sl).v]) h3).bind fun q4 =>
 ((some q4.1).bind AV.asBool).bind fun b5 =>
 cond (!b5) (
 some (.tup [(⟨none, 0, .is 0⟩ : Sl).v, .int .i64 1], q4.2)) (
 (go (.fn F.kcw [a1.v, a2.v]) q4.2).bind fun q6 =>
 ((some q6.1).bind AV.asSl).bind fun l7 =>
 (go (.fn F.klt [l7.v]) q6.2).bind fun q8 =>
 (AV.asTup2 q8.1).bind fun p9 =>
 ((some p9.1).bind AV.asSl).bind fun l10 =>
 ((some p9.2).bind (AV.asInt .i64)).bind fun n11 =>
 some (.tup [l10.v, .int .i64 n11], q8.2)) := (ke _ h).trans (by kernel_rfl)
theorem k3a (a1 : Sl) (a2 : Sl) (h : AH) : go (.fn F.khi [a1.v, a2.v]) h =
 cond (!decide ((a1.len : Int) = (a2.len : Int))) (
 cond (decide ((a1.len : Int) < (a2.len : Int))) (
 some (.int .i64 (-1), h)) (
 some (.int .i64 1, h))) (
 go (.pt F.khi Td.km3 [(0, a1.v), (1, a2.v), (5, .int .i64 (IntKind.wrap .i64 ((a1.len : Int) - 1)))]) h) := (ke _ h).trans (by kernel_rfl)
theorem k1q (a1 : Sl) (a2 : Sl) (h : AH) : go (.fn F.kfq [a1.v, a2.v]) h =
 go (.pt F.kfq Td.kj7 [(0, a1.v), (1, a2.v), (5, (⟨none, 0, .is 0⟩ : Sl).v), (6, .int .u64 0), (7, .int .i64 0)]) h := (ke _ h).trans (by kernel_rfl)
theorem k5h (a1 : Sl) (a2 : Sl) (h : AH) : go (.fn F.kcr [a1.v, a2.v]) h =
 (kbs (a1.len : Int) (a1.len : Int) T.kc (Pg.bytesOf T.kc) [.int .u64 0] h).bind fun q3 =>
 go (.pt F.kcr Td.kpj [(0, a1.v), (1, a2.v), (6, q3.1.v), (7, (⟨none, 0, .is 0⟩ : Sl).v), (8, .int .i64 (IntKind.wrap .i64 ((a1.len : Int) - 1)))]) q3.2 := (ke _ h).trans (by kernel_rfl)
theorem kbcp (a1 : Sl) (h : AH) : go (.fn F.kca [a1.v]) h =
 go (.pt F.kca Td.kim [(0, a1.v), (4, (⟨none, 0, .is 0⟩ : Sl).v), (5, .int .i64 0)]) h := (ke _ h).trans (by kernel_rfl)
theorem k5q (a1 : Int) (h : AH) : go (.fn F.kh1 [.int .u64 a1]) h =
 cond (decide (a1 < 128)) (
 some (.bool true, h)) (
 cond (decide (a1 ≥ 1099511627776)) (
 some (.bool true, h)) (
 (go (.fn F.kce [.int .u64 a1]) h).bind fun q2 =>
 ((some q2.1).bind (AV.asInt .u64)).bind fun n3 =>
 some (.bool (!decide (n3 = a1)), q2.2))) := (ke _ h).trans (by kernel_rfl)
theorem kbdu (a1 : Int) (h : AH) : go (.fn F.kf3 [.int .u64 a1]) h =
 cond (decide (a1 ≥ 4294967296)) (
 cond (decide ((ishr .u64 a1 32) ≥ 65536)) (
 cond (decide ((ishr .u64 (ishr .u64 a1 32) 16) ≥ 256)) (
 cond (decide (0 ≤ (IntKind.wrap .u8 (ishr .u64 (ishr .u64 (ishr .u64 a1 32) 16) 8)))) (
 (lit1[Int.toNat (IntKind.wrap .u8 (ishr .u64 (ishr .u64 (ishr .u64 a1 32) 16) 8))]?).bind fun b2 =>
 some (.int .i64 (IntKind.wrap .i64 ((IntKind.wrap .i64 ((IntKind.wrap .i64 (32 + 16)) + 8)) + (IntKind.wrap .i64 (b2.toNat : Int)))), h)) none) (
 cond (decide (0 ≤ (IntKind.wrap .u8 (ishr .u64 (ishr .u64 a1 32) 16)))) (
 (lit1[Int.toNat (IntKind.wrap .u8 (ishr .u64 (ishr .u64 a1 32) 16))]?).bind fun b3 =>
 some (.int .i64 (IntKind.wrap .i64 ((IntKind.wrap .i64 (32 + 16)) + (IntKind.wrap .i64 (b3.toNat : Int)))), h)) none)) (
 cond (decide ((ishr .u64 a1 32) ≥ 256)) (
 cond (decide (0 ≤ (IntKind.wrap .u8 (ishr .u64 (ishr .u64 a1 32) 8)))) (
 (lit1[Int.toNat (IntKind.wrap .u8 (ishr .u64 (ishr .u64 a1 32) 8))]?).bind fun b4 =>
 some (.int .i64 (IntKind.wrap .i64 ((IntKind.wrap .i64 (32 + 8)) + (IntKind.wrap .i64 (b4.toNat : Int)))), h)) none) (
 cond (decide (0 ≤ (IntKind.wrap .u8 (ishr .u64 a1 32)))) (
 (lit1[Int.toNat (IntKind.wrap .u8 (ishr .u64 a1 32))]?).bind fun b5 =>
 some (.int .i64 (IntKind.wrap .i64 (32 + (IntKind.wrap .i64 (b5.toNat : Int)))), h)) none))) (
 cond (decide (a1 ≥ 65536)) (
 cond (decide ((ishr .u64 a1 16) ≥ 256)) (
 cond (decide (0 ≤ (IntKind.wrap .u8 (ishr .u64 (ishr .u64 a1 16) 8)))) (
 (lit1[Int.toNat (IntKind.wrap .u8 (ishr .u64 (ishr .u64 a1 16) 8))]?).bind fun b6 =>
 some (.int .i64 (IntKind.wrap .i64 ((IntKind.wrap .i64 ((IntKind.wrap .i64 (0 + 16)) + 8)) + (IntKind.wrap .i64 (b6.toNat : Int)))), h)) none) (
 cond (decide (0 ≤ (IntKind.wrap .u8 (ishr .u64 a1 16)))) (
 (lit1[Int.toNat (IntKind.wrap .u8 (ishr .u64 a1 16))]?).bind fun b7 =>
 some (.int .i64 (IntKind.wrap .i64 ((IntKind.wrap .i64 (0 + 16)) + (IntKind.wrap .i64 (b7.toNat : Int)))), h)) none)) (
 cond (decide (a1 ≥ 256)) (
 cond (decide (0 ≤ (IntKind.wrap .u8 (ishr .u64 a1 8)))) (
 (lit1[Int.toNat (IntKind.wrap .u8 (ishr .u64 a1 8))]?).bind fun b8 =>
 some (.int .i64 (IntKind.wrap .i64 ((IntKind.wrap .i64 (0 + 8)) + (IntKind.wrap .i64 (b8.toNat : Int)))), h)) none) (
 cond (decide (0 ≤ (IntKind.wrap .u8 a1))) (
 (lit1[Int.toNat (IntKind.wrap .u8 a1)]?).bind fun b9 =>
 some (.int .i64 (IntKind.wrap .i64 (0 + (IntKind.wrap .i64 (b9.toNat : Int)))), h)) none))) := (ke _ h).trans (by kernel_rfl)
theorem k2l (a1 : Sl) (a2 : Sl) (h : AH) : go (.fn F.kfb [a1.v, a2.v]) h =
 (go (.fn F.kby [a1.v]) h).bind fun q3 =>
 ((some q3.1).bind AV.asBool).bind fun b4 =>
 cond (!b4) (
 some (.tup [(⟨none, 0, .is 0⟩ : Sl).v, .int .i64 1], q3.2)) (
 (go (.fn F.kby [a2.v]) q3.2).bind fun q5 =>
 ((some q5.1).bind AV.asBool).bind fun b6 =>
 cond (!b6) (
 some (.tup [(⟨none, 0, .is 0⟩ : Sl).v, .int .i64 1], q5.2)) (
 (go (.fn F.kfp [a1.v]) q5.2).bind fun q7 =>
 ((some q7.1).bind AV.asSl).bind fun l8 =>
 (go (.fn F.kfp [a2.v]) q7.2).bind fun q9 =>
 ((some q9.1).bind AV.asSl).bind fun l10 =>
 go (.pt F.kfb Td.kma [(0, l8.v), (1, l10.v)]) q9.2)) := (ke _ h).trans (by kernel_rfl)
theorem k26 (a1 : Sl) (h : AH) : go (.fn F.kgf [a1.v]) h =
 (go (.fn F.kkp [a1.v, .func (.func F.kdw) [] []]) h).bind fun q2 =>
 ((some q2.1).bind AV.asBool).bind fun b3 =>
 some (.bool (!b3), q2.2) := (ke _ h).trans (by kernel_rfl)
theorem k01 (a1 : Sl) (a2 : Sl) (h : AH) : go (.fn F.kpg [a1.v, a2.v]) h =
 newK h (.cells [.nilFunc] T.kbcm) fun h3r h3 =>
 (h3.puts h3r [.func (.func F.kl8) [] [.ptr (some h3r)]]).bind fun h4 =>
 (h4.cell h3r).bind fun v5 =>
 yieldK v5 [a1.v, a2.v] (fun y7 =>
 (go (.round y7.1 y7.2) h4).bind fun q6 =>
 ((some q6.1).bind AV.asSl).bind fun l9 =>
 some (l9.v, q6.2)) (
 (callV Pg go v5 [a1.v, a2.v] h4).bind fun q8 =>
 ((some q8.1).bind AV.asSl).bind fun l10 =>
 some (l10.v, q8.2)) := (ke _ h).trans (by kernel_rfl)
theorem k6o (a1 : Sl) (h : AH) : go (.fn F.klt [a1.v]) h =
 (go (.fn F.kbi [a1.v]) h).bind fun q2 =>
 ((some q2.1).bind AV.asSl).bind fun l3 =>
 cond (decide ((l3.len : Int) > 64)) (
 some (.tup [(⟨none, 0, .is 0⟩ : Sl).v, .int .i64 4], q2.2)) (
 some (.tup [l3.v, .int .i64 0], q2.2)) := (ke _ h).trans (by kernel_rfl)
theorem kzx (a1 : Sl) (a2 : Sl) (a3 : Int) (h : AH) : go (.pt F.kb5 Td.kk5 [(0, a1.v), (3, a2.v), (4, .int .i64 a3)]) h =
 cond (decide (a3 < (a1.len : Int))) (
 (idx a1.ref a1.len a3 1).bind fun r4 =>
 ((h.cell r4).bind (AV.asInt .u64)).bind fun n5 =>
 go (.pt F.kb5 Td.kn8 [(0, a1.v), (3, a2.v), (4, .int .i64 a3), (5, .int .u64 n5), (6, .int .i64 0)]) h) (
 (go (.fn F.kcs [a2.v]) h).bind fun q6 =>
 ((some q6.1).bind AV.asSl).bind fun l7 =>
 some (l7.v, q6.2)) := (ke _ h).trans (by kernel_rfl)
theorem kx4 (a1 : Sl) (a2 : Sl) (a3 : Sl) (a4 : Int) (a5 : Int) (h : AH) : go (.pt F.ker Td.kjd [(0, a1.v), (1, a2.v), (5, a3.v), (6, .int .u64 a4), (7, .int .i64 a5)]) h =
 cond (decide (a5 < (a1.len : Int))) (
 (go (.fn F.kg9 [a1.v, .int .i64 a5]) h).bind fun q6 =>
 ((some q6.1).bind (AV.asInt .u64)).bind fun n7 =>
 (go (.fn F.kg9 [a2.v, .int .i64 a5]) q6.2).bind fun q8 =>
 ((some q8.1).bind (AV.asInt .u64)).bind fun n9 =>
 newK q8.2 (.cells [.int .u64 (Int.tmod (IntKind.wrap .u64 ((IntKind.wrap .u64 (n7 + n9)) + a4)) 65536)] T.kc) fun h10r h10 =>
 (kcb Pg T.kc ((⟨some h10r, 1, .is 1⟩ : Sl).v) h10).bind fun p12 =>
 (kbd Pg a3 p12.1 p12.2 T.kc 1 h10).bind fun q11 =>
 (AV.asSl q11.1).bind fun l13 =>
 go (.pt F.ker Td.kjd [(0, a1.v), (1, a2.v), (5, l13.v), (6, .int .u64 (IntKind.wrap .u64 (Int.tdiv (IntKind.wrap .u64 ((IntKind.wrap .u64 (n7 + n9)) + a4)) 65536))), (7, .int .i64 (IntKind.wrap .i64 (a5 + 1)))]) q11.2) (
 cond (decide (a5 < (a2.len : Int))) (
 (go (.fn F.kg9 [a1.v, .int .i64 a5]) h).bind fun q14 =>
 ((some q14.1).bind (AV.asInt .u64)).bind fun n15 =>
 (go (.fn F.kg9 [a2.v, .int .i64 a5]) q14.2).bind fun q16 =>
 ((some q16.1).bind (AV.asInt .u64)).bind fun n17 =>
 newK q16.2 (.cells [.int .u64 (Int.tmod (IntKind.wrap .u64 ((IntKind.wrap .u64 (n15 + n17)) + a4)) 65536)] T.kc) fun h18r h18 =>
 (kcb Pg T.kc ((⟨some h18r, 1, .is 1⟩ : Sl).v) h18).bind fun p20 =>
 (kbd Pg a3 p20.1 p20.2 T.kc 1 h18).bind fun q19 =>
 (AV.asSl q19.1).bind fun l21 =>
 go (.pt F.ker Td.kjd [(0, a1.v), (1, a2.v), (5, l21.v), (6, .int .u64 (IntKind.wrap .u64 (Int.tdiv (IntKind.wrap .u64 ((IntKind.wrap .u64 (n15 + n17)) + a4)) 65536))), (7, .int .i64 (IntKind.wrap .i64 (a5 + 1)))]) q19.2) (
 newK h (.cells [.int .u64 a4] T.kc) fun h22r h22 =>
 (kcb Pg T.kc ((⟨some h22r, 1, .is 1⟩ : Sl).v) h22).bind fun p24 =>
 (kbd Pg a3 p24.1 p24.2 T.kc 1 h22).bind fun q23 =>
 (AV.asSl q23.1).bind fun l25 =>
 (go (.fn F.kcs [l25.v]) q23.2).bind fun q26 =>
 ((some q26.1).bind AV.asSl).bind fun l27 =>
 some (l27.v, q26.2))) := (ke _ h).trans (by kernel_rfl)
theorem k39 (a1 : Sl) (a2 : Sl) (a3 : Int) (a4 : Int) (h : AH) : go (.pt F.kc4 Td.knn [(0, a1.v), (10, a2.v), (11, .int .i64 a3), (12, .int .i64 a4)]) h =
 cond (decide (a4 < a3)) (
 (idx a2.ref a2.len a4 1).bind fun r5 =>
 ((h.cell r5).bind AV.asSl).bind fun l6 =>
 (go (.fn F.koh [a1.v, l6.v]) h).bind fun q7 =>
 ((some q7.1).bind AV.asBool).bind fun b8 =>
 cond (!b8) (
 some (.int .i64 11, q7.2)) (
 go (.pt F.kc4 Td.knn [(0, a1.v), (10, a2.v), (11, .int .i64 a3), (12, .int .i64 (IntKind.wrap .i64 (a4 + 1)))]) q7.2)) (
 some (.int .i64 0, h)) := (ke _ h).trans (by kernel_rfl)
theorem k3r (a1 : Sl) (h : AH) : go (.fn F.kby [a1.v]) h =
 cond (decide ((a1.len : Int) ≤ 64)) (
 cond (decide ((a1.len : Int) = 0)) (
 some (.bool true, h)) (
 (idx a1.ref a1.len (IntKind.wrap .i64 ((a1.len : Int) - 1)) 1).bind fun r2 =>
 ((h.cell r2).bind (AV.asInt .u64)).bind fun n3 =>
 some (.bool (!decide (n3 = 0)), h))) (
 some (.bool false, h)) := (ke _ h).trans (by kernel_rfl)
theorem k2z (a1 : Option Ref) (a2 : Sl) (a3 : Sl) (h : AH) : go (.fn F.kbv [.ptr a1, a2.v, a3.v]) h =
 newK h (.cells [a2.v] T.ku) fun h4r h4 =>
 (go (.fn F.kpw [.ptr a1, (⟨some h4r, 1, .is 1⟩ : Sl).v]) h4).bind fun q5 =>
 ((some q5.1).bind AV.asBool).bind fun b6 =>
 cond (!b6) (
 some (.tup [(⟨none, 0, .is 0⟩ : Sl).v, .int .i64 1], q5.2)) (
 (go (.fn F.kby [a3.v]) q5.2).bind fun q7 =>
 ((some q7.1).bind AV.asBool).bind fun b8 =>
 cond (!b8) (
 some (.tup [(⟨none, 0, .is 0⟩ : Sl).v, .int .i64 1], q7.2)) (
 cond (decide ((a3.len : Int) > 8)) (
 some (.tup [(⟨none, 0, .is 0⟩ : Sl).v, .int .i64 1], q7.2)) (
 a1.bind fun r9 =>
 ((q7.2.cell (r9.add 2)).bind AV.asSl).bind fun l10 =>
 newK q7.2 (.cells [l10.v] T.ku) fun h11r h11 =>
 a1.bind fun r12 =>
 ((h11.cell (r12.add 3)).bind AV.asSl).bind fun l13 =>
 (go (.fn F.kbb [.ptr a1, a2.v, l13.v]) h11).bind fun q14 =>
 ((some q14.1).bind AV.asSl).bind fun l15 =>
 go (.pt F.kbv Td.ko0 [(0, .ptr a1), (2, a3.v), (8, .func (.func F.kbb) [.ptr a1] []), (9, (⟨some h11r, 1, .is 1⟩ : Sl).v), (10, l15.v), (44, .int .i64 0)]) q14.2))) := (ke _ h).trans (by kernel_rfl)
theorem k5c (a1 : Sl) (a2 : Sl) (a3 : Sl) (a4 : Int) (h : AH) : go (.pt F.kck Td.knq [(0, a1.v), (1, a2.v), (5, a3.v), (6, .int .i64 a4)]) h =
 cond (decide (a4 < (a1.len : Int))) (
 go (.pt F.kck Td.kmb [(0, a1.v), (1, a2.v), (5, a3.v), (6, .int .i64 a4), (7, .int .u64 0), (8, .int .i64 0)]) h) (
 (go (.fn F.kcs [a3.v]) h).bind fun q5 =>
 ((some q5.1).bind AV.asSl).bind fun l6 =>
 some (l6.v, q5.2)) := (ke _ h).trans (by kernel_rfl)
theorem kbdh (a1 : Sl) (a2 : Sl) (a3 : Int) (a4 : Int) (a5 : Int) (a6 : Sl) (a7 : Int) (a8 : Int) (a9 : Sl) (a10 : Int) (a11 : Int) (h : AH) : go (.pt F.kcm Td.ko2 [(1, a1.v), (5, a2.v), (6, .int .i64 a3), (7, .int .u64 a4), (8, .int .u64 a5), (20, a6.v), (21, .int .i64 a7), (22, .int .i64 a8), (27, a9.v), (28, .int .i64 a10), (29, .int .i64 a11)]) h =
 cond (decide (a11 < a10)) (
 (idx a9.ref a9.len a11 1).bind fun r12 =>
 ((h.cell r12).bind (AV.asInt .u64)).bind fun n13 =>
 (go (.fn F.kjn [.int .u64 a4, .int .u64 n13]) h).bind fun q14 =>
 (AV.asTup2 q14.1).bind fun p15 =>
 ((some p15.1).bind (AV.asInt .u64)).bind fun n16 =>
 ((some p15.2).bind (AV.asInt .u64)).bind fun n17 =>
 (idx a2.ref a2.len (IntKind.wrap .i64 (a3 + a11)) 1).bind fun r18 =>
 ((q14.2.cell r18).bind (AV.asInt .u64)).bind fun n19 =>
 ((prim "math/bits.Add64" [.int .u64 n17, .int .u64 n19, .int .u64 0]).map fun v => (v, q14.2)).bind fun q20 =>
 (AV.asTup2 q20.1).bind fun p21 =>
 ((some p21.1).bind (AV.asInt .u64)).bind fun n22 =>
 ((some p21.2).bind (AV.asInt .u64)).bind fun n23 =>
 ((prim "math/bits.Add64" [.int .u64 n22, .int .u64 a5, .int .u64 0]).map fun v => (v, q20.2)).bind fun q24 =>
 (AV.asTup2 q24.1).bind fun p25 =>
 ((some p25.1).bind (AV.asInt .u64)).bind fun n26 =>
 ((some p25.2).bind (AV.asInt .u64)).bind fun n27 =>
 (idx a2.ref a2.len (IntKind.wrap .i64 (a3 + a11)) 1).bind fun r28 =>
 (q24.2.puts r28 [.int .u64 n26]).bind fun h29 =>
 go (.pt F.kcm Td.ko2 [(1, a1.v), (5, a2.v), (6, .int .i64 a3), (7, .int .u64 a4), (8, .int .u64 (IntKind.wrap .u64 ((IntKind.wrap .u64 (n16 + n23)) + n27))), (20, a6.v), (21, .int .i64 a7), (22, .int .i64 a8), (27, a9.v), (28, .int .i64 a10), (29, .int .i64 (IntKind.wrap .i64 (a11 + 1)))]) h29) (
 (idx a2.ref a2.len (IntKind.wrap .i64 (a3 + (a1.len : Int))) 1).bind fun r30 =>
 (h.puts r30 [.int .u64 a5]).bind fun h31 =>
 go (.pt F.kcm Td.knd [(1, a1.v), (5, a2.v), (20, a6.v), (21, .int .i64 a7), (22, .int .i64 (IntKind.wrap .i64 (a8 + 1)))]) h31) := (ke _ h).trans (by kernel_rfl)
theorem k6w (a1 : Sl) (h : AH) : go (.fn F.kje [a1.v]) h =
 (go (.fn F.kby [a1.v]) h).bind fun q2 =>
 ((some q2.1).bind AV.asBool).bind fun b3 =>
 cond (!b3) (
 some (.int .i64 0, q2.2)) (
 cond (decide ((a1.len : Int) = 0)) (
 some (.int .i64 0, q2.2)) (
 (idx a1.ref a1.len (IntKind.wrap .i64 ((a1.len : Int) - 1)) 1).bind fun r4 =>
 ((q2.2.cell r4).bind (AV.asInt .u64)).bind fun n5 =>
 (go (.fn F.kf3 [.int .u64 n5]) q2.2).bind fun q6 =>
 ((some q6.1).bind (AV.asInt .i64)).bind fun n7 =>
 some (.int .i64 (IntKind.wrap .i64 ((IntKind.wrap .i64 (64 * (IntKind.wrap .i64 ((a1.len : Int) - 1)))) + n7)), q6.2))) := (ke _ h).trans (by kernel_rfl)
theorem kbbw (a1 : Sl) (a2 : Int) (h : AH) : go (.fn F.ki1 [a1.v, .int .i64 a2]) h =
 (go (.fn F.kby [a1.v]) h).bind fun q3 =>
 ((some q3.1).bind AV.asBool).bind fun b4 =>
 cond b4 (
 cond (decide (a2 ≥ 0)) (
 cond (decide ((IntKind.wrap .i64 (Int.tdiv a2 64)) < (a1.len : Int))) (
 (idx a1.ref a1.len (IntKind.wrap .i64 (Int.tdiv a2 64)) 1).bind fun r5 =>
 ((q3.2.cell r5).bind (AV.asInt .u64)).bind fun n6 =>
 cond (decide ((Int.tmod a2 64) < 0)) none (
 some (.bool (decide ((iand .u64 (ishr .u64 n6 (Int.tmod a2 64)) 1) = 1)), q3.2))) (
 some (.bool false, q3.2))) (
 some (.bool false, q3.2))) (
 some (.bool false, q3.2)) := (ke _ h).trans (by kernel_rfl)
theorem kxx (a1 : Sl) (a2 : Int) (a3 : Int) (h : AH) : go (.pt F.kdg Td.kiv [(0, a1.v), (4, .int .u64 a2), (40, .int .i64 a3)]) h =
 cond (decide (a3 < 6)) (
 (idx a1.ref a1.len 0 1).bind fun r4 =>
 ((h.cell r4).bind (AV.asInt .u64)).bind fun n5 =>
 go (.pt F.kdg Td.kiv [(0, a1.v), (4, .int .u64 (IntKind.wrap .u64 (a2 * (IntKind.wrap .u64 (2 - (IntKind.wrap .u64 (n5 * a2))))))), (40, .int .i64 (IntKind.wrap .i64 (a3 + 1)))]) h) (
 (go (.fn F.kfp [a1.v]) h).bind fun q6 =>
 ((some q6.1).bind AV.asSl).bind fun l7 =>
 newK q6.2 (.cells [l7.v, .int .u64 (IntKind.wrap .u64 (0 - a2)), (⟨none, 0, .is 0⟩ : Sl).v, (⟨none, 0, .is 0⟩ : Sl).v] T.kcd) fun h8r h8 =>
 (go (.fn F.kkh [.ptr (some h8r), .int .i64 1]) h8).bind fun q9 =>
 ((some q9.1).bind AV.asSl).bind fun l10 =>
 (q9.2.puts (h8r.add 2) [l10.v]).bind fun h11 =>
 (go (.fn F.kkh [.ptr (some h8r), .int .i64 2]) h11).bind fun q12 =>
 ((some q12.1).bind AV.asSl).bind fun l13 =>
 (q12.2.puts (h8r.add 3) [l13.v]).bind fun h14 =>
 some (.tup [.ptr (some h8r), .int .i64 0], h14)) := (ke _ h).trans (by kernel_rfl)
theorem kbdi (a1 : Sl) (a2 : Sl) (h : AH) : go (.fn F.kgp [a1.v, a2.v]) h =
 newK h (.cells [a1.v, a2.v] T.ku) fun h3r h3 =>
 (go (.fn F.kgf [(⟨some h3r, 2, .is 2⟩ : Sl).v]) h3).bind fun q4 =>
 ((some q4.1).bind AV.asBool).bind fun b5 =>
 cond (!b5) (
 some (.tup [(⟨none, 0, .is 0⟩ : Sl).v, .int .i64 1], q4.2)) (
 (go (.fn F.kd9 [a1.v, a2.v]) q4.2).bind fun q6 =>
 ((some q6.1).bind (AV.asInt .i64)).bind fun n7 =>
 cond (decide (n7 < 0)) (
 some (.tup [(⟨none, 0, .is 0⟩ : Sl).v, .int .i64 2], q6.2)) (
 (go (.fn F.kct [a1.v, a2.v]) q6.2).bind fun q8 =>
 ((some q8.1).bind AV.asSl).bind fun l9 =>
 (go (.fn F.klt [l9.v]) q8.2).bind fun q10 =>
 (AV.asTup2 q10.1).bind fun p11 =>
 ((some p11.1).bind AV.asSl).bind fun l12 =>
 ((some p11.2).bind (AV.asInt .i64)).bind fun n13 =>
 some (.tup [l12.v, .int .i64 n13], q10.2))) := (ke _ h).trans (by kernel_rfl)
theorem k6c (a1 : Int) (h : AH) : go (.fn F.kpi [.int .i64 a1]) h =
 newK h (.cells [.bool false, (⟨none, 0, .is 0⟩ : Sl).v] T.kj) fun h2r h2 =>
 cond (decide (a1 < 0)) (
 (go (.fn F.kfc [.int .u64 (IntKind.wrap .u64 (0 - (IntKind.wrap .u64 a1)))]) h2).bind fun q3 =>
 ((some q3.1).bind AV.asSl).bind fun l4 =>
 (go (.fn F.kbk [.bool true, l4.v]) q3.2).bind fun q5 =>
 (AV.asAgg q5.1).bind fun cs6 =>
 cond (Nat.beq cs6.length 2) (
 ((cs6[0]?).bind AV.asBool).bind fun b7 =>
 ((cs6[1]?).bind AV.asSl).bind fun l8 =>
 (q5.2.puts h2r [.bool b7, l8.v]).bind fun h9 =>
 ((h9.cell (h2r.add 0)).bind AV.asBool).bind fun b10 =>
 ((h9.cell (h2r.add 1)).bind AV.asSl).bind fun l11 =>
 some (.agg [.bool b10, l11.v], h9)) none) (
 (go (.fn F.kfc [.int .u64 (IntKind.wrap .u64 a1)]) h2).bind fun q12 =>
 ((some q12.1).bind AV.asSl).bind fun l13 =>
 (go (.fn F.kbk [.bool false, l13.v]) q12.2).bind fun q14 =>
 (AV.asAgg q14.1).bind fun cs15 =>
 cond (Nat.beq cs15.length 2) (
 ((cs15[0]?).bind AV.asBool).bind fun b16 =>
 ((cs15[1]?).bind AV.asSl).bind fun l17 =>
 (q14.2.puts h2r [.bool b16, l17.v]).bind fun h18 =>
 ((h18.cell (h2r.add 0)).bind AV.asBool).bind fun b19 =>
 ((h18.cell (h2r.add 1)).bind AV.asSl).bind fun l20 =>
 some (.agg [.bool b19, l20.v], h18)) none) := (ke _ h).trans (by kernel_rfl)
theorem k8u (a1 : Sl) (a2 : Ref) (a3 : Ref) (a4 : Ref) (a5 : Ref) (a6 : Ref) (a7 : Ref) (a8 : Ref) (h : AH) : go (.pt F.ke5 Td.knh [(1, a1.v), (7, .ptr (some a2)), (9, .ptr (some a3)), (10, .ptr (some a4)), (12, .func (.func F.kjh) [] [.ptr (some a5), .ptr (some a6), .ptr (some a7), .ptr (some a8)])]) h =
 ((h.cell a2).bind AV.asSl).bind fun l9 =>
 cond (decide ((l9.len : Int) > 0)) (
 (go (.fn F.kjh [.ptr (some a5), .ptr (some a6), .ptr (some a7), .ptr (some a8)]) h).bind fun q10 =>
 (AV.asTup0 q10.1).bind fun _ =>
 go (.pt F.ke5 Td.knh [(1, a1.v), (7, .ptr (some a2)), (9, .ptr (some a3)), (10, .ptr (some a4)), (12, .func (.func F.kjh) [] [.ptr (some a5), .ptr (some a6), .ptr (some a7), .ptr (some a8)])]) q10.2) (
 ((h.cell a3).bind AV.asSl).bind fun l11 =>
 newK h (.cells [.int .u64 1] T.kc) fun h12r h12 =>
 (go (.fn F.kcj [l11.v, (⟨some h12r, 1, .is 1⟩ : Sl).v]) h12).bind fun q13 =>
 ((some q13.1).bind (AV.asInt .i64)).bind fun n14 =>
 cond (!decide (n14 = 0)) (
 some (.tup [(⟨none, 0, .is 0⟩ : Sl).v, .int .i64 6], q13.2)) (
 newK q13.2 (.cells [.bool false, (⟨none, 0, .is 0⟩ : Sl).v] T.kj) fun h15r h15 =>
 newK h15 (.cells [.bool false, (⟨none, 0, .is 0⟩ : Sl).v] T.kj) fun h16r h16 =>
 ((h16.cell (a4.add 0)).bind AV.asBool).bind fun b17 =>
 ((h16.cell (a4.add 1)).bind AV.asSl).bind fun l18 =>
 (go (.fn F.kbk [.bool false, a1.v]) h16).bind fun q19 =>
 (AV.asAgg q19.1).bind fun cs20 =>
 cond (Nat.beq cs20.length 2) (
 ((cs20[0]?).bind AV.asBool).bind fun b21 =>
 ((cs20[1]?).bind AV.asSl).bind fun l22 =>
 whenK (SameAt h16 q19.2 a4 2) (
 whenK (SameAt h16 q19.2 h16r 0) (
 whenK (SameAt h16 q19.2 h15r 0) (
 (go (.fn F.klg [.agg [.bool b17, l18.v], .agg [.bool b21, l22.v]]) q19.2).bind fun q23 =>
 (AV.asTup3 q23.1).bind fun p24 =>
 (AV.asAgg p24.1).bind fun cs25 =>
 cond (Nat.beq cs25.length 2) (
 ((cs25[0]?).bind AV.asBool).bind fun b26 =>
 ((cs25[1]?).bind AV.asSl).bind fun l27 =>
 (AV.asAgg p24.2.1).bind fun cs28 =>
 cond (Nat.beq cs28.length 2) (
 ((cs28[0]?).bind AV.asBool).bind fun b29 =>
 ((cs28[1]?).bind AV.asSl).bind fun l30 =>
 ((some p24.2.2).bind (AV.asInt .i64)).bind fun n31 =>
 whenK (SameAt q19.2 q23.2 h16r 0) (
 whenK (SameAt q19.2 q23.2 h15r 0) (
 (q23.2.puts h15r [.bool b26, l27.v]).bind fun h32 =>
 (h32.puts h16r [.bool b29, l30.v]).bind fun h33 =>
 ((h33.cell (h16r.add 1)).bind AV.asSl).bind fun l34 =>
 some (.tup [l34.v, .int .i64 n31], h33)))) none) none)))) none)) := (ke _ h).trans (by kernel_rfl)
theorem k8s (a1 : Sl) (a2 : Sl) (h : AH) : go (.fn F.kd9 [a1.v, a2.v]) h =
 cond (!decide ((a1.len : Int) = (a2.len : Int))) (
 cond (decide ((a1.len : Int) < (a2.len : Int))) (
 some (.int .i64 (-1), h)) (
 some (.int .i64 1, h))) (
 go (.pt F.kd9 Td.kni [(0, a1.v), (1, a2.v), (5, .int .i64 (IntKind.wrap .i64 ((a1.len : Int) - 1)))]) h) := (ke _ h).trans (by kernel_rfl)
theorem k97 (a1 : Sl) (h : AH) : go (.fn F.kfp [a1.v]) h =
 cond a1.ref.isNone (
 some ((⟨none, 0, .is 0⟩ : Sl).v, h)) (
 newK h (.cells [] T.kc) fun h2r h2 =>
 (kcb Pg T.kc a1.v h2).bind fun p4 =>
 (kbd Pg (⟨some h2r, 0, .is 0⟩ : Sl) p4.1 p4.2 T.kc 1 h2).bind fun q3 =>
 (AV.asSl q3.1).bind fun l5 =>
 some (l5.v, q3.2)) := (ke _ h).trans (by kernel_rfl)
theorem k8l (a1 : Sl) (a2 : Int) (h : AH) : go (.fn F.ke8 [a1.v, .int .u64 a2]) h =
 (kbs (a1.len : Int) (a1.len : Int) T.kc (Pg.bytesOf T.kc) [.int .u64 0] h).bind fun q3 =>
 go (.pt F.ke8 Td.ko1 [(0, a1.v), (1, .int .u64 a2), (6, q3.1.v), (7, .int .u64 0), (8, .int .i64 (IntKind.wrap .i64 ((a1.len : Int) - 1)))]) q3.2 := (ke _ h).trans (by kernel_rfl)
theorem kz9 (a1 : Int) (h : AH) : go (.fn F.kfc [.int .u64 a1]) h =
 newK h (.cells [.int .u64 a1] T.kc) fun h2r h2 =>
 (go (.fn F.kbi [(⟨some h2r, 1, .is 1⟩ : Sl).v]) h2).bind fun q3 =>
 ((some q3.1).bind AV.asSl).bind fun l4 =>
 some (l4.v, q3.2) := (ke _ h).trans (by kernel_rfl)
theorem k5o (a1 : Sl) (a2 : Sl) (h : AH) : go (.fn F.kb1 [a1.v, a2.v]) h =
 (idx a2.ref a2.len (IntKind.wrap .i64 ((a2.len : Int) - 1)) 1).bind fun r3 =>
 ((h.cell r3).bind (AV.asInt .u64)).bind fun n4 =>
 (go (.fn F.kpb [.int .u64 n4]) h).bind fun q5 =>
 ((some q5.1).bind (AV.asInt .i64)).bind fun n6 =>
 (go (.fn F.kee [a1.v, .int .u64 (IntKind.wrap .u64 n6)]) q5.2).bind fun q7 =>
 ((some q7.1).bind AV.asSl).bind fun l8 =>
 (go (.fn F.kee [a2.v, .int .u64 (IntKind.wrap .u64 n6)]) q7.2).bind fun q9 =>
 ((some q9.1).bind AV.asSl).bind fun l10 =>
 (go (.fn F.kbi [l10.v]) q9.2).bind fun q11 =>
 ((some q11.1).bind AV.asSl).bind fun l12 =>
 (kbs (IntKind.wrap .i64 ((l8.len : Int) - (l12.len : Int))) (IntKind.wrap .i64 ((l8.len : Int) - (l12.len : Int))) T.kc (Pg.bytesOf T.kc) [.int .u64 0] q11.2).bind fun q13 =>
 go (.pt F.kb1 Td.kne [(6, .int .u64 (IntKind.wrap .u64 n6)), (7, l8.v), (8, l12.v), (9, .int .i64 (l12.len : Int)), (10, q13.1.v), (11, .int .i64 (IntKind.wrap .i64 ((q13.1.len : Int) - 1)))]) q13.2 := (ke _ h).trans (by kernel_rfl)
theorem k45 (a1 : Sl) (h : AH) : go (.fn F.kg4 [a1.v]) h =
 (go (.fn F.kwj [a1.v, .func (.func F.kdr) [] []]) h).bind fun q2 =>
 ((some q2.1).bind AV.asBool).bind fun b3 =>
 some (.bool (!b3), q2.2) := (ke _ h).trans (by kernel_rfl)
theorem k0w (a1 : Bool) (a2 : Sl) (h : AH) : go (.fn F.krs [.agg [.bool a1, a2.v]]) h =
 newK h (.cells [.bool a1, a2.v] T.kj) fun h3r h3 =>
 newK h3 (.cells [.bool false, (⟨none, 0, .is 0⟩ : Sl).v] T.kj) fun h4r h4 =>
 ((h4.cell (h3r.add 0)).bind AV.asBool).bind fun b5 =>
 ((h4.cell (h3r.add 1)).bind AV.asSl).bind fun l6 =>
 (go (.fn F.kn9 [.agg [.bool b5, l6.v]]) h4).bind fun q7 =>
 ((some q7.1).bind AV.asBool).bind fun b8 =>
 cond (!b8) (
 (q7.2.puts h4r [.bool false, (⟨none, 0, .is 0⟩ : Sl).v]).bind fun h9 =>
 ((h9.cell (h4r.add 0)).bind AV.asBool).bind fun b10 =>
 ((h9.cell (h4r.add 1)).bind AV.asSl).bind fun l11 =>
 some (.agg [.bool b10, l11.v], h9)) (
 ((q7.2.cell (h3r.add 0)).bind AV.asBool).bind fun b12 =>
 ((q7.2.cell (h3r.add 1)).bind AV.asSl).bind fun l13 =>
 (go (.fn F.kbk [.bool (!b12), l13.v]) q7.2).bind fun q14 =>
 (AV.asAgg q14.1).bind fun cs15 =>
 cond (Nat.beq cs15.length 2) (
 ((cs15[0]?).bind AV.asBool).bind fun b16 =>
 ((cs15[1]?).bind AV.asSl).bind fun l17 =>
 (q14.2.puts h4r [.bool b16, l17.v]).bind fun h18 =>
 ((h18.cell (h4r.add 0)).bind AV.asBool).bind fun b19 =>
 ((h18.cell (h4r.add 1)).bind AV.asSl).bind fun l20 =>
 some (.agg [.bool b19, l20.v], h18)) none) := (ke _ h).trans (by kernel_rfl)
theorem k9l (a1 : Bool) (a2 : Sl) (a3 : Bool) (a4 : Sl) (h : AH) : go (.fn F.kqw [.agg [.bool a1, a2.v], .agg [.bool a3, a4.v]]) h =
 newK h (.cells [.bool a1, a2.v] T.kj) fun h5r h5 =>
 newK h5 (.cells [.bool a3, a4.v] T.kj) fun h6r h6 =>
 newK h6 (.cells [.bool false, (⟨none, 0, .is 0⟩ : Sl).v] T.kj) fun h7r h7 =>
 ((h7.cell (h5r.add 0)).bind AV.asBool).bind fun b8 =>
 ((h7.cell (h5r.add 1)).bind AV.asSl).bind fun l9 =>
 ((h7.cell (h6r.add 0)).bind AV.asBool).bind fun b10 =>
 ((h7.cell (h6r.add 1)).bind AV.asSl).bind fun l11 =>
 newK h7 (.cells [.bool b8, l9.v, .bool b10, l11.v] T.kj) fun h12r h12 =>
 (go (.fn F.kg4 [(⟨some h12r, 2, .is 2⟩ : Sl).v]) h12).bind fun q13 =>
 ((some q13.1).bind AV.asBool).bind fun b14 =>
 cond (!b14) (
 (q13.2.puts h7r [.bool false, (⟨none, 0, .is 0⟩ : Sl).v]).bind fun h15 =>
 ((h15.cell (h7r.add 0)).bind AV.asBool).bind fun b16 =>
 ((h15.cell (h7r.add 1)).bind AV.asSl).bind fun l17 =>
 some (.tup [.agg [.bool b16, l17.v], .int .i64 1], h15)) (
 ((q13.2.cell (h5r.add 0)).bind AV.asBool).bind fun b18 =>
 ((q13.2.cell (h6r.add 0)).bind AV.asBool).bind fun b19 =>
 cond (b18 == b19) (
 ((q13.2.cell (h5r.add 1)).bind AV.asSl).bind fun l20 =>
 ((q13.2.cell (h6r.add 1)).bind AV.asSl).bind fun l21 =>
 (go (.fn F.kjb [l20.v, l21.v]) q13.2).bind fun q22 =>
 (AV.asTup2 q22.1).bind fun p23 =>
 ((some p23.1).bind AV.asSl).bind fun l24 =>
 ((some p23.2).bind (AV.asInt .i64)).bind fun n25 =>
 ((q22.2.cell (h5r.add 0)).bind AV.asBool).bind fun b26 =>
 (go (.fn F.kbk [.bool b26, l24.v]) q22.2).bind fun q27 =>
 (AV.asAgg q27.1).bind fun cs28 =>
 cond (Nat.beq cs28.length 2) (
 ((cs28[0]?).bind AV.asBool).bind fun b29 =>
 ((cs28[1]?).bind AV.asSl).bind fun l30 =>
 (q27.2.puts h7r [.bool b29, l30.v]).bind fun h31 =>
 ((h31.cell (h7r.add 0)).bind AV.asBool).bind fun b32 =>
 ((h31.cell (h7r.add 1)).bind AV.asSl).bind fun l33 =>
 some (.tup [.agg [.bool b32, l33.v], .int .i64 n25], h31)) none) (
 ((q13.2.cell (h5r.add 1)).bind AV.asSl).bind fun l34 =>
 ((q13.2.cell (h6r.add 1)).bind AV.asSl).bind fun l35 =>
 (go (.fn F.kcj [l34.v, l35.v]) q13.2).bind fun q36 =>
 ((some q36.1).bind (AV.asInt .i64)).bind fun n37 =>
 cond (decide (n37 < 0)) (
 ((q36.2.cell (h6r.add 0)).bind AV.asBool).bind fun b38 =>
 ((q36.2.cell (h6r.add 1)).bind AV.asSl).bind fun l39 =>
 ((q36.2.cell (h5r.add 0)).bind AV.asBool).bind fun b40 =>
 ((q36.2.cell (h5r.add 1)).bind AV.asSl).bind fun l41 =>
 (q36.2.puts h5r [.bool b38, l39.v]).bind fun h42 =>
 (h42.puts h6r [.bool b40, l41.v]).bind fun h43 =>
 ((h43.cell (h5r.add 1)).bind AV.asSl).bind fun l44 =>
 ((h43.cell (h6r.add 1)).bind AV.asSl).bind fun l45 =>
 (go (.fn F.kgp [l44.v, l45.v]) h43).bind fun q46 =>
 (AV.asTup2 q46.1).bind fun p47 =>
 ((some p47.1).bind AV.asSl).bind fun l48 =>
 ((some p47.2).bind (AV.asInt .i64)).bind fun n49 =>
 ((q46.2.cell (h5r.add 0)).bind AV.asBool).bind fun b50 =>
 (go (.fn F.kbk [.bool b50, l48.v]) q46.2).bind fun q51 =>
 (AV.asAgg q51.1).bind fun cs52 =>
 cond (Nat.beq cs52.length 2) (
 ((cs52[0]?).bind AV.asBool).bind fun b53 =>
 ((cs52[1]?).bind AV.asSl).bind fun l54 =>
 (q51.2.puts h7r [.bool b53, l54.v]).bind fun h55 =>
 ((h55.cell (h7r.add 0)).bind AV.asBool).bind fun b56 =>
 ((h55.cell (h7r.add 1)).bind AV.asSl).bind fun l57 =>
 some (.tup [.agg [.bool b56, l57.v], .int .i64 n49], h55)) none) (
 ((q36.2.cell (h5r.add 1)).bind AV.asSl).bind fun l58 =>
 ((q36.2.cell (h6r.add 1)).bind AV.asSl).bind fun l59 =>
 (go (.fn F.kgp [l58.v, l59.v]) q36.2).bind fun q60 =>
 (AV.asTup2 q60.1).bind fun p61 =>
 ((some p61.1).bind AV.asSl).bind fun l62 =>
 ((some p61.2).bind (AV.asInt .i64)).bind fun n63 =>
 ((q60.2.cell (h5r.add 0)).bind AV.asBool).bind fun b64 =>
 (go (.fn F.kbk [.bool b64, l62.v]) q60.2).bind fun q65 =>
 (AV.asAgg q65.1).bind fun cs66 =>
 cond (Nat.beq cs66.length 2) (
 ((cs66[0]?).bind AV.asBool).bind fun b67 =>
 ((cs66[1]?).bind AV.asSl).bind fun l68 =>
 (q65.2.puts h7r [.bool b67, l68.v]).bind fun h69 =>
 ((h69.cell (h7r.add 0)).bind AV.asBool).bind fun b70 =>
 ((h69.cell (h7r.add 1)).bind AV.asSl).bind fun l71 =>
 some (.tup [.agg [.bool b70, l71.v], .int .i64 n63], h69)) none))) := (ke _ h).trans (by kernel_rfl)
theorem kvh (a1 : Sl) (a2 : Sl) (a3 : Int) (h : AH) : go (.pt F.khi Td.km3 [(0, a1.v), (1, a2.v), (5, .int .i64 a3)]) h =
 cond (decide (a3 ≥ 0)) (
 (idx a1.ref a1.len a3 1).bind fun r4 =>
 ((h.cell r4).bind (AV.asInt .u64)).bind fun n5 =>
 (idx a2.ref a2.len a3 1).bind fun r6 =>
 ((h.cell r6).bind (AV.asInt .u64)).bind fun n7 =>
 cond (decide (n5 < n7)) (
 some (.int .i64 (-1), h)) (
 (idx a1.ref a1.len a3 1).bind fun r8 =>
 ((h.cell r8).bind (AV.asInt .u64)).bind fun n9 =>
 (idx a2.ref a2.len a3 1).bind fun r10 =>
 ((h.cell r10).bind (AV.asInt .u64)).bind fun n11 =>
 cond (decide (n9 > n11)) (
 some (.int .i64 1, h)) (
 go (.pt F.khi Td.km3 [(0, a1.v), (1, a2.v), (5, .int .i64 (IntKind.wrap .i64 (a3 - 1)))]) h))) (
 some (.int .i64 0, h)) := (ke _ h).trans (by kernel_rfl)
theorem ky0 (a1 : Sl) (a2 : Sl) (a3 : Sl) (a4 : Int) (a5 : Int) (h : AH) : go (.pt F.kfq Td.kj7 [(0, a1.v), (1, a2.v), (5, a3.v), (6, .int .u64 a4), (7, .int .i64 a5)]) h =
 cond (decide (a5 < (a1.len : Int))) (
 (idx a1.ref a1.len a5 1).bind fun r6 =>
 ((h.cell r6).bind (AV.asInt .u64)).bind fun n7 =>
 (go (.fn F.kg9 [a2.v, .int .i64 a5]) h).bind fun q8 =>
 ((some q8.1).bind (AV.asInt .u64)).bind fun n9 =>
 whenK (SameAt h q8.2 r6 1) (
 newK q8.2 (.cells [.int .u64 (Int.tmod (IntKind.wrap .u64 ((IntKind.wrap .u64 ((IntKind.wrap .u64 (65536 + n7)) - n9)) - a4)) 65536)] T.kc) fun h10r h10 =>
 (kcb Pg T.kc ((⟨some h10r, 1, .is 1⟩ : Sl).v) h10).bind fun p12 =>
 (kbd Pg a3 p12.1 p12.2 T.kc 1 h10).bind fun q11 =>
 (AV.asSl q11.1).bind fun l13 =>
 go (.pt F.kfq Td.kj7 [(0, a1.v), (1, a2.v), (5, l13.v), (6, .int .u64 (IntKind.wrap .u64 (1 - (IntKind.wrap .u64 (Int.tdiv (IntKind.wrap .u64 ((IntKind.wrap .u64 ((IntKind.wrap .u64 (65536 + n7)) - n9)) - a4)) 65536))))), (7, .int .i64 (IntKind.wrap .i64 (a5 + 1)))]) q11.2)) (
 (go (.fn F.kcs [a3.v]) h).bind fun q14 =>
 ((some q14.1).bind AV.asSl).bind fun l15 =>
 some (l15.v, q14.2)) := (ke _ h).trans (by kernel_rfl)
theorem kbbr (a1 : Sl) (a2 : Sl) (a3 : Sl) (a4 : Sl) (a5 : Int) (h : AH) : go (.pt F.kcr Td.kpj [(0, a1.v), (1, a2.v), (6, a3.v), (7, a4.v), (8, .int .i64 a5)]) h =
 cond (decide (a5 ≥ 0)) (
 (idx a1.ref a1.len a5 1).bind fun r6 =>
 ((h.cell r6).bind (AV.asInt .u64)).bind fun n7 =>
 newK h (.cells [.int .u64 n7] T.kc) fun h8r h8 =>
 (kcb Pg T.kc a4.v h8).bind fun p10 =>
 (kbd Pg (⟨some h8r, 1, .is 1⟩ : Sl) p10.1 p10.2 T.kc 1 h8).bind fun q9 =>
 (AV.asSl q9.1).bind fun l11 =>
 (go (.fn F.kcs [l11.v]) q9.2).bind fun q12 =>
 ((some q12.1).bind AV.asSl).bind fun l13 =>
 go (.pt F.kcr Td.kjt [(0, a1.v), (1, a2.v), (6, a3.v), (7, l13.v), (8, .int .i64 a5), (9, .int .u64 0), (10, .int .u64 65535)]) q12.2) (
 (go (.fn F.kcs [a3.v]) h).bind fun q14 =>
 ((some q14.1).bind AV.asSl).bind fun l15 =>
 some (.tup [l15.v, a4.v], q14.2)) := (ke _ h).trans (by kernel_rfl)
theorem kw7 (a1 : Sl) (a2 : Sl) (a3 : Int) (h : AH) : go (.pt F.kca Td.kim [(0, a1.v), (4, a2.v), (5, .int .i64 a3)]) h =
 cond (decide (a3 < (a1.len : Int))) (
 go (.pt F.kca Td.kle [(0, a1.v), (4, a2.v), (5, .int .i64 a3), (6, .int .u64 0), (7, .int .i64 3)]) h) (
 some (.tup [a2.v, .bool (decide ((a2.len : Int) ≤ 64))], h)) := (ke _ h).trans (by kernel_rfl)
theorem k3l (a1 : Int) (h : AH) : go (.fn F.kce [.int .u64 a1]) h =
 newK h (.cells [.int .u64 a1] T.kc) fun h2r h2 =>
 newK h2 (.cells [.int .u64 0] T.kc) fun h3r h3 =>
 ((h3.cell h2r).bind (AV.asInt .u64)).bind fun n4 =>
 (go (.fn F.kyu [.int .u64 n4]) h3).bind fun q5 =>
 go (.pt F.kce Tr.ks0 [(0, .int .u64 a1), (1, .ptr (some h2r)), (2, .ptr (some h3r)), (4, .int .u64 n4), (5, q5.1)]) q5.2 := (ke _ h).trans (by kernel_rfl)
theorem kbcu (a1 : Sl) (a2 : Sl) (h : AH) : go (.pt F.kfb Td.kma [(0, a1.v), (1, a2.v)]) h =
 cond (decide ((a2.len : Int) > 0)) (
 (go (.fn F.kc0 [a1.v, a2.v]) h).bind fun q3 =>
 (AV.asTup3 q3.1).bind fun p4 =>
 ((some p4.1).bind AV.asSl).bind fun l5 =>
 ((some p4.2.1).bind AV.asSl).bind fun l6 =>
 ((some p4.2.2).bind (AV.asInt .i64)).bind fun n7 =>
 go (.pt F.kfb Td.kma [(0, a2.v), (1, l6.v)]) q3.2) (
 some (.tup [a1.v, .int .i64 0], h)) := (ke _ h).trans (by kernel_rfl)
theorem k9s (a1 : Sl) (h : AH) : go (.fn F.kkp [a1.v, .func (.func F.kdw) [] []]) h =
 (go (.fn F.kc1 [a1.v, .func (.func F.kdw) [] []]) h).bind fun q2 =>
 ((some q2.1).bind (AV.asInt .i64)).bind fun n3 =>
 some (.bool (decide (n3 ≥ 0)), q2.2) := (ke _ h).trans (by kernel_rfl)
theorem kwm (a1 : Sl) (a2 : Sl) (a3 : Int) (a4 : Int) (a5 : Int) (h : AH) : go (.pt F.kb5 Td.kn8 [(0, a1.v), (3, a2.v), (4, .int .i64 a3), (5, .int .u64 a4), (6, .int .i64 a5)]) h =
 cond (decide (a5 < 4)) (
 newK h (.cells [.int .u64 (Int.tmod a4 65536)] T.kc) fun h6r h6 =>
 (kcb Pg T.kc ((⟨some h6r, 1, .is 1⟩ : Sl).v) h6).bind fun p8 =>
 (kbd Pg a2 p8.1 p8.2 T.kc 1 h6).bind fun q7 =>
 (AV.asSl q7.1).bind fun l9 =>
 go (.pt F.kb5 Td.kn8 [(0, a1.v), (3, l9.v), (4, .int .i64 a3), (5, .int .u64 (IntKind.wrap .u64 (Int.tdiv a4 65536))), (6, .int .i64 (IntKind.wrap .i64 (a5 + 1)))]) q7.2) (
 go (.pt F.kb5 Td.kk5 [(0, a1.v), (3, a2.v), (4, .int .i64 (IntKind.wrap .i64 (a3 + 1)))]) h) := (ke _ h).trans (by kernel_rfl)
theorem k0b (a1 : Sl) (h : AH) : go (.fn F.kcs [a1.v]) h =
 go (.pt F.kcs Td.km4 [(0, a1.v), (3, .int .i64 (a1.len : Int))]) h := (ke _ h).trans (by kernel_rfl)
theorem kbed (a1 : Sl) (a2 : Int) (h : AH) : go (.fn F.kg9 [a1.v, .int .i64 a2]) h =
 cond (decide (a2 < (a1.len : Int))) (
 (idx a1.ref a1.len a2 1).bind fun r3 =>
 ((h.cell r3).bind (AV.asInt .u64)).bind fun n4 =>
 some (.int .u64 n4, h)) (
 some (.int .u64 0, h)) := (ke _ h).trans (by kernel_rfl)
theorem k6e (a1 : Option Ref) (a2 : Sl) (h : AH) : go (.fn F.kpw [.ptr a1, a2.v]) h =
 newK h (.cells [.ptr a1] T.kmz) fun h3r h3 =>
 (go (.fn F.kkp [a2.v, .func (.func F.kc6) [] [.ptr (some h3r)]]) h3).bind fun q4 =>
 ((some q4.1).bind AV.asBool).bind fun b5 =>
 some (.bool (!b5), q4.2) := (ke _ h).trans (by kernel_rfl)
theorem k5z (a1 : Option Ref) (a2 : Sl) (a3 : Sl) (h : AH) : go (.fn F.kbb [.ptr a1, a2.v, a3.v]) h =
 a1.bind fun r4 =>
 ((h.cell (r4.add 0)).bind AV.asSl).bind fun l5 =>
 (kbs (IntKind.wrap .i64 ((l5.len : Int) + 2)) (IntKind.wrap .i64 ((l5.len : Int) + 2)) T.kc (Pg.bytesOf T.kc) [.int .u64 0] h).bind fun q6 =>
 go (.pt F.kbb Td.kkg [(0, .ptr a1), (1, a2.v), (2, a3.v), (7, .int .i64 (l5.len : Int)), (8, q6.1.v), (20, .int .i64 (l5.len : Int)), (21, .int .i64 0)]) q6.2 := (ke _ h).trans (by kernel_rfl)
theorem kba1 (a1 : Option Ref) (a2 : Sl) (a3 : Option Ref) (a4 : Sl) (a5 : Sl) (a6 : Int) (h : AH) : go (.pt F.kbv Td.ko0 [(0, .ptr a1), (2, a2.v), (8, .func (.func F.kbb) [.ptr a3] []), (9, a4.v), (10, a5.v), (44, .int .i64 a6)]) h =
 cond (decide (a6 < 15)) (
 (idx a4.ref a4.len (IntKind.wrap .i64 ((a4.len : Int) - 1)) 1).bind fun r7 =>
 ((h.cell r7).bind AV.asSl).bind fun l8 =>
 (go (.fn F.kbb [.ptr a3, l8.v, a5.v]) h).bind fun q9 =>
 ((some q9.1).bind AV.asSl).bind fun l10 =>
 newK q9.2 (.cells [l10.v] T.ku) fun h11r h11 =>
 (kcb Pg T.ku ((⟨some h11r, 1, .is 1⟩ : Sl).v) h11).bind fun p13 =>
 (kbd Pg a4 p13.1 p13.2 T.ku 1 h11).bind fun q12 =>
 (AV.asSl q12.1).bind fun l14 =>
 go (.pt F.kbv Td.ko0 [(0, .ptr a1), (2, a2.v), (8, .func (.func F.kbb) [.ptr a3] []), (9, l14.v), (10, a5.v), (44, .int .i64 (IntKind.wrap .i64 (a6 + 1)))]) q12.2) (
 a1.bind fun r15 =>
 ((h.cell (r15.add 2)).bind AV.asSl).bind fun l16 =>
 (go (.fn F.kje [a2.v]) h).bind fun q17 =>
 ((some q17.1).bind (AV.asInt .i64)).bind fun n18 =>
 go (.pt F.kbv Td.ko7 [(2, a2.v), (8, .func (.func F.kbb) [.ptr a3] []), (9, a4.v), (11, l16.v), (12, .int .i64 (IntKind.wrap .i64 (Int.tdiv (IntKind.wrap .i64 ((IntKind.wrap .i64 (n18 + 4)) - 1)) 4)))]) q17.2) := (ke _ h).trans (by kernel_rfl)
theorem k9v (a1 : Sl) (a2 : Sl) (a3 : Sl) (a4 : Int) (a5 : Int) (a6 : Int) (h : AH) : go (.pt F.kck Td.kmb [(0, a1.v), (1, a2.v), (5, a3.v), (6, .int .i64 a4), (7, .int .u64 a5), (8, .int .i64 a6)]) h =
 cond (decide (a6 < (a2.len : Int))) (
 (idx a3.ref a3.len (IntKind.wrap .i64 (a4 + a6)) 1).bind fun r7 =>
 ((h.cell r7).bind (AV.asInt .u64)).bind fun n8 =>
 (idx a1.ref a1.len a4 1).bind fun r9 =>
 ((h.cell r9).bind (AV.asInt .u64)).bind fun n10 =>
 (idx a2.ref a2.len a6 1).bind fun r11 =>
 ((h.cell r11).bind (AV.asInt .u64)).bind fun n12 =>
 (idx a3.ref a3.len (IntKind.wrap .i64 (a4 + a6)) 1).bind fun r13 =>
 (h.puts r13 [.int .u64 (Int.tmod (IntKind.wrap .u64 ((IntKind.wrap .u64 (n8 + (IntKind.wrap .u64 (n10 * n12)))) + a5)) 65536)]).bind fun h14 =>
 go (.pt F.kck Td.kmb [(0, a1.v), (1, a2.v), (5, a3.v), (6, .int .i64 a4), (7, .int .u64 (IntKind.wrap .u64 (Int.tdiv (IntKind.wrap .u64 ((IntKind.wrap .u64 (n8 + (IntKind.wrap .u64 (n10 * n12)))) + a5)) 65536))), (8, .int .i64 (IntKind.wrap .i64 (a6 + 1)))]) h14) (
 (idx a3.ref a3.len (IntKind.wrap .i64 (a4 + (a2.len : Int))) 1).bind fun r15 =>
 (h.puts r15 [.int .u64 a5]).bind fun h16 =>
 go (.pt F.kck Td.knq [(0, a1.v), (1, a2.v), (5, a3.v), (6, .int .i64 (IntKind.wrap .i64 (a4 + 1)))]) h16) := (ke _ h).trans (by kernel_rfl)
theorem kbbc (a1 : Int) (a2 : Int) (h : AH) : go (.fn F.kjn [.int .u64 a1, .int .u64 a2]) h =
 some (.tup [.int .u64 (IntKind.wrap .u64 ((IntKind.wrap .u64 ((IntKind.wrap .u64 ((ishr .u64 a1 32) * (ishr .u64 a2 32))) + (ishr .u64 (IntKind.wrap .u64 ((IntKind.wrap .u64 ((ishr .u64 a1 32) * (iand .u64 a2 4294967295))) + (ishr .u64 (IntKind.wrap .u64 ((iand .u64 a1 4294967295) * (iand .u64 a2 4294967295))) 32))) 32))) + (ishr .u64 (IntKind.wrap .u64 ((iand .u64 (IntKind.wrap .u64 ((IntKind.wrap .u64 ((ishr .u64 a1 32) * (iand .u64 a2 4294967295))) + (ishr .u64 (IntKind.wrap .u64 ((iand .u64 a1 4294967295) * (iand .u64 a2 4294967295))) 32))) 4294967295) + (IntKind.wrap .u64 ((iand .u64 a1 4294967295) * (ishr .u64 a2 32))))) 32))), .int .u64 (IntKind.wrap .u64 (a1 * a2))], h) := (ke _ h).trans (by kernel_rfl)
theorem kbfd (a1 : Option Ref) (a2 : Int) (h : AH) : go (.fn F.kkh [.ptr a1, .int .i64 a2]) h =
 a1.bind fun r3 =>
 ((h.cell (r3.add 0)).bind AV.asSl).bind fun l4 =>
 (kbs (IntKind.wrap .i64 ((IntKind.wrap .i64 (a2 * (l4.len : Int))) + 1)) (IntKind.wrap .i64 ((IntKind.wrap .i64 (a2 * (l4.len : Int))) + 1)) T.kc (Pg.bytesOf T.kc) [.int .u64 0] h).bind fun q5 =>
 a1.bind fun r6 =>
 ((q5.2.cell (r6.add 0)).bind AV.asSl).bind fun l7 =>
 (idx q5.1.ref q5.1.len (IntKind.wrap .i64 (a2 * (l7.len : Int))) 1).bind fun r8 =>
 (q5.2.puts r8 [.int .u64 1]).bind fun h9 =>
 a1.bind fun r10 =>
 ((h9.cell (r10.add 0)).bind AV.asSl).bind fun l11 =>
 (go (.fn F.kc0 [q5.1.v, l11.v]) h9).bind fun q12 =>
 (AV.asTup3 q12.1).bind fun p13 =>
 ((some p13.1).bind AV.asSl).bind fun l14 =>
 ((some p13.2.1).bind AV.asSl).bind fun l15 =>
 ((some p13.2.2).bind (AV.asInt .i64)).bind fun n16 =>
 some (l15.v, q12.2) := (ke _ h).trans (by kernel_rfl)
theorem k7j (a1 : Ref) (a2 : Ref) (a3 : Ref) (a4 : Ref) (h : AH) : go (.fn F.kjh [.ptr (some a1), .ptr (some a2), .ptr (some a3), .ptr (some a4)]) h =
 ((h.cell a1).bind AV.asSl).bind fun l5 =>
 ((h.cell a2).bind AV.asSl).bind fun l6 =>
 (go (.fn F.kc0 [l5.v, l6.v]) h).bind fun q7 =>
 (AV.asTup3 q7.1).bind fun p8 =>
 ((some p8.1).bind AV.asSl).bind fun l9 =>
 ((some p8.2.1).bind AV.asSl).bind fun l10 =>
 ((some p8.2.2).bind (AV.asInt .i64)).bind fun n11 =>
 newK q7.2 (.cells [.bool false, (⟨none, 0, .is 0⟩ : Sl).v] T.kj) fun h12r h12 =>
 ((h12.cell (a3.add 0)).bind AV.asBool).bind fun b13 =>
 ((h12.cell (a3.add 1)).bind AV.asSl).bind fun l14 =>
 (go (.fn F.kbk [.bool false, l9.v]) h12).bind fun q15 =>
 (AV.asAgg q15.1).bind fun cs16 =>
 cond (Nat.beq cs16.length 2) (
 ((cs16[0]?).bind AV.asBool).bind fun b17 =>
 ((cs16[1]?).bind AV.asSl).bind fun l18 =>
 whenK (SameAt h12 q15.2 a3 2) (
 whenK (SameAt h12 q15.2 h12r 0) (
 (go (.fn F.kng [.agg [.bool b17, l18.v], .agg [.bool b13, l14.v]]) q15.2).bind fun q19 =>
 (AV.asTup2 q19.1).bind fun p20 =>
 (AV.asAgg p20.1).bind fun cs21 =>
 cond (Nat.beq cs21.length 2) (
 ((cs21[0]?).bind AV.asBool).bind fun b22 =>
 ((cs21[1]?).bind AV.asSl).bind fun l23 =>
 ((some p20.2).bind (AV.asInt .i64)).bind fun n24 =>
 whenK (SameAt q15.2 q19.2 h12r 0) (
 (q19.2.puts h12r [.bool b22, l23.v]).bind fun h25 =>
 ((h25.cell (a4.add 0)).bind AV.asBool).bind fun b26 =>
 ((h25.cell (a4.add 1)).bind AV.asSl).bind fun l27 =>
 ((h25.cell (h12r.add 0)).bind AV.asBool).bind fun b28 =>
 ((h25.cell (h12r.add 1)).bind AV.asSl).bind fun l29 =>
 (go (.fn F.kow [.agg [.bool b26, l27.v], .agg [.bool b28, l29.v]]) h25).bind fun q30 =>
 (AV.asTup2 q30.1).bind fun p31 =>
 (AV.asAgg p31.1).bind fun cs32 =>
 cond (Nat.beq cs32.length 2) (
 ((cs32[0]?).bind AV.asBool).bind fun b33 =>
 ((cs32[1]?).bind AV.asSl).bind fun l34 =>
 ((some p31.2).bind (AV.asInt .i64)).bind fun n35 =>
 newK q30.2 (.cells [.bool false, (⟨none, 0, .is 0⟩ : Sl).v] T.kj) fun h36r h36 =>
 (h36.puts h36r [.bool b33, l34.v]).bind fun h37 =>
 ((h37.cell a2).bind AV.asSl).bind fun l38 =>
 ((h37.cell (a3.add 0)).bind AV.asBool).bind fun b39 =>
 ((h37.cell (a3.add 1)).bind AV.asSl).bind fun l40 =>
 ((h37.cell (h36r.add 0)).bind AV.asBool).bind fun b41 =>
 ((h37.cell (h36r.add 1)).bind AV.asSl).bind fun l42 =>
 (h37.puts a1 [l38.v]).bind fun h43 =>
 whenK (SameAt h37 h43 h36r 2) (
 whenK (SameAt h37 h43 a3 2) (
 (h43.puts a2 [l10.v]).bind fun h44 =>
 whenK (SameAt h43 h44 h36r 2) (
 whenK (SameAt h43 h44 a3 2) (
 (h44.puts a4 [.bool b39, l40.v]).bind fun h45 =>
 whenK (SameAt h44 h45 h36r 2) (
 (h45.puts a3 [.bool b41, l42.v]).bind fun h46 =>
 some (.tup [], h46))))))) none)) none))) none := (ke _ h).trans (by kernel_rfl)
theorem kxi (a1 : Sl) (a2 : Sl) (a3 : Int) (h : AH) : go (.pt F.kd9 Td.kni [(0, a1.v), (1, a2.v), (5, .int .i64 a3)]) h =
 cond (decide (a3 ≥ 0)) (
 (idx a1.ref a1.len a3 1).bind fun r4 =>
 ((h.cell r4).bind (AV.asInt .u64)).bind fun n5 =>
 (idx a2.ref a2.len a3 1).bind fun r6 =>
 ((h.cell r6).bind (AV.asInt .u64)).bind fun n7 =>
 cond (!decide (n5 = n7)) (
 (idx a1.ref a1.len a3 1).bind fun r8 =>
 ((h.cell r8).bind (AV.asInt .u64)).bind fun n9 =>
 (idx a2.ref a2.len a3 1).bind fun r10 =>
 ((h.cell r10).bind (AV.asInt .u64)).bind fun n11 =>
 cond (decide (n9 < n11)) (
 some (.int .i64 (-1), h)) (
 some (.int .i64 1, h))) (
 go (.pt F.kd9 Td.kni [(0, a1.v), (1, a2.v), (5, .int .i64 (IntKind.wrap .i64 (a3 - 1)))]) h)) (
 some (.int .i64 0, h)) := (ke _ h).trans (by kernel_rfl)
theorem kbes (a1 : Sl) (a2 : Int) (a3 : Sl) (a4 : Int) (a5 : Int) (h : AH) : go (.pt F.ke8 Td.ko1 [(0, a1.v), (1, .int .u64 a2), (6, a3.v), (7, .int .u64 a4), (8, .int .i64 a5)]) h =
 cond (decide (a5 ≥ 0)) (
 (idx a1.ref a1.len a5 1).bind fun r6 =>
 ((h.cell r6).bind (AV.asInt .u64)).bind fun n7 =>
 (go (.fn F.kbn [.int .u64 a4, .int .u64 n7, .int .u64 a2]) h).bind fun q8 =>
 (AV.asTup2 q8.1).bind fun p9 =>
 ((some p9.1).bind (AV.asInt .u64)).bind fun n10 =>
 ((some p9.2).bind (AV.asInt .u64)).bind fun n11 =>
 (idx a3.ref a3.len a5 1).bind fun r12 =>
 (q8.2.puts r12 [.int .u64 n10]).bind fun h13 =>
 go (.pt F.ke8 Td.ko1 [(0, a1.v), (1, .int .u64 a2), (6, a3.v), (7, .int .u64 n11), (8, .int .i64 (IntKind.wrap .i64 (a5 - 1)))]) h13) (
 (go (.fn F.kbi [a3.v]) h).bind fun q14 =>
 ((some q14.1).bind AV.asSl).bind fun l15 =>
 some (.tup [l15.v, .int .u64 a4], q14.2)) := (ke _ h).trans (by kernel_rfl)
theorem kbc3 (a1 : Int) (h : AH) : go (.fn F.kpb [.int .u64 a1]) h =
 (go (.fn F.kf3 [.int .u64 a1]) h).bind fun q2 =>
 ((some q2.1).bind (AV.asInt .i64)).bind fun n3 =>
 some (.int .i64 (IntKind.wrap .i64 (64 - n3)), q2.2) := (ke _ h).trans (by kernel_rfl)
theorem k4t (a1 : Sl) (a2 : Int) (h : AH) : go (.fn F.kee [a1.v, .int .u64 a2]) h =
 (kbs (IntKind.wrap .i64 ((a1.len : Int) + 1)) (IntKind.wrap .i64 ((a1.len : Int) + 1)) T.kc (Pg.bytesOf T.kc) [.int .u64 0] h).bind fun q3 =>
 go (.pt F.kee Td.kla [(1, .int .u64 a2), (5, q3.1.v), (12, a1.v), (13, .int .i64 (a1.len : Int)), (14, .int .i64 0)]) q3.2 := (ke _ h).trans (by kernel_rfl)
theorem k5f (a1 : Int) (a2 : Sl) (a3 : Sl) (a4 : Int) (a5 : Sl) (a6 : Int) (h : AH) : go (.pt F.kb1 Td.kne [(6, .int .u64 a1), (7, a2.v), (8, a3.v), (9, .int .i64 a4), (10, a5.v), (11, .int .i64 a6)]) h =
 cond (decide (a6 ≥ 0)) (
 (idx a2.ref a2.len (IntKind.wrap .i64 (a6 + a4)) 1).bind fun r7 =>
 ((h.cell r7).bind (AV.asInt .u64)).bind fun n8 =>
 (idx a2.ref a2.len (IntKind.wrap .i64 ((IntKind.wrap .i64 (a6 + a4)) - 1)) 1).bind fun r9 =>
 ((h.cell r9).bind (AV.asInt .u64)).bind fun n10 =>
 (idx a2.ref a2.len (IntKind.wrap .i64 ((IntKind.wrap .i64 (a6 + a4)) - 2)) 1).bind fun r11 =>
 ((h.cell r11).bind (AV.asInt .u64)).bind fun n12 =>
 (idx a3.ref a3.len (IntKind.wrap .i64 (a4 - 1)) 1).bind fun r13 =>
 ((h.cell r13).bind (AV.asInt .u64)).bind fun n14 =>
 (idx a3.ref a3.len (IntKind.wrap .i64 (a4 - 2)) 1).bind fun r15 =>
 ((h.cell r15).bind (AV.asInt .u64)).bind fun n16 =>
 (go (.fn F.ke9 [.int .u64 n8, .int .u64 n10, .int .u64 n12, .int .u64 n14, .int .u64 n16]) h).bind fun q17 =>
 ((some q17.1).bind (AV.asInt .u64)).bind fun n18 =>
 (cutSl a2 a6 (IntKind.wrap .i64 ((IntKind.wrap .i64 (a6 + a4)) + 1)) 1).bind fun l19 =>
 go (.pt F.kb1 Td.kmc [(6, .int .u64 a1), (7, a2.v), (8, a3.v), (9, .int .i64 a4), (10, a5.v), (11, .int .i64 a6), (12, .int .u64 n18), (13, l19.v)]) q17.2) (
 (go (.fn F.kbi [a2.v]) h).bind fun q20 =>
 ((some q20.1).bind AV.asSl).bind fun l21 =>
 (kbs (l21.len : Int) (l21.len : Int) T.kc (Pg.bytesOf T.kc) [.int .u64 0] q20.2).bind fun q22 =>
 go (.pt F.kb1 Td.ki3 [(6, .int .u64 a1), (10, a5.v), (15, l21.v), (16, q22.1.v), (112, .int .i64 (l21.len : Int)), (113, .int .i64 0)]) q22.2) := (ke _ h).trans (by kernel_rfl)
theorem kbet (a1 : Sl) (h : AH) : go (.fn F.kwj [a1.v, .func (.func F.kdr) [] []]) h =
 (go (.fn F.kil [a1.v, .func (.func F.kdr) [] []]) h).bind fun q2 =>
 ((some q2.1).bind (AV.asInt .i64)).bind fun n3 =>
 some (.bool (decide (n3 ≥ 0)), q2.2) := (ke _ h).trans (by kernel_rfl)
theorem k6b (a1 : Bool) (a2 : Sl) (h : AH) : go (.fn F.kn9 [.agg [.bool a1, a2.v]]) h =
 newK h (.cells [.bool a1, a2.v] T.kj) fun h3r h3 =>
 ((h3.cell (h3r.add 1)).bind AV.asSl).bind fun l4 =>
 (go (.fn F.kby [l4.v]) h3).bind fun q5 =>
 ((some q5.1).bind AV.asBool).bind fun b6 =>
 cond b6 (
 ((q5.2.cell (h3r.add 0)).bind AV.asBool).bind fun b7 =>
 cond (!b7) (
 some (.bool true, q5.2)) (
 ((q5.2.cell (h3r.add 1)).bind AV.asSl).bind fun l8 =>
 some (.bool (decide ((l8.len : Int) > 0)), q5.2))) (
 some (.bool false, q5.2)) := (ke _ h).trans (by kernel_rfl)
theorem k88 (a1 : Sl) (a2 : Sl) (a3 : Sl) (a4 : Sl) (a5 : Int) (a6 : Int) (a7 : Int) (h : AH) : go (.pt F.kcr Td.kjt [(0, a1.v), (1, a2.v), (6, a3.v), (7, a4.v), (8, .int .i64 a5), (9, .int .u64 a6), (10, .int .u64 a7)]) h =
 cond (decide (a6 < a7)) (
 newK h (.cells [.int .u64 (IntKind.wrap .u64 (Int.tdiv (IntKind.wrap .u64 ((IntKind.wrap .u64 (a6 + a7)) + 1)) 2))] T.kc) fun h8r h8 =>
 (go (.fn F.kck [a2.v, (⟨some h8r, 1, .is 1⟩ : Sl).v]) h8).bind fun q9 =>
 ((some q9.1).bind AV.asSl).bind fun l10 =>
 (go (.fn F.khi [l10.v, a4.v]) q9.2).bind fun q11 =>
 ((some q11.1).bind (AV.asInt .i64)).bind fun n12 =>
 cond (decide (n12 ≤ 0)) (
 go (.pt F.kcr Td.kjt [(0, a1.v), (1, a2.v), (6, a3.v), (7, a4.v), (8, .int .i64 a5), (9, .int .u64 (IntKind.wrap .u64 (Int.tdiv (IntKind.wrap .u64 ((IntKind.wrap .u64 (a6 + a7)) + 1)) 2))), (10, .int .u64 a7)]) q11.2) (
 go (.pt F.kcr Td.kjt [(0, a1.v), (1, a2.v), (6, a3.v), (7, a4.v), (8, .int .i64 a5), (9, .int .u64 a6), (10, .int .u64 (IntKind.wrap .u64 ((IntKind.wrap .u64 (Int.tdiv (IntKind.wrap .u64 ((IntKind.wrap .u64 (a6 + a7)) + 1)) 2)) - 1)))]) q11.2)) (
 (idx a3.ref a3.len a5 1).bind fun r13 =>
 (h.puts r13 [.int .u64 a6]).bind fun h14 =>
 newK h14 (.cells [.int .u64 a6] T.kc) fun h15r h15 =>
 (go (.fn F.kck [a2.v, (⟨some h15r, 1, .is 1⟩ : Sl).v]) h15).bind fun q16 =>
 ((some q16.1).bind AV.asSl).bind fun l17 =>
 (go (.fn F.kfq [a4.v, l17.v]) q16.2).bind fun q18 =>
 ((some q18.1).bind AV.asSl).bind fun l19 =>
 go (.pt F.kcr Td.kpj [(0, a1.v), (1, a2.v), (6, a3.v), (7, l19.v), (8, .int .i64 (IntKind.wrap .i64 (a5 - 1)))]) q18.2) := (ke _ h).trans (by kernel_rfl)
theorem kx6 (a1 : Sl) (a2 : Sl) (a3 : Int) (a4 : Int) (a5 : Int) (h : AH) : go (.pt F.kca Td.kle [(0, a1.v), (4, a2.v), (5, .int .i64 a3), (6, .int .u64 a4), (7, .int .i64 a5)]) h =
 cond (decide (a5 ≥ 0)) (
 cond (decide ((IntKind.wrap .i64 (a3 + a5)) < (a1.len : Int))) (
 (idx a1.ref a1.len (IntKind.wrap .i64 (a3 + a5)) 1).bind fun r6 =>
 ((h.cell r6).bind (AV.asInt .u64)).bind fun n7 =>
 go (.pt F.kca Td.kle [(0, a1.v), (4, a2.v), (5, .int .i64 a3), (6, .int .u64 (IntKind.wrap .u64 ((IntKind.wrap .u64 (a4 * 65536)) + n7))), (7, .int .i64 (IntKind.wrap .i64 (a5 - 1)))]) h) (
 go (.pt F.kca Td.kle [(0, a1.v), (4, a2.v), (5, .int .i64 a3), (6, .int .u64 (IntKind.wrap .u64 (a4 * 65536))), (7, .int .i64 (IntKind.wrap .i64 (a5 - 1)))]) h)) (
 newK h (.cells [.int .u64 a4] T.kc) fun h8r h8 =>
 (kcb Pg T.kc ((⟨some h8r, 1, .is 1⟩ : Sl).v) h8).bind fun p10 =>
 (kbd Pg a2 p10.1 p10.2 T.kc 1 h8).bind fun q9 =>
 (AV.asSl q9.1).bind fun l11 =>
 go (.pt F.kca Td.kim [(0, a1.v), (4, l11.v), (5, .int .i64 (IntKind.wrap .i64 (a3 + 4)))]) q9.2) := (ke _ h).trans (by kernel_rfl)
theorem k70 (a1 : Int) (h : AH) : go (.fn F.kyu [.int .u64 a1]) h =
 newK h (.cells [.int .u64 a1] T.kc) fun h2r h2 =>
 some (.func (.func F.kbu) [] [.ptr (some h2r)], h2) := (ke _ h).trans (by kernel_rfl)
theorem kbdr (a1 : Int) (a2 : Ref) (a3 : Ref) (a4 : Int) (a5 : AV) (h : AH) : go (.pt F.kce Tr.ks0 [(0, .int .u64 a1), (1, .ptr (some a2)), (2, .ptr (some a3)), (4, .int .u64 a4), (5, a5)]) h =
 funcK a5 fun g10 f11 c12 =>
 newM h (kp1 Fx.ktt F.kce 0 .ready none [(0, .int .u64 a1), (1, .ptr (some a2)), (2, .ptr (some a3)), (4, .int .u64 a4), (5, a5)]) fun m6 h7 =>
 (callF Pg go g10 (f11 ++ [.func (.yield m6) [] []] ++ c12) h7).bind fun q8 =>
 (kdh m6 q8.2).bind fun p9 =>
 go (.pt F.kce ((p9.1.map Item.code).toList ++ Ta.kkd) [(0, .int .u64 a1), (1, .ptr (some a2)), (2, .ptr (some a3)), (4, .int .u64 a4), (5, a5)]) p9.2 := (ke _ h).trans (by kernel_rfl)
theorem k1l (a1 : Sl) (h : AH) : go (.fn F.kc1 [a1.v, .func (.func F.kdw) [] []]) h =
 go (.pt F.kc1 Td.kgl [(0, a1.v), (1, .func (.func F.kdw) [] []), (7, .int .i64 (a1.len : Int)), (8, .int .i64 0)]) h := (ke _ h).trans (by kernel_rfl)
theorem kuv (a1 : Sl) (a2 : Int) (h : AH) : go (.pt F.kcs Td.km4 [(0, a1.v), (3, .int .i64 a2)]) h =
 cond (decide (a2 > 0)) (
 (idx a1.ref a1.len (IntKind.wrap .i64 (a2 - 1)) 1).bind fun r3 =>
 ((h.cell r3).bind (AV.asInt .u64)).bind fun n4 =>
 cond (decide (n4 = 0)) (
 go (.pt F.kcs Td.km4 [(0, a1.v), (3, .int .i64 (IntKind.wrap .i64 (a2 - 1)))]) h) (
 (cutSl a1 0 a2 1).bind fun l5 =>
 some (l5.v, h))) (
 (cutSl a1 0 a2 1).bind fun l6 =>
 some (l6.v, h)) := (ke _ h).trans (by kernel_rfl)
theorem kbdq (a1 : Sl) (a2 : Option Ref) (h : AH) : go (.fn F.kkp [a1.v, .func (.func F.kc6) [] [.ptr a2]]) h =
 (go (.fn F.kc1 [a1.v, .func (.func F.kc6) [] [.ptr a2]]) h).bind fun q3 =>
 ((some q3.1).bind (AV.asInt .i64)).bind fun n4 =>
 some (.bool (decide (n4 ≥ 0)), q3.2) := (ke _ h).trans (by kernel_rfl)
theorem k3i (a1 : Option Ref) (a2 : Sl) (a3 : Sl) (a4 : Int) (a5 : Sl) (a6 : Int) (a7 : Int) (h : AH) : go (.pt F.kbb Td.kkg [(0, .ptr a1), (1, a2.v), (2, a3.v), (7, .int .i64 a4), (8, a5.v), (20, .int .i64 a6), (21, .int .i64 a7)]) h =
 cond (decide (a7 < a6)) (
 cond (decide (a7 < (a2.len : Int))) (
 (idx a2.ref a2.len a7 1).bind fun r8 =>
 ((h.cell r8).bind (AV.asInt .u64)).bind fun n9 =>
 (go (.fn F.kc7 [a5.v, a3.v, .int .u64 n9]) h).bind fun q10 =>
 (AV.asTup0 q10.1).bind fun _ =>
 a1.bind fun r11 =>
 ((q10.2.cell (r11.add 0)).bind AV.asSl).bind fun l12 =>
 (idx a5.ref a5.len 0 1).bind fun r13 =>
 ((q10.2.cell r13).bind (AV.asInt .u64)).bind fun n14 =>
 a1.bind fun r15 =>
 ((q10.2.cell (r15.add 1)).bind (AV.asInt .u64)).bind fun n16 =>
 (go (.fn F.kc7 [a5.v, l12.v, .int .u64 (IntKind.wrap .u64 (n14 * n16))]) q10.2).bind fun q17 =>
 (AV.asTup0 q17.1).bind fun _ =>
 (cutSl a5 1 (a5.len : Int) 1).bind fun l18 =>
 (copyH l18 a5 1 q17.2).bind fun h19 =>
 (idx a5.ref a5.len (IntKind.wrap .i64 (a4 + 1)) 1).bind fun r20 =>
 (h19.puts r20 [.int .u64 0]).bind fun h21 =>
 go (.pt F.kbb Td.kkg [(0, .ptr a1), (1, a2.v), (2, a3.v), (7, .int .i64 a4), (8, a5.v), (20, .int .i64 a6), (21, .int .i64 (IntKind.wrap .i64 (a7 + 1)))]) h21) (
 (go (.fn F.kc7 [a5.v, a3.v, .int .u64 0]) h).bind fun q22 =>
 (AV.asTup0 q22.1).bind fun _ =>
 a1.bind fun r23 =>
 ((q22.2.cell (r23.add 0)).bind AV.asSl).bind fun l24 =>
 (idx a5.ref a5.len 0 1).bind fun r25 =>
 ((q22.2.cell r25).bind (AV.asInt .u64)).bind fun n26 =>
 a1.bind fun r27 =>
 ((q22.2.cell (r27.add 1)).bind (AV.asInt .u64)).bind fun n28 =>
 (go (.fn F.kc7 [a5.v, l24.v, .int .u64 (IntKind.wrap .u64 (n26 * n28))]) q22.2).bind fun q29 =>
 (AV.asTup0 q29.1).bind fun _ =>
 (cutSl a5 1 (a5.len : Int) 1).bind fun l30 =>
 (copyH l30 a5 1 q29.2).bind fun h31 =>
 (idx a5.ref a5.len (IntKind.wrap .i64 (a4 + 1)) 1).bind fun r32 =>
 (h31.puts r32 [.int .u64 0]).bind fun h33 =>
 go (.pt F.kbb Td.kkg [(0, .ptr a1), (1, a2.v), (2, a3.v), (7, .int .i64 a4), (8, a5.v), (20, .int .i64 a6), (21, .int .i64 (IntKind.wrap .i64 (a7 + 1)))]) h33)) (
 (go (.fn F.kgq [a5.v]) h).bind fun q34 =>
 ((some q34.1).bind AV.asSl).bind fun l35 =>
 a1.bind fun r36 =>
 ((q34.2.cell (r36.add 0)).bind AV.asSl).bind fun l37 =>
 (go (.fn F.kcj [l35.v, l37.v]) q34.2).bind fun q38 =>
 ((some q38.1).bind (AV.asInt .i64)).bind fun n39 =>
 cond (decide (n39 ≥ 0)) (
 a1.bind fun r40 =>
 ((q38.2.cell (r40.add 0)).bind AV.asSl).bind fun l41 =>
 (go (.fn F.kgp [l35.v, l41.v]) q38.2).bind fun q42 =>
 (AV.asTup2 q42.1).bind fun p43 =>
 ((some p43.1).bind AV.asSl).bind fun l44 =>
 ((some p43.2).bind (AV.asInt .i64)).bind fun n45 =>
 some (l44.v, q42.2)) (
 some (l35.v, q38.2))) := (ke _ h).trans (by kernel_rfl)
theorem k95 (a1 : Sl) (a2 : Option Ref) (a3 : Sl) (a4 : Sl) (a5 : Int) (h : AH) : go (.pt F.kbv Td.ko7 [(2, a1.v), (8, .func (.func F.kbb) [.ptr a2] []), (9, a3.v), (11, a4.v), (12, .int .i64 a5)]) h =
 cond (decide (a5 > 0)) (
 go (.pt F.kbv Td.kjz [(2, a1.v), (8, .func (.func F.kbb) [.ptr a2] []), (9, a3.v), (11, a4.v), (12, .int .i64 a5), (13, .int .i64 0), (72, .int .i64 0)]) h) (
 newK h (.cells [.int .u64 1] T.kc) fun h6r h6 =>
 (go (.fn F.kbb [.ptr a2, a4.v, (⟨some h6r, 1, .is 1⟩ : Sl).v]) h6).bind fun q7 =>
 ((some q7.1).bind AV.asSl).bind fun l8 =>
 some (.tup [l8.v, .int .i64 0], q7.2)) := (ke _ h).trans (by kernel_rfl)
theorem k4h (a1 : Int) (a2 : Int) (a3 : Int) (h : AH) : go (.fn F.kbn [.int .u64 a1, .int .u64 a2, .int .u64 a3]) h =
 cond (decide (a3 = 0)) (
 (h.cell (.old ⟨0, 0, none⟩)).bind fun v4 =>
 none) (
 go (.pt F.kbn Td.kr7 [(0, .int .u64 a1), (1, .int .u64 a2), (2, .int .u64 a3)]) h) := (ke _ h).trans (by kernel_rfl)
theorem k5a (a1 : Int) (a2 : Sl) (a3 : Sl) (a4 : Int) (a5 : Int) (h : AH) : go (.pt F.kee Td.kla [(1, .int .u64 a1), (5, a2.v), (12, a3.v), (13, .int .i64 a4), (14, .int .i64 a5)]) h =
 cond (decide (a5 < a4)) (
 (idx a3.ref a3.len a5 1).bind fun r6 =>
 ((h.cell r6).bind (AV.asInt .u64)).bind fun n7 =>
 (idx a2.ref a2.len a5 1).bind fun r8 =>
 ((h.cell r8).bind (AV.asInt .u64)).bind fun n9 =>
 cond (decide (a1 < 0)) none (
 (idx a2.ref a2.len a5 1).bind fun r10 =>
 (h.puts r10 [.int .u64 (ior .u64 n9 (ishl .u64 n7 a1))]).bind fun h11 =>
 cond (decide (a1 > 0)) (
 cond (decide ((IntKind.wrap .u64 (64 - a1)) < 0)) none (
 (idx a2.ref a2.len (IntKind.wrap .i64 (a5 + 1)) 1).bind fun r12 =>
 (h11.puts r12 [.int .u64 (ishr .u64 n7 (IntKind.wrap .u64 (64 - a1)))]).bind fun h13 =>
 go (.pt F.kee Td.kla [(1, .int .u64 a1), (5, a2.v), (12, a3.v), (13, .int .i64 a4), (14, .int .i64 (IntKind.wrap .i64 (a5 + 1)))]) h13)) (
 go (.pt F.kee Td.kla [(1, .int .u64 a1), (5, a2.v), (12, a3.v), (13, .int .i64 a4), (14, .int .i64 (IntKind.wrap .i64 (a5 + 1)))]) h11))) (
 some (a2.v, h)) := (ke _ h).trans (by kernel_rfl)
theorem k25 (a1 : Int) (a2 : Int) (a3 : Int) (a4 : Int) (a5 : Int) (h : AH) : go (.fn F.ke9 [.int .u64 a1, .int .u64 a2, .int .u64 a3, .int .u64 a4, .int .u64 a5]) h =
 cond (decide (a1 ≥ a4)) (
 some (.int .u64 18446744073709551615, h)) (
 (go (.fn F.kbn [.int .u64 a1, .int .u64 a2, .int .u64 a4]) h).bind fun q6 =>
 (AV.asTup2 q6.1).bind fun p7 =>
 ((some p7.1).bind (AV.asInt .u64)).bind fun n8 =>
 ((some p7.2).bind (AV.asInt .u64)).bind fun n9 =>
 go (.pt F.ke9 Td.kk3 [(2, .int .u64 a3), (3, .int .u64 a4), (4, .int .u64 a5), (11, .int .u64 n8), (12, .int .u64 n9)]) q6.2) := (ke _ h).trans (by kernel_rfl)
theorem k2j (a1 : Int) (a2 : Sl) (a3 : Sl) (a4 : Int) (a5 : Sl) (a6 : Int) (a7 : Int) (a8 : Sl) (h : AH) : go (.pt F.kb1 Td.kmc [(6, .int .u64 a1), (7, a2.v), (8, a3.v), (9, .int .i64 a4), (10, a5.v), (11, .int .i64 a6), (12, .int .u64 a7), (13, a8.v)]) h =
 (go (.fn F.kfc [.int .u64 a7]) h).bind fun q9 =>
 ((some q9.1).bind AV.asSl).bind fun l10 =>
 (go (.fn F.kcm [a3.v, l10.v]) q9.2).bind fun q11 =>
 ((some q11.1).bind AV.asSl).bind fun l12 =>
 (go (.fn F.kfp [a8.v]) q11.2).bind fun q13 =>
 ((some q13.1).bind AV.asSl).bind fun l14 =>
 (go (.fn F.kbi [l14.v]) q13.2).bind fun q15 =>
 ((some q15.1).bind AV.asSl).bind fun l16 =>
 (go (.fn F.kd9 [l16.v, l12.v]) q15.2).bind fun q17 =>
 ((some q17.1).bind (AV.asInt .i64)).bind fun n18 =>
 cond (decide (n18 ≥ 0)) (
 (go (.fn F.kct [a8.v, l12.v]) q17.2).bind fun q19 =>
 ((some q19.1).bind AV.asSl).bind fun l20 =>
 (copyH l20 a8 1 q19.2).bind fun h21 =>
 (idx a5.ref a5.len a6 1).bind fun r22 =>
 (h21.puts r22 [.int .u64 a7]).bind fun h23 =>
 go (.pt F.kb1 Td.kne [(6, .int .u64 a1), (7, a2.v), (8, a3.v), (9, .int .i64 a4), (10, a5.v), (11, .int .i64 (IntKind.wrap .i64 (a6 - 1)))]) h23) (
 go (.pt F.kb1 Td.kmc [(6, .int .u64 a1), (7, a2.v), (8, a3.v), (9, .int .i64 a4), (10, a5.v), (11, .int .i64 a6), (12, .int .u64 (IntKind.wrap .u64 (a7 - 1))), (13, a8.v)]) q17.2) := (ke _ h).trans (by kernel_rfl)
theorem k6g (a1 : Int) (a2 : Sl) (a3 : Sl) (a4 : Sl) (a5 : Int) (a6 : Int) (h : AH) : go (.pt F.kb1 Td.ki3 [(6, .int .u64 a1), (10, a2.v), (15, a3.v), (16, a4.v), (112, .int .i64 a5), (113, .int .i64 a6)]) h =
 cond (decide (a6 < a5)) (
 (idx a3.ref a3.len a6 1).bind fun r7 =>
 ((h.cell r7).bind (AV.asInt .u64)).bind fun n8 =>
 cond (decide (a1 < 0)) none (
 (idx a4.ref a4.len a6 1).bind fun r9 =>
 (h.puts r9 [.int .u64 (ishr .u64 n8 a1)]).bind fun h10 =>
 cond (decide (a1 > 0)) (
 cond (decide ((IntKind.wrap .i64 (a6 + 1)) < (a3.len : Int))) (
 (idx a4.ref a4.len a6 1).bind fun r11 =>
 ((h10.cell r11).bind (AV.asInt .u64)).bind fun n12 =>
 (idx a3.ref a3.len (IntKind.wrap .i64 (a6 + 1)) 1).bind fun r13 =>
 ((h10.cell r13).bind (AV.asInt .u64)).bind fun n14 =>
 cond (decide ((IntKind.wrap .u64 (64 - a1)) < 0)) none (
 (idx a4.ref a4.len a6 1).bind fun r15 =>
 (h10.puts r15 [.int .u64 (ior .u64 n12 (ishl .u64 n14 (IntKind.wrap .u64 (64 - a1))))]).bind fun h16 =>
 go (.pt F.kb1 Td.ki3 [(6, .int .u64 a1), (10, a2.v), (15, a3.v), (16, a4.v), (112, .int .i64 a5), (113, .int .i64 (IntKind.wrap .i64 (a6 + 1)))]) h16)) (
 go (.pt F.kb1 Td.ki3 [(6, .int .u64 a1), (10, a2.v), (15, a3.v), (16, a4.v), (112, .int .i64 a5), (113, .int .i64 (IntKind.wrap .i64 (a6 + 1)))]) h10)) (
 go (.pt F.kb1 Td.ki3 [(6, .int .u64 a1), (10, a2.v), (15, a3.v), (16, a4.v), (112, .int .i64 a5), (113, .int .i64 (IntKind.wrap .i64 (a6 + 1)))]) h10))) (
 (go (.fn F.kbi [a2.v]) h).bind fun q17 =>
 ((some q17.1).bind AV.asSl).bind fun l18 =>
 (go (.fn F.kbi [a4.v]) q17.2).bind fun q19 =>
 ((some q19.1).bind AV.asSl).bind fun l20 =>
 some (.tup [l18.v, l20.v], q19.2)) := (ke _ h).trans (by kernel_rfl)
theorem kbbb (a1 : Sl) (h : AH) : go (.fn F.kil [a1.v, .func (.func F.kdr) [] []]) h =
 go (.pt F.kil Td.kol [(0, a1.v), (1, .func (.func F.kdr) [] []), (7, .int .i64 (a1.len : Int)), (8, .int .i64 0)]) h := (ke _ h).trans (by kernel_rfl)
theorem k85 (l : Nat) (pe : Option Code) (a1 : Int) (a2 : Ref) (a3 : Ref) (a4 : Int) (a5 : AV) (a6 : Int) (h : AH) (hb : h.blks[l]? = some (kp1 Fx.ktt F.kce 0 .ready pe [(0, .int .u64 a1), (1, .ptr (some a2)), (2, .ptr (some a3)), (4, .int .u64 a4), (5, a5)])) : go (.round l [.int .u64 a6]) h =
 (beginA l h).bind fun h7 =>
 ((h7.cell a2).bind (AV.asInt .u64)).bind fun n8 =>
 cond (decide (a6 = 0)) none (
 cond (decide ((Int.tmod n8 a6) = 0)) (
 (h7.puts a3 [.int .u64 a6]).bind fun h9 =>
 kfh l (some .ret) h9) (
 kfh l none h7)) := (ke _ h).trans ((k5x hb).trans (by kernel_rfl))
theorem k3z (a1 : Int) (a2 : Ref) (a3 : Ref) (a4 : Int) (a5 : AV) (h : AH) : go (.pt F.kce ((Option.map Item.code none).toList ++ Ta.kkd) [(0, .int .u64 a1), (1, .ptr (some a2)), (2, .ptr (some a3)), (4, .int .u64 a4), (5, a5)]) h =
 ((h.cell a2).bind (AV.asInt .u64)).bind fun n6 =>
 (h.puts a3 [.int .u64 n6]).bind fun h7 =>
 ((h7.cell a3).bind (AV.asInt .u64)).bind fun n8 =>
 some (.int .u64 n8, h7) := (ke _ h).trans (by kernel_rfl)
theorem k2f (a1 : Int) (a2 : Ref) (a3 : Ref) (a4 : Int) (a5 : AV) (h : AH) : go (.pt F.kce ((Option.map Item.code (some .ret)).toList ++ Ta.kkd) [(0, .int .u64 a1), (1, .ptr (some a2)), (2, .ptr (some a3)), (4, .int .u64 a4), (5, a5)]) h =
 ((h.cell a3).bind (AV.asInt .u64)).bind fun n6 =>
 some (.int .u64 n6, h) := (ke _ h).trans (by kernel_rfl)
theorem kxl (a1 : Sl) (a2 : Int) (a3 : Int) (h : AH) : go (.pt F.kc1 Td.kgl [(0, a1.v), (1, .func (.func F.kdw) [] []), (7, .int .i64 a2), (8, .int .i64 a3)]) h =
 cond (decide (a3 < a2)) (
 (idx a1.ref a1.len a3 1).bind fun r4 =>
 ((h.cell r4).bind AV.asSl).bind fun l5 =>
 (go (.fn F.kdw [l5.v]) h).bind fun q6 =>
 ((some q6.1).bind AV.asBool).bind fun b7 =>
 cond b7 (
 some (.int .i64 a3, q6.2)) (
 go (.pt F.kc1 Td.kgl [(0, a1.v), (1, .func (.func F.kdw) [] []), (7, .int .i64 a2), (8, .int .i64 (IntKind.wrap .i64 (a3 + 1)))]) q6.2)) (
 some (.int .i64 (-1), h)) := (ke _ h).trans (by kernel_rfl)
theorem kbcl (a1 : Sl) (a2 : Option Ref) (h : AH) : go (.fn F.kc1 [a1.v, .func (.func F.kc6) [] [.ptr a2]]) h =
 go (.pt F.kc1 Td.kgl [(0, a1.v), (1, .func (.func F.kc6) [] [.ptr a2]), (7, .int .i64 (a1.len : Int)), (8, .int .i64 0)]) h := (ke _ h).trans (by kernel_rfl)
theorem kbeg (a1 : Sl) (a2 : Sl) (a3 : Int) (h : AH) : go (.fn F.kc7 [a1.v, a2.v, .int .u64 a3]) h =
 go (.pt F.kc7 Td.kj6 [(0, a1.v), (1, a2.v), (2, .int .u64 a3), (6, .int .u64 0), (12, .int .i64 (a1.len : Int)), (13, .int .i64 0)]) h := (ke _ h).trans (by kernel_rfl)
theorem k1a (a1 : Sl) (h : AH) : go (.fn F.kgq [a1.v]) h =
 go (.pt F.kgq Td.kn1 [(0, a1.v), (3, .int .i64 (a1.len : Int))]) h := (ke _ h).trans (by kernel_rfl)
theorem kbev (a1 : Sl) (a2 : Option Ref) (a3 : Sl) (a4 : Sl) (a5 : Int) (a6 : Int) (a7 : Int) (h : AH) : go (.pt F.kbv Td.kjz [(2, a1.v), (8, .func (.func F.kbb) [.ptr a2] []), (9, a3.v), (11, a4.v), (12, .int .i64 a5), (13, .int .i64 a6), (72, .int .i64 a7)]) h =
 cond (decide (a7 < 4)) (
 (go (.fn F.kbb [.ptr a2, a4.v, a4.v]) h).bind fun q8 =>
 ((some q8.1).bind AV.asSl).bind fun l9 =>
 (go (.fn F.ki1 [a1.v, .int .i64 (IntKind.wrap .i64 ((IntKind.wrap .i64 ((IntKind.wrap .i64 (a5 * 4)) - 1)) - a7))]) q8.2).bind fun q10 =>
 ((some q10.1).bind AV.asBool).bind fun b11 =>
 cond b11 (
 cond (decide ((IntKind.wrap .i64 (3 - a7)) < 0)) none (
 go (.pt F.kbv Td.kjz [(2, a1.v), (8, .func (.func F.kbb) [.ptr a2] []), (9, a3.v), (11, l9.v), (12, .int .i64 a5), (13, .int .i64 (ior .i64 a6 (ishl .i64 1 (IntKind.wrap .i64 (3 - a7))))), (72, .int .i64 (IntKind.wrap .i64 (a7 + 1)))]) q10.2)) (
 go (.pt F.kbv Td.kjz [(2, a1.v), (8, .func (.func F.kbb) [.ptr a2] []), (9, a3.v), (11, l9.v), (12, .int .i64 a5), (13, .int .i64 a6), (72, .int .i64 (IntKind.wrap .i64 (a7 + 1)))]) q10.2)) (
 (idx a3.ref a3.len a6 1).bind fun r12 =>
 ((h.cell r12).bind AV.asSl).bind fun l13 =>
 (go (.fn F.kbb [.ptr a2, a4.v, l13.v]) h).bind fun q14 =>
 ((some q14.1).bind AV.asSl).bind fun l15 =>
 go (.pt F.kbv Td.ko7 [(2, a1.v), (8, .func (.func F.kbb) [.ptr a2] []), (9, a3.v), (11, l15.v), (12, .int .i64 (IntKind.wrap .i64 (a5 - 1)))]) q14.2) := (ke _ h).trans (by kernel_rfl)
theorem k0s (a1 : Int) (a2 : Int) (a3 : Int) (h : AH) : go (.pt F.kbn Td.kr7 [(0, .int .u64 a1), (1, .int .u64 a2), (2, .int .u64 a3)]) h =
 cond (decide (a3 ≤ a1)) (
 (h.cell (.old ⟨1, 0, none⟩)).bind fun v4 =>
 none) (
 cond (decide (a1 = 0)) (
 cond (decide (a3 = 0)) none (
 cond (decide (a3 = 0)) none (
 some (.tup [.int .u64 (IntKind.wrap .u64 (Int.tdiv a2 a3)), .int .u64 (Int.tmod a2 a3)], h)))) (
 (go (.fn F.kpb [.int .u64 a3]) h).bind fun q5 =>
 ((some q5.1).bind (AV.asInt .i64)).bind fun n6 =>
 cond (decide ((IntKind.wrap .u64 n6) < 0)) none (
 cond (decide ((IntKind.wrap .u64 n6) < 0)) none (
 cond (decide ((IntKind.wrap .u64 (64 - (IntKind.wrap .u64 n6))) < 0)) none (
 cond (decide ((IntKind.wrap .u64 n6) < 0)) none (
 cond (decide ((ishr .u64 (ishl .u64 a3 (IntKind.wrap .u64 n6)) 32) = 0)) none (
 go (.pt F.kbn Td.kjs [(2, .int .u64 (ishl .u64 a3 (IntKind.wrap .u64 n6))), (8, .int .u64 (IntKind.wrap .u64 n6)), (9, .int .u64 (ishr .u64 (ishl .u64 a3 (IntKind.wrap .u64 n6)) 32)), (10, .int .u64 (iand .u64 (ishl .u64 a3 (IntKind.wrap .u64 n6)) 4294967295)), (11, .int .u64 (ior .u64 (ishl .u64 a1 (IntKind.wrap .u64 n6)) (ishr .u64 a2 (IntKind.wrap .u64 (64 - (IntKind.wrap .u64 n6)))))), (13, .int .u64 (ishr .u64 (ishl .u64 a2 (IntKind.wrap .u64 n6)) 32)), (14, .int .u64 (iand .u64 (ishl .u64 a2 (IntKind.wrap .u64 n6)) 4294967295)), (15, .int .u64 (IntKind.wrap .u64 (Int.tdiv (ior .u64 (ishl .u64 a1 (IntKind.wrap .u64 n6)) (ishr .u64 a2 (IntKind.wrap .u64 (64 - (IntKind.wrap .u64 n6))))) (ishr .u64 (ishl .u64 a3 (IntKind.wrap .u64 n6)) 32)))), (16, .int .u64 (IntKind.wrap .u64 ((ior .u64 (ishl .u64 a1 (IntKind.wrap .u64 n6)) (ishr .u64 a2 (IntKind.wrap .u64 (64 - (IntKind.wrap .u64 n6))))) - (IntKind.wrap .u64 ((IntKind.wrap .u64 (Int.tdiv (ior .u64 (ishl .u64 a1 (IntKind.wrap .u64 n6)) (ishr .u64 a2 (IntKind.wrap .u64 (64 - (IntKind.wrap .u64 n6))))) (ishr .u64 (ishl .u64 a3 (IntKind.wrap .u64 n6)) 32))) * (ishr .u64 (ishl .u64 a3 (IntKind.wrap .u64 n6)) 32))))))]) q5.2))))))) := (ke _ h).trans (by kernel_rfl)
theorem kbd3 (a1 : Int) (a2 : Int) (a3 : Int) (a4 : Int) (a5 : Int) (h : AH) : go (.pt F.ke9 Td.kk3 [(2, .int .u64 a1), (3, .int .u64 a2), (4, .int .u64 a3), (11, .int .u64 a4), (12, .int .u64 a5)]) h =
 (go (.fn F.kjn [.int .u64 a4, .int .u64 a3]) h).bind fun q6 =>
 (AV.asTup2 q6.1).bind fun p7 =>
 ((some p7.1).bind (AV.asInt .u64)).bind fun n8 =>
 ((some p7.2).bind (AV.asInt .u64)).bind fun n9 =>
 cond (decide (n8 < a5)) (
 some (.int .u64 a4, q6.2)) (
 cond (decide (n8 = a5)) (
 cond (decide (n9 ≤ a1)) (
 some (.int .u64 a4, q6.2)) (
 cond (decide ((IntKind.wrap .u64 (a5 + a2)) < a5)) (
 some (.int .u64 (IntKind.wrap .u64 (a4 - 1)), q6.2)) (
 go (.pt F.ke9 Td.kk3 [(2, .int .u64 a1), (3, .int .u64 a2), (4, .int .u64 a3), (11, .int .u64 (IntKind.wrap .u64 (a4 - 1))), (12, .int .u64 (IntKind.wrap .u64 (a5 + a2)))]) q6.2))) (
 cond (decide ((IntKind.wrap .u64 (a5 + a2)) < a5)) (
 some (.int .u64 (IntKind.wrap .u64 (a4 - 1)), q6.2)) (
 go (.pt F.ke9 Td.kk3 [(2, .int .u64 a1), (3, .int .u64 a2), (4, .int .u64 a3), (11, .int .u64 (IntKind.wrap .u64 (a4 - 1))), (12, .int .u64 (IntKind.wrap .u64 (a5 + a2)))]) q6.2))) := (ke _ h).trans (by kernel_rfl)
theorem kyb (a1 : Sl) (a2 : Int) (a3 : Int) (h : AH) : go (.pt F.kil Td.kol [(0, a1.v), (1, .func (.func F.kdr) [] []), (7, .int .i64 a2), (8, .int .i64 a3)]) h =
 cond (decide (a3 < a2)) (
 (idx a1.ref a1.len a3 2).bind fun r4 =>
 ((h.cell (r4.add 0)).bind AV.asBool).bind fun b5 =>
 ((h.cell (r4.add 1)).bind AV.asSl).bind fun l6 =>
 (go (.fn F.kdr [.agg [.bool b5, l6.v]]) h).bind fun q7 =>
 ((some q7.1).bind AV.asBool).bind fun b8 =>
 cond b8 (
 some (.int .i64 a3, q7.2)) (
 go (.pt F.kil Td.kol [(0, a1.v), (1, .func (.func F.kdr) [] []), (7, .int .i64 a2), (8, .int .i64 (IntKind.wrap .i64 (a3 + 1)))]) q7.2)) (
 some (.int .i64 (-1), h)) := (ke _ h).trans (by kernel_rfl)
theorem k1v (a1 : Sl) (h : AH) : go (.fn F.kdw [a1.v]) h =
 (go (.fn F.kby [a1.v]) h).bind fun q2 =>
 ((some q2.1).bind AV.asBool).bind fun b3 =>
 some (.bool (!b3), q2.2) := (ke _ h).trans (by kernel_rfl)
theorem kwx (a1 : Sl) (a2 : Option Ref) (a3 : Int) (a4 : Int) (h : AH) : go (.pt F.kc1 Td.kgl [(0, a1.v), (1, .func (.func F.kc6) [] [.ptr a2]), (7, .int .i64 a3), (8, .int .i64 a4)]) h =
 cond (decide (a4 < a3)) (
 (idx a1.ref a1.len a4 1).bind fun r5 =>
 ((h.cell r5).bind AV.asSl).bind fun l6 =>
 (go (.fn F.kc6 [l6.v, .ptr a2]) h).bind fun q7 =>
 ((some q7.1).bind AV.asBool).bind fun b8 =>
 cond b8 (
 some (.int .i64 a4, q7.2)) (
 go (.pt F.kc1 Td.kgl [(0, a1.v), (1, .func (.func F.kc6) [] [.ptr a2]), (7, .int .i64 a3), (8, .int .i64 (IntKind.wrap .i64 (a4 + 1)))]) q7.2)) (
 some (.int .i64 (-1), h)) := (ke _ h).trans (by kernel_rfl)
theorem k8i (a1 : Sl) (a2 : Sl) (a3 : Int) (a4 : Int) (a5 : Int) (a6 : Int) (h : AH) : go (.pt F.kc7 Td.kj6 [(0, a1.v), (1, a2.v), (2, .int .u64 a3), (6, .int .u64 a4), (12, .int .i64 a5), (13, .int .i64 a6)]) h =
 cond (decide (a6 < a5)) (
 cond (decide (a6 < (a2.len : Int))) (
 (idx a2.ref a2.len a6 1).bind fun r7 =>
 ((h.cell r7).bind (AV.asInt .u64)).bind fun n8 =>
 (go (.fn F.kjn [.int .u64 n8, .int .u64 a3]) h).bind fun q9 =>
 (AV.asTup2 q9.1).bind fun p10 =>
 ((some p10.1).bind (AV.asInt .u64)).bind fun n11 =>
 ((some p10.2).bind (AV.asInt .u64)).bind fun n12 =>
 ((prim "math/bits.Add64" [.int .u64 n12, .int .u64 a4, .int .u64 0]).map fun v => (v, q9.2)).bind fun q13 =>
 (AV.asTup2 q13.1).bind fun p14 =>
 ((some p14.1).bind (AV.asInt .u64)).bind fun n15 =>
 ((some p14.2).bind (AV.asInt .u64)).bind fun n16 =>
 (idx a1.ref a1.len a6 1).bind fun r17 =>
 ((q13.2.cell r17).bind (AV.asInt .u64)).bind fun n18 =>
 ((prim "math/bits.Add64" [.int .u64 n18, .int .u64 n15, .int .u64 0]).map fun v => (v, q13.2)).bind fun q19 =>
 (AV.asTup2 q19.1).bind fun p20 =>
 ((some p20.1).bind (AV.asInt .u64)).bind fun n21 =>
 ((some p20.2).bind (AV.asInt .u64)).bind fun n22 =>
 (idx a1.ref a1.len a6 1).bind fun r23 =>
 (q19.2.puts r23 [.int .u64 n21]).bind fun h24 =>
 go (.pt F.kc7 Td.kj6 [(0, a1.v), (1, a2.v), (2, .int .u64 a3), (6, .int .u64 (IntKind.wrap .u64 ((IntKind.wrap .u64 (n11 + n16)) + n22))), (12, .int .i64 a5), (13, .int .i64 (IntKind.wrap .i64 (a6 + 1)))]) h24) (
 ((prim "math/bits.Add64" [.int .u64 0, .int .u64 a4, .int .u64 0]).map fun v => (v, h)).bind fun q25 =>
 (AV.asTup2 q25.1).bind fun p26 =>
 ((some p26.1).bind (AV.asInt .u64)).bind fun n27 =>
 ((some p26.2).bind (AV.asInt .u64)).bind fun n28 =>
 (idx a1.ref a1.len a6 1).bind fun r29 =>
 ((q25.2.cell r29).bind (AV.asInt .u64)).bind fun n30 =>
 ((prim "math/bits.Add64" [.int .u64 n30, .int .u64 n27, .int .u64 0]).map fun v => (v, q25.2)).bind fun q31 =>
 (AV.asTup2 q31.1).bind fun p32 =>
 ((some p32.1).bind (AV.asInt .u64)).bind fun n33 =>
 ((some p32.2).bind (AV.asInt .u64)).bind fun n34 =>
 (idx a1.ref a1.len a6 1).bind fun r35 =>
 (q31.2.puts r35 [.int .u64 n33]).bind fun h36 =>
 go (.pt F.kc7 Td.kj6 [(0, a1.v), (1, a2.v), (2, .int .u64 a3), (6, .int .u64 (IntKind.wrap .u64 ((IntKind.wrap .u64 (0 + n28)) + n34))), (12, .int .i64 a5), (13, .int .i64 (IntKind.wrap .i64 (a6 + 1)))]) h36)) (
 some (.tup [], h)) := (ke _ h).trans (by kernel_rfl)
theorem kun (a1 : Sl) (a2 : Int) (h : AH) : go (.pt F.kgq Td.kn1 [(0, a1.v), (3, .int .i64 a2)]) h =
 cond (decide (a2 > 0)) (
 (idx a1.ref a1.len (IntKind.wrap .i64 (a2 - 1)) 1).bind fun r3 =>
 ((h.cell r3).bind (AV.asInt .u64)).bind fun n4 =>
 cond (decide (n4 = 0)) (
 go (.pt F.kgq Td.kn1 [(0, a1.v), (3, .int .i64 (IntKind.wrap .i64 (a2 - 1)))]) h) (
 (cutSl a1 0 a2 1).bind fun l5 =>
 some (l5.v, h))) (
 (cutSl a1 0 a2 1).bind fun l6 =>
 some (l6.v, h)) := (ke _ h).trans (by kernel_rfl)
theorem k65 (a1 : Int) (a2 : Int) (a3 : Int) (a4 : Int) (a5 : Int) (a6 : Int) (a7 : Int) (a8 : Int) (a9 : Int) (h : AH) : go (.pt F.kbn Td.kjs [(2, .int .u64 a1), (8, .int .u64 a2), (9, .int .u64 a3), (10, .int .u64 a4), (11, .int .u64 a5), (13, .int .u64 a6), (14, .int .u64 a7), (15, .int .u64 a8), (16, .int .u64 a9)]) h =
 cond (decide (a8 ≥ 4294967296)) (
 cond (decide ((IntKind.wrap .u64 (a9 + a3)) ≥ 4294967296)) (
 cond (decide (a3 = 0)) none (
 go (.pt F.kbn Td.kgj [(2, .int .u64 a1), (8, .int .u64 a2), (9, .int .u64 a3), (10, .int .u64 a4), (14, .int .u64 a7), (15, .int .u64 (IntKind.wrap .u64 (a8 - 1))), (16, .int .u64 (IntKind.wrap .u64 ((IntKind.wrap .u64 ((IntKind.wrap .u64 ((IntKind.wrap .u64 (a5 * 4294967296)) + a6)) - (IntKind.wrap .u64 ((IntKind.wrap .u64 (a8 - 1)) * a1)))) - (IntKind.wrap .u64 ((IntKind.wrap .u64 (Int.tdiv (IntKind.wrap .u64 ((IntKind.wrap .u64 ((IntKind.wrap .u64 (a5 * 4294967296)) + a6)) - (IntKind.wrap .u64 ((IntKind.wrap .u64 (a8 - 1)) * a1)))) a3)) * a3))))), (17, .int .u64 (IntKind.wrap .u64 ((IntKind.wrap .u64 ((IntKind.wrap .u64 (a5 * 4294967296)) + a6)) - (IntKind.wrap .u64 ((IntKind.wrap .u64 (a8 - 1)) * a1))))), (18, .int .u64 (IntKind.wrap .u64 (Int.tdiv (IntKind.wrap .u64 ((IntKind.wrap .u64 ((IntKind.wrap .u64 (a5 * 4294967296)) + a6)) - (IntKind.wrap .u64 ((IntKind.wrap .u64 (a8 - 1)) * a1)))) a3)))]) h)) (
 go (.pt F.kbn Td.kjs [(2, .int .u64 a1), (8, .int .u64 a2), (9, .int .u64 a3), (10, .int .u64 a4), (11, .int .u64 a5), (13, .int .u64 a6), (14, .int .u64 a7), (15, .int .u64 (IntKind.wrap .u64 (a8 - 1))), (16, .int .u64 (IntKind.wrap .u64 (a9 + a3)))]) h)) (
 cond (decide ((IntKind.wrap .u64 (a8 * a4)) > (IntKind.wrap .u64 ((IntKind.wrap .u64 (4294967296 * a9)) + a6)))) (
 cond (decide ((IntKind.wrap .u64 (a9 + a3)) ≥ 4294967296)) (
 cond (decide (a3 = 0)) none (
 go (.pt F.kbn Td.kgj [(2, .int .u64 a1), (8, .int .u64 a2), (9, .int .u64 a3), (10, .int .u64 a4), (14, .int .u64 a7), (15, .int .u64 (IntKind.wrap .u64 (a8 - 1))), (16, .int .u64 (IntKind.wrap .u64 ((IntKind.wrap .u64 ((IntKind.wrap .u64 ((IntKind.wrap .u64 (a5 * 4294967296)) + a6)) - (IntKind.wrap .u64 ((IntKind.wrap .u64 (a8 - 1)) * a1)))) - (IntKind.wrap .u64 ((IntKind.wrap .u64 (Int.tdiv (IntKind.wrap .u64 ((IntKind.wrap .u64 ((IntKind.wrap .u64 (a5 * 4294967296)) + a6)) - (IntKind.wrap .u64 ((IntKind.wrap .u64 (a8 - 1)) * a1)))) a3)) * a3))))), (17, .int .u64 (IntKind.wrap .u64 ((IntKind.wrap .u64 ((IntKind.wrap .u64 (a5 * 4294967296)) + a6)) - (IntKind.wrap .u64 ((IntKind.wrap .u64 (a8 - 1)) * a1))))), (18, .int .u64 (IntKind.wrap .u64 (Int.tdiv (IntKind.wrap .u64 ((IntKind.wrap .u64 ((IntKind.wrap .u64 (a5 * 4294967296)) + a6)) - (IntKind.wrap .u64 ((IntKind.wrap .u64 (a8 - 1)) * a1)))) a3)))]) h)) (
 go (.pt F.kbn Td.kjs [(2, .int .u64 a1), (8, .int .u64 a2), (9, .int .u64 a3), (10, .int .u64 a4), (11, .int .u64 a5), (13, .int .u64 a6), (14, .int .u64 a7), (15, .int .u64 (IntKind.wrap .u64 (a8 - 1))), (16, .int .u64 (IntKind.wrap .u64 (a9 + a3)))]) h)) (
 cond (decide (a3 = 0)) none (
 go (.pt F.kbn Td.kgj [(2, .int .u64 a1), (8, .int .u64 a2), (9, .int .u64 a3), (10, .int .u64 a4), (14, .int .u64 a7), (15, .int .u64 a8), (16, .int .u64 (IntKind.wrap .u64 ((IntKind.wrap .u64 ((IntKind.wrap .u64 ((IntKind.wrap .u64 (a5 * 4294967296)) + a6)) - (IntKind.wrap .u64 (a8 * a1)))) - (IntKind.wrap .u64 ((IntKind.wrap .u64 (Int.tdiv (IntKind.wrap .u64 ((IntKind.wrap .u64 ((IntKind.wrap .u64 (a5 * 4294967296)) + a6)) - (IntKind.wrap .u64 (a8 * a1)))) a3)) * a3))))), (17, .int .u64 (IntKind.wrap .u64 ((IntKind.wrap .u64 ((IntKind.wrap .u64 (a5 * 4294967296)) + a6)) - (IntKind.wrap .u64 (a8 * a1))))), (18, .int .u64 (IntKind.wrap .u64 (Int.tdiv (IntKind.wrap .u64 ((IntKind.wrap .u64 ((IntKind.wrap .u64 (a5 * 4294967296)) + a6)) - (IntKind.wrap .u64 (a8 * a1)))) a3)))]) h))) := (ke _ h).trans (by kernel_rfl)
theorem kbbq (a1 : Bool) (a2 : Sl) (h : AH) : go (.fn F.kdr [.agg [.bool a1, a2.v]]) h =
 newK h (.cells [.bool a1, a2.v] T.kj) fun h3r h3 =>
 ((h3.cell (h3r.add 0)).bind AV.asBool).bind fun b4 =>
 ((h3.cell (h3r.add 1)).bind AV.asSl).bind fun l5 =>
 (go (.fn F.kn9 [.agg [.bool b4, l5.v]]) h3).bind fun q6 =>
 ((some q6.1).bind AV.asBool).bind fun b7 =>
 some (.bool (!b7), q6.2) := (ke _ h).trans (by kernel_rfl)
theorem k2u (a1 : Sl) (a2 : Option Ref) (h : AH) : go (.fn F.kc6 [a1.v, .ptr a2]) h =
 (go (.fn F.kby [a1.v]) h).bind fun q3 =>
 ((some q3.1).bind AV.asBool).bind fun b4 =>
 cond (!b4) (
 some (.bool true, q3.2)) (
 a2.bind fun r5 =>
 ((q3.2.cell r5).bind AV.asPtr).bind fun p6 =>
 p6.bind fun r7 =>
 ((q3.2.cell (r7.add 0)).bind AV.asSl).bind fun l8 =>
 (go (.fn F.kcj [a1.v, l8.v]) q3.2).bind fun q9 =>
 ((some q9.1).bind (AV.asInt .i64)).bind fun n10 =>
 some (.bool (decide (n10 ≥ 0)), q9.2)) := (ke _ h).trans (by kernel_rfl)
theorem kbe7 (a1 : Int) (a2 : Int) (a3 : Int) (a4 : Int) (a5 : Int) (a6 : Int) (a7 : Int) (a8 : Int) (a9 : Int) (h : AH) : go (.pt F.kbn Td.kgj [(2, .int .u64 a1), (8, .int .u64 a2), (9, .int .u64 a3), (10, .int .u64 a4), (14, .int .u64 a5), (15, .int .u64 a6), (16, .int .u64 a7), (17, .int .u64 a8), (18, .int .u64 a9)]) h =
 cond (decide (a9 ≥ 4294967296)) (
 cond (decide ((IntKind.wrap .u64 (a7 + a3)) ≥ 4294967296)) (
 cond (decide (a2 < 0)) none (
 some (.tup [.int .u64 (IntKind.wrap .u64 ((IntKind.wrap .u64 (a6 * 4294967296)) + (IntKind.wrap .u64 (a9 - 1)))), .int .u64 (ishr .u64 (IntKind.wrap .u64 ((IntKind.wrap .u64 ((IntKind.wrap .u64 (a8 * 4294967296)) + a5)) - (IntKind.wrap .u64 ((IntKind.wrap .u64 (a9 - 1)) * a1)))) a2)], h))) (
 go (.pt F.kbn Td.kgj [(2, .int .u64 a1), (8, .int .u64 a2), (9, .int .u64 a3), (10, .int .u64 a4), (14, .int .u64 a5), (15, .int .u64 a6), (16, .int .u64 (IntKind.wrap .u64 (a7 + a3))), (17, .int .u64 a8), (18, .int .u64 (IntKind.wrap .u64 (a9 - 1)))]) h)) (
 cond (decide ((IntKind.wrap .u64 (a9 * a4)) > (IntKind.wrap .u64 ((IntKind.wrap .u64 (4294967296 * a7)) + a5)))) (
 cond (decide ((IntKind.wrap .u64 (a7 + a3)) ≥ 4294967296)) (
 cond (decide (a2 < 0)) none (
 some (.tup [.int .u64 (IntKind.wrap .u64 ((IntKind.wrap .u64 (a6 * 4294967296)) + (IntKind.wrap .u64 (a9 - 1)))), .int .u64 (ishr .u64 (IntKind.wrap .u64 ((IntKind.wrap .u64 ((IntKind.wrap .u64 (a8 * 4294967296)) + a5)) - (IntKind.wrap .u64 ((IntKind.wrap .u64 (a9 - 1)) * a1)))) a2)], h))) (
 go (.pt F.kbn Td.kgj [(2, .int .u64 a1), (8, .int .u64 a2), (9, .int .u64 a3), (10, .int .u64 a4), (14, .int .u64 a5), (15, .int .u64 a6), (16, .int .u64 (IntKind.wrap .u64 (a7 + a3))), (17, .int .u64 a8), (18, .int .u64 (IntKind.wrap .u64 (a9 - 1)))]) h)) (
 cond (decide (a2 < 0)) none (
 some (.tup [.int .u64 (IntKind.wrap .u64 ((IntKind.wrap .u64 (a6 * 4294967296)) + a9)), .int .u64 (ishr .u64 (IntKind.wrap .u64 ((IntKind.wrap .u64 ((IntKind.wrap .u64 (a8 * 4294967296)) + a5)) - (IntKind.wrap .u64 (a9 * a1)))) a2)], h)))) := (ke _ h).trans (by kernel_rfl)
end Go.Ab
