/- squeezed -/
import Derived.Test.YtdgeifgljeebbaaGreatPAbsDra
import Derived.Test.YtdgeifgljeebbaaGreatProg
import Derived.Test.YtdgeifgljeebbaaGreatPAbsQ

set_option linter.unusedVariables false
set_option maxRecDepth 100000
namespace Go.Ab
open Go.Proofs
@[reducible] def F.kpp : FuncId := 3
@[reducible] def F.kex : FuncId := 4
@[reducible] def F.kow : FuncId := 5
@[reducible] def F.kq3 : FuncId := 6
@[reducible] def F.kpt : FuncId := 7
@[reducible] def F.kft : FuncId := 8
@[reducible] def F.kfk : FuncId := 9
@[reducible] def F.khj : FuncId := 10
@[reducible] def F.kmv : FuncId := 11
@[reducible] def F.kno : FuncId := 12
@[reducible] def F.kia : FuncId := 13
@[reducible] def F.kmq : FuncId := 14
@[reducible] def F.knm : FuncId := 15
@[reducible] def F.kox : FuncId := 16
@[reducible] def F.krd : FuncId := 17
@[reducible] def F.kou : FuncId := 18
@[reducible] def F.kim : FuncId := 19
@[reducible] def F.kjz : FuncId := 20
@[reducible] def F.khe : FuncId := 21
@[reducible] def F.kj0 : FuncId := 22
@[reducible] def F.kk8 : FuncId := 23
@[reducible] def F.kr6 : FuncId := 24
@[reducible] def F.kqy : FuncId := 25
@[reducible] def F.kr0 : FuncId := 26
@[reducible] def F.kgj : FuncId := 27
@[reducible] def F.kcf : FuncId := 28
@[reducible] def F.kh2 : FuncId := 29
@[reducible] def F.kdj : FuncId := 30
@[reducible] def F.kmu : FuncId := 31
@[reducible] def F.ke3 : FuncId := 32
@[reducible] def F.kc1 : FuncId := 33
@[reducible] def F.kf4 : FuncId := 34
@[reducible] def F.kbf : FuncId := 35
@[reducible] def F.kdn : FuncId := 36
@[reducible] def F.kic : FuncId := 37
@[reducible] def F.kl8 : FuncId := 38
@[reducible] def F.kgn : FuncId := 39
@[reducible] def F.kqe : FuncId := 40
@[reducible] def F.kb4 : FuncId := 41
@[reducible] def F.ki2 : FuncId := 42
@[reducible] def F.kkb : FuncId := 43
@[reducible] def F.kfx : FuncId := 44
@[reducible] def F.kkm : FuncId := 45
@[reducible] def F.kmy : FuncId := 46
@[reducible] def F.kop : FuncId := 47
@[reducible] def F.kj7 : FuncId := 48
@[reducible] def F.kjf : FuncId := 49
@[reducible] def F.kh5 : FuncId := 50
@[reducible] def F.kon : FuncId := 51
@[reducible] def F.kp6 : FuncId := 52
@[reducible] def F.kd7 : FuncId := 53
@[reducible] def F.kb0 : FuncId := 54
@[reducible] def F.khz : FuncId := 55
@[reducible] def F.ke7 : FuncId := 56
@[reducible] def F.kdz : FuncId := 57
@[reducible] def F.kiu : FuncId := 58
@[reducible] def F.kci : FuncId := 59
@[reducible] def F.ke1 : FuncId := 60
@[reducible] def F.kgl : FuncId := 61
@[reducible] def F.keo : FuncId := 62
@[reducible] def F.kbd : FuncId := 63
@[reducible] def F.kfh : FuncId := 64
@[reducible] def F.kek : FuncId := 65
@[reducible] def F.kch : FuncId := 66
@[reducible] def F.kcb : FuncId := 67
@[reducible] def F.ke0 : FuncId := 68
@[reducible] def F.kb7 : FuncId := 69
@[reducible] def F.kn1 : FuncId := 70
@[reducible] def F.kjt : FuncId := 71
@[reducible] def F.krw : FuncId := 72
@[reducible] def F.kdu : FuncId := 73
@[reducible] def F.kly : FuncId := 74
@[reducible] def F.kes : FuncId := 75
@[reducible] def F.kjn : FuncId := 76
@[reducible] def F.kbv : FuncId := 77
@[reducible] def F.kcn : FuncId := 78
@[reducible] def F.ki9 : FuncId := 79
@[reducible] def F.kq9 : FuncId := 80
@[reducible] def F.kx : FuncId := 81
@[reducible] def F.kk5 : FuncId := 82
@[reducible] def F.kdk : FuncId := 83
@[reducible] def F.kbc : FuncId := 84
@[reducible] def F.kf3 : FuncId := 86
@[reducible] def F.kdr : FuncId := 87
@[reducible] def F.kb1 : FuncId := 88
@[reducible] def F.kg8 : FuncId := 89
@[reducible] def F.kl6 : FuncId := 90
@[reducible] def F.keh : FuncId := 91
@[reducible] def F.kem : FuncId := 92
@[reducible] def F.kje : FuncId := 93
@[reducible] def F.kb9 : FuncId := 94
@[reducible] def F.kir : FuncId := 95
@[reducible] def F.kh8 : FuncId := 96
@[reducible] def F.kcp : FuncId := 97
@[reducible] def F.kbk : FuncId := 98
@[reducible] def F.kli : FuncId := 99
@[reducible] def F.kdq : FuncId := 100
@[reducible] def F.keg : FuncId := 101
@[reducible] def F.kct : FuncId := 103
@[reducible] def F.kcv : FuncId := 104
@[reducible] def F.kgp : FuncId := 105
@[reducible] def F.kcy : FuncId := 106
@[reducible] def F.kju : FuncId := 107
@[reducible] def T.func : TypeId := 1
@[reducible] def T.int : TypeId := 3
@[reducible] def T.bool : TypeId := 4
@[reducible] def T.kbu : TypeId := 5
@[reducible] def T.string : TypeId := 9
@[reducible] def T.kr : TypeId := 23
@[reducible] def T.kr7 : TypeId := 24
@[reducible] def T.ke : TypeId := 42
@[reducible] def T.ku6 : TypeId := 45
@[reducible] def T.kwt : TypeId := 47
@[reducible] def T.k4x : TypeId := 52
@[reducible] def T.ksk : TypeId := 66
@[reducible] def T.kcc : TypeId := 84
@[reducible] noncomputable def Pg : Program := Tryz.prog
def keepTab : List (Nat × Nat × List Nat) := [(4, 2, [0, 3]), (8, 7, [0, 1, 2]), (9, 9, [0, 1, 2]), (10, 4, [0, 1, 5]), (21, 8, [0, 1, 9]), (32, 1, [0, 1, 2]), (34, 4, [0, 1]), (36, 6, [0, 4, 5]), (40, 1000005, [1, 2, 3, 4, 5, 6, 7, 8, 9, 10, 11, 12, 13, 14, 15, 0, 16, 17]), (41, 2, [0, 4]), (41, 8, [0, 4, 5, 6]), (44, 7, [8, 9]), (53, 5, [0, 4, 40]), (54, 7, [0, 2, 8, 9, 10, 44]), (54, 12, [2, 8, 9, 11, 12]), (54, 16, [2, 8, 9, 11, 12, 13, 72]), (57, 6, [0, 1, 5]), (59, 4, [0, 1, 5, 6, 13, 14]), (60, 9, [0, 5, 23, 24]), (62, 6, [0, 1, 5]), (63, 3, [0, 3, 4]), (63, 7, [0, 3, 4, 5, 6]), (65, 4, [0, 1, 5, 6, 7]), (65, 1000006, [0, 1, 2, 3, 4, 5, 6, 9, 7, 8, 10, 11]), (66, 2, [0, 3]), (67, 4, [0, 1, 6, 7, 8]), (67, 9, [0, 1, 6, 7, 8, 9, 10]), (68, 4, [0, 3, 4]), (69, 3, [0, 1, 5, 6]), (69, 7, [0, 1, 5, 6, 7, 8]), (73, 3, [0, 1, 2, 7, 8]), (75, 4, [0, 1, 6, 7, 8]), (77, 6, [6, 7, 8, 9, 10, 11]), (77, 10, [6, 7, 8, 9, 10, 11, 12, 13]), (77, 18, [6, 10, 15, 16, 112, 113]), (78, 6, [0, 1, 5, 6, 21, 22]), (81, 4, [0, 1, 2, 7, 8, 20, 21]), (84, 2, [0, 3]), (86, 2, [0, 1, 7, 8]), (88, 3, [0, 4, 5]), (88, 7, [0, 4, 5, 6, 7]), (91, 4, [0, 1, 5, 6, 7]), (92, 6, [1, 6, 7]), (93, 1000006, [0, 1, 2, 4, 5, 8, 9, 10, 12, 13, 3, 6, 7, 11, 14, 15, 16, 17]), (93, 1000007, [0, 1, 2, 4, 5, 9, 10, 12, 13, 3, 6, 7, 8, 11, 14, 15, 16, 17, 18]), (94, 3, [1, 5, 20, 21, 22]), (94, 7, [1, 5, 6, 7, 8, 20, 21, 22, 27, 28, 29]), (97, 2, [0, 1, 2, 6, 7]), (98, 3, [0, 1, 2]), (98, 17, [2, 8, 9, 10, 11, 13, 14, 15, 16]), (98, 24, [2, 8, 9, 10, 14, 15, 16, 17, 18]), (100, 3, [1, 5, 12, 13, 14]), (101, 4, [2, 3, 4, 11, 12]), (104, 2, [0, 1, 2, 6, 12, 13]), (105, 2, [0, 3]), (106, 2, [0, 1, 7, 8])]
noncomputable def go : Rec := run Pg (keepOf keepTab)
theorem kc (k : Key) (h : AH) : go k h = stepA Pg (keepOf keepTab) go k h := k5s _ k h
theorem k9a : Pg.underlying T.kbu = some (.int .u8) := Tryz.underlying5
theorem kor : Pg.cellsOf T.kbu = 1 := by kernel_rfl
theorem kbb2 : kcu Pg T.kbu = some [.int .u8 0] := by kernel_rfl
theorem k2t : Pg.bytesOf T.kbu = 1 := by kernel_rfl
theorem kyl : Pg.underlying T.kr = some (.slice T.ke) := Tryz.underlying23
theorem k81 : Pg.cellsOf T.kr = 1 := by kernel_rfl
theorem k1p : kcu Pg T.kr = some [(⟨none, 0, .is 0⟩ : Sl).v] := by kernel_rfl
theorem k2g : Pg.bytesOf T.kr = 24 := by kernel_rfl
theorem kvu : Pg.underlying T.kr7 = some (.slice T.kbu) := Tryz.underlying24
theorem kyz : Pg.underlying T.ke = some (.int .u64) := Tryz.underlying42
theorem kh1 : Pg.cellsOf T.ke = 1 := by kernel_rfl
theorem kvt : kcu Pg T.ke = some [.int .u64 0] := by kernel_rfl
theorem kb5 : Pg.bytesOf T.ke = 8 := by kernel_rfl
noncomputable def Td.kom : List Item := todoAt Tryz.f4 2
noncomputable def Td.koz : List Item := todoAt Tryz.f8 7
noncomputable def Td.knd : List Item := todoAt Tryz.f9 9
noncomputable def Td.kof : List Item := todoAt Tryz.f10 4
noncomputable def Td.klt : List Item := todoAt Tryz.f21 8
noncomputable def Td.kha : List Item := todoAt Tryz.f32 1
noncomputable def Td.kol : List Item := todoAt Tryz.f34 4
noncomputable def Td.kmc : List Item := todoAt Tryz.f36 6
noncomputable def Td.kn0 : List Item := todoAt Tryz.f41 2
noncomputable def Td.ker : List Item := todoAt Tryz.f41 8
noncomputable def Td.koj : List Item := todoAt Tryz.f44 7
noncomputable def Td.kif : List Item := todoAt Tryz.f53 5
noncomputable def Td.kny : List Item := todoAt Tryz.f54 7
noncomputable def Td.kl9 : List Item := todoAt Tryz.f54 12
noncomputable def Td.kjo : List Item := todoAt Tryz.f54 16
noncomputable def Td.km9 : List Item := todoAt Tryz.f57 6
noncomputable def Td.kii : List Item := todoAt Tryz.f59 4
noncomputable def Td.kmj : List Item := todoAt Tryz.f60 9
noncomputable def Td.kn8 : List Item := todoAt Tryz.f62 6
noncomputable def Td.kkp : List Item := todoAt Tryz.f63 3
noncomputable def Td.kn6 : List Item := todoAt Tryz.f63 7
noncomputable def Td.kj9 : List Item := todoAt Tryz.f65 4
noncomputable def Td.kml : List Item := todoAt Tryz.f66 2
noncomputable def Td.knp : List Item := todoAt Tryz.f67 4
noncomputable def Td.kk6 : List Item := todoAt Tryz.f67 9
noncomputable def Td.koq : List Item := todoAt Tryz.f68 4
noncomputable def Td.knr : List Item := todoAt Tryz.f69 3
noncomputable def Td.kll : List Item := todoAt Tryz.f69 7
noncomputable def Td.kkg : List Item := todoAt Tryz.f73 3
noncomputable def Td.kov : List Item := todoAt Tryz.f75 4
noncomputable def Td.kok : List Item := todoAt Tryz.f77 6
noncomputable def Td.knv : List Item := todoAt Tryz.f77 10
noncomputable def Td.khn : List Item := todoAt Tryz.f77 18
noncomputable def Td.kf7 : List Item := todoAt Tryz.f78 6
noncomputable def Td.kix : List Item := todoAt Tryz.f81 4
noncomputable def Td.kk2 : List Item := todoAt Tryz.f84 2
noncomputable def Td.khm : List Item := todoAt Tryz.f86 2
noncomputable def Td.kik : List Item := todoAt Tryz.f88 3
noncomputable def Td.kjb : List Item := todoAt Tryz.f88 7
noncomputable def Td.kis : List Item := todoAt Tryz.f91 4
noncomputable def Td.kmp : List Item := todoAt Tryz.f92 6
noncomputable def Td.klm : List Item := todoAt Tryz.f94 3
noncomputable def Td.km4 : List Item := todoAt Tryz.f94 7
noncomputable def Td.kg1 : List Item := todoAt Tryz.f97 2
noncomputable def Td.kq2 : List Item := todoAt Tryz.f98 3
noncomputable def Td.kkw : List Item := todoAt Tryz.f98 17
noncomputable def Td.khi : List Item := todoAt Tryz.f98 24
noncomputable def Td.kjh : List Item := todoAt Tryz.f100 3
noncomputable def Td.kku : List Item := todoAt Tryz.f101 4
noncomputable def Td.kk1 : List Item := todoAt Tryz.f104 2
noncomputable def Td.kmb : List Item := todoAt Tryz.f105 2
noncomputable def Td.kgx : List Item := todoAt Tryz.f106 2
def lit1 : ByteArray := (⟨((List.append (List.append ([0, 1, 2, 2, 3, 3, 3, 3, 4, 4, 4, 4, 4, 4, 4, 4, 5, 5, 5, 5, 5, 5, 5, 5, 5, 5, 5, 5, 5, 5, 5, 5, 6, 6, 6, 6, 6, 6, 6, 6, 6, 6, 6, 6, 6, 6, 6, 6, 6, 6, 6, 6, 6, 6, 6, 6, 6, 6, 6, 6, 6, 6, 6, 6] : List UInt8) ([7, 7, 7, 7, 7, 7, 7, 7, 7, 7, 7, 7, 7, 7, 7, 7, 7, 7, 7, 7, 7, 7, 7, 7, 7, 7, 7, 7, 7, 7, 7, 7, 7, 7, 7, 7, 7, 7, 7, 7, 7, 7, 7, 7, 7, 7, 7, 7, 7, 7, 7, 7, 7, 7, 7, 7, 7, 7, 7, 7, 7, 7, 7, 7] : List UInt8)) (List.append ([8, 8, 8, 8, 8, 8, 8, 8, 8, 8, 8, 8, 8, 8, 8, 8, 8, 8, 8, 8, 8, 8, 8, 8, 8, 8, 8, 8, 8, 8, 8, 8, 8, 8, 8, 8, 8, 8, 8, 8, 8, 8, 8, 8, 8, 8, 8, 8, 8, 8, 8, 8, 8, 8, 8, 8, 8, 8, 8, 8, 8, 8, 8, 8] : List UInt8) ([8, 8, 8, 8, 8, 8, 8, 8, 8, 8, 8, 8, 8, 8, 8, 8, 8, 8, 8, 8, 8, 8, 8, 8, 8, 8, 8, 8, 8, 8, 8, 8, 8, 8, 8, 8, 8, 8, 8, 8, 8, 8, 8, 8, 8, 8, 8, 8, 8, 8, 8, 8, 8, 8, 8, 8, 8, 8, 8, 8, 8, 8, 8, 8] : List UInt8)))).toArray⟩ : ByteArray)
theorem ky3 (a1 : Sl) (a2 : Sl) (a3 : Sl) (h : AH) : go (.fn F.kpp [a1.v, a2.v, a3.v]) h =
 newK h (.cells [a1.v, a2.v] T.kr) fun h4r h4 =>
 (go (.fn F.kex [(⟨some h4r, 2, .is 2⟩ : Sl).v]) h4).bind fun q5 =>
 ((some q5.1).bind AV.asBool).bind fun b6 =>
 cond (!b6) (
 some (.bool true, q5.2)) (
 (go (.fn F.kow []) q5.2).bind fun q7 =>
 ((some q7.1).bind AV.asBool).bind fun b8 =>
 (go (.fn F.kq3 [a3.v]) q7.2).bind fun q9 =>
 (AV.asTup2 q9.1).bind fun p10 =>
 ((some p10.1).bind AV.asPtr).bind fun p11 =>
 ((some p10.2).bind (AV.asInt .i64)).bind fun n12 =>
 (go (.fn F.kpt [a3.v]) q9.2).bind fun q13 =>
 (AV.asTup2 q13.1).bind fun p14 =>
 ((some p14.1).bind AV.asPtr).bind fun p15 =>
 ((some p14.2).bind (AV.asInt .i64)).bind fun n16 =>
 cond (!b8) (
 some (.bool false, q13.2)) (
 cond (!decide (n12 = n16)) (
 some (.bool false, q13.2)) (
 cond (!(p11.isNone == p15.isNone)) (
 some (.bool false, q13.2)) (
 (go (.fn F.kft [a1.v, a2.v, .ptr p11]) q13.2).bind fun q17 =>
 (AV.asTup2 q17.1).bind fun p18 =>
 ((some p18.1).bind AV.asSl).bind fun l19 =>
 ((some p18.2).bind (AV.asInt .i64)).bind fun n20 =>
 (go (.fn F.kfk [a1.v, a2.v, .ptr p15]) q17.2).bind fun q21 =>
 (AV.asTup2 q21.1).bind fun p22 =>
 ((some p22.1).bind AV.asSl).bind fun l23 =>
 ((some p22.2).bind (AV.asInt .i64)).bind fun n24 =>
 (go (.fn F.khj [l19.v, l23.v]) q21.2).bind fun q25 =>
 ((some q25.1).bind AV.asBool).bind fun b26 =>
 cond b26 (
 cond (decide (n20 = n24)) (
 cond p11.isNone (
 some (.bool true, q25.2)) (
 (go (.fn F.kmv [.ptr p11]) q25.2).bind fun q27 =>
 ((some q27.1).bind (AV.asInt .i64)).bind fun n28 =>
 (go (.fn F.kno [.ptr p15]) q27.2).bind fun q29 =>
 ((some q29.1).bind (AV.asInt .i64)).bind fun n30 =>
 some (.bool (decide (n28 = n30)), q29.2))) (
 some (.bool false, q25.2))) (
 some (.bool false, q25.2)))))) := (kc _ h).trans (by kernel_rfl)
theorem k9i (a1 : Sl) (a2 : Sl) (a3 : Ref) (h : AH) : go (.fn F.kje [a1.v, a2.v, .ptr (some a3)]) h =
 cond (decide ((a1.len : Int) < 24)) (
 (go (.fn F.kb9 [a1.v, a2.v]) h).bind fun q4 =>
 ((some q4.1).bind AV.asSl).bind fun l5 =>
 some (l5.v, q4.2)) (
 cond (decide ((a2.len : Int) < 24)) (
 (go (.fn F.kb9 [a1.v, a2.v]) h).bind fun q6 =>
 ((some q6.1).bind AV.asSl).bind fun l7 =>
 some (l7.v, q6.2)) (
 newK h (.cells [.int .i64 0] T.int) fun h8r h8 =>
 (h8.puts h8r [.int .i64 (IntKind.wrap .i64 (Int.tdiv (IntKind.wrap .i64 ((imax (a1.len : Int) (a2.len : Int)) + 1)) 2))]).bind fun h9 =>
 (h9.cell a3).bind fun v10 =>
 (h9.cell a3).bind fun v11 =>
 (go (.fn F.kir [a1.v, .ptr (some h8r)]) h9).bind fun q12 =>
 ((some q12.1).bind AV.asSl).bind fun l13 =>
 whenK (SameAt h9 q12.2 a3 1) (
 whenK (SameAt h9 q12.2 a3 1) (
 (go (.fn F.kir [a2.v, .ptr (some h8r)]) q12.2).bind fun q14 =>
 ((some q14.1).bind AV.asSl).bind fun l15 =>
 whenK (SameAt q12.2 q14.2 a3 1) (
 whenK (SameAt q12.2 q14.2 a3 1) (
 (callV Pg go v10 [l13.v, l15.v] q14.2).bind fun q16 =>
 ((some q16.1).bind AV.asSl).bind fun l17 =>
 whenK (SameAt q14.2 q16.2 a3 1) (
 (go (.fn F.kh8 [a1.v, .ptr (some h8r)]) q16.2).bind fun q18 =>
 ((some q18.1).bind AV.asSl).bind fun l19 =>
 whenK (SameAt q16.2 q18.2 a3 1) (
 (go (.fn F.kh8 [a2.v, .ptr (some h8r)]) q18.2).bind fun q20 =>
 ((some q20.1).bind AV.asSl).bind fun l21 =>
 whenK (SameAt q18.2 q20.2 a3 1) (
 (callV Pg go v11 [l19.v, l21.v] q20.2).bind fun q22 =>
 ((some q22.1).bind AV.asSl).bind fun l23 =>
 (q22.2.cell a3).bind fun v24 =>
 (go (.fn F.kir [a1.v, .ptr (some h8r)]) q22.2).bind fun q25 =>
 ((some q25.1).bind AV.asSl).bind fun l26 =>
 whenK (SameAt q22.2 q25.2 a3 1) (
 (go (.fn F.kh8 [a1.v, .ptr (some h8r)]) q25.2).bind fun q27 =>
 ((some q27.1).bind AV.asSl).bind fun l28 =>
 whenK (SameAt q25.2 q27.2 a3 1) (
 (go (.fn F.kcn [l26.v, l28.v]) q27.2).bind fun q29 =>
 ((some q29.1).bind AV.asSl).bind fun l30 =>
 whenK (SameAt q27.2 q29.2 a3 1) (
 (go (.fn F.kbc [l30.v]) q29.2).bind fun q31 =>
 ((some q31.1).bind AV.asSl).bind fun l32 =>
 whenK (SameAt q29.2 q31.2 a3 1) (
 (go (.fn F.kir [a2.v, .ptr (some h8r)]) q31.2).bind fun q33 =>
 ((some q33.1).bind AV.asSl).bind fun l34 =>
 whenK (SameAt q31.2 q33.2 a3 1) (
 (go (.fn F.kh8 [a2.v, .ptr (some h8r)]) q33.2).bind fun q35 =>
 ((some q35.1).bind AV.asSl).bind fun l36 =>
 whenK (SameAt q33.2 q35.2 a3 1) (
 (go (.fn F.kcn [l34.v, l36.v]) q35.2).bind fun q37 =>
 ((some q37.1).bind AV.asSl).bind fun l38 =>
 whenK (SameAt q35.2 q37.2 a3 1) (
 (go (.fn F.kbc [l38.v]) q37.2).bind fun q39 =>
 ((some q39.1).bind AV.asSl).bind fun l40 =>
 whenK (SameAt q37.2 q39.2 a3 1) (
 (callV Pg go v24 [l32.v, l40.v] q39.2).bind fun q41 =>
 ((some q41.1).bind AV.asSl).bind fun l42 =>
 (go (.fn F.kci [l42.v, l17.v]) q41.2).bind fun q43 =>
 ((some q43.1).bind AV.asSl).bind fun l44 =>
 (go (.fn F.kbc [l44.v]) q43.2).bind fun q45 =>
 ((some q45.1).bind AV.asSl).bind fun l46 =>
 (go (.fn F.kci [l46.v, l23.v]) q45.2).bind fun q47 =>
 ((some q47.1).bind AV.asSl).bind fun l48 =>
 (go (.fn F.kbc [l48.v]) q47.2).bind fun q49 =>
 ((some q49.1).bind AV.asSl).bind fun l50 =>
 (kbg (IntKind.wrap .i64 ((IntKind.wrap .i64 ((a1.len : Int) + (a2.len : Int))) + 1)) (IntKind.wrap .i64 ((IntKind.wrap .i64 ((a1.len : Int) + (a2.len : Int))) + 1)) T.ke (Pg.bytesOf T.ke) [.int .u64 0] q49.2).bind fun q51 =>
 (copyH l17 q51.1 1 q51.2).bind fun h52 =>
 ((h52.cell h8r).bind (AV.asInt .i64)).bind fun n53 =>
 (go (.fn F.kcp [q51.1.v, l50.v, .int .i64 n53]) h52).bind fun q54 =>
 (AV.asTup0 q54.1).bind fun _ =>
 ((q54.2.cell h8r).bind (AV.asInt .i64)).bind fun n55 =>
 (go (.fn F.kcp [q51.1.v, l23.v, .int .i64 (IntKind.wrap .i64 (2 * n55))]) q54.2).bind fun q56 =>
 (AV.asTup0 q56.1).bind fun _ =>
 (go (.fn F.kbc [q51.1.v]) q56.2).bind fun q57 =>
 ((some q57.1).bind AV.asSl).bind fun l58 =>
 some (l58.v, q57.2)))))))))))))))))) := (kc _ h).trans (by kernel_rfl)
theorem k8i (a1 : Sl) (h : AH) : go (.fn F.kex [a1.v]) h =
 go (.pt F.kex Td.kom [(0, a1.v), (3, .int .i64 0)]) h := (kc _ h).trans (by kernel_rfl)
theorem k8v  (h : AH) : go (.fn F.kow []) h =
 newK h (.cells [.int .u64 17947] T.ke) fun h1r h1 =>
 newK h1 (.cells [.int .u64 5] T.ke) fun h2r h2 =>
 newK h2 (.cells [.int .u64 1] T.ke) fun h3r h3 =>
 (go (.fn F.kia [(⟨some h1r, 1, .is 1⟩ : Sl).v, (⟨some h2r, 1, .is 1⟩ : Sl).v, (⟨some h3r, 1, .is 1⟩ : Sl).v]) h3).bind fun q4 =>
 (AV.asTup2 q4.1).bind fun p5 =>
 ((some p5.1).bind AV.asSl).bind fun l6 =>
 ((some p5.2).bind (AV.asInt .i64)).bind fun n7 =>
 cond (decide (n7 = 0)) (
 cond (decide ((l6.len : Int) = 1)) (
 (idx l6.ref l6.len 0 1).bind fun r8 =>
 ((q4.2.cell r8).bind (AV.asInt .u64)).bind fun n9 =>
 some (.bool (decide (n9 = 89736)), q4.2)) (
 some (.bool false, q4.2))) (
 some (.bool false, q4.2)) := (kc _ h).trans (by kernel_rfl)
theorem k5h (a1 : Sl) (h : AH) : go (.fn F.kq3 [a1.v]) h =
 cond (decide ((a1.len : Int) > 65536)) (
 some (.tup [.ptr none, .int .i64 1], h)) (
 (go (.fn F.kmq [a1.v]) h).bind fun q2 =>
 ((some q2.1).bind AV.asSl).bind fun l3 =>
 newK q2.2 (.cells [l3.v] T.ku6) fun h4r h4 =>
 some (.tup [.ptr (some h4r), .int .i64 0], h4)) := (kc _ h).trans (by kernel_rfl)
theorem k6e (a1 : Sl) (h : AH) : go (.fn F.kpt [a1.v]) h =
 cond (decide ((a1.len : Int) > 65536)) (
 some (.tup [.ptr none, .int .i64 1], h)) (
 newK h (.cells [] T.kbu) fun h2r h2 =>
 (ky Pg T.kbu a1.v h2).bind fun p4 =>
 (ko Pg (⟨some h2r, 0, .is 0⟩ : Sl) p4.1 p4.2 T.kbu 1 h2).bind fun q3 =>
 (AV.asSl q3.1).bind fun l5 =>
 newK q3.2 (.cells [l5.v, .int .i64 0] T.kwt) fun h6r h6 =>
 some (.tup [.ptr (some h6r), .int .i64 0], h6)) := (kc _ h).trans (by kernel_rfl)
theorem kuw (a1 : Sl) (a2 : Sl) (a3 : Option Ref) (h : AH) : go (.fn F.kft [a1.v, a2.v, .ptr a3]) h =
 (go (.fn F.knm [a1.v]) h).bind fun q4 =>
 ((some q4.1).bind AV.asBool).bind fun b5 =>
 cond (!b5) (
 some (.tup [(⟨none, 0, .is 0⟩ : Sl).v, .int .i64 1], q4.2)) (
 (go (.fn F.kox [a1.v, a2.v]) q4.2).bind fun q6 =>
 ((some q6.1).bind AV.asBool).bind fun b7 =>
 cond (!b7) (
 some (.tup [(⟨none, 0, .is 0⟩ : Sl).v, .int .i64 10], q6.2)) (
 cond a3.isNone (
 some (.tup [(⟨none, 0, .is 0⟩ : Sl).v, .int .i64 1], q6.2)) (
 go (.pt F.kft Td.koz [(0, a1.v), (1, a2.v), (2, .ptr a3)]) q6.2))) := (kc _ h).trans (by kernel_rfl)
theorem kv1 (a1 : Sl) (a2 : Sl) (a3 : Option Ref) (h : AH) : go (.fn F.kfk [a1.v, a2.v, .ptr a3]) h =
 (go (.fn F.kim [a1.v]) h).bind fun q4 =>
 ((some q4.1).bind AV.asBool).bind fun b5 =>
 cond (!b5) (
 some (.tup [(⟨none, 0, .is 0⟩ : Sl).v, .int .i64 1], q4.2)) (
 (go (.fn F.kjz [a1.v, a2.v]) q4.2).bind fun q6 =>
 ((some q6.1).bind AV.asBool).bind fun b7 =>
 cond (!b7) (
 some (.tup [(⟨none, 0, .is 0⟩ : Sl).v, .int .i64 10], q6.2)) (
 cond a3.isNone (
 some (.tup [(⟨none, 0, .is 0⟩ : Sl).v, .int .i64 1], q6.2)) (
 go (.pt F.kfk Td.knd [(0, a1.v), (1, a2.v), (2, .ptr a3)]) q6.2))) := (kc _ h).trans (by kernel_rfl)
theorem k3j (a1 : Sl) (a2 : Sl) (h : AH) : go (.fn F.khj [a1.v, a2.v]) h =
 cond (!decide ((a1.len : Int) = (a2.len : Int))) (
 some (.bool false, h)) (
 go (.pt F.khj Td.kof [(0, a1.v), (1, a2.v), (5, .int .i64 0)]) h) := (kc _ h).trans (by kernel_rfl)
theorem kbb5 (a1 : Option Ref) (h : AH) : go (.fn F.kmv [.ptr a1]) h =
 a1.bind fun r2 =>
 ((h.cell (r2.add 0)).bind AV.asSl).bind fun l3 =>
 some (.int .i64 (l3.len : Int), h) := (kc _ h).trans (by kernel_rfl)
theorem k3x (a1 : Option Ref) (h : AH) : go (.fn F.kno [.ptr a1]) h =
 a1.bind fun r2 =>
 ((h.cell (r2.add 0)).bind AV.asSl).bind fun l3 =>
 a1.bind fun r4 =>
 ((h.cell (r4.add 1)).bind (AV.asInt .i64)).bind fun n5 =>
 some (.int .i64 (IntKind.wrap .i64 ((l3.len : Int) - n5)), h) := (kc _ h).trans (by kernel_rfl)
theorem kbag (a1 : Sl) (a2 : Sl) (h : AH) : go (.fn F.kb9 [a1.v, a2.v]) h =
 (kbg (IntKind.wrap .i64 ((a1.len : Int) + (a2.len : Int))) (IntKind.wrap .i64 ((a1.len : Int) + (a2.len : Int))) T.ke (Pg.bytesOf T.ke) [.int .u64 0] h).bind fun q3 =>
 go (.pt F.kb9 Td.klm [(1, a2.v), (5, q3.1.v), (20, a1.v), (21, .int .i64 (a1.len : Int)), (22, .int .i64 0)]) q3.2 := (kc _ h).trans (by kernel_rfl)
theorem k1l (a1 : Sl) (a2 : Ref) (h : AH) : go (.fn F.kir [a1.v, .ptr (some a2)]) h =
 ((h.cell a2).bind (AV.asInt .i64)).bind fun n3 =>
 (cutSl a1 0 (imin n3 (a1.len : Int)) 1).bind fun l4 =>
 (go (.fn F.kbc [l4.v]) h).bind fun q5 =>
 ((some q5.1).bind AV.asSl).bind fun l6 =>
 some (l6.v, q5.2) := (kc _ h).trans (by kernel_rfl)
theorem k2l (a1 : Sl) (a2 : Ref) (h : AH) : go (.fn F.kh8 [a1.v, .ptr (some a2)]) h =
 ((h.cell a2).bind (AV.asInt .i64)).bind fun n3 =>
 (cutSl a1 (imin n3 (a1.len : Int)) (a1.len : Int) 1).bind fun l4 =>
 some (l4.v, h) := (kc _ h).trans (by kernel_rfl)
theorem kbbu (a1 : Sl) (a2 : Sl) (h : AH) : go (.fn F.kcn [a1.v, a2.v]) h =
 cond (decide ((a1.len : Int) < (a2.len : Int))) (
 (kbg (IntKind.wrap .i64 ((a2.len : Int) + 1)) (IntKind.wrap .i64 ((a2.len : Int) + 1)) T.ke (Pg.bytesOf T.ke) [.int .u64 0] h).bind fun q3 =>
 go (.pt F.kcn Td.kf7 [(0, a2.v), (1, a1.v), (5, q3.1.v), (6, .int .u64 0), (21, .int .i64 (a2.len : Int)), (22, .int .i64 0)]) q3.2) (
 (kbg (IntKind.wrap .i64 ((a1.len : Int) + 1)) (IntKind.wrap .i64 ((a1.len : Int) + 1)) T.ke (Pg.bytesOf T.ke) [.int .u64 0] h).bind fun q4 =>
 go (.pt F.kcn Td.kf7 [(0, a1.v), (1, a2.v), (5, q4.1.v), (6, .int .u64 0), (21, .int .i64 (a1.len : Int)), (22, .int .i64 0)]) q4.2) := (kc _ h).trans (by kernel_rfl)
theorem krz (a1 : Sl) (h : AH) : go (.fn F.kbc [a1.v]) h =
 go (.pt F.kbc Td.kk2 [(0, a1.v), (3, .int .i64 (a1.len : Int))]) h := (kc _ h).trans (by kernel_rfl)
theorem kba4 (a1 : Sl) (a2 : Sl) (h : AH) : go (.fn F.kci [a1.v, a2.v]) h =
 (kbg (a1.len : Int) (a1.len : Int) T.ke (Pg.bytesOf T.ke) [.int .u64 0] h).bind fun q3 =>
 go (.pt F.kci Td.kii [(0, a1.v), (1, a2.v), (5, q3.1.v), (6, .int .u64 0), (13, .int .i64 (a1.len : Int)), (14, .int .i64 0)]) q3.2 := (kc _ h).trans (by kernel_rfl)
theorem kbbw (a1 : Sl) (a2 : Sl) (a3 : Int) (h : AH) : go (.fn F.kcp [a1.v, a2.v, .int .i64 a3]) h =
 go (.pt F.kcp Td.kg1 [(0, a1.v), (1, a2.v), (2, .int .i64 a3), (6, .int .u64 0), (7, .int .i64 a3)]) h := (kc _ h).trans (by kernel_rfl)
theorem kbby (a1 : Sl) (a2 : Int) (h : AH) : go (.pt F.kex Td.kom [(0, a1.v), (3, .int .i64 a2)]) h =
 cond (decide (a2 < (a1.len : Int))) (
 (idx a1.ref a1.len a2 1).bind fun r3 =>
 ((h.cell r3).bind AV.asSl).bind fun l4 =>
 cond (decide ((l4.len : Int) > 20)) (
 some (.bool false, h)) (
 go (.pt F.kex Td.kom [(0, a1.v), (3, .int .i64 (IntKind.wrap .i64 (a2 + 1)))]) h)) (
 some (.bool true, h)) := (kc _ h).trans (by kernel_rfl)
theorem k15 (a1 : Sl) (a2 : Sl) (a3 : Sl) (h : AH) : go (.fn F.kia [a1.v, a2.v, a3.v]) h =
 (go (.fn F.knm [a1.v]) h).bind fun q4 =>
 ((some q4.1).bind AV.asBool).bind fun b5 =>
 cond (!b5) (
 some (.tup [(⟨none, 0, .is 0⟩ : Sl).v, .int .i64 1], q4.2)) (
 (go (.fn F.kox [a1.v, a2.v]) q4.2).bind fun q6 =>
 ((some q6.1).bind AV.asBool).bind fun b7 =>
 cond (!b7) (
 some (.tup [(⟨none, 0, .is 0⟩ : Sl).v, .int .i64 10], q6.2)) (
 (go (.fn F.kou [a3.v, a1.v, a1.v]) q6.2).bind fun q8 =>
 ((some q8.1).bind AV.asBool).bind fun b9 =>
 cond (!b9) (
 some (.tup [(⟨none, 0, .is 0⟩ : Sl).v, .int .i64 1], q8.2)) (
 (go (.fn F.kqy [a1.v, a2.v]) q8.2).bind fun q10 =>
 ((some q10.1).bind AV.asSl).bind fun l11 =>
 (go (.fn F.kr0 [a1.v, a3.v, a1.v]) q10.2).bind fun q12 =>
 ((some q12.1).bind AV.asSl).bind fun l13 =>
 (go (.fn F.kr6 [a1.v, l11.v, l13.v]) q12.2).bind fun q14 =>
 ((some q14.1).bind AV.asSl).bind fun l15 =>
 some (.tup [l15.v, .int .i64 0], q14.2)))) := (kc _ h).trans (by kernel_rfl)
theorem kbbf (a1 : Sl) (h : AH) : go (.fn F.kmq [a1.v]) h =
 cond a1.ref.isNone (
 some ((⟨none, 0, .is 0⟩ : Sl).v, h)) (
 newK h (.cells [] T.kbu) fun h2r h2 =>
 (ky Pg T.kbu a1.v h2).bind fun p4 =>
 (ko Pg (⟨some h2r, 0, .is 0⟩ : Sl) p4.1 p4.2 T.kbu 1 h2).bind fun q3 =>
 (AV.asSl q3.1).bind fun l5 =>
 some (l5.v, q3.2)) := (kc _ h).trans (by kernel_rfl)
theorem k5q (a1 : Sl) (h : AH) : go (.fn F.knm [a1.v]) h =
 (go (.fn F.kgj [a1.v]) h).bind fun q2 =>
 ((some q2.1).bind (AV.asInt .i64)).bind fun n3 =>
 (go (.fn F.kcf [a1.v]) q2.2).bind fun q4 =>
 ((some q4.1).bind AV.asBool).bind fun b5 =>
 cond b5 (
 (go (.fn F.kh2 [a1.v, .int .i64 0]) q4.2).bind fun q6 =>
 ((some q6.1).bind AV.asBool).bind fun b7 =>
 cond b7 (
 cond (decide (n3 ≥ 15)) (
 some (.bool (decide (n3 ≤ 80)), q6.2)) (
 some (.bool false, q6.2))) (
 some (.bool false, q6.2))) (
 some (.bool false, q4.2)) := (kc _ h).trans (by kernel_rfl)
theorem kz5 (a1 : Sl) (a2 : Sl) (h : AH) : go (.fn F.kox [a1.v, a2.v]) h =
 (go (.fn F.kcf [a2.v]) h).bind fun q3 =>
 ((some q3.1).bind AV.asBool).bind fun b4 =>
 cond b4 (
 (go (.fn F.kdj [a2.v, a1.v]) q3.2).bind fun q5 =>
 ((some q5.1).bind (AV.asInt .i64)).bind fun n6 =>
 some (.bool (decide (n6 < 0)), q5.2)) (
 some (.bool false, q3.2)) := (kc _ h).trans (by kernel_rfl)
theorem ks8 (a1 : Sl) (a2 : Sl) (a3 : Option Ref) (h : AH) : go (.pt F.kft Td.koz [(0, a1.v), (1, a2.v), (2, .ptr a3)]) h =
 (go (.fn F.krd [.ptr a3, a1.v]) h).bind fun q4 =>
 (AV.asTup2 q4.1).bind fun p5 =>
 ((some p5.1).bind AV.asSl).bind fun l6 =>
 ((some p5.2).bind (AV.asInt .i64)).bind fun n7 =>
 cond (!decide (n7 = 0)) (
 some (.tup [(⟨none, 0, .is 0⟩ : Sl).v, .int .i64 n7], q4.2)) (
 (go (.fn F.kou [l6.v, a1.v, a1.v]) q4.2).bind fun q8 =>
 ((some q8.1).bind AV.asBool).bind fun b9 =>
 cond b9 (
 (go (.fn F.kia [a1.v, a2.v, l6.v]) q8.2).bind fun q10 =>
 (AV.asTup2 q10.1).bind fun p11 =>
 ((some p11.1).bind AV.asSl).bind fun l12 =>
 ((some p11.2).bind (AV.asInt .i64)).bind fun n13 =>
 some (.tup [l12.v, .int .i64 n13], q10.2)) (
 go (.pt F.kft Td.koz [(0, a1.v), (1, a2.v), (2, .ptr a3)]) q8.2)) := (kc _ h).trans (by kernel_rfl)
theorem k9p (a1 : Sl) (h : AH) : go (.fn F.kim [a1.v]) h =
 (go (.fn F.kbf [a1.v]) h).bind fun q2 =>
 ((some q2.1).bind AV.asBool).bind fun b3 =>
 (go (.fn F.kdn [a1.v]) q2.2).bind fun q4 =>
 ((some q4.1).bind (AV.asInt .i64)).bind fun n5 =>
 cond b3 (
 cond (decide ((a1.len : Int) > 0)) (
 (idx a1.ref a1.len 0 1).bind fun r6 =>
 ((q4.2.cell r6).bind (AV.asInt .u64)).bind fun n7 =>
 cond (decide ((Int.tmod n7 2) = 1)) (
 cond (decide (n5 ≥ 15)) (
 some (.bool (decide (n5 ≤ 80)), q4.2)) (
 some (.bool false, q4.2))) (
 some (.bool false, q4.2))) (
 some (.bool false, q4.2))) (
 some (.bool false, q4.2)) := (kc _ h).trans (by kernel_rfl)
theorem k8y (a1 : Sl) (a2 : Sl) (h : AH) : go (.fn F.kjz [a1.v, a2.v]) h =
 (go (.fn F.kbf [a2.v]) h).bind fun q3 =>
 ((some q3.1).bind AV.asBool).bind fun b4 =>
 cond b4 (
 (go (.fn F.kic [a2.v, a1.v]) q3.2).bind fun q5 =>
 ((some q5.1).bind (AV.asInt .i64)).bind fun n6 =>
 some (.bool (decide (n6 < 0)), q5.2)) (
 some (.bool false, q3.2)) := (kc _ h).trans (by kernel_rfl)
theorem ku1 (a1 : Sl) (a2 : Sl) (a3 : Option Ref) (h : AH) : go (.pt F.kfk Td.knd [(0, a1.v), (1, a2.v), (2, .ptr a3)]) h =
 (go (.fn F.khe [.ptr a3, a1.v]) h).bind fun q4 =>
 (AV.asTup2 q4.1).bind fun p5 =>
 ((some p5.1).bind AV.asSl).bind fun l6 =>
 ((some p5.2).bind (AV.asInt .i64)).bind fun n7 =>
 cond (!decide (n7 = 0)) (
 some (.tup [(⟨none, 0, .is 0⟩ : Sl).v, .int .i64 n7], q4.2)) (
 (go (.fn F.kj0 [l6.v, a1.v, a1.v]) q4.2).bind fun q8 =>
 ((some q8.1).bind AV.asBool).bind fun b9 =>
 cond b9 (
 (go (.fn F.kk8 [a1.v, a2.v, l6.v]) q8.2).bind fun q10 =>
 (AV.asTup2 q10.1).bind fun p11 =>
 ((some p11.1).bind AV.asSl).bind fun l12 =>
 ((some p11.2).bind (AV.asInt .i64)).bind fun n13 =>
 some (.tup [l12.v, .int .i64 n13], q10.2)) (
 go (.pt F.kfk Td.knd [(0, a1.v), (1, a2.v), (2, .ptr a3)]) q8.2)) := (kc _ h).trans (by kernel_rfl)
theorem kvq (a1 : Sl) (a2 : Sl) (a3 : Int) (h : AH) : go (.pt F.khj Td.kof [(0, a1.v), (1, a2.v), (5, .int .i64 a3)]) h =
 cond (decide (a3 < (a1.len : Int))) (
 (idx a1.ref a1.len a3 1).bind fun r4 =>
 ((h.cell r4).bind (AV.asInt .u64)).bind fun n5 =>
 (idx a2.ref a2.len a3 1).bind fun r6 =>
 ((h.cell r6).bind (AV.asInt .u64)).bind fun n7 =>
 cond (!decide (n5 = n7)) (
 some (.bool false, h)) (
 go (.pt F.khj Td.kof [(0, a1.v), (1, a2.v), (5, .int .i64 (IntKind.wrap .i64 (a3 + 1)))]) h)) (
 some (.bool true, h)) := (kc _ h).trans (by kernel_rfl)
theorem kbaq (a1 : Sl) (a2 : Sl) (a3 : Sl) (a4 : Int) (a5 : Int) (h : AH) : go (.pt F.kb9 Td.klm [(1, a1.v), (5, a2.v), (20, a3.v), (21, .int .i64 a4), (22, .int .i64 a5)]) h =
 cond (decide (a5 < a4)) (
 (idx a3.ref a3.len a5 1).bind fun r6 =>
 ((h.cell r6).bind (AV.asInt .u64)).bind fun n7 =>
 go (.pt F.kb9 Td.km4 [(1, a1.v), (5, a2.v), (6, .int .i64 a5), (7, .int .u64 n7), (8, .int .u64 0), (20, a3.v), (21, .int .i64 a4), (22, .int .i64 a5), (27, a1.v), (28, .int .i64 (a1.len : Int)), (29, .int .i64 0)]) h) (
 (go (.fn F.kbc [a2.v]) h).bind fun q8 =>
 ((some q8.1).bind AV.asSl).bind fun l9 =>
 some (l9.v, q8.2)) := (kc _ h).trans (by kernel_rfl)
theorem kxy (a1 : Sl) (a2 : Sl) (a3 : Sl) (a4 : Int) (a5 : Int) (a6 : Int) (h : AH) : go (.pt F.kcn Td.kf7 [(0, a1.v), (1, a2.v), (5, a3.v), (6, .int .u64 a4), (21, .int .i64 a5), (22, .int .i64 a6)]) h =
 cond (decide (a6 < a5)) (
 cond (decide (a6 < (a2.len : Int))) (
 (idx a2.ref a2.len a6 1).bind fun r7 =>
 ((h.cell r7).bind (AV.asInt .u64)).bind fun n8 =>
 (idx a1.ref a1.len a6 1).bind fun r9 =>
 ((h.cell r9).bind (AV.asInt .u64)).bind fun n10 =>
 ((prim "math/bits.Add64" [.int .u64 n10, .int .u64 n8, .int .u64 a4]).map fun v => (v, h)).bind fun q11 =>
 (AV.asTup2 q11.1).bind fun p12 =>
 ((some p12.1).bind (AV.asInt .u64)).bind fun n13 =>
 ((some p12.2).bind (AV.asInt .u64)).bind fun n14 =>
 (idx a3.ref a3.len a6 1).bind fun r15 =>
 (q11.2.puts r15 [.int .u64 n13]).bind fun h16 =>
 go (.pt F.kcn Td.kf7 [(0, a1.v), (1, a2.v), (5, a3.v), (6, .int .u64 n14), (21, .int .i64 a5), (22, .int .i64 (IntKind.wrap .i64 (a6 + 1)))]) h16) (
 (idx a1.ref a1.len a6 1).bind fun r17 =>
 ((h.cell r17).bind (AV.asInt .u64)).bind fun n18 =>
 ((prim "math/bits.Add64" [.int .u64 n18, .int .u64 0, .int .u64 a4]).map fun v => (v, h)).bind fun q19 =>
 (AV.asTup2 q19.1).bind fun p20 =>
 ((some p20.1).bind (AV.asInt .u64)).bind fun n21 =>
 ((some p20.2).bind (AV.asInt .u64)).bind fun n22 =>
 (idx a3.ref a3.len a6 1).bind fun r23 =>
 (q19.2.puts r23 [.int .u64 n21]).bind fun h24 =>
 go (.pt F.kcn Td.kf7 [(0, a1.v), (1, a2.v), (5, a3.v), (6, .int .u64 n22), (21, .int .i64 a5), (22, .int .i64 (IntKind.wrap .i64 (a6 + 1)))]) h24)) (
 (idx a3.ref a3.len (a1.len : Int) 1).bind fun r25 =>
 (h.puts r25 [.int .u64 a4]).bind fun h26 =>
 some (a3.v, h26)) := (kc _ h).trans (by kernel_rfl)
theorem klr (a1 : Sl) (a2 : Int) (h : AH) : go (.pt F.kbc Td.kk2 [(0, a1.v), (3, .int .i64 a2)]) h =
 cond (decide (a2 > 0)) (
 (idx a1.ref a1.len (IntKind.wrap .i64 (a2 - 1)) 1).bind fun r3 =>
 ((h.cell r3).bind (AV.asInt .u64)).bind fun n4 =>
 cond (decide (n4 = 0)) (
 go (.pt F.kbc Td.kk2 [(0, a1.v), (3, .int .i64 (IntKind.wrap .i64 (a2 - 1)))]) h) (
 (cutSl a1 0 a2 1).bind fun l5 =>
 some (l5.v, h))) (
 (cutSl a1 0 a2 1).bind fun l6 =>
 some (l6.v, h)) := (kc _ h).trans (by kernel_rfl)
theorem kvz (a1 : Sl) (a2 : Sl) (a3 : Sl) (a4 : Int) (a5 : Int) (a6 : Int) (h : AH) : go (.pt F.kci Td.kii [(0, a1.v), (1, a2.v), (5, a3.v), (6, .int .u64 a4), (13, .int .i64 a5), (14, .int .i64 a6)]) h =
 cond (decide (a6 < a5)) (
 cond (decide (a6 < (a2.len : Int))) (
 (idx a2.ref a2.len a6 1).bind fun r7 =>
 ((h.cell r7).bind (AV.asInt .u64)).bind fun n8 =>
 (idx a1.ref a1.len a6 1).bind fun r9 =>
 ((h.cell r9).bind (AV.asInt .u64)).bind fun n10 =>
 ((prim "math/bits.Sub64" [.int .u64 n10, .int .u64 n8, .int .u64 a4]).map fun v => (v, h)).bind fun q11 =>
 (AV.asTup2 q11.1).bind fun p12 =>
 ((some p12.1).bind (AV.asInt .u64)).bind fun n13 =>
 ((some p12.2).bind (AV.asInt .u64)).bind fun n14 =>
 (idx a3.ref a3.len a6 1).bind fun r15 =>
 (q11.2.puts r15 [.int .u64 n13]).bind fun h16 =>
 go (.pt F.kci Td.kii [(0, a1.v), (1, a2.v), (5, a3.v), (6, .int .u64 n14), (13, .int .i64 a5), (14, .int .i64 (IntKind.wrap .i64 (a6 + 1)))]) h16) (
 (idx a1.ref a1.len a6 1).bind fun r17 =>
 ((h.cell r17).bind (AV.asInt .u64)).bind fun n18 =>
 ((prim "math/bits.Sub64" [.int .u64 n18, .int .u64 0, .int .u64 a4]).map fun v => (v, h)).bind fun q19 =>
 (AV.asTup2 q19.1).bind fun p20 =>
 ((some p20.1).bind (AV.asInt .u64)).bind fun n21 =>
 ((some p20.2).bind (AV.asInt .u64)).bind fun n22 =>
 (idx a3.ref a3.len a6 1).bind fun r23 =>
 (q19.2.puts r23 [.int .u64 n21]).bind fun h24 =>
 go (.pt F.kci Td.kii [(0, a1.v), (1, a2.v), (5, a3.v), (6, .int .u64 n22), (13, .int .i64 a5), (14, .int .i64 (IntKind.wrap .i64 (a6 + 1)))]) h24)) (
 some (a3.v, h)) := (kc _ h).trans (by kernel_rfl)
theorem k73 (a1 : Sl) (a2 : Sl) (a3 : Int) (a4 : Int) (a5 : Int) (h : AH) : go (.pt F.kcp Td.kg1 [(0, a1.v), (1, a2.v), (2, .int .i64 a3), (6, .int .u64 a4), (7, .int .i64 a5)]) h =
 cond (decide (a5 < (a1.len : Int))) (
 cond (decide ((IntKind.wrap .i64 (a5 - a3)) < (a2.len : Int))) (
 cond (decide ((IntKind.wrap .i64 (a5 - a3)) < (a2.len : Int))) (
 (idx a2.ref a2.len (IntKind.wrap .i64 (a5 - a3)) 1).bind fun r6 =>
 ((h.cell r6).bind (AV.asInt .u64)).bind fun n7 =>
 (idx a1.ref a1.len a5 1).bind fun r8 =>
 ((h.cell r8).bind (AV.asInt .u64)).bind fun n9 =>
 ((prim "math/bits.Add64" [.int .u64 n9, .int .u64 n7, .int .u64 a4]).map fun v => (v, h)).bind fun q10 =>
 (AV.asTup2 q10.1).bind fun p11 =>
 ((some p11.1).bind (AV.asInt .u64)).bind fun n12 =>
 ((some p11.2).bind (AV.asInt .u64)).bind fun n13 =>
 (idx a1.ref a1.len a5 1).bind fun r14 =>
 (q10.2.puts r14 [.int .u64 n12]).bind fun h15 =>
 go (.pt F.kcp Td.kg1 [(0, a1.v), (1, a2.v), (2, .int .i64 a3), (6, .int .u64 n13), (7, .int .i64 (IntKind.wrap .i64 (a5 + 1)))]) h15) (
 (idx a1.ref a1.len a5 1).bind fun r16 =>
 ((h.cell r16).bind (AV.asInt .u64)).bind fun n17 =>
 ((prim "math/bits.Add64" [.int .u64 n17, .int .u64 0, .int .u64 a4]).map fun v => (v, h)).bind fun q18 =>
 (AV.asTup2 q18.1).bind fun p19 =>
 ((some p19.1).bind (AV.asInt .u64)).bind fun n20 =>
 ((some p19.2).bind (AV.asInt .u64)).bind fun n21 =>
 (idx a1.ref a1.len a5 1).bind fun r22 =>
 (q18.2.puts r22 [.int .u64 n20]).bind fun h23 =>
 go (.pt F.kcp Td.kg1 [(0, a1.v), (1, a2.v), (2, .int .i64 a3), (6, .int .u64 n21), (7, .int .i64 (IntKind.wrap .i64 (a5 + 1)))]) h23)) (
 cond (decide (a4 > 0)) (
 cond (decide ((IntKind.wrap .i64 (a5 - a3)) < (a2.len : Int))) (
 (idx a2.ref a2.len (IntKind.wrap .i64 (a5 - a3)) 1).bind fun r24 =>
 ((h.cell r24).bind (AV.asInt .u64)).bind fun n25 =>
 (idx a1.ref a1.len a5 1).bind fun r26 =>
 ((h.cell r26).bind (AV.asInt .u64)).bind fun n27 =>
 ((prim "math/bits.Add64" [.int .u64 n27, .int .u64 n25, .int .u64 a4]).map fun v => (v, h)).bind fun q28 =>
 (AV.asTup2 q28.1).bind fun p29 =>
 ((some p29.1).bind (AV.asInt .u64)).bind fun n30 =>
 ((some p29.2).bind (AV.asInt .u64)).bind fun n31 =>
 (idx a1.ref a1.len a5 1).bind fun r32 =>
 (q28.2.puts r32 [.int .u64 n30]).bind fun h33 =>
 go (.pt F.kcp Td.kg1 [(0, a1.v), (1, a2.v), (2, .int .i64 a3), (6, .int .u64 n31), (7, .int .i64 (IntKind.wrap .i64 (a5 + 1)))]) h33) (
 (idx a1.ref a1.len a5 1).bind fun r34 =>
 ((h.cell r34).bind (AV.asInt .u64)).bind fun n35 =>
 ((prim "math/bits.Add64" [.int .u64 n35, .int .u64 0, .int .u64 a4]).map fun v => (v, h)).bind fun q36 =>
 (AV.asTup2 q36.1).bind fun p37 =>
 ((some p37.1).bind (AV.asInt .u64)).bind fun n38 =>
 ((some p37.2).bind (AV.asInt .u64)).bind fun n39 =>
 (idx a1.ref a1.len a5 1).bind fun r40 =>
 (q36.2.puts r40 [.int .u64 n38]).bind fun h41 =>
 go (.pt F.kcp Td.kg1 [(0, a1.v), (1, a2.v), (2, .int .i64 a3), (6, .int .u64 n39), (7, .int .i64 (IntKind.wrap .i64 (a5 + 1)))]) h41)) (
 some (.tup [], h)))) (
 some (.tup [], h)) := (kc _ h).trans (by kernel_rfl)
theorem k7b (a1 : Sl) (a2 : Sl) (a3 : Sl) (h : AH) : go (.fn F.kou [a1.v, a2.v, a3.v]) h =
 (go (.fn F.kcf [a1.v]) h).bind fun q4 =>
 ((some q4.1).bind AV.asBool).bind fun b5 =>
 cond (!b5) (
 some (.bool false, q4.2)) (
 cond (decide ((a1.len : Int) = 0)) (
 some (.bool false, q4.2)) (
 (go (.fn F.kdj [a1.v, a3.v]) q4.2).bind fun q6 =>
 ((some q6.1).bind (AV.asInt .i64)).bind fun n7 =>
 cond (decide (n7 ≥ 0)) (
 some (.bool false, q6.2)) (
 (go (.fn F.kf4 [a1.v, a2.v]) q6.2).bind fun q8 =>
 (AV.asTup2 q8.1).bind fun p9 =>
 ((some p9.1).bind AV.asSl).bind fun l10 =>
 ((some p9.2).bind (AV.asInt .i64)).bind fun n11 =>
 newK q8.2 (.cells [.int .u64 1] T.ke) fun h12r h12 =>
 (go (.fn F.kdj [l10.v, (⟨some h12r, 1, .is 1⟩ : Sl).v]) h12).bind fun q13 =>
 ((some q13.1).bind (AV.asInt .i64)).bind fun n14 =>
 some (.bool (decide (n14 = 0)), q13.2)))) := (kc _ h).trans (by kernel_rfl)
theorem kbbr (a1 : Sl) (a2 : Sl) (h : AH) : go (.fn F.kqy [a1.v, a2.v]) h =
 (go (.fn F.kjf [a2.v, a1.v]) h).bind fun q3 =>
 (AV.asTup2 q3.1).bind fun p4 =>
 ((some p4.1).bind AV.asSl).bind fun l5 =>
 ((some p4.2).bind (AV.asInt .i64)).bind fun n6 =>
 newK q3.2 (.cells [.int .u64 1] T.ke) fun h7r h7 =>
 (go (.fn F.kp6 [l5.v, (⟨some h7r, 1, .is 1⟩ : Sl).v]) h7).bind fun q8 =>
 (AV.asTup2 q8.1).bind fun p9 =>
 ((some p9.1).bind AV.asSl).bind fun l10 =>
 ((some p9.2).bind (AV.asInt .i64)).bind fun n11 =>
 some (l10.v, q8.2) := (kc _ h).trans (by kernel_rfl)
theorem k7k (a1 : Sl) (a2 : Sl) (a3 : Sl) (h : AH) : go (.fn F.kr0 [a1.v, a2.v, a3.v]) h =
 (go (.fn F.kon [a1.v]) h).bind fun q4 =>
 ((some q4.1).bind AV.asSl).bind fun l5 =>
 (go (.fn F.kd7 [l5.v]) q4.2).bind fun q6 =>
 (AV.asTup2 q6.1).bind fun p7 =>
 ((some p7.1).bind AV.asPtr).bind fun p8 =>
 ((some p7.2).bind (AV.asInt .i64)).bind fun n9 =>
 (go (.fn F.kb0 [.ptr p8, a2.v, a3.v]) q6.2).bind fun q10 =>
 (AV.asTup2 q10.1).bind fun p11 =>
 ((some p11.1).bind AV.asSl).bind fun l12 =>
 ((some p11.2).bind (AV.asInt .i64)).bind fun n13 =>
 some (l12.v, q10.2) := (kc _ h).trans (by kernel_rfl)
theorem k51 (a1 : Sl) (a2 : Sl) (a3 : Sl) (h : AH) : go (.fn F.kr6 [a1.v, a2.v, a3.v]) h =
 (go (.fn F.kjf [a2.v, a3.v]) h).bind fun q4 =>
 (AV.asTup2 q4.1).bind fun p5 =>
 ((some p5.1).bind AV.asSl).bind fun l6 =>
 ((some p5.2).bind (AV.asInt .i64)).bind fun n7 =>
 (go (.fn F.kon [a1.v]) q4.2).bind fun q8 =>
 ((some q8.1).bind AV.asSl).bind fun l9 =>
 (go (.fn F.kh5 [l6.v, l9.v]) q8.2).bind fun q10 =>
 (AV.asTup3 q10.1).bind fun p11 =>
 ((some p11.1).bind AV.asSl).bind fun l12 =>
 ((some p11.2.1).bind AV.asSl).bind fun l13 =>
 ((some p11.2.2).bind (AV.asInt .i64)).bind fun n14 =>
 some (l13.v, q10.2) := (kc _ h).trans (by kernel_rfl)
theorem k5p (a1 : Sl) (h : AH) : go (.fn F.kgj [a1.v]) h =
 (go (.fn F.kcf [a1.v]) h).bind fun q2 =>
 ((some q2.1).bind AV.asBool).bind fun b3 =>
 cond (!b3) (
 some (.int .i64 0, q2.2)) (
 cond (decide ((a1.len : Int) = 0)) (
 some (.int .i64 0, q2.2)) (
 (idx a1.ref a1.len (IntKind.wrap .i64 ((a1.len : Int) - 1)) 1).bind fun r4 =>
 ((q2.2.cell r4).bind (AV.asInt .u64)).bind fun n5 =>
 (go (.fn F.khz [.int .u64 n5]) q2.2).bind fun q6 =>
 ((some q6.1).bind (AV.asInt .i64)).bind fun n7 =>
 some (.int .i64 (IntKind.wrap .i64 ((IntKind.wrap .i64 (64 * (IntKind.wrap .i64 ((a1.len : Int) - 1)))) + n7)), q6.2))) := (kc _ h).trans (by kernel_rfl)
theorem kbbh (a1 : Sl) (h : AH) : go (.fn F.kcf [a1.v]) h =
 cond (decide ((a1.len : Int) ≤ 64)) (
 cond (decide ((a1.len : Int) = 0)) (
 some (.bool true, h)) (
 (idx a1.ref a1.len (IntKind.wrap .i64 ((a1.len : Int) - 1)) 1).bind fun r2 =>
 ((h.cell r2).bind (AV.asInt .u64)).bind fun n3 =>
 some (.bool (!decide (n3 = 0)), h))) (
 some (.bool false, h)) := (kc _ h).trans (by kernel_rfl)
theorem k0t (a1 : Sl) (a2 : Int) (h : AH) : go (.fn F.kh2 [a1.v, .int .i64 a2]) h =
 (go (.fn F.kcf [a1.v]) h).bind fun q3 =>
 ((some q3.1).bind AV.asBool).bind fun b4 =>
 cond b4 (
 cond (decide (a2 ≥ 0)) (
 cond (decide ((IntKind.wrap .i64 (Int.tdiv a2 64)) < (a1.len : Int))) (
 (idx a1.ref a1.len (IntKind.wrap .i64 (Int.tdiv a2 64)) 1).bind fun r5 =>
 ((q3.2.cell r5).bind (AV.asInt .u64)).bind fun n6 =>
 cond (decide ((Int.tmod a2 64) < 0)) none (
 some (.bool (decide ((iand .u64 (ishr .u64 n6 (Int.tmod a2 64)) 1) = 1)), q3.2))) (
 some (.bool false, q3.2))) (
 some (.bool false, q3.2))) (
 some (.bool false, q3.2)) := (kc _ h).trans (by kernel_rfl)
theorem k6y (a1 : Sl) (a2 : Sl) (h : AH) : go (.fn F.kdj [a1.v, a2.v]) h =
 newK h (.cells [a1.v, a2.v] T.kr) fun h3r h3 =>
 (go (.fn F.ke7 [(⟨some h3r, 2, .is 2⟩ : Sl).v]) h3).bind fun q4 =>
 ((some q4.1).bind AV.asBool).bind fun b5 =>
 cond (!b5) (
 some (.int .i64 0, q4.2)) (
 (go (.fn F.kdz [a1.v, a2.v]) q4.2).bind fun q6 =>
 ((some q6.1).bind (AV.asInt .i64)).bind fun n7 =>
 some (.int .i64 n7, q6.2)) := (kc _ h).trans (by kernel_rfl)
theorem k2w (a1 : Option Ref) (a2 : Sl) (h : AH) : go (.fn F.krd [.ptr a1, a2.v]) h =
 (go (.fn F.kcf [a2.v]) h).bind fun q3 =>
 ((some q3.1).bind AV.asBool).bind fun b4 =>
 cond (!b4) (
 some (.tup [(⟨none, 0, .is 0⟩ : Sl).v, .int .i64 1], q3.2)) (
 cond (decide ((a2.len : Int) = 0)) (
 some (.tup [(⟨none, 0, .is 0⟩ : Sl).v, .int .i64 1], q3.2)) (
 newK q3.2 (.cells [.int .u64 1] T.ke) fun h5r h5 =>
 (go (.fn F.kmu [a2.v, (⟨some h5r, 1, .is 1⟩ : Sl).v]) h5).bind fun q6 =>
 (AV.asTup2 q6.1).bind fun p7 =>
 ((some p7.1).bind AV.asSl).bind fun l8 =>
 ((some p7.2).bind (AV.asInt .i64)).bind fun n9 =>
 cond (decide ((l8.len : Int) = 0)) (
 some (.tup [(⟨none, 0, .is 0⟩ : Sl).v, .int .i64 0], q6.2)) (
 (go (.fn F.kgj [l8.v]) q6.2).bind fun q10 =>
 ((some q10.1).bind (AV.asInt .i64)).bind fun n11 =>
 (go (.fn F.ke3 [.func (.func F.kc1) [.ptr a1] [], .int .i64 n11, a2.v]) q10.2).bind fun q12 =>
 (AV.asTup2 q12.1).bind fun p13 =>
 ((some p13.1).bind AV.asSl).bind fun l14 =>
 ((some p13.2).bind (AV.asInt .i64)).bind fun n15 =>
 some (.tup [l14.v, .int .i64 n15], q12.2)))) := (kc _ h).trans (by kernel_rfl)
theorem k2a (a1 : Sl) (h : AH) : go (.fn F.kbf [a1.v]) h =
 cond (decide ((a1.len : Int) ≤ 64)) (
 cond (decide ((a1.len : Int) = 0)) (
 some (.bool true, h)) (
 (idx a1.ref a1.len (IntKind.wrap .i64 ((a1.len : Int) - 1)) 1).bind fun r2 =>
 ((h.cell r2).bind (AV.asInt .u64)).bind fun n3 =>
 some (.bool (!decide (n3 = 0)), h))) (
 some (.bool false, h)) := (kc _ h).trans (by kernel_rfl)
theorem k0s (a1 : Sl) (h : AH) : go (.fn F.kdn [a1.v]) h =
 (go (.fn F.kbf [a1.v]) h).bind fun q2 =>
 ((some q2.1).bind AV.asBool).bind fun b3 =>
 cond (!b3) (
 some (.int .i64 0, q2.2)) (
 cond (decide ((a1.len : Int) = 0)) (
 some (.int .i64 0, q2.2)) (
 (idx a1.ref a1.len (IntKind.wrap .i64 ((a1.len : Int) - 1)) 1).bind fun r4 =>
 ((q2.2.cell r4).bind (AV.asInt .u64)).bind fun n5 =>
 go (.pt F.kdn Td.kmc [(0, a1.v), (4, .int .i64 0), (5, .int .u64 n5)]) q2.2)) := (kc _ h).trans (by kernel_rfl)
theorem kbaf (a1 : Sl) (a2 : Sl) (h : AH) : go (.fn F.kic [a1.v, a2.v]) h =
 (go (.fn F.kbf [a1.v]) h).bind fun q3 =>
 ((some q3.1).bind AV.asBool).bind fun b4 =>
 (go (.fn F.kbf [a2.v]) q3.2).bind fun q5 =>
 ((some q5.1).bind AV.asBool).bind fun b6 =>
 cond (!b4) (
 some (.int .i64 0, q5.2)) (
 cond (!b6) (
 some (.int .i64 0, q5.2)) (
 (go (.fn F.kbd [a1.v]) q5.2).bind fun q7 =>
 ((some q7.1).bind AV.asSl).bind fun l8 =>
 (go (.fn F.kbd [a2.v]) q7.2).bind fun q9 =>
 ((some q9.1).bind AV.asSl).bind fun l10 =>
 (go (.fn F.keo [l8.v, l10.v]) q9.2).bind fun q11 =>
 ((some q11.1).bind (AV.asInt .i64)).bind fun n12 =>
 some (.int .i64 n12, q11.2))) := (kc _ h).trans (by kernel_rfl)
theorem k7z (a1 : Option Ref) (a2 : Sl) (h : AH) : go (.fn F.khe [.ptr a1, a2.v]) h =
 (go (.fn F.kbf [a2.v]) h).bind fun q3 =>
 ((some q3.1).bind AV.asBool).bind fun b4 =>
 cond (!b4) (
 some (.tup [(⟨none, 0, .is 0⟩ : Sl).v, .int .i64 1], q3.2)) (
 cond (decide ((a2.len : Int) = 0)) (
 some (.tup [(⟨none, 0, .is 0⟩ : Sl).v, .int .i64 1], q3.2)) (
 (go (.fn F.kgn [.int .u64 1]) q3.2).bind fun q5 =>
 ((some q5.1).bind AV.asSl).bind fun l6 =>
 (go (.fn F.kl8 [a2.v, l6.v]) q5.2).bind fun q7 =>
 (AV.asTup2 q7.1).bind fun p8 =>
 ((some p8.1).bind AV.asSl).bind fun l9 =>
 ((some p8.2).bind (AV.asInt .i64)).bind fun n10 =>
 (go (.fn F.kdn [l9.v]) q7.2).bind fun q11 =>
 ((some q11.1).bind (AV.asInt .i64)).bind fun n12 =>
 cond (decide (n12 = 0)) (
 some (.tup [(⟨none, 0, .is 0⟩ : Sl).v, .int .i64 0], q11.2)) (
 go (.pt F.khe Td.klt [(0, .ptr a1), (1, a2.v), (9, .int .i64 n12)]) q11.2))) := (kc _ h).trans (by kernel_rfl)
theorem k4b (a1 : Sl) (a2 : Sl) (a3 : Sl) (h : AH) : go (.fn F.kj0 [a1.v, a2.v, a3.v]) h =
 (go (.fn F.kbf [a1.v]) h).bind fun q4 =>
 ((some q4.1).bind AV.asBool).bind fun b5 =>
 cond (!b5) (
 some (.bool false, q4.2)) (
 cond (decide ((a1.len : Int) = 0)) (
 some (.bool false, q4.2)) (
 (go (.fn F.kic [a1.v, a3.v]) q4.2).bind fun q6 =>
 ((some q6.1).bind (AV.asInt .i64)).bind fun n7 =>
 cond (decide (n7 ≥ 0)) (
 some (.bool false, q6.2)) (
 (go (.fn F.kfx [a1.v, a2.v]) q6.2).bind fun q8 =>
 (AV.asTup2 q8.1).bind fun p9 =>
 ((some p9.1).bind AV.asSl).bind fun l10 =>
 ((some p9.2).bind (AV.asInt .i64)).bind fun n11 =>
 (go (.fn F.kgn [.int .u64 1]) q8.2).bind fun q12 =>
 ((some q12.1).bind AV.asSl).bind fun l13 =>
 (go (.fn F.kic [l10.v, l13.v]) q12.2).bind fun q14 =>
 ((some q14.1).bind (AV.asInt .i64)).bind fun n15 =>
 some (.bool (decide (n15 = 0)), q14.2)))) := (kc _ h).trans (by kernel_rfl)
theorem k1g (a1 : Sl) (a2 : Sl) (a3 : Sl) (h : AH) : go (.fn F.kk8 [a1.v, a2.v, a3.v]) h =
 (go (.fn F.kim [a1.v]) h).bind fun q4 =>
 ((some q4.1).bind AV.asBool).bind fun b5 =>
 cond (!b5) (
 some (.tup [(⟨none, 0, .is 0⟩ : Sl).v, .int .i64 1], q4.2)) (
 (go (.fn F.kjz [a1.v, a2.v]) q4.2).bind fun q6 =>
 ((some q6.1).bind AV.asBool).bind fun b7 =>
 cond (!b7) (
 some (.tup [(⟨none, 0, .is 0⟩ : Sl).v, .int .i64 10], q6.2)) (
 (go (.fn F.kj0 [a3.v, a1.v, a1.v]) q6.2).bind fun q8 =>
 ((some q8.1).bind AV.asBool).bind fun b9 =>
 cond (!b9) (
 some (.tup [(⟨none, 0, .is 0⟩ : Sl).v, .int .i64 1], q8.2)) (
 (go (.fn F.kmy [a1.v, a2.v]) q8.2).bind fun q10 =>
 ((some q10.1).bind AV.asSl).bind fun l11 =>
 (go (.fn F.kop [a1.v, a3.v]) q10.2).bind fun q12 =>
 ((some q12.1).bind AV.asSl).bind fun l13 =>
 (go (.fn F.kj7 [a1.v]) q12.2).bind fun q14 =>
 ((some q14.1).bind AV.asSl).bind fun l15 =>
 (go (.fn F.kkm [l11.v, l13.v, l15.v]) q14.2).bind fun q16 =>
 ((some q16.1).bind AV.asSl).bind fun l17 =>
 some (.tup [l17.v, .int .i64 0], q16.2)))) := (kc _ h).trans (by kernel_rfl)
theorem kbcm (a1 : Sl) (a2 : Sl) (a3 : Int) (a4 : Int) (a5 : Int) (a6 : Sl) (a7 : Int) (a8 : Int) (a9 : Sl) (a10 : Int) (a11 : Int) (h : AH) : go (.pt F.kb9 Td.km4 [(1, a1.v), (5, a2.v), (6, .int .i64 a3), (7, .int .u64 a4), (8, .int .u64 a5), (20, a6.v), (21, .int .i64 a7), (22, .int .i64 a8), (27, a9.v), (28, .int .i64 a10), (29, .int .i64 a11)]) h =
 cond (decide (a11 < a10)) (
 (idx a9.ref a9.len a11 1).bind fun r12 =>
 ((h.cell r12).bind (AV.asInt .u64)).bind fun n13 =>
 (go (.fn F.kju [.int .u64 a4, .int .u64 n13]) h).bind fun q14 =>
 (AV.asTup2 q14.1).bind fun p15 =>
 ((some p15.1).bind (AV.asInt .u64)).bind fun n16 =>
 ((some p15.2).bind (AV.asInt .u64)).bind fun n17 =>
 (idx a2.ref a2.len (IntKind.wrap .i64 (a3 + a11)) 1).bind fun r18 =>
 ((q14.2.cell r18).bind (AV.asInt .u64)).bind fun n19 =>
 ((prim "math/bits.Add64" [.int .u64 n17, .int .u64 n19, .int .u64 0]).map fun v => (v, q14.2)).bind fun q20 =>
 (AV.asTup2 q20.1).bind fun p21 =>
 ((some p21.1).bind (AV.asInt .u64)).bind fun n22 =>
 ((some p21.2).bind (AV.asInt .u64)).bind fun n23 =>
 ((prim "math/bits.Add64" [.int .u64 n22, .int .u64 a5, .int .u64 0]).map fun v => (v, q20.2)).bind fun q24 =>
 (AV.asTup2 q24.1).bind fun p25 =>
 ((some p25.1).bind (AV.asInt .u64)).bind fun n26 =>
 ((some p25.2).bind (AV.asInt .u64)).bind fun n27 =>
 (idx a2.ref a2.len (IntKind.wrap .i64 (a3 + a11)) 1).bind fun r28 =>
 (q24.2.puts r28 [.int .u64 n26]).bind fun h29 =>
 go (.pt F.kb9 Td.km4 [(1, a1.v), (5, a2.v), (6, .int .i64 a3), (7, .int .u64 a4), (8, .int .u64 (IntKind.wrap .u64 ((IntKind.wrap .u64 (n16 + n23)) + n27))), (20, a6.v), (21, .int .i64 a7), (22, .int .i64 a8), (27, a9.v), (28, .int .i64 a10), (29, .int .i64 (IntKind.wrap .i64 (a11 + 1)))]) h29) (
 (idx a2.ref a2.len (IntKind.wrap .i64 (a3 + (a1.len : Int))) 1).bind fun r30 =>
 (h.puts r30 [.int .u64 a5]).bind fun h31 =>
 go (.pt F.kb9 Td.klm [(1, a1.v), (5, a2.v), (20, a6.v), (21, .int .i64 a7), (22, .int .i64 (IntKind.wrap .i64 (a8 + 1)))]) h31) := (kc _ h).trans (by kernel_rfl)
theorem k1k (a1 : Sl) (a2 : Sl) (h : AH) : go (.fn F.kf4 [a1.v, a2.v]) h =
 (go (.fn F.kcf [a1.v]) h).bind fun q3 =>
 ((some q3.1).bind AV.asBool).bind fun b4 =>
 cond (!b4) (
 some (.tup [(⟨none, 0, .is 0⟩ : Sl).v, .int .i64 1], q3.2)) (
 (go (.fn F.kcf [a2.v]) q3.2).bind fun q5 =>
 ((some q5.1).bind AV.asBool).bind fun b6 =>
 cond (!b6) (
 some (.tup [(⟨none, 0, .is 0⟩ : Sl).v, .int .i64 1], q5.2)) (
 (go (.fn F.kgl [a1.v]) q5.2).bind fun q7 =>
 ((some q7.1).bind AV.asSl).bind fun l8 =>
 (go (.fn F.kgl [a2.v]) q7.2).bind fun q9 =>
 ((some q9.1).bind AV.asSl).bind fun l10 =>
 go (.pt F.kf4 Td.kol [(0, l8.v), (1, l10.v)]) q9.2)) := (kc _ h).trans (by kernel_rfl)
theorem k06 (a1 : Sl) (a2 : Sl) (h : AH) : go (.fn F.kjf [a1.v, a2.v]) h =
 newK h (.cells [a1.v, a2.v] T.kr) fun h3r h3 =>
 (go (.fn F.ke7 [(⟨some h3r, 2, .is 2⟩ : Sl).v]) h3).bind fun q4 =>
 ((some q4.1).bind AV.asBool).bind fun b5 =>
 cond (!b5) (
 some (.tup [(⟨none, 0, .is 0⟩ : Sl).v, .int .i64 1], q4.2)) (
 (go (.fn F.kly [a1.v, a2.v]) q4.2).bind fun q6 =>
 ((some q6.1).bind AV.asSl).bind fun l7 =>
 (go (.fn F.kiu [l7.v]) q6.2).bind fun q8 =>
 (AV.asTup2 q8.1).bind fun p9 =>
 ((some p9.1).bind AV.asSl).bind fun l10 =>
 ((some p9.2).bind (AV.asInt .i64)).bind fun n11 =>
 some (.tup [l10.v, .int .i64 n11], q8.2)) := (kc _ h).trans (by kernel_rfl)
theorem k2q (a1 : Sl) (a2 : Sl) (h : AH) : go (.fn F.kp6 [a1.v, a2.v]) h =
 newK h (.cells [a1.v, a2.v] T.kr) fun h3r h3 =>
 (go (.fn F.ke7 [(⟨some h3r, 2, .is 2⟩ : Sl).v]) h3).bind fun q4 =>
 ((some q4.1).bind AV.asBool).bind fun b5 =>
 cond (!b5) (
 some (.tup [(⟨none, 0, .is 0⟩ : Sl).v, .int .i64 1], q4.2)) (
 (go (.fn F.kcn [a1.v, a2.v]) q4.2).bind fun q6 =>
 ((some q6.1).bind AV.asSl).bind fun l7 =>
 (go (.fn F.kiu [l7.v]) q6.2).bind fun q8 =>
 (AV.asTup2 q8.1).bind fun p9 =>
 ((some p9.1).bind AV.asSl).bind fun l10 =>
 ((some p9.2).bind (AV.asInt .i64)).bind fun n11 =>
 some (.tup [l10.v, .int .i64 n11], q8.2)) := (kc _ h).trans (by kernel_rfl)
theorem k3g (a1 : Sl) (h : AH) : go (.fn F.kon [a1.v]) h =
 (go (.fn F.kjf [a1.v, a1.v]) h).bind fun q2 =>
 (AV.asTup2 q2.1).bind fun p3 =>
 ((some p3.1).bind AV.asSl).bind fun l4 =>
 ((some p3.2).bind (AV.asInt .i64)).bind fun n5 =>
 some (l4.v, q2.2) := (kc _ h).trans (by kernel_rfl)
theorem k4i (a1 : Sl) (h : AH) : go (.fn F.kd7 [a1.v]) h =
 (go (.fn F.kcf [a1.v]) h).bind fun q2 =>
 ((some q2.1).bind AV.asBool).bind fun b3 =>
 cond (!b3) (
 some (.tup [.ptr none, .int .i64 1], q2.2)) (
 cond (decide ((a1.len : Int) = 0)) (
 some (.tup [.ptr none, .int .i64 1], q2.2)) (
 cond (decide ((a1.len : Int) > 8)) (
 some (.tup [.ptr none, .int .i64 1], q2.2)) (
 (idx a1.ref a1.len 0 1).bind fun r4 =>
 ((q2.2.cell r4).bind (AV.asInt .u64)).bind fun n5 =>
 cond (decide ((iand .u64 n5 1) = 0)) (
 some (.tup [.ptr none, .int .i64 1], q2.2)) (
 cond (decide ((a1.len : Int) = 1)) (
 (idx a1.ref a1.len 0 1).bind fun r6 =>
 ((q2.2.cell r6).bind (AV.asInt .u64)).bind fun n7 =>
 cond (decide (n7 = 1)) (
 some (.tup [.ptr none, .int .i64 1], q2.2)) (
 (idx a1.ref a1.len 0 1).bind fun r8 =>
 ((q2.2.cell r8).bind (AV.asInt .u64)).bind fun n9 =>
 go (.pt F.kd7 Td.kif [(0, a1.v), (4, .int .u64 n9), (40, .int .i64 0)]) q2.2)) (
 (idx a1.ref a1.len 0 1).bind fun r10 =>
 ((q2.2.cell r10).bind (AV.asInt .u64)).bind fun n11 =>
 go (.pt F.kd7 Td.kif [(0, a1.v), (4, .int .u64 n11), (40, .int .i64 0)]) q2.2))))) := (kc _ h).trans (by kernel_rfl)
theorem k3m (a1 : Option Ref) (a2 : Sl) (a3 : Sl) (h : AH) : go (.fn F.kb0 [.ptr a1, a2.v, a3.v]) h =
 newK h (.cells [a2.v] T.kr) fun h4r h4 =>
 (go (.fn F.kq9 [.ptr a1, (⟨some h4r, 1, .is 1⟩ : Sl).v]) h4).bind fun q5 =>
 ((some q5.1).bind AV.asBool).bind fun b6 =>
 cond (!b6) (
 some (.tup [(⟨none, 0, .is 0⟩ : Sl).v, .int .i64 1], q5.2)) (
 (go (.fn F.kcf [a3.v]) q5.2).bind fun q7 =>
 ((some q7.1).bind AV.asBool).bind fun b8 =>
 cond (!b8) (
 some (.tup [(⟨none, 0, .is 0⟩ : Sl).v, .int .i64 1], q7.2)) (
 cond (decide ((a3.len : Int) > 8)) (
 some (.tup [(⟨none, 0, .is 0⟩ : Sl).v, .int .i64 1], q7.2)) (
 a1.bind fun r9 =>
 ((q7.2.cell (r9.add 2)).bind AV.asSl).bind fun l10 =>
 newK q7.2 (.cells [l10.v] T.kr) fun h11r h11 =>
 a1.bind fun r12 =>
 ((h11.cell (r12.add 3)).bind AV.asSl).bind fun l13 =>
 (go (.fn F.kx [.ptr a1, a2.v, l13.v]) h11).bind fun q14 =>
 ((some q14.1).bind AV.asSl).bind fun l15 =>
 go (.pt F.kb0 Td.kny [(0, .ptr a1), (2, a3.v), (8, .func (.func F.kx) [.ptr a1] []), (9, (⟨some h11r, 1, .is 1⟩ : Sl).v), (10, l15.v), (44, .int .i64 0)]) q14.2))) := (kc _ h).trans (by kernel_rfl)
theorem k1s (a1 : Sl) (a2 : Sl) (h : AH) : go (.fn F.kh5 [a1.v, a2.v]) h =
 newK h (.cells [a1.v, a2.v] T.kr) fun h3r h3 =>
 (go (.fn F.ke7 [(⟨some h3r, 2, .is 2⟩ : Sl).v]) h3).bind fun q4 =>
 ((some q4.1).bind AV.asBool).bind fun b5 =>
 cond (!b5) (
 some (.tup [(⟨none, 0, .is 0⟩ : Sl).v, (⟨none, 0, .is 0⟩ : Sl).v, .int .i64 1], q4.2)) (
 cond (decide ((a2.len : Int) = 0)) (
 some (.tup [(⟨none, 0, .is 0⟩ : Sl).v, (⟨none, 0, .is 0⟩ : Sl).v, .int .i64 3], q4.2)) (
 (go (.fn F.kdz [a1.v, a2.v]) q4.2).bind fun q6 =>
 ((some q6.1).bind (AV.asInt .i64)).bind fun n7 =>
 cond (decide (n7 < 0)) (
 (go (.fn F.kgl [a1.v]) q6.2).bind fun q8 =>
 ((some q8.1).bind AV.asSl).bind fun l9 =>
 some (.tup [(⟨none, 0, .is 0⟩ : Sl).v, l9.v, .int .i64 0], q8.2)) (
 cond (decide ((a2.len : Int) = 1)) (
 (idx a2.ref a2.len 0 1).bind fun r10 =>
 ((q6.2.cell r10).bind (AV.asInt .u64)).bind fun n11 =>
 (go (.fn F.kes [a1.v, .int .u64 n11]) q6.2).bind fun q12 =>
 (AV.asTup2 q12.1).bind fun p13 =>
 ((some p13.1).bind AV.asSl).bind fun l14 =>
 ((some p13.2).bind (AV.asInt .u64)).bind fun n15 =>
 (go (.fn F.kjn [.int .u64 n15]) q12.2).bind fun q16 =>
 ((some q16.1).bind AV.asSl).bind fun l17 =>
 some (.tup [l14.v, l17.v, .int .i64 0], q16.2)) (
 (go (.fn F.kbv [a1.v, a2.v]) q6.2).bind fun q18 =>
 (AV.asTup2 q18.1).bind fun p19 =>
 ((some p19.1).bind AV.asSl).bind fun l20 =>
 ((some p19.2).bind AV.asSl).bind fun l21 =>
 some (.tup [l20.v, l21.v, .int .i64 0], q18.2))))) := (kc _ h).trans (by kernel_rfl)
theorem kbbq (a1 : Int) (h : AH) : go (.fn F.khz [.int .u64 a1]) h =
 cond (decide (a1 ≥ 4294967296)) (
 cond (decide ((ishr .u64 a1 32) ≥ 65536)) (
 cond (decide ((ishr .u64 (ishr .u64 a1 32) 16) ≥ 256)) (
 cond (decide (0 ≤ (IntKind.wrap .u8 (ishr .u64 (ishr .u64 (ishr .u64 a1 32) 16) 8)))) (
 (lit1[Int.toNat (IntKind.wrap .u8 (ishr .u64 (ishr .u64 (ishr .u64 a1 32) 16) 8))]?).bind fun b2 =>
 some (.int .i64 (IntKind.wrap .i64 ((IntKind.wrap .i64 ((IntKind.wrap .i64 (32 + 16)) + 8)) + (IntKind.wrap .i64 (b2.toNat : Int)))), h)) none) (
 cond (decide (0 ≤ (IntKind.wrap .u8 (ishr .u64 (ishr .u64 a1 32) 16)))) (
 (lit1[Int.toNat (IntKind.wrap .u8 (ishr .u64 (ishr .u64 a1 32) 16))]?).bind fun b3 =>
 some (.int .i64 (IntKind.wrap .i64 ((IntKind.wrap .i64 (32 + 16)) + (IntKind.wrap .i64 (b3.toNat : Int)))), h)) none)) (
 cond (decide ((ishr .u64 a1 32) ≥ 256)) (
 cond (decide (0 ≤ (IntKind.wrap .u8 (ishr .u64 (ishr .u64 a1 32) 8)))) (
 (lit1[Int.toNat (IntKind.wrap .u8 (ishr .u64 (ishr .u64 a1 32) 8))]?).bind fun b4 =>
 some (.int .i64 (IntKind.wrap .i64 ((IntKind.wrap .i64 (32 + 8)) + (IntKind.wrap .i64 (b4.toNat : Int)))), h)) none) (
 cond (decide (0 ≤ (IntKind.wrap .u8 (ishr .u64 a1 32)))) (
 (lit1[Int.toNat (IntKind.wrap .u8 (ishr .u64 a1 32))]?).bind fun b5 =>
 some (.int .i64 (IntKind.wrap .i64 (32 + (IntKind.wrap .i64 (b5.toNat : Int)))), h)) none))) (
 cond (decide (a1 ≥ 65536)) (
 cond (decide ((ishr .u64 a1 16) ≥ 256)) (
 cond (decide (0 ≤ (IntKind.wrap .u8 (ishr .u64 (ishr .u64 a1 16) 8)))) (
 (lit1[Int.toNat (IntKind.wrap .u8 (ishr .u64 (ishr .u64 a1 16) 8))]?).bind fun b6 =>
 some (.int .i64 (IntKind.wrap .i64 ((IntKind.wrap .i64 ((IntKind.wrap .i64 (0 + 16)) + 8)) + (IntKind.wrap .i64 (b6.toNat : Int)))), h)) none) (
 cond (decide (0 ≤ (IntKind.wrap .u8 (ishr .u64 a1 16)))) (
 (lit1[Int.toNat (IntKind.wrap .u8 (ishr .u64 a1 16))]?).bind fun b7 =>
 some (.int .i64 (IntKind.wrap .i64 ((IntKind.wrap .i64 (0 + 16)) + (IntKind.wrap .i64 (b7.toNat : Int)))), h)) none)) (
 cond (decide (a1 ≥ 256)) (
 cond (decide (0 ≤ (IntKind.wrap .u8 (ishr .u64 a1 8)))) (
 (lit1[Int.toNat (IntKind.wrap .u8 (ishr .u64 a1 8))]?).bind fun b8 =>
 some (.int .i64 (IntKind.wrap .i64 ((IntKind.wrap .i64 (0 + 8)) + (IntKind.wrap .i64 (b8.toNat : Int)))), h)) none) (
 cond (decide (0 ≤ (IntKind.wrap .u8 a1))) (
 (lit1[Int.toNat (IntKind.wrap .u8 a1)]?).bind fun b9 =>
 some (.int .i64 (IntKind.wrap .i64 (0 + (IntKind.wrap .i64 (b9.toNat : Int)))), h)) none))) := (kc _ h).trans (by kernel_rfl)
theorem kba8 (a1 : Sl) (h : AH) : go (.fn F.ke7 [a1.v]) h =
 (go (.fn F.kk5 [a1.v, .func (.func F.kdk) [] []]) h).bind fun q2 =>
 ((some q2.1).bind AV.asBool).bind fun b3 =>
 some (.bool (!b3), q2.2) := (kc _ h).trans (by kernel_rfl)
theorem k7x (a1 : Sl) (a2 : Sl) (h : AH) : go (.fn F.kdz [a1.v, a2.v]) h =
 cond (!decide ((a1.len : Int) = (a2.len : Int))) (
 cond (decide ((a1.len : Int) < (a2.len : Int))) (
 some (.int .i64 (-1), h)) (
 some (.int .i64 1, h))) (
 go (.pt F.kdz Td.km9 [(0, a1.v), (1, a2.v), (5, .int .i64 (IntKind.wrap .i64 ((a1.len : Int) - 1)))]) h) := (kc _ h).trans (by kernel_rfl)
theorem k8o (a1 : Sl) (a2 : Sl) (h : AH) : go (.fn F.kmu [a1.v, a2.v]) h =
 newK h (.cells [a1.v, a2.v] T.kr) fun h3r h3 =>
 (go (.fn F.ke7 [(⟨some h3r, 2, .is 2⟩ : Sl).v]) h3).bind fun q4 =>
 ((some q4.1).bind AV.asBool).bind fun b5 =>
 cond (!b5) (
 some (.tup [(⟨none, 0, .is 0⟩ : Sl).v, .int .i64 1], q4.2)) (
 (go (.fn F.kdz [a1.v, a2.v]) q4.2).bind fun q6 =>
 ((some q6.1).bind (AV.asInt .i64)).bind fun n7 =>
 cond (decide (n7 < 0)) (
 some (.tup [(⟨none, 0, .is 0⟩ : Sl).v, .int .i64 2], q6.2)) (
 (go (.fn F.kci [a1.v, a2.v]) q6.2).bind fun q8 =>
 ((some q8.1).bind AV.asSl).bind fun l9 =>
 (go (.fn F.kiu [l9.v]) q8.2).bind fun q10 =>
 (AV.asTup2 q10.1).bind fun p11 =>
 ((some p11.1).bind AV.asSl).bind fun l12 =>
 ((some p11.2).bind (AV.asInt .i64)).bind fun n13 =>
 some (.tup [l12.v, .int .i64 n13], q10.2))) := (kc _ h).trans (by kernel_rfl)
theorem k96 (a1 : Option Ref) (a2 : Int) (a3 : Sl) (h : AH) : go (.fn F.ke3 [.func (.func F.kc1) [.ptr a1] [], .int .i64 a2, a3.v]) h =
 go (.pt F.ke3 Td.kha [(0, .func (.func F.kc1) [.ptr a1] []), (1, .int .i64 a2), (2, a3.v)]) h := (kc _ h).trans (by kernel_rfl)
theorem kbcf (a1 : Sl) (a2 : Int) (a3 : Int) (h : AH) : go (.pt F.kdn Td.kmc [(0, a1.v), (4, .int .i64 a2), (5, .int .u64 a3)]) h =
 cond (decide (a3 > 0)) (
 go (.pt F.kdn Td.kmc [(0, a1.v), (4, .int .i64 (IntKind.wrap .i64 (a2 + 1))), (5, .int .u64 (IntKind.wrap .u64 (Int.tdiv a3 2)))]) h) (
 some (.int .i64 (IntKind.wrap .i64 (a2 + (IntKind.wrap .i64 (64 * (IntKind.wrap .i64 ((a1.len : Int) - 1)))))), h)) := (kc _ h).trans (by kernel_rfl)
theorem k0o (a1 : Sl) (h : AH) : go (.fn F.kbd [a1.v]) h =
 go (.pt F.kbd Td.kkp [(0, a1.v), (3, (⟨none, 0, .is 0⟩ : Sl).v), (4, .int .i64 0)]) h := (kc _ h).trans (by kernel_rfl)
theorem k1t (a1 : Sl) (a2 : Sl) (h : AH) : go (.fn F.keo [a1.v, a2.v]) h =
 cond (!decide ((a1.len : Int) = (a2.len : Int))) (
 cond (decide ((a1.len : Int) < (a2.len : Int))) (
 some (.int .i64 (-1), h)) (
 some (.int .i64 1, h))) (
 go (.pt F.keo Td.kn8 [(0, a1.v), (1, a2.v), (5, .int .i64 (IntKind.wrap .i64 ((a1.len : Int) - 1)))]) h) := (kc _ h).trans (by kernel_rfl)
theorem kzv (a1 : Int) (h : AH) : go (.fn F.kgn [.int .u64 a1]) h =
 cond (decide (a1 = 0)) (
 some ((⟨none, 0, .is 0⟩ : Sl).v, h)) (
 newK h (.cells [.int .u64 a1] T.ke) fun h2r h2 =>
 some ((⟨some h2r, 1, .is 1⟩ : Sl).v, h2)) := (kc _ h).trans (by kernel_rfl)
theorem k8t (a1 : Sl) (a2 : Sl) (h : AH) : go (.fn F.kl8 [a1.v, a2.v]) h =
 (go (.fn F.kbf [a1.v]) h).bind fun q3 =>
 ((some q3.1).bind AV.asBool).bind fun b4 =>
 (go (.fn F.kbf [a2.v]) q3.2).bind fun q5 =>
 ((some q5.1).bind AV.asBool).bind fun b6 =>
 cond (!b4) (
 some (.tup [(⟨none, 0, .is 0⟩ : Sl).v, .int .i64 1], q5.2)) (
 cond (!b6) (
 some (.tup [(⟨none, 0, .is 0⟩ : Sl).v, .int .i64 1], q5.2)) (
 (go (.fn F.kbd [a1.v]) q5.2).bind fun q7 =>
 ((some q7.1).bind AV.asSl).bind fun l8 =>
 (go (.fn F.kbd [a2.v]) q7.2).bind fun q9 =>
 ((some q9.1).bind AV.asSl).bind fun l10 =>
 (go (.fn F.keo [l8.v, l10.v]) q9.2).bind fun q11 =>
 ((some q11.1).bind (AV.asInt .i64)).bind fun n12 =>
 cond (decide (n12 < 0)) (
 some (.tup [(⟨none, 0, .is 0⟩ : Sl).v, .int .i64 2], q11.2)) (
 (go (.fn F.kek [l8.v, l10.v]) q11.2).bind fun q13 =>
 ((some q13.1).bind AV.asSl).bind fun l14 =>
 (go (.fn F.kfh [l14.v]) q13.2).bind fun q15 =>
 (AV.asTup2 q15.1).bind fun p16 =>
 ((some p16.1).bind AV.asSl).bind fun l17 =>
 ((some p16.2).bind (AV.asInt .i64)).bind fun n18 =>
 some (.tup [l17.v, .int .i64 n18], q15.2)))) := (kc _ h).trans (by kernel_rfl)
theorem kvh (a1 : Option Ref) (a2 : Sl) (a3 : Int) (h : AH) : go (.pt F.khe Td.klt [(0, .ptr a1), (1, a2.v), (9, .int .i64 a3)]) h =
 (go (.fn F.kqe [.ptr a1, .int .i64 (IntKind.wrap .i64 (Int.tdiv (IntKind.wrap .i64 (a3 + 7)) 8))]) h).bind fun q4 =>
 (AV.asTup2 q4.1).bind fun p5 =>
 ((some p5.1).bind AV.asSl).bind fun l6 =>
 ((some p5.2).bind (AV.asInt .i64)).bind fun n7 =>
 cond (!decide (n7 = 0)) (
 some (.tup [(⟨none, 0, .is 0⟩ : Sl).v, .int .i64 n7], q4.2)) (
 (go (.fn F.kb4 [l6.v]) q4.2).bind fun q8 =>
 (AV.asTup2 q8.1).bind fun p9 =>
 ((some p9.1).bind AV.asSl).bind fun l10 =>
 ((some p9.2).bind (AV.asInt .i64)).bind fun n11 =>
 (go (.fn F.ki2 [l10.v, .int .i64 a3]) q8.2).bind fun q12 =>
 (AV.asTup2 q12.1).bind fun p13 =>
 ((some p13.1).bind AV.asSl).bind fun l14 =>
 ((some p13.2).bind (AV.asInt .i64)).bind fun n15 =>
 (go (.fn F.kkb [l14.v, .int .i64 a3]) q12.2).bind fun q16 =>
 (AV.asTup2 q16.1).bind fun p17 =>
 ((some p17.1).bind AV.asSl).bind fun l18 =>
 ((some p17.2).bind (AV.asInt .i64)).bind fun n19 =>
 (go (.fn F.kl8 [l10.v, l18.v]) q16.2).bind fun q20 =>
 (AV.asTup2 q20.1).bind fun p21 =>
 ((some p21.1).bind AV.asSl).bind fun l22 =>
 ((some p21.2).bind (AV.asInt .i64)).bind fun n23 =>
 (go (.fn F.kic [l22.v, a2.v]) q20.2).bind fun q24 =>
 ((some q24.1).bind (AV.asInt .i64)).bind fun n25 =>
 cond (decide (n25 < 0)) (
 some (.tup [l22.v, .int .i64 0], q24.2)) (
 go (.pt F.khe Td.klt [(0, .ptr a1), (1, a2.v), (9, .int .i64 a3)]) q24.2)) := (kc _ h).trans (by kernel_rfl)
theorem k6s (a1 : Sl) (a2 : Sl) (h : AH) : go (.fn F.kfx [a1.v, a2.v]) h =
 (go (.fn F.kbf [a1.v]) h).bind fun q3 =>
 ((some q3.1).bind AV.asBool).bind fun b4 =>
 (go (.fn F.kbf [a2.v]) q3.2).bind fun q5 =>
 ((some q5.1).bind AV.asBool).bind fun b6 =>
 cond (!b4) (
 some (.tup [(⟨none, 0, .is 0⟩ : Sl).v, .int .i64 1], q5.2)) (
 cond (!b6) (
 some (.tup [(⟨none, 0, .is 0⟩ : Sl).v, .int .i64 1], q5.2)) (
 newK q5.2 (.cells [] T.ke) fun h7r h7 =>
 (ky Pg T.ke a1.v h7).bind fun p9 =>
 (ko Pg (⟨some h7r, 0, .is 0⟩ : Sl) p9.1 p9.2 T.ke 1 h7).bind fun q8 =>
 (AV.asSl q8.1).bind fun l10 =>
 newK q8.2 (.cells [] T.ke) fun h11r h11 =>
 (ky Pg T.ke a2.v h11).bind fun p13 =>
 (ko Pg (⟨some h11r, 0, .is 0⟩ : Sl) p13.1 p13.2 T.ke 1 h11).bind fun q12 =>
 (AV.asSl q12.1).bind fun l14 =>
 go (.pt F.kfx Td.koj [(8, l10.v), (9, l14.v)]) q12.2)) := (kc _ h).trans (by kernel_rfl)
theorem k6k (a1 : Sl) (a2 : Sl) (h : AH) : go (.fn F.kmy [a1.v, a2.v]) h =
 (go (.fn F.kjt [a2.v, a1.v]) h).bind fun q3 =>
 (AV.asTup2 q3.1).bind fun p4 =>
 ((some p4.1).bind AV.asSl).bind fun l5 =>
 ((some p4.2).bind (AV.asInt .i64)).bind fun n6 =>
 (go (.fn F.kgn [.int .u64 1]) q3.2).bind fun q7 =>
 ((some q7.1).bind AV.asSl).bind fun l8 =>
 (go (.fn F.krw [l5.v, l8.v]) q7.2).bind fun q9 =>
 (AV.asTup2 q9.1).bind fun p10 =>
 ((some p10.1).bind AV.asSl).bind fun l11 =>
 ((some p10.2).bind (AV.asInt .i64)).bind fun n12 =>
 some (l11.v, q9.2) := (kc _ h).trans (by kernel_rfl)
theorem kbci (a1 : Sl) (a2 : Sl) (h : AH) : go (.fn F.kop [a1.v, a2.v]) h =
 (go (.fn F.kj7 [a1.v]) h).bind fun q3 =>
 ((some q3.1).bind AV.asSl).bind fun l4 =>
 (go (.fn F.kdu [a2.v, a1.v, l4.v]) q3.2).bind fun q5 =>
 ((some q5.1).bind AV.asSl).bind fun l6 =>
 some (l6.v, q5.2) := (kc _ h).trans (by kernel_rfl)
theorem k7g (a1 : Sl) (h : AH) : go (.fn F.kj7 [a1.v]) h =
 (go (.fn F.kjt [a1.v, a1.v]) h).bind fun q2 =>
 (AV.asTup2 q2.1).bind fun p3 =>
 ((some p3.1).bind AV.asSl).bind fun l4 =>
 ((some p3.2).bind (AV.asInt .i64)).bind fun n5 =>
 some (l4.v, q2.2) := (kc _ h).trans (by kernel_rfl)
theorem k94 (a1 : Sl) (a2 : Sl) (a3 : Sl) (h : AH) : go (.fn F.kkm [a1.v, a2.v, a3.v]) h =
 (go (.fn F.kjt [a1.v, a2.v]) h).bind fun q4 =>
 (AV.asTup2 q4.1).bind fun p5 =>
 ((some p5.1).bind AV.asSl).bind fun l6 =>
 ((some p5.2).bind (AV.asInt .i64)).bind fun n7 =>
 (go (.fn F.kn1 [l6.v, a3.v]) q4.2).bind fun q8 =>
 ((some q8.1).bind AV.asSl).bind fun l9 =>
 some (l9.v, q8.2) := (kc _ h).trans (by kernel_rfl)
theorem k4m (a1 : Int) (a2 : Int) (h : AH) : go (.fn F.kju [.int .u64 a1, .int .u64 a2]) h =
 some (.tup [.int .u64 (IntKind.wrap .u64 ((IntKind.wrap .u64 ((IntKind.wrap .u64 ((ishr .u64 a1 32) * (ishr .u64 a2 32))) + (ishr .u64 (IntKind.wrap .u64 ((IntKind.wrap .u64 ((ishr .u64 a1 32) * (iand .u64 a2 4294967295))) + (ishr .u64 (IntKind.wrap .u64 ((iand .u64 a1 4294967295) * (iand .u64 a2 4294967295))) 32))) 32))) + (ishr .u64 (IntKind.wrap .u64 ((iand .u64 (IntKind.wrap .u64 ((IntKind.wrap .u64 ((ishr .u64 a1 32) * (iand .u64 a2 4294967295))) + (ishr .u64 (IntKind.wrap .u64 ((iand .u64 a1 4294967295) * (iand .u64 a2 4294967295))) 32))) 4294967295) + (IntKind.wrap .u64 ((iand .u64 a1 4294967295) * (ishr .u64 a2 32))))) 32))), .int .u64 (IntKind.wrap .u64 (a1 * a2))], h) := (kc _ h).trans (by kernel_rfl)
theorem kbbe (a1 : Sl) (h : AH) : go (.fn F.kgl [a1.v]) h =
 cond a1.ref.isNone (
 some ((⟨none, 0, .is 0⟩ : Sl).v, h)) (
 newK h (.cells [] T.ke) fun h2r h2 =>
 (ky Pg T.ke a1.v h2).bind fun p4 =>
 (ko Pg (⟨some h2r, 0, .is 0⟩ : Sl) p4.1 p4.2 T.ke 1 h2).bind fun q3 =>
 (AV.asSl q3.1).bind fun l5 =>
 some (l5.v, q3.2)) := (kc _ h).trans (by kernel_rfl)
theorem k3v (a1 : Sl) (a2 : Sl) (h : AH) : go (.pt F.kf4 Td.kol [(0, a1.v), (1, a2.v)]) h =
 cond (decide ((a2.len : Int) > 0)) (
 (go (.fn F.kh5 [a1.v, a2.v]) h).bind fun q3 =>
 (AV.asTup3 q3.1).bind fun p4 =>
 ((some p4.1).bind AV.asSl).bind fun l5 =>
 ((some p4.2.1).bind AV.asSl).bind fun l6 =>
 ((some p4.2.2).bind (AV.asInt .i64)).bind fun n7 =>
 go (.pt F.kf4 Td.kol [(0, a2.v), (1, l6.v)]) q3.2) (
 some (.tup [a1.v, .int .i64 0], h)) := (kc _ h).trans (by kernel_rfl)
theorem k7d (a1 : Sl) (a2 : Sl) (h : AH) : go (.fn F.kly [a1.v, a2.v]) h =
 newK h (.cells [.nilFunc] T.k4x) fun h3r h3 =>
 (h3.puts h3r [.func (.func F.kje) [] [.ptr (some h3r)]]).bind fun h4 =>
 (h4.cell h3r).bind fun v5 =>
 yieldK v5 [a1.v, a2.v] (fun y7 =>
 (go (.round y7.1 y7.2) h4).bind fun q6 =>
 ((some q6.1).bind AV.asSl).bind fun l9 =>
 some (l9.v, q6.2)) (
 (callV Pg go v5 [a1.v, a2.v] h4).bind fun q8 =>
 ((some q8.1).bind AV.asSl).bind fun l10 =>
 some (l10.v, q8.2)) := (kc _ h).trans (by kernel_rfl)
theorem kz3 (a1 : Sl) (h : AH) : go (.fn F.kiu [a1.v]) h =
 (go (.fn F.kbc [a1.v]) h).bind fun q2 =>
 ((some q2.1).bind AV.asSl).bind fun l3 =>
 cond (decide ((l3.len : Int) > 64)) (
 some (.tup [(⟨none, 0, .is 0⟩ : Sl).v, .int .i64 4], q2.2)) (
 some (.tup [l3.v, .int .i64 0], q2.2)) := (kc _ h).trans (by kernel_rfl)
theorem kw7 (a1 : Sl) (a2 : Int) (a3 : Int) (h : AH) : go (.pt F.kd7 Td.kif [(0, a1.v), (4, .int .u64 a2), (40, .int .i64 a3)]) h =
 cond (decide (a3 < 6)) (
 (idx a1.ref a1.len 0 1).bind fun r4 =>
 ((h.cell r4).bind (AV.asInt .u64)).bind fun n5 =>
 go (.pt F.kd7 Td.kif [(0, a1.v), (4, .int .u64 (IntKind.wrap .u64 (a2 * (IntKind.wrap .u64 (2 - (IntKind.wrap .u64 (n5 * a2))))))), (40, .int .i64 (IntKind.wrap .i64 (a3 + 1)))]) h) (
 (go (.fn F.kgl [a1.v]) h).bind fun q6 =>
 ((some q6.1).bind AV.asSl).bind fun l7 =>
 newK q6.2 (.cells [l7.v, .int .u64 (IntKind.wrap .u64 (0 - a2)), (⟨none, 0, .is 0⟩ : Sl).v, (⟨none, 0, .is 0⟩ : Sl).v] T.kcc) fun h8r h8 =>
 (go (.fn F.ki9 [.ptr (some h8r), .int .i64 1]) h8).bind fun q9 =>
 ((some q9.1).bind AV.asSl).bind fun l10 =>
 (q9.2.puts (h8r.add 2) [l10.v]).bind fun h11 =>
 (go (.fn F.ki9 [.ptr (some h8r), .int .i64 2]) h11).bind fun q12 =>
 ((some q12.1).bind AV.asSl).bind fun l13 =>
 (q12.2.puts (h8r.add 3) [l13.v]).bind fun h14 =>
 some (.tup [.ptr (some h8r), .int .i64 0], h14)) := (kc _ h).trans (by kernel_rfl)
theorem k1h (a1 : Option Ref) (a2 : Sl) (h : AH) : go (.fn F.kq9 [.ptr a1, a2.v]) h =
 newK h (.cells [.ptr a1] T.ksk) fun h3r h3 =>
 (go (.fn F.kk5 [a2.v, .func (.func F.kct) [] [.ptr (some h3r)]]) h3).bind fun q4 =>
 ((some q4.1).bind AV.asBool).bind fun b5 =>
 some (.bool (!b5), q4.2) := (kc _ h).trans (by kernel_rfl)
theorem k7p (a1 : Option Ref) (a2 : Sl) (a3 : Sl) (h : AH) : go (.fn F.kx [.ptr a1, a2.v, a3.v]) h =
 a1.bind fun r4 =>
 ((h.cell (r4.add 0)).bind AV.asSl).bind fun l5 =>
 (kbg (IntKind.wrap .i64 ((l5.len : Int) + 2)) (IntKind.wrap .i64 ((l5.len : Int) + 2)) T.ke (Pg.bytesOf T.ke) [.int .u64 0] h).bind fun q6 =>
 go (.pt F.kx Td.kix [(0, .ptr a1), (1, a2.v), (2, a3.v), (7, .int .i64 (l5.len : Int)), (8, q6.1.v), (20, .int .i64 (l5.len : Int)), (21, .int .i64 0)]) q6.2 := (kc _ h).trans (by kernel_rfl)
theorem k4p (a1 : Option Ref) (a2 : Sl) (a3 : Option Ref) (a4 : Sl) (a5 : Sl) (a6 : Int) (h : AH) : go (.pt F.kb0 Td.kny [(0, .ptr a1), (2, a2.v), (8, .func (.func F.kx) [.ptr a3] []), (9, a4.v), (10, a5.v), (44, .int .i64 a6)]) h =
 cond (decide (a6 < 15)) (
 (idx a4.ref a4.len (IntKind.wrap .i64 ((a4.len : Int) - 1)) 1).bind fun r7 =>
 ((h.cell r7).bind AV.asSl).bind fun l8 =>
 (go (.fn F.kx [.ptr a3, l8.v, a5.v]) h).bind fun q9 =>
 ((some q9.1).bind AV.asSl).bind fun l10 =>
 newK q9.2 (.cells [l10.v] T.kr) fun h11r h11 =>
 (ky Pg T.kr ((⟨some h11r, 1, .is 1⟩ : Sl).v) h11).bind fun p13 =>
 (ko Pg a4 p13.1 p13.2 T.kr 1 h11).bind fun q12 =>
 (AV.asSl q12.1).bind fun l14 =>
 go (.pt F.kb0 Td.kny [(0, .ptr a1), (2, a2.v), (8, .func (.func F.kx) [.ptr a3] []), (9, l14.v), (10, a5.v), (44, .int .i64 (IntKind.wrap .i64 (a6 + 1)))]) q12.2) (
 a1.bind fun r15 =>
 ((h.cell (r15.add 2)).bind AV.asSl).bind fun l16 =>
 (go (.fn F.kgj [a2.v]) h).bind fun q17 =>
 ((some q17.1).bind (AV.asInt .i64)).bind fun n18 =>
 go (.pt F.kb0 Td.kl9 [(2, a2.v), (8, .func (.func F.kx) [.ptr a3] []), (9, a4.v), (11, l16.v), (12, .int .i64 (IntKind.wrap .i64 (Int.tdiv (IntKind.wrap .i64 ((IntKind.wrap .i64 (n18 + 4)) - 1)) 4)))]) q17.2) := (kc _ h).trans (by kernel_rfl)
theorem kbcq (a1 : Sl) (a2 : Int) (h : AH) : go (.fn F.kes [a1.v, .int .u64 a2]) h =
 (kbg (a1.len : Int) (a1.len : Int) T.ke (Pg.bytesOf T.ke) [.int .u64 0] h).bind fun q3 =>
 go (.pt F.kes Td.kov [(0, a1.v), (1, .int .u64 a2), (6, q3.1.v), (7, .int .u64 0), (8, .int .i64 (IntKind.wrap .i64 ((a1.len : Int) - 1)))]) q3.2 := (kc _ h).trans (by kernel_rfl)
theorem ky7 (a1 : Int) (h : AH) : go (.fn F.kjn [.int .u64 a1]) h =
 newK h (.cells [.int .u64 a1] T.ke) fun h2r h2 =>
 (go (.fn F.kbc [(⟨some h2r, 1, .is 1⟩ : Sl).v]) h2).bind fun q3 =>
 ((some q3.1).bind AV.asSl).bind fun l4 =>
 some (l4.v, q3.2) := (kc _ h).trans (by kernel_rfl)
theorem kbb6 (a1 : Sl) (a2 : Sl) (h : AH) : go (.fn F.kbv [a1.v, a2.v]) h =
 (idx a2.ref a2.len (IntKind.wrap .i64 ((a2.len : Int) - 1)) 1).bind fun r3 =>
 ((h.cell r3).bind (AV.asInt .u64)).bind fun n4 =>
 (go (.fn F.kli [.int .u64 n4]) h).bind fun q5 =>
 ((some q5.1).bind (AV.asInt .i64)).bind fun n6 =>
 (go (.fn F.kdq [a1.v, .int .u64 (IntKind.wrap .u64 n6)]) q5.2).bind fun q7 =>
 ((some q7.1).bind AV.asSl).bind fun l8 =>
 (go (.fn F.kdq [a2.v, .int .u64 (IntKind.wrap .u64 n6)]) q7.2).bind fun q9 =>
 ((some q9.1).bind AV.asSl).bind fun l10 =>
 (go (.fn F.kbc [l10.v]) q9.2).bind fun q11 =>
 ((some q11.1).bind AV.asSl).bind fun l12 =>
 (kbg (IntKind.wrap .i64 ((l8.len : Int) - (l12.len : Int))) (IntKind.wrap .i64 ((l8.len : Int) - (l12.len : Int))) T.ke (Pg.bytesOf T.ke) [.int .u64 0] q11.2).bind fun q13 =>
 go (.pt F.kbv Td.kok [(6, .int .u64 (IntKind.wrap .u64 n6)), (7, l8.v), (8, l12.v), (9, .int .i64 (l12.len : Int)), (10, q13.1.v), (11, .int .i64 (IntKind.wrap .i64 ((q13.1.len : Int) - 1)))]) q13.2 := (kc _ h).trans (by kernel_rfl)
theorem kbaj (a1 : Sl) (h : AH) : go (.fn F.kk5 [a1.v, .func (.func F.kdk) [] []]) h =
 (go (.fn F.kcy [a1.v, .func (.func F.kdk) [] []]) h).bind fun q2 =>
 ((some q2.1).bind (AV.asInt .i64)).bind fun n3 =>
 some (.bool (decide (n3 ≥ 0)), q2.2) := (kc _ h).trans (by kernel_rfl)
theorem kuy (a1 : Sl) (a2 : Sl) (a3 : Int) (h : AH) : go (.pt F.kdz Td.km9 [(0, a1.v), (1, a2.v), (5, .int .i64 a3)]) h =
 cond (decide (a3 ≥ 0)) (
 (idx a1.ref a1.len a3 1).bind fun r4 =>
 ((h.cell r4).bind (AV.asInt .u64)).bind fun n5 =>
 (idx a2.ref a2.len a3 1).bind fun r6 =>
 ((h.cell r6).bind (AV.asInt .u64)).bind fun n7 =>
 cond (!decide (n5 = n7)) (
 (idx a1.ref a1.len a3 1).bind fun r8 =>
 ((h.cell r8).bind (AV.asInt .u64)).bind fun n9 =>
 (idx a2.ref a2.len a3 1).bind fun r10 =>
 ((h.cell r10).bind (AV.asInt .u64)).bind fun n11 =>
 cond (decide (n9 < n11)) (
 some (.int .i64 (-1), h)) (
 some (.int .i64 1, h))) (
 go (.pt F.kdz Td.km9 [(0, a1.v), (1, a2.v), (5, .int .i64 (IntKind.wrap .i64 (a3 - 1)))]) h)) (
 some (.int .i64 0, h)) := (kc _ h).trans (by kernel_rfl)
theorem kx8 (a1 : Option Ref) (a2 : Int) (a3 : Sl) (h : AH) : go (.pt F.ke3 Td.kha [(0, .func (.func F.kc1) [.ptr a1] []), (1, .int .i64 a2), (2, a3.v)]) h =
 (go (.fn F.kc1 [.ptr a1, .int .i64 (IntKind.wrap .i64 (Int.tdiv (IntKind.wrap .i64 (a2 + 7)) 8))]) h).bind fun q4 =>
 (AV.asTup2 q4.1).bind fun p5 =>
 ((some p5.1).bind AV.asSl).bind fun l6 =>
 ((some p5.2).bind (AV.asInt .i64)).bind fun n7 =>
 cond (!decide (n7 = 0)) (
 some (.tup [(⟨none, 0, .is 0⟩ : Sl).v, .int .i64 n7], q4.2)) (
 cond (decide ((Int.tmod a2 8) > 0)) (
 (idx l6.ref l6.len 0 1).bind fun r8 =>
 ((q4.2.cell r8).bind (AV.asInt .u8)).bind fun n9 =>
 cond (decide ((Int.tmod a2 8) < 0)) none (
 (idx l6.ref l6.len 0 1).bind fun r10 =>
 (q4.2.puts r10 [.int .u8 (iand .u8 n9 (IntKind.wrap .u8 ((ishl .u8 1 (Int.tmod a2 8)) - 1)))]).bind fun h11 =>
 (go (.fn F.ke1 [l6.v]) h11).bind fun q12 =>
 (AV.asTup2 q12.1).bind fun p13 =>
 ((some p13.1).bind AV.asSl).bind fun l14 =>
 ((some p13.2).bind (AV.asInt .i64)).bind fun n15 =>
 (go (.fn F.kdj [l14.v, a3.v]) q12.2).bind fun q16 =>
 ((some q16.1).bind (AV.asInt .i64)).bind fun n17 =>
 cond (decide (n17 < 0)) (
 some (.tup [l14.v, .int .i64 0], q16.2)) (
 go (.pt F.ke3 Td.kha [(0, .func (.func F.kc1) [.ptr a1] []), (1, .int .i64 a2), (2, a3.v)]) q16.2))) (
 (go (.fn F.ke1 [l6.v]) q4.2).bind fun q18 =>
 (AV.asTup2 q18.1).bind fun p19 =>
 ((some p19.1).bind AV.asSl).bind fun l20 =>
 ((some p19.2).bind (AV.asInt .i64)).bind fun n21 =>
 (go (.fn F.kdj [l20.v, a3.v]) q18.2).bind fun q22 =>
 ((some q22.1).bind (AV.asInt .i64)).bind fun n23 =>
 cond (decide (n23 < 0)) (
 some (.tup [l20.v, .int .i64 0], q22.2)) (
 go (.pt F.ke3 Td.kha [(0, .func (.func F.kc1) [.ptr a1] []), (1, .int .i64 a2), (2, a3.v)]) q22.2))) := (kc _ h).trans (by kernel_rfl)
theorem ks2 (a1 : Sl) (a2 : Sl) (a3 : Int) (h : AH) : go (.pt F.kbd Td.kkp [(0, a1.v), (3, a2.v), (4, .int .i64 a3)]) h =
 cond (decide (a3 < (a1.len : Int))) (
 (idx a1.ref a1.len a3 1).bind fun r4 =>
 ((h.cell r4).bind (AV.asInt .u64)).bind fun n5 =>
 go (.pt F.kbd Td.kn6 [(0, a1.v), (3, a2.v), (4, .int .i64 a3), (5, .int .u64 n5), (6, .int .i64 0)]) h) (
 (go (.fn F.kch [a2.v]) h).bind fun q6 =>
 ((some q6.1).bind AV.asSl).bind fun l7 =>
 some (l7.v, q6.2)) := (kc _ h).trans (by kernel_rfl)
theorem kvd (a1 : Sl) (a2 : Sl) (a3 : Int) (h : AH) : go (.pt F.keo Td.kn8 [(0, a1.v), (1, a2.v), (5, .int .i64 a3)]) h =
 cond (decide (a3 ≥ 0)) (
 (idx a1.ref a1.len a3 1).bind fun r4 =>
 ((h.cell r4).bind (AV.asInt .u64)).bind fun n5 =>
 (idx a2.ref a2.len a3 1).bind fun r6 =>
 ((h.cell r6).bind (AV.asInt .u64)).bind fun n7 =>
 cond (decide (n5 < n7)) (
 some (.int .i64 (-1), h)) (
 (idx a1.ref a1.len a3 1).bind fun r8 =>
 ((h.cell r8).bind (AV.asInt .u64)).bind fun n9 =>
 (idx a2.ref a2.len a3 1).bind fun r10 =>
 ((h.cell r10).bind (AV.asInt .u64)).bind fun n11 =>
 cond (decide (n9 > n11)) (
 some (.int .i64 1, h)) (
 go (.pt F.keo Td.kn8 [(0, a1.v), (1, a2.v), (5, .int .i64 (IntKind.wrap .i64 (a3 - 1)))]) h))) (
 some (.int .i64 0, h)) := (kc _ h).trans (by kernel_rfl)
theorem k6b (a1 : Sl) (a2 : Sl) (h : AH) : go (.fn F.kek [a1.v, a2.v]) h =
 go (.pt F.kek Td.kj9 [(0, a1.v), (1, a2.v), (5, (⟨none, 0, .is 0⟩ : Sl).v), (6, .int .u64 0), (7, .int .i64 0)]) h := (kc _ h).trans (by kernel_rfl)
theorem k09 (a1 : Sl) (h : AH) : go (.fn F.kfh [a1.v]) h =
 (go (.fn F.kb1 [a1.v]) h).bind fun q2 =>
 (AV.asTup2 q2.1).bind fun p3 =>
 ((some p3.1).bind AV.asSl).bind fun l4 =>
 ((some p3.2).bind AV.asBool).bind fun b5 =>
 cond (!b5) (
 some (.tup [(⟨none, 0, .is 0⟩ : Sl).v, .int .i64 4], q2.2)) (
 some (.tup [l4.v, .int .i64 0], q2.2)) := (kc _ h).trans (by kernel_rfl)
theorem k3p (a1 : Option Ref) (a2 : Int) (h : AH) : go (.fn F.kqe [.ptr a1, .int .i64 a2]) h =
 cond (decide (a2 < 0)) (
 some (.tup [(⟨none, 0, .is 0⟩ : Sl).v, .int .i64 1], h)) (
 cond (decide (a2 > 65536)) (
 some (.tup [(⟨none, 0, .is 0⟩ : Sl).v, .int .i64 1], h)) (
 a1.bind fun r3 =>
 ((h.cell (r3.add 0)).bind AV.asSl).bind fun l4 =>
 a1.bind fun r5 =>
 ((h.cell (r5.add 1)).bind (AV.asInt .i64)).bind fun n6 =>
 cond (decide (a2 > (IntKind.wrap .i64 ((l4.len : Int) - n6)))) (
 some (.tup [(⟨none, 0, .is 0⟩ : Sl).v, .int .i64 7], h)) (
 a1.bind fun r7 =>
 ((h.cell (r7.add 0)).bind AV.asSl).bind fun l8 =>
 a1.bind fun r9 =>
 ((h.cell (r9.add 1)).bind (AV.asInt .i64)).bind fun n10 =>
 a1.bind fun r11 =>
 ((h.cell (r11.add 1)).bind (AV.asInt .i64)).bind fun n12 =>
 (cutSl l8 n10 (IntKind.wrap .i64 (n12 + a2)) 1).bind fun l13 =>
 newK h (.cells [] T.kbu) fun h14r h14 =>
 whenK (SameAt h h14 (r11.add 1) 1) (
 whenK (SameAt h h14 (r9.add 1) 1) (
 whenK (SameAt h h14 (r7.add 0) 1) (
 (ky Pg T.kbu l13.v h14).bind fun p16 =>
 (ko Pg (⟨some h14r, 0, .is 0⟩ : Sl) p16.1 p16.2 T.kbu 1 h14).bind fun q15 =>
 (AV.asSl q15.1).bind fun l17 =>
 a1.bind fun r18 =>
 ((q15.2.cell (r18.add 1)).bind (AV.asInt .i64)).bind fun n19 =>
 a1.bind fun r20 =>
 (q15.2.puts (r20.add 1) [.int .i64 (IntKind.wrap .i64 (n19 + a2))]).bind fun h21 =>
 some (.tup [l17.v, .int .i64 0], h21))))))) := (kc _ h).trans (by kernel_rfl)
theorem kbb9 (a1 : Sl) (h : AH) : go (.fn F.kb4 [a1.v]) h =
 go (.pt F.kb4 Td.kn0 [(0, a1.v), (4, .int .i64 0)]) h := (kc _ h).trans (by kernel_rfl)
theorem k30 (a1 : Sl) (a2 : Int) (h : AH) : go (.fn F.ki2 [a1.v, .int .i64 a2]) h =
 (go (.fn F.kbf [a1.v]) h).bind fun q3 =>
 ((some q3.1).bind AV.asBool).bind fun b4 =>
 cond (!b4) (
 some (.tup [(⟨none, 0, .is 0⟩ : Sl).v, .int .i64 1], q3.2)) (
 cond (decide (a2 < 0)) (
 some (.tup [(⟨none, 0, .is 0⟩ : Sl).v, .int .i64 1], q3.2)) (
 cond (decide (a2 ≥ 4096)) (
 some (.tup [(⟨none, 0, .is 0⟩ : Sl).v, .int .i64 0], q3.2)) (
 (go (.fn F.kbd [a1.v]) q3.2).bind fun q5 =>
 ((some q5.1).bind AV.asSl).bind fun l6 =>
 (go (.fn F.ke0 [.int .i64 a2]) q5.2).bind fun q7 =>
 ((some q7.1).bind AV.asSl).bind fun l8 =>
 (go (.fn F.kcb [l6.v, l8.v]) q7.2).bind fun q9 =>
 (AV.asTup2 q9.1).bind fun p10 =>
 ((some p10.1).bind AV.asSl).bind fun l11 =>
 ((some p10.2).bind AV.asSl).bind fun l12 =>
 (go (.fn F.kfh [l11.v]) q9.2).bind fun q13 =>
 (AV.asTup2 q13.1).bind fun p14 =>
 ((some p14.1).bind AV.asSl).bind fun l15 =>
 ((some p14.2).bind (AV.asInt .i64)).bind fun n16 =>
 some (.tup [l15.v, .int .i64 n16], q13.2)))) := (kc _ h).trans (by kernel_rfl)
theorem kba0 (a1 : Sl) (a2 : Int) (h : AH) : go (.fn F.kkb [a1.v, .int .i64 a2]) h =
 (go (.fn F.kbf [a1.v]) h).bind fun q3 =>
 ((some q3.1).bind AV.asBool).bind fun b4 =>
 cond (!b4) (
 some (.tup [(⟨none, 0, .is 0⟩ : Sl).v, .int .i64 1], q3.2)) (
 cond (decide (a2 < 0)) (
 some (.tup [(⟨none, 0, .is 0⟩ : Sl).v, .int .i64 1], q3.2)) (
 cond (decide ((a1.len : Int) = 0)) (
 some (.tup [(⟨none, 0, .is 0⟩ : Sl).v, .int .i64 0], q3.2)) (
 cond (decide (a2 > 4096)) (
 some (.tup [(⟨none, 0, .is 0⟩ : Sl).v, .int .i64 4], q3.2)) (
 (go (.fn F.kbd [a1.v]) q3.2).bind fun q5 =>
 ((some q5.1).bind AV.asSl).bind fun l6 =>
 (go (.fn F.ke0 [.int .i64 a2]) q5.2).bind fun q7 =>
 ((some q7.1).bind AV.asSl).bind fun l8 =>
 (go (.fn F.kb7 [l6.v, l8.v]) q7.2).bind fun q9 =>
 ((some q9.1).bind AV.asSl).bind fun l10 =>
 (go (.fn F.kfh [l10.v]) q9.2).bind fun q11 =>
 (AV.asTup2 q11.1).bind fun p12 =>
 ((some p12.1).bind AV.asSl).bind fun l13 =>
 ((some p12.2).bind (AV.asInt .i64)).bind fun n14 =>
 some (.tup [l13.v, .int .i64 n14], q11.2))))) := (kc _ h).trans (by kernel_rfl)
theorem k9x (a1 : Sl) (a2 : Sl) (h : AH) : go (.pt F.kfx Td.koj [(8, a1.v), (9, a2.v)]) h =
 cond (decide ((a2.len : Int) > 0)) (
 (go (.fn F.kn1 [a1.v, a2.v]) h).bind fun q3 =>
 ((some q3.1).bind AV.asSl).bind fun l4 =>
 go (.pt F.kfx Td.koj [(8, a2.v), (9, l4.v)]) q3.2) (
 some (.tup [a1.v, .int .i64 0], h)) := (kc _ h).trans (by kernel_rfl)
theorem k2j (a1 : Sl) (a2 : Sl) (h : AH) : go (.fn F.kjt [a1.v, a2.v]) h =
 (go (.fn F.kbf [a1.v]) h).bind fun q3 =>
 ((some q3.1).bind AV.asBool).bind fun b4 =>
 (go (.fn F.kbf [a2.v]) q3.2).bind fun q5 =>
 ((some q5.1).bind AV.asBool).bind fun b6 =>
 cond (!b4) (
 some (.tup [(⟨none, 0, .is 0⟩ : Sl).v, .int .i64 1], q5.2)) (
 cond (!b6) (
 some (.tup [(⟨none, 0, .is 0⟩ : Sl).v, .int .i64 1], q5.2)) (
 (go (.fn F.kbd [a1.v]) q5.2).bind fun q7 =>
 ((some q7.1).bind AV.asSl).bind fun l8 =>
 (go (.fn F.kbd [a2.v]) q7.2).bind fun q9 =>
 ((some q9.1).bind AV.asSl).bind fun l10 =>
 (go (.fn F.kb7 [l8.v, l10.v]) q9.2).bind fun q11 =>
 ((some q11.1).bind AV.asSl).bind fun l12 =>
 (go (.fn F.kfh [l12.v]) q11.2).bind fun q13 =>
 (AV.asTup2 q13.1).bind fun p14 =>
 ((some p14.1).bind AV.asSl).bind fun l15 =>
 ((some p14.2).bind (AV.asInt .i64)).bind fun n16 =>
 some (.tup [l15.v, .int .i64 n16], q13.2))) := (kc _ h).trans (by kernel_rfl)
theorem ky9 (a1 : Sl) (a2 : Sl) (h : AH) : go (.fn F.krw [a1.v, a2.v]) h =
 (go (.fn F.kbf [a1.v]) h).bind fun q3 =>
 ((some q3.1).bind AV.asBool).bind fun b4 =>
 (go (.fn F.kbf [a2.v]) q3.2).bind fun q5 =>
 ((some q5.1).bind AV.asBool).bind fun b6 =>
 cond (!b4) (
 some (.tup [(⟨none, 0, .is 0⟩ : Sl).v, .int .i64 1], q5.2)) (
 cond (!b6) (
 some (.tup [(⟨none, 0, .is 0⟩ : Sl).v, .int .i64 1], q5.2)) (
 (go (.fn F.kbd [a1.v]) q5.2).bind fun q7 =>
 ((some q7.1).bind AV.asSl).bind fun l8 =>
 (go (.fn F.kbd [a2.v]) q7.2).bind fun q9 =>
 ((some q9.1).bind AV.asSl).bind fun l10 =>
 (go (.fn F.keh [l8.v, l10.v]) q9.2).bind fun q11 =>
 ((some q11.1).bind AV.asSl).bind fun l12 =>
 (go (.fn F.kfh [l12.v]) q11.2).bind fun q13 =>
 (AV.asTup2 q13.1).bind fun p14 =>
 ((some p14.1).bind AV.asSl).bind fun l15 =>
 ((some p14.2).bind (AV.asInt .i64)).bind fun n16 =>
 some (.tup [l15.v, .int .i64 n16], q13.2))) := (kc _ h).trans (by kernel_rfl)
theorem k5t (a1 : Sl) (a2 : Sl) (a3 : Sl) (h : AH) : go (.fn F.kdu [a1.v, a2.v, a3.v]) h =
 (go (.fn F.kgn [.int .u64 1]) h).bind fun q4 =>
 ((some q4.1).bind AV.asSl).bind fun l5 =>
 (go (.fn F.kdn [a2.v]) q4.2).bind fun q6 =>
 ((some q6.1).bind (AV.asInt .i64)).bind fun n7 =>
 go (.pt F.kdu Td.kkg [(0, a1.v), (1, a2.v), (2, a3.v), (7, l5.v), (8, .int .i64 (IntKind.wrap .i64 (n7 - 1)))]) q6.2 := (kc _ h).trans (by kernel_rfl)
theorem ky5 (a1 : Sl) (a2 : Sl) (h : AH) : go (.fn F.kn1 [a1.v, a2.v]) h =
 (go (.fn F.kl6 [a1.v, a2.v]) h).bind fun q3 =>
 (AV.asTup3 q3.1).bind fun p4 =>
 ((some p4.1).bind AV.asSl).bind fun l5 =>
 ((some p4.2.1).bind AV.asSl).bind fun l6 =>
 ((some p4.2.2).bind (AV.asInt .i64)).bind fun n7 =>
 some (l6.v, q3.2) := (kc _ h).trans (by kernel_rfl)
theorem k5a (a1 : Option Ref) (a2 : Int) (h : AH) : go (.fn F.ki9 [.ptr a1, .int .i64 a2]) h =
 a1.bind fun r3 =>
 ((h.cell (r3.add 0)).bind AV.asSl).bind fun l4 =>
 (kbg (IntKind.wrap .i64 ((IntKind.wrap .i64 (a2 * (l4.len : Int))) + 1)) (IntKind.wrap .i64 ((IntKind.wrap .i64 (a2 * (l4.len : Int))) + 1)) T.ke (Pg.bytesOf T.ke) [.int .u64 0] h).bind fun q5 =>
 a1.bind fun r6 =>
 ((q5.2.cell (r6.add 0)).bind AV.asSl).bind fun l7 =>
 (idx q5.1.ref q5.1.len (IntKind.wrap .i64 (a2 * (l7.len : Int))) 1).bind fun r8 =>
 (q5.2.puts r8 [.int .u64 1]).bind fun h9 =>
 a1.bind fun r10 =>
 ((h9.cell (r10.add 0)).bind AV.asSl).bind fun l11 =>
 (go (.fn F.kh5 [q5.1.v, l11.v]) h9).bind fun q12 =>
 (AV.asTup3 q12.1).bind fun p13 =>
 ((some p13.1).bind AV.asSl).bind fun l14 =>
 ((some p13.2.1).bind AV.asSl).bind fun l15 =>
 ((some p13.2.2).bind (AV.asInt .i64)).bind fun n16 =>
 some (l15.v, q12.2) := (kc _ h).trans (by kernel_rfl)
theorem k5b (a1 : Sl) (a2 : Option Ref) (h : AH) : go (.fn F.kk5 [a1.v, .func (.func F.kct) [] [.ptr a2]]) h =
 (go (.fn F.kcy [a1.v, .func (.func F.kct) [] [.ptr a2]]) h).bind fun q3 =>
 ((some q3.1).bind (AV.asInt .i64)).bind fun n4 =>
 some (.bool (decide (n4 ≥ 0)), q3.2) := (kc _ h).trans (by kernel_rfl)
theorem kba7 (a1 : Option Ref) (a2 : Sl) (a3 : Sl) (a4 : Int) (a5 : Sl) (a6 : Int) (a7 : Int) (h : AH) : go (.pt F.kx Td.kix [(0, .ptr a1), (1, a2.v), (2, a3.v), (7, .int .i64 a4), (8, a5.v), (20, .int .i64 a6), (21, .int .i64 a7)]) h =
 cond (decide (a7 < a6)) (
 cond (decide (a7 < (a2.len : Int))) (
 (idx a2.ref a2.len a7 1).bind fun r8 =>
 ((h.cell r8).bind (AV.asInt .u64)).bind fun n9 =>
 (go (.fn F.kcv [a5.v, a3.v, .int .u64 n9]) h).bind fun q10 =>
 (AV.asTup0 q10.1).bind fun _ =>
 a1.bind fun r11 =>
 ((q10.2.cell (r11.add 0)).bind AV.asSl).bind fun l12 =>
 (idx a5.ref a5.len 0 1).bind fun r13 =>
 ((q10.2.cell r13).bind (AV.asInt .u64)).bind fun n14 =>
 a1.bind fun r15 =>
 ((q10.2.cell (r15.add 1)).bind (AV.asInt .u64)).bind fun n16 =>
 (go (.fn F.kcv [a5.v, l12.v, .int .u64 (IntKind.wrap .u64 (n14 * n16))]) q10.2).bind fun q17 =>
 (AV.asTup0 q17.1).bind fun _ =>
 (cutSl a5 1 (a5.len : Int) 1).bind fun l18 =>
 (copyH l18 a5 1 q17.2).bind fun h19 =>
 (idx a5.ref a5.len (IntKind.wrap .i64 (a4 + 1)) 1).bind fun r20 =>
 (h19.puts r20 [.int .u64 0]).bind fun h21 =>
 go (.pt F.kx Td.kix [(0, .ptr a1), (1, a2.v), (2, a3.v), (7, .int .i64 a4), (8, a5.v), (20, .int .i64 a6), (21, .int .i64 (IntKind.wrap .i64 (a7 + 1)))]) h21) (
 (go (.fn F.kcv [a5.v, a3.v, .int .u64 0]) h).bind fun q22 =>
 (AV.asTup0 q22.1).bind fun _ =>
 a1.bind fun r23 =>
 ((q22.2.cell (r23.add 0)).bind AV.asSl).bind fun l24 =>
 (idx a5.ref a5.len 0 1).bind fun r25 =>
 ((q22.2.cell r25).bind (AV.asInt .u64)).bind fun n26 =>
 a1.bind fun r27 =>
 ((q22.2.cell (r27.add 1)).bind (AV.asInt .u64)).bind fun n28 =>
 (go (.fn F.kcv [a5.v, l24.v, .int .u64 (IntKind.wrap .u64 (n26 * n28))]) q22.2).bind fun q29 =>
 (AV.asTup0 q29.1).bind fun _ =>
 (cutSl a5 1 (a5.len : Int) 1).bind fun l30 =>
 (copyH l30 a5 1 q29.2).bind fun h31 =>
 (idx a5.ref a5.len (IntKind.wrap .i64 (a4 + 1)) 1).bind fun r32 =>
 (h31.puts r32 [.int .u64 0]).bind fun h33 =>
 go (.pt F.kx Td.kix [(0, .ptr a1), (1, a2.v), (2, a3.v), (7, .int .i64 a4), (8, a5.v), (20, .int .i64 a6), (21, .int .i64 (IntKind.wrap .i64 (a7 + 1)))]) h33)) (
 (go (.fn F.kgp [a5.v]) h).bind fun q34 =>
 ((some q34.1).bind AV.asSl).bind fun l35 =>
 a1.bind fun r36 =>
 ((q34.2.cell (r36.add 0)).bind AV.asSl).bind fun l37 =>
 (go (.fn F.kdj [l35.v, l37.v]) q34.2).bind fun q38 =>
 ((some q38.1).bind (AV.asInt .i64)).bind fun n39 =>
 cond (decide (n39 ≥ 0)) (
 a1.bind fun r40 =>
 ((q38.2.cell (r40.add 0)).bind AV.asSl).bind fun l41 =>
 (go (.fn F.kmu [l35.v, l41.v]) q38.2).bind fun q42 =>
 (AV.asTup2 q42.1).bind fun p43 =>
 ((some p43.1).bind AV.asSl).bind fun l44 =>
 ((some p43.2).bind (AV.asInt .i64)).bind fun n45 =>
 some (l44.v, q42.2)) (
 some (l35.v, q38.2))) := (kc _ h).trans (by kernel_rfl)
theorem k7c (a1 : Sl) (a2 : Option Ref) (a3 : Sl) (a4 : Sl) (a5 : Int) (h : AH) : go (.pt F.kb0 Td.kl9 [(2, a1.v), (8, .func (.func F.kx) [.ptr a2] []), (9, a3.v), (11, a4.v), (12, .int .i64 a5)]) h =
 cond (decide (a5 > 0)) (
 go (.pt F.kb0 Td.kjo [(2, a1.v), (8, .func (.func F.kx) [.ptr a2] []), (9, a3.v), (11, a4.v), (12, .int .i64 a5), (13, .int .i64 0), (72, .int .i64 0)]) h) (
 newK h (.cells [.int .u64 1] T.ke) fun h6r h6 =>
 (go (.fn F.kx [.ptr a2, a4.v, (⟨some h6r, 1, .is 1⟩ : Sl).v]) h6).bind fun q7 =>
 ((some q7.1).bind AV.asSl).bind fun l8 =>
 some (.tup [l8.v, .int .i64 0], q7.2)) := (kc _ h).trans (by kernel_rfl)
theorem k5m (a1 : Sl) (a2 : Int) (a3 : Sl) (a4 : Int) (a5 : Int) (h : AH) : go (.pt F.kes Td.kov [(0, a1.v), (1, .int .u64 a2), (6, a3.v), (7, .int .u64 a4), (8, .int .i64 a5)]) h =
 cond (decide (a5 ≥ 0)) (
 (idx a1.ref a1.len a5 1).bind fun r6 =>
 ((h.cell r6).bind (AV.asInt .u64)).bind fun n7 =>
 (go (.fn F.kbk [.int .u64 a4, .int .u64 n7, .int .u64 a2]) h).bind fun q8 =>
 (AV.asTup2 q8.1).bind fun p9 =>
 ((some p9.1).bind (AV.asInt .u64)).bind fun n10 =>
 ((some p9.2).bind (AV.asInt .u64)).bind fun n11 =>
 (idx a3.ref a3.len a5 1).bind fun r12 =>
 (q8.2.puts r12 [.int .u64 n10]).bind fun h13 =>
 go (.pt F.kes Td.kov [(0, a1.v), (1, .int .u64 a2), (6, a3.v), (7, .int .u64 n11), (8, .int .i64 (IntKind.wrap .i64 (a5 - 1)))]) h13) (
 (go (.fn F.kbc [a3.v]) h).bind fun q14 =>
 ((some q14.1).bind AV.asSl).bind fun l15 =>
 some (.tup [l15.v, .int .u64 a4], q14.2)) := (kc _ h).trans (by kernel_rfl)
theorem k9q (a1 : Int) (h : AH) : go (.fn F.kli [.int .u64 a1]) h =
 (go (.fn F.khz [.int .u64 a1]) h).bind fun q2 =>
 ((some q2.1).bind (AV.asInt .i64)).bind fun n3 =>
 some (.int .i64 (IntKind.wrap .i64 (64 - n3)), q2.2) := (kc _ h).trans (by kernel_rfl)
theorem k5f (a1 : Sl) (a2 : Int) (h : AH) : go (.fn F.kdq [a1.v, .int .u64 a2]) h =
 (kbg (IntKind.wrap .i64 ((a1.len : Int) + 1)) (IntKind.wrap .i64 ((a1.len : Int) + 1)) T.ke (Pg.bytesOf T.ke) [.int .u64 0] h).bind fun q3 =>
 go (.pt F.kdq Td.kjh [(1, .int .u64 a2), (5, q3.1.v), (12, a1.v), (13, .int .i64 (a1.len : Int)), (14, .int .i64 0)]) q3.2 := (kc _ h).trans (by kernel_rfl)
theorem kbct (a1 : Int) (a2 : Sl) (a3 : Sl) (a4 : Int) (a5 : Sl) (a6 : Int) (h : AH) : go (.pt F.kbv Td.kok [(6, .int .u64 a1), (7, a2.v), (8, a3.v), (9, .int .i64 a4), (10, a5.v), (11, .int .i64 a6)]) h =
 cond (decide (a6 ≥ 0)) (
 (idx a2.ref a2.len (IntKind.wrap .i64 (a6 + a4)) 1).bind fun r7 =>
 ((h.cell r7).bind (AV.asInt .u64)).bind fun n8 =>
 (idx a2.ref a2.len (IntKind.wrap .i64 ((IntKind.wrap .i64 (a6 + a4)) - 1)) 1).bind fun r9 =>
 ((h.cell r9).bind (AV.asInt .u64)).bind fun n10 =>
 (idx a2.ref a2.len (IntKind.wrap .i64 ((IntKind.wrap .i64 (a6 + a4)) - 2)) 1).bind fun r11 =>
 ((h.cell r11).bind (AV.asInt .u64)).bind fun n12 =>
 (idx a3.ref a3.len (IntKind.wrap .i64 (a4 - 1)) 1).bind fun r13 =>
 ((h.cell r13).bind (AV.asInt .u64)).bind fun n14 =>
 (idx a3.ref a3.len (IntKind.wrap .i64 (a4 - 2)) 1).bind fun r15 =>
 ((h.cell r15).bind (AV.asInt .u64)).bind fun n16 =>
 (go (.fn F.keg [.int .u64 n8, .int .u64 n10, .int .u64 n12, .int .u64 n14, .int .u64 n16]) h).bind fun q17 =>
 ((some q17.1).bind (AV.asInt .u64)).bind fun n18 =>
 (cutSl a2 a6 (IntKind.wrap .i64 ((IntKind.wrap .i64 (a6 + a4)) + 1)) 1).bind fun l19 =>
 go (.pt F.kbv Td.knv [(6, .int .u64 a1), (7, a2.v), (8, a3.v), (9, .int .i64 a4), (10, a5.v), (11, .int .i64 a6), (12, .int .u64 n18), (13, l19.v)]) q17.2) (
 (go (.fn F.kbc [a2.v]) h).bind fun q20 =>
 ((some q20.1).bind AV.asSl).bind fun l21 =>
 (kbg (l21.len : Int) (l21.len : Int) T.ke (Pg.bytesOf T.ke) [.int .u64 0] q20.2).bind fun q22 =>
 go (.pt F.kbv Td.khn [(6, .int .u64 a1), (10, a5.v), (15, l21.v), (16, q22.1.v), (112, .int .i64 (l21.len : Int)), (113, .int .i64 0)]) q22.2) := (kc _ h).trans (by kernel_rfl)
theorem kbao (a1 : Sl) (h : AH) : go (.fn F.kcy [a1.v, .func (.func F.kdk) [] []]) h =
 go (.pt F.kcy Td.kgx [(0, a1.v), (1, .func (.func F.kdk) [] []), (7, .int .i64 (a1.len : Int)), (8, .int .i64 0)]) h := (kc _ h).trans (by kernel_rfl)
theorem k0a (a1 : Option Ref) (a2 : Int) (h : AH) : go (.fn F.kc1 [.ptr a1, .int .i64 a2]) h =
 cond (decide (a2 < 0)) (
 some (.tup [(⟨none, 0, .is 0⟩ : Sl).v, .int .i64 1], h)) (
 cond (decide (a2 > 65536)) (
 some (.tup [(⟨none, 0, .is 0⟩ : Sl).v, .int .i64 1], h)) (
 a1.bind fun r3 =>
 ((h.cell (r3.add 0)).bind AV.asSl).bind fun l4 =>
 cond (decide (a2 > (l4.len : Int))) (
 some (.tup [(⟨none, 0, .is 0⟩ : Sl).v, .int .i64 7], h)) (
 a1.bind fun r5 =>
 ((h.cell (r5.add 0)).bind AV.asSl).bind fun l6 =>
 (cutSl l6 0 a2 1).bind fun l7 =>
 (go (.fn F.kmq [l7.v]) h).bind fun q8 =>
 ((some q8.1).bind AV.asSl).bind fun l9 =>
 a1.bind fun r10 =>
 ((q8.2.cell (r10.add 0)).bind AV.asSl).bind fun l11 =>
 (cutSl l11 a2 (l11.len : Int) 1).bind fun l12 =>
 a1.bind fun r13 =>
 (q8.2.puts (r13.add 0) [l12.v]).bind fun h14 =>
 some (.tup [l9.v, .int .i64 0], h14)))) := (kc _ h).trans (by kernel_rfl)
theorem k6q (a1 : Sl) (h : AH) : go (.fn F.ke1 [a1.v]) h =
 (go (.fn F.kf3 [a1.v, .func (.func F.kdr) [] []]) h).bind fun q2 =>
 ((some q2.1).bind (AV.asInt .i64)).bind fun n3 =>
 cond (decide (n3 < 0)) (
 some (.tup [(⟨none, 0, .is 0⟩ : Sl).v, .int .i64 0], q2.2)) (
 (cutSl a1 n3 (a1.len : Int) 1).bind fun l4 =>
 cond (decide ((l4.len : Int) > 512)) (
 some (.tup [(⟨none, 0, .is 0⟩ : Sl).v, .int .i64 4], q2.2)) (
 (kbg (IntKind.wrap .i64 (Int.tdiv (IntKind.wrap .i64 ((l4.len : Int) + 7)) 8)) (IntKind.wrap .i64 (Int.tdiv (IntKind.wrap .i64 ((l4.len : Int) + 7)) 8)) T.ke (Pg.bytesOf T.ke) [.int .u64 0] q2.2).bind fun q5 =>
 go (.pt F.ke1 Td.kmj [(0, l4.v), (5, q5.1.v), (23, .int .i64 (l4.len : Int)), (24, .int .i64 0)]) q5.2)) := (kc _ h).trans (by kernel_rfl)
theorem kx6 (a1 : Sl) (a2 : Sl) (a3 : Int) (a4 : Int) (a5 : Int) (h : AH) : go (.pt F.kbd Td.kn6 [(0, a1.v), (3, a2.v), (4, .int .i64 a3), (5, .int .u64 a4), (6, .int .i64 a5)]) h =
 cond (decide (a5 < 4)) (
 newK h (.cells [.int .u64 (Int.tmod a4 65536)] T.ke) fun h6r h6 =>
 (ky Pg T.ke ((⟨some h6r, 1, .is 1⟩ : Sl).v) h6).bind fun p8 =>
 (ko Pg a2 p8.1 p8.2 T.ke 1 h6).bind fun q7 =>
 (AV.asSl q7.1).bind fun l9 =>
 go (.pt F.kbd Td.kn6 [(0, a1.v), (3, l9.v), (4, .int .i64 a3), (5, .int .u64 (IntKind.wrap .u64 (Int.tdiv a4 65536))), (6, .int .i64 (IntKind.wrap .i64 (a5 + 1)))]) q7.2) (
 go (.pt F.kbd Td.kkp [(0, a1.v), (3, a2.v), (4, .int .i64 (IntKind.wrap .i64 (a3 + 1)))]) h) := (kc _ h).trans (by kernel_rfl)
theorem k66 (a1 : Sl) (h : AH) : go (.fn F.kch [a1.v]) h =
 go (.pt F.kch Td.kml [(0, a1.v), (3, .int .i64 (a1.len : Int))]) h := (kc _ h).trans (by kernel_rfl)
theorem kw8 (a1 : Sl) (a2 : Sl) (a3 : Sl) (a4 : Int) (a5 : Int) (h : AH) : go (.pt F.kek Td.kj9 [(0, a1.v), (1, a2.v), (5, a3.v), (6, .int .u64 a4), (7, .int .i64 a5)]) h =
 cond (decide (a5 < (a1.len : Int))) (
 (idx a1.ref a1.len a5 1).bind fun r6 =>
 ((h.cell r6).bind (AV.asInt .u64)).bind fun n7 =>
 (go (.fn F.kg8 [a2.v, .int .i64 a5]) h).bind fun q8 =>
 ((some q8.1).bind (AV.asInt .u64)).bind fun n9 =>
 whenK (SameAt h q8.2 r6 1) (
 newK q8.2 (.cells [.int .u64 (Int.tmod (IntKind.wrap .u64 ((IntKind.wrap .u64 ((IntKind.wrap .u64 (65536 + n7)) - n9)) - a4)) 65536)] T.ke) fun h10r h10 =>
 (ky Pg T.ke ((⟨some h10r, 1, .is 1⟩ : Sl).v) h10).bind fun p12 =>
 (ko Pg a3 p12.1 p12.2 T.ke 1 h10).bind fun q11 =>
 (AV.asSl q11.1).bind fun l13 =>
 go (.pt F.kek Td.kj9 [(0, a1.v), (1, a2.v), (5, l13.v), (6, .int .u64 (IntKind.wrap .u64 (1 - (IntKind.wrap .u64 (Int.tdiv (IntKind.wrap .u64 ((IntKind.wrap .u64 ((IntKind.wrap .u64 (65536 + n7)) - n9)) - a4)) 65536))))), (7, .int .i64 (IntKind.wrap .i64 (a5 + 1)))]) q11.2)) (
 (go (.fn F.kch [a3.v]) h).bind fun q14 =>
 ((some q14.1).bind AV.asSl).bind fun l15 =>
 some (l15.v, q14.2)) := (kc _ h).trans (by kernel_rfl)
theorem k3l (a1 : Sl) (h : AH) : go (.fn F.kb1 [a1.v]) h =
 go (.pt F.kb1 Td.kik [(0, a1.v), (4, (⟨none, 0, .is 0⟩ : Sl).v), (5, .int .i64 0)]) h := (kc _ h).trans (by kernel_rfl)
theorem kuo (a1 : Sl) (a2 : Int) (h : AH) : go (.pt F.kb4 Td.kn0 [(0, a1.v), (4, .int .i64 a2)]) h =
 cond (decide (a2 < (a1.len : Int))) (
 (idx a1.ref a1.len a2 1).bind fun r3 =>
 ((h.cell r3).bind (AV.asInt .u8)).bind fun n4 =>
 cond (decide (n4 = 0)) (
 go (.pt F.kb4 Td.kn0 [(0, a1.v), (4, .int .i64 (IntKind.wrap .i64 (a2 + 1)))]) h) (
 cond (decide ((IntKind.wrap .i64 ((a1.len : Int) - a2)) > 512)) (
 some (.tup [(⟨none, 0, .is 0⟩ : Sl).v, .int .i64 4], h)) (
 go (.pt F.kb4 Td.ker [(0, a1.v), (4, .int .i64 a2), (5, (⟨none, 0, .is 0⟩ : Sl).v), (6, .int .i64 (IntKind.wrap .i64 ((a1.len : Int) - 1)))]) h))) (
 cond (decide ((IntKind.wrap .i64 ((a1.len : Int) - a2)) > 512)) (
 some (.tup [(⟨none, 0, .is 0⟩ : Sl).v, .int .i64 4], h)) (
 go (.pt F.kb4 Td.ker [(0, a1.v), (4, .int .i64 a2), (5, (⟨none, 0, .is 0⟩ : Sl).v), (6, .int .i64 (IntKind.wrap .i64 ((a1.len : Int) - 1)))]) h)) := (kc _ h).trans (by kernel_rfl)
theorem k6p (a1 : Int) (h : AH) : go (.fn F.ke0 [.int .i64 a1]) h =
 (kbg (IntKind.wrap .i64 ((IntKind.wrap .i64 (Int.tdiv a1 16)) + 1)) (IntKind.wrap .i64 ((IntKind.wrap .i64 (Int.tdiv a1 16)) + 1)) T.ke (Pg.bytesOf T.ke) [.int .u64 0] h).bind fun q2 =>
 (idx q2.1.ref q2.1.len (IntKind.wrap .i64 (Int.tdiv a1 16)) 1).bind fun r3 =>
 (q2.2.puts r3 [.int .u64 1]).bind fun h4 =>
 go (.pt F.ke0 Td.koq [(0, .int .i64 a1), (3, q2.1.v), (4, .int .i64 0)]) h4 := (kc _ h).trans (by kernel_rfl)
theorem k6r (a1 : Sl) (a2 : Sl) (h : AH) : go (.fn F.kcb [a1.v, a2.v]) h =
 (kbg (a1.len : Int) (a1.len : Int) T.ke (Pg.bytesOf T.ke) [.int .u64 0] h).bind fun q3 =>
 go (.pt F.kcb Td.knp [(0, a1.v), (1, a2.v), (6, q3.1.v), (7, (⟨none, 0, .is 0⟩ : Sl).v), (8, .int .i64 (IntKind.wrap .i64 ((a1.len : Int) - 1)))]) q3.2 := (kc _ h).trans (by kernel_rfl)
theorem k3b (a1 : Sl) (a2 : Sl) (h : AH) : go (.fn F.kb7 [a1.v, a2.v]) h =
 (kbg (IntKind.wrap .i64 ((a1.len : Int) + (a2.len : Int))) (IntKind.wrap .i64 ((a1.len : Int) + (a2.len : Int))) T.ke (Pg.bytesOf T.ke) [.int .u64 0] h).bind fun q3 =>
 go (.pt F.kb7 Td.knr [(0, a1.v), (1, a2.v), (5, q3.1.v), (6, .int .i64 0)]) q3.2 := (kc _ h).trans (by kernel_rfl)
theorem k3n (a1 : Sl) (a2 : Sl) (h : AH) : go (.fn F.keh [a1.v, a2.v]) h =
 go (.pt F.keh Td.kis [(0, a1.v), (1, a2.v), (5, (⟨none, 0, .is 0⟩ : Sl).v), (6, .int .u64 0), (7, .int .i64 0)]) h := (kc _ h).trans (by kernel_rfl)
theorem k52 (a1 : Sl) (a2 : Sl) (a3 : Sl) (a4 : Sl) (a5 : Int) (h : AH) : go (.pt F.kdu Td.kkg [(0, a1.v), (1, a2.v), (2, a3.v), (7, a4.v), (8, .int .i64 a5)]) h =
 cond (decide (a5 ≥ 0)) (
 (go (.fn F.kkm [a4.v, a4.v, a3.v]) h).bind fun q6 =>
 ((some q6.1).bind AV.asSl).bind fun l7 =>
 (go (.fn F.kem [a2.v, .int .i64 a5]) q6.2).bind fun q8 =>
 ((some q8.1).bind AV.asBool).bind fun b9 =>
 cond b9 (
 (go (.fn F.kkm [l7.v, a1.v, a3.v]) q8.2).bind fun q10 =>
 ((some q10.1).bind AV.asSl).bind fun l11 =>
 go (.pt F.kdu Td.kkg [(0, a1.v), (1, a2.v), (2, a3.v), (7, l11.v), (8, .int .i64 (IntKind.wrap .i64 (a5 - 1)))]) q10.2) (
 go (.pt F.kdu Td.kkg [(0, a1.v), (1, a2.v), (2, a3.v), (7, l7.v), (8, .int .i64 (IntKind.wrap .i64 (a5 - 1)))]) q8.2)) (
 some (a4.v, h)) := (kc _ h).trans (by kernel_rfl)
theorem k04 (a1 : Sl) (a2 : Sl) (h : AH) : go (.fn F.kl6 [a1.v, a2.v]) h =
 (go (.fn F.kbf [a1.v]) h).bind fun q3 =>
 ((some q3.1).bind AV.asBool).bind fun b4 =>
 (go (.fn F.kbf [a2.v]) q3.2).bind fun q5 =>
 ((some q5.1).bind AV.asBool).bind fun b6 =>
 cond (!b4) (
 some (.tup [(⟨none, 0, .is 0⟩ : Sl).v, (⟨none, 0, .is 0⟩ : Sl).v, .int .i64 1], q5.2)) (
 cond (!b6) (
 some (.tup [(⟨none, 0, .is 0⟩ : Sl).v, (⟨none, 0, .is 0⟩ : Sl).v, .int .i64 1], q5.2)) (
 cond (decide ((a2.len : Int) = 0)) (
 some (.tup [(⟨none, 0, .is 0⟩ : Sl).v, (⟨none, 0, .is 0⟩ : Sl).v, .int .i64 3], q5.2)) (
 (go (.fn F.kbd [a1.v]) q5.2).bind fun q7 =>
 ((some q7.1).bind AV.asSl).bind fun l8 =>
 (go (.fn F.kbd [a2.v]) q7.2).bind fun q9 =>
 ((some q9.1).bind AV.asSl).bind fun l10 =>
 (go (.fn F.kcb [l8.v, l10.v]) q9.2).bind fun q11 =>
 (AV.asTup2 q11.1).bind fun p12 =>
 ((some p12.1).bind AV.asSl).bind fun l13 =>
 ((some p12.2).bind AV.asSl).bind fun l14 =>
 (go (.fn F.kb1 [l13.v]) q11.2).bind fun q15 =>
 (AV.asTup2 q15.1).bind fun p16 =>
 ((some p16.1).bind AV.asSl).bind fun l17 =>
 ((some p16.2).bind AV.asBool).bind fun b18 =>
 (go (.fn F.kb1 [l14.v]) q15.2).bind fun q19 =>
 (AV.asTup2 q19.1).bind fun p20 =>
 ((some p20.1).bind AV.asSl).bind fun l21 =>
 ((some p20.2).bind AV.asBool).bind fun b22 =>
 some (.tup [l17.v, l21.v, .int .i64 0], q19.2)))) := (kc _ h).trans (by kernel_rfl)
theorem k53 (a1 : Sl) (a2 : Option Ref) (h : AH) : go (.fn F.kcy [a1.v, .func (.func F.kct) [] [.ptr a2]]) h =
 go (.pt F.kcy Td.kgx [(0, a1.v), (1, .func (.func F.kct) [] [.ptr a2]), (7, .int .i64 (a1.len : Int)), (8, .int .i64 0)]) h := (kc _ h).trans (by kernel_rfl)
theorem kbbg (a1 : Sl) (a2 : Sl) (a3 : Int) (h : AH) : go (.fn F.kcv [a1.v, a2.v, .int .u64 a3]) h =
 go (.pt F.kcv Td.kk1 [(0, a1.v), (1, a2.v), (2, .int .u64 a3), (6, .int .u64 0), (12, .int .i64 (a1.len : Int)), (13, .int .i64 0)]) h := (kc _ h).trans (by kernel_rfl)
theorem kbcc (a1 : Sl) (h : AH) : go (.fn F.kgp [a1.v]) h =
 go (.pt F.kgp Td.kmb [(0, a1.v), (3, .int .i64 (a1.len : Int))]) h := (kc _ h).trans (by kernel_rfl)
theorem k59 (a1 : Sl) (a2 : Option Ref) (a3 : Sl) (a4 : Sl) (a5 : Int) (a6 : Int) (a7 : Int) (h : AH) : go (.pt F.kb0 Td.kjo [(2, a1.v), (8, .func (.func F.kx) [.ptr a2] []), (9, a3.v), (11, a4.v), (12, .int .i64 a5), (13, .int .i64 a6), (72, .int .i64 a7)]) h =
 cond (decide (a7 < 4)) (
 (go (.fn F.kx [.ptr a2, a4.v, a4.v]) h).bind fun q8 =>
 ((some q8.1).bind AV.asSl).bind fun l9 =>
 (go (.fn F.kh2 [a1.v, .int .i64 (IntKind.wrap .i64 ((IntKind.wrap .i64 ((IntKind.wrap .i64 (a5 * 4)) - 1)) - a7))]) q8.2).bind fun q10 =>
 ((some q10.1).bind AV.asBool).bind fun b11 =>
 cond b11 (
 cond (decide ((IntKind.wrap .i64 (3 - a7)) < 0)) none (
 go (.pt F.kb0 Td.kjo [(2, a1.v), (8, .func (.func F.kx) [.ptr a2] []), (9, a3.v), (11, l9.v), (12, .int .i64 a5), (13, .int .i64 (ior .i64 a6 (ishl .i64 1 (IntKind.wrap .i64 (3 - a7))))), (72, .int .i64 (IntKind.wrap .i64 (a7 + 1)))]) q10.2)) (
 go (.pt F.kb0 Td.kjo [(2, a1.v), (8, .func (.func F.kx) [.ptr a2] []), (9, a3.v), (11, l9.v), (12, .int .i64 a5), (13, .int .i64 a6), (72, .int .i64 (IntKind.wrap .i64 (a7 + 1)))]) q10.2)) (
 (idx a3.ref a3.len a6 1).bind fun r12 =>
 ((h.cell r12).bind AV.asSl).bind fun l13 =>
 (go (.fn F.kx [.ptr a2, a4.v, l13.v]) h).bind fun q14 =>
 ((some q14.1).bind AV.asSl).bind fun l15 =>
 go (.pt F.kb0 Td.kl9 [(2, a1.v), (8, .func (.func F.kx) [.ptr a2] []), (9, a3.v), (11, l15.v), (12, .int .i64 (IntKind.wrap .i64 (a5 - 1)))]) q14.2) := (kc _ h).trans (by kernel_rfl)
theorem kzy (a1 : Int) (a2 : Int) (a3 : Int) (h : AH) : go (.fn F.kbk [.int .u64 a1, .int .u64 a2, .int .u64 a3]) h =
 cond (decide (a3 = 0)) (
 (h.cell (.old ⟨0, 0, none⟩)).bind fun v4 =>
 none) (
 go (.pt F.kbk Td.kq2 [(0, .int .u64 a1), (1, .int .u64 a2), (2, .int .u64 a3)]) h) := (kc _ h).trans (by kernel_rfl)
theorem k9z (a1 : Int) (a2 : Sl) (a3 : Sl) (a4 : Int) (a5 : Int) (h : AH) : go (.pt F.kdq Td.kjh [(1, .int .u64 a1), (5, a2.v), (12, a3.v), (13, .int .i64 a4), (14, .int .i64 a5)]) h =
 cond (decide (a5 < a4)) (
 (idx a3.ref a3.len a5 1).bind fun r6 =>
 ((h.cell r6).bind (AV.asInt .u64)).bind fun n7 =>
 (idx a2.ref a2.len a5 1).bind fun r8 =>
 ((h.cell r8).bind (AV.asInt .u64)).bind fun n9 =>
 cond (decide (a1 < 0)) none (
 (idx a2.ref a2.len a5 1).bind fun r10 =>
 (h.puts r10 [.int .u64 (ior .u64 n9 (ishl .u64 n7 a1))]).bind fun h11 =>
 cond (decide (a1 > 0)) (
 cond (decide ((IntKind.wrap .u64 (64 - a1)) < 0)) none (
 (idx a2.ref a2.len (IntKind.wrap .i64 (a5 + 1)) 1).bind fun r12 =>
 (h11.puts r12 [.int .u64 (ishr .u64 n7 (IntKind.wrap .u64 (64 - a1)))]).bind fun h13 =>
 go (.pt F.kdq Td.kjh [(1, .int .u64 a1), (5, a2.v), (12, a3.v), (13, .int .i64 a4), (14, .int .i64 (IntKind.wrap .i64 (a5 + 1)))]) h13)) (
 go (.pt F.kdq Td.kjh [(1, .int .u64 a1), (5, a2.v), (12, a3.v), (13, .int .i64 a4), (14, .int .i64 (IntKind.wrap .i64 (a5 + 1)))]) h11))) (
 some (a2.v, h)) := (kc _ h).trans (by kernel_rfl)
theorem k95 (a1 : Int) (a2 : Int) (a3 : Int) (a4 : Int) (a5 : Int) (h : AH) : go (.fn F.keg [.int .u64 a1, .int .u64 a2, .int .u64 a3, .int .u64 a4, .int .u64 a5]) h =
 cond (decide (a1 ≥ a4)) (
 some (.int .u64 18446744073709551615, h)) (
 (go (.fn F.kbk [.int .u64 a1, .int .u64 a2, .int .u64 a4]) h).bind fun q6 =>
 (AV.asTup2 q6.1).bind fun p7 =>
 ((some p7.1).bind (AV.asInt .u64)).bind fun n8 =>
 ((some p7.2).bind (AV.asInt .u64)).bind fun n9 =>
 go (.pt F.keg Td.kku [(2, .int .u64 a3), (3, .int .u64 a4), (4, .int .u64 a5), (11, .int .u64 n8), (12, .int .u64 n9)]) q6.2) := (kc _ h).trans (by kernel_rfl)
theorem k8z (a1 : Int) (a2 : Sl) (a3 : Sl) (a4 : Int) (a5 : Sl) (a6 : Int) (a7 : Int) (a8 : Sl) (h : AH) : go (.pt F.kbv Td.knv [(6, .int .u64 a1), (7, a2.v), (8, a3.v), (9, .int .i64 a4), (10, a5.v), (11, .int .i64 a6), (12, .int .u64 a7), (13, a8.v)]) h =
 (go (.fn F.kjn [.int .u64 a7]) h).bind fun q9 =>
 ((some q9.1).bind AV.asSl).bind fun l10 =>
 (go (.fn F.kb9 [a3.v, l10.v]) q9.2).bind fun q11 =>
 ((some q11.1).bind AV.asSl).bind fun l12 =>
 (go (.fn F.kgl [a8.v]) q11.2).bind fun q13 =>
 ((some q13.1).bind AV.asSl).bind fun l14 =>
 (go (.fn F.kbc [l14.v]) q13.2).bind fun q15 =>
 ((some q15.1).bind AV.asSl).bind fun l16 =>
 (go (.fn F.kdz [l16.v, l12.v]) q15.2).bind fun q17 =>
 ((some q17.1).bind (AV.asInt .i64)).bind fun n18 =>
 cond (decide (n18 ≥ 0)) (
 (go (.fn F.kci [a8.v, l12.v]) q17.2).bind fun q19 =>
 ((some q19.1).bind AV.asSl).bind fun l20 =>
 (copyH l20 a8 1 q19.2).bind fun h21 =>
 (idx a5.ref a5.len a6 1).bind fun r22 =>
 (h21.puts r22 [.int .u64 a7]).bind fun h23 =>
 go (.pt F.kbv Td.kok [(6, .int .u64 a1), (7, a2.v), (8, a3.v), (9, .int .i64 a4), (10, a5.v), (11, .int .i64 (IntKind.wrap .i64 (a6 - 1)))]) h23) (
 go (.pt F.kbv Td.knv [(6, .int .u64 a1), (7, a2.v), (8, a3.v), (9, .int .i64 a4), (10, a5.v), (11, .int .i64 a6), (12, .int .u64 (IntKind.wrap .u64 (a7 - 1))), (13, a8.v)]) q17.2) := (kc _ h).trans (by kernel_rfl)
theorem k8g (a1 : Int) (a2 : Sl) (a3 : Sl) (a4 : Sl) (a5 : Int) (a6 : Int) (h : AH) : go (.pt F.kbv Td.khn [(6, .int .u64 a1), (10, a2.v), (15, a3.v), (16, a4.v), (112, .int .i64 a5), (113, .int .i64 a6)]) h =
 cond (decide (a6 < a5)) (
 (idx a3.ref a3.len a6 1).bind fun r7 =>
 ((h.cell r7).bind (AV.asInt .u64)).bind fun n8 =>
 cond (decide (a1 < 0)) none (
 (idx a4.ref a4.len a6 1).bind fun r9 =>
 (h.puts r9 [.int .u64 (ishr .u64 n8 a1)]).bind fun h10 =>
 cond (decide (a1 > 0)) (
 cond (decide ((IntKind.wrap .i64 (a6 + 1)) < (a3.len : Int))) (
 (idx a4.ref a4.len a6 1).bind fun r11 =>
 ((h10.cell r11).bind (AV.asInt .u64)).bind fun n12 =>
 (idx a3.ref a3.len (IntKind.wrap .i64 (a6 + 1)) 1).bind fun r13 =>
 ((h10.cell r13).bind (AV.asInt .u64)).bind fun n14 =>
 cond (decide ((IntKind.wrap .u64 (64 - a1)) < 0)) none (
 (idx a4.ref a4.len a6 1).bind fun r15 =>
 (h10.puts r15 [.int .u64 (ior .u64 n12 (ishl .u64 n14 (IntKind.wrap .u64 (64 - a1))))]).bind fun h16 =>
 go (.pt F.kbv Td.khn [(6, .int .u64 a1), (10, a2.v), (15, a3.v), (16, a4.v), (112, .int .i64 a5), (113, .int .i64 (IntKind.wrap .i64 (a6 + 1)))]) h16)) (
 go (.pt F.kbv Td.khn [(6, .int .u64 a1), (10, a2.v), (15, a3.v), (16, a4.v), (112, .int .i64 a5), (113, .int .i64 (IntKind.wrap .i64 (a6 + 1)))]) h10)) (
 go (.pt F.kbv Td.khn [(6, .int .u64 a1), (10, a2.v), (15, a3.v), (16, a4.v), (112, .int .i64 a5), (113, .int .i64 (IntKind.wrap .i64 (a6 + 1)))]) h10))) (
 (go (.fn F.kbc [a2.v]) h).bind fun q17 =>
 ((some q17.1).bind AV.asSl).bind fun l18 =>
 (go (.fn F.kbc [a4.v]) q17.2).bind fun q19 =>
 ((some q19.1).bind AV.asSl).bind fun l20 =>
 some (.tup [l18.v, l20.v], q19.2)) := (kc _ h).trans (by kernel_rfl)
theorem kyb (a1 : Sl) (a2 : Int) (a3 : Int) (h : AH) : go (.pt F.kcy Td.kgx [(0, a1.v), (1, .func (.func F.kdk) [] []), (7, .int .i64 a2), (8, .int .i64 a3)]) h =
 cond (decide (a3 < a2)) (
 (idx a1.ref a1.len a3 1).bind fun r4 =>
 ((h.cell r4).bind AV.asSl).bind fun l5 =>
 (go (.fn F.kdk [l5.v]) h).bind fun q6 =>
 ((some q6.1).bind AV.asBool).bind fun b7 =>
 cond b7 (
 some (.int .i64 a3, q6.2)) (
 go (.pt F.kcy Td.kgx [(0, a1.v), (1, .func (.func F.kdk) [] []), (7, .int .i64 a2), (8, .int .i64 (IntKind.wrap .i64 (a3 + 1)))]) q6.2)) (
 some (.int .i64 (-1), h)) := (kc _ h).trans (by kernel_rfl)
theorem kbbx (a1 : Sl) (h : AH) : go (.fn F.kf3 [a1.v, .func (.func F.kdr) [] []]) h =
 go (.pt F.kf3 Td.khm [(0, a1.v), (1, .func (.func F.kdr) [] []), (7, .int .i64 (a1.len : Int)), (8, .int .i64 0)]) h := (kc _ h).trans (by kernel_rfl)
theorem kt7 (a1 : Sl) (a2 : Sl) (a3 : Int) (a4 : Int) (h : AH) : go (.pt F.ke1 Td.kmj [(0, a1.v), (5, a2.v), (23, .int .i64 a3), (24, .int .i64 a4)]) h =
 cond (decide (a4 < a3)) (
 (idx a2.ref a2.len (IntKind.wrap .i64 (Int.tdiv a4 8)) 1).bind fun r5 =>
 ((h.cell r5).bind (AV.asInt .u64)).bind fun n6 =>
 (idx a1.ref a1.len (IntKind.wrap .i64 ((IntKind.wrap .i64 ((a1.len : Int) - 1)) - a4)) 1).bind fun r7 =>
 ((h.cell r7).bind (AV.asInt .u8)).bind fun n8 =>
 cond (decide ((IntKind.wrap .i64 (8 * (Int.tmod a4 8))) < 0)) none (
 (idx a2.ref a2.len (IntKind.wrap .i64 (Int.tdiv a4 8)) 1).bind fun r9 =>
 (h.puts r9 [.int .u64 (ior .u64 n6 (ishl .u64 (IntKind.wrap .u64 n8) (IntKind.wrap .i64 (8 * (Int.tmod a4 8)))))]).bind fun h10 =>
 go (.pt F.ke1 Td.kmj [(0, a1.v), (5, a2.v), (23, .int .i64 a3), (24, .int .i64 (IntKind.wrap .i64 (a4 + 1)))]) h10)) (
 (go (.fn F.kiu [a2.v]) h).bind fun q11 =>
 (AV.asTup2 q11.1).bind fun p12 =>
 ((some p12.1).bind AV.asSl).bind fun l13 =>
 ((some p12.2).bind (AV.asInt .i64)).bind fun n14 =>
 some (.tup [l13.v, .int .i64 n14], q11.2)) := (kc _ h).trans (by kernel_rfl)
theorem kyc (a1 : Sl) (a2 : Int) (h : AH) : go (.pt F.kch Td.kml [(0, a1.v), (3, .int .i64 a2)]) h =
 cond (decide (a2 > 0)) (
 (idx a1.ref a1.len (IntKind.wrap .i64 (a2 - 1)) 1).bind fun r3 =>
 ((h.cell r3).bind (AV.asInt .u64)).bind fun n4 =>
 cond (decide (n4 = 0)) (
 go (.pt F.kch Td.kml [(0, a1.v), (3, .int .i64 (IntKind.wrap .i64 (a2 - 1)))]) h) (
 (cutSl a1 0 a2 1).bind fun l5 =>
 some (l5.v, h))) (
 (cutSl a1 0 a2 1).bind fun l6 =>
 some (l6.v, h)) := (kc _ h).trans (by kernel_rfl)
theorem k7j (a1 : Sl) (a2 : Int) (h : AH) : go (.fn F.kg8 [a1.v, .int .i64 a2]) h =
 cond (decide (a2 < (a1.len : Int))) (
 (idx a1.ref a1.len a2 1).bind fun r3 =>
 ((h.cell r3).bind (AV.asInt .u64)).bind fun n4 =>
 some (.int .u64 n4, h)) (
 some (.int .u64 0, h)) := (kc _ h).trans (by kernel_rfl)
theorem ktn (a1 : Sl) (a2 : Sl) (a3 : Int) (h : AH) : go (.pt F.kb1 Td.kik [(0, a1.v), (4, a2.v), (5, .int .i64 a3)]) h =
 cond (decide (a3 < (a1.len : Int))) (
 go (.pt F.kb1 Td.kjb [(0, a1.v), (4, a2.v), (5, .int .i64 a3), (6, .int .u64 0), (7, .int .i64 3)]) h) (
 some (.tup [a2.v, .bool (decide ((a2.len : Int) ≤ 64))], h)) := (kc _ h).trans (by kernel_rfl)
theorem kx2 (a1 : Sl) (a2 : Int) (a3 : Sl) (a4 : Int) (h : AH) : go (.pt F.kb4 Td.ker [(0, a1.v), (4, .int .i64 a2), (5, a3.v), (6, .int .i64 a4)]) h =
 cond (decide (a4 ≥ a2)) (
 (idx a1.ref a1.len a4 1).bind fun r5 =>
 ((h.cell r5).bind (AV.asInt .u8)).bind fun n6 =>
 cond (decide ((IntKind.wrap .i64 (a4 - 1)) ≥ a2)) (
 (idx a1.ref a1.len (IntKind.wrap .i64 (a4 - 1)) 1).bind fun r7 =>
 ((h.cell r7).bind (AV.asInt .u8)).bind fun n8 =>
 newK h (.cells [.int .u64 (IntKind.wrap .u64 ((IntKind.wrap .u64 n6) + (IntKind.wrap .u64 (256 * (IntKind.wrap .u64 n8)))))] T.ke) fun h9r h9 =>
 (ky Pg T.ke ((⟨some h9r, 1, .is 1⟩ : Sl).v) h9).bind fun p11 =>
 (ko Pg a3 p11.1 p11.2 T.ke 1 h9).bind fun q10 =>
 (AV.asSl q10.1).bind fun l12 =>
 go (.pt F.kb4 Td.ker [(0, a1.v), (4, .int .i64 a2), (5, l12.v), (6, .int .i64 (IntKind.wrap .i64 (a4 - 2)))]) q10.2) (
 newK h (.cells [.int .u64 (IntKind.wrap .u64 n6)] T.ke) fun h13r h13 =>
 (ky Pg T.ke ((⟨some h13r, 1, .is 1⟩ : Sl).v) h13).bind fun p15 =>
 (ko Pg a3 p15.1 p15.2 T.ke 1 h13).bind fun q14 =>
 (AV.asSl q14.1).bind fun l16 =>
 go (.pt F.kb4 Td.ker [(0, a1.v), (4, .int .i64 a2), (5, l16.v), (6, .int .i64 (IntKind.wrap .i64 (a4 - 2)))]) q14.2)) (
 (go (.fn F.kch [a3.v]) h).bind fun q17 =>
 ((some q17.1).bind AV.asSl).bind fun l18 =>
 (go (.fn F.kfh [l18.v]) q17.2).bind fun q19 =>
 (AV.asTup2 q19.1).bind fun p20 =>
 ((some p20.1).bind AV.asSl).bind fun l21 =>
 ((some p20.2).bind (AV.asInt .i64)).bind fun n22 =>
 some (.tup [l21.v, .int .i64 n22], q19.2)) := (kc _ h).trans (by kernel_rfl)
theorem k0u (a1 : Int) (a2 : Sl) (a3 : Int) (h : AH) : go (.pt F.ke0 Td.koq [(0, .int .i64 a1), (3, a2.v), (4, .int .i64 a3)]) h =
 cond (decide (a3 < (Int.tmod a1 16))) (
 (idx a2.ref a2.len (IntKind.wrap .i64 (Int.tdiv a1 16)) 1).bind fun r4 =>
 ((h.cell r4).bind (AV.asInt .u64)).bind fun n5 =>
 (idx a2.ref a2.len (IntKind.wrap .i64 (Int.tdiv a1 16)) 1).bind fun r6 =>
 (h.puts r6 [.int .u64 (IntKind.wrap .u64 (n5 * 2))]).bind fun h7 =>
 go (.pt F.ke0 Td.koq [(0, .int .i64 a1), (3, a2.v), (4, .int .i64 (IntKind.wrap .i64 (a3 + 1)))]) h7) (
 some (a2.v, h)) := (kc _ h).trans (by kernel_rfl)
theorem kbck (a1 : Sl) (a2 : Sl) (a3 : Sl) (a4 : Sl) (a5 : Int) (h : AH) : go (.pt F.kcb Td.knp [(0, a1.v), (1, a2.v), (6, a3.v), (7, a4.v), (8, .int .i64 a5)]) h =
 cond (decide (a5 ≥ 0)) (
 (idx a1.ref a1.len a5 1).bind fun r6 =>
 ((h.cell r6).bind (AV.asInt .u64)).bind fun n7 =>
 newK h (.cells [.int .u64 n7] T.ke) fun h8r h8 =>
 (ky Pg T.ke a4.v h8).bind fun p10 =>
 (ko Pg (⟨some h8r, 1, .is 1⟩ : Sl) p10.1 p10.2 T.ke 1 h8).bind fun q9 =>
 (AV.asSl q9.1).bind fun l11 =>
 (go (.fn F.kch [l11.v]) q9.2).bind fun q12 =>
 ((some q12.1).bind AV.asSl).bind fun l13 =>
 go (.pt F.kcb Td.kk6 [(0, a1.v), (1, a2.v), (6, a3.v), (7, l13.v), (8, .int .i64 a5), (9, .int .u64 0), (10, .int .u64 65535)]) q12.2) (
 (go (.fn F.kch [a3.v]) h).bind fun q14 =>
 ((some q14.1).bind AV.asSl).bind fun l15 =>
 some (.tup [l15.v, a4.v], q14.2)) := (kc _ h).trans (by kernel_rfl)
theorem k87 (a1 : Sl) (a2 : Sl) (a3 : Sl) (a4 : Int) (h : AH) : go (.pt F.kb7 Td.knr [(0, a1.v), (1, a2.v), (5, a3.v), (6, .int .i64 a4)]) h =
 cond (decide (a4 < (a1.len : Int))) (
 go (.pt F.kb7 Td.kll [(0, a1.v), (1, a2.v), (5, a3.v), (6, .int .i64 a4), (7, .int .u64 0), (8, .int .i64 0)]) h) (
 (go (.fn F.kch [a3.v]) h).bind fun q5 =>
 ((some q5.1).bind AV.asSl).bind fun l6 =>
 some (l6.v, q5.2)) := (kc _ h).trans (by kernel_rfl)
theorem kxl (a1 : Sl) (a2 : Sl) (a3 : Sl) (a4 : Int) (a5 : Int) (h : AH) : go (.pt F.keh Td.kis [(0, a1.v), (1, a2.v), (5, a3.v), (6, .int .u64 a4), (7, .int .i64 a5)]) h =
 cond (decide (a5 < (a1.len : Int))) (
 (go (.fn F.kg8 [a1.v, .int .i64 a5]) h).bind fun q6 =>
 ((some q6.1).bind (AV.asInt .u64)).bind fun n7 =>
 (go (.fn F.kg8 [a2.v, .int .i64 a5]) q6.2).bind fun q8 =>
 ((some q8.1).bind (AV.asInt .u64)).bind fun n9 =>
 newK q8.2 (.cells [.int .u64 (Int.tmod (IntKind.wrap .u64 ((IntKind.wrap .u64 (n7 + n9)) + a4)) 65536)] T.ke) fun h10r h10 =>
 (ky Pg T.ke ((⟨some h10r, 1, .is 1⟩ : Sl).v) h10).bind fun p12 =>
 (ko Pg a3 p12.1 p12.2 T.ke 1 h10).bind fun q11 =>
 (AV.asSl q11.1).bind fun l13 =>
 go (.pt F.keh Td.kis [(0, a1.v), (1, a2.v), (5, l13.v), (6, .int .u64 (IntKind.wrap .u64 (Int.tdiv (IntKind.wrap .u64 ((IntKind.wrap .u64 (n7 + n9)) + a4)) 65536))), (7, .int .i64 (IntKind.wrap .i64 (a5 + 1)))]) q11.2) (
 cond (decide (a5 < (a2.len : Int))) (
 (go (.fn F.kg8 [a1.v, .int .i64 a5]) h).bind fun q14 =>
 ((some q14.1).bind (AV.asInt .u64)).bind fun n15 =>
 (go (.fn F.kg8 [a2.v, .int .i64 a5]) q14.2).bind fun q16 =>
 ((some q16.1).bind (AV.asInt .u64)).bind fun n17 =>
 newK q16.2 (.cells [.int .u64 (Int.tmod (IntKind.wrap .u64 ((IntKind.wrap .u64 (n15 + n17)) + a4)) 65536)] T.ke) fun h18r h18 =>
 (ky Pg T.ke ((⟨some h18r, 1, .is 1⟩ : Sl).v) h18).bind fun p20 =>
 (ko Pg a3 p20.1 p20.2 T.ke 1 h18).bind fun q19 =>
 (AV.asSl q19.1).bind fun l21 =>
 go (.pt F.keh Td.kis [(0, a1.v), (1, a2.v), (5, l21.v), (6, .int .u64 (IntKind.wrap .u64 (Int.tdiv (IntKind.wrap .u64 ((IntKind.wrap .u64 (n15 + n17)) + a4)) 65536))), (7, .int .i64 (IntKind.wrap .i64 (a5 + 1)))]) q19.2) (
 newK h (.cells [.int .u64 a4] T.ke) fun h22r h22 =>
 (ky Pg T.ke ((⟨some h22r, 1, .is 1⟩ : Sl).v) h22).bind fun p24 =>
 (ko Pg a3 p24.1 p24.2 T.ke 1 h22).bind fun q23 =>
 (AV.asSl q23.1).bind fun l25 =>
 (go (.fn F.kch [l25.v]) q23.2).bind fun q26 =>
 ((some q26.1).bind AV.asSl).bind fun l27 =>
 some (l27.v, q26.2))) := (kc _ h).trans (by kernel_rfl)
theorem k8d (a1 : Sl) (a2 : Int) (h : AH) : go (.fn F.kem [a1.v, .int .i64 a2]) h =
 (go (.fn F.kbf [a1.v]) h).bind fun q3 =>
 ((some q3.1).bind AV.asBool).bind fun b4 =>
 cond (!b4) (
 some (.bool false, q3.2)) (
 cond (decide (a2 < 0)) (
 some (.bool false, q3.2)) (
 cond (decide ((IntKind.wrap .i64 (Int.tdiv a2 64)) ≥ (a1.len : Int))) (
 some (.bool false, q3.2)) (
 (idx a1.ref a1.len (IntKind.wrap .i64 (Int.tdiv a2 64)) 1).bind fun r5 =>
 ((q3.2.cell r5).bind (AV.asInt .u64)).bind fun n6 =>
 go (.pt F.kem Td.kmp [(1, .int .i64 a2), (6, .int .u64 n6), (7, .int .i64 0)]) q3.2))) := (kc _ h).trans (by kernel_rfl)
theorem ku3 (a1 : Sl) (a2 : Option Ref) (a3 : Int) (a4 : Int) (h : AH) : go (.pt F.kcy Td.kgx [(0, a1.v), (1, .func (.func F.kct) [] [.ptr a2]), (7, .int .i64 a3), (8, .int .i64 a4)]) h =
 cond (decide (a4 < a3)) (
 (idx a1.ref a1.len a4 1).bind fun r5 =>
 ((h.cell r5).bind AV.asSl).bind fun l6 =>
 (go (.fn F.kct [l6.v, .ptr a2]) h).bind fun q7 =>
 ((some q7.1).bind AV.asBool).bind fun b8 =>
 cond b8 (
 some (.int .i64 a4, q7.2)) (
 go (.pt F.kcy Td.kgx [(0, a1.v), (1, .func (.func F.kct) [] [.ptr a2]), (7, .int .i64 a3), (8, .int .i64 (IntKind.wrap .i64 (a4 + 1)))]) q7.2)) (
 some (.int .i64 (-1), h)) := (kc _ h).trans (by kernel_rfl)
theorem k5g (a1 : Sl) (a2 : Sl) (a3 : Int) (a4 : Int) (a5 : Int) (a6 : Int) (h : AH) : go (.pt F.kcv Td.kk1 [(0, a1.v), (1, a2.v), (2, .int .u64 a3), (6, .int .u64 a4), (12, .int .i64 a5), (13, .int .i64 a6)]) h =
 cond (decide (a6 < a5)) (
 cond (decide (a6 < (a2.len : Int))) (
 (idx a2.ref a2.len a6 1).bind fun r7 =>
 ((h.cell r7).bind (AV.asInt .u64)).bind fun n8 =>
 (go (.fn F.kju [.int .u64 n8, .int .u64 a3]) h).bind fun q9 =>
 (AV.asTup2 q9.1).bind fun p10 =>
 ((some p10.1).bind (AV.asInt .u64)).bind fun n11 =>
 ((some p10.2).bind (AV.asInt .u64)).bind fun n12 =>
 ((prim "math/bits.Add64" [.int .u64 n12, .int .u64 a4, .int .u64 0]).map fun v => (v, q9.2)).bind fun q13 =>
 (AV.asTup2 q13.1).bind fun p14 =>
 ((some p14.1).bind (AV.asInt .u64)).bind fun n15 =>
 ((some p14.2).bind (AV.asInt .u64)).bind fun n16 =>
 (idx a1.ref a1.len a6 1).bind fun r17 =>
 ((q13.2.cell r17).bind (AV.asInt .u64)).bind fun n18 =>
 ((prim "math/bits.Add64" [.int .u64 n18, .int .u64 n15, .int .u64 0]).map fun v => (v, q13.2)).bind fun q19 =>
 (AV.asTup2 q19.1).bind fun p20 =>
 ((some p20.1).bind (AV.asInt .u64)).bind fun n21 =>
 ((some p20.2).bind (AV.asInt .u64)).bind fun n22 =>
 (idx a1.ref a1.len a6 1).bind fun r23 =>
 (q19.2.puts r23 [.int .u64 n21]).bind fun h24 =>
 go (.pt F.kcv Td.kk1 [(0, a1.v), (1, a2.v), (2, .int .u64 a3), (6, .int .u64 (IntKind.wrap .u64 ((IntKind.wrap .u64 (n11 + n16)) + n22))), (12, .int .i64 a5), (13, .int .i64 (IntKind.wrap .i64 (a6 + 1)))]) h24) (
 ((prim "math/bits.Add64" [.int .u64 0, .int .u64 a4, .int .u64 0]).map fun v => (v, h)).bind fun q25 =>
 (AV.asTup2 q25.1).bind fun p26 =>
 ((some p26.1).bind (AV.asInt .u64)).bind fun n27 =>
 ((some p26.2).bind (AV.asInt .u64)).bind fun n28 =>
 (idx a1.ref a1.len a6 1).bind fun r29 =>
 ((q25.2.cell r29).bind (AV.asInt .u64)).bind fun n30 =>
 ((prim "math/bits.Add64" [.int .u64 n30, .int .u64 n27, .int .u64 0]).map fun v => (v, q25.2)).bind fun q31 =>
 (AV.asTup2 q31.1).bind fun p32 =>
 ((some p32.1).bind (AV.asInt .u64)).bind fun n33 =>
 ((some p32.2).bind (AV.asInt .u64)).bind fun n34 =>
 (idx a1.ref a1.len a6 1).bind fun r35 =>
 (q31.2.puts r35 [.int .u64 n33]).bind fun h36 =>
 go (.pt F.kcv Td.kk1 [(0, a1.v), (1, a2.v), (2, .int .u64 a3), (6, .int .u64 (IntKind.wrap .u64 ((IntKind.wrap .u64 (0 + n28)) + n34))), (12, .int .i64 a5), (13, .int .i64 (IntKind.wrap .i64 (a6 + 1)))]) h36)) (
 some (.tup [], h)) := (kc _ h).trans (by kernel_rfl)
theorem kuk (a1 : Sl) (a2 : Int) (h : AH) : go (.pt F.kgp Td.kmb [(0, a1.v), (3, .int .i64 a2)]) h =
 cond (decide (a2 > 0)) (
 (idx a1.ref a1.len (IntKind.wrap .i64 (a2 - 1)) 1).bind fun r3 =>
 ((h.cell r3).bind (AV.asInt .u64)).bind fun n4 =>
 cond (decide (n4 = 0)) (
 go (.pt F.kgp Td.kmb [(0, a1.v), (3, .int .i64 (IntKind.wrap .i64 (a2 - 1)))]) h) (
 (cutSl a1 0 a2 1).bind fun l5 =>
 some (l5.v, h))) (
 (cutSl a1 0 a2 1).bind fun l6 =>
 some (l6.v, h)) := (kc _ h).trans (by kernel_rfl)
theorem k28 (a1 : Int) (a2 : Int) (a3 : Int) (h : AH) : go (.pt F.kbk Td.kq2 [(0, .int .u64 a1), (1, .int .u64 a2), (2, .int .u64 a3)]) h =
 cond (decide (a3 ≤ a1)) (
 (h.cell (.old ⟨1, 0, none⟩)).bind fun v4 =>
 none) (
 cond (decide (a1 = 0)) (
 cond (decide (a3 = 0)) none (
 cond (decide (a3 = 0)) none (
 some (.tup [.int .u64 (IntKind.wrap .u64 (Int.tdiv a2 a3)), .int .u64 (Int.tmod a2 a3)], h)))) (
 (go (.fn F.kli [.int .u64 a3]) h).bind fun q5 =>
 ((some q5.1).bind (AV.asInt .i64)).bind fun n6 =>
 cond (decide ((IntKind.wrap .u64 n6) < 0)) none (
 cond (decide ((IntKind.wrap .u64 n6) < 0)) none (
 cond (decide ((IntKind.wrap .u64 (64 - (IntKind.wrap .u64 n6))) < 0)) none (
 cond (decide ((IntKind.wrap .u64 n6) < 0)) none (
 cond (decide ((ishr .u64 (ishl .u64 a3 (IntKind.wrap .u64 n6)) 32) = 0)) none (
 go (.pt F.kbk Td.kkw [(2, .int .u64 (ishl .u64 a3 (IntKind.wrap .u64 n6))), (8, .int .u64 (IntKind.wrap .u64 n6)), (9, .int .u64 (ishr .u64 (ishl .u64 a3 (IntKind.wrap .u64 n6)) 32)), (10, .int .u64 (iand .u64 (ishl .u64 a3 (IntKind.wrap .u64 n6)) 4294967295)), (11, .int .u64 (ior .u64 (ishl .u64 a1 (IntKind.wrap .u64 n6)) (ishr .u64 a2 (IntKind.wrap .u64 (64 - (IntKind.wrap .u64 n6)))))), (13, .int .u64 (ishr .u64 (ishl .u64 a2 (IntKind.wrap .u64 n6)) 32)), (14, .int .u64 (iand .u64 (ishl .u64 a2 (IntKind.wrap .u64 n6)) 4294967295)), (15, .int .u64 (IntKind.wrap .u64 (Int.tdiv (ior .u64 (ishl .u64 a1 (IntKind.wrap .u64 n6)) (ishr .u64 a2 (IntKind.wrap .u64 (64 - (IntKind.wrap .u64 n6))))) (ishr .u64 (ishl .u64 a3 (IntKind.wrap .u64 n6)) 32)))), (16, .int .u64 (IntKind.wrap .u64 ((ior .u64 (ishl .u64 a1 (IntKind.wrap .u64 n6)) (ishr .u64 a2 (IntKind.wrap .u64 (64 - (IntKind.wrap .u64 n6))))) - (IntKind.wrap .u64 ((IntKind.wrap .u64 (Int.tdiv (ior .u64 (ishl .u64 a1 (IntKind.wrap .u64 n6)) (ishr .u64 a2 (IntKind.wrap .u64 (64 - (IntKind.wrap .u64 n6))))) (ishr .u64 (ishl .u64 a3 (IntKind.wrap .u64 n6)) 32))) * (ishr .u64 (ishl .u64 a3 (IntKind.wrap .u64 n6)) 32))))))]) q5.2))))))) := (kc _ h).trans (by kernel_rfl)
theorem kyx (a1 : Int) (a2 : Int) (a3 : Int) (a4 : Int) (a5 : Int) (h : AH) : go (.pt F.keg Td.kku [(2, .int .u64 a1), (3, .int .u64 a2), (4, .int .u64 a3), (11, .int .u64 a4), (12, .int .u64 a5)]) h =
 (go (.fn F.kju [.int .u64 a4, .int .u64 a3]) h).bind fun q6 =>
 (AV.asTup2 q6.1).bind fun p7 =>
 ((some p7.1).bind (AV.asInt .u64)).bind fun n8 =>
 ((some p7.2).bind (AV.asInt .u64)).bind fun n9 =>
 cond (decide (n8 < a5)) (
 some (.int .u64 a4, q6.2)) (
 cond (decide (n8 = a5)) (
 cond (decide (n9 ≤ a1)) (
 some (.int .u64 a4, q6.2)) (
 cond (decide ((IntKind.wrap .u64 (a5 + a2)) < a5)) (
 some (.int .u64 (IntKind.wrap .u64 (a4 - 1)), q6.2)) (
 go (.pt F.keg Td.kku [(2, .int .u64 a1), (3, .int .u64 a2), (4, .int .u64 a3), (11, .int .u64 (IntKind.wrap .u64 (a4 - 1))), (12, .int .u64 (IntKind.wrap .u64 (a5 + a2)))]) q6.2))) (
 cond (decide ((IntKind.wrap .u64 (a5 + a2)) < a5)) (
 some (.int .u64 (IntKind.wrap .u64 (a4 - 1)), q6.2)) (
 go (.pt F.keg Td.kku [(2, .int .u64 a1), (3, .int .u64 a2), (4, .int .u64 a3), (11, .int .u64 (IntKind.wrap .u64 (a4 - 1))), (12, .int .u64 (IntKind.wrap .u64 (a5 + a2)))]) q6.2))) := (kc _ h).trans (by kernel_rfl)
theorem k5y (a1 : Sl) (h : AH) : go (.fn F.kdk [a1.v]) h =
 (go (.fn F.kcf [a1.v]) h).bind fun q2 =>
 ((some q2.1).bind AV.asBool).bind fun b3 =>
 some (.bool (!b3), q2.2) := (kc _ h).trans (by kernel_rfl)
theorem kt8 (a1 : Sl) (a2 : Int) (a3 : Int) (h : AH) : go (.pt F.kf3 Td.khm [(0, a1.v), (1, .func (.func F.kdr) [] []), (7, .int .i64 a2), (8, .int .i64 a3)]) h =
 cond (decide (a3 < a2)) (
 (idx a1.ref a1.len a3 1).bind fun r4 =>
 ((h.cell r4).bind (AV.asInt .u8)).bind fun n5 =>
 (go (.fn F.kdr [.int .u8 n5]) h).bind fun q6 =>
 ((some q6.1).bind AV.asBool).bind fun b7 =>
 cond b7 (
 some (.int .i64 a3, q6.2)) (
 go (.pt F.kf3 Td.khm [(0, a1.v), (1, .func (.func F.kdr) [] []), (7, .int .i64 a2), (8, .int .i64 (IntKind.wrap .i64 (a3 + 1)))]) q6.2)) (
 some (.int .i64 (-1), h)) := (kc _ h).trans (by kernel_rfl)
theorem kvp (a1 : Sl) (a2 : Sl) (a3 : Int) (a4 : Int) (a5 : Int) (h : AH) : go (.pt F.kb1 Td.kjb [(0, a1.v), (4, a2.v), (5, .int .i64 a3), (6, .int .u64 a4), (7, .int .i64 a5)]) h =
 cond (decide (a5 ≥ 0)) (
 cond (decide ((IntKind.wrap .i64 (a3 + a5)) < (a1.len : Int))) (
 (idx a1.ref a1.len (IntKind.wrap .i64 (a3 + a5)) 1).bind fun r6 =>
 ((h.cell r6).bind (AV.asInt .u64)).bind fun n7 =>
 go (.pt F.kb1 Td.kjb [(0, a1.v), (4, a2.v), (5, .int .i64 a3), (6, .int .u64 (IntKind.wrap .u64 ((IntKind.wrap .u64 (a4 * 65536)) + n7))), (7, .int .i64 (IntKind.wrap .i64 (a5 - 1)))]) h) (
 go (.pt F.kb1 Td.kjb [(0, a1.v), (4, a2.v), (5, .int .i64 a3), (6, .int .u64 (IntKind.wrap .u64 (a4 * 65536))), (7, .int .i64 (IntKind.wrap .i64 (a5 - 1)))]) h)) (
 newK h (.cells [.int .u64 a4] T.ke) fun h8r h8 =>
 (ky Pg T.ke ((⟨some h8r, 1, .is 1⟩ : Sl).v) h8).bind fun p10 =>
 (ko Pg a2 p10.1 p10.2 T.ke 1 h8).bind fun q9 =>
 (AV.asSl q9.1).bind fun l11 =>
 go (.pt F.kb1 Td.kik [(0, a1.v), (4, l11.v), (5, .int .i64 (IntKind.wrap .i64 (a3 + 4)))]) q9.2) := (kc _ h).trans (by kernel_rfl)
theorem k6f (a1 : Sl) (a2 : Sl) (a3 : Sl) (a4 : Sl) (a5 : Int) (a6 : Int) (a7 : Int) (h : AH) : go (.pt F.kcb Td.kk6 [(0, a1.v), (1, a2.v), (6, a3.v), (7, a4.v), (8, .int .i64 a5), (9, .int .u64 a6), (10, .int .u64 a7)]) h =
 cond (decide (a6 < a7)) (
 newK h (.cells [.int .u64 (IntKind.wrap .u64 (Int.tdiv (IntKind.wrap .u64 ((IntKind.wrap .u64 (a6 + a7)) + 1)) 2))] T.ke) fun h8r h8 =>
 (go (.fn F.kb7 [a2.v, (⟨some h8r, 1, .is 1⟩ : Sl).v]) h8).bind fun q9 =>
 ((some q9.1).bind AV.asSl).bind fun l10 =>
 (go (.fn F.keo [l10.v, a4.v]) q9.2).bind fun q11 =>
 ((some q11.1).bind (AV.asInt .i64)).bind fun n12 =>
 cond (decide (n12 ≤ 0)) (
 go (.pt F.kcb Td.kk6 [(0, a1.v), (1, a2.v), (6, a3.v), (7, a4.v), (8, .int .i64 a5), (9, .int .u64 (IntKind.wrap .u64 (Int.tdiv (IntKind.wrap .u64 ((IntKind.wrap .u64 (a6 + a7)) + 1)) 2))), (10, .int .u64 a7)]) q11.2) (
 go (.pt F.kcb Td.kk6 [(0, a1.v), (1, a2.v), (6, a3.v), (7, a4.v), (8, .int .i64 a5), (9, .int .u64 a6), (10, .int .u64 (IntKind.wrap .u64 ((IntKind.wrap .u64 (Int.tdiv (IntKind.wrap .u64 ((IntKind.wrap .u64 (a6 + a7)) + 1)) 2)) - 1)))]) q11.2)) (
 (idx a3.ref a3.len a5 1).bind fun r13 =>
 (h.puts r13 [.int .u64 a6]).bind fun h14 =>
 newK h14 (.cells [.int .u64 a6] T.ke) fun h15r h15 =>
 (go (.fn F.kb7 [a2.v, (⟨some h15r, 1, .is 1⟩ : Sl).v]) h15).bind fun q16 =>
 ((some q16.1).bind AV.asSl).bind fun l17 =>
 (go (.fn F.kek [a4.v, l17.v]) q16.2).bind fun q18 =>
 ((some q18.1).bind AV.asSl).bind fun l19 =>
 go (.pt F.kcb Td.knp [(0, a1.v), (1, a2.v), (6, a3.v), (7, l19.v), (8, .int .i64 (IntKind.wrap .i64 (a5 - 1)))]) q18.2) := (kc _ h).trans (by kernel_rfl)
theorem kbbz (a1 : Sl) (a2 : Sl) (a3 : Sl) (a4 : Int) (a5 : Int) (a6 : Int) (h : AH) : go (.pt F.kb7 Td.kll [(0, a1.v), (1, a2.v), (5, a3.v), (6, .int .i64 a4), (7, .int .u64 a5), (8, .int .i64 a6)]) h =
 cond (decide (a6 < (a2.len : Int))) (
 (idx a3.ref a3.len (IntKind.wrap .i64 (a4 + a6)) 1).bind fun r7 =>
 ((h.cell r7).bind (AV.asInt .u64)).bind fun n8 =>
 (idx a1.ref a1.len a4 1).bind fun r9 =>
 ((h.cell r9).bind (AV.asInt .u64)).bind fun n10 =>
 (idx a2.ref a2.len a6 1).bind fun r11 =>
 ((h.cell r11).bind (AV.asInt .u64)).bind fun n12 =>
 (idx a3.ref a3.len (IntKind.wrap .i64 (a4 + a6)) 1).bind fun r13 =>
 (h.puts r13 [.int .u64 (Int.tmod (IntKind.wrap .u64 ((IntKind.wrap .u64 (n8 + (IntKind.wrap .u64 (n10 * n12)))) + a5)) 65536)]).bind fun h14 =>
 go (.pt F.kb7 Td.kll [(0, a1.v), (1, a2.v), (5, a3.v), (6, .int .i64 a4), (7, .int .u64 (IntKind.wrap .u64 (Int.tdiv (IntKind.wrap .u64 ((IntKind.wrap .u64 (n8 + (IntKind.wrap .u64 (n10 * n12)))) + a5)) 65536))), (8, .int .i64 (IntKind.wrap .i64 (a6 + 1)))]) h14) (
 (idx a3.ref a3.len (IntKind.wrap .i64 (a4 + (a2.len : Int))) 1).bind fun r15 =>
 (h.puts r15 [.int .u64 a5]).bind fun h16 =>
 go (.pt F.kb7 Td.knr [(0, a1.v), (1, a2.v), (5, a3.v), (6, .int .i64 (IntKind.wrap .i64 (a4 + 1)))]) h16) := (kc _ h).trans (by kernel_rfl)
theorem k2c (a1 : Int) (a2 : Int) (a3 : Int) (h : AH) : go (.pt F.kem Td.kmp [(1, .int .i64 a1), (6, .int .u64 a2), (7, .int .i64 a3)]) h =
 cond (decide (a3 < (Int.tmod a1 64))) (
 go (.pt F.kem Td.kmp [(1, .int .i64 a1), (6, .int .u64 (IntKind.wrap .u64 (Int.tdiv a2 2))), (7, .int .i64 (IntKind.wrap .i64 (a3 + 1)))]) h) (
 some (.bool (decide ((Int.tmod a2 2) = 1)), h)) := (kc _ h).trans (by kernel_rfl)
theorem k2u (a1 : Sl) (a2 : Option Ref) (h : AH) : go (.fn F.kct [a1.v, .ptr a2]) h =
 (go (.fn F.kcf [a1.v]) h).bind fun q3 =>
 ((some q3.1).bind AV.asBool).bind fun b4 =>
 cond (!b4) (
 some (.bool true, q3.2)) (
 a2.bind fun r5 =>
 ((q3.2.cell r5).bind AV.asPtr).bind fun p6 =>
 p6.bind fun r7 =>
 ((q3.2.cell (r7.add 0)).bind AV.asSl).bind fun l8 =>
 (go (.fn F.kdj [a1.v, l8.v]) q3.2).bind fun q9 =>
 ((some q9.1).bind (AV.asInt .i64)).bind fun n10 =>
 some (.bool (decide (n10 ≥ 0)), q9.2)) := (kc _ h).trans (by kernel_rfl)
theorem k7e (a1 : Int) (a2 : Int) (a3 : Int) (a4 : Int) (a5 : Int) (a6 : Int) (a7 : Int) (a8 : Int) (a9 : Int) (h : AH) : go (.pt F.kbk Td.kkw [(2, .int .u64 a1), (8, .int .u64 a2), (9, .int .u64 a3), (10, .int .u64 a4), (11, .int .u64 a5), (13, .int .u64 a6), (14, .int .u64 a7), (15, .int .u64 a8), (16, .int .u64 a9)]) h =
 cond (decide (a8 ≥ 4294967296)) (
 cond (decide ((IntKind.wrap .u64 (a9 + a3)) ≥ 4294967296)) (
 cond (decide (a3 = 0)) none (
 go (.pt F.kbk Td.khi [(2, .int .u64 a1), (8, .int .u64 a2), (9, .int .u64 a3), (10, .int .u64 a4), (14, .int .u64 a7), (15, .int .u64 (IntKind.wrap .u64 (a8 - 1))), (16, .int .u64 (IntKind.wrap .u64 ((IntKind.wrap .u64 ((IntKind.wrap .u64 ((IntKind.wrap .u64 (a5 * 4294967296)) + a6)) - (IntKind.wrap .u64 ((IntKind.wrap .u64 (a8 - 1)) * a1)))) - (IntKind.wrap .u64 ((IntKind.wrap .u64 (Int.tdiv (IntKind.wrap .u64 ((IntKind.wrap .u64 ((IntKind.wrap .u64 (a5 * 4294967296)) + a6)) - (IntKind.wrap .u64 ((IntKind.wrap .u64 (a8 - 1)) * a1)))) a3)) * a3))))), (17, .int .u64 (IntKind.wrap .u64 ((IntKind.wrap .u64 ((IntKind.wrap .u64 (a5 * 4294967296)) + a6)) - (IntKind.wrap .u64 ((IntKind.wrap .u64 (a8 - 1)) * a1))))), (18, .int .u64 (IntKind.wrap .u64 (Int.tdiv (IntKind.wrap .u64 ((IntKind.wrap .u64 ((IntKind.wrap .u64 (a5 * 4294967296)) + a6)) - (IntKind.wrap .u64 ((IntKind.wrap .u64 (a8 - 1)) * a1)))) a3)))]) h)) (
 go (.pt F.kbk Td.kkw [(2, .int .u64 a1), (8, .int .u64 a2), (9, .int .u64 a3), (10, .int .u64 a4), (11, .int .u64 a5), (13, .int .u64 a6), (14, .int .u64 a7), (15, .int .u64 (IntKind.wrap .u64 (a8 - 1))), (16, .int .u64 (IntKind.wrap .u64 (a9 + a3)))]) h)) (
 cond (decide ((IntKind.wrap .u64 (a8 * a4)) > (IntKind.wrap .u64 ((IntKind.wrap .u64 (4294967296 * a9)) + a6)))) (
 cond (decide ((IntKind.wrap .u64 (a9 + a3)) ≥ 4294967296)) (
 cond (decide (a3 = 0)) none (
 go (.pt F.kbk Td.khi [(2, .int .u64 a1), (8, .int .u64 a2), (9, .int .u64 a3), (10, .int .u64 a4), (14, .int .u64 a7), (15, .int .u64 (IntKind.wrap .u64 (a8 - 1))), (16, .int .u64 (IntKind.wrap .u64 ((IntKind.wrap .u64 ((IntKind.wrap .u64 ((IntKind.wrap .u64 (a5 * 4294967296)) + a6)) - (IntKind.wrap .u64 ((IntKind.wrap .u64 (a8 - 1)) * a1)))) - (IntKind.wrap .u64 ((IntKind.wrap .u64 (Int.tdiv (IntKind.wrap .u64 ((IntKind.wrap .u64 ((IntKind.wrap .u64 (a5 * 4294967296)) + a6)) - (IntKind.wrap .u64 ((IntKind.wrap .u64 (a8 - 1)) * a1)))) a3)) * a3))))), (17, .int .u64 (IntKind.wrap .u64 ((IntKind.wrap .u64 ((IntKind.wrap .u64 (a5 * 4294967296)) + a6)) - (IntKind.wrap .u64 ((IntKind.wrap .u64 (a8 - 1)) * a1))))), (18, .int .u64 (IntKind.wrap .u64 (Int.tdiv (IntKind.wrap .u64 ((IntKind.wrap .u64 ((IntKind.wrap .u64 (a5 * 4294967296)) + a6)) - (IntKind.wrap .u64 ((IntKind.wrap .u64 (a8 - 1)) * a1)))) a3)))]) h)) (
 go (.pt F.kbk Td.kkw [(2, .int .u64 a1), (8, .int .u64 a2), (9, .int .u64 a3), (10, .int .u64 a4), (11, .int .u64 a5), (13, .int .u64 a6), (14, .int .u64 a7), (15, .int .u64 (IntKind.wrap .u64 (a8 - 1))), (16, .int .u64 (IntKind.wrap .u64 (a9 + a3)))]) h)) (
 cond (decide (a3 = 0)) none (
 go (.pt F.kbk Td.khi [(2, .int .u64 a1), (8, .int .u64 a2), (9, .int .u64 a3), (10, .int .u64 a4), (14, .int .u64 a7), (15, .int .u64 a8), (16, .int .u64 (IntKind.wrap .u64 ((IntKind.wrap .u64 ((IntKind.wrap .u64 ((IntKind.wrap .u64 (a5 * 4294967296)) + a6)) - (IntKind.wrap .u64 (a8 * a1)))) - (IntKind.wrap .u64 ((IntKind.wrap .u64 (Int.tdiv (IntKind.wrap .u64 ((IntKind.wrap .u64 ((IntKind.wrap .u64 (a5 * 4294967296)) + a6)) - (IntKind.wrap .u64 (a8 * a1)))) a3)) * a3))))), (17, .int .u64 (IntKind.wrap .u64 ((IntKind.wrap .u64 ((IntKind.wrap .u64 (a5 * 4294967296)) + a6)) - (IntKind.wrap .u64 (a8 * a1))))), (18, .int .u64 (IntKind.wrap .u64 (Int.tdiv (IntKind.wrap .u64 ((IntKind.wrap .u64 ((IntKind.wrap .u64 (a5 * 4294967296)) + a6)) - (IntKind.wrap .u64 (a8 * a1)))) a3)))]) h))) := (kc _ h).trans (by kernel_rfl)
theorem k39 (a1 : Int) (h : AH) : go (.fn F.kdr [.int .u8 a1]) h =
 some (.bool (!decide (a1 = 0)), h) := (kc _ h).trans (by kernel_rfl)
theorem kyo (a1 : Int) (a2 : Int) (a3 : Int) (a4 : Int) (a5 : Int) (a6 : Int) (a7 : Int) (a8 : Int) (a9 : Int) (h : AH) : go (.pt F.kbk Td.khi [(2, .int .u64 a1), (8, .int .u64 a2), (9, .int .u64 a3), (10, .int .u64 a4), (14, .int .u64 a5), (15, .int .u64 a6), (16, .int .u64 a7), (17, .int .u64 a8), (18, .int .u64 a9)]) h =
 cond (decide (a9 ≥ 4294967296)) (
 cond (decide ((IntKind.wrap .u64 (a7 + a3)) ≥ 4294967296)) (
 cond (decide (a2 < 0)) none (
 some (.tup [.int .u64 (IntKind.wrap .u64 ((IntKind.wrap .u64 (a6 * 4294967296)) + (IntKind.wrap .u64 (a9 - 1)))), .int .u64 (ishr .u64 (IntKind.wrap .u64 ((IntKind.wrap .u64 ((IntKind.wrap .u64 (a8 * 4294967296)) + a5)) - (IntKind.wrap .u64 ((IntKind.wrap .u64 (a9 - 1)) * a1)))) a2)], h))) (
 go (.pt F.kbk Td.khi [(2, .int .u64 a1), (8, .int .u64 a2), (9, .int .u64 a3), (10, .int .u64 a4), (14, .int .u64 a5), (15, .int .u64 a6), (16, .int .u64 (IntKind.wrap .u64 (a7 + a3))), (17, .int .u64 a8), (18, .int .u64 (IntKind.wrap .u64 (a9 - 1)))]) h)) (
 cond (decide ((IntKind.wrap .u64 (a9 * a4)) > (IntKind.wrap .u64 ((IntKind.wrap .u64 (4294967296 * a7)) + a5)))) (
 cond (decide ((IntKind.wrap .u64 (a7 + a3)) ≥ 4294967296)) (
 cond (decide (a2 < 0)) none (
 some (.tup [.int .u64 (IntKind.wrap .u64 ((IntKind.wrap .u64 (a6 * 4294967296)) + (IntKind.wrap .u64 (a9 - 1)))), .int .u64 (ishr .u64 (IntKind.wrap .u64 ((IntKind.wrap .u64 ((IntKind.wrap .u64 (a8 * 4294967296)) + a5)) - (IntKind.wrap .u64 ((IntKind.wrap .u64 (a9 - 1)) * a1)))) a2)], h))) (
 go (.pt F.kbk Td.khi [(2, .int .u64 a1), (8, .int .u64 a2), (9, .int .u64 a3), (10, .int .u64 a4), (14, .int .u64 a5), (15, .int .u64 a6), (16, .int .u64 (IntKind.wrap .u64 (a7 + a3))), (17, .int .u64 a8), (18, .int .u64 (IntKind.wrap .u64 (a9 - 1)))]) h)) (
 cond (decide (a2 < 0)) none (
 some (.tup [.int .u64 (IntKind.wrap .u64 ((IntKind.wrap .u64 (a6 * 4294967296)) + a9)), .int .u64 (ishr .u64 (IntKind.wrap .u64 ((IntKind.wrap .u64 ((IntKind.wrap .u64 (a8 * 4294967296)) + a5)) - (IntKind.wrap .u64 (a9 * a1)))) a2)], h)))) := (kc _ h).trans (by kernel_rfl)
end Go.Ab

/- squeezed -/
set_option linter.unusedVariables false
set_option linter.unusedSimpArgs false
set_option maxRecDepth 10000
namespace Go.Ab
open Go.Proofs Go.Num
@[reducible] def B : Nat := 18446744073709551616
theorem B2 : 2 ≤ B := by decide
def rt (xs : List Nat) : Bool := decide (xs.length ≤ 64) && (decide (xs.length = 0) || !decide (xs.getD (xs.length - 1) 0 = 0))
theorem kbe {xs : List Nat} {i : Nat} (h : i < xs.length) : xs.getD i 0 = xs[i] := by simp [List.getD, h]
theorem rt_iff {xs : List Nat} : rt xs = true ↔ xs.length ≤ 64 ∧ Trim xs := by
 unfold rt Trim
 simp only [Bool.and_eq_true, decide_eq_true_eq, Bool.or_eq_true, Bool.not_eq_true', decide_eq_false_iff_not, List.length_eq_zero_iff]
 refine and_congr_right fun _ => ?_
 constructor
 ·rintro (h | h) hne
  ·exact absurd h hne
  ·rwa [List.getLast_eq_getElem, ← kbe]
 ·intro h
  by_cases he : xs = []
  ·exact .inl he
  ·right
   have := h he
   rwa [List.getLast_eq_getElem, ← kbe] at this
theorem Nats.last {h : AH} {s : Sl} {xs : List Nat} (n : Nats h s xs) (hx : xs.length ≠ 0) : ∃ r, idx s.ref s.len (IntKind.wrap .i64 ((s.len : Int) - 1)) 1 = some r ∧ h.cell r = some (.int .u64 ((xs.getD (xs.length - 1) 0 : Nat) : Int)) := by
 obtain ⟨k, hk⟩ : ∃ k, xs.length = k + 1 := ⟨xs.length - 1, by omega⟩
 have hs := n.short
 obtain ⟨r, e1, e2⟩ := n.at (i := k) (by omega)
 rw [n.len, hk] at e1 ⊢
 rw [ki7 (by omega)]
 refine ⟨r, e1, ?_⟩
 rw [e2, show k + 1 - 1 = k from rfl, kbe (by omega)]
theorem kc4 {h : AH} {s : Sl} {xs : List Nat} (n : Nats h s xs) : go (.fn F.kcf [s.v]) h = some (.bool (rt xs), h) := by
 rw [kbbh]
 have hl := n.len
 refine kla (fun h1 => ?_) (fun h1 => ?_)
 ·have h1 : xs.length ≤ 64 := by rw [decide_eq_true_eq] at h1; omega
  refine kla (fun h2 => ?_) (fun h2 => ?_)
  ·have h2 : xs.length = 0 := by rw [decide_eq_true_eq] at h2; omega
   simp [rt, h2]
  ·have h2 : xs.length ≠ 0 := by rw [decide_eq_false_iff_not] at h2; omega
   obtain ⟨r, e1, e2⟩ := n.last h2
   simp [e1, e2, rt, h1]
   cases xs
   ·simp at h2
   ·simp
 ·have h1 : ¬ xs.length ≤ 64 := by rw [decide_eq_false_iff_not] at h1; omega
  simp [rt, h1]
theorem kbr {h : AH} {s : Sl} {xs : List Nat} (n : Nats h s xs) : go (.fn F.kbf [s.v]) h = some (.bool (rt xs), h) := by
 rw [k2a]
 have hl := n.len
 refine kla (fun h1 => ?_) (fun h1 => ?_)
 ·have h1 : xs.length ≤ 64 := by rw [decide_eq_true_eq] at h1; omega
  refine kla (fun h2 => ?_) (fun h2 => ?_)
  ·have h2 : xs.length = 0 := by rw [decide_eq_true_eq] at h2; omega
   simp [rt, h2]
  ·have h2 : xs.length ≠ 0 := by rw [decide_eq_false_iff_not] at h2; omega
   obtain ⟨r, e1, e2⟩ := n.last h2
   simp [e1, e2, rt, h1]
   cases xs
   ·simp at h2
   ·simp
 ·have h1 : ¬ xs.length ≤ 64 := by rw [decide_eq_false_iff_not] at h1; omega
  simp [rt, h1]
theorem kx1 {h : AH} {s : Sl} {xs : List Nat} (n : Nats h s xs) : ∀ (k : Nat), k ≤ xs.length → (∀ i, k ≤ i → (hi : i < xs.length) → xs[i] = 0) →
  ∃ s', go (.pt F.kbc Td.kk2 [(0, s.v), (3, .int .i64 (k : Int))]) h = some (s'.v, h) ∧ Nats h s' (digs B (num B xs)) ∧ ∀ h0, Own h0 s → Own h0 s'
 | 0, hk, hz => by
  rw [klr]
  obtain ⟨s', e1, e2, e3⟩ := n.cut (l := 0) (n := 0) (Nat.le_refl _) hk
  have := kie B2 n.lt hz hk (.inl rfl)
  simp at e1
  simp only [Int.natCast_zero, gt_iff_lt, Int.lt_irrefl, decide_false, cond_false, e1, Option.bind_some]
  refine ⟨s', rfl, ?_, e3⟩
  rw [← this]
  simpa using e2
 | k + 1, hk, hz => by
  rw [klr]
  obtain ⟨r, e1, e2⟩ := n.at (i := k) (by omega)
  have hs := n.short
  rw [ki7 (by omega)]
  rw [show (decide (((k + 1 : Nat) : Int) > 0)) = true from by rw [decide_eq_true_eq]; omega]
  simp only [cond_true, e1, e2, Option.bind_some, kb]
  by_cases hx : xs[k] = 0
  ·rw [hx, show (decide (((0 : Nat) : Int) = 0)) = true from rfl, cond_true]
   refine kx1 n k (by omega) fun i hi hil => ?_
   rcases Nat.lt_or_ge k i with h1 | h1
   ·exact hz i (by omega) hil
   ·have : i = k := by omega
    subst this
    exact hx
  ·obtain ⟨s', e3, e4, e5⟩ := n.cut (l := 0) (n := k + 1) (by omega) hk
   have ht := kie B2 n.lt hz hk (.inr ⟨by omega, by simpa using hx⟩)
   rw [show (decide (((xs[k] : Nat) : Int) = 0)) = false from by rw [decide_eq_false_iff_not]; omega]
   simp only [cond_false]
   rw [show cutSl s 0 ((k + 1 : Nat) : Int) 1 = some s' from e3]
   refine ⟨s', rfl, ?_, e5⟩
   rw [← ht]
   simpa using e4
theorem kc2 {h : AH} {s : Sl} {xs : List Nat} (n : Nats h s xs) : ∃ s', go (.fn F.kbc [s.v]) h = some (s'.v, h) ∧ Nats h s' (digs B (num B xs)) ∧ ∀ h0, Own h0 s → Own h0 s' := by
 rw [krz, n.len]
 exact kx1 n xs.length (Nat.le_refl _) fun i h1 h2 => by omega
end Go.Ab

/- squeezed -/
set_option linter.unusedVariables false
set_option linter.unusedSimpArgs false
set_option maxRecDepth 10000
namespace Go.Ab
open Go.Proofs Go.Num
theorem knh {n : Nat} (h : n ≤ 8796093022208) : growOk Pg n T.ke 1 = true := by
 unfold growOk
 rw [kvt, kb5]
 have h1 : n * 8 ≤ kw := by simp only [kw]; omega
 have h2 : n ≤ kw := by simp only [kw]; omega
 simp [h1, h2]
theorem kkh {h : AH} {s : Sl} {xs : List Nat} (n : Nats h s xs) (hl : xs.length ≤ 8796093022208) : ∃ s' h', go (.fn F.kgl [s.v]) h = some (s'.v, h') ∧ Nats h' s' xs ∧ Grow h h' ∧ Own h s' := by
 rw [kbbe]
 cases hr : s.ref with
 | none =>
  have : xs = [] := by
   cases xs with
   | nil => rfl
   | cons x xs =>
    obtain ⟨r, e1, _⟩ := n.cells.get 0 (u64 x) rfl
    rw [hr] at e1
    cases e1
  subst this
  exact ⟨_, _, rfl, Nats.nil h, Grow.refl h, Own.nil h⟩
 | some r =>
  simp only [Option.isNone_some, cond_false, kcr]
  have n1 := n.grow (Grow.push h (.cells [] T.ke))
  have c1 := n1.cells
  rw [← kh1] at c1
  rw [kgc c1, n.len]
  simp only [Option.bind_some]
  have own : ∀ (m : Nat) (c : Cap), Own h ⟨some (.new h.blks.size 0), m, c⟩ := fun m c r hr => by cases hr; exact ⟨_, _, rfl, Nat.le_refl _⟩
  cases xs with
  | nil =>
   obtain ⟨s', e1, e2, e3⟩ := krc (P := Pg) (elem := T.ke) (m := 1) (by omega) (Cells.of_has (n := 1) (m := 0) (AH.has_push h [] T.ke) rfl)
   simp only [List.map_nil, List.length_nil, e1, Option.bind_some, asSl_v]
   exact ⟨s', _, rfl, ⟨e2, by simp, by simp⟩, Grow.push _ _, e3 h (own 0 (.is 0))⟩
  | cons x xs =>
   rw [kfl (c := 0) rfl (by simp) (knh (by simpa using hl)) (Cells.of_has (n := 1) (m := 0) (AH.has_push h [] T.ke) rfl)]
   simp only [Option.bind_some, asSl_v]
   refine ⟨_, _, rfl, ⟨⟨rfl, by simp, fun i v hv => ⟨_, rfl, by rw [Ref.add_new, Nat.zero_add, AH.cell_push]; exact hv⟩⟩, n.lt, n.short⟩, (Grow.push _ _).trans (Grow.push _ _), fun r hr => ?_⟩
   cases hr
   exact ⟨_, _, rfl, by simp⟩
theorem k0n {h : AH} {x : Nat} (hx : x < B) : ∃ (s' : Sl) (h' : AH), go (.fn F.kjn [.int .u64 (x : Int)]) h = some (s'.v, h') ∧ Nats h' s' (digs B x) ∧ Grow h h' ∧ Own h s' := by
 rw [ky7]
 simp only [kcr]
 have n0 : Nats (h.push (.cells [u64 x] T.ke)) ⟨some (.new h.blks.size 0), 1, .is 1⟩ [x] := ⟨Cells.of_has (AH.has_push h [u64 x] T.ke) rfl, by simpa using hx, by simp⟩
 obtain ⟨s', e1, e2, e3⟩ := kc2 n0
 rw [e1]
 simp only [Option.bind_some, asSl_v]
 refine ⟨s', _, rfl, by simpa [num] using e2, Grow.push _ _, e3 h fun r hr => by cases hr; exact ⟨_, _, rfl, Nat.le_refl _⟩⟩
theorem k0d {h : AH} {x : Nat} (hx : x < B) : ∃ (s' : Sl) (h' : AH), go (.fn F.kgn [.int .u64 (x : Int)]) h = some (s'.v, h') ∧ Nats h' s' (digs B x) ∧ Grow h h' ∧ Own h s' := by
 rw [kzv]
 by_cases h0 : x = 0
 ·subst h0
  rw [kbl]
  exact ⟨_, _, rfl, Nats.nil h, Grow.refl h, Own.nil h⟩
 ·have hd : digs B x = [x] := by
   rw [kdh B2 h0, Nat.mod_eq_of_lt hx, Nat.div_eq_of_lt hx, kbl]
  rw [hd]
  rw [show decide ((x : Int) = 0) = false from by rw [decide_eq_false_iff_not]; omega]
  refine ⟨_, _, rfl, ⟨Cells.of_has (AH.has_push h [u64 x] T.ke) rfl, by simpa using hx, by simp⟩, Grow.push _ _, fun r hr => by cases hr; exact ⟨_, _, rfl, Nat.le_refl _⟩⟩
end Go.Ab

/- squeezed -/
set_option linter.unusedVariables false
set_option linter.unusedSimpArgs false
set_option maxRecDepth 10000
namespace Go.Ab
open Go.Proofs Go.Num
theorem kwh {h : AH} {s t : Sl} {xs : List Nat} (n : Nats h s xs) (m : Nats h t xs) : ∀ (k i : Nat), i + k = xs.length →
  go (.pt F.khj Td.kof [(0, s.v), (1, t.v), (5, .int .i64 (i : Int))]) h = some (.bool true, h)
 | 0, i, hi => by
  rw [kvq, n.len, show decide ((i : Int) < (xs.length : Int)) = false from by rw [decide_eq_false_iff_not]; omega]
  rfl
 | k + 1, i, hi => by
  have hs := n.short
  obtain ⟨r, e1, e2⟩ := n.at (i := i) (by omega)
  obtain ⟨q, e3, e4⟩ := m.at (i := i) (by omega)
  rw [kvq, show decide ((i : Int) < (s.len : Int)) = true from by rw [decide_eq_true_eq, n.len]; omega, cond_true, e1, e3]
  simp only [Option.bind_some, e2, e4, kb, decide_true, Bool.not_true, cond_false]
  rw [kq (by omega)]
  exact kwh n m k (i + 1) (by omega)
theorem kul {h : AH} {s t : Sl} {xs : List Nat} (n : Nats h s xs) (m : Nats h t xs) : go (.fn F.khj [s.v, t.v]) h = some (.bool true, h) := by
 rw [k3j, n.len, m.len]
 simp only [decide_true, Bool.not_true, cond_false]
 exact kwh n m xs.length 0 (by omega)
end Go.Ab

/- squeezed -/
set_option linter.unusedVariables false
set_option linter.unusedSimpArgs false
set_option maxRecDepth 10000
namespace Go.Ab
open Go.Proofs Go.Num
structure Rows (h : AH) (s : Sl) (rows : List (Sl × List Nat)) : Prop where
 cells : Cells h s 1 (rows.map fun p => p.1.v)
 each : ∀ p ∈ rows, Nats h p.1 p.2
 short : rows.length ≤ 9223372036854775807
theorem Rows.len {h : AH} {s : Sl} {rows : List (Sl × List Nat)} (n : Rows h s rows) : s.len = rows.length := by
 have := n.cells.len
 simpa using this
theorem Rows.at {h : AH} {s : Sl} {rows : List (Sl × List Nat)} (n : Rows h s rows) {i : Nat} (hi : i < rows.length) : ∃ r, idx s.ref s.len (i : Int) 1 = some r ∧ h.cell r = some (rows[i].1).v := by
 obtain ⟨r, e1, e2⟩ := n.cells.get i (rows[i].1).v (by simp [hi])
 refine ⟨r.add i, ?_, e2⟩
 rw [e1, kd5 _ _ _ _ (by omega) (by rw [n.len]; omega)]
 simp
theorem Rows.two {h : AH} {a b : Sl} {xs ys : List Nat} (n : Nats h a xs) (m : Nats h b ys) : Rows (h.push (.cells [a.v, b.v] T.kr)) ⟨some (.new h.blks.size 0), 2, .is 2⟩ [(a, xs), (b, ys)] := by
 refine ⟨Cells.of_has (AH.has_push _ _ _) rfl, fun p hp => ?_, by simp⟩
 have g := Grow.push h (.cells [a.v, b.v] T.kr)
 simp at hp
 rcases hp with rfl | rfl
 ·exact n.grow g
 ·exact m.grow g
theorem kbco {h : AH} {cs : List AV} (a : ArgT Pg h T.kr cs) : ∃ (s : Sl) (xs : List Nat), cs = [s.v] ∧ Nats h s xs := by
 rcases a.slice kyl with rfl | ⟨ad, len, cap, rfl, h1, h2, h3⟩
 ·exact ⟨⟨none, 0, .is 0⟩, [], rfl, Nats.nil h⟩
 ·rw [kh1] at h3
  have key : ∀ i, i < len → ∃ x : Nat, h.cell (.old (ad.add i)) = some (u64 x) ∧ x < 18446744073709551616 := by
   intro i hi
   obtain ⟨es, e1, e2⟩ := h3 i hi
   obtain ⟨x, rfl, hw⟩ := e2.int kyz
   rw [Nat.mul_one] at e1
   have hx : 0 ≤ x ∧ x < 18446744073709551616 := by
    have : 0 ≤ x ∧ x ≤ 18446744073709551615 := by simpa [Lit.wf, IntKind.has, IntKind.min, IntKind.max, IntKind.bits, IntKind.signed] using hw
    omega
   refine ⟨x.toNat, ?_, by omega⟩
   show _ = some (AV.int .u64 ((x.toNat : Nat) : Int))
   rw [show ((x.toNat : Nat) : Int) = x from by omega]
   simp only [AH.gets, Option.bind_eq_some_iff, Option.map_eq_some_iff] at e1
   obtain ⟨v, e3, l, e4, e5⟩ := e1
   simp only [List.cons.injEq] at e5
   rw [e3, e5.1]
  have mk : ∀ n, n ≤ len → ∃ xs : List Nat, xs.length = n ∧ ∀ (i : Nat) (hi : i < xs.length), h.cell (.old (ad.add i)) = some (u64 xs[i]) ∧ xs[i] < 18446744073709551616 := by
   intro n
   induction n with
   | zero => exact fun _ => ⟨[], rfl, fun i hi => by simp at hi⟩
   | succ n ih =>
    intro hn
    obtain ⟨xs, hl, hx⟩ := ih (by omega)
    obtain ⟨x, k1, k2⟩ := key n (by omega)
    refine ⟨xs ++ [x], by simp [hl], fun i hi => ?_⟩
    simp only [List.length_append, List.length_singleton] at hi
    by_cases hin : i < xs.length
    ·rw [List.getElem_append_left hin]
     exact hx i hin
    ·have : i = n := by omega
     subst this
     rw [List.getElem_append_right (by omega)]
     simp only [hl, Nat.sub_self, List.getElem_singleton]
     exact ⟨k1, k2⟩
  obtain ⟨xs, hl, hx⟩ := mk len (Nat.le_refl _)
  refine ⟨⟨some (.old ad), len, .is cap⟩, xs, rfl, ⟨⟨h1, by simp [hl], fun i v hv => ?_⟩, fun x hx' => ?_, ?_⟩⟩
  ·rw [List.getElem?_map, Option.map_eq_some_iff] at hv
   obtain ⟨x, e1, rfl⟩ := hv
   obtain ⟨hi, rfl⟩ := List.getElem?_eq_some_iff.1 e1
   exact ⟨_, rfl, (hx i hi).1⟩
  ·obtain ⟨i, hi, rfl⟩ := List.getElem_of_mem hx'
   exact (hx i hi).2
  ·have : maxLen = 9223372036854775807 := by decide
   omega
theorem kwk {h : AH} {x : AV} (a : ArgV Pg h T.kr x) : ∃ (s : Sl) (xs : List Nat), x = s.v ∧ Nats h s xs := by
 unfold ArgV at a
 rw [kyl] at a
 obtain ⟨s, xs, e, n⟩ := kbco a
 cases e
 exact ⟨s, xs, rfl, n⟩
end Go.Ab
