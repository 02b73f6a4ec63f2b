/- squeezed -/
import Derived.Test.YthpakkpckmjhjaaGreatDoorPAbsDra
import Derived.Test.YthpakkpckmjhjaaGreatDoorProg

set_option linter.unusedVariables false
set_option maxRecDepth 100000
namespace Go.Ab
open Go.Proofs
@[reducible] def F.kpv : FuncId := 4
@[reducible] def F.kom : FuncId := 5
@[reducible] def F.ko1 : FuncId := 10
@[reducible] def F.kov : FuncId := 11
@[reducible] def F.kf8 : FuncId := 12
@[reducible] def F.kch : FuncId := 13
@[reducible] def F.kl0 : FuncId := 14
@[reducible] def F.kp2 : FuncId := 15
@[reducible] def F.ks8 : FuncId := 16
@[reducible] def F.kl9 : FuncId := 18
@[reducible] def F.kp0 : FuncId := 19
@[reducible] def F.kqw : FuncId := 20
@[reducible] def F.kic : FuncId := 21
@[reducible] def F.ki3 : FuncId := 23
@[reducible] def F.kji : FuncId := 26
@[reducible] def F.kdd : FuncId := 27
@[reducible] def F.kqp : FuncId := 28
@[reducible] def F.kgw : FuncId := 29
@[reducible] def F.kfq : FuncId := 30
@[reducible] def F.kf1 : FuncId := 31
@[reducible] def F.kc3 : FuncId := 32
@[reducible] def F.kcu : FuncId := 33
@[reducible] def F.kjs : FuncId := 34
@[reducible] def F.kco : FuncId := 35
@[reducible] def F.kkq : FuncId := 36
@[reducible] def F.kfl : FuncId := 37
@[reducible] def F.khm : FuncId := 38
@[reducible] def F.khj : FuncId := 39
@[reducible] def F.krd : FuncId := 40
@[reducible] def F.kpa : FuncId := 41
@[reducible] def F.kgh : FuncId := 42
@[reducible] def F.kfn : FuncId := 43
@[reducible] def F.kb0 : FuncId := 44
@[reducible] def F.ke8 : FuncId := 45
@[reducible] def F.knc : FuncId := 46
@[reducible] def F.kl5 : FuncId := 47
@[reducible] def F.kbk : FuncId := 48
@[reducible] def F.keq : FuncId := 49
@[reducible] def F.kms : FuncId := 52
@[reducible] def F.kj7 : FuncId := 54
@[reducible] def F.kiz : FuncId := 55
@[reducible] def F.kfo : FuncId := 56
@[reducible] def F.kit : FuncId := 57
@[reducible] def F.kk9 : FuncId := 58
@[reducible] def F.kgb : FuncId := 59
@[reducible] def F.knt : FuncId := 60
@[reducible] def F.kh6 : FuncId := 61
@[reducible] def F.kop : FuncId := 62
@[reducible] def F.kbw : FuncId := 63
@[reducible] def F.ko0 : FuncId := 64
@[reducible] def F.knl : FuncId := 65
@[reducible] def F.kgv : FuncId := 66
@[reducible] def F.kk8 : FuncId := 67
@[reducible] def F.khy : FuncId := 68
@[reducible] def F.kl6 : FuncId := 69
@[reducible] def F.kb3 : FuncId := 70
@[reducible] def F.knk : FuncId := 71
@[reducible] def F.knn : FuncId := 72
@[reducible] def F.kbb : FuncId := 73
@[reducible] def F.kh0 : FuncId := 74
@[reducible] def F.kof : FuncId := 75
@[reducible] def F.kcv : FuncId := 76
@[reducible] def F.kf4 : FuncId := 77
@[reducible] def F.kd5 : FuncId := 78
@[reducible] def F.kf9 : FuncId := 79
@[reducible] def F.ker : FuncId := 80
@[reducible] def F.ke7 : FuncId := 81
@[reducible] def F.kbz : FuncId := 82
@[reducible] def F.kha : FuncId := 83
@[reducible] def F.kga : FuncId := 84
@[reducible] def F.kek : FuncId := 85
@[reducible] def F.koa : FuncId := 86
@[reducible] def F.koh : FuncId := 87
@[reducible] def F.kfd : FuncId := 89
@[reducible] def F.kjc : FuncId := 90
@[reducible] def F.kci : FuncId := 91
@[reducible] def F.kbp : FuncId := 92
@[reducible] def F.kdo : FuncId := 93
@[reducible] def F.kbe : FuncId := 94
@[reducible] def F.kjw : FuncId := 95
@[reducible] def F.kcj : FuncId := 96
@[reducible] def F.kh7 : FuncId := 97
@[reducible] def F.kh8 : FuncId := 98
@[reducible] def F.kcq : FuncId := 99
@[reducible] def F.kct : FuncId := 100
@[reducible] def F.kcy : FuncId := 101
@[reducible] def F.kg8 : FuncId := 102
@[reducible] def F.krk : FuncId := 103
@[reducible] def F.koj : FuncId := 104
@[reducible] def F.kl7 : FuncId := 105
@[reducible] def F.kjp : FuncId := 106
@[reducible] def F.ke2 : FuncId := 107
@[reducible] def F.kcn : FuncId := 108
@[reducible] def F.kb8 : FuncId := 109
@[reducible] def F.kdl : FuncId := 110
@[reducible] def F.kn3 : FuncId := 111
@[reducible] def F.kqt : FuncId := 112
@[reducible] def F.kle : FuncId := 113
@[reducible] def F.kiq : FuncId := 114
@[reducible] def F.kc5 : FuncId := 115
@[reducible] def F.kg3 : FuncId := 116
@[reducible] def F.kbj : FuncId := 117
@[reducible] def F.kmn : FuncId := 118
@[reducible] def F.kd6 : FuncId := 119
@[reducible] def F.ke1 : FuncId := 120
@[reducible] def F.kk3 : FuncId := 121
@[reducible] def F.kc0 : FuncId := 122
@[reducible] def F.kd7 : FuncId := 123
@[reducible] def F.kb2 : FuncId := 124
@[reducible] def F.ko8 : FuncId := 125
@[reducible] def F.kcm : FuncId := 127
@[reducible] def F.kmw : FuncId := 128
@[reducible] def F.kwm : FuncId := 131
@[reducible] def F.kdb : FuncId := 132
@[reducible] def F.klc : FuncId := 133
@[reducible] def F.kei : FuncId := 134
@[reducible] def F.keg : FuncId := 135
@[reducible] def F.kii : FuncId := 136
@[reducible] def F.kgx : FuncId := 137
@[reducible] def T.func : TypeId := 1
@[reducible] def T.int : TypeId := 3
@[reducible] def T.bool : TypeId := 4
@[reducible] def T.string : TypeId := 9
@[reducible] def T.any : TypeId := 20
@[reducible] def T.kw : TypeId := 23
@[reducible] def T.ke6 : TypeId := 27
@[reducible] def T.kea : TypeId := 30
@[reducible] def T.ks : TypeId := 32
@[reducible] def T.kg1 : TypeId := 44
@[reducible] def T.ke : TypeId := 47
@[reducible] def T.kb5 : TypeId := 49
@[reducible] def T.kbbs : TypeId := 53
@[reducible] def T.kf : TypeId := 85
@[reducible] noncomputable def Pg : Program := Tryz.prog
@[reducible] def Gl.math_bits_divideError : Nat := 0
@[reducible] def Gl.math_bits_overflowError : Nat := 1
@[reducible] def Gl.math_bits_deBruijn64tab : Nat := 2
def keepTab : List (Nat × Nat × List Nat) := [(12, 4, [0, 1, 5]), (13, 11, [5, 6, 7, 9, 12, 33, 34, 35]), (30, 7, [1, 7, 9, 10, 12]), (30, 1000011, [0, 1, 8, 9, 2, 3, 4, 5, 6, 7, 10, 11, 12]), (30, 2000011, [8, 9]), (31, 9, [1, 8, 9, 10, 11]), (31, 1000013, [0, 2, 7, 1, 3, 4, 5, 6, 8, 9]), (31, 1000019, [0, 1, 8, 9, 2, 3, 4, 5, 6, 7, 10, 11, 12]), (31, 2000013, [7]), (31, 2000019, [8, 9]), (37, 4, [1, 27, 28, 29]), (39, 2, [0, 1, 7, 8]), (44, 1, [0, 1, 2, 10, 11, 12]), (44, 4, [0, 1, 2, 4, 10, 11, 12, 18, 19]), (45, 7, [2, 3, 6, 8, 44, 45, 46]), (49, 6, [0, 4, 5]), (61, 1000001, [0, 2, 7, 1, 3, 4, 5, 6, 8, 9]), (61, 2000001, [7]), (73, 2, [0, 1, 7, 8]), (77, 4, [0, 1]), (78, 6, [0, 1, 5]), (80, 4, [0, 1, 6, 7, 8]), (82, 6, [6, 7, 8, 9, 10, 11]), (82, 10, [6, 7, 8, 9, 10, 11, 12, 13]), (82, 18, [6, 10, 15, 16, 112, 113]), (83, 5, [4, 6, 23, 24, 25]), (84, 5, [2, 3, 4, 6, 8, 9, 35, 36]), (89, 7, [8, 9]), (91, 3, [0, 1, 5, 6]), (91, 7, [0, 1, 5, 6, 7, 8]), (92, 3, [0, 3, 4]), (92, 7, [0, 3, 4, 5, 6]), (94, 2, [0, 3]), (95, 1000006, [0, 1, 2, 4, 5, 8, 9, 10, 12, 13, 3, 6, 7, 11, 14, 15, 16, 17]), (95, 1000007, [0, 1, 2, 4, 5, 9, 10, 12, 13, 3, 6, 7, 8, 11, 14, 15, 16, 17, 18]), (96, 3, [1, 5, 20, 21, 22]), (96, 7, [1, 5, 6, 7, 8, 20, 21, 22, 27, 28, 29]), (99, 6, [0, 1, 5, 6, 21, 22]), (100, 4, [0, 1, 5, 6, 13, 14]), (101, 2, [0, 1, 2, 6, 7]), (107, 6, [0, 1, 5]), (108, 4, [0, 1, 6, 7, 8]), (108, 9, [0, 1, 6, 7, 8, 9, 10]), (109, 3, [0, 4, 5]), (109, 7, [0, 4, 5, 6, 7]), (116, 3, [3, 7, 8, 9]), (117, 3, [0, 1, 2]), (117, 17, [2, 8, 9, 10, 11, 13, 14, 15, 16]), (117, 24, [2, 8, 9, 10, 14, 15, 16, 17, 18]), (119, 3, [1, 5, 12, 13, 14]), (120, 4, [2, 3, 4, 11, 12]), (124, 1, [0, 6, 7, 8]), (124, 3, [0, 3, 4, 6, 7, 8]), (127, 2, [0, 3]), (134, 4, [0, 1, 5, 6, 7]), (134, 1000006, [0, 1, 2, 3, 4, 5, 6, 9, 7, 8, 10, 11]), (135, 4, [0, 1, 5, 6, 7]), (136, 2, [0, 1, 7, 8])]
noncomputable def go : Rec := run Pg (keepOf keepTab)
theorem kc (k : Key) (h : AH) : go k h = stepA Pg (keepOf keepTab) go k h := kyc _ k h
theorem ku1 : Pg.cellsOf T.int = 1 := by kernel_rfl
theorem k66 : kcw Pg T.int = some [.int .i64 0] := by kernel_rfl
theorem k21 : Pg.bytesOf T.int = 8 := by kernel_rfl
theorem kwk : Pg.underlying T.kw = some (.slice T.ke) := Tryz.underlying23
theorem k2w : Pg.underlying T.ke = some (.int .u64) := Tryz.underlying47
theorem khw : Pg.cellsOf T.ke = 1 := by kernel_rfl
theorem kzg : kcw Pg T.ke = some [.int .u64 0] := by kernel_rfl
theorem kc8 : Pg.bytesOf T.ke = 8 := by kernel_rfl
theorem k8j : Pg.cellsOf T.kb5 = 2 := by kernel_rfl
theorem kxl : kcw Pg T.kb5 = some [.int .i64 0, .int .i64 0] := by kernel_rfl
theorem k3t : Pg.bytesOf T.kb5 = 16 := by kernel_rfl
noncomputable def Td.kk2 : List Item := todoAt Tryz.f12 4
noncomputable def Td.kky : List Item := todoAt Tryz.f13 11
noncomputable def Td.kk5 : List Item := todoAt Tryz.f30 7
noncomputable def Td.knx : List Item := todoAt Tryz.f31 9
noncomputable def Td.kni : List Item := todoAt Tryz.f37 4
noncomputable def Td.kmr : List Item := todoAt Tryz.f39 2
noncomputable def Td.kks : List Item := todoAt Tryz.f44 1
noncomputable def Td.kjr : List Item := todoAt Tryz.f44 4
noncomputable def Td.kjv : List Item := todoAt Tryz.f45 7
noncomputable def Td.km9 : List Item := todoAt Tryz.f49 6
noncomputable def Td.kb6 : List Item := todoAt Tryz.f73 2
noncomputable def Td.kls : List Item := todoAt Tryz.f77 4
noncomputable def Td.km4 : List Item := todoAt Tryz.f78 6
noncomputable def Td.klt : List Item := todoAt Tryz.f80 4
noncomputable def Td.knj : List Item := todoAt Tryz.f82 6
noncomputable def Td.kmb : List Item := todoAt Tryz.f82 10
noncomputable def Td.khx : List Item := todoAt Tryz.f82 18
noncomputable def Td.klz : List Item := todoAt Tryz.f83 5
noncomputable def Td.kll : List Item := todoAt Tryz.f84 5
noncomputable def Td.kk1 : List Item := todoAt Tryz.f89 7
noncomputable def Td.kmc : List Item := todoAt Tryz.f91 3
noncomputable def Td.klj : List Item := todoAt Tryz.f91 7
noncomputable def Td.kj8 : List Item := todoAt Tryz.f92 3
noncomputable def Td.kn2 : List Item := todoAt Tryz.f92 7
noncomputable def Td.kko : List Item := todoAt Tryz.f94 2
noncomputable def Td.knf : List Item := todoAt Tryz.f96 3
noncomputable def Td.knq : List Item := todoAt Tryz.f96 7
noncomputable def Td.kfw : List Item := todoAt Tryz.f99 6
noncomputable def Td.kip : List Item := todoAt Tryz.f100 4
noncomputable def Td.kg6 : List Item := todoAt Tryz.f101 2
noncomputable def Td.knb : List Item := todoAt Tryz.f107 6
noncomputable def Td.kmv : List Item := todoAt Tryz.f108 4
noncomputable def Td.ki8 : List Item := todoAt Tryz.f108 9
noncomputable def Td.kig : List Item := todoAt Tryz.f109 3
noncomputable def Td.kkb : List Item := todoAt Tryz.f109 7
noncomputable def Td.klx : List Item := todoAt Tryz.f116 3
noncomputable def Td.kpc : List Item := todoAt Tryz.f117 3
noncomputable def Td.kkf : List Item := todoAt Tryz.f117 17
noncomputable def Td.kgi : List Item := todoAt Tryz.f117 24
noncomputable def Td.kkr : List Item := todoAt Tryz.f119 3
noncomputable def Td.kkm : List Item := todoAt Tryz.f120 4
noncomputable def Td.kjf : List Item := todoAt Tryz.f124 1
noncomputable def Td.knw : List Item := todoAt Tryz.f124 3
noncomputable def Td.kmy : List Item := todoAt Tryz.f127 2
noncomputable def Td.kjz : List Item := todoAt Tryz.f134 4
noncomputable def Td.kij : List Item := todoAt Tryz.f135 4
noncomputable def Td.klb : List Item := todoAt Tryz.f136 2
noncomputable def Fx.kox : Func := Tryz.f13
noncomputable def Tr.kxa : List Item := ku5 Tryz.f13 0 (.tmp 27)
noncomputable def Ta.kvm : List Item := (loopAt Tryz.f13 0).2.2.2
noncomputable def Fx.kqd : Func := Tryz.f123
noncomputable def Tr.ksy : List Item := ku5 Tryz.f123 0 (.tmp 6)
noncomputable def Ta.kvn : List Item := (loopAt Tryz.f123 0).2.2.2
def lit1 : ByteArray := (⟨((List.append (List.append ([0, 1, 2, 2, 3, 3, 3, 3, 4, 4, 4, 4, 4, 4, 4, 4, 5, 5, 5, 5, 5, 5, 5, 5, 5, 5, 5, 5, 5, 5, 5, 5, 6, 6, 6, 6, 6, 6, 6, 6, 6, 6, 6, 6, 6, 6, 6, 6, 6, 6, 6, 6, 6, 6, 6, 6, 6, 6, 6, 6, 6, 6, 6, 6] : List UInt8) ([7, 7, 7, 7, 7, 7, 7, 7, 7, 7, 7, 7, 7, 7, 7, 7, 7, 7, 7, 7, 7, 7, 7, 7, 7, 7, 7, 7, 7, 7, 7, 7, 7, 7, 7, 7, 7, 7, 7, 7, 7, 7, 7, 7, 7, 7, 7, 7, 7, 7, 7, 7, 7, 7, 7, 7, 7, 7, 7, 7, 7, 7, 7, 7] : List UInt8)) (List.append ([8, 8, 8, 8, 8, 8, 8, 8, 8, 8, 8, 8, 8, 8, 8, 8, 8, 8, 8, 8, 8, 8, 8, 8, 8, 8, 8, 8, 8, 8, 8, 8, 8, 8, 8, 8, 8, 8, 8, 8, 8, 8, 8, 8, 8, 8, 8, 8, 8, 8, 8, 8, 8, 8, 8, 8, 8, 8, 8, 8, 8, 8, 8, 8] : List UInt8) ([8, 8, 8, 8, 8, 8, 8, 8, 8, 8, 8, 8, 8, 8, 8, 8, 8, 8, 8, 8, 8, 8, 8, 8, 8, 8, 8, 8, 8, 8, 8, 8, 8, 8, 8, 8, 8, 8, 8, 8, 8, 8, 8, 8, 8, 8, 8, 8, 8, 8, 8, 8, 8, 8, 8, 8, 8, 8, 8, 8, 8, 8, 8, 8] : List UInt8)))).toArray⟩ : ByteArray)
theorem kbbf (args : List AV) (h : AH) : callF Pg go F.kb0 args h = go (.fn F.kb0 args) h := by kernel_rfl
theorem k5j (args : List AV) (h : AH) : callF Pg go F.kb2 args h = go (.fn F.kb2 args) h := by kernel_rfl
theorem kbbn (args : List AV) (h : AH) : callF Pg go F.kgh args h = go (.fn F.kgh args) h := by kernel_rfl
theorem k9k (a1 : Sl) (a2 : Sl) (a3 : Sl) (h : AH) : go (.fn F.kpv [a1.v, a2.v, a3.v]) h =
 (go (.fn F.kom []) h).bind fun q4 =>
 ((some q4.1).bind AV.asBool).bind fun b5 =>
 cond (decide ((a1.len : Int) > 20)) (
 some (.bool b5, q4.2)) (
 cond (decide ((a2.len : Int) > 20)) (
 some (.bool b5, q4.2)) (
 cond (decide ((a3.len : Int) > 20)) (
 some (.bool b5, q4.2)) (
 (go (.fn F.ko1 [a1.v, a2.v, a3.v]) q4.2).bind fun q6 =>
 (AV.asTup2 q6.1).bind fun p7 =>
 ((some p7.1).bind AV.asSl).bind fun l8 =>
 ((some p7.2).bind (AV.asInt .i64)).bind fun n9 =>
 (go (.fn F.kov [a1.v, a2.v, a3.v]) q6.2).bind fun q10 =>
 (AV.asTup2 q10.1).bind fun p11 =>
 ((some p11.1).bind AV.asSl).bind fun l12 =>
 ((some p11.2).bind (AV.asInt .i64)).bind fun n13 =>
 (go (.fn F.kf8 [l8.v, l12.v]) q10.2).bind fun q14 =>
 ((some q14.1).bind AV.asBool).bind fun b15 =>
 cond b5 (
 cond b15 (
 some (.bool (decide (n9 = n13)), q14.2)) (
 some (.bool false, q14.2))) (
 some (.bool false, q14.2))))) := (kc _ h).trans (by kernel_rfl)
theorem k1g (a1 : Nat) (a2 : Ref) (a3 : Ref) (h : AH) : go (.fn F.kb0 [.func (.yield a1) [] [], .ptr (some a2), .ptr (some a3)]) h =
 ((h.cell (a2.add 1)).bind AV.asSl).bind fun l4 =>
 go (.pt F.kb0 Td.kks [(0, .func (.yield a1) [] []), (1, .ptr (some a2)), (2, .ptr (some a3)), (10, l4.v), (11, .int .i64 (l4.len : Int)), (12, .int .i64 0)]) h := (kc _ h).trans (by kernel_rfl)
theorem k06 (a1 : Nat) (a2 : Ref) (h : AH) : go (.fn F.kb2 [.func (.yield a1) [] [], .ptr (some a2)]) h =
 ((h.cell (a2.add 1)).bind AV.asSl).bind fun l3 =>
 go (.pt F.kb2 Td.kjf [(0, .func (.yield a1) [] []), (6, l3.v), (7, .int .i64 (l3.len : Int)), (8, .int .i64 0)]) h := (kc _ h).trans (by kernel_rfl)
theorem kbad (a1 : Sl) (a2 : Sl) (a3 : Ref) (h : AH) : go (.fn F.kgh [a1.v, a2.v, .ptr (some a3)]) h =
 (go (.fn F.kgw [a1.v, a2.v]) h).bind fun q4 =>
 (AV.asTup2 q4.1).bind fun p5 =>
 ((some p5.1).bind AV.asSl).bind fun l6 =>
 ((some p5.2).bind (AV.asInt .i64)).bind fun n7 =>
 ((q4.2.cell a3).bind AV.asSl).bind fun l8 =>
 (go (.fn F.kfn [l6.v, l8.v]) q4.2).bind fun q9 =>
 (AV.asTup3 q9.1).bind fun p10 =>
 ((some p10.1).bind AV.asSl).bind fun l11 =>
 ((some p10.2.1).bind AV.asSl).bind fun l12 =>
 ((some p10.2.2).bind (AV.asInt .i64)).bind fun n13 =>
 some (l12.v, q9.2) := (kc _ h).trans (by kernel_rfl)
theorem k6c (a1 : Sl) (a2 : Sl) (a3 : Ref) (h : AH) : go (.fn F.kjw [a1.v, a2.v, .ptr (some a3)]) h =
 cond (decide ((a1.len : Int) < 24)) (
 (go (.fn F.kcj [a1.v, a2.v]) h).bind fun q4 =>
 ((some q4.1).bind AV.asSl).bind fun l5 =>
 some (l5.v, q4.2)) (
 cond (decide ((a2.len : Int) < 24)) (
 (go (.fn F.kcj [a1.v, a2.v]) h).bind fun q6 =>
 ((some q6.1).bind AV.asSl).bind fun l7 =>
 some (l7.v, q6.2)) (
 newK h (.cells [.int .i64 0] T.int) fun h8r h8 =>
 (h8.puts h8r [.int .i64 (IntKind.wrap .i64 (Int.tdiv (IntKind.wrap .i64 ((imax (a1.len : Int) (a2.len : Int)) + 1)) 2))]).bind fun h9 =>
 (h9.cell a3).bind fun v10 =>
 (h9.cell a3).bind fun v11 =>
 (go (.fn F.kh7 [a1.v, .ptr (some h8r)]) h9).bind fun q12 =>
 ((some q12.1).bind AV.asSl).bind fun l13 =>
 whenK (SameAt h9 q12.2 a3 1) (
 whenK (SameAt h9 q12.2 a3 1) (
 (go (.fn F.kh7 [a2.v, .ptr (some h8r)]) q12.2).bind fun q14 =>
 ((some q14.1).bind AV.asSl).bind fun l15 =>
 whenK (SameAt q12.2 q14.2 a3 1) (
 whenK (SameAt q12.2 q14.2 a3 1) (
 (callV Pg go v10 [l13.v, l15.v] q14.2).bind fun q16 =>
 ((some q16.1).bind AV.asSl).bind fun l17 =>
 whenK (SameAt q14.2 q16.2 a3 1) (
 (go (.fn F.kh8 [a1.v, .ptr (some h8r)]) q16.2).bind fun q18 =>
 ((some q18.1).bind AV.asSl).bind fun l19 =>
 whenK (SameAt q16.2 q18.2 a3 1) (
 (go (.fn F.kh8 [a2.v, .ptr (some h8r)]) q18.2).bind fun q20 =>
 ((some q20.1).bind AV.asSl).bind fun l21 =>
 whenK (SameAt q18.2 q20.2 a3 1) (
 (callV Pg go v11 [l19.v, l21.v] q20.2).bind fun q22 =>
 ((some q22.1).bind AV.asSl).bind fun l23 =>
 (q22.2.cell a3).bind fun v24 =>
 (go (.fn F.kh7 [a1.v, .ptr (some h8r)]) q22.2).bind fun q25 =>
 ((some q25.1).bind AV.asSl).bind fun l26 =>
 whenK (SameAt q22.2 q25.2 a3 1) (
 (go (.fn F.kh8 [a1.v, .ptr (some h8r)]) q25.2).bind fun q27 =>
 ((some q27.1).bind AV.asSl).bind fun l28 =>
 whenK (SameAt q25.2 q27.2 a3 1) (
 (go (.fn F.kcq [l26.v, l28.v]) q27.2).bind fun q29 =>
 ((some q29.1).bind AV.asSl).bind fun l30 =>
 whenK (SameAt q27.2 q29.2 a3 1) (
 (go (.fn F.kbe [l30.v]) q29.2).bind fun q31 =>
 ((some q31.1).bind AV.asSl).bind fun l32 =>
 whenK (SameAt q29.2 q31.2 a3 1) (
 (go (.fn F.kh7 [a2.v, .ptr (some h8r)]) q31.2).bind fun q33 =>
 ((some q33.1).bind AV.asSl).bind fun l34 =>
 whenK (SameAt q31.2 q33.2 a3 1) (
 (go (.fn F.kh8 [a2.v, .ptr (some h8r)]) q33.2).bind fun q35 =>
 ((some q35.1).bind AV.asSl).bind fun l36 =>
 whenK (SameAt q33.2 q35.2 a3 1) (
 (go (.fn F.kcq [l34.v, l36.v]) q35.2).bind fun q37 =>
 ((some q37.1).bind AV.asSl).bind fun l38 =>
 whenK (SameAt q35.2 q37.2 a3 1) (
 (go (.fn F.kbe [l38.v]) q37.2).bind fun q39 =>
 ((some q39.1).bind AV.asSl).bind fun l40 =>
 whenK (SameAt q37.2 q39.2 a3 1) (
 (callV Pg go v24 [l32.v, l40.v] q39.2).bind fun q41 =>
 ((some q41.1).bind AV.asSl).bind fun l42 =>
 (go (.fn F.kct [l42.v, l17.v]) q41.2).bind fun q43 =>
 ((some q43.1).bind AV.asSl).bind fun l44 =>
 (go (.fn F.kbe [l44.v]) q43.2).bind fun q45 =>
 ((some q45.1).bind AV.asSl).bind fun l46 =>
 (go (.fn F.kct [l46.v, l23.v]) q45.2).bind fun q47 =>
 ((some q47.1).bind AV.asSl).bind fun l48 =>
 (go (.fn F.kbe [l48.v]) q47.2).bind fun q49 =>
 ((some q49.1).bind AV.asSl).bind fun l50 =>
 (kbs (IntKind.wrap .i64 ((IntKind.wrap .i64 ((a1.len : Int) + (a2.len : Int))) + 1)) (IntKind.wrap .i64 ((IntKind.wrap .i64 ((a1.len : Int) + (a2.len : Int))) + 1)) T.ke (Pg.bytesOf T.ke) [.int .u64 0] q49.2).bind fun q51 =>
 (copyH l17 q51.1 1 q51.2).bind fun h52 =>
 ((h52.cell h8r).bind (AV.asInt .i64)).bind fun n53 =>
 (go (.fn F.kcy [q51.1.v, l50.v, .int .i64 n53]) h52).bind fun q54 =>
 (AV.asTup0 q54.1).bind fun _ =>
 ((q54.2.cell h8r).bind (AV.asInt .i64)).bind fun n55 =>
 (go (.fn F.kcy [q51.1.v, l23.v, .int .i64 (IntKind.wrap .i64 (2 * n55))]) q54.2).bind fun q56 =>
 (AV.asTup0 q56.1).bind fun _ =>
 (go (.fn F.kbe [q51.1.v]) q56.2).bind fun q57 =>
 ((some q57.1).bind AV.asSl).bind fun l58 =>
 some (l58.v, q57.2)))))))))))))))))) := (kc _ h).trans (by kernel_rfl)
theorem k7n  (h : AH) : go (.fn F.kom []) h =
 newK h (.cells [.int .i64 0, .int .i64 1, .int .i64 2] T.int) fun h1r h1 =>
 newK h1 (.cells [.int .i64 2] T.int) fun h2r h2 =>
 newK h2 (.cells [.int .i64 0, .int .i64 1, .int .i64 1] T.int) fun h3r h3 =>
 newK h3 (.cells [(⟨some h3r, 3, .is 3⟩ : Sl).v] T.ke6) fun h4r h4 =>
 newK h4 (.cells [(⟨none, 0, .is 0⟩ : Sl).v, (⟨none, 0, .is 0⟩ : Sl).v, (⟨none, 0, .is 0⟩ : Sl).v] T.kea) fun h5r h5 =>
 (h5.puts h5r [(⟨some h1r, 3, .is 3⟩ : Sl).v, (⟨some h2r, 1, .is 1⟩ : Sl).v, (⟨some h4r, 1, .is 1⟩ : Sl).v]).bind fun h6 =>
 ((h6.cell (h5r.add 0)).bind AV.asSl).bind fun l7 =>
 ((h6.cell (h5r.add 1)).bind AV.asSl).bind fun l8 =>
 ((h6.cell (h5r.add 2)).bind AV.asSl).bind fun l9 =>
 newK h6 (.cells [.int .u64 3] T.ke) fun h10r h10 =>
 newK h10 (.cells [.int .i64 5, .int .i64 6, .int .i64 7] T.int) fun h11r h11 =>
 (go (.fn F.kch [.agg [l7.v, l8.v, l9.v], .agg [.int .i64 3, (⟨some h10r, 1, .is 1⟩ : Sl).v], (⟨some h11r, 3, .is 3⟩ : Sl).v]) h11).bind fun q12 =>
 (AV.asTup2 q12.1).bind fun p13 =>
 ((some p13.1).bind AV.asSl).bind fun l14 =>
 ((some p13.2).bind (AV.asInt .i64)).bind fun n15 =>
 cond (decide (n15 = 0)) (
 cond (decide ((l14.len : Int) = 1)) (
 (idx l14.ref l14.len 0 2).bind fun r16 =>
 ((q12.2.cell (r16.add 0)).bind (AV.asInt .i64)).bind fun n17 =>
 ((q12.2.cell (r16.add 1)).bind (AV.asInt .i64)).bind fun n18 =>
 some (.bool ((decide (n17 = 5)) && ((decide (n18 = 1)) && true)), q12.2)) (
 some (.bool false, q12.2))) (
 some (.bool false, q12.2)) := (kc _ h).trans (by kernel_rfl)
theorem kzt (a1 : Sl) (a2 : Sl) (a3 : Sl) (h : AH) : go (.fn F.ko1 [a1.v, a2.v, a3.v]) h =
 (go (.fn F.kl0 [a1.v]) h).bind fun q4 =>
 ((some q4.1).bind AV.asBool).bind fun b5 =>
 cond (!b5) (
 some (.tup [(⟨none, 0, .is 0⟩ : Sl).v, .int .i64 1], q4.2)) (
 (go (.fn F.kl9 [a1.v, a2.v]) q4.2).bind fun q6 =>
 ((some q6.1).bind AV.asBool).bind fun b7 =>
 cond (!b7) (
 some (.tup [(⟨none, 0, .is 0⟩ : Sl).v, .int .i64 11], q6.2)) (
 (go (.fn F.kl9 [a1.v, a3.v]) q6.2).bind fun q8 =>
 ((some q8.1).bind AV.asBool).bind fun b9 =>
 cond (!b9) (
 some (.tup [(⟨none, 0, .is 0⟩ : Sl).v, .int .i64 11], q8.2)) (
 (go (.fn F.kgw [a1.v, a1.v]) q8.2).bind fun q10 =>
 (AV.asTup2 q10.1).bind fun p11 =>
 ((some p11.1).bind AV.asSl).bind fun l12 =>
 ((some p11.2).bind (AV.asInt .i64)).bind fun n13 =>
 (go (.fn F.kfq [a3.v, l12.v]) q10.2).bind fun q14 =>
 (AV.asTup2 q14.1).bind fun p15 =>
 ((some p15.1).bind AV.asSl).bind fun l16 =>
 ((some p15.2).bind (AV.asInt .i64)).bind fun n17 =>
 (go (.fn F.kp0 [a1.v]) q14.2).bind fun q18 =>
 yieldK q18.1 [a2.v, l16.v] (fun y20 =>
 (go (.round y20.1 y20.2) q18.2).bind fun q19 =>
 ((some q19.1).bind AV.asSl).bind fun l22 =>
 some (.tup [l22.v, .int .i64 n17], q19.2)) (
 (callV Pg go q18.1 [a2.v, l16.v] q18.2).bind fun q21 =>
 ((some q21.1).bind AV.asSl).bind fun l23 =>
 some (.tup [l23.v, .int .i64 n17], q21.2))))) := (kc _ h).trans (by kernel_rfl)
theorem k3h (a1 : Sl) (a2 : Sl) (a3 : Sl) (h : AH) : go (.fn F.kov [a1.v, a2.v, a3.v]) h =
 (go (.fn F.kic [a1.v]) h).bind fun q4 =>
 ((some q4.1).bind AV.asBool).bind fun b5 =>
 cond (!b5) (
 some (.tup [(⟨none, 0, .is 0⟩ : Sl).v, .int .i64 1], q4.2)) (
 (go (.fn F.ki3 [a1.v, a2.v]) q4.2).bind fun q6 =>
 ((some q6.1).bind AV.asBool).bind fun b7 =>
 (go (.fn F.ki3 [a1.v, a3.v]) q6.2).bind fun q8 =>
 ((some q8.1).bind AV.asBool).bind fun b9 =>
 cond (!b7) (
 some (.tup [(⟨none, 0, .is 0⟩ : Sl).v, .int .i64 11], q8.2)) (
 cond (!b9) (
 some (.tup [(⟨none, 0, .is 0⟩ : Sl).v, .int .i64 11], q8.2)) (
 (go (.fn F.kji [a1.v]) q8.2).bind fun q10 =>
 ((some q10.1).bind AV.asSl).bind fun l11 =>
 (go (.fn F.kf1 [a3.v, l11.v]) q10.2).bind fun q12 =>
 (AV.asTup2 q12.1).bind fun p13 =>
 ((some p13.1).bind AV.asSl).bind fun l14 =>
 ((some p13.2).bind (AV.asInt .i64)).bind fun n15 =>
 (go (.fn F.kqp [a2.v, l14.v, l11.v]) q12.2).bind fun q16 =>
 ((some q16.1).bind AV.asSl).bind fun l17 =>
 some (.tup [l17.v, .int .i64 0], q16.2)))) := (kc _ h).trans (by kernel_rfl)
theorem kzh (a1 : Sl) (a2 : Sl) (h : AH) : go (.fn F.kf8 [a1.v, a2.v]) h =
 cond (!decide ((a1.len : Int) = (a2.len : Int))) (
 some (.bool false, h)) (
 go (.pt F.kf8 Td.kk2 [(0, a1.v), (1, a2.v), (5, .int .i64 0)]) h) := (kc _ h).trans (by kernel_rfl)
theorem kui (a1 : Nat) (a2 : Ref) (a3 : Ref) (a4 : Sl) (a5 : Int) (a6 : Int) (h : AH) : go (.pt F.kb0 Td.kks [(0, .func (.yield a1) [] []), (1, .ptr (some a2)), (2, .ptr (some a3)), (10, a4.v), (11, .int .i64 a5), (12, .int .i64 a6)]) h =
 cond (decide (a6 < a5)) (
 (idx a4.ref a4.len a6 1).bind fun r7 =>
 ((h.cell r7).bind (AV.asInt .i64)).bind fun n8 =>
 go (.pt F.kb0 Td.kjr [(0, .func (.yield a1) [] []), (1, .ptr (some a2)), (2, .ptr (some a3)), (4, .int .i64 a6), (10, a4.v), (11, .int .i64 a5), (12, .int .i64 a6), (18, .int .i64 (IntKind.wrap .i64 (n8 - 1))), (19, .int .i64 0)]) h) (
 some (.tup [], h)) := (kc _ h).trans (by kernel_rfl)
theorem ks0 (a1 : Nat) (a2 : Sl) (a3 : Int) (a4 : Int) (h : AH) : go (.pt F.kb2 Td.kjf [(0, .func (.yield a1) [] []), (6, a2.v), (7, .int .i64 a3), (8, .int .i64 a4)]) h =
 cond (decide (a4 < a3)) (
 (idx a2.ref a2.len a4 1).bind fun r5 =>
 ((h.cell r5).bind (AV.asInt .u64)).bind fun n6 =>
 go (.pt F.kb2 Td.knw [(0, .func (.yield a1) [] []), (3, .int .i64 a4), (4, .int .u64 n6), (6, a2.v), (7, .int .i64 a3), (8, .int .i64 a4)]) h) (
 some (.tup [], h)) := (kc _ h).trans (by kernel_rfl)
theorem k32 (a1 : Sl) (a2 : Sl) (h : AH) : go (.fn F.kgw [a1.v, a2.v]) h =
 newK h (.cells [a1.v, a2.v] T.kw) fun h3r h3 =>
 (go (.fn F.kfo [(⟨some h3r, 2, .is 2⟩ : Sl).v]) h3).bind fun q4 =>
 ((some q4.1).bind AV.asBool).bind fun b5 =>
 cond (!b5) (
 some (.tup [(⟨none, 0, .is 0⟩ : Sl).v, .int .i64 1], q4.2)) (
 (go (.fn F.kk9 [a1.v, a2.v]) q4.2).bind fun q6 =>
 ((some q6.1).bind AV.asSl).bind fun l7 =>
 (go (.fn F.kit [l7.v]) q6.2).bind fun q8 =>
 (AV.asTup2 q8.1).bind fun p9 =>
 ((some p9.1).bind AV.asSl).bind fun l10 =>
 ((some p9.2).bind (AV.asInt .i64)).bind fun n11 =>
 some (.tup [l10.v, .int .i64 n11], q8.2)) := (kc _ h).trans (by kernel_rfl)
theorem kbce (a1 : Sl) (a2 : Sl) (h : AH) : go (.fn F.kfn [a1.v, a2.v]) h =
 newK h (.cells [a1.v, a2.v] T.kw) fun h3r h3 =>
 (go (.fn F.kfo [(⟨some h3r, 2, .is 2⟩ : Sl).v]) h3).bind fun q4 =>
 ((some q4.1).bind AV.asBool).bind fun b5 =>
 cond (!b5) (
 some (.tup [(⟨none, 0, .is 0⟩ : Sl).v, (⟨none, 0, .is 0⟩ : Sl).v, .int .i64 1], q4.2)) (
 cond (decide ((a2.len : Int) = 0)) (
 some (.tup [(⟨none, 0, .is 0⟩ : Sl).v, (⟨none, 0, .is 0⟩ : Sl).v, .int .i64 3], q4.2)) (
 (go (.fn F.kd5 [a1.v, a2.v]) q4.2).bind fun q6 =>
 ((some q6.1).bind (AV.asInt .i64)).bind fun n7 =>
 cond (decide (n7 < 0)) (
 (go (.fn F.kf9 [a1.v]) q6.2).bind fun q8 =>
 ((some q8.1).bind AV.asSl).bind fun l9 =>
 some (.tup [(⟨none, 0, .is 0⟩ : Sl).v, l9.v, .int .i64 0], q8.2)) (
 cond (decide ((a2.len : Int) = 1)) (
 (idx a2.ref a2.len 0 1).bind fun r10 =>
 ((q6.2.cell r10).bind (AV.asInt .u64)).bind fun n11 =>
 (go (.fn F.ker [a1.v, .int .u64 n11]) q6.2).bind fun q12 =>
 (AV.asTup2 q12.1).bind fun p13 =>
 ((some p13.1).bind AV.asSl).bind fun l14 =>
 ((some p13.2).bind (AV.asInt .u64)).bind fun n15 =>
 (go (.fn F.ke7 [.int .u64 n15]) q12.2).bind fun q16 =>
 ((some q16.1).bind AV.asSl).bind fun l17 =>
 some (.tup [l14.v, l17.v, .int .i64 0], q16.2)) (
 (go (.fn F.kbz [a1.v, a2.v]) q6.2).bind fun q18 =>
 (AV.asTup2 q18.1).bind fun p19 =>
 ((some p19.1).bind AV.asSl).bind fun l20 =>
 ((some p19.2).bind AV.asSl).bind fun l21 =>
 some (.tup [l20.v, l21.v, .int .i64 0], q18.2))))) := (kc _ h).trans (by kernel_rfl)
theorem kzw (a1 : Sl) (a2 : Sl) (h : AH) : go (.fn F.kcj [a1.v, a2.v]) h =
 (kbs (IntKind.wrap .i64 ((a1.len : Int) + (a2.len : Int))) (IntKind.wrap .i64 ((a1.len : Int) + (a2.len : Int))) T.ke (Pg.bytesOf T.ke) [.int .u64 0] h).bind fun q3 =>
 go (.pt F.kcj Td.knf [(1, a2.v), (5, q3.1.v), (20, a1.v), (21, .int .i64 (a1.len : Int)), (22, .int .i64 0)]) q3.2 := (kc _ h).trans (by kernel_rfl)
theorem kzo (a1 : Sl) (a2 : Ref) (h : AH) : go (.fn F.kh7 [a1.v, .ptr (some a2)]) h =
 ((h.cell a2).bind (AV.asInt .i64)).bind fun n3 =>
 (cutSl a1 0 (imin n3 (a1.len : Int)) 1).bind fun l4 =>
 (go (.fn F.kbe [l4.v]) h).bind fun q5 =>
 ((some q5.1).bind AV.asSl).bind fun l6 =>
 some (l6.v, q5.2) := (kc _ h).trans (by kernel_rfl)
theorem kbcf (a1 : Sl) (a2 : Ref) (h : AH) : go (.fn F.kh8 [a1.v, .ptr (some a2)]) h =
 ((h.cell a2).bind (AV.asInt .i64)).bind fun n3 =>
 (cutSl a1 (imin n3 (a1.len : Int)) (a1.len : Int) 1).bind fun l4 =>
 some (l4.v, h) := (kc _ h).trans (by kernel_rfl)
theorem k5b (a1 : Sl) (a2 : Sl) (h : AH) : go (.fn F.kcq [a1.v, a2.v]) h =
 cond (decide ((a1.len : Int) < (a2.len : Int))) (
 (kbs (IntKind.wrap .i64 ((a2.len : Int) + 1)) (IntKind.wrap .i64 ((a2.len : Int) + 1)) T.ke (Pg.bytesOf T.ke) [.int .u64 0] h).bind fun q3 =>
 go (.pt F.kcq Td.kfw [(0, a2.v), (1, a1.v), (5, q3.1.v), (6, .int .u64 0), (21, .int .i64 (a2.len : Int)), (22, .int .i64 0)]) q3.2) (
 (kbs (IntKind.wrap .i64 ((a1.len : Int) + 1)) (IntKind.wrap .i64 ((a1.len : Int) + 1)) T.ke (Pg.bytesOf T.ke) [.int .u64 0] h).bind fun q4 =>
 go (.pt F.kcq Td.kfw [(0, a1.v), (1, a2.v), (5, q4.1.v), (6, .int .u64 0), (21, .int .i64 (a1.len : Int)), (22, .int .i64 0)]) q4.2) := (kc _ h).trans (by kernel_rfl)
theorem kn6 (a1 : Sl) (h : AH) : go (.fn F.kbe [a1.v]) h =
 go (.pt F.kbe Td.kko [(0, a1.v), (3, .int .i64 (a1.len : Int))]) h := (kc _ h).trans (by kernel_rfl)
theorem kyb (a1 : Sl) (a2 : Sl) (h : AH) : go (.fn F.kct [a1.v, a2.v]) h =
 (kbs (a1.len : Int) (a1.len : Int) T.ke (Pg.bytesOf T.ke) [.int .u64 0] h).bind fun q3 =>
 go (.pt F.kct Td.kip [(0, a1.v), (1, a2.v), (5, q3.1.v), (6, .int .u64 0), (13, .int .i64 (a1.len : Int)), (14, .int .i64 0)]) q3.2 := (kc _ h).trans (by kernel_rfl)
theorem k7h (a1 : Sl) (a2 : Sl) (a3 : Int) (h : AH) : go (.fn F.kcy [a1.v, a2.v, .int .i64 a3]) h =
 go (.pt F.kcy Td.kg6 [(0, a1.v), (1, a2.v), (2, .int .i64 a3), (6, .int .u64 0), (7, .int .i64 a3)]) h := (kc _ h).trans (by kernel_rfl)
theorem kx8 (a1 : Sl) (a2 : Sl) (a3 : Sl) (a4 : Int) (a5 : Sl) (a6 : Sl) (h : AH) : go (.fn F.kch [.agg [a1.v, a2.v, a3.v], .agg [.int .i64 a4, a5.v], a6.v]) h =
 newK h (.cells [a1.v, a2.v, a3.v] T.kea) fun h7r h7 =>
 newK h7 (.cells [.int .i64 a4, a5.v] T.ks) fun h8r h8 =>
 newK h8 (.cells [a6.v] T.ke6) fun h9r h9 =>
 ((h9.cell (h7r.add 0)).bind AV.asSl).bind fun l10 =>
 ((h9.cell (h7r.add 1)).bind AV.asSl).bind fun l11 =>
 ((h9.cell (h7r.add 2)).bind AV.asSl).bind fun l12 =>
 ((h9.cell (h8r.add 0)).bind (AV.asInt .i64)).bind fun n13 =>
 ((h9.cell (h8r.add 1)).bind AV.asSl).bind fun l14 =>
 ((h9.cell h9r).bind AV.asSl).bind fun l15 =>
 (go (.fn F.kp2 [.agg [l10.v, l11.v, l12.v], .agg [.int .i64 n13, l14.v], .int .i64 (l15.len : Int)]) h9).bind fun q16 =>
 ((some q16.1).bind (AV.asInt .i64)).bind fun n17 =>
 cond (!decide (n17 = 0)) (
 some (.tup [(⟨none, 0, .is 0⟩ : Sl).v, .int .i64 n17], q16.2)) (
 ((q16.2.cell h9r).bind AV.asSl).bind fun l18 =>
 (go (.fn F.kc3 [l18.v, .func (.func F.kcu) [] []]) q16.2).bind fun q19 =>
 ((some q19.1).bind AV.asBool).bind fun b20 =>
 cond b20 (
 some (.tup [(⟨none, 0, .is 0⟩ : Sl).v, .int .i64 1], q19.2)) (
 newK q19.2 (.cells [(⟨none, 0, .is 0⟩ : Sl).v] T.kg1) fun h21r h21 =>
 ((h21.cell (h7r.add 0)).bind AV.asSl).bind fun l22 =>
 ((h21.cell (h7r.add 1)).bind AV.asSl).bind fun l23 =>
 ((h21.cell (h7r.add 2)).bind AV.asSl).bind fun l24 =>
 ((h21.cell (h8r.add 0)).bind (AV.asInt .i64)).bind fun n25 =>
 ((h21.cell (h8r.add 1)).bind AV.asSl).bind fun l26 =>
 (go (.fn F.kqw [.agg [l22.v, l23.v, l24.v], .agg [.int .i64 n25, l26.v]]) h21).bind fun q27 =>
 go (.pt F.kch Tr.kxa [(0, .agg [a1.v, a2.v, a3.v]), (1, .agg [.int .i64 a4, a5.v]), (2, a6.v), (3, .ptr (some h7r)), (4, .ptr (some h8r)), (5, .ptr (some h9r)), (6, (⟨none, 0, .is 0⟩ : Sl).v), (7, .int .i64 0), (8, .int .i64 n17), (9, .ptr (some h21r)), (15, .agg [l10.v, l11.v, l12.v]), (16, .agg [.int .i64 n13, l14.v]), (17, l15.v), (18, .int .i64 (l15.len : Int)), (19, .int .i64 n17), (20, .int .i64 n17), (21, .bool false), (23, l18.v), (24, .bool false), (25, .agg [l22.v, l23.v, l24.v]), (26, .agg [.int .i64 n25, l26.v]), (27, q27.1)]) q27.2)) := (kc _ h).trans (by kernel_rfl)
theorem kbco (a1 : Sl) (h : AH) : go (.fn F.kl0 [a1.v]) h =
 (go (.fn F.kjs [a1.v]) h).bind fun q2 =>
 ((some q2.1).bind (AV.asInt .i64)).bind fun n3 =>
 (go (.fn F.kco [a1.v]) q2.2).bind fun q4 =>
 ((some q4.1).bind AV.asBool).bind fun b5 =>
 cond b5 (
 (go (.fn F.kkq [a1.v, .int .i64 0]) q4.2).bind fun q6 =>
 ((some q6.1).bind AV.asBool).bind fun b7 =>
 cond b7 (
 cond (decide (n3 ≥ 15)) (
 some (.bool (decide (n3 ≤ 80)), q6.2)) (
 some (.bool false, q6.2))) (
 some (.bool false, q6.2))) (
 some (.bool false, q4.2)) := (kc _ h).trans (by kernel_rfl)
theorem k4m (a1 : Sl) (a2 : Sl) (h : AH) : go (.fn F.kl9 [a1.v, a2.v]) h =
 (go (.fn F.kl0 [a1.v]) h).bind fun q3 =>
 ((some q3.1).bind AV.asBool).bind fun b4 =>
 cond b4 (
 (go (.fn F.kpa [a1.v]) q3.2).bind fun q5 =>
 ((some q5.1).bind AV.asSl).bind fun l6 =>
 (go (.fn F.krd [a2.v, a1.v, l6.v]) q5.2).bind fun q7 =>
 ((some q7.1).bind AV.asBool).bind fun b8 =>
 some (.bool b8, q7.2)) (
 some (.bool false, q3.2)) := (kc _ h).trans (by kernel_rfl)
theorem k8p (a1 : Sl) (a2 : Sl) (h : AH) : go (.fn F.kfq [a1.v, a2.v]) h =
 (go (.fn F.kco [a1.v]) h).bind fun q3 =>
 ((some q3.1).bind AV.asBool).bind fun b4 =>
 cond (!b4) (
 some (.tup [(⟨none, 0, .is 0⟩ : Sl).v, .int .i64 1], q3.2)) (
 (go (.fn F.kco [a2.v]) q3.2).bind fun q5 =>
 ((some q5.1).bind AV.asBool).bind fun b6 =>
 cond (!b6) (
 some (.tup [(⟨none, 0, .is 0⟩ : Sl).v, .int .i64 1], q5.2)) (
 newK q5.2 (.cells [.int .u64 1] T.ke) fun h7r h7 =>
 (go (.fn F.kgb [a2.v, (⟨some h7r, 1, .is 1⟩ : Sl).v]) h7).bind fun q8 =>
 ((some q8.1).bind (AV.asInt .i64)).bind fun n9 =>
 cond (decide (n9 ≤ 0)) (
 some (.tup [(⟨none, 0, .is 0⟩ : Sl).v, .int .i64 1], q8.2)) (
 (go (.fn F.kfn [a1.v, a2.v]) q8.2).bind fun q10 =>
 (AV.asTup3 q10.1).bind fun p11 =>
 ((some p11.1).bind AV.asSl).bind fun l12 =>
 ((some p11.2.1).bind AV.asSl).bind fun l13 =>
 ((some p11.2.2).bind (AV.asInt .i64)).bind fun n14 =>
 newK q10.2 (.cells [(⟨none, 0, .is 0⟩ : Sl).v] T.kw) fun h15r h15 =>
 (h15.puts h15r [l13.v]).bind fun h16 =>
 newK h16 (.cells [(⟨none, 0, .is 0⟩ : Sl).v] T.kw) fun h17r h17 =>
 (h17.puts h17r [a2.v]).bind fun h18 =>
 (go (.fn F.knt [.int .i64 1]) h18).bind fun q19 =>
 (AV.asAgg q19.1).bind fun cs20 =>
 cond (Nat.beq cs20.length 2) (
 ((cs20[0]?).bind AV.asBool).bind fun b21 =>
 ((cs20[1]?).bind AV.asSl).bind fun l22 =>
 newK q19.2 (.cells [.bool false, (⟨none, 0, .is 0⟩ : Sl).v] T.kf) fun h23r h23 =>
 newK h23 (.cells [.bool false, (⟨none, 0, .is 0⟩ : Sl).v] T.kf) fun h24r h24 =>
 (h24.puts h23r [.bool false, (⟨none, 0, .is 0⟩ : Sl).v]).bind fun h25 =>
 (h25.puts h24r [.bool b21, l22.v]).bind fun h26 =>
 go (.pt F.kfq Td.kk5 [(1, a2.v), (7, .ptr (some h15r)), (9, .ptr (some h17r)), (10, .ptr (some h23r)), (12, .func (.func F.kh6) [] [.ptr (some h17r), .ptr (some h15r), .ptr (some h24r), .ptr (some h23r)])]) h26) none))) := (kc _ h).trans (by kernel_rfl)
theorem ky8 (a1 : Sl) (h : AH) : go (.fn F.kp0 [a1.v]) h =
 (go (.fn F.kgw [a1.v, a1.v]) h).bind fun q2 =>
 (AV.asTup2 q2.1).bind fun p3 =>
 ((some p3.1).bind AV.asSl).bind fun l4 =>
 ((some p3.2).bind (AV.asInt .i64)).bind fun n5 =>
 newK q2.2 (.cells [(⟨none, 0, .is 0⟩ : Sl).v] T.kw) fun h6r h6 =>
 (h6.puts h6r [l4.v]).bind fun h7 =>
 some (.func (.func F.kgh) [] [.ptr (some h6r)], h7) := (kc _ h).trans (by kernel_rfl)
theorem k6e (a1 : Sl) (h : AH) : go (.fn F.kic [a1.v]) h =
 (go (.fn F.kbk [a1.v]) h).bind fun q2 =>
 ((some q2.1).bind AV.asBool).bind fun b3 =>
 (go (.fn F.keq [a1.v]) q2.2).bind fun q4 =>
 ((some q4.1).bind (AV.asInt .i64)).bind fun n5 =>
 cond b3 (
 cond (decide ((a1.len : Int) > 0)) (
 (idx a1.ref a1.len 0 1).bind fun r6 =>
 ((q4.2.cell r6).bind (AV.asInt .u64)).bind fun n7 =>
 cond (decide ((Int.tmod n7 2) = 1)) (
 cond (decide (n5 ≥ 15)) (
 some (.bool (decide (n5 ≤ 80)), q4.2)) (
 some (.bool false, q4.2))) (
 some (.bool false, q4.2))) (
 some (.bool false, q4.2))) (
 some (.bool false, q4.2)) := (kc _ h).trans (by kernel_rfl)
theorem kbbu (a1 : Sl) (a2 : Sl) (h : AH) : go (.fn F.ki3 [a1.v, a2.v]) h =
 (go (.fn F.kic [a1.v]) h).bind fun q3 =>
 ((some q3.1).bind AV.asBool).bind fun b4 =>
 cond b4 (
 (go (.fn F.kji [a1.v]) q3.2).bind fun q5 =>
 ((some q5.1).bind AV.asSl).bind fun l6 =>
 (go (.fn F.kms [a2.v, a1.v, l6.v]) q5.2).bind fun q7 =>
 ((some q7.1).bind AV.asBool).bind fun b8 =>
 some (.bool b8, q7.2)) (
 some (.bool false, q3.2)) := (kc _ h).trans (by kernel_rfl)
theorem k6n (a1 : Sl) (h : AH) : go (.fn F.kji [a1.v]) h =
 (go (.fn F.kj7 [a1.v, a1.v]) h).bind fun q2 =>
 (AV.asTup2 q2.1).bind fun p3 =>
 ((some p3.1).bind AV.asSl).bind fun l4 =>
 ((some p3.2).bind (AV.asInt .i64)).bind fun n5 =>
 some (l4.v, q2.2) := (kc _ h).trans (by kernel_rfl)
theorem kbcd (a1 : Sl) (a2 : Sl) (h : AH) : go (.fn F.kf1 [a1.v, a2.v]) h =
 (go (.fn F.kbk [a1.v]) h).bind fun q3 =>
 ((some q3.1).bind AV.asBool).bind fun b4 =>
 (go (.fn F.kbk [a2.v]) q3.2).bind fun q5 =>
 ((some q5.1).bind AV.asBool).bind fun b6 =>
 cond (!b4) (
 some (.tup [(⟨none, 0, .is 0⟩ : Sl).v, .int .i64 1], q5.2)) (
 cond (!b6) (
 some (.tup [(⟨none, 0, .is 0⟩ : Sl).v, .int .i64 1], q5.2)) (
 (go (.fn F.kdd [.int .u64 2]) q5.2).bind fun q7 =>
 ((some q7.1).bind AV.asSl).bind fun l8 =>
 (go (.fn F.kgv [a2.v, l8.v]) q7.2).bind fun q9 =>
 ((some q9.1).bind (AV.asInt .i64)).bind fun n10 =>
 cond (decide (n10 < 0)) (
 some (.tup [(⟨none, 0, .is 0⟩ : Sl).v, .int .i64 1], q9.2)) (
 newK q9.2 (.cells [] T.ke) fun h11r h11 =>
 (kbf Pg T.ke a2.v h11).bind fun p13 =>
 (kp Pg (⟨some h11r, 0, .is 0⟩ : Sl) p13.1 p13.2 T.ke 1 h11).bind fun q12 =>
 (AV.asSl q12.1).bind fun l14 =>
 (go (.fn F.kiz [a1.v, a2.v]) q12.2).bind fun q15 =>
 ((some q15.1).bind AV.asSl).bind fun l16 =>
 newK q15.2 (.cells [.bool false, (⟨none, 0, .is 0⟩ : Sl).v] T.kf) fun h17r h17 =>
 (h17.puts h17r [.bool false, (⟨none, 0, .is 0⟩ : Sl).v]).bind fun h18 =>
 (go (.fn F.kk8 [.int .i64 1]) h18).bind fun q19 =>
 (AV.asAgg q19.1).bind fun cs20 =>
 cond (Nat.beq cs20.length 2) (
 ((cs20[0]?).bind AV.asBool).bind fun b21 =>
 ((cs20[1]?).bind AV.asSl).bind fun l22 =>
 newK q19.2 (.cells [.bool false, (⟨none, 0, .is 0⟩ : Sl).v] T.kf) fun h23r h23 =>
 (h23.puts h23r [.bool b21, l22.v]).bind fun h24 =>
 go (.pt F.kf1 Td.knx [(1, a2.v), (8, l14.v), (9, l16.v), (10, .ptr (some h17r)), (11, .ptr (some h23r))]) h24) none))) := (kc _ h).trans (by kernel_rfl)
theorem k73 (a1 : Sl) (a2 : Sl) (a3 : Sl) (h : AH) : go (.fn F.kqp [a1.v, a2.v, a3.v]) h =
 (go (.fn F.kj7 [a1.v, a2.v]) h).bind fun q4 =>
 (AV.asTup2 q4.1).bind fun p5 =>
 ((some p5.1).bind AV.asSl).bind fun l6 =>
 ((some p5.2).bind (AV.asInt .i64)).bind fun n7 =>
 (go (.fn F.kiz [l6.v, a3.v]) q4.2).bind fun q8 =>
 ((some q8.1).bind AV.asSl).bind fun l9 =>
 some (l9.v, q8.2) := (kc _ h).trans (by kernel_rfl)
theorem kub (a1 : Sl) (a2 : Sl) (a3 : Int) (h : AH) : go (.pt F.kf8 Td.kk2 [(0, a1.v), (1, a2.v), (5, .int .i64 a3)]) h =
 cond (decide (a3 < (a1.len : Int))) (
 (idx a1.ref a1.len a3 1).bind fun r4 =>
 ((h.cell r4).bind (AV.asInt .u64)).bind fun n5 =>
 (idx a2.ref a2.len a3 1).bind fun r6 =>
 ((h.cell r6).bind (AV.asInt .u64)).bind fun n7 =>
 cond (!decide (n5 = n7)) (
 some (.bool false, h)) (
 go (.pt F.kf8 Td.kk2 [(0, a1.v), (1, a2.v), (5, .int .i64 (IntKind.wrap .i64 (a3 + 1)))]) h)) (
 some (.bool true, h)) := (kc _ h).trans (by kernel_rfl)
theorem ktf (a1 : Nat) (a2 : Ref) (a3 : Ref) (a4 : Int) (a5 : Sl) (a6 : Int) (a7 : Int) (a8 : Int) (a9 : Int) (h : AH) : go (.pt F.kb0 Td.kjr [(0, .func (.yield a1) [] []), (1, .ptr (some a2)), (2, .ptr (some a3)), (4, .int .i64 a4), (10, a5.v), (11, .int .i64 a6), (12, .int .i64 a7), (18, .int .i64 a8), (19, .int .i64 a9)]) h =
 cond (decide (a9 < a8)) (
 ((h.cell (a2.add 0)).bind AV.asSl).bind fun l10 =>
 ((h.cell (a2.add 1)).bind AV.asSl).bind fun l11 =>
 ((h.cell (a2.add 2)).bind AV.asSl).bind fun l12 =>
 (go (.fn F.ke8 [.agg [l10.v, l11.v, l12.v], .int .i64 a4, .int .i64 a9]) h).bind fun q13 =>
 (AV.asTup2 q13.1).bind fun p14 =>
 (AV.asAgg p14.1).bind fun cs15 =>
 cond (Nat.beq cs15.length 2) (
 ((cs15[0]?).bind (AV.asInt .i64)).bind fun n16 =>
 ((cs15[1]?).bind AV.asSl).bind fun l17 =>
 ((some p14.2).bind (AV.asInt .i64)).bind fun n18 =>
 newK q13.2 (.cells [.int .i64 0, (⟨none, 0, .is 0⟩ : Sl).v] T.ks) fun h19r h19 =>
 (h19.puts h19r [.int .i64 n16, l17.v]).bind fun h20 =>
 ((h20.cell (h19r.add 0)).bind (AV.asInt .i64)).bind fun n21 =>
 ((h20.cell (h19r.add 1)).bind AV.asSl).bind fun l22 =>
 ((h20.cell (a3.add 0)).bind (AV.asInt .i64)).bind fun n23 =>
 ((h20.cell (a3.add 1)).bind AV.asSl).bind fun l24 =>
 (go (.fn F.knc [.agg [.int .i64 n21, l22.v], .agg [.int .i64 n23, l24.v]]) h20).bind fun q25 =>
 (AV.asTup2 q25.1).bind fun p26 =>
 (AV.asAgg p26.1).bind fun cs27 =>
 cond (Nat.beq cs27.length 2) (
 ((cs27[0]?).bind (AV.asInt .i64)).bind fun n28 =>
 ((cs27[1]?).bind AV.asSl).bind fun l29 =>
 ((some p26.2).bind (AV.asInt .i64)).bind fun n30 =>
 (q25.2.puts h19r [.int .i64 n28, l29.v]).bind fun h31 =>
 ((h31.cell (h19r.add 0)).bind (AV.asInt .i64)).bind fun n32 =>
 ((h31.cell (h19r.add 1)).bind AV.asSl).bind fun l33 =>
 (go (.fn F.kl5 [.agg [.int .i64 n32, l33.v]]) h31).bind fun q34 =>
 ((some q34.1).bind AV.asSl).bind fun l35 =>
 (go (.round a1 [.agg [.int .i64 a4, .int .i64 a9], l35.v]) q34.2).bind fun q36 =>
 ((some q36.1).bind AV.asBool).bind fun b37 =>
 cond (!b37) (
 some (.tup [], q36.2)) (
 go (.pt F.kb0 Td.kjr [(0, .func (.yield a1) [] []), (1, .ptr (some a2)), (2, .ptr (some a3)), (4, .int .i64 a4), (10, a5.v), (11, .int .i64 a6), (12, .int .i64 a7), (18, .int .i64 a8), (19, .int .i64 (IntKind.wrap .i64 (a9 + 1)))]) q36.2)) none) none) (
 go (.pt F.kb0 Td.kks [(0, .func (.yield a1) [] []), (1, .ptr (some a2)), (2, .ptr (some a3)), (10, a5.v), (11, .int .i64 a6), (12, .int .i64 (IntKind.wrap .i64 (a7 + 1)))]) h) := (kc _ h).trans (by kernel_rfl)
theorem kvk (a1 : Nat) (a2 : Int) (a3 : Int) (a4 : Sl) (a5 : Int) (a6 : Int) (h : AH) : go (.pt F.kb2 Td.knw [(0, .func (.yield a1) [] []), (3, .int .i64 a2), (4, .int .u64 a3), (6, a4.v), (7, .int .i64 a5), (8, .int .i64 a6)]) h =
 cond (!decide (a3 = 0)) (
 (go (.fn F.ko8 [.int .u64 a3]) h).bind fun q7 =>
 ((some q7.1).bind (AV.asInt .i64)).bind fun n8 =>
 (go (.round a1 [.int .i64 (IntKind.wrap .i64 ((IntKind.wrap .i64 (64 * a2)) + n8))]) q7.2).bind fun q9 =>
 ((some q9.1).bind AV.asBool).bind fun b10 =>
 cond (!b10) (
 some (.tup [], q9.2)) (
 go (.pt F.kb2 Td.knw [(0, .func (.yield a1) [] []), (3, .int .i64 a2), (4, .int .u64 (iand .u64 a3 (IntKind.wrap .u64 (a3 - 1)))), (6, a4.v), (7, .int .i64 a5), (8, .int .i64 a6)]) q9.2)) (
 go (.pt F.kb2 Td.kjf [(0, .func (.yield a1) [] []), (6, a4.v), (7, .int .i64 a5), (8, .int .i64 (IntKind.wrap .i64 (a6 + 1)))]) h) := (kc _ h).trans (by kernel_rfl)
theorem kbb0 (a1 : Sl) (h : AH) : go (.fn F.kfo [a1.v]) h =
 (go (.fn F.ks8 [a1.v, .func (.func F.kdo) [] []]) h).bind fun q2 =>
 ((some q2.1).bind AV.asBool).bind fun b3 =>
 some (.bool (!b3), q2.2) := (kc _ h).trans (by kernel_rfl)
theorem k9r (a1 : Sl) (a2 : Sl) (h : AH) : go (.fn F.kk9 [a1.v, a2.v]) h =
 newK h (.cells [.nilFunc] T.kbbs) fun h3r h3 =>
 (h3.puts h3r [.func (.func F.kjw) [] [.ptr (some h3r)]]).bind fun h4 =>
 (h4.cell h3r).bind fun v5 =>
 yieldK v5 [a1.v, a2.v] (fun y7 =>
 (go (.round y7.1 y7.2) h4).bind fun q6 =>
 ((some q6.1).bind AV.asSl).bind fun l9 =>
 some (l9.v, q6.2)) (
 (callV Pg go v5 [a1.v, a2.v] h4).bind fun q8 =>
 ((some q8.1).bind AV.asSl).bind fun l10 =>
 some (l10.v, q8.2)) := (kc _ h).trans (by kernel_rfl)
theorem k74 (a1 : Sl) (h : AH) : go (.fn F.kit [a1.v]) h =
 (go (.fn F.kbe [a1.v]) h).bind fun q2 =>
 ((some q2.1).bind AV.asSl).bind fun l3 =>
 cond (decide ((l3.len : Int) > 64)) (
 some (.tup [(⟨none, 0, .is 0⟩ : Sl).v, .int .i64 4], q2.2)) (
 some (.tup [l3.v, .int .i64 0], q2.2)) := (kc _ h).trans (by kernel_rfl)
theorem kyo (a1 : Sl) (a2 : Sl) (h : AH) : go (.fn F.kd5 [a1.v, a2.v]) h =
 cond (!decide ((a1.len : Int) = (a2.len : Int))) (
 cond (decide ((a1.len : Int) < (a2.len : Int))) (
 some (.int .i64 (-1), h)) (
 some (.int .i64 1, h))) (
 go (.pt F.kd5 Td.km4 [(0, a1.v), (1, a2.v), (5, .int .i64 (IntKind.wrap .i64 ((a1.len : Int) - 1)))]) h) := (kc _ h).trans (by kernel_rfl)
theorem k7g (a1 : Sl) (h : AH) : go (.fn F.kf9 [a1.v]) h =
 cond a1.ref.isNone (
 some ((⟨none, 0, .is 0⟩ : Sl).v, h)) (
 newK h (.cells [] T.ke) fun h2r h2 =>
 (kbf Pg T.ke a1.v h2).bind fun p4 =>
 (kp Pg (⟨some h2r, 0, .is 0⟩ : Sl) p4.1 p4.2 T.ke 1 h2).bind fun q3 =>
 (AV.asSl q3.1).bind fun l5 =>
 some (l5.v, q3.2)) := (kc _ h).trans (by kernel_rfl)
theorem k1m (a1 : Sl) (a2 : Int) (h : AH) : go (.fn F.ker [a1.v, .int .u64 a2]) h =
 (kbs (a1.len : Int) (a1.len : Int) T.ke (Pg.bytesOf T.ke) [.int .u64 0] h).bind fun q3 =>
 go (.pt F.ker Td.klt [(0, a1.v), (1, .int .u64 a2), (6, q3.1.v), (7, .int .u64 0), (8, .int .i64 (IntKind.wrap .i64 ((a1.len : Int) - 1)))]) q3.2 := (kc _ h).trans (by kernel_rfl)
theorem k52 (a1 : Int) (h : AH) : go (.fn F.ke7 [.int .u64 a1]) h =
 newK h (.cells [.int .u64 a1] T.ke) fun h2r h2 =>
 (go (.fn F.kbe [(⟨some h2r, 1, .is 1⟩ : Sl).v]) h2).bind fun q3 =>
 ((some q3.1).bind AV.asSl).bind fun l4 =>
 some (l4.v, q3.2) := (kc _ h).trans (by kernel_rfl)
theorem k0g (a1 : Sl) (a2 : Sl) (h : AH) : go (.fn F.kbz [a1.v, a2.v]) h =
 (idx a2.ref a2.len (IntKind.wrap .i64 ((a2.len : Int) - 1)) 1).bind fun r3 =>
 ((h.cell r3).bind (AV.asInt .u64)).bind fun n4 =>
 (go (.fn F.kmn [.int .u64 n4]) h).bind fun q5 =>
 ((some q5.1).bind (AV.asInt .i64)).bind fun n6 =>
 (go (.fn F.kd6 [a1.v, .int .u64 (IntKind.wrap .u64 n6)]) q5.2).bind fun q7 =>
 ((some q7.1).bind AV.asSl).bind fun l8 =>
 (go (.fn F.kd6 [a2.v, .int .u64 (IntKind.wrap .u64 n6)]) q7.2).bind fun q9 =>
 ((some q9.1).bind AV.asSl).bind fun l10 =>
 (go (.fn F.kbe [l10.v]) q9.2).bind fun q11 =>
 ((some q11.1).bind AV.asSl).bind fun l12 =>
 (kbs (IntKind.wrap .i64 ((l8.len : Int) - (l12.len : Int))) (IntKind.wrap .i64 ((l8.len : Int) - (l12.len : Int))) T.ke (Pg.bytesOf T.ke) [.int .u64 0] q11.2).bind fun q13 =>
 go (.pt F.kbz Td.knj [(6, .int .u64 (IntKind.wrap .u64 n6)), (7, l8.v), (8, l12.v), (9, .int .i64 (l12.len : Int)), (10, q13.1.v), (11, .int .i64 (IntKind.wrap .i64 ((q13.1.len : Int) - 1)))]) q13.2 := (kc _ h).trans (by kernel_rfl)
theorem kbaw (a1 : Sl) (a2 : Sl) (a3 : Sl) (a4 : Int) (a5 : Int) (h : AH) : go (.pt F.kcj Td.knf [(1, a1.v), (5, a2.v), (20, a3.v), (21, .int .i64 a4), (22, .int .i64 a5)]) h =
 cond (decide (a5 < a4)) (
 (idx a3.ref a3.len a5 1).bind fun r6 =>
 ((h.cell r6).bind (AV.asInt .u64)).bind fun n7 =>
 go (.pt F.kcj Td.knq [(1, a1.v), (5, a2.v), (6, .int .i64 a5), (7, .int .u64 n7), (8, .int .u64 0), (20, a3.v), (21, .int .i64 a4), (22, .int .i64 a5), (27, a1.v), (28, .int .i64 (a1.len : Int)), (29, .int .i64 0)]) h) (
 (go (.fn F.kbe [a2.v]) h).bind fun q8 =>
 ((some q8.1).bind AV.asSl).bind fun l9 =>
 some (l9.v, q8.2)) := (kc _ h).trans (by kernel_rfl)
theorem ku0 (a1 : Sl) (a2 : Sl) (a3 : Sl) (a4 : Int) (a5 : Int) (a6 : Int) (h : AH) : go (.pt F.kcq Td.kfw [(0, a1.v), (1, a2.v), (5, a3.v), (6, .int .u64 a4), (21, .int .i64 a5), (22, .int .i64 a6)]) h =
 cond (decide (a6 < a5)) (
 cond (decide (a6 < (a2.len : Int))) (
 (idx a2.ref a2.len a6 1).bind fun r7 =>
 ((h.cell r7).bind (AV.asInt .u64)).bind fun n8 =>
 (idx a1.ref a1.len a6 1).bind fun r9 =>
 ((h.cell r9).bind (AV.asInt .u64)).bind fun n10 =>
 ((prim "math/bits.Add64" [.int .u64 n10, .int .u64 n8, .int .u64 a4]).map fun v => (v, h)).bind fun q11 =>
 (AV.asTup2 q11.1).bind fun p12 =>
 ((some p12.1).bind (AV.asInt .u64)).bind fun n13 =>
 ((some p12.2).bind (AV.asInt .u64)).bind fun n14 =>
 (idx a3.ref a3.len a6 1).bind fun r15 =>
 (q11.2.puts r15 [.int .u64 n13]).bind fun h16 =>
 go (.pt F.kcq Td.kfw [(0, a1.v), (1, a2.v), (5, a3.v), (6, .int .u64 n14), (21, .int .i64 a5), (22, .int .i64 (IntKind.wrap .i64 (a6 + 1)))]) h16) (
 (idx a1.ref a1.len a6 1).bind fun r17 =>
 ((h.cell r17).bind (AV.asInt .u64)).bind fun n18 =>
 ((prim "math/bits.Add64" [.int .u64 n18, .int .u64 0, .int .u64 a4]).map fun v => (v, h)).bind fun q19 =>
 (AV.asTup2 q19.1).bind fun p20 =>
 ((some p20.1).bind (AV.asInt .u64)).bind fun n21 =>
 ((some p20.2).bind (AV.asInt .u64)).bind fun n22 =>
 (idx a3.ref a3.len a6 1).bind fun r23 =>
 (q19.2.puts r23 [.int .u64 n21]).bind fun h24 =>
 go (.pt F.kcq Td.kfw [(0, a1.v), (1, a2.v), (5, a3.v), (6, .int .u64 n22), (21, .int .i64 a5), (22, .int .i64 (IntKind.wrap .i64 (a6 + 1)))]) h24)) (
 (idx a3.ref a3.len (a1.len : Int) 1).bind fun r25 =>
 (h.puts r25 [.int .u64 a4]).bind fun h26 =>
 some (a3.v, h26)) := (kc _ h).trans (by kernel_rfl)
theorem kk6 (a1 : Sl) (a2 : Int) (h : AH) : go (.pt F.kbe Td.kko [(0, a1.v), (3, .int .i64 a2)]) h =
 cond (decide (a2 > 0)) (
 (idx a1.ref a1.len (IntKind.wrap .i64 (a2 - 1)) 1).bind fun r3 =>
 ((h.cell r3).bind (AV.asInt .u64)).bind fun n4 =>
 cond (decide (n4 = 0)) (
 go (.pt F.kbe Td.kko [(0, a1.v), (3, .int .i64 (IntKind.wrap .i64 (a2 - 1)))]) h) (
 (cutSl a1 0 a2 1).bind fun l5 =>
 some (l5.v, h))) (
 (cutSl a1 0 a2 1).bind fun l6 =>
 some (l6.v, h)) := (kc _ h).trans (by kernel_rfl)
theorem kww (a1 : Sl) (a2 : Sl) (a3 : Sl) (a4 : Int) (a5 : Int) (a6 : Int) (h : AH) : go (.pt F.kct Td.kip [(0, a1.v), (1, a2.v), (5, a3.v), (6, .int .u64 a4), (13, .int .i64 a5), (14, .int .i64 a6)]) h =
 cond (decide (a6 < a5)) (
 cond (decide (a6 < (a2.len : Int))) (
 (idx a2.ref a2.len a6 1).bind fun r7 =>
 ((h.cell r7).bind (AV.asInt .u64)).bind fun n8 =>
 (idx a1.ref a1.len a6 1).bind fun r9 =>
 ((h.cell r9).bind (AV.asInt .u64)).bind fun n10 =>
 ((prim "math/bits.Sub64" [.int .u64 n10, .int .u64 n8, .int .u64 a4]).map fun v => (v, h)).bind fun q11 =>
 (AV.asTup2 q11.1).bind fun p12 =>
 ((some p12.1).bind (AV.asInt .u64)).bind fun n13 =>
 ((some p12.2).bind (AV.asInt .u64)).bind fun n14 =>
 (idx a3.ref a3.len a6 1).bind fun r15 =>
 (q11.2.puts r15 [.int .u64 n13]).bind fun h16 =>
 go (.pt F.kct Td.kip [(0, a1.v), (1, a2.v), (5, a3.v), (6, .int .u64 n14), (13, .int .i64 a5), (14, .int .i64 (IntKind.wrap .i64 (a6 + 1)))]) h16) (
 (idx a1.ref a1.len a6 1).bind fun r17 =>
 ((h.cell r17).bind (AV.asInt .u64)).bind fun n18 =>
 ((prim "math/bits.Sub64" [.int .u64 n18, .int .u64 0, .int .u64 a4]).map fun v => (v, h)).bind fun q19 =>
 (AV.asTup2 q19.1).bind fun p20 =>
 ((some p20.1).bind (AV.asInt .u64)).bind fun n21 =>
 ((some p20.2).bind (AV.asInt .u64)).bind fun n22 =>
 (idx a3.ref a3.len a6 1).bind fun r23 =>
 (q19.2.puts r23 [.int .u64 n21]).bind fun h24 =>
 go (.pt F.kct Td.kip [(0, a1.v), (1, a2.v), (5, a3.v), (6, .int .u64 n22), (13, .int .i64 a5), (14, .int .i64 (IntKind.wrap .i64 (a6 + 1)))]) h24)) (
 some (a3.v, h)) := (kc _ h).trans (by kernel_rfl)
theorem k8v (a1 : Sl) (a2 : Sl) (a3 : Int) (a4 : Int) (a5 : Int) (h : AH) : go (.pt F.kcy Td.kg6 [(0, a1.v), (1, a2.v), (2, .int .i64 a3), (6, .int .u64 a4), (7, .int .i64 a5)]) h =
 cond (decide (a5 < (a1.len : Int))) (
 cond (decide ((IntKind.wrap .i64 (a5 - a3)) < (a2.len : Int))) (
 cond (decide ((IntKind.wrap .i64 (a5 - a3)) < (a2.len : Int))) (
 (idx a2.ref a2.len (IntKind.wrap .i64 (a5 - a3)) 1).bind fun r6 =>
 ((h.cell r6).bind (AV.asInt .u64)).bind fun n7 =>
 (idx a1.ref a1.len a5 1).bind fun r8 =>
 ((h.cell r8).bind (AV.asInt .u64)).bind fun n9 =>
 ((prim "math/bits.Add64" [.int .u64 n9, .int .u64 n7, .int .u64 a4]).map fun v => (v, h)).bind fun q10 =>
 (AV.asTup2 q10.1).bind fun p11 =>
 ((some p11.1).bind (AV.asInt .u64)).bind fun n12 =>
 ((some p11.2).bind (AV.asInt .u64)).bind fun n13 =>
 (idx a1.ref a1.len a5 1).bind fun r14 =>
 (q10.2.puts r14 [.int .u64 n12]).bind fun h15 =>
 go (.pt F.kcy Td.kg6 [(0, a1.v), (1, a2.v), (2, .int .i64 a3), (6, .int .u64 n13), (7, .int .i64 (IntKind.wrap .i64 (a5 + 1)))]) h15) (
 (idx a1.ref a1.len a5 1).bind fun r16 =>
 ((h.cell r16).bind (AV.asInt .u64)).bind fun n17 =>
 ((prim "math/bits.Add64" [.int .u64 n17, .int .u64 0, .int .u64 a4]).map fun v => (v, h)).bind fun q18 =>
 (AV.asTup2 q18.1).bind fun p19 =>
 ((some p19.1).bind (AV.asInt .u64)).bind fun n20 =>
 ((some p19.2).bind (AV.asInt .u64)).bind fun n21 =>
 (idx a1.ref a1.len a5 1).bind fun r22 =>
 (q18.2.puts r22 [.int .u64 n20]).bind fun h23 =>
 go (.pt F.kcy Td.kg6 [(0, a1.v), (1, a2.v), (2, .int .i64 a3), (6, .int .u64 n21), (7, .int .i64 (IntKind.wrap .i64 (a5 + 1)))]) h23)) (
 cond (decide (a4 > 0)) (
 cond (decide ((IntKind.wrap .i64 (a5 - a3)) < (a2.len : Int))) (
 (idx a2.ref a2.len (IntKind.wrap .i64 (a5 - a3)) 1).bind fun r24 =>
 ((h.cell r24).bind (AV.asInt .u64)).bind fun n25 =>
 (idx a1.ref a1.len a5 1).bind fun r26 =>
 ((h.cell r26).bind (AV.asInt .u64)).bind fun n27 =>
 ((prim "math/bits.Add64" [.int .u64 n27, .int .u64 n25, .int .u64 a4]).map fun v => (v, h)).bind fun q28 =>
 (AV.asTup2 q28.1).bind fun p29 =>
 ((some p29.1).bind (AV.asInt .u64)).bind fun n30 =>
 ((some p29.2).bind (AV.asInt .u64)).bind fun n31 =>
 (idx a1.ref a1.len a5 1).bind fun r32 =>
 (q28.2.puts r32 [.int .u64 n30]).bind fun h33 =>
 go (.pt F.kcy Td.kg6 [(0, a1.v), (1, a2.v), (2, .int .i64 a3), (6, .int .u64 n31), (7, .int .i64 (IntKind.wrap .i64 (a5 + 1)))]) h33) (
 (idx a1.ref a1.len a5 1).bind fun r34 =>
 ((h.cell r34).bind (AV.asInt .u64)).bind fun n35 =>
 ((prim "math/bits.Add64" [.int .u64 n35, .int .u64 0, .int .u64 a4]).map fun v => (v, h)).bind fun q36 =>
 (AV.asTup2 q36.1).bind fun p37 =>
 ((some p37.1).bind (AV.asInt .u64)).bind fun n38 =>
 ((some p37.2).bind (AV.asInt .u64)).bind fun n39 =>
 (idx a1.ref a1.len a5 1).bind fun r40 =>
 (q36.2.puts r40 [.int .u64 n38]).bind fun h41 =>
 go (.pt F.kcy Td.kg6 [(0, a1.v), (1, a2.v), (2, .int .i64 a3), (6, .int .u64 n39), (7, .int .i64 (IntKind.wrap .i64 (a5 + 1)))]) h41)) (
 some (.tup [], h)))) (
 some (.tup [], h)) := (kc _ h).trans (by kernel_rfl)
theorem k3a (a1 : Sl) (a2 : Sl) (a3 : Sl) (a4 : Int) (a5 : Sl) (a6 : Int) (h : AH) : go (.fn F.kp2 [.agg [a1.v, a2.v, a3.v], .agg [.int .i64 a4, a5.v], .int .i64 a6]) h =
 newK h (.cells [a1.v, a2.v, a3.v] T.kea) fun h7r h7 =>
 newK h7 (.cells [.int .i64 a4, a5.v] T.ks) fun h8r h8 =>
 ((h8.cell (h7r.add 0)).bind AV.asSl).bind fun l9 =>
 ((h8.cell (h7r.add 1)).bind AV.asSl).bind fun l10 =>
 ((h8.cell (h7r.add 2)).bind AV.asSl).bind fun l11 =>
 (go (.fn F.kfl [.agg [l9.v, l10.v, l11.v]]) h8).bind fun q12 =>
 ((some q12.1).bind AV.asBool).bind fun b13 =>
 cond (!b13) (
 some (.int .i64 20, q12.2)) (
 ((q12.2.cell (h8r.add 0)).bind (AV.asInt .i64)).bind fun n14 =>
 ((q12.2.cell (h8r.add 1)).bind AV.asSl).bind fun l15 =>
 (go (.fn F.khm [.agg [.int .i64 n14, l15.v]]) q12.2).bind fun q16 =>
 ((some q16.1).bind AV.asBool).bind fun b17 =>
 cond (!b17) (
 some (.int .i64 1, q16.2)) (
 ((q16.2.cell (h8r.add 0)).bind (AV.asInt .i64)).bind fun n18 =>
 ((q16.2.cell (h7r.add 0)).bind AV.asSl).bind fun l19 =>
 cond (!decide (n18 = (l19.len : Int))) (
 some (.int .i64 1, q16.2)) (
 ((q16.2.cell (h7r.add 0)).bind AV.asSl).bind fun l20 =>
 cond (!decide (a6 = (l20.len : Int))) (
 some (.int .i64 1, q16.2)) (
 some (.int .i64 0, q16.2))))) := (kc _ h).trans (by kernel_rfl)
theorem k44 (a1 : Sl) (h : AH) : go (.fn F.kc3 [a1.v, .func (.func F.kcu) [] []]) h =
 (go (.fn F.kbb [a1.v, .func (.func F.kcu) [] []]) h).bind fun q2 =>
 ((some q2.1).bind (AV.asInt .i64)).bind fun n3 =>
 some (.bool (decide (n3 ≥ 0)), q2.2) := (kc _ h).trans (by kernel_rfl)
theorem kbae (a1 : Sl) (a2 : Sl) (a3 : Sl) (a4 : Int) (a5 : Sl) (h : AH) : go (.fn F.kqw [.agg [a1.v, a2.v, a3.v], .agg [.int .i64 a4, a5.v]]) h =
 newK h (.cells [a1.v, a2.v, a3.v] T.kea) fun h6r h6 =>
 newK h6 (.cells [.int .i64 a4, a5.v] T.ks) fun h7r h7 =>
 some (.func (.func F.kb0) [] [.ptr (some h6r), .ptr (some h7r)], h7) := (kc _ h).trans (by kernel_rfl)
theorem k93 (a1 : Sl) (a2 : Sl) (a3 : Sl) (a4 : Int) (a5 : Sl) (a6 : Sl) (a7 : Ref) (a8 : Ref) (a9 : Ref) (a10 : Sl) (a11 : Int) (a12 : Int) (a13 : Ref) (a14 : Sl) (a15 : Sl) (a16 : Sl) (a17 : Int) (a18 : Sl) (a19 : Sl) (a20 : Int) (a21 : Int) (a22 : Int) (a23 : Bool) (a24 : Sl) (a25 : Bool) (a26 : Sl) (a27 : Sl) (a28 : Sl) (a29 : Int) (a30 : Sl) (a31 : AV) (h : AH) : go (.pt F.kch Tr.kxa [(0, .agg [a1.v, a2.v, a3.v]), (1, .agg [.int .i64 a4, a5.v]), (2, a6.v), (3, .ptr (some a7)), (4, .ptr (some a8)), (5, .ptr (some a9)), (6, a10.v), (7, .int .i64 a11), (8, .int .i64 a12), (9, .ptr (some a13)), (15, .agg [a14.v, a15.v, a16.v]), (16, .agg [.int .i64 a17, a18.v]), (17, a19.v), (18, .int .i64 a20), (19, .int .i64 a21), (20, .int .i64 a22), (21, .bool a23), (23, a24.v), (24, .bool a25), (25, .agg [a26.v, a27.v, a28.v]), (26, .agg [.int .i64 a29, a30.v]), (27, a31)]) h =
 funcK a31 fun g36 f37 c38 =>
 newM h (kgj Fx.kox F.kch 0 .ready none [(0, .agg [a1.v, a2.v, a3.v]), (1, .agg [.int .i64 a4, a5.v]), (2, a6.v), (3, .ptr (some a7)), (4, .ptr (some a8)), (5, .ptr (some a9)), (6, a10.v), (7, .int .i64 a11), (8, .int .i64 a12), (9, .ptr (some a13)), (15, .agg [a14.v, a15.v, a16.v]), (16, .agg [.int .i64 a17, a18.v]), (17, a19.v), (18, .int .i64 a20), (19, .int .i64 a21), (20, .int .i64 a22), (21, .bool a23), (23, a24.v), (24, .bool a25), (25, .agg [a26.v, a27.v, a28.v]), (26, .agg [.int .i64 a29, a30.v]), (27, a31)]) fun m32 h33 =>
 (callF Pg go g36 (f37 ++ [.func (.yield m32) [] []] ++ c38) h33).bind fun q34 =>
 (kgu m32 q34.2).bind fun p35 =>
 go (.pt F.kch ((p35.1.map Item.code).toList ++ Ta.kvm) [(0, .agg [a1.v, a2.v, a3.v]), (1, .agg [.int .i64 a4, a5.v]), (2, a6.v), (3, .ptr (some a7)), (4, .ptr (some a8)), (5, .ptr (some a9)), (6, a10.v), (7, .int .i64 a11), (8, .int .i64 a12), (9, .ptr (some a13)), (15, .agg [a14.v, a15.v, a16.v]), (16, .agg [.int .i64 a17, a18.v]), (17, a19.v), (18, .int .i64 a20), (19, .int .i64 a21), (20, .int .i64 a22), (21, .bool a23), (23, a24.v), (24, .bool a25), (25, .agg [a26.v, a27.v, a28.v]), (26, .agg [.int .i64 a29, a30.v]), (27, a31)]) p35.2 := (kc _ h).trans (by kernel_rfl)
theorem k01 (a1 : Sl) (h : AH) : go (.fn F.kjs [a1.v]) h =
 (go (.fn F.kco [a1.v]) h).bind fun q2 =>
 ((some q2.1).bind AV.asBool).bind fun b3 =>
 cond (!b3) (
 some (.int .i64 0, q2.2)) (
 cond (decide ((a1.len : Int) = 0)) (
 some (.int .i64 0, q2.2)) (
 (idx a1.ref a1.len (IntKind.wrap .i64 ((a1.len : Int) - 1)) 1).bind fun r4 =>
 ((q2.2.cell r4).bind (AV.asInt .u64)).bind fun n5 =>
 (go (.fn F.kh0 [.int .u64 n5]) q2.2).bind fun q6 =>
 ((some q6.1).bind (AV.asInt .i64)).bind fun n7 =>
 some (.int .i64 (IntKind.wrap .i64 ((IntKind.wrap .i64 (64 * (IntKind.wrap .i64 ((a1.len : Int) - 1)))) + n7)), q6.2))) := (kc _ h).trans (by kernel_rfl)
theorem kyv (a1 : Sl) (h : AH) : go (.fn F.kco [a1.v]) h =
 cond (decide ((a1.len : Int) ≤ 64)) (
 cond (decide ((a1.len : Int) = 0)) (
 some (.bool true, h)) (
 (idx a1.ref a1.len (IntKind.wrap .i64 ((a1.len : Int) - 1)) 1).bind fun r2 =>
 ((h.cell r2).bind (AV.asInt .u64)).bind fun n3 =>
 some (.bool (!decide (n3 = 0)), h))) (
 some (.bool false, h)) := (kc _ h).trans (by kernel_rfl)
theorem kzx (a1 : Sl) (a2 : Int) (h : AH) : go (.fn F.kkq [a1.v, .int .i64 a2]) h =
 (go (.fn F.kco [a1.v]) h).bind fun q3 =>
 ((some q3.1).bind AV.asBool).bind fun b4 =>
 cond b4 (
 cond (decide (a2 ≥ 0)) (
 cond (decide ((IntKind.wrap .i64 (Int.tdiv a2 64)) < (a1.len : Int))) (
 (idx a1.ref a1.len (IntKind.wrap .i64 (Int.tdiv a2 64)) 1).bind fun r5 =>
 ((q3.2.cell r5).bind (AV.asInt .u64)).bind fun n6 =>
 cond (decide ((Int.tmod a2 64) < 0)) none (
 some (.bool (decide ((iand .u64 (ishr .u64 n6 (Int.tmod a2 64)) 1) = 1)), q3.2))) (
 some (.bool false, q3.2))) (
 some (.bool false, q3.2))) (
 some (.bool false, q3.2)) := (kc _ h).trans (by kernel_rfl)
theorem k43 (a1 : Sl) (h : AH) : go (.fn F.kpa [a1.v]) h =
 (go (.fn F.kgw [a1.v, a1.v]) h).bind fun q2 =>
 (AV.asTup2 q2.1).bind fun p3 =>
 ((some p3.1).bind AV.asSl).bind fun l4 =>
 ((some p3.2).bind (AV.asInt .i64)).bind fun n5 =>
 some (l4.v, q2.2) := (kc _ h).trans (by kernel_rfl)
theorem k88 (a1 : Sl) (a2 : Sl) (a3 : Sl) (h : AH) : go (.fn F.krd [a1.v, a2.v, a3.v]) h =
 (go (.fn F.kco [a1.v]) h).bind fun q4 =>
 ((some q4.1).bind AV.asBool).bind fun b5 =>
 cond (!b5) (
 some (.bool false, q4.2)) (
 cond (decide ((a1.len : Int) = 0)) (
 some (.bool false, q4.2)) (
 (go (.fn F.kgb [a1.v, a3.v]) q4.2).bind fun q6 =>
 ((some q6.1).bind (AV.asInt .i64)).bind fun n7 =>
 cond (decide (n7 ≥ 0)) (
 some (.bool false, q6.2)) (
 (go (.fn F.kf4 [a1.v, a2.v]) q6.2).bind fun q8 =>
 (AV.asTup2 q8.1).bind fun p9 =>
 ((some p9.1).bind AV.asSl).bind fun l10 =>
 ((some p9.2).bind (AV.asInt .i64)).bind fun n11 =>
 newK q8.2 (.cells [.int .u64 1] T.ke) fun h12r h12 =>
 (go (.fn F.kgb [l10.v, (⟨some h12r, 1, .is 1⟩ : Sl).v]) h12).bind fun q13 =>
 ((some q13.1).bind (AV.asInt .i64)).bind fun n14 =>
 some (.bool (decide (n14 = 0)), q13.2)))) := (kc _ h).trans (by kernel_rfl)
theorem k2m (a1 : Sl) (a2 : Sl) (h : AH) : go (.fn F.kgb [a1.v, a2.v]) h =
 newK h (.cells [a1.v, a2.v] T.kw) fun h3r h3 =>
 (go (.fn F.kfo [(⟨some h3r, 2, .is 2⟩ : Sl).v]) h3).bind fun q4 =>
 ((some q4.1).bind AV.asBool).bind fun b5 =>
 cond (!b5) (
 some (.int .i64 0, q4.2)) (
 (go (.fn F.kd5 [a1.v, a2.v]) q4.2).bind fun q6 =>
 ((some q6.1).bind (AV.asInt .i64)).bind fun n7 =>
 some (.int .i64 n7, q6.2)) := (kc _ h).trans (by kernel_rfl)
theorem k6p (a1 : Int) (h : AH) : go (.fn F.knt [.int .i64 a1]) h =
 newK h (.cells [.bool false, (⟨none, 0, .is 0⟩ : Sl).v] T.kf) fun h2r h2 =>
 cond (decide (a1 < 0)) (
 (go (.fn F.ke7 [.int .u64 (IntKind.wrap .u64 (0 - (IntKind.wrap .u64 a1)))]) h2).bind fun q3 =>
 ((some q3.1).bind AV.asSl).bind fun l4 =>
 (go (.fn F.kbw [.bool true, l4.v]) q3.2).bind fun q5 =>
 (AV.asAgg q5.1).bind fun cs6 =>
 cond (Nat.beq cs6.length 2) (
 ((cs6[0]?).bind AV.asBool).bind fun b7 =>
 ((cs6[1]?).bind AV.asSl).bind fun l8 =>
 (q5.2.puts h2r [.bool b7, l8.v]).bind fun h9 =>
 ((h9.cell (h2r.add 0)).bind AV.asBool).bind fun b10 =>
 ((h9.cell (h2r.add 1)).bind AV.asSl).bind fun l11 =>
 some (.agg [.bool b10, l11.v], h9)) none) (
 (go (.fn F.ke7 [.int .u64 (IntKind.wrap .u64 a1)]) h2).bind fun q12 =>
 ((some q12.1).bind AV.asSl).bind fun l13 =>
 (go (.fn F.kbw [.bool false, l13.v]) q12.2).bind fun q14 =>
 (AV.asAgg q14.1).bind fun cs15 =>
 cond (Nat.beq cs15.length 2) (
 ((cs15[0]?).bind AV.asBool).bind fun b16 =>
 ((cs15[1]?).bind AV.asSl).bind fun l17 =>
 (q14.2.puts h2r [.bool b16, l17.v]).bind fun h18 =>
 ((h18.cell (h2r.add 0)).bind AV.asBool).bind fun b19 =>
 ((h18.cell (h2r.add 1)).bind AV.asSl).bind fun l20 =>
 some (.agg [.bool b19, l20.v], h18)) none) := (kc _ h).trans (by kernel_rfl)
theorem kx2 (a1 : Sl) (a2 : Ref) (a3 : Ref) (a4 : Ref) (a5 : Ref) (a6 : Ref) (a7 : Ref) (a8 : Ref) (h : AH) : go (.pt F.kfq Td.kk5 [(1, a1.v), (7, .ptr (some a2)), (9, .ptr (some a3)), (10, .ptr (some a4)), (12, .func (.func F.kh6) [] [.ptr (some a5), .ptr (some a6), .ptr (some a7), .ptr (some a8)])]) h =
 ((h.cell a2).bind AV.asSl).bind fun l9 =>
 cond (decide ((l9.len : Int) > 0)) (
 (go (.fn F.kh6 [.ptr (some a5), .ptr (some a6), .ptr (some a7), .ptr (some a8)]) h).bind fun q10 =>
 (AV.asTup0 q10.1).bind fun _ =>
 go (.pt F.kfq Td.kk5 [(1, a1.v), (7, .ptr (some a2)), (9, .ptr (some a3)), (10, .ptr (some a4)), (12, .func (.func F.kh6) [] [.ptr (some a5), .ptr (some a6), .ptr (some a7), .ptr (some a8)])]) q10.2) (
 ((h.cell a3).bind AV.asSl).bind fun l11 =>
 newK h (.cells [.int .u64 1] T.ke) fun h12r h12 =>
 (go (.fn F.kgb [l11.v, (⟨some h12r, 1, .is 1⟩ : Sl).v]) h12).bind fun q13 =>
 ((some q13.1).bind (AV.asInt .i64)).bind fun n14 =>
 cond (!decide (n14 = 0)) (
 some (.tup [(⟨none, 0, .is 0⟩ : Sl).v, .int .i64 6], q13.2)) (
 newK q13.2 (.cells [.bool false, (⟨none, 0, .is 0⟩ : Sl).v] T.kf) fun h15r h15 =>
 newK h15 (.cells [.bool false, (⟨none, 0, .is 0⟩ : Sl).v] T.kf) fun h16r h16 =>
 ((h16.cell (a4.add 0)).bind AV.asBool).bind fun b17 =>
 ((h16.cell (a4.add 1)).bind AV.asSl).bind fun l18 =>
 (go (.fn F.kbw [.bool false, a1.v]) h16).bind fun q19 =>
 (AV.asAgg q19.1).bind fun cs20 =>
 cond (Nat.beq cs20.length 2) (
 ((cs20[0]?).bind AV.asBool).bind fun b21 =>
 ((cs20[1]?).bind AV.asSl).bind fun l22 =>
 whenK (SameAt h16 q19.2 a4 2) (
 whenK (SameAt h16 q19.2 h16r 0) (
 whenK (SameAt h16 q19.2 h15r 0) (
 (go (.fn F.knl [.agg [.bool b17, l18.v], .agg [.bool b21, l22.v]]) q19.2).bind fun q23 =>
 (AV.asTup3 q23.1).bind fun p24 =>
 (AV.asAgg p24.1).bind fun cs25 =>
 cond (Nat.beq cs25.length 2) (
 ((cs25[0]?).bind AV.asBool).bind fun b26 =>
 ((cs25[1]?).bind AV.asSl).bind fun l27 =>
 (AV.asAgg p24.2.1).bind fun cs28 =>
 cond (Nat.beq cs28.length 2) (
 ((cs28[0]?).bind AV.asBool).bind fun b29 =>
 ((cs28[1]?).bind AV.asSl).bind fun l30 =>
 ((some p24.2.2).bind (AV.asInt .i64)).bind fun n31 =>
 whenK (SameAt q19.2 q23.2 h16r 0) (
 whenK (SameAt q19.2 q23.2 h15r 0) (
 (q23.2.puts h15r [.bool b26, l27.v]).bind fun h32 =>
 (h32.puts h16r [.bool b29, l30.v]).bind fun h33 =>
 ((h33.cell (h16r.add 1)).bind AV.asSl).bind fun l34 =>
 some (.tup [l34.v, .int .i64 n31], h33)))) none) none)))) none)) := (kc _ h).trans (by kernel_rfl)
theorem k9u (a1 : Sl) (h : AH) : go (.fn F.kbk [a1.v]) h =
 cond (decide ((a1.len : Int) ≤ 64)) (
 cond (decide ((a1.len : Int) = 0)) (
 some (.bool true, h)) (
 (idx a1.ref a1.len (IntKind.wrap .i64 ((a1.len : Int) - 1)) 1).bind fun r2 =>
 ((h.cell r2).bind (AV.asInt .u64)).bind fun n3 =>
 some (.bool (!decide (n3 = 0)), h))) (
 some (.bool false, h)) := (kc _ h).trans (by kernel_rfl)
theorem kba4 (a1 : Sl) (h : AH) : go (.fn F.keq [a1.v]) h =
 (go (.fn F.kbk [a1.v]) h).bind fun q2 =>
 ((some q2.1).bind AV.asBool).bind fun b3 =>
 cond (!b3) (
 some (.int .i64 0, q2.2)) (
 cond (decide ((a1.len : Int) = 0)) (
 some (.int .i64 0, q2.2)) (
 (idx a1.ref a1.len (IntKind.wrap .i64 ((a1.len : Int) - 1)) 1).bind fun r4 =>
 ((q2.2.cell r4).bind (AV.asInt .u64)).bind fun n5 =>
 go (.pt F.keq Td.km9 [(0, a1.v), (4, .int .i64 0), (5, .int .u64 n5)]) q2.2)) := (kc _ h).trans (by kernel_rfl)
theorem k7m (a1 : Sl) (a2 : Sl) (a3 : Sl) (h : AH) : go (.fn F.kms [a1.v, a2.v, a3.v]) h =
 (go (.fn F.kbk [a1.v]) h).bind fun q4 =>
 ((some q4.1).bind AV.asBool).bind fun b5 =>
 cond (!b5) (
 some (.bool false, q4.2)) (
 cond (decide ((a1.len : Int) = 0)) (
 some (.bool false, q4.2)) (
 (go (.fn F.kgv [a1.v, a3.v]) q4.2).bind fun q6 =>
 ((some q6.1).bind (AV.asInt .i64)).bind fun n7 =>
 cond (decide (n7 ≥ 0)) (
 some (.bool false, q6.2)) (
 (go (.fn F.kfd [a1.v, a2.v]) q6.2).bind fun q8 =>
 (AV.asTup2 q8.1).bind fun p9 =>
 ((some p9.1).bind AV.asSl).bind fun l10 =>
 ((some p9.2).bind (AV.asInt .i64)).bind fun n11 =>
 (go (.fn F.kdd [.int .u64 1]) q8.2).bind fun q12 =>
 ((some q12.1).bind AV.asSl).bind fun l13 =>
 (go (.fn F.kgv [l10.v, l13.v]) q12.2).bind fun q14 =>
 ((some q14.1).bind (AV.asInt .i64)).bind fun n15 =>
 some (.bool (decide (n15 = 0)), q14.2)))) := (kc _ h).trans (by kernel_rfl)
theorem kbbr (a1 : Sl) (a2 : Sl) (h : AH) : go (.fn F.kj7 [a1.v, a2.v]) h =
 (go (.fn F.kbk [a1.v]) h).bind fun q3 =>
 ((some q3.1).bind AV.asBool).bind fun b4 =>
 (go (.fn F.kbk [a2.v]) q3.2).bind fun q5 =>
 ((some q5.1).bind AV.asBool).bind fun b6 =>
 cond (!b4) (
 some (.tup [(⟨none, 0, .is 0⟩ : Sl).v, .int .i64 1], q5.2)) (
 cond (!b6) (
 some (.tup [(⟨none, 0, .is 0⟩ : Sl).v, .int .i64 1], q5.2)) (
 (go (.fn F.kbp [a1.v]) q5.2).bind fun q7 =>
 ((some q7.1).bind AV.asSl).bind fun l8 =>
 (go (.fn F.kbp [a2.v]) q7.2).bind fun q9 =>
 ((some q9.1).bind AV.asSl).bind fun l10 =>
 (go (.fn F.kci [l8.v, l10.v]) q9.2).bind fun q11 =>
 ((some q11.1).bind AV.asSl).bind fun l12 =>
 (go (.fn F.kjc [l12.v]) q11.2).bind fun q13 =>
 (AV.asTup2 q13.1).bind fun p14 =>
 ((some p14.1).bind AV.asSl).bind fun l15 =>
 ((some p14.2).bind (AV.asInt .i64)).bind fun n16 =>
 some (.tup [l15.v, .int .i64 n16], q13.2))) := (kc _ h).trans (by kernel_rfl)
theorem kx3 (a1 : Int) (h : AH) : go (.fn F.kdd [.int .u64 a1]) h =
 cond (decide (a1 = 0)) (
 some ((⟨none, 0, .is 0⟩ : Sl).v, h)) (
 newK h (.cells [.int .u64 a1] T.ke) fun h2r h2 =>
 some ((⟨some h2r, 1, .is 1⟩ : Sl).v, h2)) := (kc _ h).trans (by kernel_rfl)
theorem kbbo (a1 : Sl) (a2 : Sl) (h : AH) : go (.fn F.kgv [a1.v, a2.v]) h =
 (go (.fn F.kbk [a1.v]) h).bind fun q3 =>
 ((some q3.1).bind AV.asBool).bind fun b4 =>
 (go (.fn F.kbk [a2.v]) q3.2).bind fun q5 =>
 ((some q5.1).bind AV.asBool).bind fun b6 =>
 cond (!b4) (
 some (.int .i64 0, q5.2)) (
 cond (!b6) (
 some (.int .i64 0, q5.2)) (
 (go (.fn F.kbp [a1.v]) q5.2).bind fun q7 =>
 ((some q7.1).bind AV.asSl).bind fun l8 =>
 (go (.fn F.kbp [a2.v]) q7.2).bind fun q9 =>
 ((some q9.1).bind AV.asSl).bind fun l10 =>
 (go (.fn F.ke2 [l8.v, l10.v]) q9.2).bind fun q11 =>
 ((some q11.1).bind (AV.asInt .i64)).bind fun n12 =>
 some (.int .i64 n12, q11.2))) := (kc _ h).trans (by kernel_rfl)
theorem kz3 (a1 : Sl) (a2 : Sl) (h : AH) : go (.fn F.kiz [a1.v, a2.v]) h =
 (go (.fn F.khy [a1.v, a2.v]) h).bind fun q3 =>
 (AV.asTup3 q3.1).bind fun p4 =>
 ((some p4.1).bind AV.asSl).bind fun l5 =>
 ((some p4.2.1).bind AV.asSl).bind fun l6 =>
 ((some p4.2.2).bind (AV.asInt .i64)).bind fun n7 =>
 some (l6.v, q3.2) := (kc _ h).trans (by kernel_rfl)
theorem k0m (a1 : Int) (h : AH) : go (.fn F.kk8 [.int .i64 a1]) h =
 newK h (.cells [.bool false, (⟨none, 0, .is 0⟩ : Sl).v] T.kf) fun h2r h2 =>
 cond (decide (a1 < 0)) (
 (go (.fn F.kdd [.int .u64 (IntKind.wrap .u64 ((IntKind.wrap .u64 (IntKind.wrap .i64 (0 - (IntKind.wrap .i64 (a1 + 1))))) + 1))]) h2).bind fun q3 =>
 ((some q3.1).bind AV.asSl).bind fun l4 =>
 (go (.fn F.kb3 [.bool true, l4.v]) q3.2).bind fun q5 =>
 (AV.asAgg q5.1).bind fun cs6 =>
 cond (Nat.beq cs6.length 2) (
 ((cs6[0]?).bind AV.asBool).bind fun b7 =>
 ((cs6[1]?).bind AV.asSl).bind fun l8 =>
 (q5.2.puts h2r [.bool b7, l8.v]).bind fun h9 =>
 ((h9.cell (h2r.add 0)).bind AV.asBool).bind fun b10 =>
 ((h9.cell (h2r.add 1)).bind AV.asSl).bind fun l11 =>
 some (.agg [.bool b10, l11.v], h9)) none) (
 (go (.fn F.kdd [.int .u64 (IntKind.wrap .u64 a1)]) h2).bind fun q12 =>
 ((some q12.1).bind AV.asSl).bind fun l13 =>
 (go (.fn F.kb3 [.bool false, l13.v]) q12.2).bind fun q14 =>
 (AV.asAgg q14.1).bind fun cs15 =>
 cond (Nat.beq cs15.length 2) (
 ((cs15[0]?).bind AV.asBool).bind fun b16 =>
 ((cs15[1]?).bind AV.asSl).bind fun l17 =>
 (q14.2.puts h2r [.bool b16, l17.v]).bind fun h18 =>
 ((h18.cell (h2r.add 0)).bind AV.asBool).bind fun b19 =>
 ((h18.cell (h2r.add 1)).bind AV.asSl).bind fun l20 =>
 some (.agg [.bool b19, l20.v], h18)) none) := (kc _ h).trans (by kernel_rfl)
theorem kba6 (a1 : Sl) (a2 : Sl) (a3 : Sl) (a4 : Ref) (a5 : Ref) (h : AH) : go (.pt F.kf1 Td.knx [(1, a1.v), (8, a2.v), (9, a3.v), (10, .ptr (some a4)), (11, .ptr (some a5))]) h =
 cond (decide ((a3.len : Int) > 0)) (
 (go (.fn F.khy [a2.v, a3.v]) h).bind fun q6 =>
 (AV.asTup3 q6.1).bind fun p7 =>
 ((some p7.1).bind AV.asSl).bind fun l8 =>
 ((some p7.2.1).bind AV.asSl).bind fun l9 =>
 ((some p7.2.2).bind (AV.asInt .i64)).bind fun n10 =>
 newK q6.2 (.cells [.bool false, (⟨none, 0, .is 0⟩ : Sl).v] T.kf) fun h11r h11 =>
 ((h11.cell (a5.add 0)).bind AV.asBool).bind fun b12 =>
 ((h11.cell (a5.add 1)).bind AV.asSl).bind fun l13 =>
 (go (.fn F.kb3 [.bool false, l8.v]) h11).bind fun q14 =>
 (AV.asAgg q14.1).bind fun cs15 =>
 cond (Nat.beq cs15.length 2) (
 ((cs15[0]?).bind AV.asBool).bind fun b16 =>
 ((cs15[1]?).bind AV.asSl).bind fun l17 =>
 whenK (SameAt h11 q14.2 a5 2) (
 whenK (SameAt h11 q14.2 h11r 0) (
 (go (.fn F.kl6 [.agg [.bool b16, l17.v], .agg [.bool b12, l13.v]]) q14.2).bind fun q18 =>
 (AV.asTup2 q18.1).bind fun p19 =>
 (AV.asAgg p19.1).bind fun cs20 =>
 cond (Nat.beq cs20.length 2) (
 ((cs20[0]?).bind AV.asBool).bind fun b21 =>
 ((cs20[1]?).bind AV.asSl).bind fun l22 =>
 ((some p19.2).bind (AV.asInt .i64)).bind fun n23 =>
 whenK (SameAt q14.2 q18.2 h11r 0) (
 (q18.2.puts h11r [.bool b21, l22.v]).bind fun h24 =>
 ((h24.cell (a4.add 0)).bind AV.asBool).bind fun b25 =>
 ((h24.cell (a4.add 1)).bind AV.asSl).bind fun l26 =>
 ((h24.cell (h11r.add 0)).bind AV.asBool).bind fun b27 =>
 ((h24.cell (h11r.add 1)).bind AV.asSl).bind fun l28 =>
 (go (.fn F.knk [.agg [.bool b25, l26.v], .agg [.bool b27, l28.v]]) h24).bind fun q29 =>
 (AV.asTup2 q29.1).bind fun p30 =>
 (AV.asAgg p30.1).bind fun cs31 =>
 cond (Nat.beq cs31.length 2) (
 ((cs31[0]?).bind AV.asBool).bind fun b32 =>
 ((cs31[1]?).bind AV.asSl).bind fun l33 =>
 ((some p30.2).bind (AV.asInt .i64)).bind fun n34 =>
 newK q29.2 (.cells [.bool false, (⟨none, 0, .is 0⟩ : Sl).v] T.kf) fun h35r h35 =>
 (h35.puts h35r [.bool b32, l33.v]).bind fun h36 =>
 ((h36.cell (a5.add 0)).bind AV.asBool).bind fun b37 =>
 ((h36.cell (a5.add 1)).bind AV.asSl).bind fun l38 =>
 (h36.puts a4 [.bool b37, l38.v]).bind fun h39 =>
 ((h39.cell (h35r.add 0)).bind AV.asBool).bind fun b40 =>
 ((h39.cell (h35r.add 1)).bind AV.asSl).bind fun l41 =>
 (h39.puts a5 [.bool b40, l41.v]).bind fun h42 =>
 go (.pt F.kf1 Td.knx [(1, a1.v), (8, a3.v), (9, l9.v), (10, .ptr (some a4)), (11, .ptr (some a5))]) h42) none)) none))) none) (
 (go (.fn F.kdd [.int .u64 1]) h).bind fun q43 =>
 ((some q43.1).bind AV.asSl).bind fun l44 =>
 (go (.fn F.kgv [a2.v, l44.v]) q43.2).bind fun q45 =>
 ((some q45.1).bind (AV.asInt .i64)).bind fun n46 =>
 cond (!decide (n46 = 0)) (
 some (.tup [(⟨none, 0, .is 0⟩ : Sl).v, .int .i64 6], q45.2)) (
 newK q45.2 (.cells [.bool false, (⟨none, 0, .is 0⟩ : Sl).v] T.kf) fun h47r h47 =>
 newK h47 (.cells [.bool false, (⟨none, 0, .is 0⟩ : Sl).v] T.kf) fun h48r h48 =>
 ((h48.cell (a4.add 0)).bind AV.asBool).bind fun b49 =>
 ((h48.cell (a4.add 1)).bind AV.asSl).bind fun l50 =>
 (go (.fn F.kb3 [.bool false, a1.v]) h48).bind fun q51 =>
 (AV.asAgg q51.1).bind fun cs52 =>
 cond (Nat.beq cs52.length 2) (
 ((cs52[0]?).bind AV.asBool).bind fun b53 =>
 ((cs52[1]?).bind AV.asSl).bind fun l54 =>
 whenK (SameAt h48 q51.2 a4 2) (
 whenK (SameAt h48 q51.2 h48r 0) (
 whenK (SameAt h48 q51.2 h47r 0) (
 (go (.fn F.knn [.agg [.bool b49, l50.v], .agg [.bool b53, l54.v]]) q51.2).bind fun q55 =>
 (AV.asTup3 q55.1).bind fun p56 =>
 (AV.asAgg p56.1).bind fun cs57 =>
 cond (Nat.beq cs57.length 2) (
 ((cs57[0]?).bind AV.asBool).bind fun b58 =>
 ((cs57[1]?).bind AV.asSl).bind fun l59 =>
 (AV.asAgg p56.2.1).bind fun cs60 =>
 cond (Nat.beq cs60.length 2) (
 ((cs60[0]?).bind AV.asBool).bind fun b61 =>
 ((cs60[1]?).bind AV.asSl).bind fun l62 =>
 ((some p56.2.2).bind (AV.asInt .i64)).bind fun n63 =>
 whenK (SameAt q51.2 q55.2 h48r 0) (
 whenK (SameAt q51.2 q55.2 h47r 0) (
 (q55.2.puts h47r [.bool b58, l59.v]).bind fun h64 =>
 (h64.puts h48r [.bool b61, l62.v]).bind fun h65 =>
 ((h65.cell (h48r.add 1)).bind AV.asSl).bind fun l66 =>
 some (.tup [l66.v, .int .i64 0], h65)))) none) none)))) none)) := (kc _ h).trans (by kernel_rfl)
theorem k5r (a1 : Sl) (a2 : Sl) (a3 : Sl) (a4 : Int) (a5 : Int) (h : AH) : go (.fn F.ke8 [.agg [a1.v, a2.v, a3.v], .int .i64 a4, .int .i64 a5]) h =
 newK h (.cells [a1.v, a2.v, a3.v] T.kea) fun h6r h6 =>
 newK h6 (.cells [.int .i64 0, (⟨none, 0, .is 0⟩ : Sl).v] T.ks) fun h7r h7 =>
 ((h7.cell (h6r.add 0)).bind AV.asSl).bind fun l8 =>
 ((h7.cell (h6r.add 1)).bind AV.asSl).bind fun l9 =>
 ((h7.cell (h6r.add 2)).bind AV.asSl).bind fun l10 =>
 (go (.fn F.kfl [.agg [l8.v, l9.v, l10.v]]) h7).bind fun q11 =>
 ((some q11.1).bind AV.asBool).bind fun b12 =>
 cond (!b12) (
 (q11.2.puts h7r [.int .i64 0, (⟨none, 0, .is 0⟩ : Sl).v]).bind fun h13 =>
 ((h13.cell (h7r.add 0)).bind (AV.asInt .i64)).bind fun n14 =>
 ((h13.cell (h7r.add 1)).bind AV.asSl).bind fun l15 =>
 some (.tup [.agg [.int .i64 n14, l15.v], .int .i64 20], h13)) (
 cond (decide (a4 < 0)) (
 (q11.2.puts h7r [.int .i64 0, (⟨none, 0, .is 0⟩ : Sl).v]).bind fun h16 =>
 ((h16.cell (h7r.add 0)).bind (AV.asInt .i64)).bind fun n17 =>
 ((h16.cell (h7r.add 1)).bind AV.asSl).bind fun l18 =>
 some (.tup [.agg [.int .i64 n17, l18.v], .int .i64 1], h16)) (
 ((q11.2.cell (h6r.add 2)).bind AV.asSl).bind fun l19 =>
 cond (decide (a4 ≥ (l19.len : Int))) (
 (q11.2.puts h7r [.int .i64 0, (⟨none, 0, .is 0⟩ : Sl).v]).bind fun h20 =>
 ((h20.cell (h7r.add 0)).bind (AV.asInt .i64)).bind fun n21 =>
 ((h20.cell (h7r.add 1)).bind AV.asSl).bind fun l22 =>
 some (.tup [.agg [.int .i64 n21, l22.v], .int .i64 1], h20)) (
 cond (decide (a5 < 0)) (
 (q11.2.puts h7r [.int .i64 0, (⟨none, 0, .is 0⟩ : Sl).v]).bind fun h23 =>
 ((h23.cell (h7r.add 0)).bind (AV.asInt .i64)).bind fun n24 =>
 ((h23.cell (h7r.add 1)).bind AV.asSl).bind fun l25 =>
 some (.tup [.agg [.int .i64 n24, l25.v], .int .i64 1], h23)) (
 ((q11.2.cell (h6r.add 1)).bind AV.asSl).bind fun l26 =>
 (idx l26.ref l26.len a4 1).bind fun r27 =>
 ((q11.2.cell r27).bind (AV.asInt .i64)).bind fun n28 =>
 cond (decide (a5 ≥ n28)) (
 (q11.2.puts h7r [.int .i64 0, (⟨none, 0, .is 0⟩ : Sl).v]).bind fun h29 =>
 ((h29.cell (h7r.add 0)).bind (AV.asInt .i64)).bind fun n30 =>
 ((h29.cell (h7r.add 1)).bind AV.asSl).bind fun l31 =>
 some (.tup [.agg [.int .i64 n30, l31.v], .int .i64 1], h29)) (
 ((q11.2.cell (h6r.add 2)).bind AV.asSl).bind fun l32 =>
 (idx l32.ref l32.len a4 1).bind fun r33 =>
 ((q11.2.cell r33).bind AV.asSl).bind fun l34 =>
 go (.pt F.ke8 Td.kjv [(2, .int .i64 a5), (3, .ptr (some h6r)), (6, .ptr (some h7r)), (8, (⟨none, 0, .is 0⟩ : Sl).v), (44, l34.v), (45, .int .i64 (l34.len : Int)), (46, .int .i64 0)]) q11.2))))) := (kc _ h).trans (by kernel_rfl)
theorem k8r (a1 : Int) (a2 : Sl) (a3 : Int) (a4 : Sl) (h : AH) : go (.fn F.knc [.agg [.int .i64 a1, a2.v], .agg [.int .i64 a3, a4.v]]) h =
 newK h (.cells [.int .i64 a1, a2.v] T.ks) fun h5r h5 =>
 newK h5 (.cells [.int .i64 a3, a4.v] T.ks) fun h6r h6 =>
 newK h6 (.cells [.int .i64 0, (⟨none, 0, .is 0⟩ : Sl).v] T.ks) fun h7r h7 =>
 ((h7.cell (h5r.add 0)).bind (AV.asInt .i64)).bind fun n8 =>
 ((h7.cell (h5r.add 1)).bind AV.asSl).bind fun l9 =>
 ((h7.cell (h6r.add 0)).bind (AV.asInt .i64)).bind fun n10 =>
 ((h7.cell (h6r.add 1)).bind AV.asSl).bind fun l11 =>
 (go (.fn F.kga [.agg [.int .i64 n8, l9.v], .agg [.int .i64 n10, l11.v], .func (.func F.kek) [] []]) h7).bind fun q12 =>
 (AV.asTup2 q12.1).bind fun p13 =>
 (AV.asAgg p13.1).bind fun cs14 =>
 cond (Nat.beq cs14.length 2) (
 ((cs14[0]?).bind (AV.asInt .i64)).bind fun n15 =>
 ((cs14[1]?).bind AV.asSl).bind fun l16 =>
 ((some p13.2).bind (AV.asInt .i64)).bind fun n17 =>
 (q12.2.puts h7r [.int .i64 n15, l16.v]).bind fun h18 =>
 ((h18.cell (h7r.add 0)).bind (AV.asInt .i64)).bind fun n19 =>
 ((h18.cell (h7r.add 1)).bind AV.asSl).bind fun l20 =>
 some (.tup [.agg [.int .i64 n19, l20.v], .int .i64 n17], h18)) none := (kc _ h).trans (by kernel_rfl)
theorem kyq (a1 : Int) (a2 : Sl) (h : AH) : go (.fn F.kl5 [.agg [.int .i64 a1, a2.v]]) h =
 newK h (.cells [.int .i64 a1, a2.v] T.ks) fun h3r h3 =>
 ((h3.cell (h3r.add 0)).bind (AV.asInt .i64)).bind fun n4 =>
 ((h3.cell (h3r.add 1)).bind AV.asSl).bind fun l5 =>
 (go (.fn F.khm [.agg [.int .i64 n4, l5.v]]) h3).bind fun q6 =>
 ((some q6.1).bind AV.asBool).bind fun b7 =>
 cond (!b7) (
 some ((⟨none, 0, .is 0⟩ : Sl).v, q6.2)) (
 ((q6.2.cell (h3r.add 0)).bind (AV.asInt .i64)).bind fun n8 =>
 ((q6.2.cell (h3r.add 1)).bind AV.asSl).bind fun l9 =>
 (go (.fn F.koh [.agg [.int .i64 n8, l9.v]]) q6.2).bind fun q10 =>
 (go (.fn F.koa [q10.1]) q10.2).bind fun q11 =>
 ((some q11.1).bind AV.asSl).bind fun l12 =>
 some (l12.v, q11.2)) := (kc _ h).trans (by kernel_rfl)
theorem kz4 (a1 : Int) (h : AH) : go (.fn F.ko8 [.int .u64 a1]) h =
 cond (decide (a1 = 0)) (
 some (.int .i64 64, h)) (
 (idx (some (.old ⟨Gl.math_bits_deBruijn64tab, 0, none⟩)) 64 (ishr .u64 (IntKind.wrap .u64 ((iand .u64 a1 (IntKind.wrap .u64 (0 - a1))) * 285870213051353865)) 58) 1).bind fun r2 =>
 ((h.cell r2).bind (AV.asInt .u8)).bind fun n3 =>
 some (.int .i64 (IntKind.wrap .i64 n3), h)) := (kc _ h).trans (by kernel_rfl)
theorem k0i (a1 : Sl) (h : AH) : go (.fn F.ks8 [a1.v, .func (.func F.kdo) [] []]) h =
 (go (.fn F.khj [a1.v, .func (.func F.kdo) [] []]) h).bind fun q2 =>
 ((some q2.1).bind (AV.asInt .i64)).bind fun n3 =>
 some (.bool (decide (n3 ≥ 0)), q2.2) := (kc _ h).trans (by kernel_rfl)
theorem kup (a1 : Sl) (a2 : Sl) (a3 : Int) (h : AH) : go (.pt F.kd5 Td.km4 [(0, a1.v), (1, a2.v), (5, .int .i64 a3)]) h =
 cond (decide (a3 ≥ 0)) (
 (idx a1.ref a1.len a3 1).bind fun r4 =>
 ((h.cell r4).bind (AV.asInt .u64)).bind fun n5 =>
 (idx a2.ref a2.len a3 1).bind fun r6 =>
 ((h.cell r6).bind (AV.asInt .u64)).bind fun n7 =>
 cond (!decide (n5 = n7)) (
 (idx a1.ref a1.len a3 1).bind fun r8 =>
 ((h.cell r8).bind (AV.asInt .u64)).bind fun n9 =>
 (idx a2.ref a2.len a3 1).bind fun r10 =>
 ((h.cell r10).bind (AV.asInt .u64)).bind fun n11 =>
 cond (decide (n9 < n11)) (
 some (.int .i64 (-1), h)) (
 some (.int .i64 1, h))) (
 go (.pt F.kd5 Td.km4 [(0, a1.v), (1, a2.v), (5, .int .i64 (IntKind.wrap .i64 (a3 - 1)))]) h)) (
 some (.int .i64 0, h)) := (kc _ h).trans (by kernel_rfl)
theorem kba5 (a1 : Sl) (a2 : Int) (a3 : Sl) (a4 : Int) (a5 : Int) (h : AH) : go (.pt F.ker Td.klt [(0, a1.v), (1, .int .u64 a2), (6, a3.v), (7, .int .u64 a4), (8, .int .i64 a5)]) h =
 cond (decide (a5 ≥ 0)) (
 (idx a1.ref a1.len a5 1).bind fun r6 =>
 ((h.cell r6).bind (AV.asInt .u64)).bind fun n7 =>
 (go (.fn F.kbj [.int .u64 a4, .int .u64 n7, .int .u64 a2]) h).bind fun q8 =>
 (AV.asTup2 q8.1).bind fun p9 =>
 ((some p9.1).bind (AV.asInt .u64)).bind fun n10 =>
 ((some p9.2).bind (AV.asInt .u64)).bind fun n11 =>
 (idx a3.ref a3.len a5 1).bind fun r12 =>
 (q8.2.puts r12 [.int .u64 n10]).bind fun h13 =>
 go (.pt F.ker Td.klt [(0, a1.v), (1, .int .u64 a2), (6, a3.v), (7, .int .u64 n11), (8, .int .i64 (IntKind.wrap .i64 (a5 - 1)))]) h13) (
 (go (.fn F.kbe [a3.v]) h).bind fun q14 =>
 ((some q14.1).bind AV.asSl).bind fun l15 =>
 some (.tup [l15.v, .int .u64 a4], q14.2)) := (kc _ h).trans (by kernel_rfl)
theorem k28 (a1 : Int) (h : AH) : go (.fn F.kmn [.int .u64 a1]) h =
 (go (.fn F.kh0 [.int .u64 a1]) h).bind fun q2 =>
 ((some q2.1).bind (AV.asInt .i64)).bind fun n3 =>
 some (.int .i64 (IntKind.wrap .i64 (64 - n3)), q2.2) := (kc _ h).trans (by kernel_rfl)
theorem k87 (a1 : Sl) (a2 : Int) (h : AH) : go (.fn F.kd6 [a1.v, .int .u64 a2]) h =
 (kbs (IntKind.wrap .i64 ((a1.len : Int) + 1)) (IntKind.wrap .i64 ((a1.len : Int) + 1)) T.ke (Pg.bytesOf T.ke) [.int .u64 0] h).bind fun q3 =>
 go (.pt F.kd6 Td.kkr [(1, .int .u64 a2), (5, q3.1.v), (12, a1.v), (13, .int .i64 (a1.len : Int)), (14, .int .i64 0)]) q3.2 := (kc _ h).trans (by kernel_rfl)
theorem k5v (a1 : Int) (a2 : Sl) (a3 : Sl) (a4 : Int) (a5 : Sl) (a6 : Int) (h : AH) : go (.pt F.kbz Td.knj [(6, .int .u64 a1), (7, a2.v), (8, a3.v), (9, .int .i64 a4), (10, a5.v), (11, .int .i64 a6)]) h =
 cond (decide (a6 ≥ 0)) (
 (idx a2.ref a2.len (IntKind.wrap .i64 (a6 + a4)) 1).bind fun r7 =>
 ((h.cell r7).bind (AV.asInt .u64)).bind fun n8 =>
 (idx a2.ref a2.len (IntKind.wrap .i64 ((IntKind.wrap .i64 (a6 + a4)) - 1)) 1).bind fun r9 =>
 ((h.cell r9).bind (AV.asInt .u64)).bind fun n10 =>
 (idx a2.ref a2.len (IntKind.wrap .i64 ((IntKind.wrap .i64 (a6 + a4)) - 2)) 1).bind fun r11 =>
 ((h.cell r11).bind (AV.asInt .u64)).bind fun n12 =>
 (idx a3.ref a3.len (IntKind.wrap .i64 (a4 - 1)) 1).bind fun r13 =>
 ((h.cell r13).bind (AV.asInt .u64)).bind fun n14 =>
 (idx a3.ref a3.len (IntKind.wrap .i64 (a4 - 2)) 1).bind fun r15 =>
 ((h.cell r15).bind (AV.asInt .u64)).bind fun n16 =>
 (go (.fn F.ke1 [.int .u64 n8, .int .u64 n10, .int .u64 n12, .int .u64 n14, .int .u64 n16]) h).bind fun q17 =>
 ((some q17.1).bind (AV.asInt .u64)).bind fun n18 =>
 (cutSl a2 a6 (IntKind.wrap .i64 ((IntKind.wrap .i64 (a6 + a4)) + 1)) 1).bind fun l19 =>
 go (.pt F.kbz Td.kmb [(6, .int .u64 a1), (7, a2.v), (8, a3.v), (9, .int .i64 a4), (10, a5.v), (11, .int .i64 a6), (12, .int .u64 n18), (13, l19.v)]) q17.2) (
 (go (.fn F.kbe [a2.v]) h).bind fun q20 =>
 ((some q20.1).bind AV.asSl).bind fun l21 =>
 (kbs (l21.len : Int) (l21.len : Int) T.ke (Pg.bytesOf T.ke) [.int .u64 0] q20.2).bind fun q22 =>
 go (.pt F.kbz Td.khx [(6, .int .u64 a1), (10, a5.v), (15, l21.v), (16, q22.1.v), (112, .int .i64 (l21.len : Int)), (113, .int .i64 0)]) q22.2) := (kc _ h).trans (by kernel_rfl)
theorem kbcp (a1 : Sl) (a2 : Sl) (a3 : Int) (a4 : Int) (a5 : Int) (a6 : Sl) (a7 : Int) (a8 : Int) (a9 : Sl) (a10 : Int) (a11 : Int) (h : AH) : go (.pt F.kcj Td.knq [(1, a1.v), (5, a2.v), (6, .int .i64 a3), (7, .int .u64 a4), (8, .int .u64 a5), (20, a6.v), (21, .int .i64 a7), (22, .int .i64 a8), (27, a9.v), (28, .int .i64 a10), (29, .int .i64 a11)]) h =
 cond (decide (a11 < a10)) (
 (idx a9.ref a9.len a11 1).bind fun r12 =>
 ((h.cell r12).bind (AV.asInt .u64)).bind fun n13 =>
 (go (.fn F.kmw [.int .u64 a4, .int .u64 n13]) h).bind fun q14 =>
 (AV.asTup2 q14.1).bind fun p15 =>
 ((some p15.1).bind (AV.asInt .u64)).bind fun n16 =>
 ((some p15.2).bind (AV.asInt .u64)).bind fun n17 =>
 (idx a2.ref a2.len (IntKind.wrap .i64 (a3 + a11)) 1).bind fun r18 =>
 ((q14.2.cell r18).bind (AV.asInt .u64)).bind fun n19 =>
 ((prim "math/bits.Add64" [.int .u64 n17, .int .u64 n19, .int .u64 0]).map fun v => (v, q14.2)).bind fun q20 =>
 (AV.asTup2 q20.1).bind fun p21 =>
 ((some p21.1).bind (AV.asInt .u64)).bind fun n22 =>
 ((some p21.2).bind (AV.asInt .u64)).bind fun n23 =>
 ((prim "math/bits.Add64" [.int .u64 n22, .int .u64 a5, .int .u64 0]).map fun v => (v, q20.2)).bind fun q24 =>
 (AV.asTup2 q24.1).bind fun p25 =>
 ((some p25.1).bind (AV.asInt .u64)).bind fun n26 =>
 ((some p25.2).bind (AV.asInt .u64)).bind fun n27 =>
 (idx a2.ref a2.len (IntKind.wrap .i64 (a3 + a11)) 1).bind fun r28 =>
 (q24.2.puts r28 [.int .u64 n26]).bind fun h29 =>
 go (.pt F.kcj Td.knq [(1, a1.v), (5, a2.v), (6, .int .i64 a3), (7, .int .u64 a4), (8, .int .u64 (IntKind.wrap .u64 ((IntKind.wrap .u64 (n16 + n23)) + n27))), (20, a6.v), (21, .int .i64 a7), (22, .int .i64 a8), (27, a9.v), (28, .int .i64 a10), (29, .int .i64 (IntKind.wrap .i64 (a11 + 1)))]) h29) (
 (idx a2.ref a2.len (IntKind.wrap .i64 (a3 + (a1.len : Int))) 1).bind fun r30 =>
 (h.puts r30 [.int .u64 a5]).bind fun h31 =>
 go (.pt F.kcj Td.knf [(1, a1.v), (5, a2.v), (20, a6.v), (21, .int .i64 a7), (22, .int .i64 (IntKind.wrap .i64 (a8 + 1)))]) h31) := (kc _ h).trans (by kernel_rfl)
theorem kbat (a1 : Sl) (a2 : Sl) (a3 : Sl) (h : AH) : go (.fn F.kfl [.agg [a1.v, a2.v, a3.v]]) h =
 newK h (.cells [a1.v, a2.v, a3.v] T.kea) fun h4r h4 =>
 ((h4.cell (h4r.add 0)).bind AV.asSl).bind fun l5 =>
 (go (.fn F.kof [l5.v]) h4).bind fun q6 =>
 ((some q6.1).bind AV.asBool).bind fun b7 =>
 cond (!b7) (
 some (.bool false, q6.2)) (
 ((q6.2.cell (h4r.add 2)).bind AV.asSl).bind fun l8 =>
 cond (decide ((l8.len : Int) > 16)) (
 some (.bool false, q6.2)) (
 ((q6.2.cell (h4r.add 1)).bind AV.asSl).bind fun l9 =>
 ((q6.2.cell (h4r.add 2)).bind AV.asSl).bind fun l10 =>
 cond (!decide ((l9.len : Int) = (l10.len : Int))) (
 some (.bool false, q6.2)) (
 ((q6.2.cell (h4r.add 2)).bind AV.asSl).bind fun l11 =>
 go (.pt F.kfl Td.kni [(1, .ptr (some h4r)), (27, l11.v), (28, .int .i64 (l11.len : Int)), (29, .int .i64 0)]) q6.2))) := (kc _ h).trans (by kernel_rfl)
theorem kzn (a1 : Int) (a2 : Sl) (h : AH) : go (.fn F.khm [.agg [.int .i64 a1, a2.v]]) h =
 newK h (.cells [.int .i64 a1, a2.v] T.ks) fun h3r h3 =>
 ((h3.cell (h3r.add 0)).bind (AV.asInt .i64)).bind fun n4 =>
 cond (decide (n4 < 0)) (
 some (.bool false, h3)) (
 ((h3.cell (h3r.add 0)).bind (AV.asInt .i64)).bind fun n5 =>
 cond (decide (n5 > 65536)) (
 some (.bool false, h3)) (
 ((h3.cell (h3r.add 1)).bind AV.asSl).bind fun l6 =>
 ((h3.cell (h3r.add 0)).bind (AV.asInt .i64)).bind fun n7 =>
 cond (!decide ((l6.len : Int) = (IntKind.wrap .i64 (Int.tdiv (IntKind.wrap .i64 ((IntKind.wrap .i64 (n7 + 64)) - 1)) 64)))) (
 some (.bool false, h3)) (
 ((h3.cell (h3r.add 0)).bind (AV.asInt .i64)).bind fun n8 =>
 cond (decide ((Int.tmod n8 64) = 0)) (
 some (.bool true, h3)) (
 ((h3.cell (h3r.add 1)).bind AV.asSl).bind fun l9 =>
 ((h3.cell (h3r.add 1)).bind AV.asSl).bind fun l10 =>
 (idx l9.ref l9.len (IntKind.wrap .i64 ((l10.len : Int) - 1)) 1).bind fun r11 =>
 ((h3.cell r11).bind (AV.asInt .u64)).bind fun n12 =>
 ((h3.cell (h3r.add 0)).bind (AV.asInt .i64)).bind fun n13 =>
 cond (decide ((Int.tmod n13 64) < 0)) none (
 some (.bool (decide ((ishr .u64 n12 (Int.tmod n13 64)) = 0)), h3)))))) := (kc _ h).trans (by kernel_rfl)
theorem k2a (a1 : Sl) (h : AH) : go (.fn F.kbb [a1.v, .func (.func F.kcu) [] []]) h =
 go (.pt F.kbb Td.kb6 [(0, a1.v), (1, .func (.func F.kcu) [] []), (7, .int .i64 (a1.len : Int)), (8, .int .i64 0)]) h := (kc _ h).trans (by kernel_rfl)
theorem kzf (l : Nat) (pe : Option Code) (a1 : Sl) (a2 : Sl) (a3 : Sl) (a4 : Int) (a5 : Sl) (a6 : Sl) (a7 : Ref) (a8 : Ref) (a9 : Ref) (a10 : Sl) (a11 : Int) (a12 : Int) (a13 : Ref) (a14 : Sl) (a15 : Sl) (a16 : Sl) (a17 : Int) (a18 : Sl) (a19 : Sl) (a20 : Int) (a21 : Int) (a22 : Int) (a23 : Bool) (a24 : Sl) (a25 : Bool) (a26 : Sl) (a27 : Sl) (a28 : Sl) (a29 : Int) (a30 : Sl) (a31 : AV) (a32 : AV) (a33 : Sl) (h : AH) (hb : h.blks[l]? = some (kgj Fx.kox F.kch 0 .ready pe [(0, .agg [a1.v, a2.v, a3.v]), (1, .agg [.int .i64 a4, a5.v]), (2, a6.v), (3, .ptr (some a7)), (4, .ptr (some a8)), (5, .ptr (some a9)), (6, a10.v), (7, .int .i64 a11), (8, .int .i64 a12), (9, .ptr (some a13)), (15, .agg [a14.v, a15.v, a16.v]), (16, .agg [.int .i64 a17, a18.v]), (17, a19.v), (18, .int .i64 a20), (19, .int .i64 a21), (20, .int .i64 a22), (21, .bool a23), (23, a24.v), (24, .bool a25), (25, .agg [a26.v, a27.v, a28.v]), (26, .agg [.int .i64 a29, a30.v]), (27, a31)])) : go (.round l [a32, a33.v]) h =
 (beginA l h).bind fun h34 =>
 newK h34 (.cells [.int .i64 0, .int .i64 0] T.kb5) fun h35r h35 =>
 (h35.puts h35r [.int .i64 0, .int .i64 (a33.len : Int)]).bind fun h36 =>
 go (.rpt l F.kch Td.kky [(5, .ptr (some a9)), (6, a10.v), (7, .int .i64 a11), (9, .ptr (some a13)), (12, .ptr (some h35r)), (33, a33.v), (34, .int .i64 (a33.len : Int)), (35, .int .i64 0)]) h36 := (kc _ h).trans ((kv6 hb).trans (by kernel_rfl))
theorem k42 (a1 : Sl) (a2 : Sl) (a3 : Sl) (a4 : Int) (a5 : Sl) (a6 : Sl) (a7 : Ref) (a8 : Ref) (a9 : Ref) (a10 : Sl) (a11 : Int) (a12 : Int) (a13 : Ref) (a14 : Sl) (a15 : Sl) (a16 : Sl) (a17 : Int) (a18 : Sl) (a19 : Sl) (a20 : Int) (a21 : Int) (a22 : Int) (a23 : Bool) (a24 : Sl) (a25 : Bool) (a26 : Sl) (a27 : Sl) (a28 : Sl) (a29 : Int) (a30 : Sl) (a31 : AV) (h : AH) : go (.pt F.kch ((Option.map Item.code none).toList ++ Ta.kvm) [(0, .agg [a1.v, a2.v, a3.v]), (1, .agg [.int .i64 a4, a5.v]), (2, a6.v), (3, .ptr (some a7)), (4, .ptr (some a8)), (5, .ptr (some a9)), (6, a10.v), (7, .int .i64 a11), (8, .int .i64 a12), (9, .ptr (some a13)), (15, .agg [a14.v, a15.v, a16.v]), (16, .agg [.int .i64 a17, a18.v]), (17, a19.v), (18, .int .i64 a20), (19, .int .i64 a21), (20, .int .i64 a22), (21, .bool a23), (23, a24.v), (24, .bool a25), (25, .agg [a26.v, a27.v, a28.v]), (26, .agg [.int .i64 a29, a30.v]), (27, a31)]) h =
 ((h.cell a13).bind AV.asSl).bind fun l32 =>
 some (.tup [l32.v, .int .i64 0], h) := (kc _ h).trans (by kernel_rfl)
theorem k1e (a1 : Int) (h : AH) : go (.fn F.kh0 [.int .u64 a1]) h =
 cond (decide (a1 ≥ 4294967296)) (
 cond (decide ((ishr .u64 a1 32) ≥ 65536)) (
 cond (decide ((ishr .u64 (ishr .u64 a1 32) 16) ≥ 256)) (
 cond (decide (0 ≤ (IntKind.wrap .u8 (ishr .u64 (ishr .u64 (ishr .u64 a1 32) 16) 8)))) (
 (lit1[Int.toNat (IntKind.wrap .u8 (ishr .u64 (ishr .u64 (ishr .u64 a1 32) 16) 8))]?).bind fun b2 =>
 some (.int .i64 (IntKind.wrap .i64 ((IntKind.wrap .i64 ((IntKind.wrap .i64 (32 + 16)) + 8)) + (IntKind.wrap .i64 (b2.toNat : Int)))), h)) none) (
 cond (decide (0 ≤ (IntKind.wrap .u8 (ishr .u64 (ishr .u64 a1 32) 16)))) (
 (lit1[Int.toNat (IntKind.wrap .u8 (ishr .u64 (ishr .u64 a1 32) 16))]?).bind fun b3 =>
 some (.int .i64 (IntKind.wrap .i64 ((IntKind.wrap .i64 (32 + 16)) + (IntKind.wrap .i64 (b3.toNat : Int)))), h)) none)) (
 cond (decide ((ishr .u64 a1 32) ≥ 256)) (
 cond (decide (0 ≤ (IntKind.wrap .u8 (ishr .u64 (ishr .u64 a1 32) 8)))) (
 (lit1[Int.toNat (IntKind.wrap .u8 (ishr .u64 (ishr .u64 a1 32) 8))]?).bind fun b4 =>
 some (.int .i64 (IntKind.wrap .i64 ((IntKind.wrap .i64 (32 + 8)) + (IntKind.wrap .i64 (b4.toNat : Int)))), h)) none) (
 cond (decide (0 ≤ (IntKind.wrap .u8 (ishr .u64 a1 32)))) (
 (lit1[Int.toNat (IntKind.wrap .u8 (ishr .u64 a1 32))]?).bind fun b5 =>
 some (.int .i64 (IntKind.wrap .i64 (32 + (IntKind.wrap .i64 (b5.toNat : Int)))), h)) none))) (
 cond (decide (a1 ≥ 65536)) (
 cond (decide ((ishr .u64 a1 16) ≥ 256)) (
 cond (decide (0 ≤ (IntKind.wrap .u8 (ishr .u64 (ishr .u64 a1 16) 8)))) (
 (lit1[Int.toNat (IntKind.wrap .u8 (ishr .u64 (ishr .u64 a1 16) 8))]?).bind fun b6 =>
 some (.int .i64 (IntKind.wrap .i64 ((IntKind.wrap .i64 ((IntKind.wrap .i64 (0 + 16)) + 8)) + (IntKind.wrap .i64 (b6.toNat : Int)))), h)) none) (
 cond (decide (0 ≤ (IntKind.wrap .u8 (ishr .u64 a1 16)))) (
 (lit1[Int.toNat (IntKind.wrap .u8 (ishr .u64 a1 16))]?).bind fun b7 =>
 some (.int .i64 (IntKind.wrap .i64 ((IntKind.wrap .i64 (0 + 16)) + (IntKind.wrap .i64 (b7.toNat : Int)))), h)) none)) (
 cond (decide (a1 ≥ 256)) (
 cond (decide (0 ≤ (IntKind.wrap .u8 (ishr .u64 a1 8)))) (
 (lit1[Int.toNat (IntKind.wrap .u8 (ishr .u64 a1 8))]?).bind fun b8 =>
 some (.int .i64 (IntKind.wrap .i64 ((IntKind.wrap .i64 (0 + 8)) + (IntKind.wrap .i64 (b8.toNat : Int)))), h)) none) (
 cond (decide (0 ≤ (IntKind.wrap .u8 a1))) (
 (lit1[Int.toNat (IntKind.wrap .u8 a1)]?).bind fun b9 =>
 some (.int .i64 (IntKind.wrap .i64 (0 + (IntKind.wrap .i64 (b9.toNat : Int)))), h)) none))) := (kc _ h).trans (by kernel_rfl)
theorem kzj (a1 : Sl) (a2 : Sl) (h : AH) : go (.fn F.kf4 [a1.v, a2.v]) h =
 (go (.fn F.kco [a1.v]) h).bind fun q3 =>
 ((some q3.1).bind AV.asBool).bind fun b4 =>
 cond (!b4) (
 some (.tup [(⟨none, 0, .is 0⟩ : Sl).v, .int .i64 1], q3.2)) (
 (go (.fn F.kco [a2.v]) q3.2).bind fun q5 =>
 ((some q5.1).bind AV.asBool).bind fun b6 =>
 cond (!b6) (
 some (.tup [(⟨none, 0, .is 0⟩ : Sl).v, .int .i64 1], q5.2)) (
 (go (.fn F.kf9 [a1.v]) q5.2).bind fun q7 =>
 ((some q7.1).bind AV.asSl).bind fun l8 =>
 (go (.fn F.kf9 [a2.v]) q7.2).bind fun q9 =>
 ((some q9.1).bind AV.asSl).bind fun l10 =>
 go (.pt F.kf4 Td.kls [(0, l8.v), (1, l10.v)]) q9.2)) := (kc _ h).trans (by kernel_rfl)
theorem kz1 (a1 : Bool) (a2 : Sl) (h : AH) : go (.fn F.kbw [.bool a1, a2.v]) h =
 newK h (.cells [.bool false, (⟨none, 0, .is 0⟩ : Sl).v] T.kf) fun h3r h3 =>
 (go (.fn F.kco [a2.v]) h3).bind fun q4 =>
 ((some q4.1).bind AV.asBool).bind fun b5 =>
 cond (!b5) (
 (q4.2.puts h3r [.bool false, (⟨none, 0, .is 0⟩ : Sl).v]).bind fun h6 =>
 ((h6.cell (h3r.add 0)).bind AV.asBool).bind fun b7 =>
 ((h6.cell (h3r.add 1)).bind AV.asSl).bind fun l8 =>
 some (.agg [.bool b7, l8.v], h6)) (
 cond (decide ((a2.len : Int) = 0)) (
 (q4.2.puts h3r [.bool false, (⟨none, 0, .is 0⟩ : Sl).v]).bind fun h9 =>
 ((h9.cell (h3r.add 0)).bind AV.asBool).bind fun b10 =>
 ((h9.cell (h3r.add 1)).bind AV.asSl).bind fun l11 =>
 some (.agg [.bool b10, l11.v], h9)) (
 (go (.fn F.kf9 [a2.v]) q4.2).bind fun q12 =>
 ((some q12.1).bind AV.asSl).bind fun l13 =>
 (q12.2.puts h3r [.bool a1, l13.v]).bind fun h14 =>
 ((h14.cell (h3r.add 0)).bind AV.asBool).bind fun b15 =>
 ((h14.cell (h3r.add 1)).bind AV.asSl).bind fun l16 =>
 some (.agg [.bool b15, l16.v], h14))) := (kc _ h).trans (by kernel_rfl)
theorem kxz (a1 : Ref) (a2 : Ref) (a3 : Ref) (a4 : Ref) (h : AH) : go (.fn F.kh6 [.ptr (some a1), .ptr (some a2), .ptr (some a3), .ptr (some a4)]) h =
 ((h.cell a1).bind AV.asSl).bind fun l5 =>
 ((h.cell a2).bind AV.asSl).bind fun l6 =>
 (go (.fn F.kfn [l5.v, l6.v]) h).bind fun q7 =>
 (AV.asTup3 q7.1).bind fun p8 =>
 ((some p8.1).bind AV.asSl).bind fun l9 =>
 ((some p8.2.1).bind AV.asSl).bind fun l10 =>
 ((some p8.2.2).bind (AV.asInt .i64)).bind fun n11 =>
 newK q7.2 (.cells [.bool false, (⟨none, 0, .is 0⟩ : Sl).v] T.kf) fun h12r h12 =>
 ((h12.cell (a3.add 0)).bind AV.asBool).bind fun b13 =>
 ((h12.cell (a3.add 1)).bind AV.asSl).bind fun l14 =>
 (go (.fn F.kbw [.bool false, l9.v]) h12).bind fun q15 =>
 (AV.asAgg q15.1).bind fun cs16 =>
 cond (Nat.beq cs16.length 2) (
 ((cs16[0]?).bind AV.asBool).bind fun b17 =>
 ((cs16[1]?).bind AV.asSl).bind fun l18 =>
 whenK (SameAt h12 q15.2 a3 2) (
 whenK (SameAt h12 q15.2 h12r 0) (
 (go (.fn F.kop [.agg [.bool b17, l18.v], .agg [.bool b13, l14.v]]) q15.2).bind fun q19 =>
 (AV.asTup2 q19.1).bind fun p20 =>
 (AV.asAgg p20.1).bind fun cs21 =>
 cond (Nat.beq cs21.length 2) (
 ((cs21[0]?).bind AV.asBool).bind fun b22 =>
 ((cs21[1]?).bind AV.asSl).bind fun l23 =>
 ((some p20.2).bind (AV.asInt .i64)).bind fun n24 =>
 whenK (SameAt q15.2 q19.2 h12r 0) (
 (q19.2.puts h12r [.bool b22, l23.v]).bind fun h25 =>
 ((h25.cell (a4.add 0)).bind AV.asBool).bind fun b26 =>
 ((h25.cell (a4.add 1)).bind AV.asSl).bind fun l27 =>
 ((h25.cell (h12r.add 0)).bind AV.asBool).bind fun b28 =>
 ((h25.cell (h12r.add 1)).bind AV.asSl).bind fun l29 =>
 (go (.fn F.ko0 [.agg [.bool b26, l27.v], .agg [.bool b28, l29.v]]) h25).bind fun q30 =>
 (AV.asTup2 q30.1).bind fun p31 =>
 (AV.asAgg p31.1).bind fun cs32 =>
 cond (Nat.beq cs32.length 2) (
 ((cs32[0]?).bind AV.asBool).bind fun b33 =>
 ((cs32[1]?).bind AV.asSl).bind fun l34 =>
 ((some p31.2).bind (AV.asInt .i64)).bind fun n35 =>
 newK q30.2 (.cells [.bool false, (⟨none, 0, .is 0⟩ : Sl).v] T.kf) fun h36r h36 =>
 (h36.puts h36r [.bool b33, l34.v]).bind fun h37 =>
 ((h37.cell a2).bind AV.asSl).bind fun l38 =>
 ((h37.cell (a3.add 0)).bind AV.asBool).bind fun b39 =>
 ((h37.cell (a3.add 1)).bind AV.asSl).bind fun l40 =>
 ((h37.cell (h36r.add 0)).bind AV.asBool).bind fun b41 =>
 ((h37.cell (h36r.add 1)).bind AV.asSl).bind fun l42 =>
 (h37.puts a1 [l38.v]).bind fun h43 =>
 whenK (SameAt h37 h43 h36r 2) (
 whenK (SameAt h37 h43 a3 2) (
 (h43.puts a2 [l10.v]).bind fun h44 =>
 whenK (SameAt h43 h44 h36r 2) (
 whenK (SameAt h43 h44 a3 2) (
 (h44.puts a4 [.bool b39, l40.v]).bind fun h45 =>
 whenK (SameAt h44 h45 h36r 2) (
 (h45.puts a3 [.bool b41, l42.v]).bind fun h46 =>
 some (.tup [], h46))))))) none)) none))) none := (kc _ h).trans (by kernel_rfl)
theorem kbcc (a1 : Bool) (a2 : Sl) (a3 : Bool) (a4 : Sl) (h : AH) : go (.fn F.knl [.agg [.bool a1, a2.v], .agg [.bool a3, a4.v]]) h =
 newK h (.cells [.bool a1, a2.v] T.kf) fun h5r h5 =>
 newK h5 (.cells [.bool a3, a4.v] T.kf) fun h6r h6 =>
 newK h6 (.cells [.bool false, (⟨none, 0, .is 0⟩ : Sl).v] T.kf) fun h7r h7 =>
 newK h7 (.cells [.bool false, (⟨none, 0, .is 0⟩ : Sl).v] T.kf) fun h8r h8 =>
 ((h8.cell (h5r.add 0)).bind AV.asBool).bind fun b9 =>
 ((h8.cell (h5r.add 1)).bind AV.asSl).bind fun l10 =>
 ((h8.cell (h6r.add 0)).bind AV.asBool).bind fun b11 =>
 ((h8.cell (h6r.add 1)).bind AV.asSl).bind fun l12 =>
 newK h8 (.cells [.bool b9, l10.v, .bool b11, l12.v] T.kf) fun h13r h13 =>
 (go (.fn F.kg8 [(⟨some h13r, 2, .is 2⟩ : Sl).v]) h13).bind fun q14 =>
 ((some q14.1).bind AV.asBool).bind fun b15 =>
 cond (!b15) (
 (q14.2.puts h7r [.bool false, (⟨none, 0, .is 0⟩ : Sl).v]).bind fun h16 =>
 (h16.puts h8r [.bool false, (⟨none, 0, .is 0⟩ : Sl).v]).bind fun h17 =>
 ((h17.cell (h7r.add 0)).bind AV.asBool).bind fun b18 =>
 ((h17.cell (h7r.add 1)).bind AV.asSl).bind fun l19 =>
 ((h17.cell (h8r.add 0)).bind AV.asBool).bind fun b20 =>
 ((h17.cell (h8r.add 1)).bind AV.asSl).bind fun l21 =>
 some (.tup [.agg [.bool b18, l19.v], .agg [.bool b20, l21.v], .int .i64 1], h17)) (
 ((q14.2.cell (h6r.add 1)).bind AV.asSl).bind fun l22 =>
 cond (decide ((l22.len : Int) = 0)) (
 (q14.2.puts h7r [.bool false, (⟨none, 0, .is 0⟩ : Sl).v]).bind fun h23 =>
 (h23.puts h8r [.bool false, (⟨none, 0, .is 0⟩ : Sl).v]).bind fun h24 =>
 ((h24.cell (h7r.add 0)).bind AV.asBool).bind fun b25 =>
 ((h24.cell (h7r.add 1)).bind AV.asSl).bind fun l26 =>
 ((h24.cell (h8r.add 0)).bind AV.asBool).bind fun b27 =>
 ((h24.cell (h8r.add 1)).bind AV.asSl).bind fun l28 =>
 some (.tup [.agg [.bool b25, l26.v], .agg [.bool b27, l28.v], .int .i64 3], h24)) (
 ((q14.2.cell (h6r.add 0)).bind AV.asBool).bind fun b29 =>
 cond b29 (
 (q14.2.puts h7r [.bool false, (⟨none, 0, .is 0⟩ : Sl).v]).bind fun h30 =>
 (h30.puts h8r [.bool false, (⟨none, 0, .is 0⟩ : Sl).v]).bind fun h31 =>
 ((h31.cell (h7r.add 0)).bind AV.asBool).bind fun b32 =>
 ((h31.cell (h7r.add 1)).bind AV.asSl).bind fun l33 =>
 ((h31.cell (h8r.add 0)).bind AV.asBool).bind fun b34 =>
 ((h31.cell (h8r.add 1)).bind AV.asSl).bind fun l35 =>
 some (.tup [.agg [.bool b32, l33.v], .agg [.bool b34, l35.v], .int .i64 1], h31)) (
 ((q14.2.cell (h5r.add 1)).bind AV.asSl).bind fun l36 =>
 ((q14.2.cell (h6r.add 1)).bind AV.asSl).bind fun l37 =>
 (go (.fn F.kfn [l36.v, l37.v]) q14.2).bind fun q38 =>
 (AV.asTup3 q38.1).bind fun p39 =>
 ((some p39.1).bind AV.asSl).bind fun l40 =>
 ((some p39.2.1).bind AV.asSl).bind fun l41 =>
 ((some p39.2.2).bind (AV.asInt .i64)).bind fun n42 =>
 ((q38.2.cell (h5r.add 0)).bind AV.asBool).bind fun b43 =>
 cond b43 (
 cond (decide ((l41.len : Int) > 0)) (
 (go (.fn F.ke7 [.int .u64 1]) q38.2).bind fun q44 =>
 ((some q44.1).bind AV.asSl).bind fun l45 =>
 (go (.fn F.kl7 [l40.v, l45.v]) q44.2).bind fun q46 =>
 (AV.asTup2 q46.1).bind fun p47 =>
 ((some p47.1).bind AV.asSl).bind fun l48 =>
 ((some p47.2).bind (AV.asInt .i64)).bind fun n49 =>
 cond (!decide (n49 = 0)) (
 (q46.2.puts h7r [.bool false, (⟨none, 0, .is 0⟩ : Sl).v]).bind fun h50 =>
 (h50.puts h8r [.bool false, (⟨none, 0, .is 0⟩ : Sl).v]).bind fun h51 =>
 ((h51.cell (h7r.add 0)).bind AV.asBool).bind fun b52 =>
 ((h51.cell (h7r.add 1)).bind AV.asSl).bind fun l53 =>
 ((h51.cell (h8r.add 0)).bind AV.asBool).bind fun b54 =>
 ((h51.cell (h8r.add 1)).bind AV.asSl).bind fun l55 =>
 some (.tup [.agg [.bool b52, l53.v], .agg [.bool b54, l55.v], .int .i64 n49], h51)) (
 ((q46.2.cell (h6r.add 1)).bind AV.asSl).bind fun l56 =>
 (go (.fn F.kjp [l56.v, l41.v]) q46.2).bind fun q57 =>
 (AV.asTup2 q57.1).bind fun p58 =>
 ((some p58.1).bind AV.asSl).bind fun l59 =>
 ((some p58.2).bind (AV.asInt .i64)).bind fun n60 =>
 ((q57.2.cell (h5r.add 0)).bind AV.asBool).bind fun b61 =>
 (go (.fn F.kbw [.bool b61, l48.v]) q57.2).bind fun q62 =>
 (AV.asAgg q62.1).bind fun cs63 =>
 cond (Nat.beq cs63.length 2) (
 ((cs63[0]?).bind AV.asBool).bind fun b64 =>
 ((cs63[1]?).bind AV.asSl).bind fun l65 =>
 (go (.fn F.kbw [.bool false, l59.v]) q62.2).bind fun q66 =>
 (AV.asAgg q66.1).bind fun cs67 =>
 cond (Nat.beq cs67.length 2) (
 ((cs67[0]?).bind AV.asBool).bind fun b68 =>
 ((cs67[1]?).bind AV.asSl).bind fun l69 =>
 (q66.2.puts h7r [.bool b64, l65.v]).bind fun h70 =>
 (h70.puts h8r [.bool b68, l69.v]).bind fun h71 =>
 ((h71.cell (h7r.add 0)).bind AV.asBool).bind fun b72 =>
 ((h71.cell (h7r.add 1)).bind AV.asSl).bind fun l73 =>
 ((h71.cell (h8r.add 0)).bind AV.asBool).bind fun b74 =>
 ((h71.cell (h8r.add 1)).bind AV.asSl).bind fun l75 =>
 some (.tup [.agg [.bool b72, l73.v], .agg [.bool b74, l75.v], .int .i64 0], h71)) none) none)) (
 ((q38.2.cell (h5r.add 0)).bind AV.asBool).bind fun b76 =>
 (go (.fn F.kbw [.bool b76, l40.v]) q38.2).bind fun q77 =>
 (AV.asAgg q77.1).bind fun cs78 =>
 cond (Nat.beq cs78.length 2) (
 ((cs78[0]?).bind AV.asBool).bind fun b79 =>
 ((cs78[1]?).bind AV.asSl).bind fun l80 =>
 (go (.fn F.kbw [.bool false, l41.v]) q77.2).bind fun q81 =>
 (AV.asAgg q81.1).bind fun cs82 =>
 cond (Nat.beq cs82.length 2) (
 ((cs82[0]?).bind AV.asBool).bind fun b83 =>
 ((cs82[1]?).bind AV.asSl).bind fun l84 =>
 (q81.2.puts h7r [.bool b79, l80.v]).bind fun h85 =>
 (h85.puts h8r [.bool b83, l84.v]).bind fun h86 =>
 ((h86.cell (h7r.add 0)).bind AV.asBool).bind fun b87 =>
 ((h86.cell (h7r.add 1)).bind AV.asSl).bind fun l88 =>
 ((h86.cell (h8r.add 0)).bind AV.asBool).bind fun b89 =>
 ((h86.cell (h8r.add 1)).bind AV.asSl).bind fun l90 =>
 some (.tup [.agg [.bool b87, l88.v], .agg [.bool b89, l90.v], .int .i64 0], h86)) none) none)) (
 ((q38.2.cell (h5r.add 0)).bind AV.asBool).bind fun b91 =>
 (go (.fn F.kbw [.bool b91, l40.v]) q38.2).bind fun q92 =>
 (AV.asAgg q92.1).bind fun cs93 =>
 cond (Nat.beq cs93.length 2) (
 ((cs93[0]?).bind AV.asBool).bind fun b94 =>
 ((cs93[1]?).bind AV.asSl).bind fun l95 =>
 (go (.fn F.kbw [.bool false, l41.v]) q92.2).bind fun q96 =>
 (AV.asAgg q96.1).bind fun cs97 =>
 cond (Nat.beq cs97.length 2) (
 ((cs97[0]?).bind AV.asBool).bind fun b98 =>
 ((cs97[1]?).bind AV.asSl).bind fun l99 =>
 (q96.2.puts h7r [.bool b94, l95.v]).bind fun h100 =>
 (h100.puts h8r [.bool b98, l99.v]).bind fun h101 =>
 ((h101.cell (h7r.add 0)).bind AV.asBool).bind fun b102 =>
 ((h101.cell (h7r.add 1)).bind AV.asSl).bind fun l103 =>
 ((h101.cell (h8r.add 0)).bind AV.asBool).bind fun b104 =>
 ((h101.cell (h8r.add 1)).bind AV.asSl).bind fun l105 =>
 some (.tup [.agg [.bool b102, l103.v], .agg [.bool b104, l105.v], .int .i64 0], h101)) none) none)))) := (kc _ h).trans (by kernel_rfl)
theorem k4j (a1 : Sl) (a2 : Int) (a3 : Int) (h : AH) : go (.pt F.keq Td.km9 [(0, a1.v), (4, .int .i64 a2), (5, .int .u64 a3)]) h =
 cond (decide (a3 > 0)) (
 go (.pt F.keq Td.km9 [(0, a1.v), (4, .int .i64 (IntKind.wrap .i64 (a2 + 1))), (5, .int .u64 (IntKind.wrap .u64 (Int.tdiv a3 2)))]) h) (
 some (.int .i64 (IntKind.wrap .i64 (a2 + (IntKind.wrap .i64 (64 * (IntKind.wrap .i64 ((a1.len : Int) - 1)))))), h)) := (kc _ h).trans (by kernel_rfl)
theorem k25 (a1 : Sl) (a2 : Sl) (h : AH) : go (.fn F.kfd [a1.v, a2.v]) h =
 (go (.fn F.kbk [a1.v]) h).bind fun q3 =>
 ((some q3.1).bind AV.asBool).bind fun b4 =>
 (go (.fn F.kbk [a2.v]) q3.2).bind fun q5 =>
 ((some q5.1).bind AV.asBool).bind fun b6 =>
 cond (!b4) (
 some (.tup [(⟨none, 0, .is 0⟩ : Sl).v, .int .i64 1], q5.2)) (
 cond (!b6) (
 some (.tup [(⟨none, 0, .is 0⟩ : Sl).v, .int .i64 1], q5.2)) (
 newK q5.2 (.cells [] T.ke) fun h7r h7 =>
 (kbf Pg T.ke a1.v h7).bind fun p9 =>
 (kp Pg (⟨some h7r, 0, .is 0⟩ : Sl) p9.1 p9.2 T.ke 1 h7).bind fun q8 =>
 (AV.asSl q8.1).bind fun l10 =>
 newK q8.2 (.cells [] T.ke) fun h11r h11 =>
 (kbf Pg T.ke a2.v h11).bind fun p13 =>
 (kp Pg (⟨some h11r, 0, .is 0⟩ : Sl) p13.1 p13.2 T.ke 1 h11).bind fun q12 =>
 (AV.asSl q12.1).bind fun l14 =>
 go (.pt F.kfd Td.kk1 [(8, l10.v), (9, l14.v)]) q12.2)) := (kc _ h).trans (by kernel_rfl)
theorem kbao (a1 : Sl) (h : AH) : go (.fn F.kbp [a1.v]) h =
 go (.pt F.kbp Td.kj8 [(0, a1.v), (3, (⟨none, 0, .is 0⟩ : Sl).v), (4, .int .i64 0)]) h := (kc _ h).trans (by kernel_rfl)
theorem kyf (a1 : Sl) (a2 : Sl) (h : AH) : go (.fn F.kci [a1.v, a2.v]) h =
 (kbs (IntKind.wrap .i64 ((a1.len : Int) + (a2.len : Int))) (IntKind.wrap .i64 ((a1.len : Int) + (a2.len : Int))) T.ke (Pg.bytesOf T.ke) [.int .u64 0] h).bind fun q3 =>
 go (.pt F.kci Td.kmc [(0, a1.v), (1, a2.v), (5, q3.1.v), (6, .int .i64 0)]) q3.2 := (kc _ h).trans (by kernel_rfl)
theorem k54 (a1 : Sl) (h : AH) : go (.fn F.kjc [a1.v]) h =
 (go (.fn F.kb8 [a1.v]) h).bind fun q2 =>
 (AV.asTup2 q2.1).bind fun p3 =>
 ((some p3.1).bind AV.asSl).bind fun l4 =>
 ((some p3.2).bind AV.asBool).bind fun b5 =>
 cond (!b5) (
 some (.tup [(⟨none, 0, .is 0⟩ : Sl).v, .int .i64 4], q2.2)) (
 some (.tup [l4.v, .int .i64 0], q2.2)) := (kc _ h).trans (by kernel_rfl)
theorem kbar (a1 : Sl) (a2 : Sl) (h : AH) : go (.fn F.ke2 [a1.v, a2.v]) h =
 cond (!decide ((a1.len : Int) = (a2.len : Int))) (
 cond (decide ((a1.len : Int) < (a2.len : Int))) (
 some (.int .i64 (-1), h)) (
 some (.int .i64 1, h))) (
 go (.pt F.ke2 Td.knb [(0, a1.v), (1, a2.v), (5, .int .i64 (IntKind.wrap .i64 ((a1.len : Int) - 1)))]) h) := (kc _ h).trans (by kernel_rfl)
theorem kbb8 (a1 : Sl) (a2 : Sl) (h : AH) : go (.fn F.khy [a1.v, a2.v]) h =
 (go (.fn F.kbk [a1.v]) h).bind fun q3 =>
 ((some q3.1).bind AV.asBool).bind fun b4 =>
 (go (.fn F.kbk [a2.v]) q3.2).bind fun q5 =>
 ((some q5.1).bind AV.asBool).bind fun b6 =>
 cond (!b4) (
 some (.tup [(⟨none, 0, .is 0⟩ : Sl).v, (⟨none, 0, .is 0⟩ : Sl).v, .int .i64 1], q5.2)) (
 cond (!b6) (
 some (.tup [(⟨none, 0, .is 0⟩ : Sl).v, (⟨none, 0, .is 0⟩ : Sl).v, .int .i64 1], q5.2)) (
 cond (decide ((a2.len : Int) = 0)) (
 some (.tup [(⟨none, 0, .is 0⟩ : Sl).v, (⟨none, 0, .is 0⟩ : Sl).v, .int .i64 3], q5.2)) (
 (go (.fn F.kbp [a1.v]) q5.2).bind fun q7 =>
 ((some q7.1).bind AV.asSl).bind fun l8 =>
 (go (.fn F.kbp [a2.v]) q7.2).bind fun q9 =>
 ((some q9.1).bind AV.asSl).bind fun l10 =>
 (go (.fn F.kcn [l8.v, l10.v]) q9.2).bind fun q11 =>
 (AV.asTup2 q11.1).bind fun p12 =>
 ((some p12.1).bind AV.asSl).bind fun l13 =>
 ((some p12.2).bind AV.asSl).bind fun l14 =>
 (go (.fn F.kb8 [l13.v]) q11.2).bind fun q15 =>
 (AV.asTup2 q15.1).bind fun p16 =>
 ((some p16.1).bind AV.asSl).bind fun l17 =>
 ((some p16.2).bind AV.asBool).bind fun b18 =>
 (go (.fn F.kb8 [l14.v]) q15.2).bind fun q19 =>
 (AV.asTup2 q19.1).bind fun p20 =>
 ((some p20.1).bind AV.asSl).bind fun l21 =>
 ((some p20.2).bind AV.asBool).bind fun b22 =>
 some (.tup [l17.v, l21.v, .int .i64 0], q19.2)))) := (kc _ h).trans (by kernel_rfl)
theorem kbb4 (a1 : Bool) (a2 : Sl) (h : AH) : go (.fn F.kb3 [.bool a1, a2.v]) h =
 newK h (.cells [.bool false, (⟨none, 0, .is 0⟩ : Sl).v] T.kf) fun h3r h3 =>
 (go (.fn F.kbk [a2.v]) h3).bind fun q4 =>
 ((some q4.1).bind AV.asBool).bind fun b5 =>
 cond (!b5) (
 (q4.2.puts h3r [.bool false, (⟨none, 0, .is 0⟩ : Sl).v]).bind fun h6 =>
 ((h6.cell (h3r.add 0)).bind AV.asBool).bind fun b7 =>
 ((h6.cell (h3r.add 1)).bind AV.asSl).bind fun l8 =>
 some (.agg [.bool b7, l8.v], h6)) (
 cond (decide ((a2.len : Int) = 0)) (
 (q4.2.puts h3r [.bool false, (⟨none, 0, .is 0⟩ : Sl).v]).bind fun h9 =>
 ((h9.cell (h3r.add 0)).bind AV.asBool).bind fun b10 =>
 ((h9.cell (h3r.add 1)).bind AV.asSl).bind fun l11 =>
 some (.agg [.bool b10, l11.v], h9)) (
 newK q4.2 (.cells [] T.ke) fun h12r h12 =>
 (kbf Pg T.ke a2.v h12).bind fun p14 =>
 (kp Pg (⟨some h12r, 0, .is 0⟩ : Sl) p14.1 p14.2 T.ke 1 h12).bind fun q13 =>
 (AV.asSl q13.1).bind fun l15 =>
 (q13.2.puts h3r [.bool a1, l15.v]).bind fun h16 =>
 ((h16.cell (h3r.add 0)).bind AV.asBool).bind fun b17 =>
 ((h16.cell (h3r.add 1)).bind AV.asSl).bind fun l18 =>
 some (.agg [.bool b17, l18.v], h16))) := (kc _ h).trans (by kernel_rfl)
theorem k4n (a1 : Bool) (a2 : Sl) (a3 : Bool) (a4 : Sl) (h : AH) : go (.fn F.kl6 [.agg [.bool a1, a2.v], .agg [.bool a3, a4.v]]) h =
 newK h (.cells [.bool a1, a2.v] T.kf) fun h5r h5 =>
 newK h5 (.cells [.bool a3, a4.v] T.kf) fun h6r h6 =>
 newK h6 (.cells [.bool false, (⟨none, 0, .is 0⟩ : Sl).v] T.kf) fun h7r h7 =>
 ((h7.cell (h5r.add 0)).bind AV.asBool).bind fun b8 =>
 ((h7.cell (h5r.add 1)).bind AV.asSl).bind fun l9 =>
 (go (.fn F.kdl [.agg [.bool b8, l9.v]]) h7).bind fun q10 =>
 ((some q10.1).bind AV.asBool).bind fun b11 =>
 ((q10.2.cell (h6r.add 0)).bind AV.asBool).bind fun b12 =>
 ((q10.2.cell (h6r.add 1)).bind AV.asSl).bind fun l13 =>
 (go (.fn F.kdl [.agg [.bool b12, l13.v]]) q10.2).bind fun q14 =>
 ((some q14.1).bind AV.asBool).bind fun b15 =>
 cond (!b11) (
 (q14.2.puts h7r [.bool false, (⟨none, 0, .is 0⟩ : Sl).v]).bind fun h16 =>
 ((h16.cell (h7r.add 0)).bind AV.asBool).bind fun b17 =>
 ((h16.cell (h7r.add 1)).bind AV.asSl).bind fun l18 =>
 some (.tup [.agg [.bool b17, l18.v], .int .i64 1], h16)) (
 cond (!b15) (
 (q14.2.puts h7r [.bool false, (⟨none, 0, .is 0⟩ : Sl).v]).bind fun h19 =>
 ((h19.cell (h7r.add 0)).bind AV.asBool).bind fun b20 =>
 ((h19.cell (h7r.add 1)).bind AV.asSl).bind fun l21 =>
 some (.tup [.agg [.bool b20, l21.v], .int .i64 1], h19)) (
 ((q14.2.cell (h5r.add 1)).bind AV.asSl).bind fun l22 =>
 ((q14.2.cell (h6r.add 1)).bind AV.asSl).bind fun l23 =>
 (go (.fn F.kj7 [l22.v, l23.v]) q14.2).bind fun q24 =>
 (AV.asTup2 q24.1).bind fun p25 =>
 ((some p25.1).bind AV.asSl).bind fun l26 =>
 ((some p25.2).bind (AV.asInt .i64)).bind fun n27 =>
 ((q24.2.cell (h5r.add 0)).bind AV.asBool).bind fun b28 =>
 ((q24.2.cell (h6r.add 0)).bind AV.asBool).bind fun b29 =>
 (go (.fn F.kb3 [.bool (!(b28 == b29)), l26.v]) q24.2).bind fun q30 =>
 (AV.asAgg q30.1).bind fun cs31 =>
 cond (Nat.beq cs31.length 2) (
 ((cs31[0]?).bind AV.asBool).bind fun b32 =>
 ((cs31[1]?).bind AV.asSl).bind fun l33 =>
 (q30.2.puts h7r [.bool b32, l33.v]).bind fun h34 =>
 ((h34.cell (h7r.add 0)).bind AV.asBool).bind fun b35 =>
 ((h34.cell (h7r.add 1)).bind AV.asSl).bind fun l36 =>
 some (.tup [.agg [.bool b35, l36.v], .int .i64 n27], h34)) none)) := (kc _ h).trans (by kernel_rfl)
theorem k0h (a1 : Bool) (a2 : Sl) (a3 : Bool) (a4 : Sl) (h : AH) : go (.fn F.knk [.agg [.bool a1, a2.v], .agg [.bool a3, a4.v]]) h =
 newK h (.cells [.bool a1, a2.v] T.kf) fun h5r h5 =>
 newK h5 (.cells [.bool a3, a4.v] T.kf) fun h6r h6 =>
 newK h6 (.cells [.bool false, (⟨none, 0, .is 0⟩ : Sl).v] T.kf) fun h7r h7 =>
 ((h7.cell (h5r.add 0)).bind AV.asBool).bind fun b8 =>
 ((h7.cell (h5r.add 1)).bind AV.asSl).bind fun l9 =>
 (go (.fn F.kdl [.agg [.bool b8, l9.v]]) h7).bind fun q10 =>
 ((some q10.1).bind AV.asBool).bind fun b11 =>
 ((q10.2.cell (h6r.add 0)).bind AV.asBool).bind fun b12 =>
 ((q10.2.cell (h6r.add 1)).bind AV.asSl).bind fun l13 =>
 (go (.fn F.kdl [.agg [.bool b12, l13.v]]) q10.2).bind fun q14 =>
 ((some q14.1).bind AV.asBool).bind fun b15 =>
 cond (!b11) (
 (q14.2.puts h7r [.bool false, (⟨none, 0, .is 0⟩ : Sl).v]).bind fun h16 =>
 ((h16.cell (h7r.add 0)).bind AV.asBool).bind fun b17 =>
 ((h16.cell (h7r.add 1)).bind AV.asSl).bind fun l18 =>
 some (.tup [.agg [.bool b17, l18.v], .int .i64 1], h16)) (
 cond (!b15) (
 (q14.2.puts h7r [.bool false, (⟨none, 0, .is 0⟩ : Sl).v]).bind fun h19 =>
 ((h19.cell (h7r.add 0)).bind AV.asBool).bind fun b20 =>
 ((h19.cell (h7r.add 1)).bind AV.asSl).bind fun l21 =>
 some (.tup [.agg [.bool b20, l21.v], .int .i64 1], h19)) (
 ((q14.2.cell (h5r.add 0)).bind AV.asBool).bind fun b22 =>
 ((q14.2.cell (h5r.add 1)).bind AV.asSl).bind fun l23 =>
 ((q14.2.cell (h6r.add 0)).bind AV.asBool).bind fun b24 =>
 ((q14.2.cell (h6r.add 1)).bind AV.asSl).bind fun l25 =>
 (go (.fn F.kqt [.agg [.bool b24, l25.v]]) q14.2).bind fun q26 =>
 (AV.asAgg q26.1).bind fun cs27 =>
 cond (Nat.beq cs27.length 2) (
 ((cs27[0]?).bind AV.asBool).bind fun b28 =>
 ((cs27[1]?).bind AV.asSl).bind fun l29 =>
 whenK (SameAt q14.2 q26.2 h5r 2) (
 (go (.fn F.kn3 [.agg [.bool b22, l23.v], .agg [.bool b28, l29.v]]) q26.2).bind fun q30 =>
 (AV.asTup2 q30.1).bind fun p31 =>
 (AV.asAgg p31.1).bind fun cs32 =>
 cond (Nat.beq cs32.length 2) (
 ((cs32[0]?).bind AV.asBool).bind fun b33 =>
 ((cs32[1]?).bind AV.asSl).bind fun l34 =>
 ((some p31.2).bind (AV.asInt .i64)).bind fun n35 =>
 (q30.2.puts h7r [.bool b33, l34.v]).bind fun h36 =>
 ((h36.cell (h7r.add 0)).bind AV.asBool).bind fun b37 =>
 ((h36.cell (h7r.add 1)).bind AV.asSl).bind fun l38 =>
 some (.tup [.agg [.bool b37, l38.v], .int .i64 n35], h36)) none)) none)) := (kc _ h).trans (by kernel_rfl)
theorem k38 (a1 : Bool) (a2 : Sl) (a3 : Bool) (a4 : Sl) (h : AH) : go (.fn F.knn [.agg [.bool a1, a2.v], .agg [.bool a3, a4.v]]) h =
 newK h (.cells [.bool a1, a2.v] T.kf) fun h5r h5 =>
 newK h5 (.cells [.bool a3, a4.v] T.kf) fun h6r h6 =>
 newK h6 (.cells [.bool false, (⟨none, 0, .is 0⟩ : Sl).v] T.kf) fun h7r h7 =>
 newK h7 (.cells [.bool false, (⟨none, 0, .is 0⟩ : Sl).v] T.kf) fun h8r h8 =>
 ((h8.cell (h5r.add 0)).bind AV.asBool).bind fun b9 =>
 ((h8.cell (h5r.add 1)).bind AV.asSl).bind fun l10 =>
 (go (.fn F.kdl [.agg [.bool b9, l10.v]]) h8).bind fun q11 =>
 ((some q11.1).bind AV.asBool).bind fun b12 =>
 ((q11.2.cell (h6r.add 0)).bind AV.asBool).bind fun b13 =>
 ((q11.2.cell (h6r.add 1)).bind AV.asSl).bind fun l14 =>
 (go (.fn F.kdl [.agg [.bool b13, l14.v]]) q11.2).bind fun q15 =>
 ((some q15.1).bind AV.asBool).bind fun b16 =>
 cond (!b12) (
 (q15.2.puts h7r [.bool false, (⟨none, 0, .is 0⟩ : Sl).v]).bind fun h17 =>
 (h17.puts h8r [.bool false, (⟨none, 0, .is 0⟩ : Sl).v]).bind fun h18 =>
 ((h18.cell (h7r.add 0)).bind AV.asBool).bind fun b19 =>
 ((h18.cell (h7r.add 1)).bind AV.asSl).bind fun l20 =>
 ((h18.cell (h8r.add 0)).bind AV.asBool).bind fun b21 =>
 ((h18.cell (h8r.add 1)).bind AV.asSl).bind fun l22 =>
 some (.tup [.agg [.bool b19, l20.v], .agg [.bool b21, l22.v], .int .i64 1], h18)) (
 cond (!b16) (
 (q15.2.puts h7r [.bool false, (⟨none, 0, .is 0⟩ : Sl).v]).bind fun h23 =>
 (h23.puts h8r [.bool false, (⟨none, 0, .is 0⟩ : Sl).v]).bind fun h24 =>
 ((h24.cell (h7r.add 0)).bind AV.asBool).bind fun b25 =>
 ((h24.cell (h7r.add 1)).bind AV.asSl).bind fun l26 =>
 ((h24.cell (h8r.add 0)).bind AV.asBool).bind fun b27 =>
 ((h24.cell (h8r.add 1)).bind AV.asSl).bind fun l28 =>
 some (.tup [.agg [.bool b25, l26.v], .agg [.bool b27, l28.v], .int .i64 1], h24)) (
 ((q15.2.cell (h6r.add 1)).bind AV.asSl).bind fun l29 =>
 cond (decide ((l29.len : Int) = 0)) (
 (q15.2.puts h7r [.bool false, (⟨none, 0, .is 0⟩ : Sl).v]).bind fun h30 =>
 (h30.puts h8r [.bool false, (⟨none, 0, .is 0⟩ : Sl).v]).bind fun h31 =>
 ((h31.cell (h7r.add 0)).bind AV.asBool).bind fun b32 =>
 ((h31.cell (h7r.add 1)).bind AV.asSl).bind fun l33 =>
 ((h31.cell (h8r.add 0)).bind AV.asBool).bind fun b34 =>
 ((h31.cell (h8r.add 1)).bind AV.asSl).bind fun l35 =>
 some (.tup [.agg [.bool b32, l33.v], .agg [.bool b34, l35.v], .int .i64 3], h31)) (
 ((q15.2.cell (h6r.add 0)).bind AV.asBool).bind fun b36 =>
 cond b36 (
 (q15.2.puts h7r [.bool false, (⟨none, 0, .is 0⟩ : Sl).v]).bind fun h37 =>
 (h37.puts h8r [.bool false, (⟨none, 0, .is 0⟩ : Sl).v]).bind fun h38 =>
 ((h38.cell (h7r.add 0)).bind AV.asBool).bind fun b39 =>
 ((h38.cell (h7r.add 1)).bind AV.asSl).bind fun l40 =>
 ((h38.cell (h8r.add 0)).bind AV.asBool).bind fun b41 =>
 ((h38.cell (h8r.add 1)).bind AV.asSl).bind fun l42 =>
 some (.tup [.agg [.bool b39, l40.v], .agg [.bool b41, l42.v], .int .i64 1], h38)) (
 ((q15.2.cell (h5r.add 1)).bind AV.asSl).bind fun l43 =>
 ((q15.2.cell (h6r.add 1)).bind AV.asSl).bind fun l44 =>
 (go (.fn F.khy [l43.v, l44.v]) q15.2).bind fun q45 =>
 (AV.asTup3 q45.1).bind fun p46 =>
 ((some p46.1).bind AV.asSl).bind fun l47 =>
 ((some p46.2.1).bind AV.asSl).bind fun l48 =>
 ((some p46.2.2).bind (AV.asInt .i64)).bind fun n49 =>
 ((q45.2.cell (h5r.add 0)).bind AV.asBool).bind fun b50 =>
 cond (!b50) (
 (go (.fn F.kb3 [.bool false, l47.v]) q45.2).bind fun q51 =>
 (AV.asAgg q51.1).bind fun cs52 =>
 cond (Nat.beq cs52.length 2) (
 ((cs52[0]?).bind AV.asBool).bind fun b53 =>
 ((cs52[1]?).bind AV.asSl).bind fun l54 =>
 (go (.fn F.kb3 [.bool false, l48.v]) q51.2).bind fun q55 =>
 (AV.asAgg q55.1).bind fun cs56 =>
 cond (Nat.beq cs56.length 2) (
 ((cs56[0]?).bind AV.asBool).bind fun b57 =>
 ((cs56[1]?).bind AV.asSl).bind fun l58 =>
 (q55.2.puts h7r [.bool b53, l54.v]).bind fun h59 =>
 (h59.puts h8r [.bool b57, l58.v]).bind fun h60 =>
 ((h60.cell (h7r.add 0)).bind AV.asBool).bind fun b61 =>
 ((h60.cell (h7r.add 1)).bind AV.asSl).bind fun l62 =>
 ((h60.cell (h8r.add 0)).bind AV.asBool).bind fun b63 =>
 ((h60.cell (h8r.add 1)).bind AV.asSl).bind fun l64 =>
 some (.tup [.agg [.bool b61, l62.v], .agg [.bool b63, l64.v], .int .i64 0], h60)) none) none) (
 cond (decide ((l48.len : Int) = 0)) (
 (go (.fn F.kb3 [.bool true, l47.v]) q45.2).bind fun q65 =>
 (AV.asAgg q65.1).bind fun cs66 =>
 cond (Nat.beq cs66.length 2) (
 ((cs66[0]?).bind AV.asBool).bind fun b67 =>
 ((cs66[1]?).bind AV.asSl).bind fun l68 =>
 (q65.2.puts h7r [.bool b67, l68.v]).bind fun h69 =>
 (h69.puts h8r [.bool false, (⟨none, 0, .is 0⟩ : Sl).v]).bind fun h70 =>
 ((h70.cell (h7r.add 0)).bind AV.asBool).bind fun b71 =>
 ((h70.cell (h7r.add 1)).bind AV.asSl).bind fun l72 =>
 ((h70.cell (h8r.add 0)).bind AV.asBool).bind fun b73 =>
 ((h70.cell (h8r.add 1)).bind AV.asSl).bind fun l74 =>
 some (.tup [.agg [.bool b71, l72.v], .agg [.bool b73, l74.v], .int .i64 0], h70)) none) (
 (go (.fn F.kdd [.int .u64 1]) q45.2).bind fun q75 =>
 ((some q75.1).bind AV.asSl).bind fun l76 =>
 (go (.fn F.kle [l47.v, l76.v]) q75.2).bind fun q77 =>
 (AV.asTup2 q77.1).bind fun p78 =>
 ((some p78.1).bind AV.asSl).bind fun l79 =>
 ((some p78.2).bind (AV.asInt .i64)).bind fun n80 =>
 cond (!decide (n80 = 0)) (
 (q77.2.puts h7r [.bool false, (⟨none, 0, .is 0⟩ : Sl).v]).bind fun h81 =>
 (h81.puts h8r [.bool false, (⟨none, 0, .is 0⟩ : Sl).v]).bind fun h82 =>
 ((h82.cell (h7r.add 0)).bind AV.asBool).bind fun b83 =>
 ((h82.cell (h7r.add 1)).bind AV.asSl).bind fun l84 =>
 ((h82.cell (h8r.add 0)).bind AV.asBool).bind fun b85 =>
 ((h82.cell (h8r.add 1)).bind AV.asSl).bind fun l86 =>
 some (.tup [.agg [.bool b83, l84.v], .agg [.bool b85, l86.v], .int .i64 n80], h82)) (
 ((q77.2.cell (h6r.add 1)).bind AV.asSl).bind fun l87 =>
 (go (.fn F.kiq [l87.v, l48.v]) q77.2).bind fun q88 =>
 (AV.asTup2 q88.1).bind fun p89 =>
 ((some p89.1).bind AV.asSl).bind fun l90 =>
 ((some p89.2).bind (AV.asInt .i64)).bind fun n91 =>
 (go (.fn F.kb3 [.bool true, l79.v]) q88.2).bind fun q92 =>
 (AV.asAgg q92.1).bind fun cs93 =>
 cond (Nat.beq cs93.length 2) (
 ((cs93[0]?).bind AV.asBool).bind fun b94 =>
 ((cs93[1]?).bind AV.asSl).bind fun l95 =>
 (go (.fn F.kb3 [.bool false, l90.v]) q92.2).bind fun q96 =>
 (AV.asAgg q96.1).bind fun cs97 =>
 cond (Nat.beq cs97.length 2) (
 ((cs97[0]?).bind AV.asBool).bind fun b98 =>
 ((cs97[1]?).bind AV.asSl).bind fun l99 =>
 (q96.2.puts h7r [.bool b94, l95.v]).bind fun h100 =>
 (h100.puts h8r [.bool b98, l99.v]).bind fun h101 =>
 ((h101.cell (h7r.add 0)).bind AV.asBool).bind fun b102 =>
 ((h101.cell (h7r.add 1)).bind AV.asSl).bind fun l103 =>
 ((h101.cell (h8r.add 0)).bind AV.asBool).bind fun b104 =>
 ((h101.cell (h8r.add 1)).bind AV.asSl).bind fun l105 =>
 some (.tup [.agg [.bool b102, l103.v], .agg [.bool b104, l105.v], .int .i64 0], h101)) none) none))))))) := (kc _ h).trans (by kernel_rfl)
theorem kwy (a1 : Int) (a2 : Ref) (a3 : Ref) (a4 : Sl) (a5 : Sl) (a6 : Int) (a7 : Int) (h : AH) : go (.pt F.ke8 Td.kjv [(2, .int .i64 a1), (3, .ptr (some a2)), (6, .ptr (some a3)), (8, a4.v), (44, a5.v), (45, .int .i64 a6), (46, .int .i64 a7)]) h =
 cond (decide (a7 < a6)) (
 (idx a5.ref a5.len a7 1).bind fun r8 =>
 ((h.cell r8).bind (AV.asInt .i64)).bind fun n9 =>
 cond (decide (n9 ≤ a1)) (
 newK h (.cells [.int .i64 a7] T.int) fun h10r h10 =>
 (kbf Pg T.int ((⟨some h10r, 1, .is 1⟩ : Sl).v) h10).bind fun p12 =>
 (kp Pg a4 p12.1 p12.2 T.int 1 h10).bind fun q11 =>
 (AV.asSl q11.1).bind fun l13 =>
 go (.pt F.ke8 Td.kjv [(2, .int .i64 a1), (3, .ptr (some a2)), (6, .ptr (some a3)), (8, l13.v), (44, a5.v), (45, .int .i64 a6), (46, .int .i64 (IntKind.wrap .i64 (a7 + 1)))]) q11.2) (
 go (.pt F.ke8 Td.kjv [(2, .int .i64 a1), (3, .ptr (some a2)), (6, .ptr (some a3)), (8, a4.v), (44, a5.v), (45, .int .i64 a6), (46, .int .i64 (IntKind.wrap .i64 (a7 + 1)))]) h)) (
 ((h.cell (a2.add 0)).bind AV.asSl).bind fun l14 =>
 (go (.fn F.kha [.int .i64 (l14.len : Int), a4.v]) h).bind fun q15 =>
 (AV.asTup2 q15.1).bind fun p16 =>
 (AV.asAgg p16.1).bind fun cs17 =>
 cond (Nat.beq cs17.length 2) (
 ((cs17[0]?).bind (AV.asInt .i64)).bind fun n18 =>
 ((cs17[1]?).bind AV.asSl).bind fun l19 =>
 ((some p16.2).bind (AV.asInt .i64)).bind fun n20 =>
 (q15.2.puts a3 [.int .i64 n18, l19.v]).bind fun h21 =>
 ((h21.cell (a3.add 0)).bind (AV.asInt .i64)).bind fun n22 =>
 ((h21.cell (a3.add 1)).bind AV.asSl).bind fun l23 =>
 some (.tup [.agg [.int .i64 n22, l23.v], .int .i64 n20], h21)) none) := (kc _ h).trans (by kernel_rfl)
theorem k2d (a1 : Int) (a2 : Sl) (a3 : Int) (a4 : Sl) (h : AH) : go (.fn F.kga [.agg [.int .i64 a1, a2.v], .agg [.int .i64 a3, a4.v], .func (.func F.kek) [] []]) h =
 newK h (.cells [.int .i64 a1, a2.v] T.ks) fun h5r h5 =>
 newK h5 (.cells [.int .i64 a3, a4.v] T.ks) fun h6r h6 =>
 newK h6 (.cells [.int .i64 0, (⟨none, 0, .is 0⟩ : Sl).v] T.ks) fun h7r h7 =>
 ((h7.cell (h5r.add 0)).bind (AV.asInt .i64)).bind fun n8 =>
 ((h7.cell (h5r.add 1)).bind AV.asSl).bind fun l9 =>
 (go (.fn F.khm [.agg [.int .i64 n8, l9.v]]) h7).bind fun q10 =>
 ((some q10.1).bind AV.asBool).bind fun b11 =>
 cond (!b11) (
 (q10.2.puts h7r [.int .i64 0, (⟨none, 0, .is 0⟩ : Sl).v]).bind fun h12 =>
 ((h12.cell (h7r.add 0)).bind (AV.asInt .i64)).bind fun n13 =>
 ((h12.cell (h7r.add 1)).bind AV.asSl).bind fun l14 =>
 some (.tup [.agg [.int .i64 n13, l14.v], .int .i64 1], h12)) (
 ((q10.2.cell (h6r.add 0)).bind (AV.asInt .i64)).bind fun n15 =>
 ((q10.2.cell (h6r.add 1)).bind AV.asSl).bind fun l16 =>
 (go (.fn F.khm [.agg [.int .i64 n15, l16.v]]) q10.2).bind fun q17 =>
 ((some q17.1).bind AV.asBool).bind fun b18 =>
 cond (!b18) (
 (q17.2.puts h7r [.int .i64 0, (⟨none, 0, .is 0⟩ : Sl).v]).bind fun h19 =>
 ((h19.cell (h7r.add 0)).bind (AV.asInt .i64)).bind fun n20 =>
 ((h19.cell (h7r.add 1)).bind AV.asSl).bind fun l21 =>
 some (.tup [.agg [.int .i64 n20, l21.v], .int .i64 1], h19)) (
 ((q17.2.cell (h5r.add 0)).bind (AV.asInt .i64)).bind fun n22 =>
 ((q17.2.cell (h6r.add 0)).bind (AV.asInt .i64)).bind fun n23 =>
 cond (!decide (n22 = n23)) (
 (q17.2.puts h7r [.int .i64 0, (⟨none, 0, .is 0⟩ : Sl).v]).bind fun h24 =>
 ((h24.cell (h7r.add 0)).bind (AV.asInt .i64)).bind fun n25 =>
 ((h24.cell (h7r.add 1)).bind AV.asSl).bind fun l26 =>
 some (.tup [.agg [.int .i64 n25, l26.v], .int .i64 1], h24)) (
 ((q17.2.cell (h5r.add 0)).bind (AV.asInt .i64)).bind fun n27 =>
 (go (.fn F.kk3 [.int .i64 n27]) q17.2).bind fun q28 =>
 (AV.asTup2 q28.1).bind fun p29 =>
 (AV.asAgg p29.1).bind fun cs30 =>
 cond (Nat.beq cs30.length 2) (
 ((cs30[0]?).bind (AV.asInt .i64)).bind fun n31 =>
 ((cs30[1]?).bind AV.asSl).bind fun l32 =>
 ((some p29.2).bind (AV.asInt .i64)).bind fun n33 =>
 newK q28.2 (.cells [.int .i64 0, (⟨none, 0, .is 0⟩ : Sl).v] T.ks) fun h34r h34 =>
 (h34.puts h34r [.int .i64 n31, l32.v]).bind fun h35 =>
 ((h35.cell (h34r.add 1)).bind AV.asSl).bind fun l36 =>
 go (.pt F.kga Td.kll [(2, .func (.func F.kek) [] []), (3, .ptr (some h5r)), (4, .ptr (some h6r)), (6, .ptr (some h7r)), (8, .ptr (some h34r)), (9, .int .i64 n33), (35, .int .i64 (l36.len : Int)), (36, .int .i64 0)]) h35) none))) := (kc _ h).trans (by kernel_rfl)
theorem k46 (a1 : Int) (a2 : Sl) (h : AH) : go (.fn F.koh [.agg [.int .i64 a1, a2.v]]) h =
 newK h (.cells [.int .i64 a1, a2.v] T.ks) fun h3r h3 =>
 some (.func (.func F.kb2) [] [.ptr (some h3r)], h3) := (kc _ h).trans (by kernel_rfl)
theorem k18 (a1 : AV) (h : AH) : go (.fn F.koa [a1]) h =
 (go (.fn F.kd7 [(⟨none, 0, .is 0⟩ : Sl).v, a1]) h).bind fun q2 =>
 ((some q2.1).bind AV.asSl).bind fun l3 =>
 some (l3.v, q2.2) := (kc _ h).trans (by kernel_rfl)
theorem kyg (a1 : Sl) (h : AH) : go (.fn F.khj [a1.v, .func (.func F.kdo) [] []]) h =
 go (.pt F.khj Td.kmr [(0, a1.v), (1, .func (.func F.kdo) [] []), (7, .int .i64 (a1.len : Int)), (8, .int .i64 0)]) h := (kc _ h).trans (by kernel_rfl)
theorem kzy (a1 : Int) (a2 : Int) (a3 : Int) (h : AH) : go (.fn F.kbj [.int .u64 a1, .int .u64 a2, .int .u64 a3]) h =
 cond (decide (a3 = 0)) (
 (h.cell (.old ⟨Gl.math_bits_divideError, 0, none⟩)).bind fun v4 =>
 none) (
 go (.pt F.kbj Td.kpc [(0, .int .u64 a1), (1, .int .u64 a2), (2, .int .u64 a3)]) h) := (kc _ h).trans (by kernel_rfl)
theorem kxo (a1 : Int) (a2 : Sl) (a3 : Sl) (a4 : Int) (a5 : Int) (h : AH) : go (.pt F.kd6 Td.kkr [(1, .int .u64 a1), (5, a2.v), (12, a3.v), (13, .int .i64 a4), (14, .int .i64 a5)]) h =
 cond (decide (a5 < a4)) (
 (idx a3.ref a3.len a5 1).bind fun r6 =>
 ((h.cell r6).bind (AV.asInt .u64)).bind fun n7 =>
 (idx a2.ref a2.len a5 1).bind fun r8 =>
 ((h.cell r8).bind (AV.asInt .u64)).bind fun n9 =>
 cond (decide (a1 < 0)) none (
 (idx a2.ref a2.len a5 1).bind fun r10 =>
 (h.puts r10 [.int .u64 (ior .u64 n9 (ishl .u64 n7 a1))]).bind fun h11 =>
 cond (decide (a1 > 0)) (
 cond (decide ((IntKind.wrap .u64 (64 - a1)) < 0)) none (
 (idx a2.ref a2.len (IntKind.wrap .i64 (a5 + 1)) 1).bind fun r12 =>
 (h11.puts r12 [.int .u64 (ishr .u64 n7 (IntKind.wrap .u64 (64 - a1)))]).bind fun h13 =>
 go (.pt F.kd6 Td.kkr [(1, .int .u64 a1), (5, a2.v), (12, a3.v), (13, .int .i64 a4), (14, .int .i64 (IntKind.wrap .i64 (a5 + 1)))]) h13)) (
 go (.pt F.kd6 Td.kkr [(1, .int .u64 a1), (5, a2.v), (12, a3.v), (13, .int .i64 a4), (14, .int .i64 (IntKind.wrap .i64 (a5 + 1)))]) h11))) (
 some (a2.v, h)) := (kc _ h).trans (by kernel_rfl)
theorem k4y (a1 : Int) (a2 : Int) (a3 : Int) (a4 : Int) (a5 : Int) (h : AH) : go (.fn F.ke1 [.int .u64 a1, .int .u64 a2, .int .u64 a3, .int .u64 a4, .int .u64 a5]) h =
 cond (decide (a1 ≥ a4)) (
 some (.int .u64 18446744073709551615, h)) (
 (go (.fn F.kbj [.int .u64 a1, .int .u64 a2, .int .u64 a4]) h).bind fun q6 =>
 (AV.asTup2 q6.1).bind fun p7 =>
 ((some p7.1).bind (AV.asInt .u64)).bind fun n8 =>
 ((some p7.2).bind (AV.asInt .u64)).bind fun n9 =>
 go (.pt F.ke1 Td.kkm [(2, .int .u64 a3), (3, .int .u64 a4), (4, .int .u64 a5), (11, .int .u64 n8), (12, .int .u64 n9)]) q6.2) := (kc _ h).trans (by kernel_rfl)
theorem kzl (a1 : Int) (a2 : Sl) (a3 : Sl) (a4 : Int) (a5 : Sl) (a6 : Int) (a7 : Int) (a8 : Sl) (h : AH) : go (.pt F.kbz Td.kmb [(6, .int .u64 a1), (7, a2.v), (8, a3.v), (9, .int .i64 a4), (10, a5.v), (11, .int .i64 a6), (12, .int .u64 a7), (13, a8.v)]) h =
 (go (.fn F.ke7 [.int .u64 a7]) h).bind fun q9 =>
 ((some q9.1).bind AV.asSl).bind fun l10 =>
 (go (.fn F.kcj [a3.v, l10.v]) q9.2).bind fun q11 =>
 ((some q11.1).bind AV.asSl).bind fun l12 =>
 (go (.fn F.kf9 [a8.v]) q11.2).bind fun q13 =>
 ((some q13.1).bind AV.asSl).bind fun l14 =>
 (go (.fn F.kbe [l14.v]) q13.2).bind fun q15 =>
 ((some q15.1).bind AV.asSl).bind fun l16 =>
 (go (.fn F.kd5 [l16.v, l12.v]) q15.2).bind fun q17 =>
 ((some q17.1).bind (AV.asInt .i64)).bind fun n18 =>
 cond (decide (n18 ≥ 0)) (
 (go (.fn F.kct [a8.v, l12.v]) q17.2).bind fun q19 =>
 ((some q19.1).bind AV.asSl).bind fun l20 =>
 (copyH l20 a8 1 q19.2).bind fun h21 =>
 (idx a5.ref a5.len a6 1).bind fun r22 =>
 (h21.puts r22 [.int .u64 a7]).bind fun h23 =>
 go (.pt F.kbz Td.knj [(6, .int .u64 a1), (7, a2.v), (8, a3.v), (9, .int .i64 a4), (10, a5.v), (11, .int .i64 (IntKind.wrap .i64 (a6 - 1)))]) h23) (
 go (.pt F.kbz Td.kmb [(6, .int .u64 a1), (7, a2.v), (8, a3.v), (9, .int .i64 a4), (10, a5.v), (11, .int .i64 a6), (12, .int .u64 (IntKind.wrap .u64 (a7 - 1))), (13, a8.v)]) q17.2) := (kc _ h).trans (by kernel_rfl)
theorem k57 (a1 : Int) (a2 : Sl) (a3 : Sl) (a4 : Sl) (a5 : Int) (a6 : Int) (h : AH) : go (.pt F.kbz Td.khx [(6, .int .u64 a1), (10, a2.v), (15, a3.v), (16, a4.v), (112, .int .i64 a5), (113, .int .i64 a6)]) h =
 cond (decide (a6 < a5)) (
 (idx a3.ref a3.len a6 1).bind fun r7 =>
 ((h.cell r7).bind (AV.asInt .u64)).bind fun n8 =>
 cond (decide (a1 < 0)) none (
 (idx a4.ref a4.len a6 1).bind fun r9 =>
 (h.puts r9 [.int .u64 (ishr .u64 n8 a1)]).bind fun h10 =>
 cond (decide (a1 > 0)) (
 cond (decide ((IntKind.wrap .i64 (a6 + 1)) < (a3.len : Int))) (
 (idx a4.ref a4.len a6 1).bind fun r11 =>
 ((h10.cell r11).bind (AV.asInt .u64)).bind fun n12 =>
 (idx a3.ref a3.len (IntKind.wrap .i64 (a6 + 1)) 1).bind fun r13 =>
 ((h10.cell r13).bind (AV.asInt .u64)).bind fun n14 =>
 cond (decide ((IntKind.wrap .u64 (64 - a1)) < 0)) none (
 (idx a4.ref a4.len a6 1).bind fun r15 =>
 (h10.puts r15 [.int .u64 (ior .u64 n12 (ishl .u64 n14 (IntKind.wrap .u64 (64 - a1))))]).bind fun h16 =>
 go (.pt F.kbz Td.khx [(6, .int .u64 a1), (10, a2.v), (15, a3.v), (16, a4.v), (112, .int .i64 a5), (113, .int .i64 (IntKind.wrap .i64 (a6 + 1)))]) h16)) (
 go (.pt F.kbz Td.khx [(6, .int .u64 a1), (10, a2.v), (15, a3.v), (16, a4.v), (112, .int .i64 a5), (113, .int .i64 (IntKind.wrap .i64 (a6 + 1)))]) h10)) (
 go (.pt F.kbz Td.khx [(6, .int .u64 a1), (10, a2.v), (15, a3.v), (16, a4.v), (112, .int .i64 a5), (113, .int .i64 (IntKind.wrap .i64 (a6 + 1)))]) h10))) (
 (go (.fn F.kbe [a2.v]) h).bind fun q17 =>
 ((some q17.1).bind AV.asSl).bind fun l18 =>
 (go (.fn F.kbe [a4.v]) q17.2).bind fun q19 =>
 ((some q19.1).bind AV.asSl).bind fun l20 =>
 some (.tup [l18.v, l20.v], q19.2)) := (kc _ h).trans (by kernel_rfl)
theorem k3w (a1 : Int) (a2 : Int) (h : AH) : go (.fn F.kmw [.int .u64 a1, .int .u64 a2]) h =
 some (.tup [.int .u64 (IntKind.wrap .u64 ((IntKind.wrap .u64 ((IntKind.wrap .u64 ((ishr .u64 a1 32) * (ishr .u64 a2 32))) + (ishr .u64 (IntKind.wrap .u64 ((IntKind.wrap .u64 ((ishr .u64 a1 32) * (iand .u64 a2 4294967295))) + (ishr .u64 (IntKind.wrap .u64 ((iand .u64 a1 4294967295) * (iand .u64 a2 4294967295))) 32))) 32))) + (ishr .u64 (IntKind.wrap .u64 ((iand .u64 (IntKind.wrap .u64 ((IntKind.wrap .u64 ((ishr .u64 a1 32) * (iand .u64 a2 4294967295))) + (ishr .u64 (IntKind.wrap .u64 ((iand .u64 a1 4294967295) * (iand .u64 a2 4294967295))) 32))) 4294967295) + (IntKind.wrap .u64 ((iand .u64 a1 4294967295) * (ishr .u64 a2 32))))) 32))), .int .u64 (IntKind.wrap .u64 (a1 * a2))], h) := (kc _ h).trans (by kernel_rfl)
theorem kye (a1 : Sl) (h : AH) : go (.fn F.kof [a1.v]) h =
 cond (decide ((a1.len : Int) ≤ 256)) (
 (go (.fn F.kc3 [a1.v, .func (.func F.kc5) [] []]) h).bind fun q2 =>
 ((some q2.1).bind AV.asBool).bind fun b3 =>
 cond (!b3) (
 (go (.fn F.kg3 [a1.v]) q2.2).bind fun q4 =>
 ((some q4.1).bind AV.asMap).bind fun m5 =>
 (mapLen q4.2 m5).bind fun n6 =>
 some (.bool (decide ((n6 : Int) = (a1.len : Int))), q4.2)) (
 some (.bool false, q2.2))) (
 some (.bool false, h)) := (kc _ h).trans (by kernel_rfl)
theorem ktj (a1 : Ref) (a2 : Sl) (a3 : Int) (a4 : Int) (h : AH) : go (.pt F.kfl Td.kni [(1, .ptr (some a1)), (27, a2.v), (28, .int .i64 a3), (29, .int .i64 a4)]) h =
 cond (decide (a4 < a3)) (
 (idx a2.ref a2.len a4 1).bind fun r5 =>
 ((h.cell r5).bind AV.asSl).bind fun l6 =>
 ((h.cell (a1.add 1)).bind AV.asSl).bind fun l7 =>
 (idx l7.ref l7.len a4 1).bind fun r8 =>
 ((h.cell r8).bind (AV.asInt .i64)).bind fun n9 =>
 newK h (.cells [.int .i64 0] T.int) fun h10r h10 =>
 (h10.puts h10r [.int .i64 n9]).bind fun h11 =>
 ((h11.cell h10r).bind (AV.asInt .i64)).bind fun n12 =>
 cond (decide (n12 < 2)) (
 some (.bool false, h11)) (
 ((h11.cell h10r).bind (AV.asInt .i64)).bind fun n13 =>
 cond (decide (n13 > 32)) (
 some (.bool false, h11)) (
 ((h11.cell (a1.add 0)).bind AV.asSl).bind fun l14 =>
 cond (!decide ((l6.len : Int) = (l14.len : Int))) (
 some (.bool false, h11)) (
 (go (.fn F.kc3 [l6.v, .func (.func F.kcv) [] [.ptr (some h10r)]]) h11).bind fun q15 =>
 ((some q15.1).bind AV.asBool).bind fun b16 =>
 cond b16 (
 some (.bool false, q15.2)) (
 go (.pt F.kfl Td.kni [(1, .ptr (some a1)), (27, a2.v), (28, .int .i64 a3), (29, .int .i64 (IntKind.wrap .i64 (a4 + 1)))]) q15.2))))) (
 some (.bool true, h)) := (kc _ h).trans (by kernel_rfl)
theorem kwt (a1 : Sl) (a2 : Int) (a3 : Int) (h : AH) : go (.pt F.kbb Td.kb6 [(0, a1.v), (1, .func (.func F.kcu) [] []), (7, .int .i64 a2), (8, .int .i64 a3)]) h =
 cond (decide (a3 < a2)) (
 (idx a1.ref a1.len a3 1).bind fun r4 =>
 ((h.cell r4).bind (AV.asInt .i64)).bind fun n5 =>
 (go (.fn F.kcu [.int .i64 n5]) h).bind fun q6 =>
 ((some q6.1).bind AV.asBool).bind fun b7 =>
 cond b7 (
 some (.int .i64 a3, q6.2)) (
 go (.pt F.kbb Td.kb6 [(0, a1.v), (1, .func (.func F.kcu) [] []), (7, .int .i64 a2), (8, .int .i64 (IntKind.wrap .i64 (a3 + 1)))]) q6.2)) (
 some (.int .i64 (-1), h)) := (kc _ h).trans (by kernel_rfl)
theorem kw1 (a1 : Ref) (a2 : Sl) (a3 : Int) (a4 : Ref) (a5 : Ref) (a6 : Sl) (a7 : Int) (a8 : Int) (l : Nat) (h : AH) : go (.rpt l F.kch Td.kky [(5, .ptr (some a1)), (6, a2.v), (7, .int .i64 a3), (9, .ptr (some a4)), (12, .ptr (some a5)), (33, a6.v), (34, .int .i64 a7), (35, .int .i64 a8)]) h =
 cond (decide (a8 < a7)) (
 (idx a6.ref a6.len a8 1).bind fun r9 =>
 ((h.cell r9).bind (AV.asInt .i64)).bind fun n10 =>
 ((h.cell (a5.add 0)).bind (AV.asInt .i64)).bind fun n11 =>
 ((h.cell a1).bind AV.asSl).bind fun l12 =>
 (idx l12.ref l12.len n10 1).bind fun r13 =>
 ((h.cell r13).bind (AV.asInt .i64)).bind fun n14 =>
 (h.puts (a5.add 0) [.int .i64 (IntKind.wrap .i64 (n11 + n14))]).bind fun h15 =>
 go (.rpt l F.kch Td.kky [(5, .ptr (some a1)), (6, a2.v), (7, .int .i64 a3), (9, .ptr (some a4)), (12, .ptr (some a5)), (33, a6.v), (34, .int .i64 a7), (35, .int .i64 (IntKind.wrap .i64 (a8 + 1)))]) h15) (
 ((h.cell a4).bind AV.asSl).bind fun l16 =>
 ((h.cell (a5.add 0)).bind (AV.asInt .i64)).bind fun n17 =>
 ((h.cell (a5.add 1)).bind (AV.asInt .i64)).bind fun n18 =>
 newK h (.cells [.int .i64 n17, .int .i64 n18] T.kb5) fun h19r h19 =>
 (kbf Pg T.kb5 ((⟨some h19r, 1, .is 1⟩ : Sl).v) h19).bind fun p21 =>
 (kp Pg l16 p21.1 p21.2 T.kb5 2 h19).bind fun q20 =>
 (AV.asSl q20.1).bind fun l22 =>
 (q20.2.puts a4 [l22.v]).bind fun h23 =>
 kdm l none h23) := (kc _ h).trans (by kernel_rfl)
theorem kxe (a1 : Sl) (a2 : Sl) (h : AH) : go (.pt F.kf4 Td.kls [(0, a1.v), (1, a2.v)]) h =
 cond (decide ((a2.len : Int) > 0)) (
 (go (.fn F.kfn [a1.v, a2.v]) h).bind fun q3 =>
 (AV.asTup3 q3.1).bind fun p4 =>
 ((some p4.1).bind AV.asSl).bind fun l5 =>
 ((some p4.2.1).bind AV.asSl).bind fun l6 =>
 ((some p4.2.2).bind (AV.asInt .i64)).bind fun n7 =>
 go (.pt F.kf4 Td.kls [(0, a2.v), (1, l6.v)]) q3.2) (
 some (.tup [a1.v, .int .i64 0], h)) := (kc _ h).trans (by kernel_rfl)
theorem k3b (a1 : Bool) (a2 : Sl) (a3 : Bool) (a4 : Sl) (h : AH) : go (.fn F.kop [.agg [.bool a1, a2.v], .agg [.bool a3, a4.v]]) h =
 newK h (.cells [.bool a1, a2.v] T.kf) fun h5r h5 =>
 newK h5 (.cells [.bool a3, a4.v] T.kf) fun h6r h6 =>
 newK h6 (.cells [.bool false, (⟨none, 0, .is 0⟩ : Sl).v] T.kf) fun h7r h7 =>
 ((h7.cell (h5r.add 0)).bind AV.asBool).bind fun b8 =>
 ((h7.cell (h5r.add 1)).bind AV.asSl).bind fun l9 =>
 ((h7.cell (h6r.add 0)).bind AV.asBool).bind fun b10 =>
 ((h7.cell (h6r.add 1)).bind AV.asSl).bind fun l11 =>
 newK h7 (.cells [.bool b8, l9.v, .bool b10, l11.v] T.kf) fun h12r h12 =>
 (go (.fn F.kg8 [(⟨some h12r, 2, .is 2⟩ : Sl).v]) h12).bind fun q13 =>
 ((some q13.1).bind AV.asBool).bind fun b14 =>
 cond (!b14) (
 (q13.2.puts h7r [.bool false, (⟨none, 0, .is 0⟩ : Sl).v]).bind fun h15 =>
 ((h15.cell (h7r.add 0)).bind AV.asBool).bind fun b16 =>
 ((h15.cell (h7r.add 1)).bind AV.asSl).bind fun l17 =>
 some (.tup [.agg [.bool b16, l17.v], .int .i64 1], h15)) (
 ((q13.2.cell (h5r.add 1)).bind AV.asSl).bind fun l18 =>
 ((q13.2.cell (h6r.add 1)).bind AV.asSl).bind fun l19 =>
 (go (.fn F.kgw [l18.v, l19.v]) q13.2).bind fun q20 =>
 (AV.asTup2 q20.1).bind fun p21 =>
 ((some p21.1).bind AV.asSl).bind fun l22 =>
 ((some p21.2).bind (AV.asInt .i64)).bind fun n23 =>
 ((q20.2.cell (h5r.add 0)).bind AV.asBool).bind fun b24 =>
 ((q20.2.cell (h6r.add 0)).bind AV.asBool).bind fun b25 =>
 (go (.fn F.kbw [.bool (!(b24 == b25)), l22.v]) q20.2).bind fun q26 =>
 (AV.asAgg q26.1).bind fun cs27 =>
 cond (Nat.beq cs27.length 2) (
 ((cs27[0]?).bind AV.asBool).bind fun b28 =>
 ((cs27[1]?).bind AV.asSl).bind fun l29 =>
 (q26.2.puts h7r [.bool b28, l29.v]).bind fun h30 =>
 ((h30.cell (h7r.add 0)).bind AV.asBool).bind fun b31 =>
 ((h30.cell (h7r.add 1)).bind AV.asSl).bind fun l32 =>
 some (.tup [.agg [.bool b31, l32.v], .int .i64 n23], h30)) none) := (kc _ h).trans (by kernel_rfl)
theorem k2s (a1 : Bool) (a2 : Sl) (a3 : Bool) (a4 : Sl) (h : AH) : go (.fn F.ko0 [.agg [.bool a1, a2.v], .agg [.bool a3, a4.v]]) h =
 newK h (.cells [.bool a1, a2.v] T.kf) fun h5r h5 =>
 newK h5 (.cells [.bool a3, a4.v] T.kf) fun h6r h6 =>
 newK h6 (.cells [.bool false, (⟨none, 0, .is 0⟩ : Sl).v] T.kf) fun h7r h7 =>
 ((h7.cell (h5r.add 0)).bind AV.asBool).bind fun b8 =>
 ((h7.cell (h5r.add 1)).bind AV.asSl).bind fun l9 =>
 ((h7.cell (h6r.add 0)).bind AV.asBool).bind fun b10 =>
 ((h7.cell (h6r.add 1)).bind AV.asSl).bind fun l11 =>
 newK h7 (.cells [.bool b8, l9.v, .bool b10, l11.v] T.kf) fun h12r h12 =>
 (go (.fn F.kg8 [(⟨some h12r, 2, .is 2⟩ : Sl).v]) h12).bind fun q13 =>
 ((some q13.1).bind AV.asBool).bind fun b14 =>
 cond (!b14) (
 (q13.2.puts h7r [.bool false, (⟨none, 0, .is 0⟩ : Sl).v]).bind fun h15 =>
 ((h15.cell (h7r.add 0)).bind AV.asBool).bind fun b16 =>
 ((h15.cell (h7r.add 1)).bind AV.asSl).bind fun l17 =>
 some (.tup [.agg [.bool b16, l17.v], .int .i64 1], h15)) (
 ((q13.2.cell (h5r.add 0)).bind AV.asBool).bind fun b18 =>
 ((q13.2.cell (h5r.add 1)).bind AV.asSl).bind fun l19 =>
 ((q13.2.cell (h6r.add 0)).bind AV.asBool).bind fun b20 =>
 ((q13.2.cell (h6r.add 1)).bind AV.asSl).bind fun l21 =>
 (go (.fn F.koj [.agg [.bool b20, l21.v]]) q13.2).bind fun q22 =>
 (AV.asAgg q22.1).bind fun cs23 =>
 cond (Nat.beq cs23.length 2) (
 ((cs23[0]?).bind AV.asBool).bind fun b24 =>
 ((cs23[1]?).bind AV.asSl).bind fun l25 =>
 whenK (SameAt q13.2 q22.2 h5r 2) (
 (go (.fn F.krk [.agg [.bool b18, l19.v], .agg [.bool b24, l25.v]]) q22.2).bind fun q26 =>
 (AV.asTup2 q26.1).bind fun p27 =>
 (AV.asAgg p27.1).bind fun cs28 =>
 cond (Nat.beq cs28.length 2) (
 ((cs28[0]?).bind AV.asBool).bind fun b29 =>
 ((cs28[1]?).bind AV.asSl).bind fun l30 =>
 ((some p27.2).bind (AV.asInt .i64)).bind fun n31 =>
 (q26.2.puts h7r [.bool b29, l30.v]).bind fun h32 =>
 ((h32.cell (h7r.add 0)).bind AV.asBool).bind fun b33 =>
 ((h32.cell (h7r.add 1)).bind AV.asSl).bind fun l34 =>
 some (.tup [.agg [.bool b33, l34.v], .int .i64 n31], h32)) none)) none) := (kc _ h).trans (by kernel_rfl)
theorem k33 (a1 : Sl) (h : AH) : go (.fn F.kg8 [a1.v]) h =
 (go (.fn F.kwm [a1.v, .func (.func F.kdb) [] []]) h).bind fun q2 =>
 ((some q2.1).bind AV.asBool).bind fun b3 =>
 some (.bool (!b3), q2.2) := (kc _ h).trans (by kernel_rfl)
theorem k8n (a1 : Sl) (a2 : Sl) (h : AH) : go (.fn F.kl7 [a1.v, a2.v]) h =
 newK h (.cells [a1.v, a2.v] T.kw) fun h3r h3 =>
 (go (.fn F.kfo [(⟨some h3r, 2, .is 2⟩ : Sl).v]) h3).bind fun q4 =>
 ((some q4.1).bind AV.asBool).bind fun b5 =>
 cond (!b5) (
 some (.tup [(⟨none, 0, .is 0⟩ : Sl).v, .int .i64 1], q4.2)) (
 (go (.fn F.kcq [a1.v, a2.v]) q4.2).bind fun q6 =>
 ((some q6.1).bind AV.asSl).bind fun l7 =>
 (go (.fn F.kit [l7.v]) q6.2).bind fun q8 =>
 (AV.asTup2 q8.1).bind fun p9 =>
 ((some p9.1).bind AV.asSl).bind fun l10 =>
 ((some p9.2).bind (AV.asInt .i64)).bind fun n11 =>
 some (.tup [l10.v, .int .i64 n11], q8.2)) := (kc _ h).trans (by kernel_rfl)
theorem kzd (a1 : Sl) (a2 : Sl) (h : AH) : go (.fn F.kjp [a1.v, a2.v]) h =
 newK h (.cells [a1.v, a2.v] T.kw) fun h3r h3 =>
 (go (.fn F.kfo [(⟨some h3r, 2, .is 2⟩ : Sl).v]) h3).bind fun q4 =>
 ((some q4.1).bind AV.asBool).bind fun b5 =>
 cond (!b5) (
 some (.tup [(⟨none, 0, .is 0⟩ : Sl).v, .int .i64 1], q4.2)) (
 (go (.fn F.kd5 [a1.v, a2.v]) q4.2).bind fun q6 =>
 ((some q6.1).bind (AV.asInt .i64)).bind fun n7 =>
 cond (decide (n7 < 0)) (
 some (.tup [(⟨none, 0, .is 0⟩ : Sl).v, .int .i64 2], q6.2)) (
 (go (.fn F.kct [a1.v, a2.v]) q6.2).bind fun q8 =>
 ((some q8.1).bind AV.asSl).bind fun l9 =>
 (go (.fn F.kit [l9.v]) q8.2).bind fun q10 =>
 (AV.asTup2 q10.1).bind fun p11 =>
 ((some p11.1).bind AV.asSl).bind fun l12 =>
 ((some p11.2).bind (AV.asInt .i64)).bind fun n13 =>
 some (.tup [l12.v, .int .i64 n13], q10.2))) := (kc _ h).trans (by kernel_rfl)
theorem k7q (a1 : Sl) (a2 : Sl) (h : AH) : go (.pt F.kfd Td.kk1 [(8, a1.v), (9, a2.v)]) h =
 cond (decide ((a2.len : Int) > 0)) (
 (go (.fn F.kiz [a1.v, a2.v]) h).bind fun q3 =>
 ((some q3.1).bind AV.asSl).bind fun l4 =>
 go (.pt F.kfd Td.kk1 [(8, a2.v), (9, l4.v)]) q3.2) (
 some (.tup [a1.v, .int .i64 0], h)) := (kc _ h).trans (by kernel_rfl)
theorem kw5 (a1 : Sl) (a2 : Sl) (a3 : Int) (h : AH) : go (.pt F.kbp Td.kj8 [(0, a1.v), (3, a2.v), (4, .int .i64 a3)]) h =
 cond (decide (a3 < (a1.len : Int))) (
 (idx a1.ref a1.len a3 1).bind fun r4 =>
 ((h.cell r4).bind (AV.asInt .u64)).bind fun n5 =>
 go (.pt F.kbp Td.kn2 [(0, a1.v), (3, a2.v), (4, .int .i64 a3), (5, .int .u64 n5), (6, .int .i64 0)]) h) (
 (go (.fn F.kcm [a2.v]) h).bind fun q6 =>
 ((some q6.1).bind AV.asSl).bind fun l7 =>
 some (l7.v, q6.2)) := (kc _ h).trans (by kernel_rfl)
theorem kxg (a1 : Sl) (a2 : Sl) (a3 : Sl) (a4 : Int) (h : AH) : go (.pt F.kci Td.kmc [(0, a1.v), (1, a2.v), (5, a3.v), (6, .int .i64 a4)]) h =
 cond (decide (a4 < (a1.len : Int))) (
 go (.pt F.kci Td.klj [(0, a1.v), (1, a2.v), (5, a3.v), (6, .int .i64 a4), (7, .int .u64 0), (8, .int .i64 0)]) h) (
 (go (.fn F.kcm [a3.v]) h).bind fun q5 =>
 ((some q5.1).bind AV.asSl).bind fun l6 =>
 some (l6.v, q5.2)) := (kc _ h).trans (by kernel_rfl)
theorem kyk (a1 : Sl) (h : AH) : go (.fn F.kb8 [a1.v]) h =
 go (.pt F.kb8 Td.kig [(0, a1.v), (4, (⟨none, 0, .is 0⟩ : Sl).v), (5, .int .i64 0)]) h := (kc _ h).trans (by kernel_rfl)
theorem kwh (a1 : Sl) (a2 : Sl) (a3 : Int) (h : AH) : go (.pt F.ke2 Td.knb [(0, a1.v), (1, a2.v), (5, .int .i64 a3)]) h =
 cond (decide (a3 ≥ 0)) (
 (idx a1.ref a1.len a3 1).bind fun r4 =>
 ((h.cell r4).bind (AV.asInt .u64)).bind fun n5 =>
 (idx a2.ref a2.len a3 1).bind fun r6 =>
 ((h.cell r6).bind (AV.asInt .u64)).bind fun n7 =>
 cond (decide (n5 < n7)) (
 some (.int .i64 (-1), h)) (
 (idx a1.ref a1.len a3 1).bind fun r8 =>
 ((h.cell r8).bind (AV.asInt .u64)).bind fun n9 =>
 (idx a2.ref a2.len a3 1).bind fun r10 =>
 ((h.cell r10).bind (AV.asInt .u64)).bind fun n11 =>
 cond (decide (n9 > n11)) (
 some (.int .i64 1, h)) (
 go (.pt F.ke2 Td.knb [(0, a1.v), (1, a2.v), (5, .int .i64 (IntKind.wrap .i64 (a3 - 1)))]) h))) (
 some (.int .i64 0, h)) := (kc _ h).trans (by kernel_rfl)
theorem k8m (a1 : Sl) (a2 : Sl) (h : AH) : go (.fn F.kcn [a1.v, a2.v]) h =
 (kbs (a1.len : Int) (a1.len : Int) T.ke (Pg.bytesOf T.ke) [.int .u64 0] h).bind fun q3 =>
 go (.pt F.kcn Td.kmv [(0, a1.v), (1, a2.v), (6, q3.1.v), (7, (⟨none, 0, .is 0⟩ : Sl).v), (8, .int .i64 (IntKind.wrap .i64 ((a1.len : Int) - 1)))]) q3.2 := (kc _ h).trans (by kernel_rfl)
theorem k5z (a1 : Bool) (a2 : Sl) (h : AH) : go (.fn F.kdl [.agg [.bool a1, a2.v]]) h =
 newK h (.cells [.bool a1, a2.v] T.kf) fun h3r h3 =>
 ((h3.cell (h3r.add 1)).bind AV.asSl).bind fun l4 =>
 (go (.fn F.kbk [l4.v]) h3).bind fun q5 =>
 ((some q5.1).bind AV.asBool).bind fun b6 =>
 cond b6 (
 ((q5.2.cell (h3r.add 0)).bind AV.asBool).bind fun b7 =>
 cond (!b7) (
 some (.bool true, q5.2)) (
 ((q5.2.cell (h3r.add 1)).bind AV.asSl).bind fun l8 =>
 some (.bool (decide ((l8.len : Int) > 0)), q5.2))) (
 some (.bool false, q5.2)) := (kc _ h).trans (by kernel_rfl)
theorem k0l (a1 : Bool) (a2 : Sl) (h : AH) : go (.fn F.kqt [.agg [.bool a1, a2.v]]) h =
 newK h (.cells [.bool a1, a2.v] T.kf) fun h3r h3 =>
 newK h3 (.cells [.bool false, (⟨none, 0, .is 0⟩ : Sl).v] T.kf) fun h4r h4 =>
 ((h4.cell (h3r.add 0)).bind AV.asBool).bind fun b5 =>
 ((h4.cell (h3r.add 1)).bind AV.asSl).bind fun l6 =>
 (go (.fn F.kdl [.agg [.bool b5, l6.v]]) h4).bind fun q7 =>
 ((some q7.1).bind AV.asBool).bind fun b8 =>
 cond (!b8) (
 (q7.2.puts h4r [.bool false, (⟨none, 0, .is 0⟩ : Sl).v]).bind fun h9 =>
 ((h9.cell (h4r.add 0)).bind AV.asBool).bind fun b10 =>
 ((h9.cell (h4r.add 1)).bind AV.asSl).bind fun l11 =>
 some (.agg [.bool b10, l11.v], h9)) (
 ((q7.2.cell (h3r.add 0)).bind AV.asBool).bind fun b12 =>
 ((q7.2.cell (h3r.add 1)).bind AV.asSl).bind fun l13 =>
 (go (.fn F.kb3 [.bool (!b12), l13.v]) q7.2).bind fun q14 =>
 (AV.asAgg q14.1).bind fun cs15 =>
 cond (Nat.beq cs15.length 2) (
 ((cs15[0]?).bind AV.asBool).bind fun b16 =>
 ((cs15[1]?).bind AV.asSl).bind fun l17 =>
 (q14.2.puts h4r [.bool b16, l17.v]).bind fun h18 =>
 ((h18.cell (h4r.add 0)).bind AV.asBool).bind fun b19 =>
 ((h18.cell (h4r.add 1)).bind AV.asSl).bind fun l20 =>
 some (.agg [.bool b19, l20.v], h18)) none) := (kc _ h).trans (by kernel_rfl)
theorem k1r (a1 : Bool) (a2 : Sl) (a3 : Bool) (a4 : Sl) (h : AH) : go (.fn F.kn3 [.agg [.bool a1, a2.v], .agg [.bool a3, a4.v]]) h =
 newK h (.cells [.bool a1, a2.v] T.kf) fun h5r h5 =>
 newK h5 (.cells [.bool a3, a4.v] T.kf) fun h6r h6 =>
 newK h6 (.cells [.bool false, (⟨none, 0, .is 0⟩ : Sl).v] T.kf) fun h7r h7 =>
 ((h7.cell (h5r.add 0)).bind AV.asBool).bind fun b8 =>
 ((h7.cell (h5r.add 1)).bind AV.asSl).bind fun l9 =>
 (go (.fn F.kdl [.agg [.bool b8, l9.v]]) h7).bind fun q10 =>
 ((some q10.1).bind AV.asBool).bind fun b11 =>
 ((q10.2.cell (h6r.add 0)).bind AV.asBool).bind fun b12 =>
 ((q10.2.cell (h6r.add 1)).bind AV.asSl).bind fun l13 =>
 (go (.fn F.kdl [.agg [.bool b12, l13.v]]) q10.2).bind fun q14 =>
 ((some q14.1).bind AV.asBool).bind fun b15 =>
 cond (!b11) (
 (q14.2.puts h7r [.bool false, (⟨none, 0, .is 0⟩ : Sl).v]).bind fun h16 =>
 ((h16.cell (h7r.add 0)).bind AV.asBool).bind fun b17 =>
 ((h16.cell (h7r.add 1)).bind AV.asSl).bind fun l18 =>
 some (.tup [.agg [.bool b17, l18.v], .int .i64 1], h16)) (
 cond (!b15) (
 (q14.2.puts h7r [.bool false, (⟨none, 0, .is 0⟩ : Sl).v]).bind fun h19 =>
 ((h19.cell (h7r.add 0)).bind AV.asBool).bind fun b20 =>
 ((h19.cell (h7r.add 1)).bind AV.asSl).bind fun l21 =>
 some (.tup [.agg [.bool b20, l21.v], .int .i64 1], h19)) (
 ((q14.2.cell (h5r.add 0)).bind AV.asBool).bind fun b22 =>
 ((q14.2.cell (h6r.add 0)).bind AV.asBool).bind fun b23 =>
 cond (b22 == b23) (
 ((q14.2.cell (h5r.add 1)).bind AV.asSl).bind fun l24 =>
 ((q14.2.cell (h6r.add 1)).bind AV.asSl).bind fun l25 =>
 (go (.fn F.kle [l24.v, l25.v]) q14.2).bind fun q26 =>
 (AV.asTup2 q26.1).bind fun p27 =>
 ((some p27.1).bind AV.asSl).bind fun l28 =>
 ((some p27.2).bind (AV.asInt .i64)).bind fun n29 =>
 ((q26.2.cell (h5r.add 0)).bind AV.asBool).bind fun b30 =>
 (go (.fn F.kb3 [.bool b30, l28.v]) q26.2).bind fun q31 =>
 (AV.asAgg q31.1).bind fun cs32 =>
 cond (Nat.beq cs32.length 2) (
 ((cs32[0]?).bind AV.asBool).bind fun b33 =>
 ((cs32[1]?).bind AV.asSl).bind fun l34 =>
 (q31.2.puts h7r [.bool b33, l34.v]).bind fun h35 =>
 ((h35.cell (h7r.add 0)).bind AV.asBool).bind fun b36 =>
 ((h35.cell (h7r.add 1)).bind AV.asSl).bind fun l37 =>
 some (.tup [.agg [.bool b36, l37.v], .int .i64 n29], h35)) none) (
 ((q14.2.cell (h5r.add 1)).bind AV.asSl).bind fun l38 =>
 ((q14.2.cell (h6r.add 1)).bind AV.asSl).bind fun l39 =>
 (go (.fn F.kgv [l38.v, l39.v]) q14.2).bind fun q40 =>
 ((some q40.1).bind (AV.asInt .i64)).bind fun n41 =>
 cond (decide (n41 ≥ 0)) (
 ((q40.2.cell (h5r.add 1)).bind AV.asSl).bind fun l42 =>
 ((q40.2.cell (h6r.add 1)).bind AV.asSl).bind fun l43 =>
 (go (.fn F.kiq [l42.v, l43.v]) q40.2).bind fun q44 =>
 (AV.asTup2 q44.1).bind fun p45 =>
 ((some p45.1).bind AV.asSl).bind fun l46 =>
 ((some p45.2).bind (AV.asInt .i64)).bind fun n47 =>
 ((q44.2.cell (h5r.add 0)).bind AV.asBool).bind fun b48 =>
 (go (.fn F.kb3 [.bool b48, l46.v]) q44.2).bind fun q49 =>
 (AV.asAgg q49.1).bind fun cs50 =>
 cond (Nat.beq cs50.length 2) (
 ((cs50[0]?).bind AV.asBool).bind fun b51 =>
 ((cs50[1]?).bind AV.asSl).bind fun l52 =>
 (q49.2.puts h7r [.bool b51, l52.v]).bind fun h53 =>
 ((h53.cell (h7r.add 0)).bind AV.asBool).bind fun b54 =>
 ((h53.cell (h7r.add 1)).bind AV.asSl).bind fun l55 =>
 some (.tup [.agg [.bool b54, l55.v], .int .i64 0], h53)) none) (
 ((q40.2.cell (h6r.add 1)).bind AV.asSl).bind fun l56 =>
 ((q40.2.cell (h5r.add 1)).bind AV.asSl).bind fun l57 =>
 (go (.fn F.kiq [l56.v, l57.v]) q40.2).bind fun q58 =>
 (AV.asTup2 q58.1).bind fun p59 =>
 ((some p59.1).bind AV.asSl).bind fun l60 =>
 ((some p59.2).bind (AV.asInt .i64)).bind fun n61 =>
 ((q58.2.cell (h6r.add 0)).bind AV.asBool).bind fun b62 =>
 (go (.fn F.kb3 [.bool b62, l60.v]) q58.2).bind fun q63 =>
 (AV.asAgg q63.1).bind fun cs64 =>
 cond (Nat.beq cs64.length 2) (
 ((cs64[0]?).bind AV.asBool).bind fun b65 =>
 ((cs64[1]?).bind AV.asSl).bind fun l66 =>
 (q63.2.puts h7r [.bool b65, l66.v]).bind fun h67 =>
 ((h67.cell (h7r.add 0)).bind AV.asBool).bind fun b68 =>
 ((h67.cell (h7r.add 1)).bind AV.asSl).bind fun l69 =>
 some (.tup [.agg [.bool b68, l69.v], .int .i64 0], h67)) none)))) := (kc _ h).trans (by kernel_rfl)
theorem k98 (a1 : Sl) (a2 : Sl) (h : AH) : go (.fn F.kle [a1.v, a2.v]) h =
 (go (.fn F.kbk [a1.v]) h).bind fun q3 =>
 ((some q3.1).bind AV.asBool).bind fun b4 =>
 (go (.fn F.kbk [a2.v]) q3.2).bind fun q5 =>
 ((some q5.1).bind AV.asBool).bind fun b6 =>
 cond (!b4) (
 some (.tup [(⟨none, 0, .is 0⟩ : Sl).v, .int .i64 1], q5.2)) (
 cond (!b6) (
 some (.tup [(⟨none, 0, .is 0⟩ : Sl).v, .int .i64 1], q5.2)) (
 (go (.fn F.kbp [a1.v]) q5.2).bind fun q7 =>
 ((some q7.1).bind AV.asSl).bind fun l8 =>
 (go (.fn F.kbp [a2.v]) q7.2).bind fun q9 =>
 ((some q9.1).bind AV.asSl).bind fun l10 =>
 (go (.fn F.keg [l8.v, l10.v]) q9.2).bind fun q11 =>
 ((some q11.1).bind AV.asSl).bind fun l12 =>
 (go (.fn F.kjc [l12.v]) q11.2).bind fun q13 =>
 (AV.asTup2 q13.1).bind fun p14 =>
 ((some p14.1).bind AV.asSl).bind fun l15 =>
 ((some p14.2).bind (AV.asInt .i64)).bind fun n16 =>
 some (.tup [l15.v, .int .i64 n16], q13.2))) := (kc _ h).trans (by kernel_rfl)
theorem kba7 (a1 : Sl) (a2 : Sl) (h : AH) : go (.fn F.kiq [a1.v, a2.v]) h =
 (go (.fn F.kbk [a1.v]) h).bind fun q3 =>
 ((some q3.1).bind AV.asBool).bind fun b4 =>
 (go (.fn F.kbk [a2.v]) q3.2).bind fun q5 =>
 ((some q5.1).bind AV.asBool).bind fun b6 =>
 cond (!b4) (
 some (.tup [(⟨none, 0, .is 0⟩ : Sl).v, .int .i64 1], q5.2)) (
 cond (!b6) (
 some (.tup [(⟨none, 0, .is 0⟩ : Sl).v, .int .i64 1], q5.2)) (
 (go (.fn F.kbp [a1.v]) q5.2).bind fun q7 =>
 ((some q7.1).bind AV.asSl).bind fun l8 =>
 (go (.fn F.kbp [a2.v]) q7.2).bind fun q9 =>
 ((some q9.1).bind AV.asSl).bind fun l10 =>
 (go (.fn F.ke2 [l8.v, l10.v]) q9.2).bind fun q11 =>
 ((some q11.1).bind (AV.asInt .i64)).bind fun n12 =>
 cond (decide (n12 < 0)) (
 some (.tup [(⟨none, 0, .is 0⟩ : Sl).v, .int .i64 2], q11.2)) (
 (go (.fn F.kei [l8.v, l10.v]) q11.2).bind fun q13 =>
 ((some q13.1).bind AV.asSl).bind fun l14 =>
 (go (.fn F.kjc [l14.v]) q13.2).bind fun q15 =>
 (AV.asTup2 q15.1).bind fun p16 =>
 ((some p16.1).bind AV.asSl).bind fun l17 =>
 ((some p16.2).bind (AV.asInt .i64)).bind fun n18 =>
 some (.tup [l17.v, .int .i64 n18], q15.2)))) := (kc _ h).trans (by kernel_rfl)
theorem kbau (a1 : Int) (a2 : Sl) (h : AH) : go (.fn F.kha [.int .i64 a1, a2.v]) h =
 newK h (.cells [.int .i64 a1] T.int) fun h3r h3 =>
 newK h3 (.cells [.int .i64 0, (⟨none, 0, .is 0⟩ : Sl).v] T.ks) fun h4r h4 =>
 ((h4.cell h3r).bind (AV.asInt .i64)).bind fun n5 =>
 (go (.fn F.kk3 [.int .i64 n5]) h4).bind fun q6 =>
 (AV.asTup2 q6.1).bind fun p7 =>
 (AV.asAgg p7.1).bind fun cs8 =>
 cond (Nat.beq cs8.length 2) (
 ((cs8[0]?).bind (AV.asInt .i64)).bind fun n9 =>
 ((cs8[1]?).bind AV.asSl).bind fun l10 =>
 ((some p7.2).bind (AV.asInt .i64)).bind fun n11 =>
 newK q6.2 (.cells [.int .i64 0, (⟨none, 0, .is 0⟩ : Sl).v] T.ks) fun h12r h12 =>
 (h12.puts h12r [.int .i64 n9, l10.v]).bind fun h13 =>
 cond (!decide (n11 = 0)) (
 (h13.puts h4r [.int .i64 0, (⟨none, 0, .is 0⟩ : Sl).v]).bind fun h14 =>
 ((h14.cell (h4r.add 0)).bind (AV.asInt .i64)).bind fun n15 =>
 ((h14.cell (h4r.add 1)).bind AV.asSl).bind fun l16 =>
 some (.tup [.agg [.int .i64 n15, l16.v], .int .i64 1], h14)) (
 (go (.fn F.kc3 [a2.v, .func (.func F.kc0) [] [.ptr (some h3r)]]) h13).bind fun q17 =>
 ((some q17.1).bind AV.asBool).bind fun b18 =>
 cond b18 (
 (q17.2.puts h4r [.int .i64 0, (⟨none, 0, .is 0⟩ : Sl).v]).bind fun h19 =>
 ((h19.cell (h4r.add 0)).bind (AV.asInt .i64)).bind fun n20 =>
 ((h19.cell (h4r.add 1)).bind AV.asSl).bind fun l21 =>
 some (.tup [.agg [.int .i64 n20, l21.v], .int .i64 1], h19)) (
 go (.pt F.kha Td.klz [(4, .ptr (some h4r)), (6, .ptr (some h12r)), (23, a2.v), (24, .int .i64 (a2.len : Int)), (25, .int .i64 0)]) q17.2))) none := (kc _ h).trans (by kernel_rfl)
theorem kbb7 (a1 : Int) (h : AH) : go (.fn F.kk3 [.int .i64 a1]) h =
 newK h (.cells [.int .i64 0, (⟨none, 0, .is 0⟩ : Sl).v] T.ks) fun h2r h2 =>
 cond (decide (a1 < 0)) (
 (h2.puts h2r [.int .i64 0, (⟨none, 0, .is 0⟩ : Sl).v]).bind fun h3 =>
 ((h3.cell (h2r.add 0)).bind (AV.asInt .i64)).bind fun n4 =>
 ((h3.cell (h2r.add 1)).bind AV.asSl).bind fun l5 =>
 some (.tup [.agg [.int .i64 n4, l5.v], .int .i64 1], h3)) (
 cond (decide (a1 > 65536)) (
 (h2.puts h2r [.int .i64 0, (⟨none, 0, .is 0⟩ : Sl).v]).bind fun h6 =>
 ((h6.cell (h2r.add 0)).bind (AV.asInt .i64)).bind fun n7 =>
 ((h6.cell (h2r.add 1)).bind AV.asSl).bind fun l8 =>
 some (.tup [.agg [.int .i64 n7, l8.v], .int .i64 1], h6)) (
 (kbs (IntKind.wrap .i64 (Int.tdiv (IntKind.wrap .i64 ((IntKind.wrap .i64 (a1 + 64)) - 1)) 64)) (IntKind.wrap .i64 (Int.tdiv (IntKind.wrap .i64 ((IntKind.wrap .i64 (a1 + 64)) - 1)) 64)) T.ke (Pg.bytesOf T.ke) [.int .u64 0] h2).bind fun q9 =>
 (q9.2.puts h2r [.int .i64 a1, q9.1.v]).bind fun h10 =>
 ((h10.cell (h2r.add 0)).bind (AV.asInt .i64)).bind fun n11 =>
 ((h10.cell (h2r.add 1)).bind AV.asSl).bind fun l12 =>
 some (.tup [.agg [.int .i64 n11, l12.v], .int .i64 0], h10))) := (kc _ h).trans (by kernel_rfl)
theorem ktl (a1 : Ref) (a2 : Ref) (a3 : Ref) (a4 : Ref) (a5 : Int) (a6 : Int) (a7 : Int) (h : AH) : go (.pt F.kga Td.kll [(2, .func (.func F.kek) [] []), (3, .ptr (some a1)), (4, .ptr (some a2)), (6, .ptr (some a3)), (8, .ptr (some a4)), (9, .int .i64 a5), (35, .int .i64 a6), (36, .int .i64 a7)]) h =
 cond (decide (a7 < a6)) (
 ((h.cell (a4.add 1)).bind AV.asSl).bind fun l8 =>
 ((h.cell (a1.add 1)).bind AV.asSl).bind fun l9 =>
 (idx l9.ref l9.len a7 1).bind fun r10 =>
 ((h.cell r10).bind (AV.asInt .u64)).bind fun n11 =>
 ((h.cell (a2.add 1)).bind AV.asSl).bind fun l12 =>
 (idx l12.ref l12.len a7 1).bind fun r13 =>
 ((h.cell r13).bind (AV.asInt .u64)).bind fun n14 =>
 (go (.fn F.kek [.int .u64 n11, .int .u64 n14]) h).bind fun q15 =>
 ((some q15.1).bind (AV.asInt .u64)).bind fun n16 =>
 whenK (SameAt h q15.2 (a4.add 1) 1) (
 (idx l8.ref l8.len a7 1).bind fun r17 =>
 (q15.2.puts r17 [.int .u64 n16]).bind fun h18 =>
 go (.pt F.kga Td.kll [(2, .func (.func F.kek) [] []), (3, .ptr (some a1)), (4, .ptr (some a2)), (6, .ptr (some a3)), (8, .ptr (some a4)), (9, .int .i64 a5), (35, .int .i64 a6), (36, .int .i64 (IntKind.wrap .i64 (a7 + 1)))]) h18)) (
 ((h.cell (a4.add 0)).bind (AV.asInt .i64)).bind fun n19 =>
 ((h.cell (a4.add 1)).bind AV.asSl).bind fun l20 =>
 (h.puts a3 [.int .i64 n19, l20.v]).bind fun h21 =>
 ((h21.cell (a3.add 0)).bind (AV.asInt .i64)).bind fun n22 =>
 ((h21.cell (a3.add 1)).bind AV.asSl).bind fun l23 =>
 some (.tup [.agg [.int .i64 n22, l23.v], .int .i64 a5], h21)) := (kc _ h).trans (by kernel_rfl)
theorem k8z (a1 : Sl) (a2 : AV) (h : AH) : go (.fn F.kd7 [a1.v, a2]) h =
 newK h (.cells [a1.v] T.ke6) fun h3r h3 =>
 go (.pt F.kd7 Tr.ksy [(0, a1.v), (1, a2), (2, .ptr (some h3r)), (4, (⟨none, 0, .is 0⟩ : Sl).v), (6, a2)]) h3 := (kc _ h).trans (by kernel_rfl)
theorem kv0 (a1 : Sl) (a2 : Int) (a3 : Int) (h : AH) : go (.pt F.khj Td.kmr [(0, a1.v), (1, .func (.func F.kdo) [] []), (7, .int .i64 a2), (8, .int .i64 a3)]) h =
 cond (decide (a3 < a2)) (
 (idx a1.ref a1.len a3 1).bind fun r4 =>
 ((h.cell r4).bind AV.asSl).bind fun l5 =>
 (go (.fn F.kdo [l5.v]) h).bind fun q6 =>
 ((some q6.1).bind AV.asBool).bind fun b7 =>
 cond b7 (
 some (.int .i64 a3, q6.2)) (
 go (.pt F.khj Td.kmr [(0, a1.v), (1, .func (.func F.kdo) [] []), (7, .int .i64 a2), (8, .int .i64 (IntKind.wrap .i64 (a3 + 1)))]) q6.2)) (
 some (.int .i64 (-1), h)) := (kc _ h).trans (by kernel_rfl)
theorem k4p (a1 : Int) (a2 : Int) (a3 : Int) (h : AH) : go (.pt F.kbj Td.kpc [(0, .int .u64 a1), (1, .int .u64 a2), (2, .int .u64 a3)]) h =
 cond (decide (a3 ≤ a1)) (
 (h.cell (.old ⟨Gl.math_bits_overflowError, 0, none⟩)).bind fun v4 =>
 none) (
 cond (decide (a1 = 0)) (
 cond (decide (a3 = 0)) none (
 cond (decide (a3 = 0)) none (
 some (.tup [.int .u64 (IntKind.wrap .u64 (Int.tdiv a2 a3)), .int .u64 (Int.tmod a2 a3)], h)))) (
 (go (.fn F.kmn [.int .u64 a3]) h).bind fun q5 =>
 ((some q5.1).bind (AV.asInt .i64)).bind fun n6 =>
 cond (decide ((IntKind.wrap .u64 n6) < 0)) none (
 cond (decide ((IntKind.wrap .u64 n6) < 0)) none (
 cond (decide ((IntKind.wrap .u64 (64 - (IntKind.wrap .u64 n6))) < 0)) none (
 cond (decide ((IntKind.wrap .u64 n6) < 0)) none (
 cond (decide ((ishr .u64 (ishl .u64 a3 (IntKind.wrap .u64 n6)) 32) = 0)) none (
 go (.pt F.kbj Td.kkf [(2, .int .u64 (ishl .u64 a3 (IntKind.wrap .u64 n6))), (8, .int .u64 (IntKind.wrap .u64 n6)), (9, .int .u64 (ishr .u64 (ishl .u64 a3 (IntKind.wrap .u64 n6)) 32)), (10, .int .u64 (iand .u64 (ishl .u64 a3 (IntKind.wrap .u64 n6)) 4294967295)), (11, .int .u64 (ior .u64 (ishl .u64 a1 (IntKind.wrap .u64 n6)) (ishr .u64 a2 (IntKind.wrap .u64 (64 - (IntKind.wrap .u64 n6)))))), (13, .int .u64 (ishr .u64 (ishl .u64 a2 (IntKind.wrap .u64 n6)) 32)), (14, .int .u64 (iand .u64 (ishl .u64 a2 (IntKind.wrap .u64 n6)) 4294967295)), (15, .int .u64 (IntKind.wrap .u64 (Int.tdiv (ior .u64 (ishl .u64 a1 (IntKind.wrap .u64 n6)) (ishr .u64 a2 (IntKind.wrap .u64 (64 - (IntKind.wrap .u64 n6))))) (ishr .u64 (ishl .u64 a3 (IntKind.wrap .u64 n6)) 32)))), (16, .int .u64 (IntKind.wrap .u64 ((ior .u64 (ishl .u64 a1 (IntKind.wrap .u64 n6)) (ishr .u64 a2 (IntKind.wrap .u64 (64 - (IntKind.wrap .u64 n6))))) - (IntKind.wrap .u64 ((IntKind.wrap .u64 (Int.tdiv (ior .u64 (ishl .u64 a1 (IntKind.wrap .u64 n6)) (ishr .u64 a2 (IntKind.wrap .u64 (64 - (IntKind.wrap .u64 n6))))) (ishr .u64 (ishl .u64 a3 (IntKind.wrap .u64 n6)) 32))) * (ishr .u64 (ishl .u64 a3 (IntKind.wrap .u64 n6)) 32))))))]) q5.2))))))) := (kc _ h).trans (by kernel_rfl)
theorem k4l (a1 : Int) (a2 : Int) (a3 : Int) (a4 : Int) (a5 : Int) (h : AH) : go (.pt F.ke1 Td.kkm [(2, .int .u64 a1), (3, .int .u64 a2), (4, .int .u64 a3), (11, .int .u64 a4), (12, .int .u64 a5)]) h =
 (go (.fn F.kmw [.int .u64 a4, .int .u64 a3]) h).bind fun q6 =>
 (AV.asTup2 q6.1).bind fun p7 =>
 ((some p7.1).bind (AV.asInt .u64)).bind fun n8 =>
 ((some p7.2).bind (AV.asInt .u64)).bind fun n9 =>
 cond (decide (n8 < a5)) (
 some (.int .u64 a4, q6.2)) (
 cond (decide (n8 = a5)) (
 cond (decide (n9 ≤ a1)) (
 some (.int .u64 a4, q6.2)) (
 cond (decide ((IntKind.wrap .u64 (a5 + a2)) < a5)) (
 some (.int .u64 (IntKind.wrap .u64 (a4 - 1)), q6.2)) (
 go (.pt F.ke1 Td.kkm [(2, .int .u64 a1), (3, .int .u64 a2), (4, .int .u64 a3), (11, .int .u64 (IntKind.wrap .u64 (a4 - 1))), (12, .int .u64 (IntKind.wrap .u64 (a5 + a2)))]) q6.2))) (
 cond (decide ((IntKind.wrap .u64 (a5 + a2)) < a5)) (
 some (.int .u64 (IntKind.wrap .u64 (a4 - 1)), q6.2)) (
 go (.pt F.ke1 Td.kkm [(2, .int .u64 a1), (3, .int .u64 a2), (4, .int .u64 a3), (11, .int .u64 (IntKind.wrap .u64 (a4 - 1))), (12, .int .u64 (IntKind.wrap .u64 (a5 + a2)))]) q6.2))) := (kc _ h).trans (by kernel_rfl)
theorem kze (a1 : Sl) (h : AH) : go (.fn F.kc3 [a1.v, .func (.func F.kc5) [] []]) h =
 (go (.fn F.kbb [a1.v, .func (.func F.kc5) [] []]) h).bind fun q2 =>
 ((some q2.1).bind (AV.asInt .i64)).bind fun n3 =>
 some (.bool (decide (n3 ≥ 0)), q2.2) := (kc _ h).trans (by kernel_rfl)
theorem kbaq (a1 : Sl) (h : AH) : go (.fn F.kg3 [a1.v]) h =
 newM h (.map [] 0) fun h2m h2 =>
 go (.pt F.kg3 Td.klx [(3, .map (some h2m)), (7, a1.v), (8, .int .i64 (a1.len : Int)), (9, .int .i64 0)]) h2 := (kc _ h).trans (by kernel_rfl)
theorem k0a (a1 : Sl) (a2 : Option Ref) (h : AH) : go (.fn F.kc3 [a1.v, .func (.func F.kcv) [] [.ptr a2]]) h =
 (go (.fn F.kbb [a1.v, .func (.func F.kcv) [] [.ptr a2]]) h).bind fun q3 =>
 ((some q3.1).bind (AV.asInt .i64)).bind fun n4 =>
 some (.bool (decide (n4 ≥ 0)), q3.2) := (kc _ h).trans (by kernel_rfl)
theorem k7k (a1 : Int) (h : AH) : go (.fn F.kcu [.int .i64 a1]) h =
 cond (decide (a1 < (-1048576))) (
 some (.bool true, h)) (
 some (.bool (decide (a1 > 1048576)), h)) := (kc _ h).trans (by kernel_rfl)
theorem kxm (a1 : Bool) (a2 : Sl) (h : AH) : go (.fn F.koj [.agg [.bool a1, a2.v]]) h =
 newK h (.cells [.bool a1, a2.v] T.kf) fun h3r h3 =>
 newK h3 (.cells [.bool false, (⟨none, 0, .is 0⟩ : Sl).v] T.kf) fun h4r h4 =>
 ((h4.cell (h3r.add 0)).bind AV.asBool).bind fun b5 =>
 ((h4.cell (h3r.add 1)).bind AV.asSl).bind fun l6 =>
 (go (.fn F.klc [.agg [.bool b5, l6.v]]) h4).bind fun q7 =>
 ((some q7.1).bind AV.asBool).bind fun b8 =>
 cond (!b8) (
 (q7.2.puts h4r [.bool false, (⟨none, 0, .is 0⟩ : Sl).v]).bind fun h9 =>
 ((h9.cell (h4r.add 0)).bind AV.asBool).bind fun b10 =>
 ((h9.cell (h4r.add 1)).bind AV.asSl).bind fun l11 =>
 some (.agg [.bool b10, l11.v], h9)) (
 ((q7.2.cell (h3r.add 0)).bind AV.asBool).bind fun b12 =>
 ((q7.2.cell (h3r.add 1)).bind AV.asSl).bind fun l13 =>
 (go (.fn F.kbw [.bool (!b12), l13.v]) q7.2).bind fun q14 =>
 (AV.asAgg q14.1).bind fun cs15 =>
 cond (Nat.beq cs15.length 2) (
 ((cs15[0]?).bind AV.asBool).bind fun b16 =>
 ((cs15[1]?).bind AV.asSl).bind fun l17 =>
 (q14.2.puts h4r [.bool b16, l17.v]).bind fun h18 =>
 ((h18.cell (h4r.add 0)).bind AV.asBool).bind fun b19 =>
 ((h18.cell (h4r.add 1)).bind AV.asSl).bind fun l20 =>
 some (.agg [.bool b19, l20.v], h18)) none) := (kc _ h).trans (by kernel_rfl)
theorem kba2 (a1 : Bool) (a2 : Sl) (a3 : Bool) (a4 : Sl) (h : AH) : go (.fn F.krk [.agg [.bool a1, a2.v], .agg [.bool a3, a4.v]]) h =
 newK h (.cells [.bool a1, a2.v] T.kf) fun h5r h5 =>
 newK h5 (.cells [.bool a3, a4.v] T.kf) fun h6r h6 =>
 newK h6 (.cells [.bool false, (⟨none, 0, .is 0⟩ : Sl).v] T.kf) fun h7r h7 =>
 ((h7.cell (h5r.add 0)).bind AV.asBool).bind fun b8 =>
 ((h7.cell (h5r.add 1)).bind AV.asSl).bind fun l9 =>
 ((h7.cell (h6r.add 0)).bind AV.asBool).bind fun b10 =>
 ((h7.cell (h6r.add 1)).bind AV.asSl).bind fun l11 =>
 newK h7 (.cells [.bool b8, l9.v, .bool b10, l11.v] T.kf) fun h12r h12 =>
 (go (.fn F.kg8 [(⟨some h12r, 2, .is 2⟩ : Sl).v]) h12).bind fun q13 =>
 ((some q13.1).bind AV.asBool).bind fun b14 =>
 cond (!b14) (
 (q13.2.puts h7r [.bool false, (⟨none, 0, .is 0⟩ : Sl).v]).bind fun h15 =>
 ((h15.cell (h7r.add 0)).bind AV.asBool).bind fun b16 =>
 ((h15.cell (h7r.add 1)).bind AV.asSl).bind fun l17 =>
 some (.tup [.agg [.bool b16, l17.v], .int .i64 1], h15)) (
 ((q13.2.cell (h5r.add 0)).bind AV.asBool).bind fun b18 =>
 ((q13.2.cell (h6r.add 0)).bind AV.asBool).bind fun b19 =>
 cond (b18 == b19) (
 ((q13.2.cell (h5r.add 1)).bind AV.asSl).bind fun l20 =>
 ((q13.2.cell (h6r.add 1)).bind AV.asSl).bind fun l21 =>
 (go (.fn F.kl7 [l20.v, l21.v]) q13.2).bind fun q22 =>
 (AV.asTup2 q22.1).bind fun p23 =>
 ((some p23.1).bind AV.asSl).bind fun l24 =>
 ((some p23.2).bind (AV.asInt .i64)).bind fun n25 =>
 ((q22.2.cell (h5r.add 0)).bind AV.asBool).bind fun b26 =>
 (go (.fn F.kbw [.bool b26, l24.v]) q22.2).bind fun q27 =>
 (AV.asAgg q27.1).bind fun cs28 =>
 cond (Nat.beq cs28.length 2) (
 ((cs28[0]?).bind AV.asBool).bind fun b29 =>
 ((cs28[1]?).bind AV.asSl).bind fun l30 =>
 (q27.2.puts h7r [.bool b29, l30.v]).bind fun h31 =>
 ((h31.cell (h7r.add 0)).bind AV.asBool).bind fun b32 =>
 ((h31.cell (h7r.add 1)).bind AV.asSl).bind fun l33 =>
 some (.tup [.agg [.bool b32, l33.v], .int .i64 n25], h31)) none) (
 ((q13.2.cell (h5r.add 1)).bind AV.asSl).bind fun l34 =>
 ((q13.2.cell (h6r.add 1)).bind AV.asSl).bind fun l35 =>
 (go (.fn F.kgb [l34.v, l35.v]) q13.2).bind fun q36 =>
 ((some q36.1).bind (AV.asInt .i64)).bind fun n37 =>
 cond (decide (n37 < 0)) (
 ((q36.2.cell (h6r.add 0)).bind AV.asBool).bind fun b38 =>
 ((q36.2.cell (h6r.add 1)).bind AV.asSl).bind fun l39 =>
 ((q36.2.cell (h5r.add 0)).bind AV.asBool).bind fun b40 =>
 ((q36.2.cell (h5r.add 1)).bind AV.asSl).bind fun l41 =>
 (q36.2.puts h5r [.bool b38, l39.v]).bind fun h42 =>
 (h42.puts h6r [.bool b40, l41.v]).bind fun h43 =>
 ((h43.cell (h5r.add 1)).bind AV.asSl).bind fun l44 =>
 ((h43.cell (h6r.add 1)).bind AV.asSl).bind fun l45 =>
 (go (.fn F.kjp [l44.v, l45.v]) h43).bind fun q46 =>
 (AV.asTup2 q46.1).bind fun p47 =>
 ((some p47.1).bind AV.asSl).bind fun l48 =>
 ((some p47.2).bind (AV.asInt .i64)).bind fun n49 =>
 ((q46.2.cell (h5r.add 0)).bind AV.asBool).bind fun b50 =>
 (go (.fn F.kbw [.bool b50, l48.v]) q46.2).bind fun q51 =>
 (AV.asAgg q51.1).bind fun cs52 =>
 cond (Nat.beq cs52.length 2) (
 ((cs52[0]?).bind AV.asBool).bind fun b53 =>
 ((cs52[1]?).bind AV.asSl).bind fun l54 =>
 (q51.2.puts h7r [.bool b53, l54.v]).bind fun h55 =>
 ((h55.cell (h7r.add 0)).bind AV.asBool).bind fun b56 =>
 ((h55.cell (h7r.add 1)).bind AV.asSl).bind fun l57 =>
 some (.tup [.agg [.bool b56, l57.v], .int .i64 n49], h55)) none) (
 ((q36.2.cell (h5r.add 1)).bind AV.asSl).bind fun l58 =>
 ((q36.2.cell (h6r.add 1)).bind AV.asSl).bind fun l59 =>
 (go (.fn F.kjp [l58.v, l59.v]) q36.2).bind fun q60 =>
 (AV.asTup2 q60.1).bind fun p61 =>
 ((some p61.1).bind AV.asSl).bind fun l62 =>
 ((some p61.2).bind (AV.asInt .i64)).bind fun n63 =>
 ((q60.2.cell (h5r.add 0)).bind AV.asBool).bind fun b64 =>
 (go (.fn F.kbw [.bool b64, l62.v]) q60.2).bind fun q65 =>
 (AV.asAgg q65.1).bind fun cs66 =>
 cond (Nat.beq cs66.length 2) (
 ((cs66[0]?).bind AV.asBool).bind fun b67 =>
 ((cs66[1]?).bind AV.asSl).bind fun l68 =>
 (q65.2.puts h7r [.bool b67, l68.v]).bind fun h69 =>
 ((h69.cell (h7r.add 0)).bind AV.asBool).bind fun b70 =>
 ((h69.cell (h7r.add 1)).bind AV.asSl).bind fun l71 =>
 some (.tup [.agg [.bool b70, l71.v], .int .i64 n63], h69)) none))) := (kc _ h).trans (by kernel_rfl)
theorem k7w (a1 : Sl) (h : AH) : go (.fn F.kwm [a1.v, .func (.func F.kdb) [] []]) h =
 (go (.fn F.kii [a1.v, .func (.func F.kdb) [] []]) h).bind fun q2 =>
 ((some q2.1).bind (AV.asInt .i64)).bind fun n3 =>
 some (.bool (decide (n3 ≥ 0)), q2.2) := (kc _ h).trans (by kernel_rfl)
theorem kru (a1 : Sl) (a2 : Sl) (a3 : Int) (a4 : Int) (a5 : Int) (h : AH) : go (.pt F.kbp Td.kn2 [(0, a1.v), (3, a2.v), (4, .int .i64 a3), (5, .int .u64 a4), (6, .int .i64 a5)]) h =
 cond (decide (a5 < 4)) (
 newK h (.cells [.int .u64 (Int.tmod a4 65536)] T.ke) fun h6r h6 =>
 (kbf Pg T.ke ((⟨some h6r, 1, .is 1⟩ : Sl).v) h6).bind fun p8 =>
 (kp Pg a2 p8.1 p8.2 T.ke 1 h6).bind fun q7 =>
 (AV.asSl q7.1).bind fun l9 =>
 go (.pt F.kbp Td.kn2 [(0, a1.v), (3, l9.v), (4, .int .i64 a3), (5, .int .u64 (IntKind.wrap .u64 (Int.tdiv a4 65536))), (6, .int .i64 (IntKind.wrap .i64 (a5 + 1)))]) q7.2) (
 go (.pt F.kbp Td.kj8 [(0, a1.v), (3, a2.v), (4, .int .i64 (IntKind.wrap .i64 (a3 + 1)))]) h) := (kc _ h).trans (by kernel_rfl)
theorem kba8 (a1 : Sl) (h : AH) : go (.fn F.kcm [a1.v]) h =
 go (.pt F.kcm Td.kmy [(0, a1.v), (3, .int .i64 (a1.len : Int))]) h := (kc _ h).trans (by kernel_rfl)
theorem k9b (a1 : Sl) (a2 : Sl) (a3 : Sl) (a4 : Int) (a5 : Int) (a6 : Int) (h : AH) : go (.pt F.kci Td.klj [(0, a1.v), (1, a2.v), (5, a3.v), (6, .int .i64 a4), (7, .int .u64 a5), (8, .int .i64 a6)]) h =
 cond (decide (a6 < (a2.len : Int))) (
 (idx a3.ref a3.len (IntKind.wrap .i64 (a4 + a6)) 1).bind fun r7 =>
 ((h.cell r7).bind (AV.asInt .u64)).bind fun n8 =>
 (idx a1.ref a1.len a4 1).bind fun r9 =>
 ((h.cell r9).bind (AV.asInt .u64)).bind fun n10 =>
 (idx a2.ref a2.len a6 1).bind fun r11 =>
 ((h.cell r11).bind (AV.asInt .u64)).bind fun n12 =>
 (idx a3.ref a3.len (IntKind.wrap .i64 (a4 + a6)) 1).bind fun r13 =>
 (h.puts r13 [.int .u64 (Int.tmod (IntKind.wrap .u64 ((IntKind.wrap .u64 (n8 + (IntKind.wrap .u64 (n10 * n12)))) + a5)) 65536)]).bind fun h14 =>
 go (.pt F.kci Td.klj [(0, a1.v), (1, a2.v), (5, a3.v), (6, .int .i64 a4), (7, .int .u64 (IntKind.wrap .u64 (Int.tdiv (IntKind.wrap .u64 ((IntKind.wrap .u64 (n8 + (IntKind.wrap .u64 (n10 * n12)))) + a5)) 65536))), (8, .int .i64 (IntKind.wrap .i64 (a6 + 1)))]) h14) (
 (idx a3.ref a3.len (IntKind.wrap .i64 (a4 + (a2.len : Int))) 1).bind fun r15 =>
 (h.puts r15 [.int .u64 a5]).bind fun h16 =>
 go (.pt F.kci Td.kmc [(0, a1.v), (1, a2.v), (5, a3.v), (6, .int .i64 (IntKind.wrap .i64 (a4 + 1)))]) h16) := (kc _ h).trans (by kernel_rfl)
theorem ksf (a1 : Sl) (a2 : Sl) (a3 : Int) (h : AH) : go (.pt F.kb8 Td.kig [(0, a1.v), (4, a2.v), (5, .int .i64 a3)]) h =
 cond (decide (a3 < (a1.len : Int))) (
 go (.pt F.kb8 Td.kkb [(0, a1.v), (4, a2.v), (5, .int .i64 a3), (6, .int .u64 0), (7, .int .i64 3)]) h) (
 some (.tup [a2.v, .bool (decide ((a2.len : Int) ≤ 64))], h)) := (kc _ h).trans (by kernel_rfl)
theorem kyn (a1 : Sl) (a2 : Sl) (a3 : Sl) (a4 : Sl) (a5 : Int) (h : AH) : go (.pt F.kcn Td.kmv [(0, a1.v), (1, a2.v), (6, a3.v), (7, a4.v), (8, .int .i64 a5)]) h =
 cond (decide (a5 ≥ 0)) (
 (idx a1.ref a1.len a5 1).bind fun r6 =>
 ((h.cell r6).bind (AV.asInt .u64)).bind fun n7 =>
 newK h (.cells [.int .u64 n7] T.ke) fun h8r h8 =>
 (kbf Pg T.ke a4.v h8).bind fun p10 =>
 (kp Pg (⟨some h8r, 1, .is 1⟩ : Sl) p10.1 p10.2 T.ke 1 h8).bind fun q9 =>
 (AV.asSl q9.1).bind fun l11 =>
 (go (.fn F.kcm [l11.v]) q9.2).bind fun q12 =>
 ((some q12.1).bind AV.asSl).bind fun l13 =>
 go (.pt F.kcn Td.ki8 [(0, a1.v), (1, a2.v), (6, a3.v), (7, l13.v), (8, .int .i64 a5), (9, .int .u64 0), (10, .int .u64 65535)]) q12.2) (
 (go (.fn F.kcm [a3.v]) h).bind fun q14 =>
 ((some q14.1).bind AV.asSl).bind fun l15 =>
 some (.tup [l15.v, a4.v], q14.2)) := (kc _ h).trans (by kernel_rfl)
theorem kzr (a1 : Sl) (a2 : Sl) (h : AH) : go (.fn F.keg [a1.v, a2.v]) h =
 go (.pt F.keg Td.kij [(0, a1.v), (1, a2.v), (5, (⟨none, 0, .is 0⟩ : Sl).v), (6, .int .u64 0), (7, .int .i64 0)]) h := (kc _ h).trans (by kernel_rfl)
theorem k3m (a1 : Sl) (a2 : Sl) (h : AH) : go (.fn F.kei [a1.v, a2.v]) h =
 go (.pt F.kei Td.kjz [(0, a1.v), (1, a2.v), (5, (⟨none, 0, .is 0⟩ : Sl).v), (6, .int .u64 0), (7, .int .i64 0)]) h := (kc _ h).trans (by kernel_rfl)
theorem k5d (a1 : Sl) (a2 : Option Ref) (h : AH) : go (.fn F.kc3 [a1.v, .func (.func F.kc0) [] [.ptr a2]]) h =
 (go (.fn F.kbb [a1.v, .func (.func F.kc0) [] [.ptr a2]]) h).bind fun q3 =>
 ((some q3.1).bind (AV.asInt .i64)).bind fun n4 =>
 some (.bool (decide (n4 ≥ 0)), q3.2) := (kc _ h).trans (by kernel_rfl)
theorem ksv (a1 : Ref) (a2 : Ref) (a3 : Sl) (a4 : Int) (a5 : Int) (h : AH) : go (.pt F.kha Td.klz [(4, .ptr (some a1)), (6, .ptr (some a2)), (23, a3.v), (24, .int .i64 a4), (25, .int .i64 a5)]) h =
 cond (decide (a5 < a4)) (
 (idx a3.ref a3.len a5 1).bind fun r6 =>
 ((h.cell r6).bind (AV.asInt .i64)).bind fun n7 =>
 ((h.cell (a2.add 1)).bind AV.asSl).bind fun l8 =>
 (idx l8.ref l8.len (IntKind.wrap .i64 (Int.tdiv n7 64)) 1).bind fun r9 =>
 ((h.cell r9).bind (AV.asInt .u64)).bind fun n10 =>
 cond (decide ((Int.tmod n7 64) < 0)) none (
 (idx l8.ref l8.len (IntKind.wrap .i64 (Int.tdiv n7 64)) 1).bind fun r11 =>
 (h.puts r11 [.int .u64 (ior .u64 n10 (ishl .u64 1 (Int.tmod n7 64)))]).bind fun h12 =>
 go (.pt F.kha Td.klz [(4, .ptr (some a1)), (6, .ptr (some a2)), (23, a3.v), (24, .int .i64 a4), (25, .int .i64 (IntKind.wrap .i64 (a5 + 1)))]) h12)) (
 ((h.cell (a2.add 0)).bind (AV.asInt .i64)).bind fun n13 =>
 ((h.cell (a2.add 1)).bind AV.asSl).bind fun l14 =>
 (h.puts a1 [.int .i64 n13, l14.v]).bind fun h15 =>
 ((h15.cell (a1.add 0)).bind (AV.asInt .i64)).bind fun n16 =>
 ((h15.cell (a1.add 1)).bind AV.asSl).bind fun l17 =>
 some (.tup [.agg [.int .i64 n16, l17.v], .int .i64 0], h15)) := (kc _ h).trans (by kernel_rfl)
theorem k9n (a1 : Int) (a2 : Int) (h : AH) : go (.fn F.kek [.int .u64 a1, .int .u64 a2]) h =
 some (.int .u64 (iand .u64 a1 a2), h) := (kc _ h).trans (by kernel_rfl)
theorem k2c (a1 : Sl) (a2 : AV) (a3 : Ref) (a4 : Sl) (a5 : AV) (h : AH) : go (.pt F.kd7 Tr.ksy [(0, a1.v), (1, a2), (2, .ptr (some a3)), (4, a4.v), (6, a5)]) h =
 funcK a5 fun g10 f11 c12 =>
 newM h (kgj Fx.kqd F.kd7 0 .ready none [(0, a1.v), (1, a2), (2, .ptr (some a3)), (4, a4.v), (6, a5)]) fun m6 h7 =>
 (callF Pg go g10 (f11 ++ [.func (.yield m6) [] []] ++ c12) h7).bind fun q8 =>
 (kgu m6 q8.2).bind fun p9 =>
 go (.pt F.kd7 ((p9.1.map Item.code).toList ++ Ta.kvn) [(0, a1.v), (1, a2), (2, .ptr (some a3)), (4, a4.v), (6, a5)]) p9.2 := (kc _ h).trans (by kernel_rfl)
theorem k1j (a1 : Sl) (h : AH) : go (.fn F.kdo [a1.v]) h =
 (go (.fn F.kco [a1.v]) h).bind fun q2 =>
 ((some q2.1).bind AV.asBool).bind fun b3 =>
 some (.bool (!b3), q2.2) := (kc _ h).trans (by kernel_rfl)
theorem k9a (a1 : Int) (a2 : Int) (a3 : Int) (a4 : Int) (a5 : Int) (a6 : Int) (a7 : Int) (a8 : Int) (a9 : Int) (h : AH) : go (.pt F.kbj Td.kkf [(2, .int .u64 a1), (8, .int .u64 a2), (9, .int .u64 a3), (10, .int .u64 a4), (11, .int .u64 a5), (13, .int .u64 a6), (14, .int .u64 a7), (15, .int .u64 a8), (16, .int .u64 a9)]) h =
 cond (decide (a8 ≥ 4294967296)) (
 cond (decide ((IntKind.wrap .u64 (a9 + a3)) ≥ 4294967296)) (
 cond (decide (a3 = 0)) none (
 go (.pt F.kbj Td.kgi [(2, .int .u64 a1), (8, .int .u64 a2), (9, .int .u64 a3), (10, .int .u64 a4), (14, .int .u64 a7), (15, .int .u64 (IntKind.wrap .u64 (a8 - 1))), (16, .int .u64 (IntKind.wrap .u64 ((IntKind.wrap .u64 ((IntKind.wrap .u64 ((IntKind.wrap .u64 (a5 * 4294967296)) + a6)) - (IntKind.wrap .u64 ((IntKind.wrap .u64 (a8 - 1)) * a1)))) - (IntKind.wrap .u64 ((IntKind.wrap .u64 (Int.tdiv (IntKind.wrap .u64 ((IntKind.wrap .u64 ((IntKind.wrap .u64 (a5 * 4294967296)) + a6)) - (IntKind.wrap .u64 ((IntKind.wrap .u64 (a8 - 1)) * a1)))) a3)) * a3))))), (17, .int .u64 (IntKind.wrap .u64 ((IntKind.wrap .u64 ((IntKind.wrap .u64 (a5 * 4294967296)) + a6)) - (IntKind.wrap .u64 ((IntKind.wrap .u64 (a8 - 1)) * a1))))), (18, .int .u64 (IntKind.wrap .u64 (Int.tdiv (IntKind.wrap .u64 ((IntKind.wrap .u64 ((IntKind.wrap .u64 (a5 * 4294967296)) + a6)) - (IntKind.wrap .u64 ((IntKind.wrap .u64 (a8 - 1)) * a1)))) a3)))]) h)) (
 go (.pt F.kbj Td.kkf [(2, .int .u64 a1), (8, .int .u64 a2), (9, .int .u64 a3), (10, .int .u64 a4), (11, .int .u64 a5), (13, .int .u64 a6), (14, .int .u64 a7), (15, .int .u64 (IntKind.wrap .u64 (a8 - 1))), (16, .int .u64 (IntKind.wrap .u64 (a9 + a3)))]) h)) (
 cond (decide ((IntKind.wrap .u64 (a8 * a4)) > (IntKind.wrap .u64 ((IntKind.wrap .u64 (4294967296 * a9)) + a6)))) (
 cond (decide ((IntKind.wrap .u64 (a9 + a3)) ≥ 4294967296)) (
 cond (decide (a3 = 0)) none (
 go (.pt F.kbj Td.kgi [(2, .int .u64 a1), (8, .int .u64 a2), (9, .int .u64 a3), (10, .int .u64 a4), (14, .int .u64 a7), (15, .int .u64 (IntKind.wrap .u64 (a8 - 1))), (16, .int .u64 (IntKind.wrap .u64 ((IntKind.wrap .u64 ((IntKind.wrap .u64 ((IntKind.wrap .u64 (a5 * 4294967296)) + a6)) - (IntKind.wrap .u64 ((IntKind.wrap .u64 (a8 - 1)) * a1)))) - (IntKind.wrap .u64 ((IntKind.wrap .u64 (Int.tdiv (IntKind.wrap .u64 ((IntKind.wrap .u64 ((IntKind.wrap .u64 (a5 * 4294967296)) + a6)) - (IntKind.wrap .u64 ((IntKind.wrap .u64 (a8 - 1)) * a1)))) a3)) * a3))))), (17, .int .u64 (IntKind.wrap .u64 ((IntKind.wrap .u64 ((IntKind.wrap .u64 (a5 * 4294967296)) + a6)) - (IntKind.wrap .u64 ((IntKind.wrap .u64 (a8 - 1)) * a1))))), (18, .int .u64 (IntKind.wrap .u64 (Int.tdiv (IntKind.wrap .u64 ((IntKind.wrap .u64 ((IntKind.wrap .u64 (a5 * 4294967296)) + a6)) - (IntKind.wrap .u64 ((IntKind.wrap .u64 (a8 - 1)) * a1)))) a3)))]) h)) (
 go (.pt F.kbj Td.kkf [(2, .int .u64 a1), (8, .int .u64 a2), (9, .int .u64 a3), (10, .int .u64 a4), (11, .int .u64 a5), (13, .int .u64 a6), (14, .int .u64 a7), (15, .int .u64 (IntKind.wrap .u64 (a8 - 1))), (16, .int .u64 (IntKind.wrap .u64 (a9 + a3)))]) h)) (
 cond (decide (a3 = 0)) none (
 go (.pt F.kbj Td.kgi [(2, .int .u64 a1), (8, .int .u64 a2), (9, .int .u64 a3), (10, .int .u64 a4), (14, .int .u64 a7), (15, .int .u64 a8), (16, .int .u64 (IntKind.wrap .u64 ((IntKind.wrap .u64 ((IntKind.wrap .u64 ((IntKind.wrap .u64 (a5 * 4294967296)) + a6)) - (IntKind.wrap .u64 (a8 * a1)))) - (IntKind.wrap .u64 ((IntKind.wrap .u64 (Int.tdiv (IntKind.wrap .u64 ((IntKind.wrap .u64 ((IntKind.wrap .u64 (a5 * 4294967296)) + a6)) - (IntKind.wrap .u64 (a8 * a1)))) a3)) * a3))))), (17, .int .u64 (IntKind.wrap .u64 ((IntKind.wrap .u64 ((IntKind.wrap .u64 (a5 * 4294967296)) + a6)) - (IntKind.wrap .u64 (a8 * a1))))), (18, .int .u64 (IntKind.wrap .u64 (Int.tdiv (IntKind.wrap .u64 ((IntKind.wrap .u64 ((IntKind.wrap .u64 (a5 * 4294967296)) + a6)) - (IntKind.wrap .u64 (a8 * a1)))) a3)))]) h))) := (kc _ h).trans (by kernel_rfl)
theorem k6z (a1 : Sl) (h : AH) : go (.fn F.kbb [a1.v, .func (.func F.kc5) [] []]) h =
 go (.pt F.kbb Td.kb6 [(0, a1.v), (1, .func (.func F.kc5) [] []), (7, .int .i64 (a1.len : Int)), (8, .int .i64 0)]) h := (kc _ h).trans (by kernel_rfl)
theorem kt1 (a1 : Nat) (a2 : Sl) (a3 : Int) (a4 : Int) (h : AH) : go (.pt F.kg3 Td.klx [(3, .map (some a1)), (7, a2.v), (8, .int .i64 a3), (9, .int .i64 a4)]) h =
 cond (decide (a4 < a3)) (
 (idx a2.ref a2.len a4 1).bind fun r5 =>
 ((h.cell r5).bind (AV.asInt .i64)).bind fun n6 =>
 (mapPut h a1 .i64 n6 (.int .i64 a4)).bind fun h7 =>
 go (.pt F.kg3 Td.klx [(3, .map (some a1)), (7, a2.v), (8, .int .i64 a3), (9, .int .i64 (IntKind.wrap .i64 (a4 + 1)))]) h7) (
 some (.map (some a1), h)) := (kc _ h).trans (by kernel_rfl)
theorem kxh (a1 : Sl) (a2 : Option Ref) (h : AH) : go (.fn F.kbb [a1.v, .func (.func F.kcv) [] [.ptr a2]]) h =
 go (.pt F.kbb Td.kb6 [(0, a1.v), (1, .func (.func F.kcv) [] [.ptr a2]), (7, .int .i64 (a1.len : Int)), (8, .int .i64 0)]) h := (kc _ h).trans (by kernel_rfl)
theorem k9z (a1 : Bool) (a2 : Sl) (h : AH) : go (.fn F.klc [.agg [.bool a1, a2.v]]) h =
 newK h (.cells [.bool a1, a2.v] T.kf) fun h3r h3 =>
 ((h3.cell (h3r.add 1)).bind AV.asSl).bind fun l4 =>
 (go (.fn F.kco [l4.v]) h3).bind fun q5 =>
 ((some q5.1).bind AV.asBool).bind fun b6 =>
 cond b6 (
 ((q5.2.cell (h3r.add 0)).bind AV.asBool).bind fun b7 =>
 cond (!b7) (
 some (.bool true, q5.2)) (
 ((q5.2.cell (h3r.add 1)).bind AV.asSl).bind fun l8 =>
 some (.bool (decide ((l8.len : Int) > 0)), q5.2))) (
 some (.bool false, q5.2)) := (kc _ h).trans (by kernel_rfl)
theorem k0n (a1 : Sl) (h : AH) : go (.fn F.kii [a1.v, .func (.func F.kdb) [] []]) h =
 go (.pt F.kii Td.klb [(0, a1.v), (1, .func (.func F.kdb) [] []), (7, .int .i64 (a1.len : Int)), (8, .int .i64 0)]) h := (kc _ h).trans (by kernel_rfl)
theorem kwx (a1 : Sl) (a2 : Int) (h : AH) : go (.pt F.kcm Td.kmy [(0, a1.v), (3, .int .i64 a2)]) h =
 cond (decide (a2 > 0)) (
 (idx a1.ref a1.len (IntKind.wrap .i64 (a2 - 1)) 1).bind fun r3 =>
 ((h.cell r3).bind (AV.asInt .u64)).bind fun n4 =>
 cond (decide (n4 = 0)) (
 go (.pt F.kcm Td.kmy [(0, a1.v), (3, .int .i64 (IntKind.wrap .i64 (a2 - 1)))]) h) (
 (cutSl a1 0 a2 1).bind fun l5 =>
 some (l5.v, h))) (
 (cutSl a1 0 a2 1).bind fun l6 =>
 some (l6.v, h)) := (kc _ h).trans (by kernel_rfl)
theorem ku9 (a1 : Sl) (a2 : Sl) (a3 : Int) (a4 : Int) (a5 : Int) (h : AH) : go (.pt F.kb8 Td.kkb [(0, a1.v), (4, a2.v), (5, .int .i64 a3), (6, .int .u64 a4), (7, .int .i64 a5)]) h =
 cond (decide (a5 ≥ 0)) (
 cond (decide ((IntKind.wrap .i64 (a3 + a5)) < (a1.len : Int))) (
 (idx a1.ref a1.len (IntKind.wrap .i64 (a3 + a5)) 1).bind fun r6 =>
 ((h.cell r6).bind (AV.asInt .u64)).bind fun n7 =>
 go (.pt F.kb8 Td.kkb [(0, a1.v), (4, a2.v), (5, .int .i64 a3), (6, .int .u64 (IntKind.wrap .u64 ((IntKind.wrap .u64 (a4 * 65536)) + n7))), (7, .int .i64 (IntKind.wrap .i64 (a5 - 1)))]) h) (
 go (.pt F.kb8 Td.kkb [(0, a1.v), (4, a2.v), (5, .int .i64 a3), (6, .int .u64 (IntKind.wrap .u64 (a4 * 65536))), (7, .int .i64 (IntKind.wrap .i64 (a5 - 1)))]) h)) (
 newK h (.cells [.int .u64 a4] T.ke) fun h8r h8 =>
 (kbf Pg T.ke ((⟨some h8r, 1, .is 1⟩ : Sl).v) h8).bind fun p10 =>
 (kp Pg a2 p10.1 p10.2 T.ke 1 h8).bind fun q9 =>
 (AV.asSl q9.1).bind fun l11 =>
 go (.pt F.kb8 Td.kig [(0, a1.v), (4, l11.v), (5, .int .i64 (IntKind.wrap .i64 (a3 + 4)))]) q9.2) := (kc _ h).trans (by kernel_rfl)
theorem k63 (a1 : Sl) (a2 : Sl) (a3 : Sl) (a4 : Sl) (a5 : Int) (a6 : Int) (a7 : Int) (h : AH) : go (.pt F.kcn Td.ki8 [(0, a1.v), (1, a2.v), (6, a3.v), (7, a4.v), (8, .int .i64 a5), (9, .int .u64 a6), (10, .int .u64 a7)]) h =
 cond (decide (a6 < a7)) (
 newK h (.cells [.int .u64 (IntKind.wrap .u64 (Int.tdiv (IntKind.wrap .u64 ((IntKind.wrap .u64 (a6 + a7)) + 1)) 2))] T.ke) fun h8r h8 =>
 (go (.fn F.kci [a2.v, (⟨some h8r, 1, .is 1⟩ : Sl).v]) h8).bind fun q9 =>
 ((some q9.1).bind AV.asSl).bind fun l10 =>
 (go (.fn F.ke2 [l10.v, a4.v]) q9.2).bind fun q11 =>
 ((some q11.1).bind (AV.asInt .i64)).bind fun n12 =>
 cond (decide (n12 ≤ 0)) (
 go (.pt F.kcn Td.ki8 [(0, a1.v), (1, a2.v), (6, a3.v), (7, a4.v), (8, .int .i64 a5), (9, .int .u64 (IntKind.wrap .u64 (Int.tdiv (IntKind.wrap .u64 ((IntKind.wrap .u64 (a6 + a7)) + 1)) 2))), (10, .int .u64 a7)]) q11.2) (
 go (.pt F.kcn Td.ki8 [(0, a1.v), (1, a2.v), (6, a3.v), (7, a4.v), (8, .int .i64 a5), (9, .int .u64 a6), (10, .int .u64 (IntKind.wrap .u64 ((IntKind.wrap .u64 (Int.tdiv (IntKind.wrap .u64 ((IntKind.wrap .u64 (a6 + a7)) + 1)) 2)) - 1)))]) q11.2)) (
 (idx a3.ref a3.len a5 1).bind fun r13 =>
 (h.puts r13 [.int .u64 a6]).bind fun h14 =>
 newK h14 (.cells [.int .u64 a6] T.ke) fun h15r h15 =>
 (go (.fn F.kci [a2.v, (⟨some h15r, 1, .is 1⟩ : Sl).v]) h15).bind fun q16 =>
 ((some q16.1).bind AV.asSl).bind fun l17 =>
 (go (.fn F.kei [a4.v, l17.v]) q16.2).bind fun q18 =>
 ((some q18.1).bind AV.asSl).bind fun l19 =>
 go (.pt F.kcn Td.kmv [(0, a1.v), (1, a2.v), (6, a3.v), (7, l19.v), (8, .int .i64 (IntKind.wrap .i64 (a5 - 1)))]) q18.2) := (kc _ h).trans (by kernel_rfl)
theorem ktp (a1 : Sl) (a2 : Sl) (a3 : Sl) (a4 : Int) (a5 : Int) (h : AH) : go (.pt F.keg Td.kij [(0, a1.v), (1, a2.v), (5, a3.v), (6, .int .u64 a4), (7, .int .i64 a5)]) h =
 cond (decide (a5 < (a1.len : Int))) (
 (go (.fn F.kgx [a1.v, .int .i64 a5]) h).bind fun q6 =>
 ((some q6.1).bind (AV.asInt .u64)).bind fun n7 =>
 (go (.fn F.kgx [a2.v, .int .i64 a5]) q6.2).bind fun q8 =>
 ((some q8.1).bind (AV.asInt .u64)).bind fun n9 =>
 newK q8.2 (.cells [.int .u64 (Int.tmod (IntKind.wrap .u64 ((IntKind.wrap .u64 (n7 + n9)) + a4)) 65536)] T.ke) fun h10r h10 =>
 (kbf Pg T.ke ((⟨some h10r, 1, .is 1⟩ : Sl).v) h10).bind fun p12 =>
 (kp Pg a3 p12.1 p12.2 T.ke 1 h10).bind fun q11 =>
 (AV.asSl q11.1).bind fun l13 =>
 go (.pt F.keg Td.kij [(0, a1.v), (1, a2.v), (5, l13.v), (6, .int .u64 (IntKind.wrap .u64 (Int.tdiv (IntKind.wrap .u64 ((IntKind.wrap .u64 (n7 + n9)) + a4)) 65536))), (7, .int .i64 (IntKind.wrap .i64 (a5 + 1)))]) q11.2) (
 cond (decide (a5 < (a2.len : Int))) (
 (go (.fn F.kgx [a1.v, .int .i64 a5]) h).bind fun q14 =>
 ((some q14.1).bind (AV.asInt .u64)).bind fun n15 =>
 (go (.fn F.kgx [a2.v, .int .i64 a5]) q14.2).bind fun q16 =>
 ((some q16.1).bind (AV.asInt .u64)).bind fun n17 =>
 newK q16.2 (.cells [.int .u64 (Int.tmod (IntKind.wrap .u64 ((IntKind.wrap .u64 (n15 + n17)) + a4)) 65536)] T.ke) fun h18r h18 =>
 (kbf Pg T.ke ((⟨some h18r, 1, .is 1⟩ : Sl).v) h18).bind fun p20 =>
 (kp Pg a3 p20.1 p20.2 T.ke 1 h18).bind fun q19 =>
 (AV.asSl q19.1).bind fun l21 =>
 go (.pt F.keg Td.kij [(0, a1.v), (1, a2.v), (5, l21.v), (6, .int .u64 (IntKind.wrap .u64 (Int.tdiv (IntKind.wrap .u64 ((IntKind.wrap .u64 (n15 + n17)) + a4)) 65536))), (7, .int .i64 (IntKind.wrap .i64 (a5 + 1)))]) q19.2) (
 newK h (.cells [.int .u64 a4] T.ke) fun h22r h22 =>
 (kbf Pg T.ke ((⟨some h22r, 1, .is 1⟩ : Sl).v) h22).bind fun p24 =>
 (kp Pg a3 p24.1 p24.2 T.ke 1 h22).bind fun q23 =>
 (AV.asSl q23.1).bind fun l25 =>
 (go (.fn F.kcm [l25.v]) q23.2).bind fun q26 =>
 ((some q26.1).bind AV.asSl).bind fun l27 =>
 some (l27.v, q26.2))) := (kc _ h).trans (by kernel_rfl)
theorem kr7 (a1 : Sl) (a2 : Sl) (a3 : Sl) (a4 : Int) (a5 : Int) (h : AH) : go (.pt F.kei Td.kjz [(0, a1.v), (1, a2.v), (5, a3.v), (6, .int .u64 a4), (7, .int .i64 a5)]) h =
 cond (decide (a5 < (a1.len : Int))) (
 (idx a1.ref a1.len a5 1).bind fun r6 =>
 ((h.cell r6).bind (AV.asInt .u64)).bind fun n7 =>
 (go (.fn F.kgx [a2.v, .int .i64 a5]) h).bind fun q8 =>
 ((some q8.1).bind (AV.asInt .u64)).bind fun n9 =>
 whenK (SameAt h q8.2 r6 1) (
 newK q8.2 (.cells [.int .u64 (Int.tmod (IntKind.wrap .u64 ((IntKind.wrap .u64 ((IntKind.wrap .u64 (65536 + n7)) - n9)) - a4)) 65536)] T.ke) fun h10r h10 =>
 (kbf Pg T.ke ((⟨some h10r, 1, .is 1⟩ : Sl).v) h10).bind fun p12 =>
 (kp Pg a3 p12.1 p12.2 T.ke 1 h10).bind fun q11 =>
 (AV.asSl q11.1).bind fun l13 =>
 go (.pt F.kei Td.kjz [(0, a1.v), (1, a2.v), (5, l13.v), (6, .int .u64 (IntKind.wrap .u64 (1 - (IntKind.wrap .u64 (Int.tdiv (IntKind.wrap .u64 ((IntKind.wrap .u64 ((IntKind.wrap .u64 (65536 + n7)) - n9)) - a4)) 65536))))), (7, .int .i64 (IntKind.wrap .i64 (a5 + 1)))]) q11.2)) (
 (go (.fn F.kcm [a3.v]) h).bind fun q14 =>
 ((some q14.1).bind AV.asSl).bind fun l15 =>
 some (l15.v, q14.2)) := (kc _ h).trans (by kernel_rfl)
theorem k8o (a1 : Sl) (a2 : Option Ref) (h : AH) : go (.fn F.kbb [a1.v, .func (.func F.kc0) [] [.ptr a2]]) h =
 go (.pt F.kbb Td.kb6 [(0, a1.v), (1, .func (.func F.kc0) [] [.ptr a2]), (7, .int .i64 (a1.len : Int)), (8, .int .i64 0)]) h := (kc _ h).trans (by kernel_rfl)
theorem k5o (l : Nat) (pe : Option Code) (a1 : Sl) (a2 : AV) (a3 : Ref) (a4 : Sl) (a5 : AV) (a6 : Int) (h : AH) (hb : h.blks[l]? = some (kgj Fx.kqd F.kd7 0 .ready pe [(0, a1.v), (1, a2), (2, .ptr (some a3)), (4, a4.v), (6, a5)])) : go (.round l [.int .i64 a6]) h =
 (beginA l h).bind fun h7 =>
 ((h7.cell a3).bind AV.asSl).bind fun l8 =>
 newK h7 (.cells [.int .i64 a6] T.int) fun h9r h9 =>
 (kbf Pg T.int ((⟨some h9r, 1, .is 1⟩ : Sl).v) h9).bind fun p11 =>
 (kp Pg l8 p11.1 p11.2 T.int 1 h9).bind fun q10 =>
 (AV.asSl q10.1).bind fun l12 =>
 (q10.2.puts a3 [l12.v]).bind fun h13 =>
 kdm l none h13 := (kc _ h).trans ((kv6 hb).trans (by kernel_rfl))
theorem k0c (a1 : Sl) (a2 : AV) (a3 : Ref) (a4 : Sl) (a5 : AV) (h : AH) : go (.pt F.kd7 ((Option.map Item.code none).toList ++ Ta.kvn) [(0, a1.v), (1, a2), (2, .ptr (some a3)), (4, a4.v), (6, a5)]) h =
 ((h.cell a3).bind AV.asSl).bind fun l6 =>
 some (l6.v, h) := (kc _ h).trans (by kernel_rfl)
theorem k3n (a1 : Int) (a2 : Int) (a3 : Int) (a4 : Int) (a5 : Int) (a6 : Int) (a7 : Int) (a8 : Int) (a9 : Int) (h : AH) : go (.pt F.kbj Td.kgi [(2, .int .u64 a1), (8, .int .u64 a2), (9, .int .u64 a3), (10, .int .u64 a4), (14, .int .u64 a5), (15, .int .u64 a6), (16, .int .u64 a7), (17, .int .u64 a8), (18, .int .u64 a9)]) h =
 cond (decide (a9 ≥ 4294967296)) (
 cond (decide ((IntKind.wrap .u64 (a7 + a3)) ≥ 4294967296)) (
 cond (decide (a2 < 0)) none (
 some (.tup [.int .u64 (IntKind.wrap .u64 ((IntKind.wrap .u64 (a6 * 4294967296)) + (IntKind.wrap .u64 (a9 - 1)))), .int .u64 (ishr .u64 (IntKind.wrap .u64 ((IntKind.wrap .u64 ((IntKind.wrap .u64 (a8 * 4294967296)) + a5)) - (IntKind.wrap .u64 ((IntKind.wrap .u64 (a9 - 1)) * a1)))) a2)], h))) (
 go (.pt F.kbj Td.kgi [(2, .int .u64 a1), (8, .int .u64 a2), (9, .int .u64 a3), (10, .int .u64 a4), (14, .int .u64 a5), (15, .int .u64 a6), (16, .int .u64 (IntKind.wrap .u64 (a7 + a3))), (17, .int .u64 a8), (18, .int .u64 (IntKind.wrap .u64 (a9 - 1)))]) h)) (
 cond (decide ((IntKind.wrap .u64 (a9 * a4)) > (IntKind.wrap .u64 ((IntKind.wrap .u64 (4294967296 * a7)) + a5)))) (
 cond (decide ((IntKind.wrap .u64 (a7 + a3)) ≥ 4294967296)) (
 cond (decide (a2 < 0)) none (
 some (.tup [.int .u64 (IntKind.wrap .u64 ((IntKind.wrap .u64 (a6 * 4294967296)) + (IntKind.wrap .u64 (a9 - 1)))), .int .u64 (ishr .u64 (IntKind.wrap .u64 ((IntKind.wrap .u64 ((IntKind.wrap .u64 (a8 * 4294967296)) + a5)) - (IntKind.wrap .u64 ((IntKind.wrap .u64 (a9 - 1)) * a1)))) a2)], h))) (
 go (.pt F.kbj Td.kgi [(2, .int .u64 a1), (8, .int .u64 a2), (9, .int .u64 a3), (10, .int .u64 a4), (14, .int .u64 a5), (15, .int .u64 a6), (16, .int .u64 (IntKind.wrap .u64 (a7 + a3))), (17, .int .u64 a8), (18, .int .u64 (IntKind.wrap .u64 (a9 - 1)))]) h)) (
 cond (decide (a2 < 0)) none (
 some (.tup [.int .u64 (IntKind.wrap .u64 ((IntKind.wrap .u64 (a6 * 4294967296)) + a9)), .int .u64 (ishr .u64 (IntKind.wrap .u64 ((IntKind.wrap .u64 ((IntKind.wrap .u64 (a8 * 4294967296)) + a5)) - (IntKind.wrap .u64 (a9 * a1)))) a2)], h)))) := (kc _ h).trans (by kernel_rfl)
theorem kta (a1 : Sl) (a2 : Int) (a3 : Int) (h : AH) : go (.pt F.kbb Td.kb6 [(0, a1.v), (1, .func (.func F.kc5) [] []), (7, .int .i64 a2), (8, .int .i64 a3)]) h =
 cond (decide (a3 < a2)) (
 (idx a1.ref a1.len a3 1).bind fun r4 =>
 ((h.cell r4).bind (AV.asInt .i64)).bind fun n5 =>
 (go (.fn F.kc5 [.int .i64 n5]) h).bind fun q6 =>
 ((some q6.1).bind AV.asBool).bind fun b7 =>
 cond b7 (
 some (.int .i64 a3, q6.2)) (
 go (.pt F.kbb Td.kb6 [(0, a1.v), (1, .func (.func F.kc5) [] []), (7, .int .i64 a2), (8, .int .i64 (IntKind.wrap .i64 (a3 + 1)))]) q6.2)) (
 some (.int .i64 (-1), h)) := (kc _ h).trans (by kernel_rfl)
theorem ku7 (a1 : Sl) (a2 : Option Ref) (a3 : Int) (a4 : Int) (h : AH) : go (.pt F.kbb Td.kb6 [(0, a1.v), (1, .func (.func F.kcv) [] [.ptr a2]), (7, .int .i64 a3), (8, .int .i64 a4)]) h =
 cond (decide (a4 < a3)) (
 (idx a1.ref a1.len a4 1).bind fun r5 =>
 ((h.cell r5).bind (AV.asInt .i64)).bind fun n6 =>
 (go (.fn F.kcv [.int .i64 n6, .ptr a2]) h).bind fun q7 =>
 ((some q7.1).bind AV.asBool).bind fun b8 =>
 cond b8 (
 some (.int .i64 a4, q7.2)) (
 go (.pt F.kbb Td.kb6 [(0, a1.v), (1, .func (.func F.kcv) [] [.ptr a2]), (7, .int .i64 a3), (8, .int .i64 (IntKind.wrap .i64 (a4 + 1)))]) q7.2)) (
 some (.int .i64 (-1), h)) := (kc _ h).trans (by kernel_rfl)
theorem ktt (a1 : Sl) (a2 : Int) (a3 : Int) (h : AH) : go (.pt F.kii Td.klb [(0, a1.v), (1, .func (.func F.kdb) [] []), (7, .int .i64 a2), (8, .int .i64 a3)]) h =
 cond (decide (a3 < a2)) (
 (idx a1.ref a1.len a3 2).bind fun r4 =>
 ((h.cell (r4.add 0)).bind AV.asBool).bind fun b5 =>
 ((h.cell (r4.add 1)).bind AV.asSl).bind fun l6 =>
 (go (.fn F.kdb [.agg [.bool b5, l6.v]]) h).bind fun q7 =>
 ((some q7.1).bind AV.asBool).bind fun b8 =>
 cond b8 (
 some (.int .i64 a3, q7.2)) (
 go (.pt F.kii Td.klb [(0, a1.v), (1, .func (.func F.kdb) [] []), (7, .int .i64 a2), (8, .int .i64 (IntKind.wrap .i64 (a3 + 1)))]) q7.2)) (
 some (.int .i64 (-1), h)) := (kc _ h).trans (by kernel_rfl)
theorem k58 (a1 : Sl) (a2 : Int) (h : AH) : go (.fn F.kgx [a1.v, .int .i64 a2]) h =
 cond (decide (a2 < (a1.len : Int))) (
 (idx a1.ref a1.len a2 1).bind fun r3 =>
 ((h.cell r3).bind (AV.asInt .u64)).bind fun n4 =>
 some (.int .u64 n4, h)) (
 some (.int .u64 0, h)) := (kc _ h).trans (by kernel_rfl)
theorem ksc (a1 : Sl) (a2 : Option Ref) (a3 : Int) (a4 : Int) (h : AH) : go (.pt F.kbb Td.kb6 [(0, a1.v), (1, .func (.func F.kc0) [] [.ptr a2]), (7, .int .i64 a3), (8, .int .i64 a4)]) h =
 cond (decide (a4 < a3)) (
 (idx a1.ref a1.len a4 1).bind fun r5 =>
 ((h.cell r5).bind (AV.asInt .i64)).bind fun n6 =>
 (go (.fn F.kc0 [.int .i64 n6, .ptr a2]) h).bind fun q7 =>
 ((some q7.1).bind AV.asBool).bind fun b8 =>
 cond b8 (
 some (.int .i64 a4, q7.2)) (
 go (.pt F.kbb Td.kb6 [(0, a1.v), (1, .func (.func F.kc0) [] [.ptr a2]), (7, .int .i64 a3), (8, .int .i64 (IntKind.wrap .i64 (a4 + 1)))]) q7.2)) (
 some (.int .i64 (-1), h)) := (kc _ h).trans (by kernel_rfl)
theorem kxx (a1 : Int) (h : AH) : go (.fn F.kc5 [.int .i64 a1]) h =
 cond (decide (a1 < 0)) (
 some (.bool true, h)) (
 some (.bool (decide (a1 > 1073741824)), h)) := (kc _ h).trans (by kernel_rfl)
theorem k04 (a1 : Int) (a2 : Option Ref) (h : AH) : go (.fn F.kcv [.int .i64 a1, .ptr a2]) h =
 cond (decide (a1 < 0)) (
 some (.bool true, h)) (
 a2.bind fun r3 =>
 ((h.cell r3).bind (AV.asInt .i64)).bind fun n4 =>
 some (.bool (decide (a1 ≥ n4)), h)) := (kc _ h).trans (by kernel_rfl)
theorem k4z (a1 : Bool) (a2 : Sl) (h : AH) : go (.fn F.kdb [.agg [.bool a1, a2.v]]) h =
 newK h (.cells [.bool a1, a2.v] T.kf) fun h3r h3 =>
 ((h3.cell (h3r.add 0)).bind AV.asBool).bind fun b4 =>
 ((h3.cell (h3r.add 1)).bind AV.asSl).bind fun l5 =>
 (go (.fn F.klc [.agg [.bool b4, l5.v]]) h3).bind fun q6 =>
 ((some q6.1).bind AV.asBool).bind fun b7 =>
 some (.bool (!b7), q6.2) := (kc _ h).trans (by kernel_rfl)
theorem k0z (a1 : Int) (a2 : Option Ref) (h : AH) : go (.fn F.kc0 [.int .i64 a1, .ptr a2]) h =
 cond (decide (a1 < 0)) (
 some (.bool true, h)) (
 a2.bind fun r3 =>
 ((h.cell r3).bind (AV.asInt .i64)).bind fun n4 =>
 some (.bool (decide (a1 ≥ n4)), h)) := (kc _ h).trans (by kernel_rfl)
end Go.Ab
