/- squeezed -/
import Derived.Test.YthpakkpckmjhjaaGreatDoorPAbsDra
import Derived.Test.YthpakkpckmjhjaaGreatDoorProg

set_option linter.unusedVariables false
set_option maxRecDepth 100000
namespace Go.Ab
open Go.Proofs
@[reducible] def F.knj : FuncId := 3
@[reducible] def F.kng : FuncId := 5
@[reducible] def F.kb5 : FuncId := 6
@[reducible] def F.kcg : FuncId := 7
@[reducible] def F.kbu : FuncId := 8
@[reducible] def F.kf9 : FuncId := 9
@[reducible] def F.kf0 : FuncId := 12
@[reducible] def F.kca : FuncId := 13
@[reducible] def F.kli : FuncId := 14
@[reducible] def F.klw : FuncId := 15
@[reducible] def F.kix : FuncId := 16
@[reducible] def F.kbm : FuncId := 17
@[reducible] def F.knm : FuncId := 18
@[reducible] def F.kpn : FuncId := 19
@[reducible] def F.kjj : FuncId := 20
@[reducible] def F.khc : FuncId := 21
@[reducible] def F.koa : FuncId := 22
@[reducible] def F.kkh : FuncId := 23
@[reducible] def F.ke3 : FuncId := 24
@[reducible] def F.kcx : FuncId := 25
@[reducible] def F.kh9 : FuncId := 26
@[reducible] def F.kio : FuncId := 27
@[reducible] def F.kog : FuncId := 28
@[reducible] def F.ki1 : FuncId := 29
@[reducible] def F.kc2 : FuncId := 32
@[reducible] def F.kct : FuncId := 33
@[reducible] def F.ki4 : FuncId := 34
@[reducible] def F.keh : FuncId := 35
@[reducible] def F.kih : FuncId := 36
@[reducible] def F.kfa : FuncId := 37
@[reducible] def F.kha : FuncId := 38
@[reducible] def F.kcv : FuncId := 39
@[reducible] def F.kn5 : FuncId := 40
@[reducible] def F.kni : FuncId := 41
@[reducible] def F.kdm : FuncId := 42
@[reducible] def F.kjl : FuncId := 43
@[reducible] def F.kbh : FuncId := 44
@[reducible] def F.kei : FuncId := 45
@[reducible] def F.kko : FuncId := 46
@[reducible] def F.kk3 : FuncId := 47
@[reducible] def F.kcn : FuncId := 48
@[reducible] def F.kd9 : FuncId := 49
@[reducible] def F.kch : FuncId := 50
@[reducible] def F.kff : FuncId := 51
@[reducible] def F.kkt : FuncId := 52
@[reducible] def F.kex : FuncId := 53
@[reducible] def F.kmt : FuncId := 54
@[reducible] def F.klp : FuncId := 55
@[reducible] def F.khp : FuncId := 56
@[reducible] def F.kph : FuncId := 57
@[reducible] def F.kks : FuncId := 58
@[reducible] def F.kmk : FuncId := 59
@[reducible] def F.kld : FuncId := 66
@[reducible] def F.kkn : FuncId := 68
@[reducible] def F.ky : FuncId := 73
@[reducible] def F.khl : FuncId := 74
@[reducible] def F.kou : FuncId := 75
@[reducible] def F.kcp : FuncId := 76
@[reducible] def F.kfi : FuncId := 77
@[reducible] def F.keq : FuncId := 78
@[reducible] def F.khv : FuncId := 79
@[reducible] def F.kd7 : FuncId := 80
@[reducible] def F.kit : FuncId := 81
@[reducible] def F.kbp : FuncId := 82
@[reducible] def F.kf7 : FuncId := 83
@[reducible] def F.kgt : FuncId := 84
@[reducible] def F.kea : FuncId := 85
@[reducible] def F.kpq : FuncId := 86
@[reducible] def F.kna : FuncId := 87
@[reducible] def F.kgs : FuncId := 88
@[reducible] def F.ke0 : FuncId := 89
@[reducible] def F.kpm : FuncId := 90
@[reducible] def F.kce : FuncId := 91
@[reducible] def F.kbr : FuncId := 92
@[reducible] def F.kdf : FuncId := 93
@[reducible] def F.kba : FuncId := 94
@[reducible] def F.kjt : FuncId := 95
@[reducible] def F.kcd : FuncId := 96
@[reducible] def F.kgx : FuncId := 97
@[reducible] def F.kgy : FuncId := 98
@[reducible] def F.kc1 : FuncId := 99
@[reducible] def F.kco : FuncId := 100
@[reducible] def F.kcz : FuncId := 101
@[reducible] def F.ke5 : FuncId := 107
@[reducible] def F.kck : FuncId := 108
@[reducible] def F.kbv : FuncId := 109
@[reducible] def F.kc5 : FuncId := 115
@[reducible] def F.kgj : FuncId := 116
@[reducible] def F.kbf : FuncId := 117
@[reducible] def F.kml : FuncId := 118
@[reducible] def F.kdy : FuncId := 119
@[reducible] def F.keb : FuncId := 120
@[reducible] def F.kj5 : FuncId := 121
@[reducible] def F.kcq : FuncId := 122
@[reducible] def F.kdr : FuncId := 123
@[reducible] def F.kbo : FuncId := 124
@[reducible] def F.kpz : FuncId := 125
@[reducible] def F.kfr : FuncId := 126
@[reducible] def F.kc6 : FuncId := 127
@[reducible] def F.kk1 : FuncId := 128
@[reducible] def F.ke2 : FuncId := 134
@[reducible] def F.kpd : FuncId := 137
@[reducible] def T.func : TypeId := 1
@[reducible] def T.int : TypeId := 3
@[reducible] def T.bool : TypeId := 4
@[reducible] def T.string : TypeId := 9
@[reducible] def T.any : TypeId := 20
@[reducible] def T.kmf : TypeId := 22
@[reducible] def T.kp : TypeId := 23
@[reducible] def T.kci : TypeId := 24
@[reducible] def T.ki8 : TypeId := 26
@[reducible] def T.kb6 : TypeId := 27
@[reducible] def T.ko9 : TypeId := 28
@[reducible] def T.ku : TypeId := 30
@[reducible] def T.kn : TypeId := 32
@[reducible] def T.kgr : TypeId := 44
@[reducible] def T.ke : TypeId := 47
@[reducible] def T.kbs : TypeId := 49
@[reducible] def T.kwe : TypeId := 53
@[reducible] def T.kcw : TypeId := 59
@[reducible] def T.kwl : TypeId := 85
@[reducible] noncomputable def Pg : Program := Tryz.prog
@[reducible] def Gl.math_bits_divideError : Nat := 0
@[reducible] def Gl.math_bits_overflowError : Nat := 1
@[reducible] def Gl.math_bits_deBruijn64tab : Nat := 2
def keepTab : List (Nat × Nat × List Nat) := [(6, 3, [2, 3, 4, 7, 8]), (6, 8, [3, 4, 7, 9]), (6, 15, [3, 4, 10, 11]), (7, 14, [7, 8, 9, 11, 12, 15, 40, 41, 42]), (8, 8, [0, 3, 5, 6, 12]), (8, 18, [3, 5, 14, 15, 16, 17, 18]), (8, 22, [3, 5, 14, 15, 16, 17, 18, 19, 20]), (9, 4, [0, 1, 5]), (12, 4, [0, 1, 5]), (13, 11, [5, 6, 7, 9, 12, 33, 34, 35]), (24, 4, [1, 3, 4, 5]), (25, 4, [1, 3, 4, 5]), (25, 7, [1, 3, 4, 5, 6]), (30, 7, [1, 7, 9, 10, 12]), (30, 1000011, [0, 1, 8, 9, 2, 3, 4, 5, 6, 7, 10, 11, 12]), (30, 2000011, [8, 9]), (31, 9, [1, 8, 9, 10, 11]), (31, 1000013, [0, 2, 7, 1, 3, 4, 5, 6, 8, 9]), (31, 1000019, [0, 1, 8, 9, 2, 3, 4, 5, 6, 7, 10, 11, 12]), (31, 2000013, [7]), (31, 2000019, [8, 9]), (37, 4, [1, 27, 28, 29]), (39, 2, [0, 1, 7, 8]), (44, 1, [0, 1, 2, 10, 11, 12]), (44, 4, [0, 1, 2, 4, 10, 11, 12, 18, 19]), (45, 7, [2, 3, 6, 8, 44, 45, 46]), (49, 6, [0, 4, 5]), (50, 5, [1, 4]), (50, 10, [1, 4, 5]), (51, 4, [1, 3]), (53, 3, [1, 5, 6]), (61, 1000001, [0, 2, 7, 1, 3, 4, 5, 6, 8, 9]), (61, 2000001, [7]), (73, 2, [0, 1, 7, 8]), (77, 4, [0, 1]), (78, 6, [0, 1, 5]), (80, 4, [0, 1, 6, 7, 8]), (82, 6, [6, 7, 8, 9, 10, 11]), (82, 10, [6, 7, 8, 9, 10, 11, 12, 13]), (82, 18, [6, 10, 15, 16, 112, 113]), (83, 5, [4, 6, 23, 24, 25]), (84, 5, [2, 3, 4, 6, 8, 9, 35, 36]), (88, 4, [0, 3]), (89, 7, [8, 9]), (91, 3, [0, 1, 5, 6]), (91, 7, [0, 1, 5, 6, 7, 8]), (92, 3, [0, 3, 4]), (92, 7, [0, 3, 4, 5, 6]), (94, 2, [0, 3]), (95, 1000006, [0, 1, 2, 4, 5, 8, 9, 10, 12, 13, 3, 6, 7, 11, 14, 15, 16, 17]), (95, 1000007, [0, 1, 2, 4, 5, 9, 10, 12, 13, 3, 6, 7, 8, 11, 14, 15, 16, 17, 18]), (96, 3, [1, 5, 20, 21, 22]), (96, 7, [1, 5, 6, 7, 8, 20, 21, 22, 27, 28, 29]), (99, 6, [0, 1, 5, 6, 21, 22]), (100, 4, [0, 1, 5, 6, 13, 14]), (101, 2, [0, 1, 2, 6, 7]), (107, 6, [0, 1, 5]), (108, 4, [0, 1, 6, 7, 8]), (108, 9, [0, 1, 6, 7, 8, 9, 10]), (109, 3, [0, 4, 5]), (109, 7, [0, 4, 5, 6, 7]), (116, 3, [3, 7, 8, 9]), (117, 3, [0, 1, 2]), (117, 17, [2, 8, 9, 10, 11, 13, 14, 15, 16]), (117, 24, [2, 8, 9, 10, 14, 15, 16, 17, 18]), (119, 3, [1, 5, 12, 13, 14]), (120, 4, [2, 3, 4, 11, 12]), (124, 1, [0, 6, 7, 8]), (124, 3, [0, 3, 4, 6, 7, 8]), (126, 2, [0, 1, 5]), (127, 2, [0, 3]), (134, 4, [0, 1, 5, 6, 7]), (134, 1000006, [0, 1, 2, 3, 4, 5, 6, 9, 7, 8, 10, 11]), (135, 4, [0, 1, 5, 6, 7]), (136, 2, [0, 1, 7, 8])]
noncomputable def go : Rec := run Pg (keepOf keepTab)
theorem kb (k : Key) (h : AH) : go k h = stepA Pg (keepOf keepTab) go k h := kzd _ k h
theorem kvz : Pg.underlying T.int = some (.int .i64) := Tryz.underlying3
theorem kh1 : Pg.cellsOf T.int = 1 := by kernel_rfl
theorem kzx : kcc Pg T.int = some [.int .i64 0] := by kernel_rfl
theorem k74 : Pg.bytesOf T.int = 8 := by kernel_rfl
theorem k4a : Pg.underlying T.kmf = some (.slice T.ke) := Tryz.underlying22
theorem kw6 : Pg.cellsOf T.kmf = 1 := by kernel_rfl
theorem ku9 : Pg.underlying T.kp = some (.slice T.ke) := Tryz.underlying23
theorem kkg : Pg.cellsOf T.kp = 1 := by kernel_rfl
theorem kxo : kcc Pg T.kp = some [(⟨none, 0, .is 0⟩ : Sl).v] := by kernel_rfl
theorem k1y : Pg.bytesOf T.kp = 24 := by kernel_rfl
theorem kym : Pg.underlying T.kci = some (.slice T.kp) := Tryz.underlying24
theorem k6r : Pg.cellsOf T.kci = 1 := by kernel_rfl
theorem kwp : Pg.underlying T.ki8 = some (.struct #[{ name := "N", type := T.kp, offset := 0, embedded := false, tag := "", pkgPath := "", byteOffset := 0 }, { name := "C", type := T.kci, offset := 1, embedded := false, tag := "", pkgPath := "", byteOffset := 24 }]) := Tryz.underlying26
theorem k5s : Pg.cellsOf T.ki8 = 2 := by kernel_rfl
theorem k8w : Pg.underlying T.kb6 = some (.slice T.int) := Tryz.underlying27
theorem kt5 : Pg.cellsOf T.kb6 = 1 := by kernel_rfl
theorem k3j : Pg.underlying T.ko9 = some (.slice T.kb6) := Tryz.underlying28
theorem kw1 : Pg.cellsOf T.ko9 = 1 := by kernel_rfl
theorem kup : Pg.underlying T.ku = some (.struct #[{ name := "Ids", type := T.kb6, offset := 0, embedded := false, tag := "", pkgPath := "", byteOffset := 0 }, { name := "Bins", type := T.kb6, offset := 1, embedded := false, tag := "", pkgPath := "", byteOffset := 24 }, { name := "Cols", type := T.ko9, offset := 2, embedded := false, tag := "", pkgPath := "", byteOffset := 48 }]) := Tryz.underlying30
theorem k9t : Pg.cellsOf T.ku = 3 := by kernel_rfl
theorem ktt : Pg.underlying T.kn = some (.struct #[{ name := "N", type := T.int, offset := 0, embedded := false, tag := "", pkgPath := "", byteOffset := 0 }, { name := "W", type := T.kmf, offset := 1, embedded := false, tag := "", pkgPath := "", byteOffset := 8 }]) := Tryz.underlying32
theorem kbbd : Pg.cellsOf T.kn = 2 := by kernel_rfl
theorem ksk : Pg.underlying T.ke = some (.int .u64) := Tryz.underlying47
theorem khq : Pg.cellsOf T.ke = 1 := by kernel_rfl
theorem kwv : kcc Pg T.ke = some [.int .u64 0] := by kernel_rfl
theorem kdb : Pg.bytesOf T.ke = 8 := by kernel_rfl
theorem k4m : Pg.cellsOf T.kbs = 2 := by kernel_rfl
theorem k6w : kcc Pg T.kbs = some [.int .i64 0, .int .i64 0] := by kernel_rfl
theorem k6m : Pg.bytesOf T.kbs = 16 := by kernel_rfl
theorem k6z : Pg.cellsOf T.kcw = 2 := by kernel_rfl
theorem k8z : kcc Pg T.kcw = some [.int .i64 0, .int .i64 0] := by kernel_rfl
theorem k4f : Pg.bytesOf T.kcw = 16 := by kernel_rfl
noncomputable def Td.kj3 : List Item := todoAt Tryz.f6 3
noncomputable def Td.kmd : List Item := todoAt Tryz.f6 8
noncomputable def Td.kmo : List Item := todoAt Tryz.f6 15
noncomputable def Td.km3 : List Item := todoAt Tryz.f7 14
noncomputable def Td.kj7 : List Item := todoAt Tryz.f8 8
noncomputable def Td.kid : List Item := todoAt Tryz.f8 18
noncomputable def Td.ki6 : List Item := todoAt Tryz.f8 22
noncomputable def Td.km2 : List Item := todoAt Tryz.f9 4
noncomputable def Td.kl1 : List Item := todoAt Tryz.f12 4
noncomputable def Td.km6 : List Item := todoAt Tryz.f13 11
noncomputable def Td.kil : List Item := todoAt Tryz.f24 4
noncomputable def Td.kjo : List Item := todoAt Tryz.f25 4
noncomputable def Td.kma : List Item := todoAt Tryz.f25 7
noncomputable def Td.kmy : List Item := todoAt Tryz.f37 4
noncomputable def Td.kev : List Item := todoAt Tryz.f39 2
noncomputable def Td.kie : List Item := todoAt Tryz.f44 1
noncomputable def Td.kib : List Item := todoAt Tryz.f44 4
noncomputable def Td.kip : List Item := todoAt Tryz.f45 7
noncomputable def Td.klv : List Item := todoAt Tryz.f49 6
noncomputable def Td.kjq : List Item := todoAt Tryz.f50 5
noncomputable def Td.kla : List Item := todoAt Tryz.f50 10
noncomputable def Td.km4 : List Item := todoAt Tryz.f51 4
noncomputable def Td.kj6 : List Item := todoAt Tryz.f53 3
noncomputable def Td.kby : List Item := todoAt Tryz.f73 2
noncomputable def Td.kmn : List Item := todoAt Tryz.f77 4
noncomputable def Td.klx : List Item := todoAt Tryz.f78 6
noncomputable def Td.kki : List Item := todoAt Tryz.f80 4
noncomputable def Td.klr : List Item := todoAt Tryz.f82 6
noncomputable def Td.kkv : List Item := todoAt Tryz.f82 10
noncomputable def Td.khg : List Item := todoAt Tryz.f82 18
noncomputable def Td.kmh : List Item := todoAt Tryz.f83 5
noncomputable def Td.kk8 : List Item := todoAt Tryz.f84 5
noncomputable def Td.klm : List Item := todoAt Tryz.f88 4
noncomputable def Td.kj2 : List Item := todoAt Tryz.f89 7
noncomputable def Td.kle : List Item := todoAt Tryz.f91 3
noncomputable def Td.klk : List Item := todoAt Tryz.f91 7
noncomputable def Td.kia : List Item := todoAt Tryz.f92 3
noncomputable def Td.kly : List Item := todoAt Tryz.f92 7
noncomputable def Td.kh3 : List Item := todoAt Tryz.f94 2
noncomputable def Td.klo : List Item := todoAt Tryz.f96 3
noncomputable def Td.kkr : List Item := todoAt Tryz.f96 7
noncomputable def Td.keu : List Item := todoAt Tryz.f99 6
noncomputable def Td.khm : List Item := todoAt Tryz.f100 4
noncomputable def Td.kfn : List Item := todoAt Tryz.f101 2
noncomputable def Td.km5 : List Item := todoAt Tryz.f107 6
noncomputable def Td.kls : List Item := todoAt Tryz.f108 4
noncomputable def Td.kig : List Item := todoAt Tryz.f108 9
noncomputable def Td.kg9 : List Item := todoAt Tryz.f109 3
noncomputable def Td.kh0 : List Item := todoAt Tryz.f109 7
noncomputable def Td.klf : List Item := todoAt Tryz.f116 3
noncomputable def Td.koo : List Item := todoAt Tryz.f117 3
noncomputable def Td.kjp : List Item := todoAt Tryz.f117 17
noncomputable def Td.kfy : List Item := todoAt Tryz.f117 24
noncomputable def Td.kiu : List Item := todoAt Tryz.f119 3
noncomputable def Td.kju : List Item := todoAt Tryz.f120 4
noncomputable def Td.kik : List Item := todoAt Tryz.f124 1
noncomputable def Td.kk9 : List Item := todoAt Tryz.f124 3
noncomputable def Td.kj4 : List Item := todoAt Tryz.f126 2
noncomputable def Td.kl4 : List Item := todoAt Tryz.f127 2
noncomputable def Td.kjz : List Item := todoAt Tryz.f134 4
noncomputable def Fx.kom : Func := Tryz.f7
noncomputable def Tr.kwi : List Item := kos Tryz.f7 0 (.tmp 36)
noncomputable def Ta.kqu : List Item := (loopAt Tryz.f7 0).2.2.2
noncomputable def Fx.ko8 : Func := Tryz.f13
noncomputable def Tr.kum : List Item := kos Tryz.f13 0 (.tmp 27)
noncomputable def Ta.krl : List Item := (loopAt Tryz.f13 0).2.2.2
noncomputable def Fx.kn8 : Func := Tryz.f123
noncomputable def Tr.kvi : List Item := kos Tryz.f123 0 (.tmp 6)
noncomputable def Ta.kq7 : List Item := (loopAt Tryz.f123 0).2.2.2
def lit1 : ByteArray := (⟨((List.append (List.append ([0, 1, 2, 2, 3, 3, 3, 3, 4, 4, 4, 4, 4, 4, 4, 4, 5, 5, 5, 5, 5, 5, 5, 5, 5, 5, 5, 5, 5, 5, 5, 5, 6, 6, 6, 6, 6, 6, 6, 6, 6, 6, 6, 6, 6, 6, 6, 6, 6, 6, 6, 6, 6, 6, 6, 6, 6, 6, 6, 6, 6, 6, 6, 6] : List UInt8) ([7, 7, 7, 7, 7, 7, 7, 7, 7, 7, 7, 7, 7, 7, 7, 7, 7, 7, 7, 7, 7, 7, 7, 7, 7, 7, 7, 7, 7, 7, 7, 7, 7, 7, 7, 7, 7, 7, 7, 7, 7, 7, 7, 7, 7, 7, 7, 7, 7, 7, 7, 7, 7, 7, 7, 7, 7, 7, 7, 7, 7, 7, 7, 7] : List UInt8)) (List.append ([8, 8, 8, 8, 8, 8, 8, 8, 8, 8, 8, 8, 8, 8, 8, 8, 8, 8, 8, 8, 8, 8, 8, 8, 8, 8, 8, 8, 8, 8, 8, 8, 8, 8, 8, 8, 8, 8, 8, 8, 8, 8, 8, 8, 8, 8, 8, 8, 8, 8, 8, 8, 8, 8, 8, 8, 8, 8, 8, 8, 8, 8, 8, 8] : List UInt8) ([8, 8, 8, 8, 8, 8, 8, 8, 8, 8, 8, 8, 8, 8, 8, 8, 8, 8, 8, 8, 8, 8, 8, 8, 8, 8, 8, 8, 8, 8, 8, 8, 8, 8, 8, 8, 8, 8, 8, 8, 8, 8, 8, 8, 8, 8, 8, 8, 8, 8, 8, 8, 8, 8, 8, 8, 8, 8, 8, 8, 8, 8, 8, 8] : List UInt8)))).toArray⟩ : ByteArray)
theorem kqp (args : List AV) (h : AH) : callF Pg go F.kbh args h = go (.fn F.kbh args) h := by kernel_rfl
theorem k0o (args : List AV) (h : AH) : callF Pg go F.kbo args h = go (.fn F.kbo args) h := by kernel_rfl
theorem k94 (args : List AV) (h : AH) : callF Pg go F.kdm args h = go (.fn F.kdm args) h := by kernel_rfl
theorem k7d (a1 : Sl) (a2 : Sl) (a3 : Sl) (a4 : Sl) (a5 : Sl) (a6 : Int) (a7 : Sl) (h : AH) : go (.fn F.knj [.agg [a1.v, a2.v], .agg [a3.v, a4.v, a5.v], .agg [.int .i64 a6, a7.v]]) h =
 newK h (.cells [a1.v, a2.v] T.ki8) fun h8r h8 =>
 newK h8 (.cells [a3.v, a4.v, a5.v] T.ku) fun h9r h9 =>
 newK h9 (.cells [.int .i64 a6, a7.v] T.kn) fun h10r h10 =>
 (go (.fn F.kng []) h10).bind fun q11 =>
 ((some q11.1).bind AV.asBool).bind fun b12 =>
 ((q11.2.cell (h9r.add 0)).bind AV.asSl).bind fun l13 =>
 ((q11.2.cell (h9r.add 1)).bind AV.asSl).bind fun l14 =>
 ((q11.2.cell (h9r.add 2)).bind AV.asSl).bind fun l15 =>
 ((q11.2.cell (h10r.add 0)).bind (AV.asInt .i64)).bind fun n16 =>
 ((q11.2.cell (h10r.add 1)).bind AV.asSl).bind fun l17 =>
 ((q11.2.cell (h8r.add 1)).bind AV.asSl).bind fun l18 =>
 (go (.fn F.kb5 [.agg [l13.v, l14.v, l15.v], .agg [.int .i64 n16, l17.v], l18.v]) q11.2).bind fun q19 =>
 ((some q19.1).bind AV.asBool).bind fun b20 =>
 cond (!b20) (
 some (.bool b12, q19.2)) (
 ((q19.2.cell (h8r.add 0)).bind AV.asSl).bind fun l21 =>
 cond (decide ((l21.len : Int) > 20)) (
 some (.bool b12, q19.2)) (
 ((q19.2.cell (h8r.add 0)).bind AV.asSl).bind fun l22 =>
 ((q19.2.cell (h9r.add 0)).bind AV.asSl).bind fun l23 =>
 ((q19.2.cell (h9r.add 1)).bind AV.asSl).bind fun l24 =>
 ((q19.2.cell (h9r.add 2)).bind AV.asSl).bind fun l25 =>
 ((q19.2.cell (h10r.add 0)).bind (AV.asInt .i64)).bind fun n26 =>
 ((q19.2.cell (h10r.add 1)).bind AV.asSl).bind fun l27 =>
 ((q19.2.cell (h8r.add 1)).bind AV.asSl).bind fun l28 =>
 (go (.fn F.kcg [l22.v, .agg [l23.v, l24.v, l25.v], .agg [.int .i64 n26, l27.v], l28.v]) q19.2).bind fun q29 =>
 (AV.asTup2 q29.1).bind fun p30 =>
 ((some p30.1).bind AV.asSl).bind fun l31 =>
 ((some p30.2).bind (AV.asInt .i64)).bind fun n32 =>
 ((q29.2.cell (h8r.add 0)).bind AV.asSl).bind fun l33 =>
 ((q29.2.cell (h9r.add 0)).bind AV.asSl).bind fun l34 =>
 ((q29.2.cell (h9r.add 1)).bind AV.asSl).bind fun l35 =>
 ((q29.2.cell (h9r.add 2)).bind AV.asSl).bind fun l36 =>
 ((q29.2.cell (h10r.add 0)).bind (AV.asInt .i64)).bind fun n37 =>
 ((q29.2.cell (h10r.add 1)).bind AV.asSl).bind fun l38 =>
 ((q29.2.cell (h8r.add 1)).bind AV.asSl).bind fun l39 =>
 (go (.fn F.kbu [l33.v, .agg [l34.v, l35.v, l36.v], .agg [.int .i64 n37, l38.v], l39.v]) q29.2).bind fun q40 =>
 (AV.asTup2 q40.1).bind fun p41 =>
 ((some p41.1).bind AV.asSl).bind fun l42 =>
 ((some p41.2).bind (AV.asInt .i64)).bind fun n43 =>
 (go (.fn F.kf9 [l31.v, l42.v]) q40.2).bind fun q44 =>
 ((some q44.1).bind AV.asBool).bind fun b45 =>
 cond b12 (
 cond b45 (
 some (.bool (decide (n32 = n43)), q44.2)) (
 some (.bool false, q44.2))) (
 some (.bool false, q44.2)))) := (kb _ h).trans (by kernel_rfl)
theorem kxy (a1 : Nat) (a2 : Ref) (a3 : Ref) (h : AH) : go (.fn F.kbh [.func (.yield a1) [] [], .ptr (some a2), .ptr (some a3)]) h =
 ((h.cell (a2.add 1)).bind AV.asSl).bind fun l4 =>
 go (.pt F.kbh Td.kie [(0, .func (.yield a1) [] []), (1, .ptr (some a2)), (2, .ptr (some a3)), (10, l4.v), (11, .int .i64 (l4.len : Int)), (12, .int .i64 0)]) h := (kb _ h).trans (by kernel_rfl)
theorem k6n (a1 : Nat) (a2 : Ref) (h : AH) : go (.fn F.kbo [.func (.yield a1) [] [], .ptr (some a2)]) h =
 ((h.cell (a2.add 1)).bind AV.asSl).bind fun l3 =>
 go (.pt F.kbo Td.kik [(0, .func (.yield a1) [] []), (6, l3.v), (7, .int .i64 (l3.len : Int)), (8, .int .i64 0)]) h := (kb _ h).trans (by kernel_rfl)
theorem k2v (a1 : Sl) (a2 : Sl) (a3 : Ref) (h : AH) : go (.fn F.kdm [a1.v, a2.v, .ptr (some a3)]) h =
 (go (.fn F.ki1 [a1.v, a2.v]) h).bind fun q4 =>
 (AV.asTup2 q4.1).bind fun p5 =>
 ((some p5.1).bind AV.asSl).bind fun l6 =>
 ((some p5.2).bind (AV.asInt .i64)).bind fun n7 =>
 ((q4.2.cell a3).bind AV.asSl).bind fun l8 =>
 (go (.fn F.kjl [l6.v, l8.v]) q4.2).bind fun q9 =>
 (AV.asTup3 q9.1).bind fun p10 =>
 ((some p10.1).bind AV.asSl).bind fun l11 =>
 ((some p10.2.1).bind AV.asSl).bind fun l12 =>
 ((some p10.2.2).bind (AV.asInt .i64)).bind fun n13 =>
 some (l12.v, q9.2) := (kb _ h).trans (by kernel_rfl)
theorem k2n (a1 : Sl) (a2 : Sl) (a3 : Ref) (h : AH) : go (.fn F.kjt [a1.v, a2.v, .ptr (some a3)]) h =
 cond (decide ((a1.len : Int) < 24)) (
 (go (.fn F.kcd [a1.v, a2.v]) h).bind fun q4 =>
 ((some q4.1).bind AV.asSl).bind fun l5 =>
 some (l5.v, q4.2)) (
 cond (decide ((a2.len : Int) < 24)) (
 (go (.fn F.kcd [a1.v, a2.v]) h).bind fun q6 =>
 ((some q6.1).bind AV.asSl).bind fun l7 =>
 some (l7.v, q6.2)) (
 newK h (.cells [.int .i64 0] T.int) fun h8r h8 =>
 (h8.puts h8r [.int .i64 (IntKind.wrap .i64 (Int.tdiv (IntKind.wrap .i64 ((imax (a1.len : Int) (a2.len : Int)) + 1)) 2))]).bind fun h9 =>
 (h9.cell a3).bind fun v10 =>
 (h9.cell a3).bind fun v11 =>
 (go (.fn F.kgx [a1.v, .ptr (some h8r)]) h9).bind fun q12 =>
 ((some q12.1).bind AV.asSl).bind fun l13 =>
 whenK (SameAt h9 q12.2 a3 1) (
 whenK (SameAt h9 q12.2 a3 1) (
 (go (.fn F.kgx [a2.v, .ptr (some h8r)]) q12.2).bind fun q14 =>
 ((some q14.1).bind AV.asSl).bind fun l15 =>
 whenK (SameAt q12.2 q14.2 a3 1) (
 whenK (SameAt q12.2 q14.2 a3 1) (
 (callV Pg go v10 [l13.v, l15.v] q14.2).bind fun q16 =>
 ((some q16.1).bind AV.asSl).bind fun l17 =>
 whenK (SameAt q14.2 q16.2 a3 1) (
 (go (.fn F.kgy [a1.v, .ptr (some h8r)]) q16.2).bind fun q18 =>
 ((some q18.1).bind AV.asSl).bind fun l19 =>
 whenK (SameAt q16.2 q18.2 a3 1) (
 (go (.fn F.kgy [a2.v, .ptr (some h8r)]) q18.2).bind fun q20 =>
 ((some q20.1).bind AV.asSl).bind fun l21 =>
 whenK (SameAt q18.2 q20.2 a3 1) (
 (callV Pg go v11 [l19.v, l21.v] q20.2).bind fun q22 =>
 ((some q22.1).bind AV.asSl).bind fun l23 =>
 (q22.2.cell a3).bind fun v24 =>
 (go (.fn F.kgx [a1.v, .ptr (some h8r)]) q22.2).bind fun q25 =>
 ((some q25.1).bind AV.asSl).bind fun l26 =>
 whenK (SameAt q22.2 q25.2 a3 1) (
 (go (.fn F.kgy [a1.v, .ptr (some h8r)]) q25.2).bind fun q27 =>
 ((some q27.1).bind AV.asSl).bind fun l28 =>
 whenK (SameAt q25.2 q27.2 a3 1) (
 (go (.fn F.kc1 [l26.v, l28.v]) q27.2).bind fun q29 =>
 ((some q29.1).bind AV.asSl).bind fun l30 =>
 whenK (SameAt q27.2 q29.2 a3 1) (
 (go (.fn F.kba [l30.v]) q29.2).bind fun q31 =>
 ((some q31.1).bind AV.asSl).bind fun l32 =>
 whenK (SameAt q29.2 q31.2 a3 1) (
 (go (.fn F.kgx [a2.v, .ptr (some h8r)]) q31.2).bind fun q33 =>
 ((some q33.1).bind AV.asSl).bind fun l34 =>
 whenK (SameAt q31.2 q33.2 a3 1) (
 (go (.fn F.kgy [a2.v, .ptr (some h8r)]) q33.2).bind fun q35 =>
 ((some q35.1).bind AV.asSl).bind fun l36 =>
 whenK (SameAt q33.2 q35.2 a3 1) (
 (go (.fn F.kc1 [l34.v, l36.v]) q35.2).bind fun q37 =>
 ((some q37.1).bind AV.asSl).bind fun l38 =>
 whenK (SameAt q35.2 q37.2 a3 1) (
 (go (.fn F.kba [l38.v]) q37.2).bind fun q39 =>
 ((some q39.1).bind AV.asSl).bind fun l40 =>
 whenK (SameAt q37.2 q39.2 a3 1) (
 (callV Pg go v24 [l32.v, l40.v] q39.2).bind fun q41 =>
 ((some q41.1).bind AV.asSl).bind fun l42 =>
 (go (.fn F.kco [l42.v, l17.v]) q41.2).bind fun q43 =>
 ((some q43.1).bind AV.asSl).bind fun l44 =>
 (go (.fn F.kba [l44.v]) q43.2).bind fun q45 =>
 ((some q45.1).bind AV.asSl).bind fun l46 =>
 (go (.fn F.kco [l46.v, l23.v]) q45.2).bind fun q47 =>
 ((some q47.1).bind AV.asSl).bind fun l48 =>
 (go (.fn F.kba [l48.v]) q47.2).bind fun q49 =>
 ((some q49.1).bind AV.asSl).bind fun l50 =>
 (kbl (IntKind.wrap .i64 ((IntKind.wrap .i64 ((a1.len : Int) + (a2.len : Int))) + 1)) (IntKind.wrap .i64 ((IntKind.wrap .i64 ((a1.len : Int) + (a2.len : Int))) + 1)) T.ke (Pg.bytesOf T.ke) [.int .u64 0] q49.2).bind fun q51 =>
 (copyH l17 q51.1 1 q51.2).bind fun h52 =>
 ((h52.cell h8r).bind (AV.asInt .i64)).bind fun n53 =>
 (go (.fn F.kcz [q51.1.v, l50.v, .int .i64 n53]) h52).bind fun q54 =>
 (AV.asTup0 q54.1).bind fun _ =>
 ((q54.2.cell h8r).bind (AV.asInt .i64)).bind fun n55 =>
 (go (.fn F.kcz [q51.1.v, l23.v, .int .i64 (IntKind.wrap .i64 (2 * n55))]) q54.2).bind fun q56 =>
 (AV.asTup0 q56.1).bind fun _ =>
 (go (.fn F.kba [q51.1.v]) q56.2).bind fun q57 =>
 ((some q57.1).bind AV.asSl).bind fun l58 =>
 some (l58.v, q57.2)))))))))))))))))) := (kb _ h).trans (by kernel_rfl)
theorem k6c  (h : AH) : go (.fn F.kng []) h =
 newK h (.cells [.int .i64 0, .int .i64 1, .int .i64 2] T.int) fun h1r h1 =>
 newK h1 (.cells [.int .i64 2] T.int) fun h2r h2 =>
 newK h2 (.cells [.int .i64 0, .int .i64 1, .int .i64 1] T.int) fun h3r h3 =>
 newK h3 (.cells [(⟨some h3r, 3, .is 3⟩ : Sl).v] T.kb6) fun h4r h4 =>
 newK h4 (.cells [(⟨none, 0, .is 0⟩ : Sl).v, (⟨none, 0, .is 0⟩ : Sl).v, (⟨none, 0, .is 0⟩ : Sl).v] T.ku) fun h5r h5 =>
 (h5.puts h5r [(⟨some h1r, 3, .is 3⟩ : Sl).v, (⟨some h2r, 1, .is 1⟩ : Sl).v, (⟨some h4r, 1, .is 1⟩ : Sl).v]).bind fun h6 =>
 ((h6.cell (h5r.add 0)).bind AV.asSl).bind fun l7 =>
 ((h6.cell (h5r.add 1)).bind AV.asSl).bind fun l8 =>
 ((h6.cell (h5r.add 2)).bind AV.asSl).bind fun l9 =>
 newK h6 (.cells [.int .u64 3] T.ke) fun h10r h10 =>
 newK h10 (.cells [.int .i64 5, .int .i64 6, .int .i64 7] T.int) fun h11r h11 =>
 (go (.fn F.kca [.agg [l7.v, l8.v, l9.v], .agg [.int .i64 3, (⟨some h10r, 1, .is 1⟩ : Sl).v], (⟨some h11r, 3, .is 3⟩ : Sl).v]) h11).bind fun q12 =>
 (AV.asTup2 q12.1).bind fun p13 =>
 ((some p13.1).bind AV.asSl).bind fun l14 =>
 ((some p13.2).bind (AV.asInt .i64)).bind fun n15 =>
 cond (decide (n15 = 0)) (
 cond (decide ((l14.len : Int) = 1)) (
 (idx l14.ref l14.len 0 2).bind fun r16 =>
 ((q12.2.cell (r16.add 0)).bind (AV.asInt .i64)).bind fun n17 =>
 ((q12.2.cell (r16.add 1)).bind (AV.asInt .i64)).bind fun n18 =>
 some (.bool ((decide (n17 = 5)) && ((decide (n18 = 1)) && true)), q12.2)) (
 some (.bool false, q12.2))) (
 some (.bool false, q12.2)) := (kb _ h).trans (by kernel_rfl)
theorem k6g (a1 : Sl) (a2 : Sl) (h : AH) : go (.fn F.kf0 [a1.v, a2.v]) h =
 cond (!decide ((a1.len : Int) = (a2.len : Int))) (
 some (.bool false, h)) (
 go (.pt F.kf0 Td.kl1 [(0, a1.v), (1, a2.v), (5, .int .i64 0)]) h) := (kb _ h).trans (by kernel_rfl)
theorem k2t (a1 : Sl) (a2 : Sl) (a3 : Sl) (a4 : Int) (a5 : Sl) (a6 : Sl) (h : AH) : go (.fn F.kb5 [.agg [a1.v, a2.v, a3.v], .agg [.int .i64 a4, a5.v], a6.v]) h =
 newK h (.cells [a1.v, a2.v, a3.v] T.ku) fun h7r h7 =>
 newK h7 (.cells [.int .i64 a4, a5.v] T.kn) fun h8r h8 =>
 go (.pt F.kb5 Td.kj3 [(2, a6.v), (3, .ptr (some h7r)), (4, .ptr (some h8r)), (7, .int .i64 0), (8, .int .i64 0)]) h8 := (kb _ h).trans (by kernel_rfl)
theorem k35 (a1 : Sl) (a2 : Sl) (a3 : Sl) (a4 : Sl) (a5 : Int) (a6 : Sl) (a7 : Sl) (h : AH) : go (.fn F.kcg [a1.v, .agg [a2.v, a3.v, a4.v], .agg [.int .i64 a5, a6.v], a7.v]) h =
 newK h (.cells [a1.v] T.kp) fun h8r h8 =>
 newK h8 (.cells [a2.v, a3.v, a4.v] T.ku) fun h9r h9 =>
 newK h9 (.cells [.int .i64 a5, a6.v] T.kn) fun h10r h10 =>
 newK h10 (.cells [a7.v] T.kci) fun h11r h11 =>
 ((h11.cell h8r).bind AV.asSl).bind fun l12 =>
 (go (.fn F.kli [l12.v]) h11).bind fun q13 =>
 ((some q13.1).bind AV.asBool).bind fun b14 =>
 cond (!b14) (
 some (.tup [(⟨none, 0, .is 0⟩ : Sl).v, .int .i64 1], q13.2)) (
 ((q13.2.cell (h9r.add 0)).bind AV.asSl).bind fun l15 =>
 ((q13.2.cell (h9r.add 1)).bind AV.asSl).bind fun l16 =>
 ((q13.2.cell (h9r.add 2)).bind AV.asSl).bind fun l17 =>
 ((q13.2.cell (h10r.add 0)).bind (AV.asInt .i64)).bind fun n18 =>
 ((q13.2.cell (h10r.add 1)).bind AV.asSl).bind fun l19 =>
 ((q13.2.cell h11r).bind AV.asSl).bind fun l20 =>
 (go (.fn F.klw [.agg [l15.v, l16.v, l17.v], .agg [.int .i64 n18, l19.v], .int .i64 (l20.len : Int)]) q13.2).bind fun q21 =>
 ((some q21.1).bind (AV.asInt .i64)).bind fun n22 =>
 cond (!decide (n22 = 0)) (
 some (.tup [(⟨none, 0, .is 0⟩ : Sl).v, .int .i64 n22], q21.2)) (
 ((q21.2.cell h11r).bind AV.asSl).bind fun l23 =>
 (go (.fn F.kix [l23.v, .func (.func F.kbm) [] [.ptr (some h8r)]]) q21.2).bind fun q24 =>
 ((some q24.1).bind AV.asBool).bind fun b25 =>
 cond b25 (
 some (.tup [(⟨none, 0, .is 0⟩ : Sl).v, .int .i64 11], q24.2)) (
 ((q24.2.cell h8r).bind AV.asSl).bind fun l26 =>
 (go (.fn F.kpn [l26.v]) q24.2).bind fun q27 =>
 newK q27.2 (.cells [.nilFunc] T.kwe) fun h28r h28 =>
 cond (AV.one q27.1) (
 (h28.puts h28r [q27.1]).bind fun h29 =>
 newK h29 (.cells [(⟨none, 0, .is 0⟩ : Sl).v] T.kci) fun h30r h30 =>
 ((h30.cell (h9r.add 0)).bind AV.asSl).bind fun l31 =>
 ((h30.cell (h9r.add 1)).bind AV.asSl).bind fun l32 =>
 ((h30.cell (h9r.add 2)).bind AV.asSl).bind fun l33 =>
 ((h30.cell (h10r.add 0)).bind (AV.asInt .i64)).bind fun n34 =>
 ((h30.cell (h10r.add 1)).bind AV.asSl).bind fun l35 =>
 (go (.fn F.kjj [.agg [l31.v, l32.v, l33.v], .agg [.int .i64 n34, l35.v]]) h30).bind fun q36 =>
 go (.pt F.kcg Tr.kwi [(0, a1.v), (1, .agg [a2.v, a3.v, a4.v]), (2, .agg [.int .i64 a5, a6.v]), (3, a7.v), (4, .ptr (some h8r)), (5, .ptr (some h9r)), (6, .ptr (some h10r)), (7, .ptr (some h11r)), (8, (⟨none, 0, .is 0⟩ : Sl).v), (9, .int .i64 0), (10, .int .i64 n22), (11, .ptr (some h28r)), (12, .ptr (some h30r)), (18, l12.v), (19, .bool b14), (20, .bool false), (21, .agg [l15.v, l16.v, l17.v]), (22, .agg [.int .i64 n18, l19.v]), (23, l20.v), (24, .int .i64 (l20.len : Int)), (25, .int .i64 n22), (26, .int .i64 n22), (27, .bool false), (29, l23.v), (30, .func (.func F.kbm) [] [.ptr (some h8r)]), (31, .bool false), (32, l26.v), (33, q27.1), (34, .agg [l31.v, l32.v, l33.v]), (35, .agg [.int .i64 n34, l35.v]), (36, q36.1)]) q36.2) none))) := (kb _ h).trans (by kernel_rfl)
theorem k8a (a1 : Sl) (a2 : Sl) (a3 : Sl) (a4 : Sl) (a5 : Int) (a6 : Sl) (a7 : Sl) (h : AH) : go (.fn F.kbu [a1.v, .agg [a2.v, a3.v, a4.v], .agg [.int .i64 a5, a6.v], a7.v]) h =
 newK h (.cells [a2.v, a3.v, a4.v] T.ku) fun h8r h8 =>
 newK h8 (.cells [.int .i64 a5, a6.v] T.kn) fun h9r h9 =>
 (go (.fn F.khc [a1.v]) h9).bind fun q10 =>
 ((some q10.1).bind AV.asBool).bind fun b11 =>
 cond (!b11) (
 some (.tup [(⟨none, 0, .is 0⟩ : Sl).v, .int .i64 1], q10.2)) (
 ((q10.2.cell (h8r.add 0)).bind AV.asSl).bind fun l12 =>
 ((q10.2.cell (h8r.add 1)).bind AV.asSl).bind fun l13 =>
 ((q10.2.cell (h8r.add 2)).bind AV.asSl).bind fun l14 =>
 ((q10.2.cell (h9r.add 0)).bind (AV.asInt .i64)).bind fun n15 =>
 ((q10.2.cell (h9r.add 1)).bind AV.asSl).bind fun l16 =>
 (go (.fn F.koa [.agg [l12.v, l13.v, l14.v], .agg [.int .i64 n15, l16.v], .int .i64 (a7.len : Int)]) q10.2).bind fun q17 =>
 ((some q17.1).bind (AV.asInt .i64)).bind fun n18 =>
 cond (!decide (n18 = 0)) (
 some (.tup [(⟨none, 0, .is 0⟩ : Sl).v, .int .i64 n18], q17.2)) (
 go (.pt F.kbu Td.kj7 [(0, a1.v), (3, a7.v), (5, .ptr (some h8r)), (6, .ptr (some h9r)), (12, .int .i64 0)]) q17.2)) := (kb _ h).trans (by kernel_rfl)
theorem kzu (a1 : Sl) (a2 : Sl) (h : AH) : go (.fn F.kf9 [a1.v, a2.v]) h =
 cond (!decide ((a1.len : Int) = (a2.len : Int))) (
 some (.bool false, h)) (
 go (.pt F.kf9 Td.km2 [(0, a1.v), (1, a2.v), (5, .int .i64 0)]) h) := (kb _ h).trans (by kernel_rfl)
theorem kte (a1 : Nat) (a2 : Ref) (a3 : Ref) (a4 : Sl) (a5 : Int) (a6 : Int) (h : AH) : go (.pt F.kbh Td.kie [(0, .func (.yield a1) [] []), (1, .ptr (some a2)), (2, .ptr (some a3)), (10, a4.v), (11, .int .i64 a5), (12, .int .i64 a6)]) h =
 cond (decide (a6 < a5)) (
 (idx a4.ref a4.len a6 1).bind fun r7 =>
 ((h.cell r7).bind (AV.asInt .i64)).bind fun n8 =>
 go (.pt F.kbh Td.kib [(0, .func (.yield a1) [] []), (1, .ptr (some a2)), (2, .ptr (some a3)), (4, .int .i64 a6), (10, a4.v), (11, .int .i64 a5), (12, .int .i64 a6), (18, .int .i64 (IntKind.wrap .i64 (n8 - 1))), (19, .int .i64 0)]) h) (
 some (.tup [], h)) := (kb _ h).trans (by kernel_rfl)
theorem kwc (a1 : Nat) (a2 : Sl) (a3 : Int) (a4 : Int) (h : AH) : go (.pt F.kbo Td.kik [(0, .func (.yield a1) [] []), (6, a2.v), (7, .int .i64 a3), (8, .int .i64 a4)]) h =
 cond (decide (a4 < a3)) (
 (idx a2.ref a2.len a4 1).bind fun r5 =>
 ((h.cell r5).bind (AV.asInt .u64)).bind fun n6 =>
 go (.pt F.kbo Td.kk9 [(0, .func (.yield a1) [] []), (3, .int .i64 a4), (4, .int .u64 n6), (6, a2.v), (7, .int .i64 a3), (8, .int .i64 a4)]) h) (
 some (.tup [], h)) := (kb _ h).trans (by kernel_rfl)
theorem kw7 (a1 : Sl) (a2 : Sl) (h : AH) : go (.fn F.ki1 [a1.v, a2.v]) h =
 newK h (.cells [a1.v, a2.v] T.kp) fun h3r h3 =>
 (go (.fn F.khp [(⟨some h3r, 2, .is 2⟩ : Sl).v]) h3).bind fun q4 =>
 ((some q4.1).bind AV.asBool).bind fun b5 =>
 cond (!b5) (
 some (.tup [(⟨none, 0, .is 0⟩ : Sl).v, .int .i64 1], q4.2)) (
 (go (.fn F.kks [a1.v, a2.v]) q4.2).bind fun q6 =>
 ((some q6.1).bind AV.asSl).bind fun l7 =>
 (go (.fn F.kph [l7.v]) q6.2).bind fun q8 =>
 (AV.asTup2 q8.1).bind fun p9 =>
 ((some p9.1).bind AV.asSl).bind fun l10 =>
 ((some p9.2).bind (AV.asInt .i64)).bind fun n11 =>
 some (.tup [l10.v, .int .i64 n11], q8.2)) := (kb _ h).trans (by kernel_rfl)
theorem k5x (a1 : Sl) (a2 : Sl) (h : AH) : go (.fn F.kjl [a1.v, a2.v]) h =
 newK h (.cells [a1.v, a2.v] T.kp) fun h3r h3 =>
 (go (.fn F.khp [(⟨some h3r, 2, .is 2⟩ : Sl).v]) h3).bind fun q4 =>
 ((some q4.1).bind AV.asBool).bind fun b5 =>
 cond (!b5) (
 some (.tup [(⟨none, 0, .is 0⟩ : Sl).v, (⟨none, 0, .is 0⟩ : Sl).v, .int .i64 1], q4.2)) (
 cond (decide ((a2.len : Int) = 0)) (
 some (.tup [(⟨none, 0, .is 0⟩ : Sl).v, (⟨none, 0, .is 0⟩ : Sl).v, .int .i64 3], q4.2)) (
 (go (.fn F.keq [a1.v, a2.v]) q4.2).bind fun q6 =>
 ((some q6.1).bind (AV.asInt .i64)).bind fun n7 =>
 cond (decide (n7 < 0)) (
 (go (.fn F.khv [a1.v]) q6.2).bind fun q8 =>
 ((some q8.1).bind AV.asSl).bind fun l9 =>
 some (.tup [(⟨none, 0, .is 0⟩ : Sl).v, l9.v, .int .i64 0], q8.2)) (
 cond (decide ((a2.len : Int) = 1)) (
 (idx a2.ref a2.len 0 1).bind fun r10 =>
 ((q6.2.cell r10).bind (AV.asInt .u64)).bind fun n11 =>
 (go (.fn F.kd7 [a1.v, .int .u64 n11]) q6.2).bind fun q12 =>
 (AV.asTup2 q12.1).bind fun p13 =>
 ((some p13.1).bind AV.asSl).bind fun l14 =>
 ((some p13.2).bind (AV.asInt .u64)).bind fun n15 =>
 (go (.fn F.kit [.int .u64 n15]) q12.2).bind fun q16 =>
 ((some q16.1).bind AV.asSl).bind fun l17 =>
 some (.tup [l14.v, l17.v, .int .i64 0], q16.2)) (
 (go (.fn F.kbp [a1.v, a2.v]) q6.2).bind fun q18 =>
 (AV.asTup2 q18.1).bind fun p19 =>
 ((some p19.1).bind AV.asSl).bind fun l20 =>
 ((some p19.2).bind AV.asSl).bind fun l21 =>
 some (.tup [l20.v, l21.v, .int .i64 0], q18.2))))) := (kb _ h).trans (by kernel_rfl)
theorem kyp (a1 : Sl) (a2 : Sl) (h : AH) : go (.fn F.kcd [a1.v, a2.v]) h =
 (kbl (IntKind.wrap .i64 ((a1.len : Int) + (a2.len : Int))) (IntKind.wrap .i64 ((a1.len : Int) + (a2.len : Int))) T.ke (Pg.bytesOf T.ke) [.int .u64 0] h).bind fun q3 =>
 go (.pt F.kcd Td.klo [(1, a2.v), (5, q3.1.v), (20, a1.v), (21, .int .i64 (a1.len : Int)), (22, .int .i64 0)]) q3.2 := (kb _ h).trans (by kernel_rfl)
theorem kbbb (a1 : Sl) (a2 : Ref) (h : AH) : go (.fn F.kgx [a1.v, .ptr (some a2)]) h =
 ((h.cell a2).bind (AV.asInt .i64)).bind fun n3 =>
 (cutSl a1 0 (imin n3 (a1.len : Int)) 1).bind fun l4 =>
 (go (.fn F.kba [l4.v]) h).bind fun q5 =>
 ((some q5.1).bind AV.asSl).bind fun l6 =>
 some (l6.v, q5.2) := (kb _ h).trans (by kernel_rfl)
theorem k8m (a1 : Sl) (a2 : Ref) (h : AH) : go (.fn F.kgy [a1.v, .ptr (some a2)]) h =
 ((h.cell a2).bind (AV.asInt .i64)).bind fun n3 =>
 (cutSl a1 (imin n3 (a1.len : Int)) (a1.len : Int) 1).bind fun l4 =>
 some (l4.v, h) := (kb _ h).trans (by kernel_rfl)
theorem k3a (a1 : Sl) (a2 : Sl) (h : AH) : go (.fn F.kc1 [a1.v, a2.v]) h =
 cond (decide ((a1.len : Int) < (a2.len : Int))) (
 (kbl (IntKind.wrap .i64 ((a2.len : Int) + 1)) (IntKind.wrap .i64 ((a2.len : Int) + 1)) T.ke (Pg.bytesOf T.ke) [.int .u64 0] h).bind fun q3 =>
 go (.pt F.kc1 Td.keu [(0, a2.v), (1, a1.v), (5, q3.1.v), (6, .int .u64 0), (21, .int .i64 (a2.len : Int)), (22, .int .i64 0)]) q3.2) (
 (kbl (IntKind.wrap .i64 ((a1.len : Int) + 1)) (IntKind.wrap .i64 ((a1.len : Int) + 1)) T.ke (Pg.bytesOf T.ke) [.int .u64 0] h).bind fun q4 =>
 go (.pt F.kc1 Td.keu [(0, a1.v), (1, a2.v), (5, q4.1.v), (6, .int .u64 0), (21, .int .i64 (a1.len : Int)), (22, .int .i64 0)]) q4.2) := (kb _ h).trans (by kernel_rfl)
theorem kop (a1 : Sl) (h : AH) : go (.fn F.kba [a1.v]) h =
 go (.pt F.kba Td.kh3 [(0, a1.v), (3, .int .i64 (a1.len : Int))]) h := (kb _ h).trans (by kernel_rfl)
theorem k2u (a1 : Sl) (a2 : Sl) (h : AH) : go (.fn F.kco [a1.v, a2.v]) h =
 (kbl (a1.len : Int) (a1.len : Int) T.ke (Pg.bytesOf T.ke) [.int .u64 0] h).bind fun q3 =>
 go (.pt F.kco Td.khm [(0, a1.v), (1, a2.v), (5, q3.1.v), (6, .int .u64 0), (13, .int .i64 (a1.len : Int)), (14, .int .i64 0)]) q3.2 := (kb _ h).trans (by kernel_rfl)
theorem k1p (a1 : Sl) (a2 : Sl) (a3 : Int) (h : AH) : go (.fn F.kcz [a1.v, a2.v, .int .i64 a3]) h =
 go (.pt F.kcz Td.kfn [(0, a1.v), (1, a2.v), (2, .int .i64 a3), (6, .int .u64 0), (7, .int .i64 a3)]) h := (kb _ h).trans (by kernel_rfl)
theorem k1x (a1 : Sl) (a2 : Sl) (a3 : Sl) (a4 : Int) (a5 : Sl) (a6 : Sl) (h : AH) : go (.fn F.kca [.agg [a1.v, a2.v, a3.v], .agg [.int .i64 a4, a5.v], a6.v]) h =
 newK h (.cells [a1.v, a2.v, a3.v] T.ku) fun h7r h7 =>
 newK h7 (.cells [.int .i64 a4, a5.v] T.kn) fun h8r h8 =>
 newK h8 (.cells [a6.v] T.kb6) fun h9r h9 =>
 ((h9.cell (h7r.add 0)).bind AV.asSl).bind fun l10 =>
 ((h9.cell (h7r.add 1)).bind AV.asSl).bind fun l11 =>
 ((h9.cell (h7r.add 2)).bind AV.asSl).bind fun l12 =>
 ((h9.cell (h8r.add 0)).bind (AV.asInt .i64)).bind fun n13 =>
 ((h9.cell (h8r.add 1)).bind AV.asSl).bind fun l14 =>
 ((h9.cell h9r).bind AV.asSl).bind fun l15 =>
 (go (.fn F.klw [.agg [l10.v, l11.v, l12.v], .agg [.int .i64 n13, l14.v], .int .i64 (l15.len : Int)]) h9).bind fun q16 =>
 ((some q16.1).bind (AV.asInt .i64)).bind fun n17 =>
 cond (!decide (n17 = 0)) (
 some (.tup [(⟨none, 0, .is 0⟩ : Sl).v, .int .i64 n17], q16.2)) (
 ((q16.2.cell h9r).bind AV.asSl).bind fun l18 =>
 (go (.fn F.kc2 [l18.v, .func (.func F.kct) [] []]) q16.2).bind fun q19 =>
 ((some q19.1).bind AV.asBool).bind fun b20 =>
 cond b20 (
 some (.tup [(⟨none, 0, .is 0⟩ : Sl).v, .int .i64 1], q19.2)) (
 newK q19.2 (.cells [(⟨none, 0, .is 0⟩ : Sl).v] T.kgr) fun h21r h21 =>
 ((h21.cell (h7r.add 0)).bind AV.asSl).bind fun l22 =>
 ((h21.cell (h7r.add 1)).bind AV.asSl).bind fun l23 =>
 ((h21.cell (h7r.add 2)).bind AV.asSl).bind fun l24 =>
 ((h21.cell (h8r.add 0)).bind (AV.asInt .i64)).bind fun n25 =>
 ((h21.cell (h8r.add 1)).bind AV.asSl).bind fun l26 =>
 (go (.fn F.kjj [.agg [l22.v, l23.v, l24.v], .agg [.int .i64 n25, l26.v]]) h21).bind fun q27 =>
 go (.pt F.kca Tr.kum [(0, .agg [a1.v, a2.v, a3.v]), (1, .agg [.int .i64 a4, a5.v]), (2, a6.v), (3, .ptr (some h7r)), (4, .ptr (some h8r)), (5, .ptr (some h9r)), (6, (⟨none, 0, .is 0⟩ : Sl).v), (7, .int .i64 0), (8, .int .i64 n17), (9, .ptr (some h21r)), (15, .agg [l10.v, l11.v, l12.v]), (16, .agg [.int .i64 n13, l14.v]), (17, l15.v), (18, .int .i64 (l15.len : Int)), (19, .int .i64 n17), (20, .int .i64 n17), (21, .bool false), (23, l18.v), (24, .bool false), (25, .agg [l22.v, l23.v, l24.v]), (26, .agg [.int .i64 n25, l26.v]), (27, q27.1)]) q27.2)) := (kb _ h).trans (by kernel_rfl)
theorem k4z (a1 : Sl) (h : AH) : go (.fn F.kli [a1.v]) h =
 (go (.fn F.ki4 [a1.v]) h).bind fun q2 =>
 ((some q2.1).bind (AV.asInt .i64)).bind fun n3 =>
 (go (.fn F.keh [a1.v]) q2.2).bind fun q4 =>
 ((some q4.1).bind AV.asBool).bind fun b5 =>
 cond b5 (
 (go (.fn F.kih [a1.v, .int .i64 0]) q4.2).bind fun q6 =>
 ((some q6.1).bind AV.asBool).bind fun b7 =>
 cond b7 (
 cond (decide (n3 ≥ 15)) (
 some (.bool (decide (n3 ≤ 80)), q6.2)) (
 some (.bool false, q6.2))) (
 some (.bool false, q6.2))) (
 some (.bool false, q4.2)) := (kb _ h).trans (by kernel_rfl)
theorem k88 (a1 : Sl) (a2 : Sl) (h : AH) : go (.fn F.knm [a1.v, a2.v]) h =
 (go (.fn F.kli [a1.v]) h).bind fun q3 =>
 ((some q3.1).bind AV.asBool).bind fun b4 =>
 cond b4 (
 (go (.fn F.kni [a1.v]) q3.2).bind fun q5 =>
 ((some q5.1).bind AV.asSl).bind fun l6 =>
 (go (.fn F.kn5 [a2.v, a1.v, l6.v]) q5.2).bind fun q7 =>
 ((some q7.1).bind AV.asBool).bind fun b8 =>
 some (.bool b8, q7.2)) (
 some (.bool false, q3.2)) := (kb _ h).trans (by kernel_rfl)
theorem kwu (a1 : Sl) (h : AH) : go (.fn F.kpn [a1.v]) h =
 (go (.fn F.ki1 [a1.v, a1.v]) h).bind fun q2 =>
 (AV.asTup2 q2.1).bind fun p3 =>
 ((some p3.1).bind AV.asSl).bind fun l4 =>
 ((some p3.2).bind (AV.asInt .i64)).bind fun n5 =>
 newK q2.2 (.cells [(⟨none, 0, .is 0⟩ : Sl).v] T.kp) fun h6r h6 =>
 (h6.puts h6r [l4.v]).bind fun h7 =>
 some (.func (.func F.kdm) [] [.ptr (some h6r)], h7) := (kb _ h).trans (by kernel_rfl)
theorem kbbf (a1 : Sl) (h : AH) : go (.fn F.khc [a1.v]) h =
 (go (.fn F.kcn [a1.v]) h).bind fun q2 =>
 ((some q2.1).bind AV.asBool).bind fun b3 =>
 (go (.fn F.kd9 [a1.v]) q2.2).bind fun q4 =>
 ((some q4.1).bind (AV.asInt .i64)).bind fun n5 =>
 cond b3 (
 cond (decide ((a1.len : Int) > 0)) (
 (idx a1.ref a1.len 0 1).bind fun r6 =>
 ((q4.2.cell r6).bind (AV.asInt .u64)).bind fun n7 =>
 cond (decide ((Int.tmod n7 2) = 1)) (
 cond (decide (n5 ≥ 15)) (
 some (.bool (decide (n5 ≤ 80)), q4.2)) (
 some (.bool false, q4.2))) (
 some (.bool false, q4.2))) (
 some (.bool false, q4.2))) (
 some (.bool false, q4.2)) := (kb _ h).trans (by kernel_rfl)
theorem k8c (a1 : Sl) (a2 : Sl) (h : AH) : go (.fn F.kkh [a1.v, a2.v]) h =
 (go (.fn F.khc [a1.v]) h).bind fun q3 =>
 ((some q3.1).bind AV.asBool).bind fun b4 =>
 cond b4 (
 (go (.fn F.kh9 [a1.v]) q3.2).bind fun q5 =>
 ((some q5.1).bind AV.asSl).bind fun l6 =>
 (go (.fn F.kkt [a2.v, a1.v, l6.v]) q5.2).bind fun q7 =>
 ((some q7.1).bind AV.asBool).bind fun b8 =>
 some (.bool b8, q7.2)) (
 some (.bool false, q3.2)) := (kb _ h).trans (by kernel_rfl)
theorem k72 (a1 : Sl) (h : AH) : go (.fn F.kh9 [a1.v]) h =
 (go (.fn F.kmt [a1.v, a1.v]) h).bind fun q2 =>
 (AV.asTup2 q2.1).bind fun p3 =>
 ((some p3.1).bind AV.asSl).bind fun l4 =>
 ((some p3.2).bind (AV.asInt .i64)).bind fun n5 =>
 some (l4.v, q2.2) := (kb _ h).trans (by kernel_rfl)
theorem k4w (a1 : Sl) (a2 : Sl) (a3 : Sl) (h : AH) : go (.fn F.kog [a1.v, a2.v, a3.v]) h =
 (go (.fn F.kmt [a1.v, a2.v]) h).bind fun q4 =>
 (AV.asTup2 q4.1).bind fun p5 =>
 ((some p5.1).bind AV.asSl).bind fun l6 =>
 ((some p5.2).bind (AV.asInt .i64)).bind fun n7 =>
 (go (.fn F.klp [l6.v, a3.v]) q4.2).bind fun q8 =>
 ((some q8.1).bind AV.asSl).bind fun l9 =>
 some (l9.v, q8.2) := (kb _ h).trans (by kernel_rfl)
theorem kru (a1 : Sl) (a2 : Sl) (a3 : Int) (h : AH) : go (.pt F.kf0 Td.kl1 [(0, a1.v), (1, a2.v), (5, .int .i64 a3)]) h =
 cond (decide (a3 < (a1.len : Int))) (
 (idx a1.ref a1.len a3 1).bind fun r4 =>
 ((h.cell r4).bind (AV.asInt .u64)).bind fun n5 =>
 (idx a2.ref a2.len a3 1).bind fun r6 =>
 ((h.cell r6).bind (AV.asInt .u64)).bind fun n7 =>
 cond (!decide (n5 = n7)) (
 some (.bool false, h)) (
 go (.pt F.kf0 Td.kl1 [(0, a1.v), (1, a2.v), (5, .int .i64 (IntKind.wrap .i64 (a3 + 1)))]) h)) (
 some (.bool true, h)) := (kb _ h).trans (by kernel_rfl)
theorem ktx (a1 : Sl) (a2 : Ref) (a3 : Ref) (a4 : Int) (a5 : Int) (h : AH) : go (.pt F.kb5 Td.kj3 [(2, a1.v), (3, .ptr (some a2)), (4, .ptr (some a3)), (7, .int .i64 a4), (8, .int .i64 a5)]) h =
 cond (decide (a5 < (a1.len : Int))) (
 (idx a1.ref a1.len a5 1).bind fun r6 =>
 ((h.cell r6).bind AV.asSl).bind fun l7 =>
 cond (decide ((l7.len : Int) > 20)) (
 some (.bool false, h)) (
 cond (decide (a5 > 300)) (
 some (.bool false, h)) (
 go (.pt F.kb5 Td.kj3 [(2, a1.v), (3, .ptr (some a2)), (4, .ptr (some a3)), (7, .int .i64 a4), (8, .int .i64 (IntKind.wrap .i64 (a5 + 1)))]) h))) (
 go (.pt F.kb5 Td.kmd [(3, .ptr (some a2)), (4, .ptr (some a3)), (7, .int .i64 a4), (9, .int .i64 0)]) h) := (kb _ h).trans (by kernel_rfl)
theorem k1s (a1 : Sl) (a2 : Sl) (a3 : Sl) (a4 : Int) (a5 : Sl) (a6 : Int) (h : AH) : go (.fn F.klw [.agg [a1.v, a2.v, a3.v], .agg [.int .i64 a4, a5.v], .int .i64 a6]) h =
 newK h (.cells [a1.v, a2.v, a3.v] T.ku) fun h7r h7 =>
 newK h7 (.cells [.int .i64 a4, a5.v] T.kn) fun h8r h8 =>
 ((h8.cell (h7r.add 0)).bind AV.asSl).bind fun l9 =>
 ((h8.cell (h7r.add 1)).bind AV.asSl).bind fun l10 =>
 ((h8.cell (h7r.add 2)).bind AV.asSl).bind fun l11 =>
 (go (.fn F.kfa [.agg [l9.v, l10.v, l11.v]]) h8).bind fun q12 =>
 ((some q12.1).bind AV.asBool).bind fun b13 =>
 cond (!b13) (
 some (.int .i64 20, q12.2)) (
 ((q12.2.cell (h8r.add 0)).bind (AV.asInt .i64)).bind fun n14 =>
 ((q12.2.cell (h8r.add 1)).bind AV.asSl).bind fun l15 =>
 (go (.fn F.kha [.agg [.int .i64 n14, l15.v]]) q12.2).bind fun q16 =>
 ((some q16.1).bind AV.asBool).bind fun b17 =>
 cond (!b17) (
 some (.int .i64 1, q16.2)) (
 ((q16.2.cell (h8r.add 0)).bind (AV.asInt .i64)).bind fun n18 =>
 ((q16.2.cell (h7r.add 0)).bind AV.asSl).bind fun l19 =>
 cond (!decide (n18 = (l19.len : Int))) (
 some (.int .i64 1, q16.2)) (
 ((q16.2.cell (h7r.add 0)).bind AV.asSl).bind fun l20 =>
 cond (!decide (a6 = (l20.len : Int))) (
 some (.int .i64 1, q16.2)) (
 some (.int .i64 0, q16.2))))) := (kb _ h).trans (by kernel_rfl)
theorem k48 (a1 : Sl) (a2 : Option Ref) (h : AH) : go (.fn F.kix [a1.v, .func (.func F.kbm) [] [.ptr a2]]) h =
 (go (.fn F.kcv [a1.v, .func (.func F.kbm) [] [.ptr a2]]) h).bind fun q3 =>
 ((some q3.1).bind (AV.asInt .i64)).bind fun n4 =>
 some (.bool (decide (n4 ≥ 0)), q3.2) := (kb _ h).trans (by kernel_rfl)
theorem krx (a1 : Sl) (a2 : Sl) (a3 : Sl) (a4 : Int) (a5 : Sl) (h : AH) : go (.fn F.kjj [.agg [a1.v, a2.v, a3.v], .agg [.int .i64 a4, a5.v]]) h =
 newK h (.cells [a1.v, a2.v, a3.v] T.ku) fun h6r h6 =>
 newK h6 (.cells [.int .i64 a4, a5.v] T.kn) fun h7r h7 =>
 some (.func (.func F.kbh) [] [.ptr (some h6r), .ptr (some h7r)], h7) := (kb _ h).trans (by kernel_rfl)
theorem kba2 (a1 : Sl) (a2 : Sl) (a3 : Sl) (a4 : Sl) (a5 : Int) (a6 : Sl) (a7 : Sl) (a8 : Ref) (a9 : Ref) (a10 : Ref) (a11 : Ref) (a12 : Sl) (a13 : Int) (a14 : Int) (a15 : Ref) (a16 : Ref) (a17 : Sl) (a18 : Bool) (a19 : Bool) (a20 : Sl) (a21 : Sl) (a22 : Sl) (a23 : Int) (a24 : Sl) (a25 : Sl) (a26 : Int) (a27 : Int) (a28 : Int) (a29 : Bool) (a30 : Sl) (a31 : Ref) (a32 : Bool) (a33 : Sl) (a34 : AV) (a35 : Sl) (a36 : Sl) (a37 : Sl) (a38 : Int) (a39 : Sl) (a40 : AV) (h : AH) : go (.pt F.kcg Tr.kwi [(0, a1.v), (1, .agg [a2.v, a3.v, a4.v]), (2, .agg [.int .i64 a5, a6.v]), (3, a7.v), (4, .ptr (some a8)), (5, .ptr (some a9)), (6, .ptr (some a10)), (7, .ptr (some a11)), (8, a12.v), (9, .int .i64 a13), (10, .int .i64 a14), (11, .ptr (some a15)), (12, .ptr (some a16)), (18, a17.v), (19, .bool a18), (20, .bool a19), (21, .agg [a20.v, a21.v, a22.v]), (22, .agg [.int .i64 a23, a24.v]), (23, a25.v), (24, .int .i64 a26), (25, .int .i64 a27), (26, .int .i64 a28), (27, .bool a29), (29, a30.v), (30, .func (.func F.kbm) [] [.ptr (some a31)]), (31, .bool a32), (32, a33.v), (33, a34), (34, .agg [a35.v, a36.v, a37.v]), (35, .agg [.int .i64 a38, a39.v]), (36, a40)]) h =
 funcK a40 fun g45 f46 c47 =>
 newM h (kdg Fx.kom F.kcg 0 .ready none [(0, a1.v), (1, .agg [a2.v, a3.v, a4.v]), (2, .agg [.int .i64 a5, a6.v]), (3, a7.v), (4, .ptr (some a8)), (5, .ptr (some a9)), (6, .ptr (some a10)), (7, .ptr (some a11)), (8, a12.v), (9, .int .i64 a13), (10, .int .i64 a14), (11, .ptr (some a15)), (12, .ptr (some a16)), (18, a17.v), (19, .bool a18), (20, .bool a19), (21, .agg [a20.v, a21.v, a22.v]), (22, .agg [.int .i64 a23, a24.v]), (23, a25.v), (24, .int .i64 a26), (25, .int .i64 a27), (26, .int .i64 a28), (27, .bool a29), (29, a30.v), (30, .func (.func F.kbm) [] [.ptr (some a31)]), (31, .bool a32), (32, a33.v), (33, a34), (34, .agg [a35.v, a36.v, a37.v]), (35, .agg [.int .i64 a38, a39.v]), (36, a40)]) fun m41 h42 =>
 (callF Pg go g45 (f46 ++ [.func (.yield m41) [] []] ++ c47) h42).bind fun q43 =>
 (ke9 m41 q43.2).bind fun p44 =>
 go (.pt F.kcg ((p44.1.map Item.code).toList ++ Ta.kqu) [(0, a1.v), (1, .agg [a2.v, a3.v, a4.v]), (2, .agg [.int .i64 a5, a6.v]), (3, a7.v), (4, .ptr (some a8)), (5, .ptr (some a9)), (6, .ptr (some a10)), (7, .ptr (some a11)), (8, a12.v), (9, .int .i64 a13), (10, .int .i64 a14), (11, .ptr (some a15)), (12, .ptr (some a16)), (18, a17.v), (19, .bool a18), (20, .bool a19), (21, .agg [a20.v, a21.v, a22.v]), (22, .agg [.int .i64 a23, a24.v]), (23, a25.v), (24, .int .i64 a26), (25, .int .i64 a27), (26, .int .i64 a28), (27, .bool a29), (29, a30.v), (30, .func (.func F.kbm) [] [.ptr (some a31)]), (31, .bool a32), (32, a33.v), (33, a34), (34, .agg [a35.v, a36.v, a37.v]), (35, .agg [.int .i64 a38, a39.v]), (36, a40)]) p44.2 := (kb _ h).trans (by kernel_rfl)
theorem k9u (a1 : Sl) (a2 : Sl) (a3 : Sl) (a4 : Int) (a5 : Sl) (a6 : Int) (h : AH) : go (.fn F.koa [.agg [a1.v, a2.v, a3.v], .agg [.int .i64 a4, a5.v], .int .i64 a6]) h =
 newK h (.cells [a1.v, a2.v, a3.v] T.ku) fun h7r h7 =>
 newK h7 (.cells [.int .i64 a4, a5.v] T.kn) fun h8r h8 =>
 ((h8.cell (h7r.add 0)).bind AV.asSl).bind fun l9 =>
 ((h8.cell (h7r.add 1)).bind AV.asSl).bind fun l10 =>
 ((h8.cell (h7r.add 2)).bind AV.asSl).bind fun l11 =>
 (go (.fn F.kch [.agg [l9.v, l10.v, l11.v]]) h8).bind fun q12 =>
 ((some q12.1).bind AV.asBool).bind fun b13 =>
 cond (!b13) (
 some (.int .i64 20, q12.2)) (
 ((q12.2.cell (h8r.add 0)).bind (AV.asInt .i64)).bind fun n14 =>
 ((q12.2.cell (h8r.add 1)).bind AV.asSl).bind fun l15 =>
 (go (.fn F.kff [.agg [.int .i64 n14, l15.v]]) q12.2).bind fun q16 =>
 ((some q16.1).bind AV.asBool).bind fun b17 =>
 cond (!b17) (
 some (.int .i64 1, q16.2)) (
 ((q16.2.cell (h8r.add 0)).bind (AV.asInt .i64)).bind fun n18 =>
 ((q16.2.cell (h7r.add 0)).bind AV.asSl).bind fun l19 =>
 cond (!decide (n18 = (l19.len : Int))) (
 some (.int .i64 1, q16.2)) (
 ((q16.2.cell (h7r.add 0)).bind AV.asSl).bind fun l20 =>
 cond (!decide (a6 = (l20.len : Int))) (
 some (.int .i64 1, q16.2)) (
 some (.int .i64 0, q16.2))))) := (kb _ h).trans (by kernel_rfl)
theorem ks4 (a1 : Sl) (a2 : Sl) (a3 : Ref) (a4 : Ref) (a5 : Int) (h : AH) : go (.pt F.kbu Td.kj7 [(0, a1.v), (3, a2.v), (5, .ptr (some a3)), (6, .ptr (some a4)), (12, .int .i64 a5)]) h =
 cond (decide (a5 < (a2.len : Int))) (
 (idx a2.ref a2.len a5 1).bind fun r6 =>
 ((h.cell r6).bind AV.asSl).bind fun l7 =>
 (go (.fn F.kkh [a1.v, l7.v]) h).bind fun q8 =>
 ((some q8.1).bind AV.asBool).bind fun b9 =>
 cond (!b9) (
 some (.tup [(⟨none, 0, .is 0⟩ : Sl).v, .int .i64 11], q8.2)) (
 go (.pt F.kbu Td.kj7 [(0, a1.v), (3, a2.v), (5, .ptr (some a3)), (6, .ptr (some a4)), (12, .int .i64 (IntKind.wrap .i64 (a5 + 1)))]) q8.2)) (
 ((h.cell (a4.add 0)).bind (AV.asInt .i64)).bind fun n10 =>
 ((h.cell (a4.add 1)).bind AV.asSl).bind fun l11 =>
 (go (.fn F.ke3 [.agg [.int .i64 n10, l11.v]]) h).bind fun q12 =>
 ((some q12.1).bind AV.asSl).bind fun l13 =>
 ((q12.2.cell (a3.add 0)).bind AV.asSl).bind fun l14 =>
 ((q12.2.cell (a3.add 1)).bind AV.asSl).bind fun l15 =>
 ((q12.2.cell (a3.add 2)).bind AV.asSl).bind fun l16 =>
 (go (.fn F.kcx [.agg [l14.v, l15.v, l16.v]]) q12.2).bind fun q17 =>
 ((some q17.1).bind AV.asSl).bind fun l18 =>
 (go (.fn F.kh9 [a1.v]) q17.2).bind fun q19 =>
 ((some q19.1).bind AV.asSl).bind fun l20 =>
 go (.pt F.kbu Td.kid [(3, a2.v), (5, .ptr (some a3)), (14, l13.v), (15, l18.v), (16, l20.v), (17, (⟨none, 0, .is 0⟩ : Sl).v), (18, .int .i64 0)]) q19.2) := (kb _ h).trans (by kernel_rfl)
theorem kty (a1 : Sl) (a2 : Sl) (a3 : Int) (h : AH) : go (.pt F.kf9 Td.km2 [(0, a1.v), (1, a2.v), (5, .int .i64 a3)]) h =
 cond (decide (a3 < (a1.len : Int))) (
 (idx a1.ref a1.len a3 1).bind fun r4 =>
 ((h.cell r4).bind AV.asSl).bind fun l5 =>
 (idx a2.ref a2.len a3 1).bind fun r6 =>
 ((h.cell r6).bind AV.asSl).bind fun l7 =>
 (go (.fn F.kf0 [l5.v, l7.v]) h).bind fun q8 =>
 ((some q8.1).bind AV.asBool).bind fun b9 =>
 cond (!b9) (
 some (.bool false, q8.2)) (
 go (.pt F.kf9 Td.km2 [(0, a1.v), (1, a2.v), (5, .int .i64 (IntKind.wrap .i64 (a3 + 1)))]) q8.2)) (
 some (.bool true, h)) := (kb _ h).trans (by kernel_rfl)
theorem ksv (a1 : Nat) (a2 : Ref) (a3 : Ref) (a4 : Int) (a5 : Sl) (a6 : Int) (a7 : Int) (a8 : Int) (a9 : Int) (h : AH) : go (.pt F.kbh Td.kib [(0, .func (.yield a1) [] []), (1, .ptr (some a2)), (2, .ptr (some a3)), (4, .int .i64 a4), (10, a5.v), (11, .int .i64 a6), (12, .int .i64 a7), (18, .int .i64 a8), (19, .int .i64 a9)]) h =
 cond (decide (a9 < a8)) (
 ((h.cell (a2.add 0)).bind AV.asSl).bind fun l10 =>
 ((h.cell (a2.add 1)).bind AV.asSl).bind fun l11 =>
 ((h.cell (a2.add 2)).bind AV.asSl).bind fun l12 =>
 (go (.fn F.kei [.agg [l10.v, l11.v, l12.v], .int .i64 a4, .int .i64 a9]) h).bind fun q13 =>
 (AV.asTup2 q13.1).bind fun p14 =>
 (AV.asAgg p14.1).bind fun cs15 =>
 cond (Nat.beq cs15.length 2) (
 ((cs15[0]?).bind (AV.asInt .i64)).bind fun n16 =>
 ((cs15[1]?).bind AV.asSl).bind fun l17 =>
 ((some p14.2).bind (AV.asInt .i64)).bind fun n18 =>
 newK q13.2 (.cells [.int .i64 0, (⟨none, 0, .is 0⟩ : Sl).v] T.kn) fun h19r h19 =>
 (h19.puts h19r [.int .i64 n16, l17.v]).bind fun h20 =>
 ((h20.cell (h19r.add 0)).bind (AV.asInt .i64)).bind fun n21 =>
 ((h20.cell (h19r.add 1)).bind AV.asSl).bind fun l22 =>
 ((h20.cell (a3.add 0)).bind (AV.asInt .i64)).bind fun n23 =>
 ((h20.cell (a3.add 1)).bind AV.asSl).bind fun l24 =>
 (go (.fn F.kko [.agg [.int .i64 n21, l22.v], .agg [.int .i64 n23, l24.v]]) h20).bind fun q25 =>
 (AV.asTup2 q25.1).bind fun p26 =>
 (AV.asAgg p26.1).bind fun cs27 =>
 cond (Nat.beq cs27.length 2) (
 ((cs27[0]?).bind (AV.asInt .i64)).bind fun n28 =>
 ((cs27[1]?).bind AV.asSl).bind fun l29 =>
 ((some p26.2).bind (AV.asInt .i64)).bind fun n30 =>
 (q25.2.puts h19r [.int .i64 n28, l29.v]).bind fun h31 =>
 ((h31.cell (h19r.add 0)).bind (AV.asInt .i64)).bind fun n32 =>
 ((h31.cell (h19r.add 1)).bind AV.asSl).bind fun l33 =>
 (go (.fn F.kk3 [.agg [.int .i64 n32, l33.v]]) h31).bind fun q34 =>
 ((some q34.1).bind AV.asSl).bind fun l35 =>
 (go (.round a1 [.agg [.int .i64 a4, .int .i64 a9], l35.v]) q34.2).bind fun q36 =>
 ((some q36.1).bind AV.asBool).bind fun b37 =>
 cond (!b37) (
 some (.tup [], q36.2)) (
 go (.pt F.kbh Td.kib [(0, .func (.yield a1) [] []), (1, .ptr (some a2)), (2, .ptr (some a3)), (4, .int .i64 a4), (10, a5.v), (11, .int .i64 a6), (12, .int .i64 a7), (18, .int .i64 a8), (19, .int .i64 (IntKind.wrap .i64 (a9 + 1)))]) q36.2)) none) none) (
 go (.pt F.kbh Td.kie [(0, .func (.yield a1) [] []), (1, .ptr (some a2)), (2, .ptr (some a3)), (10, a5.v), (11, .int .i64 a6), (12, .int .i64 (IntKind.wrap .i64 (a7 + 1)))]) h) := (kb _ h).trans (by kernel_rfl)
theorem kv8 (a1 : Nat) (a2 : Int) (a3 : Int) (a4 : Sl) (a5 : Int) (a6 : Int) (h : AH) : go (.pt F.kbo Td.kk9 [(0, .func (.yield a1) [] []), (3, .int .i64 a2), (4, .int .u64 a3), (6, a4.v), (7, .int .i64 a5), (8, .int .i64 a6)]) h =
 cond (!decide (a3 = 0)) (
 (go (.fn F.kpz [.int .u64 a3]) h).bind fun q7 =>
 ((some q7.1).bind (AV.asInt .i64)).bind fun n8 =>
 (go (.round a1 [.int .i64 (IntKind.wrap .i64 ((IntKind.wrap .i64 (64 * a2)) + n8))]) q7.2).bind fun q9 =>
 ((some q9.1).bind AV.asBool).bind fun b10 =>
 cond (!b10) (
 some (.tup [], q9.2)) (
 go (.pt F.kbo Td.kk9 [(0, .func (.yield a1) [] []), (3, .int .i64 a2), (4, .int .u64 (iand .u64 a3 (IntKind.wrap .u64 (a3 - 1)))), (6, a4.v), (7, .int .i64 a5), (8, .int .i64 a6)]) q9.2)) (
 go (.pt F.kbo Td.kik [(0, .func (.yield a1) [] []), (6, a4.v), (7, .int .i64 a5), (8, .int .i64 (IntKind.wrap .i64 (a6 + 1)))]) h) := (kb _ h).trans (by kernel_rfl)
theorem k0w (a1 : Sl) (h : AH) : go (.fn F.khp [a1.v]) h =
 (go (.fn F.kix [a1.v, .func (.func F.kdf) [] []]) h).bind fun q2 =>
 ((some q2.1).bind AV.asBool).bind fun b3 =>
 some (.bool (!b3), q2.2) := (kb _ h).trans (by kernel_rfl)
theorem k7f (a1 : Sl) (a2 : Sl) (h : AH) : go (.fn F.kks [a1.v, a2.v]) h =
 newK h (.cells [.nilFunc] T.kwe) fun h3r h3 =>
 (h3.puts h3r [.func (.func F.kjt) [] [.ptr (some h3r)]]).bind fun h4 =>
 (h4.cell h3r).bind fun v5 =>
 yieldK v5 [a1.v, a2.v] (fun y7 =>
 (go (.round y7.1 y7.2) h4).bind fun q6 =>
 ((some q6.1).bind AV.asSl).bind fun l9 =>
 some (l9.v, q6.2)) (
 (callV Pg go v5 [a1.v, a2.v] h4).bind fun q8 =>
 ((some q8.1).bind AV.asSl).bind fun l10 =>
 some (l10.v, q8.2)) := (kb _ h).trans (by kernel_rfl)
theorem k93 (a1 : Sl) (h : AH) : go (.fn F.kph [a1.v]) h =
 (go (.fn F.kba [a1.v]) h).bind fun q2 =>
 ((some q2.1).bind AV.asSl).bind fun l3 =>
 cond (decide ((l3.len : Int) > 64)) (
 some (.tup [(⟨none, 0, .is 0⟩ : Sl).v, .int .i64 4], q2.2)) (
 some (.tup [l3.v, .int .i64 0], q2.2)) := (kb _ h).trans (by kernel_rfl)
theorem kzt (a1 : Sl) (a2 : Sl) (h : AH) : go (.fn F.keq [a1.v, a2.v]) h =
 cond (!decide ((a1.len : Int) = (a2.len : Int))) (
 cond (decide ((a1.len : Int) < (a2.len : Int))) (
 some (.int .i64 (-1), h)) (
 some (.int .i64 1, h))) (
 go (.pt F.keq Td.klx [(0, a1.v), (1, a2.v), (5, .int .i64 (IntKind.wrap .i64 ((a1.len : Int) - 1)))]) h) := (kb _ h).trans (by kernel_rfl)
theorem ky8 (a1 : Sl) (h : AH) : go (.fn F.khv [a1.v]) h =
 cond a1.ref.isNone (
 some ((⟨none, 0, .is 0⟩ : Sl).v, h)) (
 newK h (.cells [] T.ke) fun h2r h2 =>
 (kbc Pg T.ke a1.v h2).bind fun p4 =>
 (kr Pg (⟨some h2r, 0, .is 0⟩ : Sl) p4.1 p4.2 T.ke 1 h2).bind fun q3 =>
 (AV.asSl q3.1).bind fun l5 =>
 some (l5.v, q3.2)) := (kb _ h).trans (by kernel_rfl)
theorem k7n (a1 : Sl) (a2 : Int) (h : AH) : go (.fn F.kd7 [a1.v, .int .u64 a2]) h =
 (kbl (a1.len : Int) (a1.len : Int) T.ke (Pg.bytesOf T.ke) [.int .u64 0] h).bind fun q3 =>
 go (.pt F.kd7 Td.kki [(0, a1.v), (1, .int .u64 a2), (6, q3.1.v), (7, .int .u64 0), (8, .int .i64 (IntKind.wrap .i64 ((a1.len : Int) - 1)))]) q3.2 := (kb _ h).trans (by kernel_rfl)
theorem k4h (a1 : Int) (h : AH) : go (.fn F.kit [.int .u64 a1]) h =
 newK h (.cells [.int .u64 a1] T.ke) fun h2r h2 =>
 (go (.fn F.kba [(⟨some h2r, 1, .is 1⟩ : Sl).v]) h2).bind fun q3 =>
 ((some q3.1).bind AV.asSl).bind fun l4 =>
 some (l4.v, q3.2) := (kb _ h).trans (by kernel_rfl)
theorem k66 (a1 : Sl) (a2 : Sl) (h : AH) : go (.fn F.kbp [a1.v, a2.v]) h =
 (idx a2.ref a2.len (IntKind.wrap .i64 ((a2.len : Int) - 1)) 1).bind fun r3 =>
 ((h.cell r3).bind (AV.asInt .u64)).bind fun n4 =>
 (go (.fn F.kml [.int .u64 n4]) h).bind fun q5 =>
 ((some q5.1).bind (AV.asInt .i64)).bind fun n6 =>
 (go (.fn F.kdy [a1.v, .int .u64 (IntKind.wrap .u64 n6)]) q5.2).bind fun q7 =>
 ((some q7.1).bind AV.asSl).bind fun l8 =>
 (go (.fn F.kdy [a2.v, .int .u64 (IntKind.wrap .u64 n6)]) q7.2).bind fun q9 =>
 ((some q9.1).bind AV.asSl).bind fun l10 =>
 (go (.fn F.kba [l10.v]) q9.2).bind fun q11 =>
 ((some q11.1).bind AV.asSl).bind fun l12 =>
 (kbl (IntKind.wrap .i64 ((l8.len : Int) - (l12.len : Int))) (IntKind.wrap .i64 ((l8.len : Int) - (l12.len : Int))) T.ke (Pg.bytesOf T.ke) [.int .u64 0] q11.2).bind fun q13 =>
 go (.pt F.kbp Td.klr [(6, .int .u64 (IntKind.wrap .u64 n6)), (7, l8.v), (8, l12.v), (9, .int .i64 (l12.len : Int)), (10, q13.1.v), (11, .int .i64 (IntKind.wrap .i64 ((q13.1.len : Int) - 1)))]) q13.2 := (kb _ h).trans (by kernel_rfl)
theorem kba5 (a1 : Sl) (a2 : Sl) (a3 : Sl) (a4 : Int) (a5 : Int) (h : AH) : go (.pt F.kcd Td.klo [(1, a1.v), (5, a2.v), (20, a3.v), (21, .int .i64 a4), (22, .int .i64 a5)]) h =
 cond (decide (a5 < a4)) (
 (idx a3.ref a3.len a5 1).bind fun r6 =>
 ((h.cell r6).bind (AV.asInt .u64)).bind fun n7 =>
 go (.pt F.kcd Td.kkr [(1, a1.v), (5, a2.v), (6, .int .i64 a5), (7, .int .u64 n7), (8, .int .u64 0), (20, a3.v), (21, .int .i64 a4), (22, .int .i64 a5), (27, a1.v), (28, .int .i64 (a1.len : Int)), (29, .int .i64 0)]) h) (
 (go (.fn F.kba [a2.v]) h).bind fun q8 =>
 ((some q8.1).bind AV.asSl).bind fun l9 =>
 some (l9.v, q8.2)) := (kb _ h).trans (by kernel_rfl)
theorem kqo (a1 : Sl) (a2 : Sl) (a3 : Sl) (a4 : Int) (a5 : Int) (a6 : Int) (h : AH) : go (.pt F.kc1 Td.keu [(0, a1.v), (1, a2.v), (5, a3.v), (6, .int .u64 a4), (21, .int .i64 a5), (22, .int .i64 a6)]) h =
 cond (decide (a6 < a5)) (
 cond (decide (a6 < (a2.len : Int))) (
 (idx a2.ref a2.len a6 1).bind fun r7 =>
 ((h.cell r7).bind (AV.asInt .u64)).bind fun n8 =>
 (idx a1.ref a1.len a6 1).bind fun r9 =>
 ((h.cell r9).bind (AV.asInt .u64)).bind fun n10 =>
 ((prim "math/bits.Add64" [.int .u64 n10, .int .u64 n8, .int .u64 a4]).map fun v => (v, h)).bind fun q11 =>
 (AV.asTup2 q11.1).bind fun p12 =>
 ((some p12.1).bind (AV.asInt .u64)).bind fun n13 =>
 ((some p12.2).bind (AV.asInt .u64)).bind fun n14 =>
 (idx a3.ref a3.len a6 1).bind fun r15 =>
 (q11.2.puts r15 [.int .u64 n13]).bind fun h16 =>
 go (.pt F.kc1 Td.keu [(0, a1.v), (1, a2.v), (5, a3.v), (6, .int .u64 n14), (21, .int .i64 a5), (22, .int .i64 (IntKind.wrap .i64 (a6 + 1)))]) h16) (
 (idx a1.ref a1.len a6 1).bind fun r17 =>
 ((h.cell r17).bind (AV.asInt .u64)).bind fun n18 =>
 ((prim "math/bits.Add64" [.int .u64 n18, .int .u64 0, .int .u64 a4]).map fun v => (v, h)).bind fun q19 =>
 (AV.asTup2 q19.1).bind fun p20 =>
 ((some p20.1).bind (AV.asInt .u64)).bind fun n21 =>
 ((some p20.2).bind (AV.asInt .u64)).bind fun n22 =>
 (idx a3.ref a3.len a6 1).bind fun r23 =>
 (q19.2.puts r23 [.int .u64 n21]).bind fun h24 =>
 go (.pt F.kc1 Td.keu [(0, a1.v), (1, a2.v), (5, a3.v), (6, .int .u64 n22), (21, .int .i64 a5), (22, .int .i64 (IntKind.wrap .i64 (a6 + 1)))]) h24)) (
 (idx a3.ref a3.len (a1.len : Int) 1).bind fun r25 =>
 (h.puts r25 [.int .u64 a4]).bind fun h26 =>
 some (a3.v, h26)) := (kb _ h).trans (by kernel_rfl)
theorem kkq (a1 : Sl) (a2 : Int) (h : AH) : go (.pt F.kba Td.kh3 [(0, a1.v), (3, .int .i64 a2)]) h =
 cond (decide (a2 > 0)) (
 (idx a1.ref a1.len (IntKind.wrap .i64 (a2 - 1)) 1).bind fun r3 =>
 ((h.cell r3).bind (AV.asInt .u64)).bind fun n4 =>
 cond (decide (n4 = 0)) (
 go (.pt F.kba Td.kh3 [(0, a1.v), (3, .int .i64 (IntKind.wrap .i64 (a2 - 1)))]) h) (
 (cutSl a1 0 a2 1).bind fun l5 =>
 some (l5.v, h))) (
 (cutSl a1 0 a2 1).bind fun l6 =>
 some (l6.v, h)) := (kb _ h).trans (by kernel_rfl)
theorem kra (a1 : Sl) (a2 : Sl) (a3 : Sl) (a4 : Int) (a5 : Int) (a6 : Int) (h : AH) : go (.pt F.kco Td.khm [(0, a1.v), (1, a2.v), (5, a3.v), (6, .int .u64 a4), (13, .int .i64 a5), (14, .int .i64 a6)]) h =
 cond (decide (a6 < a5)) (
 cond (decide (a6 < (a2.len : Int))) (
 (idx a2.ref a2.len a6 1).bind fun r7 =>
 ((h.cell r7).bind (AV.asInt .u64)).bind fun n8 =>
 (idx a1.ref a1.len a6 1).bind fun r9 =>
 ((h.cell r9).bind (AV.asInt .u64)).bind fun n10 =>
 ((prim "math/bits.Sub64" [.int .u64 n10, .int .u64 n8, .int .u64 a4]).map fun v => (v, h)).bind fun q11 =>
 (AV.asTup2 q11.1).bind fun p12 =>
 ((some p12.1).bind (AV.asInt .u64)).bind fun n13 =>
 ((some p12.2).bind (AV.asInt .u64)).bind fun n14 =>
 (idx a3.ref a3.len a6 1).bind fun r15 =>
 (q11.2.puts r15 [.int .u64 n13]).bind fun h16 =>
 go (.pt F.kco Td.khm [(0, a1.v), (1, a2.v), (5, a3.v), (6, .int .u64 n14), (13, .int .i64 a5), (14, .int .i64 (IntKind.wrap .i64 (a6 + 1)))]) h16) (
 (idx a1.ref a1.len a6 1).bind fun r17 =>
 ((h.cell r17).bind (AV.asInt .u64)).bind fun n18 =>
 ((prim "math/bits.Sub64" [.int .u64 n18, .int .u64 0, .int .u64 a4]).map fun v => (v, h)).bind fun q19 =>
 (AV.asTup2 q19.1).bind fun p20 =>
 ((some p20.1).bind (AV.asInt .u64)).bind fun n21 =>
 ((some p20.2).bind (AV.asInt .u64)).bind fun n22 =>
 (idx a3.ref a3.len a6 1).bind fun r23 =>
 (q19.2.puts r23 [.int .u64 n21]).bind fun h24 =>
 go (.pt F.kco Td.khm [(0, a1.v), (1, a2.v), (5, a3.v), (6, .int .u64 n22), (13, .int .i64 a5), (14, .int .i64 (IntKind.wrap .i64 (a6 + 1)))]) h24)) (
 some (a3.v, h)) := (kb _ h).trans (by kernel_rfl)
theorem k83 (a1 : Sl) (a2 : Sl) (a3 : Int) (a4 : Int) (a5 : Int) (h : AH) : go (.pt F.kcz Td.kfn [(0, a1.v), (1, a2.v), (2, .int .i64 a3), (6, .int .u64 a4), (7, .int .i64 a5)]) h =
 cond (decide (a5 < (a1.len : Int))) (
 cond (decide ((IntKind.wrap .i64 (a5 - a3)) < (a2.len : Int))) (
 cond (decide ((IntKind.wrap .i64 (a5 - a3)) < (a2.len : Int))) (
 (idx a2.ref a2.len (IntKind.wrap .i64 (a5 - a3)) 1).bind fun r6 =>
 ((h.cell r6).bind (AV.asInt .u64)).bind fun n7 =>
 (idx a1.ref a1.len a5 1).bind fun r8 =>
 ((h.cell r8).bind (AV.asInt .u64)).bind fun n9 =>
 ((prim "math/bits.Add64" [.int .u64 n9, .int .u64 n7, .int .u64 a4]).map fun v => (v, h)).bind fun q10 =>
 (AV.asTup2 q10.1).bind fun p11 =>
 ((some p11.1).bind (AV.asInt .u64)).bind fun n12 =>
 ((some p11.2).bind (AV.asInt .u64)).bind fun n13 =>
 (idx a1.ref a1.len a5 1).bind fun r14 =>
 (q10.2.puts r14 [.int .u64 n12]).bind fun h15 =>
 go (.pt F.kcz Td.kfn [(0, a1.v), (1, a2.v), (2, .int .i64 a3), (6, .int .u64 n13), (7, .int .i64 (IntKind.wrap .i64 (a5 + 1)))]) h15) (
 (idx a1.ref a1.len a5 1).bind fun r16 =>
 ((h.cell r16).bind (AV.asInt .u64)).bind fun n17 =>
 ((prim "math/bits.Add64" [.int .u64 n17, .int .u64 0, .int .u64 a4]).map fun v => (v, h)).bind fun q18 =>
 (AV.asTup2 q18.1).bind fun p19 =>
 ((some p19.1).bind (AV.asInt .u64)).bind fun n20 =>
 ((some p19.2).bind (AV.asInt .u64)).bind fun n21 =>
 (idx a1.ref a1.len a5 1).bind fun r22 =>
 (q18.2.puts r22 [.int .u64 n20]).bind fun h23 =>
 go (.pt F.kcz Td.kfn [(0, a1.v), (1, a2.v), (2, .int .i64 a3), (6, .int .u64 n21), (7, .int .i64 (IntKind.wrap .i64 (a5 + 1)))]) h23)) (
 cond (decide (a4 > 0)) (
 cond (decide ((IntKind.wrap .i64 (a5 - a3)) < (a2.len : Int))) (
 (idx a2.ref a2.len (IntKind.wrap .i64 (a5 - a3)) 1).bind fun r24 =>
 ((h.cell r24).bind (AV.asInt .u64)).bind fun n25 =>
 (idx a1.ref a1.len a5 1).bind fun r26 =>
 ((h.cell r26).bind (AV.asInt .u64)).bind fun n27 =>
 ((prim "math/bits.Add64" [.int .u64 n27, .int .u64 n25, .int .u64 a4]).map fun v => (v, h)).bind fun q28 =>
 (AV.asTup2 q28.1).bind fun p29 =>
 ((some p29.1).bind (AV.asInt .u64)).bind fun n30 =>
 ((some p29.2).bind (AV.asInt .u64)).bind fun n31 =>
 (idx a1.ref a1.len a5 1).bind fun r32 =>
 (q28.2.puts r32 [.int .u64 n30]).bind fun h33 =>
 go (.pt F.kcz Td.kfn [(0, a1.v), (1, a2.v), (2, .int .i64 a3), (6, .int .u64 n31), (7, .int .i64 (IntKind.wrap .i64 (a5 + 1)))]) h33) (
 (idx a1.ref a1.len a5 1).bind fun r34 =>
 ((h.cell r34).bind (AV.asInt .u64)).bind fun n35 =>
 ((prim "math/bits.Add64" [.int .u64 n35, .int .u64 0, .int .u64 a4]).map fun v => (v, h)).bind fun q36 =>
 (AV.asTup2 q36.1).bind fun p37 =>
 ((some p37.1).bind (AV.asInt .u64)).bind fun n38 =>
 ((some p37.2).bind (AV.asInt .u64)).bind fun n39 =>
 (idx a1.ref a1.len a5 1).bind fun r40 =>
 (q36.2.puts r40 [.int .u64 n38]).bind fun h41 =>
 go (.pt F.kcz Td.kfn [(0, a1.v), (1, a2.v), (2, .int .i64 a3), (6, .int .u64 n39), (7, .int .i64 (IntKind.wrap .i64 (a5 + 1)))]) h41)) (
 some (.tup [], h)))) (
 some (.tup [], h)) := (kb _ h).trans (by kernel_rfl)
theorem k18 (a1 : Sl) (h : AH) : go (.fn F.kc2 [a1.v, .func (.func F.kct) [] []]) h =
 (go (.fn F.ky [a1.v, .func (.func F.kct) [] []]) h).bind fun q2 =>
 ((some q2.1).bind (AV.asInt .i64)).bind fun n3 =>
 some (.bool (decide (n3 ≥ 0)), q2.2) := (kb _ h).trans (by kernel_rfl)
theorem k5w (a1 : Sl) (a2 : Sl) (a3 : Sl) (a4 : Int) (a5 : Sl) (a6 : Sl) (a7 : Ref) (a8 : Ref) (a9 : Ref) (a10 : Sl) (a11 : Int) (a12 : Int) (a13 : Ref) (a14 : Sl) (a15 : Sl) (a16 : Sl) (a17 : Int) (a18 : Sl) (a19 : Sl) (a20 : Int) (a21 : Int) (a22 : Int) (a23 : Bool) (a24 : Sl) (a25 : Bool) (a26 : Sl) (a27 : Sl) (a28 : Sl) (a29 : Int) (a30 : Sl) (a31 : AV) (h : AH) : go (.pt F.kca Tr.kum [(0, .agg [a1.v, a2.v, a3.v]), (1, .agg [.int .i64 a4, a5.v]), (2, a6.v), (3, .ptr (some a7)), (4, .ptr (some a8)), (5, .ptr (some a9)), (6, a10.v), (7, .int .i64 a11), (8, .int .i64 a12), (9, .ptr (some a13)), (15, .agg [a14.v, a15.v, a16.v]), (16, .agg [.int .i64 a17, a18.v]), (17, a19.v), (18, .int .i64 a20), (19, .int .i64 a21), (20, .int .i64 a22), (21, .bool a23), (23, a24.v), (24, .bool a25), (25, .agg [a26.v, a27.v, a28.v]), (26, .agg [.int .i64 a29, a30.v]), (27, a31)]) h =
 funcK a31 fun g36 f37 c38 =>
 newM h (kdg Fx.ko8 F.kca 0 .ready none [(0, .agg [a1.v, a2.v, a3.v]), (1, .agg [.int .i64 a4, a5.v]), (2, a6.v), (3, .ptr (some a7)), (4, .ptr (some a8)), (5, .ptr (some a9)), (6, a10.v), (7, .int .i64 a11), (8, .int .i64 a12), (9, .ptr (some a13)), (15, .agg [a14.v, a15.v, a16.v]), (16, .agg [.int .i64 a17, a18.v]), (17, a19.v), (18, .int .i64 a20), (19, .int .i64 a21), (20, .int .i64 a22), (21, .bool a23), (23, a24.v), (24, .bool a25), (25, .agg [a26.v, a27.v, a28.v]), (26, .agg [.int .i64 a29, a30.v]), (27, a31)]) fun m32 h33 =>
 (callF Pg go g36 (f37 ++ [.func (.yield m32) [] []] ++ c38) h33).bind fun q34 =>
 (ke9 m32 q34.2).bind fun p35 =>
 go (.pt F.kca ((p35.1.map Item.code).toList ++ Ta.krl) [(0, .agg [a1.v, a2.v, a3.v]), (1, .agg [.int .i64 a4, a5.v]), (2, a6.v), (3, .ptr (some a7)), (4, .ptr (some a8)), (5, .ptr (some a9)), (6, a10.v), (7, .int .i64 a11), (8, .int .i64 a12), (9, .ptr (some a13)), (15, .agg [a14.v, a15.v, a16.v]), (16, .agg [.int .i64 a17, a18.v]), (17, a19.v), (18, .int .i64 a20), (19, .int .i64 a21), (20, .int .i64 a22), (21, .bool a23), (23, a24.v), (24, .bool a25), (25, .agg [a26.v, a27.v, a28.v]), (26, .agg [.int .i64 a29, a30.v]), (27, a31)]) p35.2 := (kb _ h).trans (by kernel_rfl)
theorem k4j (a1 : Sl) (h : AH) : go (.fn F.ki4 [a1.v]) h =
 (go (.fn F.keh [a1.v]) h).bind fun q2 =>
 ((some q2.1).bind AV.asBool).bind fun b3 =>
 cond (!b3) (
 some (.int .i64 0, q2.2)) (
 cond (decide ((a1.len : Int) = 0)) (
 some (.int .i64 0, q2.2)) (
 (idx a1.ref a1.len (IntKind.wrap .i64 ((a1.len : Int) - 1)) 1).bind fun r4 =>
 ((q2.2.cell r4).bind (AV.asInt .u64)).bind fun n5 =>
 (go (.fn F.khl [.int .u64 n5]) q2.2).bind fun q6 =>
 ((some q6.1).bind (AV.asInt .i64)).bind fun n7 =>
 some (.int .i64 (IntKind.wrap .i64 ((IntKind.wrap .i64 (64 * (IntKind.wrap .i64 ((a1.len : Int) - 1)))) + n7)), q6.2))) := (kb _ h).trans (by kernel_rfl)
theorem kzp (a1 : Sl) (h : AH) : go (.fn F.keh [a1.v]) h =
 cond (decide ((a1.len : Int) ≤ 64)) (
 cond (decide ((a1.len : Int) = 0)) (
 some (.bool true, h)) (
 (idx a1.ref a1.len (IntKind.wrap .i64 ((a1.len : Int) - 1)) 1).bind fun r2 =>
 ((h.cell r2).bind (AV.asInt .u64)).bind fun n3 =>
 some (.bool (!decide (n3 = 0)), h))) (
 some (.bool false, h)) := (kb _ h).trans (by kernel_rfl)
theorem k3n (a1 : Sl) (a2 : Int) (h : AH) : go (.fn F.kih [a1.v, .int .i64 a2]) h =
 (go (.fn F.keh [a1.v]) h).bind fun q3 =>
 ((some q3.1).bind AV.asBool).bind fun b4 =>
 cond b4 (
 cond (decide (a2 ≥ 0)) (
 cond (decide ((IntKind.wrap .i64 (Int.tdiv a2 64)) < (a1.len : Int))) (
 (idx a1.ref a1.len (IntKind.wrap .i64 (Int.tdiv a2 64)) 1).bind fun r5 =>
 ((q3.2.cell r5).bind (AV.asInt .u64)).bind fun n6 =>
 cond (decide ((Int.tmod a2 64) < 0)) none (
 some (.bool (decide ((iand .u64 (ishr .u64 n6 (Int.tmod a2 64)) 1) = 1)), q3.2))) (
 some (.bool false, q3.2))) (
 some (.bool false, q3.2))) (
 some (.bool false, q3.2)) := (kb _ h).trans (by kernel_rfl)
theorem k00 (a1 : Sl) (h : AH) : go (.fn F.kni [a1.v]) h =
 (go (.fn F.ki1 [a1.v, a1.v]) h).bind fun q2 =>
 (AV.asTup2 q2.1).bind fun p3 =>
 ((some p3.1).bind AV.asSl).bind fun l4 =>
 ((some p3.2).bind (AV.asInt .i64)).bind fun n5 =>
 some (l4.v, q2.2) := (kb _ h).trans (by kernel_rfl)
theorem kz8 (a1 : Sl) (a2 : Sl) (a3 : Sl) (h : AH) : go (.fn F.kn5 [a1.v, a2.v, a3.v]) h =
 (go (.fn F.keh [a1.v]) h).bind fun q4 =>
 ((some q4.1).bind AV.asBool).bind fun b5 =>
 cond (!b5) (
 some (.bool false, q4.2)) (
 cond (decide ((a1.len : Int) = 0)) (
 some (.bool false, q4.2)) (
 (go (.fn F.kmk [a1.v, a3.v]) q4.2).bind fun q6 =>
 ((some q6.1).bind (AV.asInt .i64)).bind fun n7 =>
 cond (decide (n7 ≥ 0)) (
 some (.bool false, q6.2)) (
 (go (.fn F.kfi [a1.v, a2.v]) q6.2).bind fun q8 =>
 (AV.asTup2 q8.1).bind fun p9 =>
 ((some p9.1).bind AV.asSl).bind fun l10 =>
 ((some p9.2).bind (AV.asInt .i64)).bind fun n11 =>
 newK q8.2 (.cells [.int .u64 1] T.ke) fun h12r h12 =>
 (go (.fn F.kmk [l10.v, (⟨some h12r, 1, .is 1⟩ : Sl).v]) h12).bind fun q13 =>
 ((some q13.1).bind (AV.asInt .i64)).bind fun n14 =>
 some (.bool (decide (n14 = 0)), q13.2)))) := (kb _ h).trans (by kernel_rfl)
theorem k0t (a1 : Sl) (a2 : Sl) (h : AH) : go (.fn F.kmk [a1.v, a2.v]) h =
 newK h (.cells [a1.v, a2.v] T.kp) fun h3r h3 =>
 (go (.fn F.khp [(⟨some h3r, 2, .is 2⟩ : Sl).v]) h3).bind fun q4 =>
 ((some q4.1).bind AV.asBool).bind fun b5 =>
 cond (!b5) (
 some (.int .i64 0, q4.2)) (
 (go (.fn F.keq [a1.v, a2.v]) q4.2).bind fun q6 =>
 ((some q6.1).bind (AV.asInt .i64)).bind fun n7 =>
 some (.int .i64 n7, q6.2)) := (kb _ h).trans (by kernel_rfl)
theorem k1d (a1 : Sl) (h : AH) : go (.fn F.kcn [a1.v]) h =
 cond (decide ((a1.len : Int) ≤ 64)) (
 cond (decide ((a1.len : Int) = 0)) (
 some (.bool true, h)) (
 (idx a1.ref a1.len (IntKind.wrap .i64 ((a1.len : Int) - 1)) 1).bind fun r2 =>
 ((h.cell r2).bind (AV.asInt .u64)).bind fun n3 =>
 some (.bool (!decide (n3 = 0)), h))) (
 some (.bool false, h)) := (kb _ h).trans (by kernel_rfl)
theorem kws (a1 : Sl) (h : AH) : go (.fn F.kd9 [a1.v]) h =
 (go (.fn F.kcn [a1.v]) h).bind fun q2 =>
 ((some q2.1).bind AV.asBool).bind fun b3 =>
 cond (!b3) (
 some (.int .i64 0, q2.2)) (
 cond (decide ((a1.len : Int) = 0)) (
 some (.int .i64 0, q2.2)) (
 (idx a1.ref a1.len (IntKind.wrap .i64 ((a1.len : Int) - 1)) 1).bind fun r4 =>
 ((q2.2.cell r4).bind (AV.asInt .u64)).bind fun n5 =>
 go (.pt F.kd9 Td.klv [(0, a1.v), (4, .int .i64 0), (5, .int .u64 n5)]) q2.2)) := (kb _ h).trans (by kernel_rfl)
theorem k5m (a1 : Sl) (a2 : Sl) (a3 : Sl) (h : AH) : go (.fn F.kkt [a1.v, a2.v, a3.v]) h =
 (go (.fn F.kcn [a1.v]) h).bind fun q4 =>
 ((some q4.1).bind AV.asBool).bind fun b5 =>
 cond (!b5) (
 some (.bool false, q4.2)) (
 cond (decide ((a1.len : Int) = 0)) (
 some (.bool false, q4.2)) (
 (go (.fn F.kld [a1.v, a3.v]) q4.2).bind fun q6 =>
 ((some q6.1).bind (AV.asInt .i64)).bind fun n7 =>
 cond (decide (n7 ≥ 0)) (
 some (.bool false, q6.2)) (
 (go (.fn F.ke0 [a1.v, a2.v]) q6.2).bind fun q8 =>
 (AV.asTup2 q8.1).bind fun p9 =>
 ((some p9.1).bind AV.asSl).bind fun l10 =>
 ((some p9.2).bind (AV.asInt .i64)).bind fun n11 =>
 (go (.fn F.kio [.int .u64 1]) q8.2).bind fun q12 =>
 ((some q12.1).bind AV.asSl).bind fun l13 =>
 (go (.fn F.kld [l10.v, l13.v]) q12.2).bind fun q14 =>
 ((some q14.1).bind (AV.asInt .i64)).bind fun n15 =>
 some (.bool (decide (n15 = 0)), q14.2)))) := (kb _ h).trans (by kernel_rfl)
theorem kbas (a1 : Sl) (a2 : Sl) (h : AH) : go (.fn F.kmt [a1.v, a2.v]) h =
 (go (.fn F.kcn [a1.v]) h).bind fun q3 =>
 ((some q3.1).bind AV.asBool).bind fun b4 =>
 (go (.fn F.kcn [a2.v]) q3.2).bind fun q5 =>
 ((some q5.1).bind AV.asBool).bind fun b6 =>
 cond (!b4) (
 some (.tup [(⟨none, 0, .is 0⟩ : Sl).v, .int .i64 1], q5.2)) (
 cond (!b6) (
 some (.tup [(⟨none, 0, .is 0⟩ : Sl).v, .int .i64 1], q5.2)) (
 (go (.fn F.kbr [a1.v]) q5.2).bind fun q7 =>
 ((some q7.1).bind AV.asSl).bind fun l8 =>
 (go (.fn F.kbr [a2.v]) q7.2).bind fun q9 =>
 ((some q9.1).bind AV.asSl).bind fun l10 =>
 (go (.fn F.kce [l8.v, l10.v]) q9.2).bind fun q11 =>
 ((some q11.1).bind AV.asSl).bind fun l12 =>
 (go (.fn F.kpm [l12.v]) q11.2).bind fun q13 =>
 (AV.asTup2 q13.1).bind fun p14 =>
 ((some p14.1).bind AV.asSl).bind fun l15 =>
 ((some p14.2).bind (AV.asInt .i64)).bind fun n16 =>
 some (.tup [l15.v, .int .i64 n16], q13.2))) := (kb _ h).trans (by kernel_rfl)
theorem k2z (a1 : Int) (h : AH) : go (.fn F.kio [.int .u64 a1]) h =
 cond (decide (a1 = 0)) (
 some ((⟨none, 0, .is 0⟩ : Sl).v, h)) (
 newK h (.cells [.int .u64 a1] T.ke) fun h2r h2 =>
 some ((⟨some h2r, 1, .is 1⟩ : Sl).v, h2)) := (kb _ h).trans (by kernel_rfl)
theorem k7o (a1 : Sl) (a2 : Sl) (h : AH) : go (.fn F.kld [a1.v, a2.v]) h =
 (go (.fn F.kcn [a1.v]) h).bind fun q3 =>
 ((some q3.1).bind AV.asBool).bind fun b4 =>
 (go (.fn F.kcn [a2.v]) q3.2).bind fun q5 =>
 ((some q5.1).bind AV.asBool).bind fun b6 =>
 cond (!b4) (
 some (.int .i64 0, q5.2)) (
 cond (!b6) (
 some (.int .i64 0, q5.2)) (
 (go (.fn F.kbr [a1.v]) q5.2).bind fun q7 =>
 ((some q7.1).bind AV.asSl).bind fun l8 =>
 (go (.fn F.kbr [a2.v]) q7.2).bind fun q9 =>
 ((some q9.1).bind AV.asSl).bind fun l10 =>
 (go (.fn F.ke5 [l8.v, l10.v]) q9.2).bind fun q11 =>
 ((some q11.1).bind (AV.asInt .i64)).bind fun n12 =>
 some (.int .i64 n12, q11.2))) := (kb _ h).trans (by kernel_rfl)
theorem kx8 (a1 : Sl) (a2 : Sl) (h : AH) : go (.fn F.klp [a1.v, a2.v]) h =
 (go (.fn F.kkn [a1.v, a2.v]) h).bind fun q3 =>
 (AV.asTup3 q3.1).bind fun p4 =>
 ((some p4.1).bind AV.asSl).bind fun l5 =>
 ((some p4.2.1).bind AV.asSl).bind fun l6 =>
 ((some p4.2.2).bind (AV.asInt .i64)).bind fun n7 =>
 some (l6.v, q3.2) := (kb _ h).trans (by kernel_rfl)
theorem kt3 (a1 : Ref) (a2 : Ref) (a3 : Int) (a4 : Int) (h : AH) : go (.pt F.kb5 Td.kmd [(3, .ptr (some a1)), (4, .ptr (some a2)), (7, .int .i64 a3), (9, .int .i64 a4)]) h =
 ((h.cell (a1.add 2)).bind AV.asSl).bind fun l5 =>
 cond (decide (a4 < (l5.len : Int))) (
 ((h.cell (a1.add 2)).bind AV.asSl).bind fun l6 =>
 (idx l6.ref l6.len a4 1).bind fun r7 =>
 ((h.cell r7).bind AV.asSl).bind fun l8 =>
 cond (decide ((IntKind.wrap .i64 (a3 + (l8.len : Int))) > 2000)) (
 some (.bool false, h)) (
 go (.pt F.kb5 Td.kmd [(3, .ptr (some a1)), (4, .ptr (some a2)), (7, .int .i64 (IntKind.wrap .i64 (a3 + (l8.len : Int)))), (9, .int .i64 (IntKind.wrap .i64 (a4 + 1)))]) h)) (
 go (.pt F.kb5 Td.kmo [(3, .ptr (some a1)), (4, .ptr (some a2)), (10, .int .i64 0), (11, .int .i64 0)]) h) := (kb _ h).trans (by kernel_rfl)
theorem kbaz (a1 : Sl) (a2 : Sl) (a3 : Sl) (h : AH) : go (.fn F.kfa [.agg [a1.v, a2.v, a3.v]]) h =
 newK h (.cells [a1.v, a2.v, a3.v] T.ku) fun h4r h4 =>
 ((h4.cell (h4r.add 0)).bind AV.asSl).bind fun l5 =>
 (go (.fn F.kou [l5.v]) h4).bind fun q6 =>
 ((some q6.1).bind AV.asBool).bind fun b7 =>
 cond (!b7) (
 some (.bool false, q6.2)) (
 ((q6.2.cell (h4r.add 2)).bind AV.asSl).bind fun l8 =>
 cond (decide ((l8.len : Int) > 16)) (
 some (.bool false, q6.2)) (
 ((q6.2.cell (h4r.add 1)).bind AV.asSl).bind fun l9 =>
 ((q6.2.cell (h4r.add 2)).bind AV.asSl).bind fun l10 =>
 cond (!decide ((l9.len : Int) = (l10.len : Int))) (
 some (.bool false, q6.2)) (
 ((q6.2.cell (h4r.add 2)).bind AV.asSl).bind fun l11 =>
 go (.pt F.kfa Td.kmy [(1, .ptr (some h4r)), (27, l11.v), (28, .int .i64 (l11.len : Int)), (29, .int .i64 0)]) q6.2))) := (kb _ h).trans (by kernel_rfl)
theorem kyx (a1 : Int) (a2 : Sl) (h : AH) : go (.fn F.kha [.agg [.int .i64 a1, a2.v]]) h =
 newK h (.cells [.int .i64 a1, a2.v] T.kn) fun h3r h3 =>
 ((h3.cell (h3r.add 0)).bind (AV.asInt .i64)).bind fun n4 =>
 cond (decide (n4 < 0)) (
 some (.bool false, h3)) (
 ((h3.cell (h3r.add 0)).bind (AV.asInt .i64)).bind fun n5 =>
 cond (decide (n5 > 65536)) (
 some (.bool false, h3)) (
 ((h3.cell (h3r.add 1)).bind AV.asSl).bind fun l6 =>
 ((h3.cell (h3r.add 0)).bind (AV.asInt .i64)).bind fun n7 =>
 cond (!decide ((l6.len : Int) = (IntKind.wrap .i64 (Int.tdiv (IntKind.wrap .i64 ((IntKind.wrap .i64 (n7 + 64)) - 1)) 64)))) (
 some (.bool false, h3)) (
 ((h3.cell (h3r.add 0)).bind (AV.asInt .i64)).bind fun n8 =>
 cond (decide ((Int.tmod n8 64) = 0)) (
 some (.bool true, h3)) (
 ((h3.cell (h3r.add 1)).bind AV.asSl).bind fun l9 =>
 ((h3.cell (h3r.add 1)).bind AV.asSl).bind fun l10 =>
 (idx l9.ref l9.len (IntKind.wrap .i64 ((l10.len : Int) - 1)) 1).bind fun r11 =>
 ((h3.cell r11).bind (AV.asInt .u64)).bind fun n12 =>
 ((h3.cell (h3r.add 0)).bind (AV.asInt .i64)).bind fun n13 =>
 cond (decide ((Int.tmod n13 64) < 0)) none (
 some (.bool (decide ((ishr .u64 n12 (Int.tmod n13 64)) = 0)), h3)))))) := (kb _ h).trans (by kernel_rfl)
theorem k9y (a1 : Sl) (a2 : Option Ref) (h : AH) : go (.fn F.kcv [a1.v, .func (.func F.kbm) [] [.ptr a2]]) h =
 go (.pt F.kcv Td.kev [(0, a1.v), (1, .func (.func F.kbm) [] [.ptr a2]), (7, .int .i64 (a1.len : Int)), (8, .int .i64 0)]) h := (kb _ h).trans (by kernel_rfl)
theorem k7w (l : Nat) (pe : Option Code) (a1 : Sl) (a2 : Sl) (a3 : Sl) (a4 : Sl) (a5 : Int) (a6 : Sl) (a7 : Sl) (a8 : Ref) (a9 : Ref) (a10 : Ref) (a11 : Ref) (a12 : Sl) (a13 : Int) (a14 : Int) (a15 : Ref) (a16 : Ref) (a17 : Sl) (a18 : Bool) (a19 : Bool) (a20 : Sl) (a21 : Sl) (a22 : Sl) (a23 : Int) (a24 : Sl) (a25 : Sl) (a26 : Int) (a27 : Int) (a28 : Int) (a29 : Bool) (a30 : Sl) (a31 : Ref) (a32 : Bool) (a33 : Sl) (a34 : AV) (a35 : Sl) (a36 : Sl) (a37 : Sl) (a38 : Int) (a39 : Sl) (a40 : AV) (a41 : AV) (a42 : Sl) (h : AH) (hb : h.blks[l]? = some (kdg Fx.kom F.kcg 0 .ready pe [(0, a1.v), (1, .agg [a2.v, a3.v, a4.v]), (2, .agg [.int .i64 a5, a6.v]), (3, a7.v), (4, .ptr (some a8)), (5, .ptr (some a9)), (6, .ptr (some a10)), (7, .ptr (some a11)), (8, a12.v), (9, .int .i64 a13), (10, .int .i64 a14), (11, .ptr (some a15)), (12, .ptr (some a16)), (18, a17.v), (19, .bool a18), (20, .bool a19), (21, .agg [a20.v, a21.v, a22.v]), (22, .agg [.int .i64 a23, a24.v]), (23, a25.v), (24, .int .i64 a26), (25, .int .i64 a27), (26, .int .i64 a28), (27, .bool a29), (29, a30.v), (30, .func (.func F.kbm) [] [.ptr (some a31)]), (31, .bool a32), (32, a33.v), (33, a34), (34, .agg [a35.v, a36.v, a37.v]), (35, .agg [.int .i64 a38, a39.v]), (36, a40)])) : go (.round l [a41, a42.v]) h =
 (beginA l h).bind fun h43 =>
 newK h43 (.cells [.int .u64 1] T.ke) fun h44r h44 =>
 go (.rpt l F.kcg Td.km3 [(7, .ptr (some a11)), (8, a12.v), (9, .int .i64 a13), (11, .ptr (some a15)), (12, .ptr (some a16)), (15, (⟨some h44r, 1, .is 1⟩ : Sl).v), (40, a42.v), (41, .int .i64 (a42.len : Int)), (42, .int .i64 0)]) h44 := (kb _ h).trans ((knk hb).trans (by kernel_rfl))
theorem k19 (a1 : Sl) (a2 : Sl) (a3 : Sl) (a4 : Sl) (a5 : Int) (a6 : Sl) (a7 : Sl) (a8 : Ref) (a9 : Ref) (a10 : Ref) (a11 : Ref) (a12 : Sl) (a13 : Int) (a14 : Int) (a15 : Ref) (a16 : Ref) (a17 : Sl) (a18 : Bool) (a19 : Bool) (a20 : Sl) (a21 : Sl) (a22 : Sl) (a23 : Int) (a24 : Sl) (a25 : Sl) (a26 : Int) (a27 : Int) (a28 : Int) (a29 : Bool) (a30 : Sl) (a31 : Ref) (a32 : Bool) (a33 : Sl) (a34 : AV) (a35 : Sl) (a36 : Sl) (a37 : Sl) (a38 : Int) (a39 : Sl) (a40 : AV) (h : AH) : go (.pt F.kcg ((Option.map Item.code none).toList ++ Ta.kqu) [(0, a1.v), (1, .agg [a2.v, a3.v, a4.v]), (2, .agg [.int .i64 a5, a6.v]), (3, a7.v), (4, .ptr (some a8)), (5, .ptr (some a9)), (6, .ptr (some a10)), (7, .ptr (some a11)), (8, a12.v), (9, .int .i64 a13), (10, .int .i64 a14), (11, .ptr (some a15)), (12, .ptr (some a16)), (18, a17.v), (19, .bool a18), (20, .bool a19), (21, .agg [a20.v, a21.v, a22.v]), (22, .agg [.int .i64 a23, a24.v]), (23, a25.v), (24, .int .i64 a26), (25, .int .i64 a27), (26, .int .i64 a28), (27, .bool a29), (29, a30.v), (30, .func (.func F.kbm) [] [.ptr (some a31)]), (31, .bool a32), (32, a33.v), (33, a34), (34, .agg [a35.v, a36.v, a37.v]), (35, .agg [.int .i64 a38, a39.v]), (36, a40)]) h =
 ((h.cell a16).bind AV.asSl).bind fun l41 =>
 some (.tup [l41.v, .int .i64 0], h) := (kb _ h).trans (by kernel_rfl)
theorem k1z (a1 : Sl) (a2 : Sl) (a3 : Sl) (h : AH) : go (.fn F.kch [.agg [a1.v, a2.v, a3.v]]) h =
 newK h (.cells [a1.v, a2.v, a3.v] T.ku) fun h4r h4 =>
 ((h4.cell (h4r.add 0)).bind AV.asSl).bind fun l5 =>
 (go (.fn F.kgs [l5.v]) h4).bind fun q6 =>
 ((some q6.1).bind AV.asBool).bind fun b7 =>
 cond (!b7) (
 some (.bool false, q6.2)) (
 ((q6.2.cell (h4r.add 2)).bind AV.asSl).bind fun l8 =>
 cond (decide ((l8.len : Int) > 16)) (
 some (.bool false, q6.2)) (
 ((q6.2.cell (h4r.add 1)).bind AV.asSl).bind fun l9 =>
 ((q6.2.cell (h4r.add 2)).bind AV.asSl).bind fun l10 =>
 cond (!decide ((l9.len : Int) = (l10.len : Int))) (
 some (.bool false, q6.2)) (
 go (.pt F.kch Td.kjq [(1, .ptr (some h4r)), (4, .int .i64 0)]) q6.2))) := (kb _ h).trans (by kernel_rfl)
theorem k24 (a1 : Int) (a2 : Sl) (h : AH) : go (.fn F.kff [.agg [.int .i64 a1, a2.v]]) h =
 newK h (.cells [.int .i64 a1, a2.v] T.kn) fun h3r h3 =>
 ((h3.cell (h3r.add 0)).bind (AV.asInt .i64)).bind fun n4 =>
 cond (decide (n4 < 0)) (
 some (.bool false, h3)) (
 ((h3.cell (h3r.add 0)).bind (AV.asInt .i64)).bind fun n5 =>
 cond (decide (n5 > 65536)) (
 some (.bool false, h3)) (
 ((h3.cell (h3r.add 1)).bind AV.asSl).bind fun l6 =>
 ((h3.cell (h3r.add 0)).bind (AV.asInt .i64)).bind fun n7 =>
 cond (!decide ((l6.len : Int) = (IntKind.wrap .i64 (Int.tdiv (IntKind.wrap .i64 (n7 + 63)) 64)))) (
 some (.bool false, h3)) (
 ((h3.cell (h3r.add 0)).bind (AV.asInt .i64)).bind fun n8 =>
 go (.pt F.kff Td.km4 [(1, .ptr (some h3r)), (3, .int .i64 n8)]) h3))) := (kb _ h).trans (by kernel_rfl)
theorem k6f (a1 : Int) (a2 : Sl) (h : AH) : go (.fn F.ke3 [.agg [.int .i64 a1, a2.v]]) h =
 newK h (.cells [.int .i64 a1, a2.v] T.kn) fun h3r h3 =>
 ((h3.cell (h3r.add 0)).bind (AV.asInt .i64)).bind fun n4 =>
 ((h3.cell (h3r.add 1)).bind AV.asSl).bind fun l5 =>
 (go (.fn F.kff [.agg [.int .i64 n4, l5.v]]) h3).bind fun q6 =>
 ((some q6.1).bind AV.asBool).bind fun b7 =>
 go (.pt F.ke3 Td.kil [(1, .ptr (some h3r)), (3, .bool b7), (4, (⟨none, 0, .is 0⟩ : Sl).v), (5, .int .i64 0)]) q6.2 := (kb _ h).trans (by kernel_rfl)
theorem k6h (a1 : Sl) (a2 : Sl) (a3 : Sl) (h : AH) : go (.fn F.kcx [.agg [a1.v, a2.v, a3.v]]) h =
 newK h (.cells [a1.v, a2.v, a3.v] T.ku) fun h4r h4 =>
 ((h4.cell (h4r.add 0)).bind AV.asSl).bind fun l5 =>
 ((h4.cell (h4r.add 1)).bind AV.asSl).bind fun l6 =>
 ((h4.cell (h4r.add 2)).bind AV.asSl).bind fun l7 =>
 (go (.fn F.kch [.agg [l5.v, l6.v, l7.v]]) h4).bind fun q8 =>
 ((some q8.1).bind AV.asBool).bind fun b9 =>
 go (.pt F.kcx Td.kjo [(1, .ptr (some h4r)), (3, .bool b9), (4, (⟨none, 0, .is 0⟩ : Sl).v), (5, .int .i64 0)]) q8.2 := (kb _ h).trans (by kernel_rfl)
theorem kr8 (a1 : Sl) (a2 : Ref) (a3 : Sl) (a4 : Sl) (a5 : Sl) (a6 : Sl) (a7 : Int) (h : AH) : go (.pt F.kbu Td.kid [(3, a1.v), (5, .ptr (some a2)), (14, a3.v), (15, a4.v), (16, a5.v), (17, a6.v), (18, .int .i64 a7)]) h =
 cond (decide (a7 < (a4.len : Int))) (
 (go (.fn F.kio [.int .u64 1]) h).bind fun q8 =>
 ((some q8.1).bind AV.asSl).bind fun l9 =>
 go (.pt F.kbu Td.ki6 [(3, a1.v), (5, .ptr (some a2)), (14, a3.v), (15, a4.v), (16, a5.v), (17, a6.v), (18, .int .i64 a7), (19, l9.v), (20, .int .i64 0)]) q8.2) (
 some (.tup [a6.v, .int .i64 0], h)) := (kb _ h).trans (by kernel_rfl)
theorem k8h (a1 : Sl) (a2 : Sl) (a3 : Sl) (a4 : Int) (a5 : Int) (h : AH) : go (.fn F.kei [.agg [a1.v, a2.v, a3.v], .int .i64 a4, .int .i64 a5]) h =
 newK h (.cells [a1.v, a2.v, a3.v] T.ku) fun h6r h6 =>
 newK h6 (.cells [.int .i64 0, (⟨none, 0, .is 0⟩ : Sl).v] T.kn) fun h7r h7 =>
 ((h7.cell (h6r.add 0)).bind AV.asSl).bind fun l8 =>
 ((h7.cell (h6r.add 1)).bind AV.asSl).bind fun l9 =>
 ((h7.cell (h6r.add 2)).bind AV.asSl).bind fun l10 =>
 (go (.fn F.kfa [.agg [l8.v, l9.v, l10.v]]) h7).bind fun q11 =>
 ((some q11.1).bind AV.asBool).bind fun b12 =>
 cond (!b12) (
 (q11.2.puts h7r [.int .i64 0, (⟨none, 0, .is 0⟩ : Sl).v]).bind fun h13 =>
 ((h13.cell (h7r.add 0)).bind (AV.asInt .i64)).bind fun n14 =>
 ((h13.cell (h7r.add 1)).bind AV.asSl).bind fun l15 =>
 some (.tup [.agg [.int .i64 n14, l15.v], .int .i64 20], h13)) (
 cond (decide (a4 < 0)) (
 (q11.2.puts h7r [.int .i64 0, (⟨none, 0, .is 0⟩ : Sl).v]).bind fun h16 =>
 ((h16.cell (h7r.add 0)).bind (AV.asInt .i64)).bind fun n17 =>
 ((h16.cell (h7r.add 1)).bind AV.asSl).bind fun l18 =>
 some (.tup [.agg [.int .i64 n17, l18.v], .int .i64 1], h16)) (
 ((q11.2.cell (h6r.add 2)).bind AV.asSl).bind fun l19 =>
 cond (decide (a4 ≥ (l19.len : Int))) (
 (q11.2.puts h7r [.int .i64 0, (⟨none, 0, .is 0⟩ : Sl).v]).bind fun h20 =>
 ((h20.cell (h7r.add 0)).bind (AV.asInt .i64)).bind fun n21 =>
 ((h20.cell (h7r.add 1)).bind AV.asSl).bind fun l22 =>
 some (.tup [.agg [.int .i64 n21, l22.v], .int .i64 1], h20)) (
 cond (decide (a5 < 0)) (
 (q11.2.puts h7r [.int .i64 0, (⟨none, 0, .is 0⟩ : Sl).v]).bind fun h23 =>
 ((h23.cell (h7r.add 0)).bind (AV.asInt .i64)).bind fun n24 =>
 ((h23.cell (h7r.add 1)).bind AV.asSl).bind fun l25 =>
 some (.tup [.agg [.int .i64 n24, l25.v], .int .i64 1], h23)) (
 ((q11.2.cell (h6r.add 1)).bind AV.asSl).bind fun l26 =>
 (idx l26.ref l26.len a4 1).bind fun r27 =>
 ((q11.2.cell r27).bind (AV.asInt .i64)).bind fun n28 =>
 cond (decide (a5 ≥ n28)) (
 (q11.2.puts h7r [.int .i64 0, (⟨none, 0, .is 0⟩ : Sl).v]).bind fun h29 =>
 ((h29.cell (h7r.add 0)).bind (AV.asInt .i64)).bind fun n30 =>
 ((h29.cell (h7r.add 1)).bind AV.asSl).bind fun l31 =>
 some (.tup [.agg [.int .i64 n30, l31.v], .int .i64 1], h29)) (
 ((q11.2.cell (h6r.add 2)).bind AV.asSl).bind fun l32 =>
 (idx l32.ref l32.len a4 1).bind fun r33 =>
 ((q11.2.cell r33).bind AV.asSl).bind fun l34 =>
 go (.pt F.kei Td.kip [(2, .int .i64 a5), (3, .ptr (some h6r)), (6, .ptr (some h7r)), (8, (⟨none, 0, .is 0⟩ : Sl).v), (44, l34.v), (45, .int .i64 (l34.len : Int)), (46, .int .i64 0)]) q11.2))))) := (kb _ h).trans (by kernel_rfl)
theorem k1b (a1 : Int) (a2 : Sl) (a3 : Int) (a4 : Sl) (h : AH) : go (.fn F.kko [.agg [.int .i64 a1, a2.v], .agg [.int .i64 a3, a4.v]]) h =
 newK h (.cells [.int .i64 a1, a2.v] T.kn) fun h5r h5 =>
 newK h5 (.cells [.int .i64 a3, a4.v] T.kn) fun h6r h6 =>
 newK h6 (.cells [.int .i64 0, (⟨none, 0, .is 0⟩ : Sl).v] T.kn) fun h7r h7 =>
 ((h7.cell (h5r.add 0)).bind (AV.asInt .i64)).bind fun n8 =>
 ((h7.cell (h5r.add 1)).bind AV.asSl).bind fun l9 =>
 ((h7.cell (h6r.add 0)).bind (AV.asInt .i64)).bind fun n10 =>
 ((h7.cell (h6r.add 1)).bind AV.asSl).bind fun l11 =>
 (go (.fn F.kgt [.agg [.int .i64 n8, l9.v], .agg [.int .i64 n10, l11.v], .func (.func F.kea) [] []]) h7).bind fun q12 =>
 (AV.asTup2 q12.1).bind fun p13 =>
 (AV.asAgg p13.1).bind fun cs14 =>
 cond (Nat.beq cs14.length 2) (
 ((cs14[0]?).bind (AV.asInt .i64)).bind fun n15 =>
 ((cs14[1]?).bind AV.asSl).bind fun l16 =>
 ((some p13.2).bind (AV.asInt .i64)).bind fun n17 =>
 (q12.2.puts h7r [.int .i64 n15, l16.v]).bind fun h18 =>
 ((h18.cell (h7r.add 0)).bind (AV.asInt .i64)).bind fun n19 =>
 ((h18.cell (h7r.add 1)).bind AV.asSl).bind fun l20 =>
 some (.tup [.agg [.int .i64 n19, l20.v], .int .i64 n17], h18)) none := (kb _ h).trans (by kernel_rfl)
theorem k36 (a1 : Int) (a2 : Sl) (h : AH) : go (.fn F.kk3 [.agg [.int .i64 a1, a2.v]]) h =
 newK h (.cells [.int .i64 a1, a2.v] T.kn) fun h3r h3 =>
 ((h3.cell (h3r.add 0)).bind (AV.asInt .i64)).bind fun n4 =>
 ((h3.cell (h3r.add 1)).bind AV.asSl).bind fun l5 =>
 (go (.fn F.kha [.agg [.int .i64 n4, l5.v]]) h3).bind fun q6 =>
 ((some q6.1).bind AV.asBool).bind fun b7 =>
 cond (!b7) (
 some ((⟨none, 0, .is 0⟩ : Sl).v, q6.2)) (
 ((q6.2.cell (h3r.add 0)).bind (AV.asInt .i64)).bind fun n8 =>
 ((q6.2.cell (h3r.add 1)).bind AV.asSl).bind fun l9 =>
 (go (.fn F.kna [.agg [.int .i64 n8, l9.v]]) q6.2).bind fun q10 =>
 (go (.fn F.kpq [q10.1]) q10.2).bind fun q11 =>
 ((some q11.1).bind AV.asSl).bind fun l12 =>
 some (l12.v, q11.2)) := (kb _ h).trans (by kernel_rfl)
theorem k4q (a1 : Int) (h : AH) : go (.fn F.kpz [.int .u64 a1]) h =
 cond (decide (a1 = 0)) (
 some (.int .i64 64, h)) (
 (idx (some (.old ⟨Gl.math_bits_deBruijn64tab, 0, none⟩)) 64 (ishr .u64 (IntKind.wrap .u64 ((iand .u64 a1 (IntKind.wrap .u64 (0 - a1))) * 285870213051353865)) 58) 1).bind fun r2 =>
 ((h.cell r2).bind (AV.asInt .u8)).bind fun n3 =>
 some (.int .i64 (IntKind.wrap .i64 n3), h)) := (kb _ h).trans (by kernel_rfl)
theorem k4x (a1 : Sl) (h : AH) : go (.fn F.kix [a1.v, .func (.func F.kdf) [] []]) h =
 (go (.fn F.kcv [a1.v, .func (.func F.kdf) [] []]) h).bind fun q2 =>
 ((some q2.1).bind (AV.asInt .i64)).bind fun n3 =>
 some (.bool (decide (n3 ≥ 0)), q2.2) := (kb _ h).trans (by kernel_rfl)
theorem kun (a1 : Sl) (a2 : Sl) (a3 : Int) (h : AH) : go (.pt F.keq Td.klx [(0, a1.v), (1, a2.v), (5, .int .i64 a3)]) h =
 cond (decide (a3 ≥ 0)) (
 (idx a1.ref a1.len a3 1).bind fun r4 =>
 ((h.cell r4).bind (AV.asInt .u64)).bind fun n5 =>
 (idx a2.ref a2.len a3 1).bind fun r6 =>
 ((h.cell r6).bind (AV.asInt .u64)).bind fun n7 =>
 cond (!decide (n5 = n7)) (
 (idx a1.ref a1.len a3 1).bind fun r8 =>
 ((h.cell r8).bind (AV.asInt .u64)).bind fun n9 =>
 (idx a2.ref a2.len a3 1).bind fun r10 =>
 ((h.cell r10).bind (AV.asInt .u64)).bind fun n11 =>
 cond (decide (n9 < n11)) (
 some (.int .i64 (-1), h)) (
 some (.int .i64 1, h))) (
 go (.pt F.keq Td.klx [(0, a1.v), (1, a2.v), (5, .int .i64 (IntKind.wrap .i64 (a3 - 1)))]) h)) (
 some (.int .i64 0, h)) := (kb _ h).trans (by kernel_rfl)
theorem k79 (a1 : Sl) (a2 : Int) (a3 : Sl) (a4 : Int) (a5 : Int) (h : AH) : go (.pt F.kd7 Td.kki [(0, a1.v), (1, .int .u64 a2), (6, a3.v), (7, .int .u64 a4), (8, .int .i64 a5)]) h =
 cond (decide (a5 ≥ 0)) (
 (idx a1.ref a1.len a5 1).bind fun r6 =>
 ((h.cell r6).bind (AV.asInt .u64)).bind fun n7 =>
 (go (.fn F.kbf [.int .u64 a4, .int .u64 n7, .int .u64 a2]) h).bind fun q8 =>
 (AV.asTup2 q8.1).bind fun p9 =>
 ((some p9.1).bind (AV.asInt .u64)).bind fun n10 =>
 ((some p9.2).bind (AV.asInt .u64)).bind fun n11 =>
 (idx a3.ref a3.len a5 1).bind fun r12 =>
 (q8.2.puts r12 [.int .u64 n10]).bind fun h13 =>
 go (.pt F.kd7 Td.kki [(0, a1.v), (1, .int .u64 a2), (6, a3.v), (7, .int .u64 n11), (8, .int .i64 (IntKind.wrap .i64 (a5 - 1)))]) h13) (
 (go (.fn F.kba [a3.v]) h).bind fun q14 =>
 ((some q14.1).bind AV.asSl).bind fun l15 =>
 some (.tup [l15.v, .int .u64 a4], q14.2)) := (kb _ h).trans (by kernel_rfl)
theorem k97 (a1 : Int) (h : AH) : go (.fn F.kml [.int .u64 a1]) h =
 (go (.fn F.khl [.int .u64 a1]) h).bind fun q2 =>
 ((some q2.1).bind (AV.asInt .i64)).bind fun n3 =>
 some (.int .i64 (IntKind.wrap .i64 (64 - n3)), q2.2) := (kb _ h).trans (by kernel_rfl)
theorem kw2 (a1 : Sl) (a2 : Int) (h : AH) : go (.fn F.kdy [a1.v, .int .u64 a2]) h =
 (kbl (IntKind.wrap .i64 ((a1.len : Int) + 1)) (IntKind.wrap .i64 ((a1.len : Int) + 1)) T.ke (Pg.bytesOf T.ke) [.int .u64 0] h).bind fun q3 =>
 go (.pt F.kdy Td.kiu [(1, .int .u64 a2), (5, q3.1.v), (12, a1.v), (13, .int .i64 (a1.len : Int)), (14, .int .i64 0)]) q3.2 := (kb _ h).trans (by kernel_rfl)
theorem k2y (a1 : Int) (a2 : Sl) (a3 : Sl) (a4 : Int) (a5 : Sl) (a6 : Int) (h : AH) : go (.pt F.kbp Td.klr [(6, .int .u64 a1), (7, a2.v), (8, a3.v), (9, .int .i64 a4), (10, a5.v), (11, .int .i64 a6)]) h =
 cond (decide (a6 ≥ 0)) (
 (idx a2.ref a2.len (IntKind.wrap .i64 (a6 + a4)) 1).bind fun r7 =>
 ((h.cell r7).bind (AV.asInt .u64)).bind fun n8 =>
 (idx a2.ref a2.len (IntKind.wrap .i64 ((IntKind.wrap .i64 (a6 + a4)) - 1)) 1).bind fun r9 =>
 ((h.cell r9).bind (AV.asInt .u64)).bind fun n10 =>
 (idx a2.ref a2.len (IntKind.wrap .i64 ((IntKind.wrap .i64 (a6 + a4)) - 2)) 1).bind fun r11 =>
 ((h.cell r11).bind (AV.asInt .u64)).bind fun n12 =>
 (idx a3.ref a3.len (IntKind.wrap .i64 (a4 - 1)) 1).bind fun r13 =>
 ((h.cell r13).bind (AV.asInt .u64)).bind fun n14 =>
 (idx a3.ref a3.len (IntKind.wrap .i64 (a4 - 2)) 1).bind fun r15 =>
 ((h.cell r15).bind (AV.asInt .u64)).bind fun n16 =>
 (go (.fn F.keb [.int .u64 n8, .int .u64 n10, .int .u64 n12, .int .u64 n14, .int .u64 n16]) h).bind fun q17 =>
 ((some q17.1).bind (AV.asInt .u64)).bind fun n18 =>
 (cutSl a2 a6 (IntKind.wrap .i64 ((IntKind.wrap .i64 (a6 + a4)) + 1)) 1).bind fun l19 =>
 go (.pt F.kbp Td.kkv [(6, .int .u64 a1), (7, a2.v), (8, a3.v), (9, .int .i64 a4), (10, a5.v), (11, .int .i64 a6), (12, .int .u64 n18), (13, l19.v)]) q17.2) (
 (go (.fn F.kba [a2.v]) h).bind fun q20 =>
 ((some q20.1).bind AV.asSl).bind fun l21 =>
 (kbl (l21.len : Int) (l21.len : Int) T.ke (Pg.bytesOf T.ke) [.int .u64 0] q20.2).bind fun q22 =>
 go (.pt F.kbp Td.khg [(6, .int .u64 a1), (10, a5.v), (15, l21.v), (16, q22.1.v), (112, .int .i64 (l21.len : Int)), (113, .int .i64 0)]) q22.2) := (kb _ h).trans (by kernel_rfl)
theorem k4c (a1 : Sl) (a2 : Sl) (a3 : Int) (a4 : Int) (a5 : Int) (a6 : Sl) (a7 : Int) (a8 : Int) (a9 : Sl) (a10 : Int) (a11 : Int) (h : AH) : go (.pt F.kcd Td.kkr [(1, a1.v), (5, a2.v), (6, .int .i64 a3), (7, .int .u64 a4), (8, .int .u64 a5), (20, a6.v), (21, .int .i64 a7), (22, .int .i64 a8), (27, a9.v), (28, .int .i64 a10), (29, .int .i64 a11)]) h =
 cond (decide (a11 < a10)) (
 (idx a9.ref a9.len a11 1).bind fun r12 =>
 ((h.cell r12).bind (AV.asInt .u64)).bind fun n13 =>
 (go (.fn F.kk1 [.int .u64 a4, .int .u64 n13]) h).bind fun q14 =>
 (AV.asTup2 q14.1).bind fun p15 =>
 ((some p15.1).bind (AV.asInt .u64)).bind fun n16 =>
 ((some p15.2).bind (AV.asInt .u64)).bind fun n17 =>
 (idx a2.ref a2.len (IntKind.wrap .i64 (a3 + a11)) 1).bind fun r18 =>
 ((q14.2.cell r18).bind (AV.asInt .u64)).bind fun n19 =>
 ((prim "math/bits.Add64" [.int .u64 n17, .int .u64 n19, .int .u64 0]).map fun v => (v, q14.2)).bind fun q20 =>
 (AV.asTup2 q20.1).bind fun p21 =>
 ((some p21.1).bind (AV.asInt .u64)).bind fun n22 =>
 ((some p21.2).bind (AV.asInt .u64)).bind fun n23 =>
 ((prim "math/bits.Add64" [.int .u64 n22, .int .u64 a5, .int .u64 0]).map fun v => (v, q20.2)).bind fun q24 =>
 (AV.asTup2 q24.1).bind fun p25 =>
 ((some p25.1).bind (AV.asInt .u64)).bind fun n26 =>
 ((some p25.2).bind (AV.asInt .u64)).bind fun n27 =>
 (idx a2.ref a2.len (IntKind.wrap .i64 (a3 + a11)) 1).bind fun r28 =>
 (q24.2.puts r28 [.int .u64 n26]).bind fun h29 =>
 go (.pt F.kcd Td.kkr [(1, a1.v), (5, a2.v), (6, .int .i64 a3), (7, .int .u64 a4), (8, .int .u64 (IntKind.wrap .u64 ((IntKind.wrap .u64 (n16 + n23)) + n27))), (20, a6.v), (21, .int .i64 a7), (22, .int .i64 a8), (27, a9.v), (28, .int .i64 a10), (29, .int .i64 (IntKind.wrap .i64 (a11 + 1)))]) h29) (
 (idx a2.ref a2.len (IntKind.wrap .i64 (a3 + (a1.len : Int))) 1).bind fun r30 =>
 (h.puts r30 [.int .u64 a5]).bind fun h31 =>
 go (.pt F.kcd Td.klo [(1, a1.v), (5, a2.v), (20, a6.v), (21, .int .i64 a7), (22, .int .i64 (IntKind.wrap .i64 (a8 + 1)))]) h31) := (kb _ h).trans (by kernel_rfl)
theorem k26 (a1 : Sl) (h : AH) : go (.fn F.ky [a1.v, .func (.func F.kct) [] []]) h =
 go (.pt F.ky Td.kby [(0, a1.v), (1, .func (.func F.kct) [] []), (7, .int .i64 (a1.len : Int)), (8, .int .i64 0)]) h := (kb _ h).trans (by kernel_rfl)
theorem kxl (l : Nat) (pe : Option Code) (a1 : Sl) (a2 : Sl) (a3 : Sl) (a4 : Int) (a5 : Sl) (a6 : Sl) (a7 : Ref) (a8 : Ref) (a9 : Ref) (a10 : Sl) (a11 : Int) (a12 : Int) (a13 : Ref) (a14 : Sl) (a15 : Sl) (a16 : Sl) (a17 : Int) (a18 : Sl) (a19 : Sl) (a20 : Int) (a21 : Int) (a22 : Int) (a23 : Bool) (a24 : Sl) (a25 : Bool) (a26 : Sl) (a27 : Sl) (a28 : Sl) (a29 : Int) (a30 : Sl) (a31 : AV) (a32 : AV) (a33 : Sl) (h : AH) (hb : h.blks[l]? = some (kdg Fx.ko8 F.kca 0 .ready pe [(0, .agg [a1.v, a2.v, a3.v]), (1, .agg [.int .i64 a4, a5.v]), (2, a6.v), (3, .ptr (some a7)), (4, .ptr (some a8)), (5, .ptr (some a9)), (6, a10.v), (7, .int .i64 a11), (8, .int .i64 a12), (9, .ptr (some a13)), (15, .agg [a14.v, a15.v, a16.v]), (16, .agg [.int .i64 a17, a18.v]), (17, a19.v), (18, .int .i64 a20), (19, .int .i64 a21), (20, .int .i64 a22), (21, .bool a23), (23, a24.v), (24, .bool a25), (25, .agg [a26.v, a27.v, a28.v]), (26, .agg [.int .i64 a29, a30.v]), (27, a31)])) : go (.round l [a32, a33.v]) h =
 (beginA l h).bind fun h34 =>
 newK h34 (.cells [.int .i64 0, .int .i64 0] T.kbs) fun h35r h35 =>
 (h35.puts h35r [.int .i64 0, .int .i64 (a33.len : Int)]).bind fun h36 =>
 go (.rpt l F.kca Td.km6 [(5, .ptr (some a9)), (6, a10.v), (7, .int .i64 a11), (9, .ptr (some a13)), (12, .ptr (some h35r)), (33, a33.v), (34, .int .i64 (a33.len : Int)), (35, .int .i64 0)]) h36 := (kb _ h).trans ((knk hb).trans (by kernel_rfl))
theorem k7z (a1 : Sl) (a2 : Sl) (a3 : Sl) (a4 : Int) (a5 : Sl) (a6 : Sl) (a7 : Ref) (a8 : Ref) (a9 : Ref) (a10 : Sl) (a11 : Int) (a12 : Int) (a13 : Ref) (a14 : Sl) (a15 : Sl) (a16 : Sl) (a17 : Int) (a18 : Sl) (a19 : Sl) (a20 : Int) (a21 : Int) (a22 : Int) (a23 : Bool) (a24 : Sl) (a25 : Bool) (a26 : Sl) (a27 : Sl) (a28 : Sl) (a29 : Int) (a30 : Sl) (a31 : AV) (h : AH) : go (.pt F.kca ((Option.map Item.code none).toList ++ Ta.krl) [(0, .agg [a1.v, a2.v, a3.v]), (1, .agg [.int .i64 a4, a5.v]), (2, a6.v), (3, .ptr (some a7)), (4, .ptr (some a8)), (5, .ptr (some a9)), (6, a10.v), (7, .int .i64 a11), (8, .int .i64 a12), (9, .ptr (some a13)), (15, .agg [a14.v, a15.v, a16.v]), (16, .agg [.int .i64 a17, a18.v]), (17, a19.v), (18, .int .i64 a20), (19, .int .i64 a21), (20, .int .i64 a22), (21, .bool a23), (23, a24.v), (24, .bool a25), (25, .agg [a26.v, a27.v, a28.v]), (26, .agg [.int .i64 a29, a30.v]), (27, a31)]) h =
 ((h.cell a13).bind AV.asSl).bind fun l32 =>
 some (.tup [l32.v, .int .i64 0], h) := (kb _ h).trans (by kernel_rfl)
theorem k03 (a1 : Int) (h : AH) : go (.fn F.khl [.int .u64 a1]) h =
 cond (decide (a1 ≥ 4294967296)) (
 cond (decide ((ishr .u64 a1 32) ≥ 65536)) (
 cond (decide ((ishr .u64 (ishr .u64 a1 32) 16) ≥ 256)) (
 cond (decide (0 ≤ (IntKind.wrap .u8 (ishr .u64 (ishr .u64 (ishr .u64 a1 32) 16) 8)))) (
 (lit1[Int.toNat (IntKind.wrap .u8 (ishr .u64 (ishr .u64 (ishr .u64 a1 32) 16) 8))]?).bind fun b2 =>
 some (.int .i64 (IntKind.wrap .i64 ((IntKind.wrap .i64 ((IntKind.wrap .i64 (32 + 16)) + 8)) + (IntKind.wrap .i64 (b2.toNat : Int)))), h)) none) (
 cond (decide (0 ≤ (IntKind.wrap .u8 (ishr .u64 (ishr .u64 a1 32) 16)))) (
 (lit1[Int.toNat (IntKind.wrap .u8 (ishr .u64 (ishr .u64 a1 32) 16))]?).bind fun b3 =>
 some (.int .i64 (IntKind.wrap .i64 ((IntKind.wrap .i64 (32 + 16)) + (IntKind.wrap .i64 (b3.toNat : Int)))), h)) none)) (
 cond (decide ((ishr .u64 a1 32) ≥ 256)) (
 cond (decide (0 ≤ (IntKind.wrap .u8 (ishr .u64 (ishr .u64 a1 32) 8)))) (
 (lit1[Int.toNat (IntKind.wrap .u8 (ishr .u64 (ishr .u64 a1 32) 8))]?).bind fun b4 =>
 some (.int .i64 (IntKind.wrap .i64 ((IntKind.wrap .i64 (32 + 8)) + (IntKind.wrap .i64 (b4.toNat : Int)))), h)) none) (
 cond (decide (0 ≤ (IntKind.wrap .u8 (ishr .u64 a1 32)))) (
 (lit1[Int.toNat (IntKind.wrap .u8 (ishr .u64 a1 32))]?).bind fun b5 =>
 some (.int .i64 (IntKind.wrap .i64 (32 + (IntKind.wrap .i64 (b5.toNat : Int)))), h)) none))) (
 cond (decide (a1 ≥ 65536)) (
 cond (decide ((ishr .u64 a1 16) ≥ 256)) (
 cond (decide (0 ≤ (IntKind.wrap .u8 (ishr .u64 (ishr .u64 a1 16) 8)))) (
 (lit1[Int.toNat (IntKind.wrap .u8 (ishr .u64 (ishr .u64 a1 16) 8))]?).bind fun b6 =>
 some (.int .i64 (IntKind.wrap .i64 ((IntKind.wrap .i64 ((IntKind.wrap .i64 (0 + 16)) + 8)) + (IntKind.wrap .i64 (b6.toNat : Int)))), h)) none) (
 cond (decide (0 ≤ (IntKind.wrap .u8 (ishr .u64 a1 16)))) (
 (lit1[Int.toNat (IntKind.wrap .u8 (ishr .u64 a1 16))]?).bind fun b7 =>
 some (.int .i64 (IntKind.wrap .i64 ((IntKind.wrap .i64 (0 + 16)) + (IntKind.wrap .i64 (b7.toNat : Int)))), h)) none)) (
 cond (decide (a1 ≥ 256)) (
 cond (decide (0 ≤ (IntKind.wrap .u8 (ishr .u64 a1 8)))) (
 (lit1[Int.toNat (IntKind.wrap .u8 (ishr .u64 a1 8))]?).bind fun b8 =>
 some (.int .i64 (IntKind.wrap .i64 ((IntKind.wrap .i64 (0 + 8)) + (IntKind.wrap .i64 (b8.toNat : Int)))), h)) none) (
 cond (decide (0 ≤ (IntKind.wrap .u8 a1))) (
 (lit1[Int.toNat (IntKind.wrap .u8 a1)]?).bind fun b9 =>
 some (.int .i64 (IntKind.wrap .i64 (0 + (IntKind.wrap .i64 (b9.toNat : Int)))), h)) none))) := (kb _ h).trans (by kernel_rfl)
theorem kzh (a1 : Sl) (a2 : Sl) (h : AH) : go (.fn F.kfi [a1.v, a2.v]) h =
 (go (.fn F.keh [a1.v]) h).bind fun q3 =>
 ((some q3.1).bind AV.asBool).bind fun b4 =>
 cond (!b4) (
 some (.tup [(⟨none, 0, .is 0⟩ : Sl).v, .int .i64 1], q3.2)) (
 (go (.fn F.keh [a2.v]) q3.2).bind fun q5 =>
 ((some q5.1).bind AV.asBool).bind fun b6 =>
 cond (!b6) (
 some (.tup [(⟨none, 0, .is 0⟩ : Sl).v, .int .i64 1], q5.2)) (
 (go (.fn F.khv [a1.v]) q5.2).bind fun q7 =>
 ((some q7.1).bind AV.asSl).bind fun l8 =>
 (go (.fn F.khv [a2.v]) q7.2).bind fun q9 =>
 ((some q9.1).bind AV.asSl).bind fun l10 =>
 go (.pt F.kfi Td.kmn [(0, l8.v), (1, l10.v)]) q9.2)) := (kb _ h).trans (by kernel_rfl)
theorem kba3 (a1 : Sl) (a2 : Int) (a3 : Int) (h : AH) : go (.pt F.kd9 Td.klv [(0, a1.v), (4, .int .i64 a2), (5, .int .u64 a3)]) h =
 cond (decide (a3 > 0)) (
 go (.pt F.kd9 Td.klv [(0, a1.v), (4, .int .i64 (IntKind.wrap .i64 (a2 + 1))), (5, .int .u64 (IntKind.wrap .u64 (Int.tdiv a3 2)))]) h) (
 some (.int .i64 (IntKind.wrap .i64 (a2 + (IntKind.wrap .i64 (64 * (IntKind.wrap .i64 ((a1.len : Int) - 1)))))), h)) := (kb _ h).trans (by kernel_rfl)
theorem kbae (a1 : Sl) (a2 : Sl) (h : AH) : go (.fn F.ke0 [a1.v, a2.v]) h =
 (go (.fn F.kcn [a1.v]) h).bind fun q3 =>
 ((some q3.1).bind AV.asBool).bind fun b4 =>
 (go (.fn F.kcn [a2.v]) q3.2).bind fun q5 =>
 ((some q5.1).bind AV.asBool).bind fun b6 =>
 cond (!b4) (
 some (.tup [(⟨none, 0, .is 0⟩ : Sl).v, .int .i64 1], q5.2)) (
 cond (!b6) (
 some (.tup [(⟨none, 0, .is 0⟩ : Sl).v, .int .i64 1], q5.2)) (
 newK q5.2 (.cells [] T.ke) fun h7r h7 =>
 (kbc Pg T.ke a1.v h7).bind fun p9 =>
 (kr Pg (⟨some h7r, 0, .is 0⟩ : Sl) p9.1 p9.2 T.ke 1 h7).bind fun q8 =>
 (AV.asSl q8.1).bind fun l10 =>
 newK q8.2 (.cells [] T.ke) fun h11r h11 =>
 (kbc Pg T.ke a2.v h11).bind fun p13 =>
 (kr Pg (⟨some h11r, 0, .is 0⟩ : Sl) p13.1 p13.2 T.ke 1 h11).bind fun q12 =>
 (AV.asSl q12.1).bind fun l14 =>
 go (.pt F.ke0 Td.kj2 [(8, l10.v), (9, l14.v)]) q12.2)) := (kb _ h).trans (by kernel_rfl)
theorem kbak (a1 : Sl) (h : AH) : go (.fn F.kbr [a1.v]) h =
 go (.pt F.kbr Td.kia [(0, a1.v), (3, (⟨none, 0, .is 0⟩ : Sl).v), (4, .int .i64 0)]) h := (kb _ h).trans (by kernel_rfl)
theorem k50 (a1 : Sl) (a2 : Sl) (h : AH) : go (.fn F.kce [a1.v, a2.v]) h =
 (kbl (IntKind.wrap .i64 ((a1.len : Int) + (a2.len : Int))) (IntKind.wrap .i64 ((a1.len : Int) + (a2.len : Int))) T.ke (Pg.bytesOf T.ke) [.int .u64 0] h).bind fun q3 =>
 go (.pt F.kce Td.kle [(0, a1.v), (1, a2.v), (5, q3.1.v), (6, .int .i64 0)]) q3.2 := (kb _ h).trans (by kernel_rfl)
theorem k7p (a1 : Sl) (h : AH) : go (.fn F.kpm [a1.v]) h =
 (go (.fn F.kbv [a1.v]) h).bind fun q2 =>
 (AV.asTup2 q2.1).bind fun p3 =>
 ((some p3.1).bind AV.asSl).bind fun l4 =>
 ((some p3.2).bind AV.asBool).bind fun b5 =>
 cond (!b5) (
 some (.tup [(⟨none, 0, .is 0⟩ : Sl).v, .int .i64 4], q2.2)) (
 some (.tup [l4.v, .int .i64 0], q2.2)) := (kb _ h).trans (by kernel_rfl)
theorem k8q (a1 : Sl) (a2 : Sl) (h : AH) : go (.fn F.ke5 [a1.v, a2.v]) h =
 cond (!decide ((a1.len : Int) = (a2.len : Int))) (
 cond (decide ((a1.len : Int) < (a2.len : Int))) (
 some (.int .i64 (-1), h)) (
 some (.int .i64 1, h))) (
 go (.pt F.ke5 Td.km5 [(0, a1.v), (1, a2.v), (5, .int .i64 (IntKind.wrap .i64 ((a1.len : Int) - 1)))]) h) := (kb _ h).trans (by kernel_rfl)
theorem k5a (a1 : Sl) (a2 : Sl) (h : AH) : go (.fn F.kkn [a1.v, a2.v]) h =
 (go (.fn F.kcn [a1.v]) h).bind fun q3 =>
 ((some q3.1).bind AV.asBool).bind fun b4 =>
 (go (.fn F.kcn [a2.v]) q3.2).bind fun q5 =>
 ((some q5.1).bind AV.asBool).bind fun b6 =>
 cond (!b4) (
 some (.tup [(⟨none, 0, .is 0⟩ : Sl).v, (⟨none, 0, .is 0⟩ : Sl).v, .int .i64 1], q5.2)) (
 cond (!b6) (
 some (.tup [(⟨none, 0, .is 0⟩ : Sl).v, (⟨none, 0, .is 0⟩ : Sl).v, .int .i64 1], q5.2)) (
 cond (decide ((a2.len : Int) = 0)) (
 some (.tup [(⟨none, 0, .is 0⟩ : Sl).v, (⟨none, 0, .is 0⟩ : Sl).v, .int .i64 3], q5.2)) (
 (go (.fn F.kbr [a1.v]) q5.2).bind fun q7 =>
 ((some q7.1).bind AV.asSl).bind fun l8 =>
 (go (.fn F.kbr [a2.v]) q7.2).bind fun q9 =>
 ((some q9.1).bind AV.asSl).bind fun l10 =>
 (go (.fn F.kck [l8.v, l10.v]) q9.2).bind fun q11 =>
 (AV.asTup2 q11.1).bind fun p12 =>
 ((some p12.1).bind AV.asSl).bind fun l13 =>
 ((some p12.2).bind AV.asSl).bind fun l14 =>
 (go (.fn F.kbv [l13.v]) q11.2).bind fun q15 =>
 (AV.asTup2 q15.1).bind fun p16 =>
 ((some p16.1).bind AV.asSl).bind fun l17 =>
 ((some p16.2).bind AV.asBool).bind fun b18 =>
 (go (.fn F.kbv [l14.v]) q15.2).bind fun q19 =>
 (AV.asTup2 q19.1).bind fun p20 =>
 ((some p20.1).bind AV.asSl).bind fun l21 =>
 ((some p20.2).bind AV.asBool).bind fun b22 =>
 some (.tup [l17.v, l21.v, .int .i64 0], q19.2)))) := (kb _ h).trans (by kernel_rfl)
theorem kv7 (a1 : Ref) (a2 : Ref) (a3 : Int) (a4 : Int) (h : AH) : go (.pt F.kb5 Td.kmo [(3, .ptr (some a1)), (4, .ptr (some a2)), (10, .int .i64 a3), (11, .int .i64 a4)]) h =
 ((h.cell (a1.add 1)).bind AV.asSl).bind fun l5 =>
 cond (decide (a4 < (l5.len : Int))) (
 cond (decide (a4 < 20)) (
 ((h.cell (a1.add 1)).bind AV.asSl).bind fun l6 =>
 (idx l6.ref l6.len a4 1).bind fun r7 =>
 ((h.cell r7).bind (AV.asInt .i64)).bind fun n8 =>
 go (.pt F.kb5 Td.kmo [(3, .ptr (some a1)), (4, .ptr (some a2)), (10, .int .i64 (IntKind.wrap .i64 (a3 + (imax 0 (imin n8 32))))), (11, .int .i64 (IntKind.wrap .i64 (a4 + 1)))]) h) (
 ((h.cell (a1.add 0)).bind AV.asSl).bind fun l9 =>
 cond (decide ((l9.len : Int) ≤ 300)) (
 ((h.cell (a2.add 1)).bind AV.asSl).bind fun l10 =>
 cond (decide ((l10.len : Int) ≤ 2000)) (
 ((h.cell (a1.add 0)).bind AV.asSl).bind fun l11 =>
 some (.bool (decide ((IntKind.wrap .i64 (a3 * (l11.len : Int))) ≤ 3000)), h)) (
 some (.bool false, h))) (
 some (.bool false, h)))) (
 ((h.cell (a1.add 0)).bind AV.asSl).bind fun l12 =>
 cond (decide ((l12.len : Int) ≤ 300)) (
 ((h.cell (a2.add 1)).bind AV.asSl).bind fun l13 =>
 cond (decide ((l13.len : Int) ≤ 2000)) (
 ((h.cell (a1.add 0)).bind AV.asSl).bind fun l14 =>
 some (.bool (decide ((IntKind.wrap .i64 (a3 * (l14.len : Int))) ≤ 3000)), h)) (
 some (.bool false, h))) (
 some (.bool false, h))) := (kb _ h).trans (by kernel_rfl)
theorem kw0 (a1 : Sl) (h : AH) : go (.fn F.kou [a1.v]) h =
 cond (decide ((a1.len : Int) ≤ 256)) (
 (go (.fn F.kc2 [a1.v, .func (.func F.kc5) [] []]) h).bind fun q2 =>
 ((some q2.1).bind AV.asBool).bind fun b3 =>
 cond (!b3) (
 (go (.fn F.kgj [a1.v]) q2.2).bind fun q4 =>
 ((some q4.1).bind AV.asMap).bind fun m5 =>
 (mapLen q4.2 m5).bind fun n6 =>
 some (.bool (decide ((n6 : Int) = (a1.len : Int))), q4.2)) (
 some (.bool false, q2.2))) (
 some (.bool false, h)) := (kb _ h).trans (by kernel_rfl)
theorem kq1 (a1 : Ref) (a2 : Sl) (a3 : Int) (a4 : Int) (h : AH) : go (.pt F.kfa Td.kmy [(1, .ptr (some a1)), (27, a2.v), (28, .int .i64 a3), (29, .int .i64 a4)]) h =
 cond (decide (a4 < a3)) (
 (idx a2.ref a2.len a4 1).bind fun r5 =>
 ((h.cell r5).bind AV.asSl).bind fun l6 =>
 ((h.cell (a1.add 1)).bind AV.asSl).bind fun l7 =>
 (idx l7.ref l7.len a4 1).bind fun r8 =>
 ((h.cell r8).bind (AV.asInt .i64)).bind fun n9 =>
 newK h (.cells [.int .i64 0] T.int) fun h10r h10 =>
 (h10.puts h10r [.int .i64 n9]).bind fun h11 =>
 ((h11.cell h10r).bind (AV.asInt .i64)).bind fun n12 =>
 cond (decide (n12 < 2)) (
 some (.bool false, h11)) (
 ((h11.cell h10r).bind (AV.asInt .i64)).bind fun n13 =>
 cond (decide (n13 > 32)) (
 some (.bool false, h11)) (
 ((h11.cell (a1.add 0)).bind AV.asSl).bind fun l14 =>
 cond (!decide ((l6.len : Int) = (l14.len : Int))) (
 some (.bool false, h11)) (
 (go (.fn F.kc2 [l6.v, .func (.func F.kcp) [] [.ptr (some h10r)]]) h11).bind fun q15 =>
 ((some q15.1).bind AV.asBool).bind fun b16 =>
 cond b16 (
 some (.bool false, q15.2)) (
 go (.pt F.kfa Td.kmy [(1, .ptr (some a1)), (27, a2.v), (28, .int .i64 a3), (29, .int .i64 (IntKind.wrap .i64 (a4 + 1)))]) q15.2))))) (
 some (.bool true, h)) := (kb _ h).trans (by kernel_rfl)
theorem krj (a1 : Sl) (a2 : Option Ref) (a3 : Int) (a4 : Int) (h : AH) : go (.pt F.kcv Td.kev [(0, a1.v), (1, .func (.func F.kbm) [] [.ptr a2]), (7, .int .i64 a3), (8, .int .i64 a4)]) h =
 cond (decide (a4 < a3)) (
 (idx a1.ref a1.len a4 1).bind fun r5 =>
 ((h.cell r5).bind AV.asSl).bind fun l6 =>
 (go (.fn F.kbm [l6.v, .ptr a2]) h).bind fun q7 =>
 ((some q7.1).bind AV.asBool).bind fun b8 =>
 cond b8 (
 some (.int .i64 a4, q7.2)) (
 go (.pt F.kcv Td.kev [(0, a1.v), (1, .func (.func F.kbm) [] [.ptr a2]), (7, .int .i64 a3), (8, .int .i64 (IntKind.wrap .i64 (a4 + 1)))]) q7.2)) (
 some (.int .i64 (-1), h)) := (kb _ h).trans (by kernel_rfl)
theorem ktg (a1 : Ref) (a2 : Sl) (a3 : Int) (a4 : Ref) (a5 : Ref) (a6 : Sl) (a7 : Sl) (a8 : Int) (a9 : Int) (l : Nat) (h : AH) : go (.rpt l F.kcg Td.km3 [(7, .ptr (some a1)), (8, a2.v), (9, .int .i64 a3), (11, .ptr (some a4)), (12, .ptr (some a5)), (15, a6.v), (40, a7.v), (41, .int .i64 a8), (42, .int .i64 a9)]) h =
 cond (decide (a9 < a8)) (
 (idx a7.ref a7.len a9 1).bind fun r10 =>
 ((h.cell r10).bind (AV.asInt .i64)).bind fun n11 =>
 (h.cell a4).bind fun v12 =>
 ((h.cell a1).bind AV.asSl).bind fun l13 =>
 (idx l13.ref l13.len n11 1).bind fun r14 =>
 ((h.cell r14).bind AV.asSl).bind fun l15 =>
 (callV Pg go v12 [a6.v, l15.v] h).bind fun q16 =>
 ((some q16.1).bind AV.asSl).bind fun l17 =>
 go (.rpt l F.kcg Td.km3 [(7, .ptr (some a1)), (8, a2.v), (9, .int .i64 a3), (11, .ptr (some a4)), (12, .ptr (some a5)), (15, l17.v), (40, a7.v), (41, .int .i64 a8), (42, .int .i64 (IntKind.wrap .i64 (a9 + 1)))]) q16.2) (
 ((h.cell a5).bind AV.asSl).bind fun l18 =>
 newK h (.cells [a6.v] T.kp) fun h19r h19 =>
 (kbc Pg T.kp ((⟨some h19r, 1, .is 1⟩ : Sl).v) h19).bind fun p21 =>
 (kr Pg l18 p21.1 p21.2 T.kp 1 h19).bind fun q20 =>
 (AV.asSl q20.1).bind fun l22 =>
 (q20.2.puts a5 [l22.v]).bind fun h23 =>
 kb4 l none h23) := (kb _ h).trans (by kernel_rfl)
theorem kzv (a1 : Sl) (h : AH) : go (.fn F.kgs [a1.v]) h =
 cond (decide ((a1.len : Int) > 256)) (
 some (.bool false, h)) (
 go (.pt F.kgs Td.klm [(0, a1.v), (3, .int .i64 0)]) h) := (kb _ h).trans (by kernel_rfl)
theorem kuv (a1 : Ref) (a2 : Int) (h : AH) : go (.pt F.kch Td.kjq [(1, .ptr (some a1)), (4, .int .i64 a2)]) h =
 ((h.cell (a1.add 2)).bind AV.asSl).bind fun l3 =>
 cond (decide (a2 < (l3.len : Int))) (
 ((h.cell (a1.add 1)).bind AV.asSl).bind fun l4 =>
 (idx l4.ref l4.len a2 1).bind fun r5 =>
 ((h.cell r5).bind (AV.asInt .i64)).bind fun n6 =>
 cond (decide (n6 < 2)) (
 some (.bool false, h)) (
 ((h.cell (a1.add 1)).bind AV.asSl).bind fun l7 =>
 (idx l7.ref l7.len a2 1).bind fun r8 =>
 ((h.cell r8).bind (AV.asInt .i64)).bind fun n9 =>
 cond (decide (n9 > 32)) (
 some (.bool false, h)) (
 ((h.cell (a1.add 2)).bind AV.asSl).bind fun l10 =>
 (idx l10.ref l10.len a2 1).bind fun r11 =>
 ((h.cell r11).bind AV.asSl).bind fun l12 =>
 ((h.cell (a1.add 0)).bind AV.asSl).bind fun l13 =>
 cond (!decide ((l12.len : Int) = (l13.len : Int))) (
 some (.bool false, h)) (
 go (.pt F.kch Td.kla [(1, .ptr (some a1)), (4, .int .i64 a2), (5, .int .i64 0)]) h)))) (
 some (.bool true, h)) := (kb _ h).trans (by kernel_rfl)
theorem krm (a1 : Ref) (a2 : Int) (h : AH) : go (.pt F.kff Td.km4 [(1, .ptr (some a1)), (3, .int .i64 a2)]) h =
 ((h.cell (a1.add 1)).bind AV.asSl).bind fun l3 =>
 cond (decide (a2 < (IntKind.wrap .i64 (64 * (l3.len : Int))))) (
 ((h.cell (a1.add 0)).bind (AV.asInt .i64)).bind fun n4 =>
 ((h.cell (a1.add 1)).bind AV.asSl).bind fun l5 =>
 (go (.fn F.kex [.agg [.int .i64 n4, l5.v], .int .i64 a2]) h).bind fun q6 =>
 ((some q6.1).bind AV.asBool).bind fun b7 =>
 cond b7 (
 some (.bool false, q6.2)) (
 go (.pt F.kff Td.km4 [(1, .ptr (some a1)), (3, .int .i64 (IntKind.wrap .i64 (a2 + 1)))]) q6.2)) (
 some (.bool true, h)) := (kb _ h).trans (by kernel_rfl)
theorem kqb (a1 : Ref) (a2 : Bool) (a3 : Sl) (a4 : Int) (h : AH) : go (.pt F.ke3 Td.kil [(1, .ptr (some a1)), (3, .bool a2), (4, a3.v), (5, .int .i64 a4)]) h =
 cond a2 (
 ((h.cell (a1.add 0)).bind (AV.asInt .i64)).bind fun n5 =>
 cond (decide (a4 < n5)) (
 ((h.cell (a1.add 0)).bind (AV.asInt .i64)).bind fun n6 =>
 ((h.cell (a1.add 1)).bind AV.asSl).bind fun l7 =>
 (go (.fn F.kex [.agg [.int .i64 n6, l7.v], .int .i64 a4]) h).bind fun q8 =>
 ((some q8.1).bind AV.asBool).bind fun b9 =>
 cond b9 (
 newK q8.2 (.cells [.int .i64 a4] T.int) fun h10r h10 =>
 (kbc Pg T.int ((⟨some h10r, 1, .is 1⟩ : Sl).v) h10).bind fun p12 =>
 (kr Pg a3 p12.1 p12.2 T.int 1 h10).bind fun q11 =>
 (AV.asSl q11.1).bind fun l13 =>
 go (.pt F.ke3 Td.kil [(1, .ptr (some a1)), (3, .bool a2), (4, l13.v), (5, .int .i64 (IntKind.wrap .i64 (a4 + 1)))]) q11.2) (
 go (.pt F.ke3 Td.kil [(1, .ptr (some a1)), (3, .bool a2), (4, a3.v), (5, .int .i64 (IntKind.wrap .i64 (a4 + 1)))]) q8.2)) (
 some (a3.v, h))) (
 some (a3.v, h)) := (kb _ h).trans (by kernel_rfl)
theorem kne (a1 : Ref) (a2 : Bool) (a3 : Sl) (a4 : Int) (h : AH) : go (.pt F.kcx Td.kjo [(1, .ptr (some a1)), (3, .bool a2), (4, a3.v), (5, .int .i64 a4)]) h =
 cond a2 (
 ((h.cell (a1.add 2)).bind AV.asSl).bind fun l5 =>
 cond (decide (a4 < (l5.len : Int))) (
 go (.pt F.kcx Td.kma [(1, .ptr (some a1)), (3, .bool a2), (4, a3.v), (5, .int .i64 a4), (6, .int .i64 0)]) h) (
 some (a3.v, h))) (
 some (a3.v, h)) := (kb _ h).trans (by kernel_rfl)
theorem ksr (a1 : Sl) (a2 : Ref) (a3 : Sl) (a4 : Sl) (a5 : Sl) (a6 : Sl) (a7 : Int) (a8 : Sl) (a9 : Int) (h : AH) : go (.pt F.kbu Td.ki6 [(3, a1.v), (5, .ptr (some a2)), (14, a3.v), (15, a4.v), (16, a5.v), (17, a6.v), (18, .int .i64 a7), (19, a8.v), (20, .int .i64 a9)]) h =
 cond (decide (a9 < (a3.len : Int))) (
 ((h.cell (a2.add 2)).bind AV.asSl).bind fun l10 =>
 (idx a4.ref a4.len a7 2).bind fun r11 =>
 ((h.cell (r11.add 0)).bind (AV.asInt .i64)).bind fun n12 =>
 (idx l10.ref l10.len n12 1).bind fun r13 =>
 ((h.cell r13).bind AV.asSl).bind fun l14 =>
 (idx a3.ref a3.len a9 1).bind fun r15 =>
 ((h.cell r15).bind (AV.asInt .i64)).bind fun n16 =>
 (idx l14.ref l14.len n16 1).bind fun r17 =>
 ((h.cell r17).bind (AV.asInt .i64)).bind fun n18 =>
 (idx a4.ref a4.len a7 2).bind fun r19 =>
 ((h.cell (r19.add 1)).bind (AV.asInt .i64)).bind fun n20 =>
 cond (decide (n18 ≤ n20)) (
 (idx a3.ref a3.len a9 1).bind fun r21 =>
 ((h.cell r21).bind (AV.asInt .i64)).bind fun n22 =>
 (idx a1.ref a1.len n22 1).bind fun r23 =>
 ((h.cell r23).bind AV.asSl).bind fun l24 =>
 (go (.fn F.kog [a8.v, l24.v, a5.v]) h).bind fun q25 =>
 ((some q25.1).bind AV.asSl).bind fun l26 =>
 go (.pt F.kbu Td.ki6 [(3, a1.v), (5, .ptr (some a2)), (14, a3.v), (15, a4.v), (16, a5.v), (17, a6.v), (18, .int .i64 a7), (19, l26.v), (20, .int .i64 (IntKind.wrap .i64 (a9 + 1)))]) q25.2) (
 go (.pt F.kbu Td.ki6 [(3, a1.v), (5, .ptr (some a2)), (14, a3.v), (15, a4.v), (16, a5.v), (17, a6.v), (18, .int .i64 a7), (19, a8.v), (20, .int .i64 (IntKind.wrap .i64 (a9 + 1)))]) h)) (
 newK h (.cells [a8.v] T.kp) fun h27r h27 =>
 (kbc Pg T.kp ((⟨some h27r, 1, .is 1⟩ : Sl).v) h27).bind fun p29 =>
 (kr Pg a6 p29.1 p29.2 T.kp 1 h27).bind fun q28 =>
 (AV.asSl q28.1).bind fun l30 =>
 go (.pt F.kbu Td.kid [(3, a1.v), (5, .ptr (some a2)), (14, a3.v), (15, a4.v), (16, a5.v), (17, l30.v), (18, .int .i64 (IntKind.wrap .i64 (a7 + 1)))]) q28.2) := (kb _ h).trans (by kernel_rfl)
theorem kqv (a1 : Int) (a2 : Ref) (a3 : Ref) (a4 : Sl) (a5 : Sl) (a6 : Int) (a7 : Int) (h : AH) : go (.pt F.kei Td.kip [(2, .int .i64 a1), (3, .ptr (some a2)), (6, .ptr (some a3)), (8, a4.v), (44, a5.v), (45, .int .i64 a6), (46, .int .i64 a7)]) h =
 cond (decide (a7 < a6)) (
 (idx a5.ref a5.len a7 1).bind fun r8 =>
 ((h.cell r8).bind (AV.asInt .i64)).bind fun n9 =>
 cond (decide (n9 ≤ a1)) (
 newK h (.cells [.int .i64 a7] T.int) fun h10r h10 =>
 (kbc Pg T.int ((⟨some h10r, 1, .is 1⟩ : Sl).v) h10).bind fun p12 =>
 (kr Pg a4 p12.1 p12.2 T.int 1 h10).bind fun q11 =>
 (AV.asSl q11.1).bind fun l13 =>
 go (.pt F.kei Td.kip [(2, .int .i64 a1), (3, .ptr (some a2)), (6, .ptr (some a3)), (8, l13.v), (44, a5.v), (45, .int .i64 a6), (46, .int .i64 (IntKind.wrap .i64 (a7 + 1)))]) q11.2) (
 go (.pt F.kei Td.kip [(2, .int .i64 a1), (3, .ptr (some a2)), (6, .ptr (some a3)), (8, a4.v), (44, a5.v), (45, .int .i64 a6), (46, .int .i64 (IntKind.wrap .i64 (a7 + 1)))]) h)) (
 ((h.cell (a2.add 0)).bind AV.asSl).bind fun l14 =>
 (go (.fn F.kf7 [.int .i64 (l14.len : Int), a4.v]) h).bind fun q15 =>
 (AV.asTup2 q15.1).bind fun p16 =>
 (AV.asAgg p16.1).bind fun cs17 =>
 cond (Nat.beq cs17.length 2) (
 ((cs17[0]?).bind (AV.asInt .i64)).bind fun n18 =>
 ((cs17[1]?).bind AV.asSl).bind fun l19 =>
 ((some p16.2).bind (AV.asInt .i64)).bind fun n20 =>
 (q15.2.puts a3 [.int .i64 n18, l19.v]).bind fun h21 =>
 ((h21.cell (a3.add 0)).bind (AV.asInt .i64)).bind fun n22 =>
 ((h21.cell (a3.add 1)).bind AV.asSl).bind fun l23 =>
 some (.tup [.agg [.int .i64 n22, l23.v], .int .i64 n20], h21)) none) := (kb _ h).trans (by kernel_rfl)
theorem kbbe (a1 : Int) (a2 : Sl) (a3 : Int) (a4 : Sl) (h : AH) : go (.fn F.kgt [.agg [.int .i64 a1, a2.v], .agg [.int .i64 a3, a4.v], .func (.func F.kea) [] []]) h =
 newK h (.cells [.int .i64 a1, a2.v] T.kn) fun h5r h5 =>
 newK h5 (.cells [.int .i64 a3, a4.v] T.kn) fun h6r h6 =>
 newK h6 (.cells [.int .i64 0, (⟨none, 0, .is 0⟩ : Sl).v] T.kn) fun h7r h7 =>
 ((h7.cell (h5r.add 0)).bind (AV.asInt .i64)).bind fun n8 =>
 ((h7.cell (h5r.add 1)).bind AV.asSl).bind fun l9 =>
 (go (.fn F.kha [.agg [.int .i64 n8, l9.v]]) h7).bind fun q10 =>
 ((some q10.1).bind AV.asBool).bind fun b11 =>
 cond (!b11) (
 (q10.2.puts h7r [.int .i64 0, (⟨none, 0, .is 0⟩ : Sl).v]).bind fun h12 =>
 ((h12.cell (h7r.add 0)).bind (AV.asInt .i64)).bind fun n13 =>
 ((h12.cell (h7r.add 1)).bind AV.asSl).bind fun l14 =>
 some (.tup [.agg [.int .i64 n13, l14.v], .int .i64 1], h12)) (
 ((q10.2.cell (h6r.add 0)).bind (AV.asInt .i64)).bind fun n15 =>
 ((q10.2.cell (h6r.add 1)).bind AV.asSl).bind fun l16 =>
 (go (.fn F.kha [.agg [.int .i64 n15, l16.v]]) q10.2).bind fun q17 =>
 ((some q17.1).bind AV.asBool).bind fun b18 =>
 cond (!b18) (
 (q17.2.puts h7r [.int .i64 0, (⟨none, 0, .is 0⟩ : Sl).v]).bind fun h19 =>
 ((h19.cell (h7r.add 0)).bind (AV.asInt .i64)).bind fun n20 =>
 ((h19.cell (h7r.add 1)).bind AV.asSl).bind fun l21 =>
 some (.tup [.agg [.int .i64 n20, l21.v], .int .i64 1], h19)) (
 ((q17.2.cell (h5r.add 0)).bind (AV.asInt .i64)).bind fun n22 =>
 ((q17.2.cell (h6r.add 0)).bind (AV.asInt .i64)).bind fun n23 =>
 cond (!decide (n22 = n23)) (
 (q17.2.puts h7r [.int .i64 0, (⟨none, 0, .is 0⟩ : Sl).v]).bind fun h24 =>
 ((h24.cell (h7r.add 0)).bind (AV.asInt .i64)).bind fun n25 =>
 ((h24.cell (h7r.add 1)).bind AV.asSl).bind fun l26 =>
 some (.tup [.agg [.int .i64 n25, l26.v], .int .i64 1], h24)) (
 ((q17.2.cell (h5r.add 0)).bind (AV.asInt .i64)).bind fun n27 =>
 (go (.fn F.kj5 [.int .i64 n27]) q17.2).bind fun q28 =>
 (AV.asTup2 q28.1).bind fun p29 =>
 (AV.asAgg p29.1).bind fun cs30 =>
 cond (Nat.beq cs30.length 2) (
 ((cs30[0]?).bind (AV.asInt .i64)).bind fun n31 =>
 ((cs30[1]?).bind AV.asSl).bind fun l32 =>
 ((some p29.2).bind (AV.asInt .i64)).bind fun n33 =>
 newK q28.2 (.cells [.int .i64 0, (⟨none, 0, .is 0⟩ : Sl).v] T.kn) fun h34r h34 =>
 (h34.puts h34r [.int .i64 n31, l32.v]).bind fun h35 =>
 ((h35.cell (h34r.add 1)).bind AV.asSl).bind fun l36 =>
 go (.pt F.kgt Td.kk8 [(2, .func (.func F.kea) [] []), (3, .ptr (some h5r)), (4, .ptr (some h6r)), (6, .ptr (some h7r)), (8, .ptr (some h34r)), (9, .int .i64 n33), (35, .int .i64 (l36.len : Int)), (36, .int .i64 0)]) h35) none))) := (kb _ h).trans (by kernel_rfl)
theorem kyk (a1 : Int) (a2 : Sl) (h : AH) : go (.fn F.kna [.agg [.int .i64 a1, a2.v]]) h =
 newK h (.cells [.int .i64 a1, a2.v] T.kn) fun h3r h3 =>
 some (.func (.func F.kbo) [] [.ptr (some h3r)], h3) := (kb _ h).trans (by kernel_rfl)
theorem k4i (a1 : AV) (h : AH) : go (.fn F.kpq [a1]) h =
 (go (.fn F.kdr [(⟨none, 0, .is 0⟩ : Sl).v, a1]) h).bind fun q2 =>
 ((some q2.1).bind AV.asSl).bind fun l3 =>
 some (l3.v, q2.2) := (kb _ h).trans (by kernel_rfl)
theorem k8r (a1 : Sl) (h : AH) : go (.fn F.kcv [a1.v, .func (.func F.kdf) [] []]) h =
 go (.pt F.kcv Td.kev [(0, a1.v), (1, .func (.func F.kdf) [] []), (7, .int .i64 (a1.len : Int)), (8, .int .i64 0)]) h := (kb _ h).trans (by kernel_rfl)
theorem kx6 (a1 : Int) (a2 : Int) (a3 : Int) (h : AH) : go (.fn F.kbf [.int .u64 a1, .int .u64 a2, .int .u64 a3]) h =
 cond (decide (a3 = 0)) (
 (h.cell (.old ⟨Gl.math_bits_divideError, 0, none⟩)).bind fun v4 =>
 none) (
 go (.pt F.kbf Td.koo [(0, .int .u64 a1), (1, .int .u64 a2), (2, .int .u64 a3)]) h) := (kb _ h).trans (by kernel_rfl)
theorem k4v (a1 : Int) (a2 : Sl) (a3 : Sl) (a4 : Int) (a5 : Int) (h : AH) : go (.pt F.kdy Td.kiu [(1, .int .u64 a1), (5, a2.v), (12, a3.v), (13, .int .i64 a4), (14, .int .i64 a5)]) h =
 cond (decide (a5 < a4)) (
 (idx a3.ref a3.len a5 1).bind fun r6 =>
 ((h.cell r6).bind (AV.asInt .u64)).bind fun n7 =>
 (idx a2.ref a2.len a5 1).bind fun r8 =>
 ((h.cell r8).bind (AV.asInt .u64)).bind fun n9 =>
 cond (decide (a1 < 0)) none (
 (idx a2.ref a2.len a5 1).bind fun r10 =>
 (h.puts r10 [.int .u64 (ior .u64 n9 (ishl .u64 n7 a1))]).bind fun h11 =>
 cond (decide (a1 > 0)) (
 cond (decide ((IntKind.wrap .u64 (64 - a1)) < 0)) none (
 (idx a2.ref a2.len (IntKind.wrap .i64 (a5 + 1)) 1).bind fun r12 =>
 (h11.puts r12 [.int .u64 (ishr .u64 n7 (IntKind.wrap .u64 (64 - a1)))]).bind fun h13 =>
 go (.pt F.kdy Td.kiu [(1, .int .u64 a1), (5, a2.v), (12, a3.v), (13, .int .i64 a4), (14, .int .i64 (IntKind.wrap .i64 (a5 + 1)))]) h13)) (
 go (.pt F.kdy Td.kiu [(1, .int .u64 a1), (5, a2.v), (12, a3.v), (13, .int .i64 a4), (14, .int .i64 (IntKind.wrap .i64 (a5 + 1)))]) h11))) (
 some (a2.v, h)) := (kb _ h).trans (by kernel_rfl)
theorem k2f (a1 : Int) (a2 : Int) (a3 : Int) (a4 : Int) (a5 : Int) (h : AH) : go (.fn F.keb [.int .u64 a1, .int .u64 a2, .int .u64 a3, .int .u64 a4, .int .u64 a5]) h =
 cond (decide (a1 ≥ a4)) (
 some (.int .u64 18446744073709551615, h)) (
 (go (.fn F.kbf [.int .u64 a1, .int .u64 a2, .int .u64 a4]) h).bind fun q6 =>
 (AV.asTup2 q6.1).bind fun p7 =>
 ((some p7.1).bind (AV.asInt .u64)).bind fun n8 =>
 ((some p7.2).bind (AV.asInt .u64)).bind fun n9 =>
 go (.pt F.keb Td.kju [(2, .int .u64 a3), (3, .int .u64 a4), (4, .int .u64 a5), (11, .int .u64 n8), (12, .int .u64 n9)]) q6.2) := (kb _ h).trans (by kernel_rfl)
theorem k5e (a1 : Int) (a2 : Sl) (a3 : Sl) (a4 : Int) (a5 : Sl) (a6 : Int) (a7 : Int) (a8 : Sl) (h : AH) : go (.pt F.kbp Td.kkv [(6, .int .u64 a1), (7, a2.v), (8, a3.v), (9, .int .i64 a4), (10, a5.v), (11, .int .i64 a6), (12, .int .u64 a7), (13, a8.v)]) h =
 (go (.fn F.kit [.int .u64 a7]) h).bind fun q9 =>
 ((some q9.1).bind AV.asSl).bind fun l10 =>
 (go (.fn F.kcd [a3.v, l10.v]) q9.2).bind fun q11 =>
 ((some q11.1).bind AV.asSl).bind fun l12 =>
 (go (.fn F.khv [a8.v]) q11.2).bind fun q13 =>
 ((some q13.1).bind AV.asSl).bind fun l14 =>
 (go (.fn F.kba [l14.v]) q13.2).bind fun q15 =>
 ((some q15.1).bind AV.asSl).bind fun l16 =>
 (go (.fn F.keq [l16.v, l12.v]) q15.2).bind fun q17 =>
 ((some q17.1).bind (AV.asInt .i64)).bind fun n18 =>
 cond (decide (n18 ≥ 0)) (
 (go (.fn F.kco [a8.v, l12.v]) q17.2).bind fun q19 =>
 ((some q19.1).bind AV.asSl).bind fun l20 =>
 (copyH l20 a8 1 q19.2).bind fun h21 =>
 (idx a5.ref a5.len a6 1).bind fun r22 =>
 (h21.puts r22 [.int .u64 a7]).bind fun h23 =>
 go (.pt F.kbp Td.klr [(6, .int .u64 a1), (7, a2.v), (8, a3.v), (9, .int .i64 a4), (10, a5.v), (11, .int .i64 (IntKind.wrap .i64 (a6 - 1)))]) h23) (
 go (.pt F.kbp Td.kkv [(6, .int .u64 a1), (7, a2.v), (8, a3.v), (9, .int .i64 a4), (10, a5.v), (11, .int .i64 a6), (12, .int .u64 (IntKind.wrap .u64 (a7 - 1))), (13, a8.v)]) q17.2) := (kb _ h).trans (by kernel_rfl)
theorem kxu (a1 : Int) (a2 : Sl) (a3 : Sl) (a4 : Sl) (a5 : Int) (a6 : Int) (h : AH) : go (.pt F.kbp Td.khg [(6, .int .u64 a1), (10, a2.v), (15, a3.v), (16, a4.v), (112, .int .i64 a5), (113, .int .i64 a6)]) h =
 cond (decide (a6 < a5)) (
 (idx a3.ref a3.len a6 1).bind fun r7 =>
 ((h.cell r7).bind (AV.asInt .u64)).bind fun n8 =>
 cond (decide (a1 < 0)) none (
 (idx a4.ref a4.len a6 1).bind fun r9 =>
 (h.puts r9 [.int .u64 (ishr .u64 n8 a1)]).bind fun h10 =>
 cond (decide (a1 > 0)) (
 cond (decide ((IntKind.wrap .i64 (a6 + 1)) < (a3.len : Int))) (
 (idx a4.ref a4.len a6 1).bind fun r11 =>
 ((h10.cell r11).bind (AV.asInt .u64)).bind fun n12 =>
 (idx a3.ref a3.len (IntKind.wrap .i64 (a6 + 1)) 1).bind fun r13 =>
 ((h10.cell r13).bind (AV.asInt .u64)).bind fun n14 =>
 cond (decide ((IntKind.wrap .u64 (64 - a1)) < 0)) none (
 (idx a4.ref a4.len a6 1).bind fun r15 =>
 (h10.puts r15 [.int .u64 (ior .u64 n12 (ishl .u64 n14 (IntKind.wrap .u64 (64 - a1))))]).bind fun h16 =>
 go (.pt F.kbp Td.khg [(6, .int .u64 a1), (10, a2.v), (15, a3.v), (16, a4.v), (112, .int .i64 a5), (113, .int .i64 (IntKind.wrap .i64 (a6 + 1)))]) h16)) (
 go (.pt F.kbp Td.khg [(6, .int .u64 a1), (10, a2.v), (15, a3.v), (16, a4.v), (112, .int .i64 a5), (113, .int .i64 (IntKind.wrap .i64 (a6 + 1)))]) h10)) (
 go (.pt F.kbp Td.khg [(6, .int .u64 a1), (10, a2.v), (15, a3.v), (16, a4.v), (112, .int .i64 a5), (113, .int .i64 (IntKind.wrap .i64 (a6 + 1)))]) h10))) (
 (go (.fn F.kba [a2.v]) h).bind fun q17 =>
 ((some q17.1).bind AV.asSl).bind fun l18 =>
 (go (.fn F.kba [a4.v]) q17.2).bind fun q19 =>
 ((some q19.1).bind AV.asSl).bind fun l20 =>
 some (.tup [l18.v, l20.v], q19.2)) := (kb _ h).trans (by kernel_rfl)
theorem k5u (a1 : Int) (a2 : Int) (h : AH) : go (.fn F.kk1 [.int .u64 a1, .int .u64 a2]) h =
 some (.tup [.int .u64 (IntKind.wrap .u64 ((IntKind.wrap .u64 ((IntKind.wrap .u64 ((ishr .u64 a1 32) * (ishr .u64 a2 32))) + (ishr .u64 (IntKind.wrap .u64 ((IntKind.wrap .u64 ((ishr .u64 a1 32) * (iand .u64 a2 4294967295))) + (ishr .u64 (IntKind.wrap .u64 ((iand .u64 a1 4294967295) * (iand .u64 a2 4294967295))) 32))) 32))) + (ishr .u64 (IntKind.wrap .u64 ((iand .u64 (IntKind.wrap .u64 ((IntKind.wrap .u64 ((ishr .u64 a1 32) * (iand .u64 a2 4294967295))) + (ishr .u64 (IntKind.wrap .u64 ((iand .u64 a1 4294967295) * (iand .u64 a2 4294967295))) 32))) 4294967295) + (IntKind.wrap .u64 ((iand .u64 a1 4294967295) * (ishr .u64 a2 32))))) 32))), .int .u64 (IntKind.wrap .u64 (a1 * a2))], h) := (kb _ h).trans (by kernel_rfl)
theorem ktu (a1 : Sl) (a2 : Int) (a3 : Int) (h : AH) : go (.pt F.ky Td.kby [(0, a1.v), (1, .func (.func F.kct) [] []), (7, .int .i64 a2), (8, .int .i64 a3)]) h =
 cond (decide (a3 < a2)) (
 (idx a1.ref a1.len a3 1).bind fun r4 =>
 ((h.cell r4).bind (AV.asInt .i64)).bind fun n5 =>
 (go (.fn F.kct [.int .i64 n5]) h).bind fun q6 =>
 ((some q6.1).bind AV.asBool).bind fun b7 =>
 cond b7 (
 some (.int .i64 a3, q6.2)) (
 go (.pt F.ky Td.kby [(0, a1.v), (1, .func (.func F.kct) [] []), (7, .int .i64 a2), (8, .int .i64 (IntKind.wrap .i64 (a3 + 1)))]) q6.2)) (
 some (.int .i64 (-1), h)) := (kb _ h).trans (by kernel_rfl)
theorem kq6 (a1 : Ref) (a2 : Sl) (a3 : Int) (a4 : Ref) (a5 : Ref) (a6 : Sl) (a7 : Int) (a8 : Int) (l : Nat) (h : AH) : go (.rpt l F.kca Td.km6 [(5, .ptr (some a1)), (6, a2.v), (7, .int .i64 a3), (9, .ptr (some a4)), (12, .ptr (some a5)), (33, a6.v), (34, .int .i64 a7), (35, .int .i64 a8)]) h =
 cond (decide (a8 < a7)) (
 (idx a6.ref a6.len a8 1).bind fun r9 =>
 ((h.cell r9).bind (AV.asInt .i64)).bind fun n10 =>
 ((h.cell (a5.add 0)).bind (AV.asInt .i64)).bind fun n11 =>
 ((h.cell a1).bind AV.asSl).bind fun l12 =>
 (idx l12.ref l12.len n10 1).bind fun r13 =>
 ((h.cell r13).bind (AV.asInt .i64)).bind fun n14 =>
 (h.puts (a5.add 0) [.int .i64 (IntKind.wrap .i64 (n11 + n14))]).bind fun h15 =>
 go (.rpt l F.kca Td.km6 [(5, .ptr (some a1)), (6, a2.v), (7, .int .i64 a3), (9, .ptr (some a4)), (12, .ptr (some a5)), (33, a6.v), (34, .int .i64 a7), (35, .int .i64 (IntKind.wrap .i64 (a8 + 1)))]) h15) (
 ((h.cell a4).bind AV.asSl).bind fun l16 =>
 ((h.cell (a5.add 0)).bind (AV.asInt .i64)).bind fun n17 =>
 ((h.cell (a5.add 1)).bind (AV.asInt .i64)).bind fun n18 =>
 newK h (.cells [.int .i64 n17, .int .i64 n18] T.kbs) fun h19r h19 =>
 (kbc Pg T.kbs ((⟨some h19r, 1, .is 1⟩ : Sl).v) h19).bind fun p21 =>
 (kr Pg l16 p21.1 p21.2 T.kbs 2 h19).bind fun q20 =>
 (AV.asSl q20.1).bind fun l22 =>
 (q20.2.puts a4 [l22.v]).bind fun h23 =>
 kb4 l none h23) := (kb _ h).trans (by kernel_rfl)
theorem kbau (a1 : Sl) (a2 : Sl) (h : AH) : go (.pt F.kfi Td.kmn [(0, a1.v), (1, a2.v)]) h =
 cond (decide ((a2.len : Int) > 0)) (
 (go (.fn F.kjl [a1.v, a2.v]) h).bind fun q3 =>
 (AV.asTup3 q3.1).bind fun p4 =>
 ((some p4.1).bind AV.asSl).bind fun l5 =>
 ((some p4.2.1).bind AV.asSl).bind fun l6 =>
 ((some p4.2.2).bind (AV.asInt .i64)).bind fun n7 =>
 go (.pt F.kfi Td.kmn [(0, a2.v), (1, l6.v)]) q3.2) (
 some (.tup [a1.v, .int .i64 0], h)) := (kb _ h).trans (by kernel_rfl)
theorem k4d (a1 : Sl) (a2 : Sl) (h : AH) : go (.pt F.ke0 Td.kj2 [(8, a1.v), (9, a2.v)]) h =
 cond (decide ((a2.len : Int) > 0)) (
 (go (.fn F.klp [a1.v, a2.v]) h).bind fun q3 =>
 ((some q3.1).bind AV.asSl).bind fun l4 =>
 go (.pt F.ke0 Td.kj2 [(8, a2.v), (9, l4.v)]) q3.2) (
 some (.tup [a1.v, .int .i64 0], h)) := (kb _ h).trans (by kernel_rfl)
theorem kqt (a1 : Sl) (a2 : Sl) (a3 : Int) (h : AH) : go (.pt F.kbr Td.kia [(0, a1.v), (3, a2.v), (4, .int .i64 a3)]) h =
 cond (decide (a3 < (a1.len : Int))) (
 (idx a1.ref a1.len a3 1).bind fun r4 =>
 ((h.cell r4).bind (AV.asInt .u64)).bind fun n5 =>
 go (.pt F.kbr Td.kly [(0, a1.v), (3, a2.v), (4, .int .i64 a3), (5, .int .u64 n5), (6, .int .i64 0)]) h) (
 (go (.fn F.kc6 [a2.v]) h).bind fun q6 =>
 ((some q6.1).bind AV.asSl).bind fun l7 =>
 some (l7.v, q6.2)) := (kb _ h).trans (by kernel_rfl)
theorem k9h (a1 : Sl) (a2 : Sl) (a3 : Sl) (a4 : Int) (h : AH) : go (.pt F.kce Td.kle [(0, a1.v), (1, a2.v), (5, a3.v), (6, .int .i64 a4)]) h =
 cond (decide (a4 < (a1.len : Int))) (
 go (.pt F.kce Td.klk [(0, a1.v), (1, a2.v), (5, a3.v), (6, .int .i64 a4), (7, .int .u64 0), (8, .int .i64 0)]) h) (
 (go (.fn F.kc6 [a3.v]) h).bind fun q5 =>
 ((some q5.1).bind AV.asSl).bind fun l6 =>
 some (l6.v, q5.2)) := (kb _ h).trans (by kernel_rfl)
theorem kxr (a1 : Sl) (h : AH) : go (.fn F.kbv [a1.v]) h =
 go (.pt F.kbv Td.kg9 [(0, a1.v), (4, (⟨none, 0, .is 0⟩ : Sl).v), (5, .int .i64 0)]) h := (kb _ h).trans (by kernel_rfl)
theorem kuh (a1 : Sl) (a2 : Sl) (a3 : Int) (h : AH) : go (.pt F.ke5 Td.km5 [(0, a1.v), (1, a2.v), (5, .int .i64 a3)]) h =
 cond (decide (a3 ≥ 0)) (
 (idx a1.ref a1.len a3 1).bind fun r4 =>
 ((h.cell r4).bind (AV.asInt .u64)).bind fun n5 =>
 (idx a2.ref a2.len a3 1).bind fun r6 =>
 ((h.cell r6).bind (AV.asInt .u64)).bind fun n7 =>
 cond (decide (n5 < n7)) (
 some (.int .i64 (-1), h)) (
 (idx a1.ref a1.len a3 1).bind fun r8 =>
 ((h.cell r8).bind (AV.asInt .u64)).bind fun n9 =>
 (idx a2.ref a2.len a3 1).bind fun r10 =>
 ((h.cell r10).bind (AV.asInt .u64)).bind fun n11 =>
 cond (decide (n9 > n11)) (
 some (.int .i64 1, h)) (
 go (.pt F.ke5 Td.km5 [(0, a1.v), (1, a2.v), (5, .int .i64 (IntKind.wrap .i64 (a3 - 1)))]) h))) (
 some (.int .i64 0, h)) := (kb _ h).trans (by kernel_rfl)
theorem k7h (a1 : Sl) (a2 : Sl) (h : AH) : go (.fn F.kck [a1.v, a2.v]) h =
 (kbl (a1.len : Int) (a1.len : Int) T.ke (Pg.bytesOf T.ke) [.int .u64 0] h).bind fun q3 =>
 go (.pt F.kck Td.kls [(0, a1.v), (1, a2.v), (6, q3.1.v), (7, (⟨none, 0, .is 0⟩ : Sl).v), (8, .int .i64 (IntKind.wrap .i64 ((a1.len : Int) - 1)))]) q3.2 := (kb _ h).trans (by kernel_rfl)
theorem k7b (a1 : Sl) (h : AH) : go (.fn F.kc2 [a1.v, .func (.func F.kc5) [] []]) h =
 (go (.fn F.ky [a1.v, .func (.func F.kc5) [] []]) h).bind fun q2 =>
 ((some q2.1).bind (AV.asInt .i64)).bind fun n3 =>
 some (.bool (decide (n3 ≥ 0)), q2.2) := (kb _ h).trans (by kernel_rfl)
theorem k9b (a1 : Sl) (h : AH) : go (.fn F.kgj [a1.v]) h =
 newM h (.map [] 0) fun h2m h2 =>
 go (.pt F.kgj Td.klf [(3, .map (some h2m)), (7, a1.v), (8, .int .i64 (a1.len : Int)), (9, .int .i64 0)]) h2 := (kb _ h).trans (by kernel_rfl)
theorem k1o (a1 : Sl) (a2 : Option Ref) (h : AH) : go (.fn F.kc2 [a1.v, .func (.func F.kcp) [] [.ptr a2]]) h =
 (go (.fn F.ky [a1.v, .func (.func F.kcp) [] [.ptr a2]]) h).bind fun q3 =>
 ((some q3.1).bind (AV.asInt .i64)).bind fun n4 =>
 some (.bool (decide (n4 ≥ 0)), q3.2) := (kb _ h).trans (by kernel_rfl)
theorem kyz (a1 : Sl) (a2 : Option Ref) (h : AH) : go (.fn F.kbm [a1.v, .ptr a2]) h =
 a2.bind fun r3 =>
 ((h.cell r3).bind AV.asSl).bind fun l4 =>
 (go (.fn F.knm [l4.v, a1.v]) h).bind fun q5 =>
 ((some q5.1).bind AV.asBool).bind fun b6 =>
 some (.bool (!b6), q5.2) := (kb _ h).trans (by kernel_rfl)
theorem kwa (a1 : Sl) (a2 : Int) (h : AH) : go (.pt F.kgs Td.klm [(0, a1.v), (3, .int .i64 a2)]) h =
 cond (decide (a2 < (a1.len : Int))) (
 (idx a1.ref a1.len a2 1).bind fun r3 =>
 ((h.cell r3).bind (AV.asInt .i64)).bind fun n4 =>
 cond (decide (n4 < 0)) (
 some (.bool false, h)) (
 (idx a1.ref a1.len a2 1).bind fun r5 =>
 ((h.cell r5).bind (AV.asInt .i64)).bind fun n6 =>
 cond (decide (n6 > 1073741824)) (
 some (.bool false, h)) (
 (idx a1.ref a1.len a2 1).bind fun r7 =>
 ((h.cell r7).bind (AV.asInt .i64)).bind fun n8 =>
 (go (.fn F.kfr [a1.v, .int .i64 n8]) h).bind fun q9 =>
 ((some q9.1).bind (AV.asInt .i64)).bind fun n10 =>
 cond (!decide (n10 = a2)) (
 some (.bool false, q9.2)) (
 go (.pt F.kgs Td.klm [(0, a1.v), (3, .int .i64 (IntKind.wrap .i64 (a2 + 1)))]) q9.2)))) (
 some (.bool true, h)) := (kb _ h).trans (by kernel_rfl)
theorem ktd (a1 : Ref) (a2 : Int) (a3 : Int) (h : AH) : go (.pt F.kch Td.kla [(1, .ptr (some a1)), (4, .int .i64 a2), (5, .int .i64 a3)]) h =
 ((h.cell (a1.add 0)).bind AV.asSl).bind fun l4 =>
 cond (decide (a3 < (l4.len : Int))) (
 ((h.cell (a1.add 2)).bind AV.asSl).bind fun l5 =>
 (idx l5.ref l5.len a2 1).bind fun r6 =>
 ((h.cell r6).bind AV.asSl).bind fun l7 =>
 (idx l7.ref l7.len a3 1).bind fun r8 =>
 ((h.cell r8).bind (AV.asInt .i64)).bind fun n9 =>
 cond (decide (n9 < 0)) (
 some (.bool false, h)) (
 ((h.cell (a1.add 2)).bind AV.asSl).bind fun l10 =>
 (idx l10.ref l10.len a2 1).bind fun r11 =>
 ((h.cell r11).bind AV.asSl).bind fun l12 =>
 (idx l12.ref l12.len a3 1).bind fun r13 =>
 ((h.cell r13).bind (AV.asInt .i64)).bind fun n14 =>
 ((h.cell (a1.add 1)).bind AV.asSl).bind fun l15 =>
 (idx l15.ref l15.len a2 1).bind fun r16 =>
 ((h.cell r16).bind (AV.asInt .i64)).bind fun n17 =>
 cond (decide (n14 ≥ n17)) (
 some (.bool false, h)) (
 go (.pt F.kch Td.kla [(1, .ptr (some a1)), (4, .int .i64 a2), (5, .int .i64 (IntKind.wrap .i64 (a3 + 1)))]) h))) (
 go (.pt F.kch Td.kjq [(1, .ptr (some a1)), (4, .int .i64 (IntKind.wrap .i64 (a2 + 1)))]) h) := (kb _ h).trans (by kernel_rfl)
theorem k1q (a1 : Int) (a2 : Sl) (a3 : Int) (h : AH) : go (.fn F.kex [.agg [.int .i64 a1, a2.v], .int .i64 a3]) h =
 newK h (.cells [.int .i64 a1, a2.v] T.kn) fun h4r h4 =>
 ((h4.cell (h4r.add 1)).bind AV.asSl).bind fun l5 =>
 (idx l5.ref l5.len (IntKind.wrap .i64 (Int.tdiv a3 64)) 1).bind fun r6 =>
 ((h4.cell r6).bind (AV.asInt .u64)).bind fun n7 =>
 go (.pt F.kex Td.kj6 [(1, .int .i64 a3), (5, .int .u64 n7), (6, .int .i64 0)]) h4 := (kb _ h).trans (by kernel_rfl)
theorem kv1 (a1 : Ref) (a2 : Bool) (a3 : Sl) (a4 : Int) (a5 : Int) (h : AH) : go (.pt F.kcx Td.kma [(1, .ptr (some a1)), (3, .bool a2), (4, a3.v), (5, .int .i64 a4), (6, .int .i64 a5)]) h =
 ((h.cell (a1.add 1)).bind AV.asSl).bind fun l6 =>
 (idx l6.ref l6.len a4 1).bind fun r7 =>
 ((h.cell r7).bind (AV.asInt .i64)).bind fun n8 =>
 cond (decide (a5 < (IntKind.wrap .i64 (n8 - 1)))) (
 newK h (.cells [.int .i64 a4, .int .i64 a5] T.kcw) fun h9r h9 =>
 (kbc Pg T.kcw ((⟨some h9r, 1, .is 1⟩ : Sl).v) h9).bind fun p11 =>
 (kr Pg a3 p11.1 p11.2 T.kcw 2 h9).bind fun q10 =>
 (AV.asSl q10.1).bind fun l12 =>
 go (.pt F.kcx Td.kma [(1, .ptr (some a1)), (3, .bool a2), (4, l12.v), (5, .int .i64 a4), (6, .int .i64 (IntKind.wrap .i64 (a5 + 1)))]) q10.2) (
 go (.pt F.kcx Td.kjo [(1, .ptr (some a1)), (3, .bool a2), (4, a3.v), (5, .int .i64 (IntKind.wrap .i64 (a4 + 1)))]) h) := (kb _ h).trans (by kernel_rfl)
theorem kbaf (a1 : Int) (a2 : Sl) (h : AH) : go (.fn F.kf7 [.int .i64 a1, a2.v]) h =
 newK h (.cells [.int .i64 a1] T.int) fun h3r h3 =>
 newK h3 (.cells [.int .i64 0, (⟨none, 0, .is 0⟩ : Sl).v] T.kn) fun h4r h4 =>
 ((h4.cell h3r).bind (AV.asInt .i64)).bind fun n5 =>
 (go (.fn F.kj5 [.int .i64 n5]) h4).bind fun q6 =>
 (AV.asTup2 q6.1).bind fun p7 =>
 (AV.asAgg p7.1).bind fun cs8 =>
 cond (Nat.beq cs8.length 2) (
 ((cs8[0]?).bind (AV.asInt .i64)).bind fun n9 =>
 ((cs8[1]?).bind AV.asSl).bind fun l10 =>
 ((some p7.2).bind (AV.asInt .i64)).bind fun n11 =>
 newK q6.2 (.cells [.int .i64 0, (⟨none, 0, .is 0⟩ : Sl).v] T.kn) fun h12r h12 =>
 (h12.puts h12r [.int .i64 n9, l10.v]).bind fun h13 =>
 cond (!decide (n11 = 0)) (
 (h13.puts h4r [.int .i64 0, (⟨none, 0, .is 0⟩ : Sl).v]).bind fun h14 =>
 ((h14.cell (h4r.add 0)).bind (AV.asInt .i64)).bind fun n15 =>
 ((h14.cell (h4r.add 1)).bind AV.asSl).bind fun l16 =>
 some (.tup [.agg [.int .i64 n15, l16.v], .int .i64 1], h14)) (
 (go (.fn F.kc2 [a2.v, .func (.func F.kcq) [] [.ptr (some h3r)]]) h13).bind fun q17 =>
 ((some q17.1).bind AV.asBool).bind fun b18 =>
 cond b18 (
 (q17.2.puts h4r [.int .i64 0, (⟨none, 0, .is 0⟩ : Sl).v]).bind fun h19 =>
 ((h19.cell (h4r.add 0)).bind (AV.asInt .i64)).bind fun n20 =>
 ((h19.cell (h4r.add 1)).bind AV.asSl).bind fun l21 =>
 some (.tup [.agg [.int .i64 n20, l21.v], .int .i64 1], h19)) (
 go (.pt F.kf7 Td.kmh [(4, .ptr (some h4r)), (6, .ptr (some h12r)), (23, a2.v), (24, .int .i64 (a2.len : Int)), (25, .int .i64 0)]) q17.2))) none := (kb _ h).trans (by kernel_rfl)
theorem kxd (a1 : Int) (h : AH) : go (.fn F.kj5 [.int .i64 a1]) h =
 newK h (.cells [.int .i64 0, (⟨none, 0, .is 0⟩ : Sl).v] T.kn) fun h2r h2 =>
 cond (decide (a1 < 0)) (
 (h2.puts h2r [.int .i64 0, (⟨none, 0, .is 0⟩ : Sl).v]).bind fun h3 =>
 ((h3.cell (h2r.add 0)).bind (AV.asInt .i64)).bind fun n4 =>
 ((h3.cell (h2r.add 1)).bind AV.asSl).bind fun l5 =>
 some (.tup [.agg [.int .i64 n4, l5.v], .int .i64 1], h3)) (
 cond (decide (a1 > 65536)) (
 (h2.puts h2r [.int .i64 0, (⟨none, 0, .is 0⟩ : Sl).v]).bind fun h6 =>
 ((h6.cell (h2r.add 0)).bind (AV.asInt .i64)).bind fun n7 =>
 ((h6.cell (h2r.add 1)).bind AV.asSl).bind fun l8 =>
 some (.tup [.agg [.int .i64 n7, l8.v], .int .i64 1], h6)) (
 (kbl (IntKind.wrap .i64 (Int.tdiv (IntKind.wrap .i64 ((IntKind.wrap .i64 (a1 + 64)) - 1)) 64)) (IntKind.wrap .i64 (Int.tdiv (IntKind.wrap .i64 ((IntKind.wrap .i64 (a1 + 64)) - 1)) 64)) T.ke (Pg.bytesOf T.ke) [.int .u64 0] h2).bind fun q9 =>
 (q9.2.puts h2r [.int .i64 a1, q9.1.v]).bind fun h10 =>
 ((h10.cell (h2r.add 0)).bind (AV.asInt .i64)).bind fun n11 =>
 ((h10.cell (h2r.add 1)).bind AV.asSl).bind fun l12 =>
 some (.tup [.agg [.int .i64 n11, l12.v], .int .i64 0], h10))) := (kb _ h).trans (by kernel_rfl)
theorem ksc (a1 : Ref) (a2 : Ref) (a3 : Ref) (a4 : Ref) (a5 : Int) (a6 : Int) (a7 : Int) (h : AH) : go (.pt F.kgt Td.kk8 [(2, .func (.func F.kea) [] []), (3, .ptr (some a1)), (4, .ptr (some a2)), (6, .ptr (some a3)), (8, .ptr (some a4)), (9, .int .i64 a5), (35, .int .i64 a6), (36, .int .i64 a7)]) h =
 cond (decide (a7 < a6)) (
 ((h.cell (a4.add 1)).bind AV.asSl).bind fun l8 =>
 ((h.cell (a1.add 1)).bind AV.asSl).bind fun l9 =>
 (idx l9.ref l9.len a7 1).bind fun r10 =>
 ((h.cell r10).bind (AV.asInt .u64)).bind fun n11 =>
 ((h.cell (a2.add 1)).bind AV.asSl).bind fun l12 =>
 (idx l12.ref l12.len a7 1).bind fun r13 =>
 ((h.cell r13).bind (AV.asInt .u64)).bind fun n14 =>
 (go (.fn F.kea [.int .u64 n11, .int .u64 n14]) h).bind fun q15 =>
 ((some q15.1).bind (AV.asInt .u64)).bind fun n16 =>
 whenK (SameAt h q15.2 (a4.add 1) 1) (
 (idx l8.ref l8.len a7 1).bind fun r17 =>
 (q15.2.puts r17 [.int .u64 n16]).bind fun h18 =>
 go (.pt F.kgt Td.kk8 [(2, .func (.func F.kea) [] []), (3, .ptr (some a1)), (4, .ptr (some a2)), (6, .ptr (some a3)), (8, .ptr (some a4)), (9, .int .i64 a5), (35, .int .i64 a6), (36, .int .i64 (IntKind.wrap .i64 (a7 + 1)))]) h18)) (
 ((h.cell (a4.add 0)).bind (AV.asInt .i64)).bind fun n19 =>
 ((h.cell (a4.add 1)).bind AV.asSl).bind fun l20 =>
 (h.puts a3 [.int .i64 n19, l20.v]).bind fun h21 =>
 ((h21.cell (a3.add 0)).bind (AV.asInt .i64)).bind fun n22 =>
 ((h21.cell (a3.add 1)).bind AV.asSl).bind fun l23 =>
 some (.tup [.agg [.int .i64 n22, l23.v], .int .i64 a5], h21)) := (kb _ h).trans (by kernel_rfl)
theorem k42 (a1 : Sl) (a2 : AV) (h : AH) : go (.fn F.kdr [a1.v, a2]) h =
 newK h (.cells [a1.v] T.kb6) fun h3r h3 =>
 go (.pt F.kdr Tr.kvi [(0, a1.v), (1, a2), (2, .ptr (some h3r)), (4, (⟨none, 0, .is 0⟩ : Sl).v), (6, a2)]) h3 := (kb _ h).trans (by kernel_rfl)
theorem krc (a1 : Sl) (a2 : Int) (a3 : Int) (h : AH) : go (.pt F.kcv Td.kev [(0, a1.v), (1, .func (.func F.kdf) [] []), (7, .int .i64 a2), (8, .int .i64 a3)]) h =
 cond (decide (a3 < a2)) (
 (idx a1.ref a1.len a3 1).bind fun r4 =>
 ((h.cell r4).bind AV.asSl).bind fun l5 =>
 (go (.fn F.kdf [l5.v]) h).bind fun q6 =>
 ((some q6.1).bind AV.asBool).bind fun b7 =>
 cond b7 (
 some (.int .i64 a3, q6.2)) (
 go (.pt F.kcv Td.kev [(0, a1.v), (1, .func (.func F.kdf) [] []), (7, .int .i64 a2), (8, .int .i64 (IntKind.wrap .i64 (a3 + 1)))]) q6.2)) (
 some (.int .i64 (-1), h)) := (kb _ h).trans (by kernel_rfl)
theorem ky9 (a1 : Int) (a2 : Int) (a3 : Int) (h : AH) : go (.pt F.kbf Td.koo [(0, .int .u64 a1), (1, .int .u64 a2), (2, .int .u64 a3)]) h =
 cond (decide (a3 ≤ a1)) (
 (h.cell (.old ⟨Gl.math_bits_overflowError, 0, none⟩)).bind fun v4 =>
 none) (
 cond (decide (a1 = 0)) (
 cond (decide (a3 = 0)) none (
 cond (decide (a3 = 0)) none (
 some (.tup [.int .u64 (IntKind.wrap .u64 (Int.tdiv a2 a3)), .int .u64 (Int.tmod a2 a3)], h)))) (
 (go (.fn F.kml [.int .u64 a3]) h).bind fun q5 =>
 ((some q5.1).bind (AV.asInt .i64)).bind fun n6 =>
 cond (decide ((IntKind.wrap .u64 n6) < 0)) none (
 cond (decide ((IntKind.wrap .u64 n6) < 0)) none (
 cond (decide ((IntKind.wrap .u64 (64 - (IntKind.wrap .u64 n6))) < 0)) none (
 cond (decide ((IntKind.wrap .u64 n6) < 0)) none (
 cond (decide ((ishr .u64 (ishl .u64 a3 (IntKind.wrap .u64 n6)) 32) = 0)) none (
 go (.pt F.kbf Td.kjp [(2, .int .u64 (ishl .u64 a3 (IntKind.wrap .u64 n6))), (8, .int .u64 (IntKind.wrap .u64 n6)), (9, .int .u64 (ishr .u64 (ishl .u64 a3 (IntKind.wrap .u64 n6)) 32)), (10, .int .u64 (iand .u64 (ishl .u64 a3 (IntKind.wrap .u64 n6)) 4294967295)), (11, .int .u64 (ior .u64 (ishl .u64 a1 (IntKind.wrap .u64 n6)) (ishr .u64 a2 (IntKind.wrap .u64 (64 - (IntKind.wrap .u64 n6)))))), (13, .int .u64 (ishr .u64 (ishl .u64 a2 (IntKind.wrap .u64 n6)) 32)), (14, .int .u64 (iand .u64 (ishl .u64 a2 (IntKind.wrap .u64 n6)) 4294967295)), (15, .int .u64 (IntKind.wrap .u64 (Int.tdiv (ior .u64 (ishl .u64 a1 (IntKind.wrap .u64 n6)) (ishr .u64 a2 (IntKind.wrap .u64 (64 - (IntKind.wrap .u64 n6))))) (ishr .u64 (ishl .u64 a3 (IntKind.wrap .u64 n6)) 32)))), (16, .int .u64 (IntKind.wrap .u64 ((ior .u64 (ishl .u64 a1 (IntKind.wrap .u64 n6)) (ishr .u64 a2 (IntKind.wrap .u64 (64 - (IntKind.wrap .u64 n6))))) - (IntKind.wrap .u64 ((IntKind.wrap .u64 (Int.tdiv (ior .u64 (ishl .u64 a1 (IntKind.wrap .u64 n6)) (ishr .u64 a2 (IntKind.wrap .u64 (64 - (IntKind.wrap .u64 n6))))) (ishr .u64 (ishl .u64 a3 (IntKind.wrap .u64 n6)) 32))) * (ishr .u64 (ishl .u64 a3 (IntKind.wrap .u64 n6)) 32))))))]) q5.2))))))) := (kb _ h).trans (by kernel_rfl)
theorem k5d (a1 : Int) (a2 : Int) (a3 : Int) (a4 : Int) (a5 : Int) (h : AH) : go (.pt F.keb Td.kju [(2, .int .u64 a1), (3, .int .u64 a2), (4, .int .u64 a3), (11, .int .u64 a4), (12, .int .u64 a5)]) h =
 (go (.fn F.kk1 [.int .u64 a4, .int .u64 a3]) h).bind fun q6 =>
 (AV.asTup2 q6.1).bind fun p7 =>
 ((some p7.1).bind (AV.asInt .u64)).bind fun n8 =>
 ((some p7.2).bind (AV.asInt .u64)).bind fun n9 =>
 cond (decide (n8 < a5)) (
 some (.int .u64 a4, q6.2)) (
 cond (decide (n8 = a5)) (
 cond (decide (n9 ≤ a1)) (
 some (.int .u64 a4, q6.2)) (
 cond (decide ((IntKind.wrap .u64 (a5 + a2)) < a5)) (
 some (.int .u64 (IntKind.wrap .u64 (a4 - 1)), q6.2)) (
 go (.pt F.keb Td.kju [(2, .int .u64 a1), (3, .int .u64 a2), (4, .int .u64 a3), (11, .int .u64 (IntKind.wrap .u64 (a4 - 1))), (12, .int .u64 (IntKind.wrap .u64 (a5 + a2)))]) q6.2))) (
 cond (decide ((IntKind.wrap .u64 (a5 + a2)) < a5)) (
 some (.int .u64 (IntKind.wrap .u64 (a4 - 1)), q6.2)) (
 go (.pt F.keb Td.kju [(2, .int .u64 a1), (3, .int .u64 a2), (4, .int .u64 a3), (11, .int .u64 (IntKind.wrap .u64 (a4 - 1))), (12, .int .u64 (IntKind.wrap .u64 (a5 + a2)))]) q6.2))) := (kb _ h).trans (by kernel_rfl)
theorem kzg (a1 : Int) (h : AH) : go (.fn F.kct [.int .i64 a1]) h =
 cond (decide (a1 < (-1048576))) (
 some (.bool true, h)) (
 some (.bool (decide (a1 > 1048576)), h)) := (kb _ h).trans (by kernel_rfl)
theorem kwf (a1 : Sl) (a2 : Sl) (a3 : Int) (a4 : Int) (a5 : Int) (h : AH) : go (.pt F.kbr Td.kly [(0, a1.v), (3, a2.v), (4, .int .i64 a3), (5, .int .u64 a4), (6, .int .i64 a5)]) h =
 cond (decide (a5 < 4)) (
 newK h (.cells [.int .u64 (Int.tmod a4 65536)] T.ke) fun h6r h6 =>
 (kbc Pg T.ke ((⟨some h6r, 1, .is 1⟩ : Sl).v) h6).bind fun p8 =>
 (kr Pg a2 p8.1 p8.2 T.ke 1 h6).bind fun q7 =>
 (AV.asSl q7.1).bind fun l9 =>
 go (.pt F.kbr Td.kly [(0, a1.v), (3, l9.v), (4, .int .i64 a3), (5, .int .u64 (IntKind.wrap .u64 (Int.tdiv a4 65536))), (6, .int .i64 (IntKind.wrap .i64 (a5 + 1)))]) q7.2) (
 go (.pt F.kbr Td.kia [(0, a1.v), (3, a2.v), (4, .int .i64 (IntKind.wrap .i64 (a3 + 1)))]) h) := (kb _ h).trans (by kernel_rfl)
theorem k0j (a1 : Sl) (h : AH) : go (.fn F.kc6 [a1.v]) h =
 go (.pt F.kc6 Td.kl4 [(0, a1.v), (3, .int .i64 (a1.len : Int))]) h := (kb _ h).trans (by kernel_rfl)
theorem ky3 (a1 : Sl) (a2 : Sl) (a3 : Sl) (a4 : Int) (a5 : Int) (a6 : Int) (h : AH) : go (.pt F.kce Td.klk [(0, a1.v), (1, a2.v), (5, a3.v), (6, .int .i64 a4), (7, .int .u64 a5), (8, .int .i64 a6)]) h =
 cond (decide (a6 < (a2.len : Int))) (
 (idx a3.ref a3.len (IntKind.wrap .i64 (a4 + a6)) 1).bind fun r7 =>
 ((h.cell r7).bind (AV.asInt .u64)).bind fun n8 =>
 (idx a1.ref a1.len a4 1).bind fun r9 =>
 ((h.cell r9).bind (AV.asInt .u64)).bind fun n10 =>
 (idx a2.ref a2.len a6 1).bind fun r11 =>
 ((h.cell r11).bind (AV.asInt .u64)).bind fun n12 =>
 (idx a3.ref a3.len (IntKind.wrap .i64 (a4 + a6)) 1).bind fun r13 =>
 (h.puts r13 [.int .u64 (Int.tmod (IntKind.wrap .u64 ((IntKind.wrap .u64 (n8 + (IntKind.wrap .u64 (n10 * n12)))) + a5)) 65536)]).bind fun h14 =>
 go (.pt F.kce Td.klk [(0, a1.v), (1, a2.v), (5, a3.v), (6, .int .i64 a4), (7, .int .u64 (IntKind.wrap .u64 (Int.tdiv (IntKind.wrap .u64 ((IntKind.wrap .u64 (n8 + (IntKind.wrap .u64 (n10 * n12)))) + a5)) 65536))), (8, .int .i64 (IntKind.wrap .i64 (a6 + 1)))]) h14) (
 (idx a3.ref a3.len (IntKind.wrap .i64 (a4 + (a2.len : Int))) 1).bind fun r15 =>
 (h.puts r15 [.int .u64 a5]).bind fun h16 =>
 go (.pt F.kce Td.kle [(0, a1.v), (1, a2.v), (5, a3.v), (6, .int .i64 (IntKind.wrap .i64 (a4 + 1)))]) h16) := (kb _ h).trans (by kernel_rfl)
theorem kt7 (a1 : Sl) (a2 : Sl) (a3 : Int) (h : AH) : go (.pt F.kbv Td.kg9 [(0, a1.v), (4, a2.v), (5, .int .i64 a3)]) h =
 cond (decide (a3 < (a1.len : Int))) (
 go (.pt F.kbv Td.kh0 [(0, a1.v), (4, a2.v), (5, .int .i64 a3), (6, .int .u64 0), (7, .int .i64 3)]) h) (
 some (.tup [a2.v, .bool (decide ((a2.len : Int) ≤ 64))], h)) := (kb _ h).trans (by kernel_rfl)
theorem k0l (a1 : Sl) (a2 : Sl) (a3 : Sl) (a4 : Sl) (a5 : Int) (h : AH) : go (.pt F.kck Td.kls [(0, a1.v), (1, a2.v), (6, a3.v), (7, a4.v), (8, .int .i64 a5)]) h =
 cond (decide (a5 ≥ 0)) (
 (idx a1.ref a1.len a5 1).bind fun r6 =>
 ((h.cell r6).bind (AV.asInt .u64)).bind fun n7 =>
 newK h (.cells [.int .u64 n7] T.ke) fun h8r h8 =>
 (kbc Pg T.ke a4.v h8).bind fun p10 =>
 (kr Pg (⟨some h8r, 1, .is 1⟩ : Sl) p10.1 p10.2 T.ke 1 h8).bind fun q9 =>
 (AV.asSl q9.1).bind fun l11 =>
 (go (.fn F.kc6 [l11.v]) q9.2).bind fun q12 =>
 ((some q12.1).bind AV.asSl).bind fun l13 =>
 go (.pt F.kck Td.kig [(0, a1.v), (1, a2.v), (6, a3.v), (7, l13.v), (8, .int .i64 a5), (9, .int .u64 0), (10, .int .u64 65535)]) q12.2) (
 (go (.fn F.kc6 [a3.v]) h).bind fun q14 =>
 ((some q14.1).bind AV.asSl).bind fun l15 =>
 some (.tup [l15.v, a4.v], q14.2)) := (kb _ h).trans (by kernel_rfl)
theorem k0b (a1 : Sl) (a2 : Sl) (h : AH) : go (.fn F.ke2 [a1.v, a2.v]) h =
 go (.pt F.ke2 Td.kjz [(0, a1.v), (1, a2.v), (5, (⟨none, 0, .is 0⟩ : Sl).v), (6, .int .u64 0), (7, .int .i64 0)]) h := (kb _ h).trans (by kernel_rfl)
theorem k67 (a1 : Sl) (h : AH) : go (.fn F.ky [a1.v, .func (.func F.kc5) [] []]) h =
 go (.pt F.ky Td.kby [(0, a1.v), (1, .func (.func F.kc5) [] []), (7, .int .i64 (a1.len : Int)), (8, .int .i64 0)]) h := (kb _ h).trans (by kernel_rfl)
theorem krh (a1 : Nat) (a2 : Sl) (a3 : Int) (a4 : Int) (h : AH) : go (.pt F.kgj Td.klf [(3, .map (some a1)), (7, a2.v), (8, .int .i64 a3), (9, .int .i64 a4)]) h =
 cond (decide (a4 < a3)) (
 (idx a2.ref a2.len a4 1).bind fun r5 =>
 ((h.cell r5).bind (AV.asInt .i64)).bind fun n6 =>
 (mapPut h a1 .i64 n6 (.int .i64 a4)).bind fun h7 =>
 go (.pt F.kgj Td.klf [(3, .map (some a1)), (7, a2.v), (8, .int .i64 a3), (9, .int .i64 (IntKind.wrap .i64 (a4 + 1)))]) h7) (
 some (.map (some a1), h)) := (kb _ h).trans (by kernel_rfl)
theorem k7q (a1 : Sl) (a2 : Option Ref) (h : AH) : go (.fn F.ky [a1.v, .func (.func F.kcp) [] [.ptr a2]]) h =
 go (.pt F.ky Td.kby [(0, a1.v), (1, .func (.func F.kcp) [] [.ptr a2]), (7, .int .i64 (a1.len : Int)), (8, .int .i64 0)]) h := (kb _ h).trans (by kernel_rfl)
theorem k6l (a1 : Sl) (a2 : Int) (h : AH) : go (.fn F.kfr [a1.v, .int .i64 a2]) h =
 go (.pt F.kfr Td.kj4 [(0, a1.v), (1, .int .i64 a2), (5, .int .i64 0)]) h := (kb _ h).trans (by kernel_rfl)
theorem kv4 (a1 : Int) (a2 : Int) (a3 : Int) (h : AH) : go (.pt F.kex Td.kj6 [(1, .int .i64 a1), (5, .int .u64 a2), (6, .int .i64 a3)]) h =
 cond (decide (a3 < (Int.tmod a1 64))) (
 go (.pt F.kex Td.kj6 [(1, .int .i64 a1), (5, .int .u64 (IntKind.wrap .u64 (Int.tdiv a2 2))), (6, .int .i64 (IntKind.wrap .i64 (a3 + 1)))]) h) (
 some (.bool (decide ((Int.tmod a2 2) = 1)), h)) := (kb _ h).trans (by kernel_rfl)
theorem k2s (a1 : Sl) (a2 : Option Ref) (h : AH) : go (.fn F.kc2 [a1.v, .func (.func F.kcq) [] [.ptr a2]]) h =
 (go (.fn F.ky [a1.v, .func (.func F.kcq) [] [.ptr a2]]) h).bind fun q3 =>
 ((some q3.1).bind (AV.asInt .i64)).bind fun n4 =>
 some (.bool (decide (n4 ≥ 0)), q3.2) := (kb _ h).trans (by kernel_rfl)
theorem ks8 (a1 : Ref) (a2 : Ref) (a3 : Sl) (a4 : Int) (a5 : Int) (h : AH) : go (.pt F.kf7 Td.kmh [(4, .ptr (some a1)), (6, .ptr (some a2)), (23, a3.v), (24, .int .i64 a4), (25, .int .i64 a5)]) h =
 cond (decide (a5 < a4)) (
 (idx a3.ref a3.len a5 1).bind fun r6 =>
 ((h.cell r6).bind (AV.asInt .i64)).bind fun n7 =>
 ((h.cell (a2.add 1)).bind AV.asSl).bind fun l8 =>
 (idx l8.ref l8.len (IntKind.wrap .i64 (Int.tdiv n7 64)) 1).bind fun r9 =>
 ((h.cell r9).bind (AV.asInt .u64)).bind fun n10 =>
 cond (decide ((Int.tmod n7 64) < 0)) none (
 (idx l8.ref l8.len (IntKind.wrap .i64 (Int.tdiv n7 64)) 1).bind fun r11 =>
 (h.puts r11 [.int .u64 (ior .u64 n10 (ishl .u64 1 (Int.tmod n7 64)))]).bind fun h12 =>
 go (.pt F.kf7 Td.kmh [(4, .ptr (some a1)), (6, .ptr (some a2)), (23, a3.v), (24, .int .i64 a4), (25, .int .i64 (IntKind.wrap .i64 (a5 + 1)))]) h12)) (
 ((h.cell (a2.add 0)).bind (AV.asInt .i64)).bind fun n13 =>
 ((h.cell (a2.add 1)).bind AV.asSl).bind fun l14 =>
 (h.puts a1 [.int .i64 n13, l14.v]).bind fun h15 =>
 ((h15.cell (a1.add 0)).bind (AV.asInt .i64)).bind fun n16 =>
 ((h15.cell (a1.add 1)).bind AV.asSl).bind fun l17 =>
 some (.tup [.agg [.int .i64 n16, l17.v], .int .i64 0], h15)) := (kb _ h).trans (by kernel_rfl)
theorem kbat (a1 : Int) (a2 : Int) (h : AH) : go (.fn F.kea [.int .u64 a1, .int .u64 a2]) h =
 some (.int .u64 (iand .u64 a1 a2), h) := (kb _ h).trans (by kernel_rfl)
theorem kbah (a1 : Sl) (a2 : AV) (a3 : Ref) (a4 : Sl) (a5 : AV) (h : AH) : go (.pt F.kdr Tr.kvi [(0, a1.v), (1, a2), (2, .ptr (some a3)), (4, a4.v), (6, a5)]) h =
 funcK a5 fun g10 f11 c12 =>
 newM h (kdg Fx.kn8 F.kdr 0 .ready none [(0, a1.v), (1, a2), (2, .ptr (some a3)), (4, a4.v), (6, a5)]) fun m6 h7 =>
 (callF Pg go g10 (f11 ++ [.func (.yield m6) [] []] ++ c12) h7).bind fun q8 =>
 (ke9 m6 q8.2).bind fun p9 =>
 go (.pt F.kdr ((p9.1.map Item.code).toList ++ Ta.kq7) [(0, a1.v), (1, a2), (2, .ptr (some a3)), (4, a4.v), (6, a5)]) p9.2 := (kb _ h).trans (by kernel_rfl)
theorem k0n (a1 : Sl) (h : AH) : go (.fn F.kdf [a1.v]) h =
 (go (.fn F.keh [a1.v]) h).bind fun q2 =>
 ((some q2.1).bind AV.asBool).bind fun b3 =>
 some (.bool (!b3), q2.2) := (kb _ h).trans (by kernel_rfl)
theorem kxs (a1 : Int) (a2 : Int) (a3 : Int) (a4 : Int) (a5 : Int) (a6 : Int) (a7 : Int) (a8 : Int) (a9 : Int) (h : AH) : go (.pt F.kbf Td.kjp [(2, .int .u64 a1), (8, .int .u64 a2), (9, .int .u64 a3), (10, .int .u64 a4), (11, .int .u64 a5), (13, .int .u64 a6), (14, .int .u64 a7), (15, .int .u64 a8), (16, .int .u64 a9)]) h =
 cond (decide (a8 ≥ 4294967296)) (
 cond (decide ((IntKind.wrap .u64 (a9 + a3)) ≥ 4294967296)) (
 cond (decide (a3 = 0)) none (
 go (.pt F.kbf Td.kfy [(2, .int .u64 a1), (8, .int .u64 a2), (9, .int .u64 a3), (10, .int .u64 a4), (14, .int .u64 a7), (15, .int .u64 (IntKind.wrap .u64 (a8 - 1))), (16, .int .u64 (IntKind.wrap .u64 ((IntKind.wrap .u64 ((IntKind.wrap .u64 ((IntKind.wrap .u64 (a5 * 4294967296)) + a6)) - (IntKind.wrap .u64 ((IntKind.wrap .u64 (a8 - 1)) * a1)))) - (IntKind.wrap .u64 ((IntKind.wrap .u64 (Int.tdiv (IntKind.wrap .u64 ((IntKind.wrap .u64 ((IntKind.wrap .u64 (a5 * 4294967296)) + a6)) - (IntKind.wrap .u64 ((IntKind.wrap .u64 (a8 - 1)) * a1)))) a3)) * a3))))), (17, .int .u64 (IntKind.wrap .u64 ((IntKind.wrap .u64 ((IntKind.wrap .u64 (a5 * 4294967296)) + a6)) - (IntKind.wrap .u64 ((IntKind.wrap .u64 (a8 - 1)) * a1))))), (18, .int .u64 (IntKind.wrap .u64 (Int.tdiv (IntKind.wrap .u64 ((IntKind.wrap .u64 ((IntKind.wrap .u64 (a5 * 4294967296)) + a6)) - (IntKind.wrap .u64 ((IntKind.wrap .u64 (a8 - 1)) * a1)))) a3)))]) h)) (
 go (.pt F.kbf Td.kjp [(2, .int .u64 a1), (8, .int .u64 a2), (9, .int .u64 a3), (10, .int .u64 a4), (11, .int .u64 a5), (13, .int .u64 a6), (14, .int .u64 a7), (15, .int .u64 (IntKind.wrap .u64 (a8 - 1))), (16, .int .u64 (IntKind.wrap .u64 (a9 + a3)))]) h)) (
 cond (decide ((IntKind.wrap .u64 (a8 * a4)) > (IntKind.wrap .u64 ((IntKind.wrap .u64 (4294967296 * a9)) + a6)))) (
 cond (decide ((IntKind.wrap .u64 (a9 + a3)) ≥ 4294967296)) (
 cond (decide (a3 = 0)) none (
 go (.pt F.kbf Td.kfy [(2, .int .u64 a1), (8, .int .u64 a2), (9, .int .u64 a3), (10, .int .u64 a4), (14, .int .u64 a7), (15, .int .u64 (IntKind.wrap .u64 (a8 - 1))), (16, .int .u64 (IntKind.wrap .u64 ((IntKind.wrap .u64 ((IntKind.wrap .u64 ((IntKind.wrap .u64 (a5 * 4294967296)) + a6)) - (IntKind.wrap .u64 ((IntKind.wrap .u64 (a8 - 1)) * a1)))) - (IntKind.wrap .u64 ((IntKind.wrap .u64 (Int.tdiv (IntKind.wrap .u64 ((IntKind.wrap .u64 ((IntKind.wrap .u64 (a5 * 4294967296)) + a6)) - (IntKind.wrap .u64 ((IntKind.wrap .u64 (a8 - 1)) * a1)))) a3)) * a3))))), (17, .int .u64 (IntKind.wrap .u64 ((IntKind.wrap .u64 ((IntKind.wrap .u64 (a5 * 4294967296)) + a6)) - (IntKind.wrap .u64 ((IntKind.wrap .u64 (a8 - 1)) * a1))))), (18, .int .u64 (IntKind.wrap .u64 (Int.tdiv (IntKind.wrap .u64 ((IntKind.wrap .u64 ((IntKind.wrap .u64 (a5 * 4294967296)) + a6)) - (IntKind.wrap .u64 ((IntKind.wrap .u64 (a8 - 1)) * a1)))) a3)))]) h)) (
 go (.pt F.kbf Td.kjp [(2, .int .u64 a1), (8, .int .u64 a2), (9, .int .u64 a3), (10, .int .u64 a4), (11, .int .u64 a5), (13, .int .u64 a6), (14, .int .u64 a7), (15, .int .u64 (IntKind.wrap .u64 (a8 - 1))), (16, .int .u64 (IntKind.wrap .u64 (a9 + a3)))]) h)) (
 cond (decide (a3 = 0)) none (
 go (.pt F.kbf Td.kfy [(2, .int .u64 a1), (8, .int .u64 a2), (9, .int .u64 a3), (10, .int .u64 a4), (14, .int .u64 a7), (15, .int .u64 a8), (16, .int .u64 (IntKind.wrap .u64 ((IntKind.wrap .u64 ((IntKind.wrap .u64 ((IntKind.wrap .u64 (a5 * 4294967296)) + a6)) - (IntKind.wrap .u64 (a8 * a1)))) - (IntKind.wrap .u64 ((IntKind.wrap .u64 (Int.tdiv (IntKind.wrap .u64 ((IntKind.wrap .u64 ((IntKind.wrap .u64 (a5 * 4294967296)) + a6)) - (IntKind.wrap .u64 (a8 * a1)))) a3)) * a3))))), (17, .int .u64 (IntKind.wrap .u64 ((IntKind.wrap .u64 ((IntKind.wrap .u64 (a5 * 4294967296)) + a6)) - (IntKind.wrap .u64 (a8 * a1))))), (18, .int .u64 (IntKind.wrap .u64 (Int.tdiv (IntKind.wrap .u64 ((IntKind.wrap .u64 ((IntKind.wrap .u64 (a5 * 4294967296)) + a6)) - (IntKind.wrap .u64 (a8 * a1)))) a3)))]) h))) := (kb _ h).trans (by kernel_rfl)
theorem kuc (a1 : Sl) (a2 : Int) (h : AH) : go (.pt F.kc6 Td.kl4 [(0, a1.v), (3, .int .i64 a2)]) h =
 cond (decide (a2 > 0)) (
 (idx a1.ref a1.len (IntKind.wrap .i64 (a2 - 1)) 1).bind fun r3 =>
 ((h.cell r3).bind (AV.asInt .u64)).bind fun n4 =>
 cond (decide (n4 = 0)) (
 go (.pt F.kc6 Td.kl4 [(0, a1.v), (3, .int .i64 (IntKind.wrap .i64 (a2 - 1)))]) h) (
 (cutSl a1 0 a2 1).bind fun l5 =>
 some (l5.v, h))) (
 (cutSl a1 0 a2 1).bind fun l6 =>
 some (l6.v, h)) := (kb _ h).trans (by kernel_rfl)
theorem kul (a1 : Sl) (a2 : Sl) (a3 : Int) (a4 : Int) (a5 : Int) (h : AH) : go (.pt F.kbv Td.kh0 [(0, a1.v), (4, a2.v), (5, .int .i64 a3), (6, .int .u64 a4), (7, .int .i64 a5)]) h =
 cond (decide (a5 ≥ 0)) (
 cond (decide ((IntKind.wrap .i64 (a3 + a5)) < (a1.len : Int))) (
 (idx a1.ref a1.len (IntKind.wrap .i64 (a3 + a5)) 1).bind fun r6 =>
 ((h.cell r6).bind (AV.asInt .u64)).bind fun n7 =>
 go (.pt F.kbv Td.kh0 [(0, a1.v), (4, a2.v), (5, .int .i64 a3), (6, .int .u64 (IntKind.wrap .u64 ((IntKind.wrap .u64 (a4 * 65536)) + n7))), (7, .int .i64 (IntKind.wrap .i64 (a5 - 1)))]) h) (
 go (.pt F.kbv Td.kh0 [(0, a1.v), (4, a2.v), (5, .int .i64 a3), (6, .int .u64 (IntKind.wrap .u64 (a4 * 65536))), (7, .int .i64 (IntKind.wrap .i64 (a5 - 1)))]) h)) (
 newK h (.cells [.int .u64 a4] T.ke) fun h8r h8 =>
 (kbc Pg T.ke ((⟨some h8r, 1, .is 1⟩ : Sl).v) h8).bind fun p10 =>
 (kr Pg a2 p10.1 p10.2 T.ke 1 h8).bind fun q9 =>
 (AV.asSl q9.1).bind fun l11 =>
 go (.pt F.kbv Td.kg9 [(0, a1.v), (4, l11.v), (5, .int .i64 (IntKind.wrap .i64 (a3 + 4)))]) q9.2) := (kb _ h).trans (by kernel_rfl)
theorem kx9 (a1 : Sl) (a2 : Sl) (a3 : Sl) (a4 : Sl) (a5 : Int) (a6 : Int) (a7 : Int) (h : AH) : go (.pt F.kck Td.kig [(0, a1.v), (1, a2.v), (6, a3.v), (7, a4.v), (8, .int .i64 a5), (9, .int .u64 a6), (10, .int .u64 a7)]) h =
 cond (decide (a6 < a7)) (
 newK h (.cells [.int .u64 (IntKind.wrap .u64 (Int.tdiv (IntKind.wrap .u64 ((IntKind.wrap .u64 (a6 + a7)) + 1)) 2))] T.ke) fun h8r h8 =>
 (go (.fn F.kce [a2.v, (⟨some h8r, 1, .is 1⟩ : Sl).v]) h8).bind fun q9 =>
 ((some q9.1).bind AV.asSl).bind fun l10 =>
 (go (.fn F.ke5 [l10.v, a4.v]) q9.2).bind fun q11 =>
 ((some q11.1).bind (AV.asInt .i64)).bind fun n12 =>
 cond (decide (n12 ≤ 0)) (
 go (.pt F.kck Td.kig [(0, a1.v), (1, a2.v), (6, a3.v), (7, a4.v), (8, .int .i64 a5), (9, .int .u64 (IntKind.wrap .u64 (Int.tdiv (IntKind.wrap .u64 ((IntKind.wrap .u64 (a6 + a7)) + 1)) 2))), (10, .int .u64 a7)]) q11.2) (
 go (.pt F.kck Td.kig [(0, a1.v), (1, a2.v), (6, a3.v), (7, a4.v), (8, .int .i64 a5), (9, .int .u64 a6), (10, .int .u64 (IntKind.wrap .u64 ((IntKind.wrap .u64 (Int.tdiv (IntKind.wrap .u64 ((IntKind.wrap .u64 (a6 + a7)) + 1)) 2)) - 1)))]) q11.2)) (
 (idx a3.ref a3.len a5 1).bind fun r13 =>
 (h.puts r13 [.int .u64 a6]).bind fun h14 =>
 newK h14 (.cells [.int .u64 a6] T.ke) fun h15r h15 =>
 (go (.fn F.kce [a2.v, (⟨some h15r, 1, .is 1⟩ : Sl).v]) h15).bind fun q16 =>
 ((some q16.1).bind AV.asSl).bind fun l17 =>
 (go (.fn F.ke2 [a4.v, l17.v]) q16.2).bind fun q18 =>
 ((some q18.1).bind AV.asSl).bind fun l19 =>
 go (.pt F.kck Td.kls [(0, a1.v), (1, a2.v), (6, a3.v), (7, l19.v), (8, .int .i64 (IntKind.wrap .i64 (a5 - 1)))]) q18.2) := (kb _ h).trans (by kernel_rfl)
theorem kqs (a1 : Sl) (a2 : Sl) (a3 : Sl) (a4 : Int) (a5 : Int) (h : AH) : go (.pt F.ke2 Td.kjz [(0, a1.v), (1, a2.v), (5, a3.v), (6, .int .u64 a4), (7, .int .i64 a5)]) h =
 cond (decide (a5 < (a1.len : Int))) (
 (idx a1.ref a1.len a5 1).bind fun r6 =>
 ((h.cell r6).bind (AV.asInt .u64)).bind fun n7 =>
 (go (.fn F.kpd [a2.v, .int .i64 a5]) h).bind fun q8 =>
 ((some q8.1).bind (AV.asInt .u64)).bind fun n9 =>
 whenK (SameAt h q8.2 r6 1) (
 newK q8.2 (.cells [.int .u64 (Int.tmod (IntKind.wrap .u64 ((IntKind.wrap .u64 ((IntKind.wrap .u64 (65536 + n7)) - n9)) - a4)) 65536)] T.ke) fun h10r h10 =>
 (kbc Pg T.ke ((⟨some h10r, 1, .is 1⟩ : Sl).v) h10).bind fun p12 =>
 (kr Pg a3 p12.1 p12.2 T.ke 1 h10).bind fun q11 =>
 (AV.asSl q11.1).bind fun l13 =>
 go (.pt F.ke2 Td.kjz [(0, a1.v), (1, a2.v), (5, l13.v), (6, .int .u64 (IntKind.wrap .u64 (1 - (IntKind.wrap .u64 (Int.tdiv (IntKind.wrap .u64 ((IntKind.wrap .u64 ((IntKind.wrap .u64 (65536 + n7)) - n9)) - a4)) 65536))))), (7, .int .i64 (IntKind.wrap .i64 (a5 + 1)))]) q11.2)) (
 (go (.fn F.kc6 [a3.v]) h).bind fun q14 =>
 ((some q14.1).bind AV.asSl).bind fun l15 =>
 some (l15.v, q14.2)) := (kb _ h).trans (by kernel_rfl)
theorem ku1 (a1 : Sl) (a2 : Int) (a3 : Int) (h : AH) : go (.pt F.ky Td.kby [(0, a1.v), (1, .func (.func F.kc5) [] []), (7, .int .i64 a2), (8, .int .i64 a3)]) h =
 cond (decide (a3 < a2)) (
 (idx a1.ref a1.len a3 1).bind fun r4 =>
 ((h.cell r4).bind (AV.asInt .i64)).bind fun n5 =>
 (go (.fn F.kc5 [.int .i64 n5]) h).bind fun q6 =>
 ((some q6.1).bind AV.asBool).bind fun b7 =>
 cond b7 (
 some (.int .i64 a3, q6.2)) (
 go (.pt F.ky Td.kby [(0, a1.v), (1, .func (.func F.kc5) [] []), (7, .int .i64 a2), (8, .int .i64 (IntKind.wrap .i64 (a3 + 1)))]) q6.2)) (
 some (.int .i64 (-1), h)) := (kb _ h).trans (by kernel_rfl)
theorem kt2 (a1 : Sl) (a2 : Option Ref) (a3 : Int) (a4 : Int) (h : AH) : go (.pt F.ky Td.kby [(0, a1.v), (1, .func (.func F.kcp) [] [.ptr a2]), (7, .int .i64 a3), (8, .int .i64 a4)]) h =
 cond (decide (a4 < a3)) (
 (idx a1.ref a1.len a4 1).bind fun r5 =>
 ((h.cell r5).bind (AV.asInt .i64)).bind fun n6 =>
 (go (.fn F.kcp [.int .i64 n6, .ptr a2]) h).bind fun q7 =>
 ((some q7.1).bind AV.asBool).bind fun b8 =>
 cond b8 (
 some (.int .i64 a4, q7.2)) (
 go (.pt F.ky Td.kby [(0, a1.v), (1, .func (.func F.kcp) [] [.ptr a2]), (7, .int .i64 a3), (8, .int .i64 (IntKind.wrap .i64 (a4 + 1)))]) q7.2)) (
 some (.int .i64 (-1), h)) := (kb _ h).trans (by kernel_rfl)
theorem kvm (a1 : Sl) (a2 : Int) (a3 : Int) (h : AH) : go (.pt F.kfr Td.kj4 [(0, a1.v), (1, .int .i64 a2), (5, .int .i64 a3)]) h =
 cond (decide (a3 < (a1.len : Int))) (
 (idx a1.ref a1.len a3 1).bind fun r4 =>
 ((h.cell r4).bind (AV.asInt .i64)).bind fun n5 =>
 cond (decide (n5 = a2)) (
 some (.int .i64 a3, h)) (
 go (.pt F.kfr Td.kj4 [(0, a1.v), (1, .int .i64 a2), (5, .int .i64 (IntKind.wrap .i64 (a3 + 1)))]) h)) (
 some (.int .i64 (-1), h)) := (kb _ h).trans (by kernel_rfl)
theorem k3y (a1 : Sl) (a2 : Option Ref) (h : AH) : go (.fn F.ky [a1.v, .func (.func F.kcq) [] [.ptr a2]]) h =
 go (.pt F.ky Td.kby [(0, a1.v), (1, .func (.func F.kcq) [] [.ptr a2]), (7, .int .i64 (a1.len : Int)), (8, .int .i64 0)]) h := (kb _ h).trans (by kernel_rfl)
theorem k84 (l : Nat) (pe : Option Code) (a1 : Sl) (a2 : AV) (a3 : Ref) (a4 : Sl) (a5 : AV) (a6 : Int) (h : AH) (hb : h.blks[l]? = some (kdg Fx.kn8 F.kdr 0 .ready pe [(0, a1.v), (1, a2), (2, .ptr (some a3)), (4, a4.v), (6, a5)])) : go (.round l [.int .i64 a6]) h =
 (beginA l h).bind fun h7 =>
 ((h7.cell a3).bind AV.asSl).bind fun l8 =>
 newK h7 (.cells [.int .i64 a6] T.int) fun h9r h9 =>
 (kbc Pg T.int ((⟨some h9r, 1, .is 1⟩ : Sl).v) h9).bind fun p11 =>
 (kr Pg l8 p11.1 p11.2 T.int 1 h9).bind fun q10 =>
 (AV.asSl q10.1).bind fun l12 =>
 (q10.2.puts a3 [l12.v]).bind fun h13 =>
 kb4 l none h13 := (kb _ h).trans ((knk hb).trans (by kernel_rfl))
theorem kwt (a1 : Sl) (a2 : AV) (a3 : Ref) (a4 : Sl) (a5 : AV) (h : AH) : go (.pt F.kdr ((Option.map Item.code none).toList ++ Ta.kq7) [(0, a1.v), (1, a2), (2, .ptr (some a3)), (4, a4.v), (6, a5)]) h =
 ((h.cell a3).bind AV.asSl).bind fun l6 =>
 some (l6.v, h) := (kb _ h).trans (by kernel_rfl)
theorem k1c (a1 : Int) (a2 : Int) (a3 : Int) (a4 : Int) (a5 : Int) (a6 : Int) (a7 : Int) (a8 : Int) (a9 : Int) (h : AH) : go (.pt F.kbf Td.kfy [(2, .int .u64 a1), (8, .int .u64 a2), (9, .int .u64 a3), (10, .int .u64 a4), (14, .int .u64 a5), (15, .int .u64 a6), (16, .int .u64 a7), (17, .int .u64 a8), (18, .int .u64 a9)]) h =
 cond (decide (a9 ≥ 4294967296)) (
 cond (decide ((IntKind.wrap .u64 (a7 + a3)) ≥ 4294967296)) (
 cond (decide (a2 < 0)) none (
 some (.tup [.int .u64 (IntKind.wrap .u64 ((IntKind.wrap .u64 (a6 * 4294967296)) + (IntKind.wrap .u64 (a9 - 1)))), .int .u64 (ishr .u64 (IntKind.wrap .u64 ((IntKind.wrap .u64 ((IntKind.wrap .u64 (a8 * 4294967296)) + a5)) - (IntKind.wrap .u64 ((IntKind.wrap .u64 (a9 - 1)) * a1)))) a2)], h))) (
 go (.pt F.kbf Td.kfy [(2, .int .u64 a1), (8, .int .u64 a2), (9, .int .u64 a3), (10, .int .u64 a4), (14, .int .u64 a5), (15, .int .u64 a6), (16, .int .u64 (IntKind.wrap .u64 (a7 + a3))), (17, .int .u64 a8), (18, .int .u64 (IntKind.wrap .u64 (a9 - 1)))]) h)) (
 cond (decide ((IntKind.wrap .u64 (a9 * a4)) > (IntKind.wrap .u64 ((IntKind.wrap .u64 (4294967296 * a7)) + a5)))) (
 cond (decide ((IntKind.wrap .u64 (a7 + a3)) ≥ 4294967296)) (
 cond (decide (a2 < 0)) none (
 some (.tup [.int .u64 (IntKind.wrap .u64 ((IntKind.wrap .u64 (a6 * 4294967296)) + (IntKind.wrap .u64 (a9 - 1)))), .int .u64 (ishr .u64 (IntKind.wrap .u64 ((IntKind.wrap .u64 ((IntKind.wrap .u64 (a8 * 4294967296)) + a5)) - (IntKind.wrap .u64 ((IntKind.wrap .u64 (a9 - 1)) * a1)))) a2)], h))) (
 go (.pt F.kbf Td.kfy [(2, .int .u64 a1), (8, .int .u64 a2), (9, .int .u64 a3), (10, .int .u64 a4), (14, .int .u64 a5), (15, .int .u64 a6), (16, .int .u64 (IntKind.wrap .u64 (a7 + a3))), (17, .int .u64 a8), (18, .int .u64 (IntKind.wrap .u64 (a9 - 1)))]) h)) (
 cond (decide (a2 < 0)) none (
 some (.tup [.int .u64 (IntKind.wrap .u64 ((IntKind.wrap .u64 (a6 * 4294967296)) + a9)), .int .u64 (ishr .u64 (IntKind.wrap .u64 ((IntKind.wrap .u64 ((IntKind.wrap .u64 (a8 * 4294967296)) + a5)) - (IntKind.wrap .u64 (a9 * a1)))) a2)], h)))) := (kb _ h).trans (by kernel_rfl)
theorem k0c (a1 : Sl) (a2 : Int) (h : AH) : go (.fn F.kpd [a1.v, .int .i64 a2]) h =
 cond (decide (a2 < (a1.len : Int))) (
 (idx a1.ref a1.len a2 1).bind fun r3 =>
 ((h.cell r3).bind (AV.asInt .u64)).bind fun n4 =>
 some (.int .u64 n4, h)) (
 some (.int .u64 0, h)) := (kb _ h).trans (by kernel_rfl)
theorem k3r (a1 : Int) (h : AH) : go (.fn F.kc5 [.int .i64 a1]) h =
 cond (decide (a1 < 0)) (
 some (.bool true, h)) (
 some (.bool (decide (a1 > 1073741824)), h)) := (kb _ h).trans (by kernel_rfl)
theorem k27 (a1 : Int) (a2 : Option Ref) (h : AH) : go (.fn F.kcp [.int .i64 a1, .ptr a2]) h =
 cond (decide (a1 < 0)) (
 some (.bool true, h)) (
 a2.bind fun r3 =>
 ((h.cell r3).bind (AV.asInt .i64)).bind fun n4 =>
 some (.bool (decide (a1 ≥ n4)), h)) := (kb _ h).trans (by kernel_rfl)
theorem kth (a1 : Sl) (a2 : Option Ref) (a3 : Int) (a4 : Int) (h : AH) : go (.pt F.ky Td.kby [(0, a1.v), (1, .func (.func F.kcq) [] [.ptr a2]), (7, .int .i64 a3), (8, .int .i64 a4)]) h =
 cond (decide (a4 < a3)) (
 (idx a1.ref a1.len a4 1).bind fun r5 =>
 ((h.cell r5).bind (AV.asInt .i64)).bind fun n6 =>
 (go (.fn F.kcq [.int .i64 n6, .ptr a2]) h).bind fun q7 =>
 ((some q7.1).bind AV.asBool).bind fun b8 =>
 cond b8 (
 some (.int .i64 a4, q7.2)) (
 go (.pt F.ky Td.kby [(0, a1.v), (1, .func (.func F.kcq) [] [.ptr a2]), (7, .int .i64 a3), (8, .int .i64 (IntKind.wrap .i64 (a4 + 1)))]) q7.2)) (
 some (.int .i64 (-1), h)) := (kb _ h).trans (by kernel_rfl)
theorem k4o (a1 : Int) (a2 : Option Ref) (h : AH) : go (.fn F.kcq [.int .i64 a1, .ptr a2]) h =
 cond (decide (a1 < 0)) (
 some (.bool true, h)) (
 a2.bind fun r3 =>
 ((h.cell r3).bind (AV.asInt .i64)).bind fun n4 =>
 some (.bool (decide (a1 ≥ n4)), h)) := (kb _ h).trans (by kernel_rfl)
end Go.Ab
