/- squeezed -/
import Derived.Test.YtkcloajajkchiaaPAbsDra
import Derived.Test.YtkcloajajkchiaaProg
import Derived.Test.YtkcloajajkchiaaPAbsQ

set_option linter.unusedVariables false
set_option maxRecDepth 100000
namespace Go.Ab
open Go.Proofs
@[reducible] def F.kbd : FuncId := 4
@[reducible] def F.kgk : FuncId := 5
@[reducible] def F.kcp : FuncId := 6
@[reducible] def F.kcn : FuncId := 7
@[reducible] def F.kbb : FuncId := 8
@[reducible] def F.kfe : FuncId := 9
@[reducible] def F.kex : FuncId := 10
@[reducible] def F.kf9 : FuncId := 11
@[reducible] def F.kf1 : FuncId := 12
@[reducible] def F.kb1 : FuncId := 13
@[reducible] def F.kg5 : FuncId := 14
@[reducible] def F.kgs : FuncId := 15
@[reducible] def F.kbo : FuncId := 16
@[reducible] def F.kc2 : FuncId := 17
@[reducible] def F.ky : FuncId := 18
@[reducible] def F.kf6 : FuncId := 19
@[reducible] def F.khj : FuncId := 20
@[reducible] def F.kb4 : FuncId := 21
@[reducible] def F.kbu : FuncId := 22
@[reducible] def F.kbs : FuncId := 23
@[reducible] def F.kbg : FuncId := 24
@[reducible] def F.kdo : FuncId := 25
@[reducible] def F.kd6 : FuncId := 26
@[reducible] def F.kcy : FuncId := 27
@[reducible] def F.kho : FuncId := 28
@[reducible] def F.kz : FuncId := 29
@[reducible] def F.kdm : FuncId := 30
@[reducible] def F.ke : FuncId := 31
@[reducible] def F.kem : FuncId := 32
@[reducible] def F.kgx : FuncId := 33
@[reducible] def F.kbt : FuncId := 34
@[reducible] def F.kbz : FuncId := 35
@[reducible] def F.kdc : FuncId := 36
@[reducible] def F.kes : FuncId := 37
@[reducible] def F.kcw : FuncId := 38
@[reducible] def F.kk1 : FuncId := 39
@[reducible] def F.kha : FuncId := 40
@[reducible] def F.kr : FuncId := 41
@[reducible] def F.kba : FuncId := 42
@[reducible] def F.kg1 : FuncId := 43
@[reducible] def F.ked : FuncId := 44
@[reducible] def F.kgb : FuncId := 45
@[reducible] def F.kc5 : FuncId := 46
@[reducible] def F.khp : FuncId := 47
@[reducible] def F.kck : FuncId := 48
@[reducible] def F.ku : FuncId := 49
@[reducible] def F.kbm : FuncId := 50
@[reducible] def F.kcu : FuncId := 51
@[reducible] def F.kv : FuncId := 52
@[reducible] def F.kcq : FuncId := 53
@[reducible] def F.keu : FuncId := 54
@[reducible] def F.kde : FuncId := 55
@[reducible] def T.func : TypeId := 1
@[reducible] def T.int : TypeId := 3
@[reducible] def T.bool : TypeId := 4
@[reducible] def T.string : TypeId := 9
@[reducible] def T.any : TypeId := 20
@[reducible] def T.khe : TypeId := 22
@[reducible] def T.kbc : TypeId := 24
@[reducible] def T.kcc : TypeId := 25
@[reducible] def T.kg6 : TypeId := 26
@[reducible] def T.k8 : TypeId := 28
@[reducible] def T.kgq : TypeId := 39
@[reducible] def T.ke3 : TypeId := 40
@[reducible] def T.kw : TypeId := 42
@[reducible] def T.kdj : TypeId := 44
@[reducible] def T.kbe : TypeId := 52
@[reducible] def T.kd9 : TypeId := 54
@[reducible] def T.ko : TypeId := 59
@[reducible] def T.kgm : TypeId := 60
@[reducible] def T.kbf : TypeId := 62
@[reducible] def T.koh : TypeId := 67
@[reducible] def T.kx : TypeId := 69
@[reducible] def T.kcz : TypeId := 85
@[reducible] def T.kgh : TypeId := 87
@[reducible] def T.kko : TypeId := 88
@[reducible] def T.kk6 : TypeId := 94
@[reducible] def T.khb : TypeId := 99
@[reducible] noncomputable def Pg : Program := Try.prog
def keepTab : List (Nat × Nat × List Nat) := [(4, 10, [2, 9, 11, 13]), (4, 24, [2, 9, 11, 13, 22]), (6, 3, [2, 3, 5, 6]), (7, 8, [8, 9, 37, 38, 39]), (8, 8, [1, 3, 5, 10]), (8, 11, [1, 3, 5, 10, 11]), (12, 1000001, [0, 1, 2, 3, 5, 6, 7, 8, 9, 4, 10, 11, 12, 13]), (13, 4, [0, 1, 5]), (14, 1000008, [0, 1, 3, 4, 5, 7, 8, 2, 6, 9, 10]), (16, 4, [12, 13, 14]), (16, 9, [4, 12, 13, 14, 29, 30, 31]), (17, 4, [1, 27, 28, 29]), (21, 0, [0]), (21, 1000004, [0, 1, 2, 3, 4, 5, 6, 7, 8, 9, 10, 11, 12, 13, 14, 15, 16, 17, 18, 19, 20, 22, 23, 21, 24, 25]), (22, 4, [1, 3]), (22, 10, [1, 3, 4, 5]), (23, 5, [1, 4]), (23, 10, [1, 4, 5]), (24, 0, [0]), (27, 4, [0, 1, 5]), (29, 6, [1, 4, 43, 44, 45]), (29, 15, [1, 84, 85]), (31, 6, [1]), (31, 7, [1, 4]), (31, 8, [1, 4, 5]), (31, 9, [1, 4, 5, 6]), (31, 11, [1]), (31, 13, [1]), (31, 16, [1, 7]), (31, 21, [1, 8]), (31, 26, [1, 9]), (36, 2, [0, 1, 7, 8]), (38, 4, [0, 3]), (39, 4, [0, 1, 5]), (46, 6, [3]), (51, 3, [3, 7, 8, 9]), (52, 2, [0, 1, 7, 8]), (53, 2, [0, 1, 5]), (55, 2, [0, 1, 7, 8])]
noncomputable def go : Rec := run Pg (keepOf keepTab)
theorem kc (k : Key) (h : AH) : go k h = stepA Pg (keepOf keepTab) go k h := kp5 _ k h
theorem kbk : Pg.underlying T.int = some (.int .i64) := Try.underlying3
theorem kdw : Pg.cellsOf T.int = 1 := by kernel_rfl
theorem kms : kbr Pg T.int = some [.int .i64 0] := by kernel_rfl
theorem kjx : Pg.bytesOf T.int = 8 := by kernel_rfl
theorem kkt : Pg.underlying T.bool = some .bool := Try.underlying4
theorem kjp : Pg.cellsOf T.bool = 1 := by kernel_rfl
theorem ksd : Pg.underlying T.khe = some (.slice T.kbf) := Try.underlying22
theorem kqk : Pg.cellsOf T.khe = 1 := by kernel_rfl
theorem kjc : Pg.underlying T.kbc = some (.struct #[{ name := "Trees", type := T.khe, offset := 0, embedded := false, tag := "", pkgPath := "", byteOffset := 0 }]) := Try.underlying24
theorem kl3 : Pg.cellsOf T.kbc = 1 := by kernel_rfl
theorem km3 : Pg.underlying T.kcc = some (.slice T.int) := Try.underlying25
theorem kgc : Pg.cellsOf T.kcc = 1 := by kernel_rfl
theorem kqn : Pg.underlying T.kg6 = some (.slice T.kcc) := Try.underlying26
theorem kpj : Pg.cellsOf T.kg6 = 1 := by kernel_rfl
theorem kh7 : Pg.underlying T.k8 = some (.struct #[{ name := "Ids", type := T.kcc, offset := 0, embedded := false, tag := "", pkgPath := "", byteOffset := 0 }, { name := "Bins", type := T.kcc, offset := 1, embedded := false, tag := "", pkgPath := "", byteOffset := 24 }, { name := "Cols", type := T.kg6, offset := 2, embedded := false, tag := "", pkgPath := "", byteOffset := 48 }]) := Try.underlying28
theorem kkw : Pg.cellsOf T.k8 = 3 := by kernel_rfl
theorem kh2 : Pg.underlying T.kgq = some (.slice T.kd9) := Try.underlying39
theorem kqq : Pg.underlying T.ke3 = some (.slice T.kcz) := Try.underlying40
theorem kq5 : Pg.cellsOf T.ke3 = 1 := by kernel_rfl
theorem kq9 : Pg.underlying T.kw = some (.struct #[{ name := "Kind", type := T.int, offset := 0, embedded := false, tag := "", pkgPath := "", byteOffset := 0 }, { name := "A", type := T.int, offset := 1, embedded := false, tag := "", pkgPath := "", byteOffset := 8 }, { name := "B", type := T.int, offset := 2, embedded := false, tag := "", pkgPath := "", byteOffset := 16 }, { name := "C", type := T.int, offset := 3, embedded := false, tag := "", pkgPath := "", byteOffset := 24 }, { name := "Ids", type := T.kcc, offset := 4, embedded := false, tag := "", pkgPath := "", byteOffset := 32 }, { name := "Rows", type := T.kcc, offset := 5, embedded := false, tag := "", pkgPath := "", byteOffset := 56 }, { name := "Nats", type := T.ke3, offset := 6, embedded := false, tag := "", pkgPath := "", byteOffset := 80 }]) := Try.underlying42
theorem kim : Pg.cellsOf T.kw = 7 := by kernel_rfl
theorem kmc : Pg.underlying T.kd9 = some (.struct #[{ name := "From", type := T.int, offset := 0, embedded := false, tag := "", pkgPath := "", byteOffset := 0 }, { name := "Msg", type := T.kw, offset := 1, embedded := false, tag := "", pkgPath := "", byteOffset := 8 }, { name := "Right", type := T.bool, offset := 8, embedded := false, tag := "", pkgPath := "", byteOffset := 112 }, { name := "Way", type := T.int, offset := 9, embedded := false, tag := "", pkgPath := "", byteOffset := 120 }]) := Try.underlying54
theorem kki : Pg.cellsOf T.kd9 = 10 := by kernel_rfl
theorem kmu : Pg.underlying T.ko = some (.struct #[{ name := "Leaf", type := T.bool, offset := 0, embedded := false, tag := "", pkgPath := "", byteOffset := 0 }, { name := "Weight", type := T.int, offset := 1, embedded := false, tag := "", pkgPath := "", byteOffset := 8 }, { name := "Party", type := T.int, offset := 2, embedded := false, tag := "", pkgPath := "", byteOffset := 16 }, { name := "Feature", type := T.int, offset := 3, embedded := false, tag := "", pkgPath := "", byteOffset := 24 }, { name := "Cut", type := T.int, offset := 4, embedded := false, tag := "", pkgPath := "", byteOffset := 32 }, { name := "Left", type := T.int, offset := 5, embedded := false, tag := "", pkgPath := "", byteOffset := 40 }, { name := "Right", type := T.int, offset := 6, embedded := false, tag := "", pkgPath := "", byteOffset := 48 }]) := Try.underlying59
theorem kg4 : Pg.cellsOf T.ko = 7 := by kernel_rfl
theorem ko7 : kbr Pg T.ko = some [.bool false, .int .i64 0, .int .i64 0, .int .i64 0, .int .i64 0, .int .i64 0, .int .i64 0] := by kernel_rfl
theorem ksi : Pg.bytesOf T.ko = 56 := by kernel_rfl
theorem kor : Pg.underlying T.kgm = some (.slice T.ko) := Try.underlying60
theorem kk7 : Pg.cellsOf T.kgm = 1 := by kernel_rfl
theorem kk2 : Pg.underlying T.kbf = some (.struct #[{ name := "Nodes", type := T.kgm, offset := 0, embedded := false, tag := "", pkgPath := "", byteOffset := 0 }]) := Try.underlying62
theorem kg8 : Pg.cellsOf T.kbf = 1 := by kernel_rfl
theorem kl4 : kbr Pg T.kbf = some [(⟨none, 0, .is 0⟩ : Sl).v] := by kernel_rfl
theorem krg : Pg.bytesOf T.kbf = 24 := by kernel_rfl
theorem ki8 : Pg.underlying T.kcz = some (.slice T.khb) := Try.underlying85
theorem ksb : Pg.cellsOf T.kcz = 1 := by kernel_rfl
theorem kn2 : Pg.underlying T.khb = some (.int .u64) := Try.underlying99
theorem kma : Pg.cellsOf T.khb = 1 := by kernel_rfl
noncomputable def Td.kco : List Item := todoAt Try.f4 10
noncomputable def Td.kf5 : List Item := todoAt Try.f4 24
noncomputable def Td.kei : List Item := todoAt Try.f6 3
noncomputable def Td.ke7 : List Item := todoAt Try.f7 8
noncomputable def Td.kd7 : List Item := todoAt Try.f8 8
noncomputable def Td.kc0 : List Item := todoAt Try.f8 11
noncomputable def Td.kfb : List Item := todoAt Try.f13 4
noncomputable def Td.kdx : List Item := todoAt Try.f16 4
noncomputable def Td.kfq : List Item := todoAt Try.f16 9
noncomputable def Td.kfu : List Item := todoAt Try.f17 4
noncomputable def Td.kcr : List Item := todoAt Try.f21 0
noncomputable def Td.kec : List Item := todoAt Try.f22 4
noncomputable def Td.kfo : List Item := todoAt Try.f22 10
noncomputable def Td.kdz : List Item := todoAt Try.f23 5
noncomputable def Td.kff : List Item := todoAt Try.f23 10
noncomputable def Td.kci : List Item := todoAt Try.f24 0
noncomputable def Td.kfh : List Item := todoAt Try.f27 4
noncomputable def Td.kb5 : List Item := todoAt Try.f29 6
noncomputable def Td.kdp : List Item := todoAt Try.f29 15
noncomputable def Td.kby : List Item := todoAt Try.f31 6
noncomputable def Td.kek : List Item := todoAt Try.f31 7
noncomputable def Td.ke8 : List Item := todoAt Try.f31 8
noncomputable def Td.keb : List Item := todoAt Try.f31 9
noncomputable def Td.kbw : List Item := todoAt Try.f31 11
noncomputable def Td.kgi : List Item := todoAt Try.f31 13
noncomputable def Td.kbq : List Item := todoAt Try.f31 16
noncomputable def Td.kd0 : List Item := todoAt Try.f31 21
noncomputable def Td.kfy : List Item := todoAt Try.f31 26
noncomputable def Td.kfx : List Item := todoAt Try.f36 2
noncomputable def Td.kfr : List Item := todoAt Try.f38 4
noncomputable def Td.kgj : List Item := todoAt Try.f46 6
noncomputable def Td.kev : List Item := todoAt Try.f51 3
noncomputable def Td.kbp : List Item := todoAt Try.f52 2
noncomputable def Td.kfl : List Item := todoAt Try.f53 2
noncomputable def Td.kfn : List Item := todoAt Try.f55 2
theorem km8 (args : List AV) (h : AH) : callF Pg go F.kck args h = go (.fn F.kck args) h := by kernel_rfl
theorem kqh (a1 : Sl) (a2 : Sl) (a3 : Sl) (a4 : Sl) (a5 : Sl) (h : AH) : go (.fn F.kbd [.agg [a1.v], .agg [a2.v, a3.v, a4.v], a5.v]) h =
 newK h (.cells [a1.v] T.kbc) fun h6r h6 =>
 newK h6 (.cells [a2.v, a3.v, a4.v] T.k8) fun h7r h7 =>
 (go (.fn F.kgk []) h7).bind fun q8 =>
 ((some q8.1).bind AV.asBool).bind fun b9 =>
 ((q8.2.cell (h6r.add 0)).bind AV.asSl).bind fun l10 =>
 ((q8.2.cell (h7r.add 0)).bind AV.asSl).bind fun l11 =>
 ((q8.2.cell (h7r.add 1)).bind AV.asSl).bind fun l12 =>
 ((q8.2.cell (h7r.add 2)).bind AV.asSl).bind fun l13 =>
 (go (.fn F.kcp [.agg [l10.v], .agg [l11.v, l12.v, l13.v]]) q8.2).bind fun q14 =>
 ((some q14.1).bind AV.asBool).bind fun b15 =>
 cond (!b9) (
 some (.bool b9, q14.2)) (
 cond (!b15) (
 some (.bool b9, q14.2)) (
 ((q14.2.cell (h6r.add 0)).bind AV.asSl).bind fun l16 =>
 ((q14.2.cell (h7r.add 0)).bind AV.asSl).bind fun l17 =>
 ((q14.2.cell (h7r.add 1)).bind AV.asSl).bind fun l18 =>
 ((q14.2.cell (h7r.add 2)).bind AV.asSl).bind fun l19 =>
 (go (.fn F.kcn [.agg [l16.v], .int .i64 4, .agg [l17.v, l18.v, l19.v]]) q14.2).bind fun q20 =>
 (AV.asTup2 q20.1).bind fun p21 =>
 ((some p21.1).bind AV.asPtr).bind fun p22 =>
 ((some p21.2).bind (AV.asInt .i64)).bind fun n23 =>
 ((q20.2.cell (h6r.add 0)).bind AV.asSl).bind fun l24 =>
 ((q20.2.cell (h7r.add 0)).bind AV.asSl).bind fun l25 =>
 ((q20.2.cell (h7r.add 1)).bind AV.asSl).bind fun l26 =>
 ((q20.2.cell (h7r.add 2)).bind AV.asSl).bind fun l27 =>
 (go (.fn F.kbb [.agg [l24.v], .int .i64 4, .agg [l25.v, l26.v, l27.v]]) q20.2).bind fun q28 =>
 (AV.asTup2 q28.1).bind fun p29 =>
 ((some p29.1).bind AV.asPtr).bind fun p30 =>
 ((some p29.2).bind (AV.asInt .i64)).bind fun n31 =>
 cond (!decide (n23 = n31)) (
 some (.bool false, q28.2)) (
 cond (!(p22.isNone == p30.isNone)) (
 some (.bool false, q28.2)) (
 go (.pt F.kbd Td.kco [(2, a5.v), (9, .ptr p22), (11, .ptr p30), (13, .int .i64 0)]) q28.2)))) := (kc _ h).trans (by kernel_rfl)
theorem kpu (a1 : Int) (a2 : Int) (a3 : Int) (h : AH) : go (.fn F.kck [.int .i64 a1, .int .i64 a2, .int .i64 a3]) h =
 cond (decide (a1 ≥ a2)) (
 some (.bool (decide (a1 ≤ a3)), h)) (
 some (.bool false, h)) := (kc _ h).trans (by kernel_rfl)
theorem kmz  (h : AH) : go (.fn F.kgk []) h =
 newK h (.cells [.bool true, .int .i64 3, .int .i64 0, .int .i64 0, .int .i64 0, .int .i64 0, .int .i64 0] T.ko) fun h1r h1 =>
 newK h1 (.cells [(⟨some h1r, 1, .is 1⟩ : Sl).v] T.kbf) fun h2r h2 =>
 newK h2 (.cells [.int .i64 5, .int .i64 6] T.int) fun h3r h3 =>
 (go (.fn F.kcn [.agg [(⟨some h2r, 1, .is 1⟩ : Sl).v], .int .i64 1, .agg [(⟨some h3r, 2, .is 2⟩ : Sl).v, (⟨none, 0, .is 0⟩ : Sl).v, (⟨none, 0, .is 0⟩ : Sl).v]]) h3).bind fun q4 =>
 (AV.asTup2 q4.1).bind fun p5 =>
 ((some p5.1).bind AV.asPtr).bind fun p6 =>
 ((some p5.2).bind (AV.asInt .i64)).bind fun n7 =>
 cond (!decide (n7 = 0)) (
 some (.bool false, q4.2)) (
 cond p6.isNone (
 some (.bool false, q4.2)) (
 (go (.fn F.kf1 [.ptr p6]) q4.2).bind fun q8 =>
 (AV.asTup2 q8.1).bind fun p9 =>
 ((some p9.1).bind AV.asSl).bind fun l10 =>
 ((some p9.2).bind AV.asBool).bind fun b11 =>
 cond b11 (
 cond (decide ((l10.len : Int) = 2)) (
 (idx l10.ref l10.len 0 1).bind fun r12 =>
 ((q8.2.cell r12).bind (AV.asInt .i64)).bind fun n13 =>
 cond (decide (n13 = 3)) (
 (idx l10.ref l10.len 1 1).bind fun r14 =>
 ((q8.2.cell r14).bind (AV.asInt .i64)).bind fun n15 =>
 some (.bool (decide (n15 = 3)), q8.2)) (
 some (.bool false, q8.2))) (
 some (.bool false, q8.2))) (
 some (.bool false, q8.2)))) := (kc _ h).trans (by kernel_rfl)
theorem kp9 (a1 : Sl) (a2 : Sl) (a3 : Sl) (a4 : Sl) (h : AH) : go (.fn F.kcp [.agg [a1.v], .agg [a2.v, a3.v, a4.v]]) h =
 newK h (.cells [a1.v] T.kbc) fun h5r h5 =>
 newK h5 (.cells [a2.v, a3.v, a4.v] T.k8) fun h6r h6 =>
 ((h6.cell (h6r.add 0)).bind AV.asSl).bind fun l7 =>
 go (.pt F.kcp Td.kei [(2, .ptr (some h5r)), (3, .ptr (some h6r)), (5, .int .i64 (l7.len : Int)), (6, .int .i64 0)]) h6 := (kc _ h).trans (by kernel_rfl)
theorem kls (a1 : Sl) (a2 : Int) (a3 : Sl) (a4 : Sl) (a5 : Sl) (h : AH) : go (.fn F.kcn [.agg [a1.v], .int .i64 a2, .agg [a3.v, a4.v, a5.v]]) h =
 newK h (.cells [a1.v] T.kbc) fun h6r h6 =>
 newK h6 (.cells [.int .i64 a2] T.int) fun h7r h7 =>
 newK h7 (.cells [a3.v, a4.v, a5.v] T.k8) fun h8r h8 =>
 ((h8.cell (h6r.add 0)).bind AV.asSl).bind fun l9 =>
 (go (.fn F.kbo [.agg [l9.v]]) h8).bind fun q10 =>
 ((some q10.1).bind AV.asBool).bind fun b11 =>
 cond (!b11) (
 some (.tup [.ptr none, .int .i64 1], q10.2)) (
 ((q10.2.cell h7r).bind (AV.asInt .i64)).bind fun n12 =>
 cond (decide (n12 < 1)) (
 some (.tup [.ptr none, .int .i64 1], q10.2)) (
 ((q10.2.cell h7r).bind (AV.asInt .i64)).bind fun n13 =>
 cond (decide (n13 > 16)) (
 some (.tup [.ptr none, .int .i64 1], q10.2)) (
 ((q10.2.cell (h8r.add 0)).bind AV.asSl).bind fun l14 =>
 ((q10.2.cell (h8r.add 1)).bind AV.asSl).bind fun l15 =>
 ((q10.2.cell (h8r.add 2)).bind AV.asSl).bind fun l16 =>
 (go (.fn F.kc2 [.agg [l14.v, l15.v, l16.v]]) q10.2).bind fun q17 =>
 ((some q17.1).bind AV.asBool).bind fun b18 =>
 cond (!b18) (
 some (.tup [.ptr none, .int .i64 20], q17.2)) (
 ((q17.2.cell (h8r.add 0)).bind AV.asSl).bind fun l19 =>
 ((q17.2.cell (h8r.add 1)).bind AV.asSl).bind fun l20 =>
 ((q17.2.cell (h8r.add 2)).bind AV.asSl).bind fun l21 =>
 ((q17.2.cell (h8r.add 0)).bind AV.asSl).bind fun l22 =>
 (kcj (l22.len : Int) (l22.len : Int) T.int (Pg.bytesOf T.int) [.int .i64 0] q17.2).bind fun q23 =>
 whenK (SameAt q17.2 q23.2 h8r 3) (
 newK q23.2 (.cells [(⟨none, 0, .is 0⟩ : Sl).v, l19.v, l20.v, l21.v, .int .i64 0, .int .i64 0, .int .i64 0, q23.1.v] T.kx) fun h24r h24 =>
 ((h24.cell (h6r.add 0)).bind AV.asSl).bind fun l25 =>
 go (.pt F.kcn Td.ke7 [(8, .func (.func F.ky) [] [.ptr (some h7r), .ptr (some h8r)]), (9, .ptr (some h24r)), (37, l25.v), (38, .int .i64 (l25.len : Int)), (39, .int .i64 0)]) h24))))) := (kc _ h).trans (by kernel_rfl)
theorem koc (a1 : Sl) (a2 : Int) (a3 : Sl) (a4 : Sl) (a5 : Sl) (h : AH) : go (.fn F.kbb [.agg [a1.v], .int .i64 a2, .agg [a3.v, a4.v, a5.v]]) h =
 newK h (.cells [a1.v] T.kbc) fun h6r h6 =>
 newK h6 (.cells [a3.v, a4.v, a5.v] T.k8) fun h7r h7 =>
 ((h7.cell (h6r.add 0)).bind AV.asSl).bind fun l8 =>
 (go (.fn F.kbu [.agg [l8.v]]) h7).bind fun q9 =>
 ((some q9.1).bind AV.asBool).bind fun b10 =>
 cond (!b10) (
 some (.tup [.ptr none, .int .i64 1], q9.2)) (
 cond (decide (a2 < 1)) (
 some (.tup [.ptr none, .int .i64 1], q9.2)) (
 cond (decide (a2 > 16)) (
 some (.tup [.ptr none, .int .i64 1], q9.2)) (
 ((q9.2.cell (h7r.add 0)).bind AV.asSl).bind fun l11 =>
 ((q9.2.cell (h7r.add 1)).bind AV.asSl).bind fun l12 =>
 ((q9.2.cell (h7r.add 2)).bind AV.asSl).bind fun l13 =>
 (go (.fn F.kbs [.agg [l11.v, l12.v, l13.v]]) q9.2).bind fun q14 =>
 ((some q14.1).bind AV.asBool).bind fun b15 =>
 cond (!b15) (
 some (.tup [.ptr none, .int .i64 20], q14.2)) (
 go (.pt F.kbb Td.kd7 [(1, .int .i64 a2), (3, .ptr (some h6r)), (5, .ptr (some h7r)), (10, .int .i64 0)]) q14.2)))) := (kc _ h).trans (by kernel_rfl)
theorem kgf (a1 : Sl) (a2 : Option Ref) (a3 : Option Ref) (a4 : Int) (h : AH) : go (.pt F.kbd Td.kco [(2, a1.v), (9, .ptr a2), (11, .ptr a3), (13, .int .i64 a4)]) h =
 cond (decide (a4 ≤ (a1.len : Int))) (
 cond (decide (a4 < 200)) (
 cond (!a2.isNone) (
 (go (.fn F.kfe [.ptr a2]) h).bind fun q5 =>
 (AV.asTup2 q5.1).bind fun p6 =>
 (AV.asAgg p6.1).bind fun cs7 =>
 cond (Nat.beq cs7.length 8) (
 ((cs7[0]?).bind (AV.asInt .i64)).bind fun n8 =>
 ((cs7[1]?).bind (AV.asInt .i64)).bind fun n9 =>
 ((cs7[2]?).bind (AV.asInt .i64)).bind fun n10 =>
 ((cs7[3]?).bind (AV.asInt .i64)).bind fun n11 =>
 ((cs7[4]?).bind (AV.asInt .i64)).bind fun n12 =>
 ((cs7[5]?).bind AV.asSl).bind fun l13 =>
 ((cs7[6]?).bind AV.asSl).bind fun l14 =>
 ((cs7[7]?).bind AV.asSl).bind fun l15 =>
 ((some p6.2).bind AV.asBool).bind fun b16 =>
 newK q5.2 (.cells [.int .i64 0, .int .i64 0, .int .i64 0, .int .i64 0, .int .i64 0, (⟨none, 0, .is 0⟩ : Sl).v, (⟨none, 0, .is 0⟩ : Sl).v, (⟨none, 0, .is 0⟩ : Sl).v] T.kdj) fun h17r h17 =>
 (h17.puts h17r [.int .i64 n8, .int .i64 n9, .int .i64 n10, .int .i64 n11, .int .i64 n12, l13.v, l14.v, l15.v]).bind fun h18 =>
 (go (.fn F.kex [.ptr a3]) h18).bind fun q19 =>
 (AV.asTup2 q19.1).bind fun p20 =>
 (AV.asAgg p20.1).bind fun cs21 =>
 cond (Nat.beq cs21.length 8) (
 ((cs21[0]?).bind (AV.asInt .i64)).bind fun n22 =>
 ((cs21[1]?).bind (AV.asInt .i64)).bind fun n23 =>
 ((cs21[2]?).bind (AV.asInt .i64)).bind fun n24 =>
 ((cs21[3]?).bind (AV.asInt .i64)).bind fun n25 =>
 ((cs21[4]?).bind (AV.asInt .i64)).bind fun n26 =>
 ((cs21[5]?).bind AV.asSl).bind fun l27 =>
 ((cs21[6]?).bind AV.asSl).bind fun l28 =>
 ((cs21[7]?).bind AV.asSl).bind fun l29 =>
 ((some p20.2).bind AV.asBool).bind fun b30 =>
 newK q19.2 (.cells [.int .i64 0, .int .i64 0, .int .i64 0, .int .i64 0, .int .i64 0, (⟨none, 0, .is 0⟩ : Sl).v, (⟨none, 0, .is 0⟩ : Sl).v, (⟨none, 0, .is 0⟩ : Sl).v] T.kdj) fun h31r h31 =>
 (h31.puts h31r [.int .i64 n22, .int .i64 n23, .int .i64 n24, .int .i64 n25, .int .i64 n26, l27.v, l28.v, l29.v]).bind fun h32 =>
 ((h32.cell ((h17r.add 1).add 0)).bind (AV.asInt .i64)).bind fun n33 =>
 ((h32.cell ((h17r.add 1).add 1)).bind (AV.asInt .i64)).bind fun n34 =>
 ((h32.cell ((h17r.add 1).add 2)).bind (AV.asInt .i64)).bind fun n35 =>
 ((h32.cell ((h17r.add 1).add 3)).bind (AV.asInt .i64)).bind fun n36 =>
 ((h32.cell ((h17r.add 1).add 4)).bind AV.asSl).bind fun l37 =>
 ((h32.cell ((h17r.add 1).add 5)).bind AV.asSl).bind fun l38 =>
 ((h32.cell ((h17r.add 1).add 6)).bind AV.asSl).bind fun l39 =>
 ((h32.cell ((h31r.add 1).add 0)).bind (AV.asInt .i64)).bind fun n40 =>
 ((h32.cell ((h31r.add 1).add 1)).bind (AV.asInt .i64)).bind fun n41 =>
 ((h32.cell ((h31r.add 1).add 2)).bind (AV.asInt .i64)).bind fun n42 =>
 ((h32.cell ((h31r.add 1).add 3)).bind (AV.asInt .i64)).bind fun n43 =>
 ((h32.cell ((h31r.add 1).add 4)).bind AV.asSl).bind fun l44 =>
 ((h32.cell ((h31r.add 1).add 5)).bind AV.asSl).bind fun l45 =>
 ((h32.cell ((h31r.add 1).add 6)).bind AV.asSl).bind fun l46 =>
 (go (.fn F.kf9 [.agg [.int .i64 n33, .int .i64 n34, .int .i64 n35, .int .i64 n36, l37.v, l38.v, l39.v], .agg [.int .i64 n40, .int .i64 n41, .int .i64 n42, .int .i64 n43, l44.v, l45.v, l46.v]]) h32).bind fun q47 =>
 ((some q47.1).bind AV.asBool).bind fun b48 =>
 (go (.fn F.kf1 [.ptr a2]) q47.2).bind fun q49 =>
 (AV.asTup2 q49.1).bind fun p50 =>
 ((some p50.1).bind AV.asSl).bind fun l51 =>
 ((some p50.2).bind AV.asBool).bind fun b52 =>
 a3.bind fun r53 =>
 ((q49.2.cell (r53.add 7)).bind AV.asSl).bind fun l54 =>
 (go (.fn F.kb1 [l51.v, l54.v]) q49.2).bind fun q55 =>
 ((some q55.1).bind AV.asBool).bind fun b56 =>
 cond (!(b16 == b30)) (
 some (.bool false, q55.2)) (
 ((q55.2.cell (h17r.add 0)).bind (AV.asInt .i64)).bind fun n57 =>
 ((q55.2.cell (h31r.add 0)).bind (AV.asInt .i64)).bind fun n58 =>
 cond (!decide (n57 = n58)) (
 some (.bool false, q55.2)) (
 cond (!b48) (
 some (.bool false, q55.2)) (
 cond (!(b52 == (!b30))) (
 some (.bool false, q55.2)) (
 cond (!b56) (
 some (.bool false, q55.2)) (
 cond (decide (a4 = (a1.len : Int))) (
 some (.bool true, q55.2)) (
 (idx a1.ref a1.len a4 10).bind fun r59 =>
 ((q55.2.cell (r59.add 0)).bind (AV.asInt .i64)).bind fun n60 =>
 ((q55.2.cell (r59.add 1)).bind (AV.asInt .i64)).bind fun n61 =>
 ((q55.2.cell (r59.add 2)).bind (AV.asInt .i64)).bind fun n62 =>
 ((q55.2.cell (r59.add 3)).bind (AV.asInt .i64)).bind fun n63 =>
 ((q55.2.cell (r59.add 4)).bind (AV.asInt .i64)).bind fun n64 =>
 ((q55.2.cell (r59.add 5)).bind AV.asSl).bind fun l65 =>
 ((q55.2.cell (r59.add 6)).bind AV.asSl).bind fun l66 =>
 ((q55.2.cell (r59.add 7)).bind AV.asSl).bind fun l67 =>
 ((q55.2.cell (r59.add 8)).bind AV.asBool).bind fun b68 =>
 ((q55.2.cell (r59.add 9)).bind (AV.asInt .i64)).bind fun n69 =>
 newK q55.2 (.cells [.int .i64 0, .int .i64 0, .int .i64 0, .int .i64 0, .int .i64 0, (⟨none, 0, .is 0⟩ : Sl).v, (⟨none, 0, .is 0⟩ : Sl).v, (⟨none, 0, .is 0⟩ : Sl).v, .bool false, .int .i64 0] T.kd9) fun h70r h70 =>
 (h70.puts h70r [.int .i64 n60, .int .i64 n61, .int .i64 n62, .int .i64 n63, .int .i64 n64, l65.v, l66.v, l67.v, .bool b68, .int .i64 n69]).bind fun h71 =>
 ((h71.cell (h70r.add 8)).bind AV.asBool).bind fun b72 =>
 cond b72 (
 ((h71.cell (h31r.add 0)).bind (AV.asInt .i64)).bind fun n73 =>
 ((h71.cell (h70r.add 9)).bind (AV.asInt .i64)).bind fun n74 =>
 (h71.puts (h70r.add 0) [.int .i64 (IntKind.wrap .i64 (n73 + (iand .i64 (ishr .i64 n74 2) 1)))]).bind fun h75 =>
 ((h75.cell ((h31r.add 1).add 1)).bind (AV.asInt .i64)).bind fun n76 =>
 ((h75.cell ((h31r.add 1).add 2)).bind (AV.asInt .i64)).bind fun n77 =>
 ((h75.cell (h70r.add 9)).bind (AV.asInt .i64)).bind fun n78 =>
 ((h75.cell (h70r.add 9)).bind (AV.asInt .i64)).bind fun n79 =>
 (h75.puts (h70r.add 1) [.int .i64 9, .int .i64 n76, .int .i64 (IntKind.wrap .i64 (n77 + (iand .i64 (ishr .i64 n78 1) 1))), .int .i64 (iand .i64 n79 1), (⟨none, 0, .is 0⟩ : Sl).v, (⟨none, 0, .is 0⟩ : Sl).v, (⟨none, 0, .is 0⟩ : Sl).v]).bind fun h80 =>
 go (.pt F.kbd Td.kf5 [(2, a1.v), (9, .ptr a2), (11, .ptr a3), (13, .int .i64 a4), (22, .ptr (some h70r))]) h80) (
 go (.pt F.kbd Td.kf5 [(2, a1.v), (9, .ptr a2), (11, .ptr a3), (13, .int .i64 a4), (22, .ptr (some h70r))]) h71)))))))) none) none) (
 some (.bool true, h))) (
 some (.bool true, h))) (
 some (.bool true, h)) := (kc _ h).trans (by kernel_rfl)
theorem krp (a1 : Option Ref) (h : AH) : go (.fn F.kf1 [.ptr a1]) h =
 a1.bind fun r2 =>
 ((h.cell (r2.add 7)).bind AV.asSl).bind fun l3 =>
 a1.bind fun r4 =>
 ((h.cell ((r4.add 4).add 0)).bind (AV.asInt .i64)).bind fun n5 =>
 ((h.cell ((r4.add 4).add 1)).bind (AV.asInt .i64)).bind fun n6 =>
 ((h.cell ((r4.add 4).add 2)).bind (AV.asInt .i64)).bind fun n7 =>
 (go (.fn F.kho [l3.v]) h).bind fun q8 =>
 ((some q8.1).bind AV.asSl).bind fun l9 =>
 whenK (SameAt h q8.2 (r4.add 4) 3) (
 (go (.fn F.kdo [.ptr a1]) q8.2).bind fun q10 =>
 (AV.asAgg q10.1).bind fun cs11 =>
 cond (Nat.beq cs11.length 3) (
 ((cs11[0]?).bind (AV.asInt .i64)).bind fun n12 =>
 ((cs11[1]?).bind (AV.asInt .i64)).bind fun n13 =>
 ((cs11[2]?).bind (AV.asInt .i64)).bind fun n14 =>
 whenK (SameAt q8.2 q10.2 (r4.add 4) 3) (
 some (.tup [l9.v, .bool ((decide (n5 = n12)) && ((decide (n6 = n13)) && ((decide (n7 = n14)) && true)))], q10.2))) none) := (kc _ h).trans (by kernel_rfl)
theorem kii (a1 : Ref) (a2 : Ref) (a3 : Int) (a4 : Int) (h : AH) : go (.pt F.kcp Td.kei [(2, .ptr (some a1)), (3, .ptr (some a2)), (5, .int .i64 a3), (6, .int .i64 a4)]) h =
 ((h.cell (a1.add 0)).bind AV.asSl).bind fun l5 =>
 cond (decide (a4 < (l5.len : Int))) (
 cond (decide (a4 < 20)) (
 ((h.cell (a1.add 0)).bind AV.asSl).bind fun l6 =>
 (idx l6.ref l6.len a4 1).bind fun r7 =>
 ((h.cell (r7.add 0)).bind AV.asSl).bind fun l8 =>
 go (.pt F.kcp Td.kei [(2, .ptr (some a1)), (3, .ptr (some a2)), (5, .int .i64 (IntKind.wrap .i64 (a3 + (l8.len : Int)))), (6, .int .i64 (IntKind.wrap .i64 (a4 + 1)))]) h) (
 cond (decide (a3 < 1500)) (
 ((h.cell (a1.add 0)).bind AV.asSl).bind fun l9 =>
 cond (decide ((l9.len : Int) < 20)) (
 ((h.cell (a2.add 0)).bind AV.asSl).bind fun l10 =>
 ((h.cell (a2.add 0)).bind AV.asSl).bind fun l11 =>
 some (.bool (decide ((IntKind.wrap .i64 ((IntKind.wrap .i64 (a3 - (l10.len : Int))) * (l11.len : Int))) ≤ 60000)), h)) (
 some (.bool false, h))) (
 some (.bool false, h)))) (
 cond (decide (a3 < 1500)) (
 ((h.cell (a1.add 0)).bind AV.asSl).bind fun l12 =>
 cond (decide ((l12.len : Int) < 20)) (
 ((h.cell (a2.add 0)).bind AV.asSl).bind fun l13 =>
 ((h.cell (a2.add 0)).bind AV.asSl).bind fun l14 =>
 some (.bool (decide ((IntKind.wrap .i64 ((IntKind.wrap .i64 (a3 - (l13.len : Int))) * (l14.len : Int))) ≤ 60000)), h)) (
 some (.bool false, h))) (
 some (.bool false, h))) := (kc _ h).trans (by kernel_rfl)
theorem kp2 (a1 : Sl) (h : AH) : go (.fn F.kbo [.agg [a1.v]]) h =
 newK h (.cells [a1.v] T.kbc) fun h2r h2 =>
 ((h2.cell (h2r.add 0)).bind AV.asSl).bind fun l3 =>
 cond (decide ((l3.len : Int) > 16)) (
 some (.bool false, h2)) (
 ((h2.cell (h2r.add 0)).bind AV.asSl).bind fun l4 =>
 go (.pt F.kbo Td.kdx [(12, l4.v), (13, .int .i64 (l4.len : Int)), (14, .int .i64 0)]) h2) := (kc _ h).trans (by kernel_rfl)
theorem kow (a1 : Sl) (a2 : Sl) (a3 : Sl) (h : AH) : go (.fn F.kc2 [.agg [a1.v, a2.v, a3.v]]) h =
 newK h (.cells [a1.v, a2.v, a3.v] T.k8) fun h4r h4 =>
 ((h4.cell (h4r.add 0)).bind AV.asSl).bind fun l5 =>
 (go (.fn F.kgx [l5.v]) h4).bind fun q6 =>
 ((some q6.1).bind AV.asBool).bind fun b7 =>
 cond (!b7) (
 some (.bool false, q6.2)) (
 ((q6.2.cell (h4r.add 2)).bind AV.asSl).bind fun l8 =>
 cond (decide ((l8.len : Int) > 16)) (
 some (.bool false, q6.2)) (
 ((q6.2.cell (h4r.add 1)).bind AV.asSl).bind fun l9 =>
 ((q6.2.cell (h4r.add 2)).bind AV.asSl).bind fun l10 =>
 cond (!decide ((l9.len : Int) = (l10.len : Int))) (
 some (.bool false, q6.2)) (
 ((q6.2.cell (h4r.add 2)).bind AV.asSl).bind fun l11 =>
 go (.pt F.kc2 Td.kfu [(1, .ptr (some h4r)), (27, l11.v), (28, .int .i64 (l11.len : Int)), (29, .int .i64 0)]) q6.2))) := (kc _ h).trans (by kernel_rfl)
theorem kh1 (a1 : Ref) (a2 : Ref) (a3 : Ref) (a4 : Sl) (a5 : Int) (a6 : Int) (h : AH) : go (.pt F.kcn Td.ke7 [(8, .func (.func F.ky) [] [.ptr (some a1), .ptr (some a2)]), (9, .ptr (some a3)), (37, a4.v), (38, .int .i64 a5), (39, .int .i64 a6)]) h =
 cond (decide (a6 < a5)) (
 (idx a4.ref a4.len a6 1).bind fun r7 =>
 ((h.cell (r7.add 0)).bind AV.asSl).bind fun l8 =>
 newK h (.cells [(⟨none, 0, .is 0⟩ : Sl).v] T.kbf) fun h9r h9 =>
 (h9.puts h9r [l8.v]).bind fun h10 =>
 ((h10.cell (h9r.add 0)).bind AV.asSl).bind fun l11 =>
 (go (.fn F.kf6 [l11.v, .func (.func F.ky) [] [.ptr (some a1), .ptr (some a2)]]) h10).bind fun q12 =>
 ((some q12.1).bind AV.asBool).bind fun b13 =>
 cond b13 (
 some (.tup [.ptr none, .int .i64 1], q12.2)) (
 ((q12.2.cell (a3.add 0)).bind AV.asSl).bind fun l14 =>
 ((q12.2.cell (h9r.add 0)).bind AV.asSl).bind fun l15 =>
 (go (.fn F.khj [l15.v]) q12.2).bind fun q16 =>
 ((some q16.1).bind AV.asSl).bind fun l17 =>
 whenK (SameAt q12.2 q16.2 (a3.add 0) 1) (
 newK q16.2 (.cells [l17.v] T.kbf) fun h18r h18 =>
 whenK (SameAt q16.2 h18 (a3.add 0) 1) (
 (kb3 Pg T.kbf ((⟨some h18r, 1, .is 1⟩ : Sl).v) h18).bind fun p20 =>
 (k9 Pg l14 p20.1 p20.2 T.kbf 1 h18).bind fun q19 =>
 (AV.asSl q19.1).bind fun l21 =>
 (q19.2.puts (a3.add 0) [l21.v]).bind fun h22 =>
 go (.pt F.kcn Td.ke7 [(8, .func (.func F.ky) [] [.ptr (some a1), .ptr (some a2)]), (9, .ptr (some a3)), (37, a4.v), (38, .int .i64 a5), (39, .int .i64 (IntKind.wrap .i64 (a6 + 1)))]) h22)))) (
 (go (.fn F.kb4 [.ptr (some a3)]) h).bind fun q23 =>
 (AV.asTup0 q23.1).bind fun _ =>
 some (.tup [.ptr (some a3), .int .i64 0], q23.2)) := (kc _ h).trans (by kernel_rfl)
theorem klp (a1 : Sl) (h : AH) : go (.fn F.kbu [.agg [a1.v]]) h =
 newK h (.cells [a1.v] T.kbc) fun h2r h2 =>
 ((h2.cell (h2r.add 0)).bind AV.asSl).bind fun l3 =>
 cond (decide ((l3.len : Int) > 16)) (
 some (.bool false, h2)) (
 go (.pt F.kbu Td.kec [(1, .ptr (some h2r)), (3, .int .i64 0)]) h2) := (kc _ h).trans (by kernel_rfl)
theorem knq (a1 : Sl) (a2 : Sl) (a3 : Sl) (h : AH) : go (.fn F.kbs [.agg [a1.v, a2.v, a3.v]]) h =
 newK h (.cells [a1.v, a2.v, a3.v] T.k8) fun h4r h4 =>
 ((h4.cell (h4r.add 0)).bind AV.asSl).bind fun l5 =>
 (go (.fn F.kcw [l5.v]) h4).bind fun q6 =>
 ((some q6.1).bind AV.asBool).bind fun b7 =>
 cond (!b7) (
 some (.bool false, q6.2)) (
 ((q6.2.cell (h4r.add 2)).bind AV.asSl).bind fun l8 =>
 cond (decide ((l8.len : Int) > 16)) (
 some (.bool false, q6.2)) (
 ((q6.2.cell (h4r.add 1)).bind AV.asSl).bind fun l9 =>
 ((q6.2.cell (h4r.add 2)).bind AV.asSl).bind fun l10 =>
 cond (!decide ((l9.len : Int) = (l10.len : Int))) (
 some (.bool false, q6.2)) (
 go (.pt F.kbs Td.kdz [(1, .ptr (some h4r)), (4, .int .i64 0)]) q6.2))) := (kc _ h).trans (by kernel_rfl)
theorem kkj (a1 : Int) (a2 : Ref) (a3 : Ref) (a4 : Int) (h : AH) : go (.pt F.kbb Td.kd7 [(1, .int .i64 a1), (3, .ptr (some a2)), (5, .ptr (some a3)), (10, .int .i64 a4)]) h =
 ((h.cell (a2.add 0)).bind AV.asSl).bind fun l5 =>
 cond (decide (a4 < (l5.len : Int))) (
 go (.pt F.kbb Td.kc0 [(1, .int .i64 a1), (3, .ptr (some a2)), (5, .ptr (some a3)), (10, .int .i64 a4), (11, .int .i64 0)]) h) (
 ((h.cell (a2.add 0)).bind AV.asSl).bind fun l6 =>
 ((h.cell (a3.add 0)).bind AV.asSl).bind fun l7 =>
 ((h.cell (a3.add 1)).bind AV.asSl).bind fun l8 =>
 ((h.cell (a3.add 2)).bind AV.asSl).bind fun l9 =>
 ((h.cell (a3.add 0)).bind AV.asSl).bind fun l10 =>
 (kcj (l10.len : Int) (l10.len : Int) T.int (Pg.bytesOf T.int) [.int .i64 0] h).bind fun q11 =>
 whenK (SameAt h q11.2 a3 3) (
 whenK (SameAt h q11.2 a2 1) (
 newK q11.2 (.cells [l6.v, l7.v, l8.v, l9.v, .int .i64 0, .int .i64 0, .int .i64 0, q11.1.v] T.kbe) fun h12r h12 =>
 (go (.fn F.kbg [.ptr (some h12r)]) h12).bind fun q13 =>
 (AV.asTup0 q13.1).bind fun _ =>
 some (.tup [.ptr (some h12r), .int .i64 0], q13.2)))) := (kc _ h).trans (by kernel_rfl)
theorem krl (a1 : Option Ref) (h : AH) : go (.fn F.kfe [.ptr a1]) h =
 newK h (.cells [.int .i64 0, .int .i64 0, .int .i64 0, .int .i64 0, .int .i64 0, (⟨none, 0, .is 0⟩ : Sl).v, (⟨none, 0, .is 0⟩ : Sl).v, (⟨none, 0, .is 0⟩ : Sl).v] T.kdj) fun h2r h2 =>
 a1.bind fun r3 =>
 ((h2.cell ((r3.add 4).add 0)).bind (AV.asInt .i64)).bind fun n4 =>
 ((h2.cell ((r3.add 4).add 1)).bind (AV.asInt .i64)).bind fun n5 =>
 ((h2.cell ((r3.add 4).add 2)).bind (AV.asInt .i64)).bind fun n6 =>
 (go (.fn F.kdo [.ptr a1]) h2).bind fun q7 =>
 (AV.asAgg q7.1).bind fun cs8 =>
 cond (Nat.beq cs8.length 3) (
 ((cs8[0]?).bind (AV.asInt .i64)).bind fun n9 =>
 ((cs8[1]?).bind (AV.asInt .i64)).bind fun n10 =>
 ((cs8[2]?).bind (AV.asInt .i64)).bind fun n11 =>
 whenK (SameAt h2 q7.2 (r3.add 4) 3) (
 cond ((decide (n4 = n9)) && ((decide (n5 = n10)) && ((decide (n6 = n11)) && true))) (
 (q7.2.puts h2r [.int .i64 0, .int .i64 0, .int .i64 0, .int .i64 0, .int .i64 0, (⟨none, 0, .is 0⟩ : Sl).v, (⟨none, 0, .is 0⟩ : Sl).v, (⟨none, 0, .is 0⟩ : Sl).v]).bind fun h12 =>
 ((h12.cell (h2r.add 0)).bind (AV.asInt .i64)).bind fun n13 =>
 ((h12.cell (h2r.add 1)).bind (AV.asInt .i64)).bind fun n14 =>
 ((h12.cell (h2r.add 2)).bind (AV.asInt .i64)).bind fun n15 =>
 ((h12.cell (h2r.add 3)).bind (AV.asInt .i64)).bind fun n16 =>
 ((h12.cell (h2r.add 4)).bind (AV.asInt .i64)).bind fun n17 =>
 ((h12.cell (h2r.add 5)).bind AV.asSl).bind fun l18 =>
 ((h12.cell (h2r.add 6)).bind AV.asSl).bind fun l19 =>
 ((h12.cell (h2r.add 7)).bind AV.asSl).bind fun l20 =>
 some (.tup [.agg [.int .i64 n13, .int .i64 n14, .int .i64 n15, .int .i64 n16, .int .i64 n17, l18.v, l19.v, l20.v], .bool false], h12)) (
 (go (.fn F.kd6 [.ptr a1]) q7.2).bind fun q21 =>
 (AV.asAgg q21.1).bind fun cs22 =>
 cond (Nat.beq cs22.length 7) (
 ((cs22[0]?).bind AV.asBool).bind fun b23 =>
 ((cs22[1]?).bind (AV.asInt .i64)).bind fun n24 =>
 ((cs22[2]?).bind (AV.asInt .i64)).bind fun n25 =>
 ((cs22[3]?).bind (AV.asInt .i64)).bind fun n26 =>
 ((cs22[4]?).bind (AV.asInt .i64)).bind fun n27 =>
 ((cs22[5]?).bind (AV.asInt .i64)).bind fun n28 =>
 ((cs22[6]?).bind (AV.asInt .i64)).bind fun n29 =>
 newK q21.2 (.cells [.bool false, .int .i64 0, .int .i64 0, .int .i64 0, .int .i64 0, .int .i64 0, .int .i64 0] T.ko) fun h30r h30 =>
 (h30.puts h30r [.bool b23, .int .i64 n24, .int .i64 n25, .int .i64 n26, .int .i64 n27, .int .i64 n28, .int .i64 n29]).bind fun h31 =>
 ((h31.cell (h30r.add 2)).bind (AV.asInt .i64)).bind fun n32 =>
 ((h31.cell (h30r.add 3)).bind (AV.asInt .i64)).bind fun n33 =>
 a1.bind fun r34 =>
 (idx (some (r34.add 4)) 3 0 1).bind fun r35 =>
 ((h31.cell r35).bind (AV.asInt .i64)).bind fun n36 =>
 (h31.puts h2r [.int .i64 n32, .int .i64 8, .int .i64 n33, .int .i64 n36, .int .i64 0, (⟨none, 0, .is 0⟩ : Sl).v, (⟨none, 0, .is 0⟩ : Sl).v, (⟨none, 0, .is 0⟩ : Sl).v]).bind fun h37 =>
 ((h37.cell (h2r.add 0)).bind (AV.asInt .i64)).bind fun n38 =>
 ((h37.cell (h2r.add 1)).bind (AV.asInt .i64)).bind fun n39 =>
 ((h37.cell (h2r.add 2)).bind (AV.asInt .i64)).bind fun n40 =>
 ((h37.cell (h2r.add 3)).bind (AV.asInt .i64)).bind fun n41 =>
 ((h37.cell (h2r.add 4)).bind (AV.asInt .i64)).bind fun n42 =>
 ((h37.cell (h2r.add 5)).bind AV.asSl).bind fun l43 =>
 ((h37.cell (h2r.add 6)).bind AV.asSl).bind fun l44 =>
 ((h37.cell (h2r.add 7)).bind AV.asSl).bind fun l45 =>
 some (.tup [.agg [.int .i64 n38, .int .i64 n39, .int .i64 n40, .int .i64 n41, .int .i64 n42, l43.v, l44.v, l45.v], .bool true], h37)) none))) none := (kc _ h).trans (by kernel_rfl)
theorem km0 (a1 : Option Ref) (h : AH) : go (.fn F.kex [.ptr a1]) h =
 newK h (.cells [.int .i64 0, .int .i64 0, .int .i64 0, .int .i64 0, .int .i64 0, (⟨none, 0, .is 0⟩ : Sl).v, (⟨none, 0, .is 0⟩ : Sl).v, (⟨none, 0, .is 0⟩ : Sl).v] T.kdj) fun h2r h2 =>
 a1.bind fun r3 =>
 ((h2.cell (r3.add 4)).bind (AV.asInt .i64)).bind fun n4 =>
 a1.bind fun r5 =>
 ((h2.cell ((r5.add 1).add 0)).bind AV.asSl).bind fun l6 =>
 cond (decide (n4 ≥ (l6.len : Int))) (
 (h2.puts h2r [.int .i64 0, .int .i64 0, .int .i64 0, .int .i64 0, .int .i64 0, (⟨none, 0, .is 0⟩ : Sl).v, (⟨none, 0, .is 0⟩ : Sl).v, (⟨none, 0, .is 0⟩ : Sl).v]).bind fun h7 =>
 ((h7.cell (h2r.add 0)).bind (AV.asInt .i64)).bind fun n8 =>
 ((h7.cell (h2r.add 1)).bind (AV.asInt .i64)).bind fun n9 =>
 ((h7.cell (h2r.add 2)).bind (AV.asInt .i64)).bind fun n10 =>
 ((h7.cell (h2r.add 3)).bind (AV.asInt .i64)).bind fun n11 =>
 ((h7.cell (h2r.add 4)).bind (AV.asInt .i64)).bind fun n12 =>
 ((h7.cell (h2r.add 5)).bind AV.asSl).bind fun l13 =>
 ((h7.cell (h2r.add 6)).bind AV.asSl).bind fun l14 =>
 ((h7.cell (h2r.add 7)).bind AV.asSl).bind fun l15 =>
 some (.tup [.agg [.int .i64 n8, .int .i64 n9, .int .i64 n10, .int .i64 n11, .int .i64 n12, l13.v, l14.v, l15.v], .bool false], h7)) (
 a1.bind fun r16 =>
 ((h2.cell ((r16.add 0).add 0)).bind AV.asSl).bind fun l17 =>
 a1.bind fun r18 =>
 ((h2.cell (r18.add 5)).bind (AV.asInt .i64)).bind fun n19 =>
 (idx l17.ref l17.len n19 1).bind fun r20 =>
 ((h2.cell (r20.add 0)).bind AV.asSl).bind fun l21 =>
 a1.bind fun r22 =>
 ((h2.cell (r22.add 6)).bind (AV.asInt .i64)).bind fun n23 =>
 (idx l21.ref l21.len n23 7).bind fun r24 =>
 ((h2.cell (r24.add 0)).bind AV.asBool).bind fun b25 =>
 ((h2.cell (r24.add 1)).bind (AV.asInt .i64)).bind fun n26 =>
 ((h2.cell (r24.add 2)).bind (AV.asInt .i64)).bind fun n27 =>
 ((h2.cell (r24.add 3)).bind (AV.asInt .i64)).bind fun n28 =>
 ((h2.cell (r24.add 4)).bind (AV.asInt .i64)).bind fun n29 =>
 ((h2.cell (r24.add 5)).bind (AV.asInt .i64)).bind fun n30 =>
 ((h2.cell (r24.add 6)).bind (AV.asInt .i64)).bind fun n31 =>
 newK h2 (.cells [.bool false, .int .i64 0, .int .i64 0, .int .i64 0, .int .i64 0, .int .i64 0, .int .i64 0] T.ko) fun h32r h32 =>
 whenK (SameAt h2 h32 r24 7) (
 whenK (SameAt h2 h32 (r22.add 6) 1) (
 whenK (SameAt h2 h32 (r20.add 0) 1) (
 whenK (SameAt h2 h32 (r18.add 5) 1) (
 whenK (SameAt h2 h32 ((r16.add 0).add 0) 1) (
 (h32.puts h32r [.bool b25, .int .i64 n26, .int .i64 n27, .int .i64 n28, .int .i64 n29, .int .i64 n30, .int .i64 n31]).bind fun h33 =>
 ((h33.cell (h32r.add 2)).bind (AV.asInt .i64)).bind fun n34 =>
 ((h33.cell (h32r.add 3)).bind (AV.asInt .i64)).bind fun n35 =>
 a1.bind fun r36 =>
 ((h33.cell (r36.add 4)).bind (AV.asInt .i64)).bind fun n37 =>
 (h33.puts h2r [.int .i64 n34, .int .i64 8, .int .i64 n35, .int .i64 n37, .int .i64 0, (⟨none, 0, .is 0⟩ : Sl).v, (⟨none, 0, .is 0⟩ : Sl).v, (⟨none, 0, .is 0⟩ : Sl).v]).bind fun h38 =>
 ((h38.cell (h2r.add 0)).bind (AV.asInt .i64)).bind fun n39 =>
 ((h38.cell (h2r.add 1)).bind (AV.asInt .i64)).bind fun n40 =>
 ((h38.cell (h2r.add 2)).bind (AV.asInt .i64)).bind fun n41 =>
 ((h38.cell (h2r.add 3)).bind (AV.asInt .i64)).bind fun n42 =>
 ((h38.cell (h2r.add 4)).bind (AV.asInt .i64)).bind fun n43 =>
 ((h38.cell (h2r.add 5)).bind AV.asSl).bind fun l44 =>
 ((h38.cell (h2r.add 6)).bind AV.asSl).bind fun l45 =>
 ((h38.cell (h2r.add 7)).bind AV.asSl).bind fun l46 =>
 some (.tup [.agg [.int .i64 n39, .int .i64 n40, .int .i64 n41, .int .i64 n42, .int .i64 n43, l44.v, l45.v, l46.v], .bool true], h38))))))) := (kc _ h).trans (by kernel_rfl)
theorem km2 (a1 : Int) (a2 : Int) (a3 : Int) (a4 : Int) (a5 : Sl) (a6 : Sl) (a7 : Sl) (a8 : Int) (a9 : Int) (a10 : Int) (a11 : Int) (a12 : Sl) (a13 : Sl) (a14 : Sl) (h : AH) : go (.fn F.kf9 [.agg [.int .i64 a1, .int .i64 a2, .int .i64 a3, .int .i64 a4, a5.v, a6.v, a7.v], .agg [.int .i64 a8, .int .i64 a9, .int .i64 a10, .int .i64 a11, a12.v, a13.v, a14.v]]) h =
 newK h (.cells [.int .i64 a1, .int .i64 a2, .int .i64 a3, .int .i64 a4, a5.v, a6.v, a7.v] T.kw) fun h15r h15 =>
 newK h15 (.cells [.int .i64 a8, .int .i64 a9, .int .i64 a10, .int .i64 a11, a12.v, a13.v, a14.v] T.kw) fun h16r h16 =>
 ((h16.cell (h15r.add 4)).bind AV.asSl).bind fun l17 =>
 ((h16.cell (h16r.add 4)).bind AV.asSl).bind fun l18 =>
 (go (.fn F.kb1 [l17.v, l18.v]) h16).bind fun q19 =>
 ((some q19.1).bind AV.asBool).bind fun b20 =>
 ((q19.2.cell (h15r.add 5)).bind AV.asSl).bind fun l21 =>
 ((q19.2.cell (h16r.add 5)).bind AV.asSl).bind fun l22 =>
 (go (.fn F.kb1 [l21.v, l22.v]) q19.2).bind fun q23 =>
 ((some q23.1).bind AV.asBool).bind fun b24 =>
 ((q23.2.cell (h15r.add 6)).bind AV.asSl).bind fun l25 =>
 ((q23.2.cell (h16r.add 6)).bind AV.asSl).bind fun l26 =>
 (go (.fn F.kcy [l25.v, l26.v]) q23.2).bind fun q27 =>
 ((some q27.1).bind AV.asBool).bind fun b28 =>
 ((q27.2.cell (h15r.add 0)).bind (AV.asInt .i64)).bind fun n29 =>
 ((q27.2.cell (h16r.add 0)).bind (AV.asInt .i64)).bind fun n30 =>
 cond (decide (n29 = n30)) (
 ((q27.2.cell (h15r.add 1)).bind (AV.asInt .i64)).bind fun n31 =>
 ((q27.2.cell (h16r.add 1)).bind (AV.asInt .i64)).bind fun n32 =>
 cond (decide (n31 = n32)) (
 ((q27.2.cell (h15r.add 2)).bind (AV.asInt .i64)).bind fun n33 =>
 ((q27.2.cell (h16r.add 2)).bind (AV.asInt .i64)).bind fun n34 =>
 cond (decide (n33 = n34)) (
 ((q27.2.cell (h15r.add 3)).bind (AV.asInt .i64)).bind fun n35 =>
 ((q27.2.cell (h16r.add 3)).bind (AV.asInt .i64)).bind fun n36 =>
 cond (decide (n35 = n36)) (
 cond b20 (
 cond b24 (
 some (.bool b28, q27.2)) (
 some (.bool false, q27.2))) (
 some (.bool false, q27.2))) (
 some (.bool false, q27.2))) (
 some (.bool false, q27.2))) (
 some (.bool false, q27.2))) (
 some (.bool false, q27.2)) := (kc _ h).trans (by kernel_rfl)
theorem klz (a1 : Sl) (a2 : Sl) (h : AH) : go (.fn F.kb1 [a1.v, a2.v]) h =
 cond (!decide ((a1.len : Int) = (a2.len : Int))) (
 some (.bool false, h)) (
 go (.pt F.kb1 Td.kfb [(0, a1.v), (1, a2.v), (5, .int .i64 0)]) h) := (kc _ h).trans (by kernel_rfl)
theorem kpd (a1 : Sl) (a2 : Option Ref) (a3 : Option Ref) (a4 : Int) (a5 : Ref) (h : AH) : go (.pt F.kbd Td.kf5 [(2, a1.v), (9, .ptr a2), (11, .ptr a3), (13, .int .i64 a4), (22, .ptr (some a5))]) h =
 ((h.cell (a5.add 0)).bind (AV.asInt .i64)).bind fun n6 =>
 ((h.cell ((a5.add 1).add 0)).bind (AV.asInt .i64)).bind fun n7 =>
 ((h.cell ((a5.add 1).add 1)).bind (AV.asInt .i64)).bind fun n8 =>
 ((h.cell ((a5.add 1).add 2)).bind (AV.asInt .i64)).bind fun n9 =>
 ((h.cell ((a5.add 1).add 3)).bind (AV.asInt .i64)).bind fun n10 =>
 ((h.cell ((a5.add 1).add 4)).bind AV.asSl).bind fun l11 =>
 ((h.cell ((a5.add 1).add 5)).bind AV.asSl).bind fun l12 =>
 ((h.cell ((a5.add 1).add 6)).bind AV.asSl).bind fun l13 =>
 (go (.fn F.kg5 [.ptr a2, .int .i64 n6, .agg [.int .i64 n7, .int .i64 n8, .int .i64 n9, .int .i64 n10, l11.v, l12.v, l13.v]]) h).bind fun q14 =>
 ((some q14.1).bind (AV.asInt .i64)).bind fun n15 =>
 ((q14.2.cell (a5.add 0)).bind (AV.asInt .i64)).bind fun n16 =>
 ((q14.2.cell ((a5.add 1).add 0)).bind (AV.asInt .i64)).bind fun n17 =>
 ((q14.2.cell ((a5.add 1).add 1)).bind (AV.asInt .i64)).bind fun n18 =>
 ((q14.2.cell ((a5.add 1).add 2)).bind (AV.asInt .i64)).bind fun n19 =>
 ((q14.2.cell ((a5.add 1).add 3)).bind (AV.asInt .i64)).bind fun n20 =>
 ((q14.2.cell ((a5.add 1).add 4)).bind AV.asSl).bind fun l21 =>
 ((q14.2.cell ((a5.add 1).add 5)).bind AV.asSl).bind fun l22 =>
 ((q14.2.cell ((a5.add 1).add 6)).bind AV.asSl).bind fun l23 =>
 (go (.fn F.kgs [.ptr a3, .int .i64 n16, .agg [.int .i64 n17, .int .i64 n18, .int .i64 n19, .int .i64 n20, l21.v, l22.v, l23.v]]) q14.2).bind fun q24 =>
 ((some q24.1).bind (AV.asInt .i64)).bind fun n25 =>
 cond (!decide (n15 = n25)) (
 some (.bool false, q24.2)) (
 go (.pt F.kbd Td.kco [(2, a1.v), (9, .ptr a2), (11, .ptr a3), (13, .int .i64 (IntKind.wrap .i64 (a4 + 1)))]) q24.2) := (kc _ h).trans (by kernel_rfl)
theorem kmb (a1 : Sl) (h : AH) : go (.fn F.kho [a1.v]) h =
 cond a1.ref.isNone (
 some ((⟨none, 0, .is 0⟩ : Sl).v, h)) (
 newK h (.cells [] T.int) fun h2r h2 =>
 (kb3 Pg T.int a1.v h2).bind fun p4 =>
 (k9 Pg (⟨some h2r, 0, .is 0⟩ : Sl) p4.1 p4.2 T.int 1 h2).bind fun q3 =>
 (AV.asSl q3.1).bind fun l5 =>
 some (l5.v, q3.2)) := (kc _ h).trans (by kernel_rfl)
theorem knx (a1 : Option Ref) (h : AH) : go (.fn F.kdo [.ptr a1]) h =
 newK h (.cells [.int .i64 0, .int .i64 0, .int .i64 0] T.koh) fun h2r h2 =>
 a1.bind fun r3 =>
 ((h2.cell (r3.add 7)).bind AV.asSl).bind fun l4 =>
 (h2.puts h2r [.int .i64 (l4.len : Int), .int .i64 0, .int .i64 0]).bind fun h5 =>
 ((h5.cell (h2r.add 0)).bind (AV.asInt .i64)).bind fun n6 =>
 ((h5.cell (h2r.add 1)).bind (AV.asInt .i64)).bind fun n7 =>
 ((h5.cell (h2r.add 2)).bind (AV.asInt .i64)).bind fun n8 =>
 some (.agg [.int .i64 n6, .int .i64 n7, .int .i64 n8], h5) := (kc _ h).trans (by kernel_rfl)
theorem kja (a1 : Sl) (a2 : Int) (a3 : Int) (h : AH) : go (.pt F.kbo Td.kdx [(12, a1.v), (13, .int .i64 a2), (14, .int .i64 a3)]) h =
 cond (decide (a3 < a2)) (
 (idx a1.ref a1.len a3 1).bind fun r4 =>
 ((h.cell (r4.add 0)).bind AV.asSl).bind fun l5 =>
 newK h (.cells [(⟨none, 0, .is 0⟩ : Sl).v] T.kbf) fun h6r h6 =>
 (h6.puts h6r [l5.v]).bind fun h7 =>
 ((h7.cell (h6r.add 0)).bind AV.asSl).bind fun l8 =>
 cond (decide ((l8.len : Int) < 1)) (
 some (.bool false, h7)) (
 ((h7.cell (h6r.add 0)).bind AV.asSl).bind fun l9 =>
 cond (decide ((l9.len : Int) > 63)) (
 some (.bool false, h7)) (
 ((h7.cell (h6r.add 0)).bind AV.asSl).bind fun l10 =>
 go (.pt F.kbo Td.kfq [(4, .ptr (some h6r)), (12, a1.v), (13, .int .i64 a2), (14, .int .i64 a3), (29, l10.v), (30, .int .i64 (l10.len : Int)), (31, .int .i64 0)]) h7))) (
 some (.bool true, h)) := (kc _ h).trans (by kernel_rfl)
theorem kk9 (a1 : Sl) (h : AH) : go (.fn F.kgx [a1.v]) h =
 cond (decide ((a1.len : Int) ≤ 256)) (
 (go (.fn F.kbz [a1.v, .func (.func F.kbm) [] []]) h).bind fun q2 =>
 ((some q2.1).bind AV.asBool).bind fun b3 =>
 cond (!b3) (
 (go (.fn F.kcu [a1.v]) q2.2).bind fun q4 =>
 ((some q4.1).bind AV.asMap).bind fun m5 =>
 (mapLen q4.2 m5).bind fun n6 =>
 some (.bool (decide ((n6 : Int) = (a1.len : Int))), q4.2)) (
 some (.bool false, q2.2))) (
 some (.bool false, h)) := (kc _ h).trans (by kernel_rfl)
theorem kht (a1 : Ref) (a2 : Sl) (a3 : Int) (a4 : Int) (h : AH) : go (.pt F.kc2 Td.kfu [(1, .ptr (some a1)), (27, a2.v), (28, .int .i64 a3), (29, .int .i64 a4)]) h =
 cond (decide (a4 < a3)) (
 (idx a2.ref a2.len a4 1).bind fun r5 =>
 ((h.cell r5).bind AV.asSl).bind fun l6 =>
 ((h.cell (a1.add 1)).bind AV.asSl).bind fun l7 =>
 (idx l7.ref l7.len a4 1).bind fun r8 =>
 ((h.cell r8).bind (AV.asInt .i64)).bind fun n9 =>
 newK h (.cells [.int .i64 0] T.int) fun h10r h10 =>
 (h10.puts h10r [.int .i64 n9]).bind fun h11 =>
 ((h11.cell h10r).bind (AV.asInt .i64)).bind fun n12 =>
 cond (decide (n12 < 2)) (
 some (.bool false, h11)) (
 ((h11.cell h10r).bind (AV.asInt .i64)).bind fun n13 =>
 cond (decide (n13 > 32)) (
 some (.bool false, h11)) (
 ((h11.cell (a1.add 0)).bind AV.asSl).bind fun l14 =>
 cond (!decide ((l6.len : Int) = (l14.len : Int))) (
 some (.bool false, h11)) (
 (go (.fn F.kbz [l6.v, .func (.func F.kbt) [] [.ptr (some h10r)]]) h11).bind fun q15 =>
 ((some q15.1).bind AV.asBool).bind fun b16 =>
 cond b16 (
 some (.bool false, q15.2)) (
 go (.pt F.kc2 Td.kfu [(1, .ptr (some a1)), (27, a2.v), (28, .int .i64 a3), (29, .int .i64 (IntKind.wrap .i64 (a4 + 1)))]) q15.2))))) (
 some (.bool true, h)) := (kc _ h).trans (by kernel_rfl)
theorem knk (a1 : Sl) (a2 : Option Ref) (a3 : Option Ref) (h : AH) : go (.fn F.kf6 [a1.v, .func (.func F.ky) [] [.ptr a2, .ptr a3]]) h =
 (go (.fn F.kdc [a1.v, .func (.func F.ky) [] [.ptr a2, .ptr a3]]) h).bind fun q4 =>
 ((some q4.1).bind (AV.asInt .i64)).bind fun n5 =>
 some (.bool (decide (n5 ≥ 0)), q4.2) := (kc _ h).trans (by kernel_rfl)
theorem krz (a1 : Sl) (h : AH) : go (.fn F.khj [a1.v]) h =
 cond a1.ref.isNone (
 some ((⟨none, 0, .is 0⟩ : Sl).v, h)) (
 newK h (.cells [] T.ko) fun h2r h2 =>
 (kb3 Pg T.ko a1.v h2).bind fun p4 =>
 (k9 Pg (⟨some h2r, 0, .is 0⟩ : Sl) p4.1 p4.2 T.ko 7 h2).bind fun q3 =>
 (AV.asSl q3.1).bind fun l5 =>
 some (l5.v, q3.2)) := (kc _ h).trans (by kernel_rfl)
theorem kia (a1 : Option Ref) (h : AH) : go (.fn F.kb4 [.ptr a1]) h =
 go (.pt F.kb4 Td.kcr [(0, .ptr a1)]) h := (kc _ h).trans (by kernel_rfl)
theorem kic (a1 : Ref) (a2 : Int) (h : AH) : go (.pt F.kbu Td.kec [(1, .ptr (some a1)), (3, .int .i64 a2)]) h =
 ((h.cell (a1.add 0)).bind AV.asSl).bind fun l3 =>
 cond (decide (a2 < (l3.len : Int))) (
 ((h.cell (a1.add 0)).bind AV.asSl).bind fun l4 =>
 (idx l4.ref l4.len a2 1).bind fun r5 =>
 ((h.cell (r5.add 0)).bind AV.asSl).bind fun l6 =>
 cond (decide ((l6.len : Int) < 1)) (
 some (.bool false, h)) (
 cond (decide ((l6.len : Int) > 63)) (
 some (.bool false, h)) (
 go (.pt F.kbu Td.kfo [(1, .ptr (some a1)), (3, .int .i64 a2), (4, l6.v), (5, .int .i64 0)]) h))) (
 some (.bool true, h)) := (kc _ h).trans (by kernel_rfl)
theorem kqw (a1 : Sl) (h : AH) : go (.fn F.kcw [a1.v]) h =
 cond (decide ((a1.len : Int) > 256)) (
 some (.bool false, h)) (
 go (.pt F.kcw Td.kfr [(0, a1.v), (3, .int .i64 0)]) h) := (kc _ h).trans (by kernel_rfl)
theorem kkg (a1 : Ref) (a2 : Int) (h : AH) : go (.pt F.kbs Td.kdz [(1, .ptr (some a1)), (4, .int .i64 a2)]) h =
 ((h.cell (a1.add 2)).bind AV.asSl).bind fun l3 =>
 cond (decide (a2 < (l3.len : Int))) (
 ((h.cell (a1.add 1)).bind AV.asSl).bind fun l4 =>
 (idx l4.ref l4.len a2 1).bind fun r5 =>
 ((h.cell r5).bind (AV.asInt .i64)).bind fun n6 =>
 cond (decide (n6 < 2)) (
 some (.bool false, h)) (
 ((h.cell (a1.add 1)).bind AV.asSl).bind fun l7 =>
 (idx l7.ref l7.len a2 1).bind fun r8 =>
 ((h.cell r8).bind (AV.asInt .i64)).bind fun n9 =>
 cond (decide (n9 > 32)) (
 some (.bool false, h)) (
 ((h.cell (a1.add 2)).bind AV.asSl).bind fun l10 =>
 (idx l10.ref l10.len a2 1).bind fun r11 =>
 ((h.cell r11).bind AV.asSl).bind fun l12 =>
 ((h.cell (a1.add 0)).bind AV.asSl).bind fun l13 =>
 cond (!decide ((l12.len : Int) = (l13.len : Int))) (
 some (.bool false, h)) (
 go (.pt F.kbs Td.kff [(1, .ptr (some a1)), (4, .int .i64 a2), (5, .int .i64 0)]) h)))) (
 some (.bool true, h)) := (kc _ h).trans (by kernel_rfl)
theorem kku (a1 : Int) (a2 : Ref) (a3 : Ref) (a4 : Int) (a5 : Int) (h : AH) : go (.pt F.kbb Td.kc0 [(1, .int .i64 a1), (3, .ptr (some a2)), (5, .ptr (some a3)), (10, .int .i64 a4), (11, .int .i64 a5)]) h =
 ((h.cell (a2.add 0)).bind AV.asSl).bind fun l6 =>
 (idx l6.ref l6.len a4 1).bind fun r7 =>
 ((h.cell (r7.add 0)).bind AV.asSl).bind fun l8 =>
 cond (decide (a5 < (l8.len : Int))) (
 ((h.cell (a2.add 0)).bind AV.asSl).bind fun l9 =>
 (idx l9.ref l9.len a4 1).bind fun r10 =>
 ((h.cell (r10.add 0)).bind AV.asSl).bind fun l11 =>
 (idx l11.ref l11.len a5 7).bind fun r12 =>
 ((h.cell (r12.add 0)).bind AV.asBool).bind fun b13 =>
 ((h.cell (r12.add 1)).bind (AV.asInt .i64)).bind fun n14 =>
 ((h.cell (r12.add 2)).bind (AV.asInt .i64)).bind fun n15 =>
 ((h.cell (r12.add 3)).bind (AV.asInt .i64)).bind fun n16 =>
 ((h.cell (r12.add 4)).bind (AV.asInt .i64)).bind fun n17 =>
 ((h.cell (r12.add 5)).bind (AV.asInt .i64)).bind fun n18 =>
 ((h.cell (r12.add 6)).bind (AV.asInt .i64)).bind fun n19 =>
 newK h (.cells [.bool false, .int .i64 0, .int .i64 0, .int .i64 0, .int .i64 0, .int .i64 0, .int .i64 0] T.ko) fun h20r h20 =>
 (h20.puts h20r [.bool b13, .int .i64 n14, .int .i64 n15, .int .i64 n16, .int .i64 n17, .int .i64 n18, .int .i64 n19]).bind fun h21 =>
 ((h21.cell (h20r.add 0)).bind AV.asBool).bind fun b22 =>
 cond (!b22) (
 ((h21.cell (h20r.add 2)).bind (AV.asInt .i64)).bind fun n23 =>
 cond (decide (n23 ≥ a1)) (
 some (.tup [.ptr none, .int .i64 1], h21)) (
 ((h21.cell (h20r.add 2)).bind (AV.asInt .i64)).bind fun n24 =>
 cond (decide (n24 = 0)) (
 ((h21.cell (h20r.add 3)).bind (AV.asInt .i64)).bind fun n25 =>
 ((h21.cell (a3.add 2)).bind AV.asSl).bind fun l26 =>
 cond (decide (n25 ≥ (l26.len : Int))) (
 some (.tup [.ptr none, .int .i64 1], h21)) (
 go (.pt F.kbb Td.kc0 [(1, .int .i64 a1), (3, .ptr (some a2)), (5, .ptr (some a3)), (10, .int .i64 a4), (11, .int .i64 (IntKind.wrap .i64 (a5 + 1)))]) h21)) (
 go (.pt F.kbb Td.kc0 [(1, .int .i64 a1), (3, .ptr (some a2)), (5, .ptr (some a3)), (10, .int .i64 a4), (11, .int .i64 (IntKind.wrap .i64 (a5 + 1)))]) h21))) (
 go (.pt F.kbb Td.kc0 [(1, .int .i64 a1), (3, .ptr (some a2)), (5, .ptr (some a3)), (10, .int .i64 a4), (11, .int .i64 (IntKind.wrap .i64 (a5 + 1)))]) h21)) (
 go (.pt F.kbb Td.kd7 [(1, .int .i64 a1), (3, .ptr (some a2)), (5, .ptr (some a3)), (10, .int .i64 (IntKind.wrap .i64 (a4 + 1)))]) h) := (kc _ h).trans (by kernel_rfl)
theorem kjk (a1 : Option Ref) (h : AH) : go (.fn F.kbg [.ptr a1]) h =
 go (.pt F.kbg Td.kci [(0, .ptr a1)]) h := (kc _ h).trans (by kernel_rfl)
theorem klf (a1 : Option Ref) (h : AH) : go (.fn F.kd6 [.ptr a1]) h =
 newK h (.cells [.bool false, .int .i64 0, .int .i64 0, .int .i64 0, .int .i64 0, .int .i64 0, .int .i64 0] T.ko) fun h2r h2 =>
 a1.bind fun r3 =>
 ((h2.cell (r3.add 0)).bind AV.asSl).bind fun l4 =>
 a1.bind fun r5 =>
 (idx (some (r5.add 4)) 3 1 1).bind fun r6 =>
 ((h2.cell r6).bind (AV.asInt .i64)).bind fun n7 =>
 (idx l4.ref l4.len n7 1).bind fun r8 =>
 ((h2.cell (r8.add 0)).bind AV.asSl).bind fun l9 =>
 a1.bind fun r10 =>
 (idx (some (r10.add 4)) 3 2 1).bind fun r11 =>
 ((h2.cell r11).bind (AV.asInt .i64)).bind fun n12 =>
 (idx l9.ref l9.len n12 7).bind fun r13 =>
 ((h2.cell (r13.add 0)).bind AV.asBool).bind fun b14 =>
 ((h2.cell (r13.add 1)).bind (AV.asInt .i64)).bind fun n15 =>
 ((h2.cell (r13.add 2)).bind (AV.asInt .i64)).bind fun n16 =>
 ((h2.cell (r13.add 3)).bind (AV.asInt .i64)).bind fun n17 =>
 ((h2.cell (r13.add 4)).bind (AV.asInt .i64)).bind fun n18 =>
 ((h2.cell (r13.add 5)).bind (AV.asInt .i64)).bind fun n19 =>
 ((h2.cell (r13.add 6)).bind (AV.asInt .i64)).bind fun n20 =>
 (h2.puts h2r [.bool b14, .int .i64 n15, .int .i64 n16, .int .i64 n17, .int .i64 n18, .int .i64 n19, .int .i64 n20]).bind fun h21 =>
 ((h21.cell (h2r.add 0)).bind AV.asBool).bind fun b22 =>
 ((h21.cell (h2r.add 1)).bind (AV.asInt .i64)).bind fun n23 =>
 ((h21.cell (h2r.add 2)).bind (AV.asInt .i64)).bind fun n24 =>
 ((h21.cell (h2r.add 3)).bind (AV.asInt .i64)).bind fun n25 =>
 ((h21.cell (h2r.add 4)).bind (AV.asInt .i64)).bind fun n26 =>
 ((h21.cell (h2r.add 5)).bind (AV.asInt .i64)).bind fun n27 =>
 ((h21.cell (h2r.add 6)).bind (AV.asInt .i64)).bind fun n28 =>
 some (.agg [.bool b22, .int .i64 n23, .int .i64 n24, .int .i64 n25, .int .i64 n26, .int .i64 n27, .int .i64 n28], h21) := (kc _ h).trans (by kernel_rfl)
theorem kpy (a1 : Sl) (a2 : Sl) (h : AH) : go (.fn F.kcy [a1.v, a2.v]) h =
 cond (!decide ((a1.len : Int) = (a2.len : Int))) (
 some (.bool false, h)) (
 go (.pt F.kcy Td.kfh [(0, a1.v), (1, a2.v), (5, .int .i64 0)]) h) := (kc _ h).trans (by kernel_rfl)
theorem ki7 (a1 : Sl) (a2 : Sl) (a3 : Int) (h : AH) : go (.pt F.kb1 Td.kfb [(0, a1.v), (1, a2.v), (5, .int .i64 a3)]) h =
 cond (decide (a3 < (a1.len : Int))) (
 (idx a1.ref a1.len a3 1).bind fun r4 =>
 ((h.cell r4).bind (AV.asInt .i64)).bind fun n5 =>
 (idx a2.ref a2.len a3 1).bind fun r6 =>
 ((h.cell r6).bind (AV.asInt .i64)).bind fun n7 =>
 cond (!decide (n5 = n7)) (
 some (.bool false, h)) (
 go (.pt F.kb1 Td.kfb [(0, a1.v), (1, a2.v), (5, .int .i64 (IntKind.wrap .i64 (a3 + 1)))]) h)) (
 some (.bool true, h)) := (kc _ h).trans (by kernel_rfl)
theorem kq2 (a1 : Option Ref) (a2 : Int) (a3 : Int) (a4 : Int) (a5 : Int) (a6 : Int) (a7 : Sl) (a8 : Sl) (a9 : Sl) (h : AH) : go (.fn F.kg5 [.ptr a1, .int .i64 a2, .agg [.int .i64 a3, .int .i64 a4, .int .i64 a5, .int .i64 a6, a7.v, a8.v, a9.v]]) h =
 newK h (.cells [.int .i64 a3, .int .i64 a4, .int .i64 a5, .int .i64 a6, a7.v, a8.v, a9.v] T.kw) fun h10r h10 =>
 (go (.fn F.kfe [.ptr a1]) h10).bind fun q11 =>
 (AV.asTup2 q11.1).bind fun p12 =>
 (AV.asAgg p12.1).bind fun cs13 =>
 cond (Nat.beq cs13.length 8) (
 ((cs13[0]?).bind (AV.asInt .i64)).bind fun n14 =>
 ((cs13[1]?).bind (AV.asInt .i64)).bind fun n15 =>
 ((cs13[2]?).bind (AV.asInt .i64)).bind fun n16 =>
 ((cs13[3]?).bind (AV.asInt .i64)).bind fun n17 =>
 ((cs13[4]?).bind (AV.asInt .i64)).bind fun n18 =>
 ((cs13[5]?).bind AV.asSl).bind fun l19 =>
 ((cs13[6]?).bind AV.asSl).bind fun l20 =>
 ((cs13[7]?).bind AV.asSl).bind fun l21 =>
 ((some p12.2).bind AV.asBool).bind fun b22 =>
 newK q11.2 (.cells [.int .i64 0, .int .i64 0, .int .i64 0, .int .i64 0, .int .i64 0, (⟨none, 0, .is 0⟩ : Sl).v, (⟨none, 0, .is 0⟩ : Sl).v, (⟨none, 0, .is 0⟩ : Sl).v] T.kdj) fun h23r h23 =>
 (h23.puts h23r [.int .i64 n14, .int .i64 n15, .int .i64 n16, .int .i64 n17, .int .i64 n18, l19.v, l20.v, l21.v]).bind fun h24 =>
 cond (!b22) (
 some (.int .i64 18, h24)) (
 ((h24.cell (h10r.add 0)).bind (AV.asInt .i64)).bind fun n25 =>
 ((h24.cell (h10r.add 1)).bind (AV.asInt .i64)).bind fun n26 =>
 ((h24.cell (h10r.add 2)).bind (AV.asInt .i64)).bind fun n27 =>
 ((h24.cell (h10r.add 3)).bind (AV.asInt .i64)).bind fun n28 =>
 ((h24.cell (h10r.add 4)).bind AV.asSl).bind fun l29 =>
 ((h24.cell (h10r.add 5)).bind AV.asSl).bind fun l30 =>
 ((h24.cell (h10r.add 6)).bind AV.asSl).bind fun l31 =>
 (go (.fn F.kz [.agg [.int .i64 n25, .int .i64 n26, .int .i64 n27, .int .i64 n28, l29.v, l30.v, l31.v]]) h24).bind fun q32 =>
 ((some q32.1).bind AV.asBool).bind fun b33 =>
 cond (!b33) (
 some (.int .i64 16, q32.2)) (
 ((q32.2.cell (h10r.add 0)).bind (AV.asInt .i64)).bind fun n34 =>
 cond (!decide (n34 = 9)) (
 some (.int .i64 16, q32.2)) (
 ((q32.2.cell (h23r.add 0)).bind (AV.asInt .i64)).bind fun n35 =>
 cond (!decide (a2 = n35)) (
 some (.int .i64 18, q32.2)) (
 ((q32.2.cell (h10r.add 1)).bind (AV.asInt .i64)).bind fun n36 =>
 ((q32.2.cell ((h23r.add 1).add 1)).bind (AV.asInt .i64)).bind fun n37 =>
 cond (!decide (n36 = n37)) (
 some (.int .i64 18, q32.2)) (
 ((q32.2.cell (h10r.add 2)).bind (AV.asInt .i64)).bind fun n38 =>
 ((q32.2.cell ((h23r.add 1).add 2)).bind (AV.asInt .i64)).bind fun n39 =>
 cond (!decide (n38 = n39)) (
 some (.int .i64 18, q32.2)) (
 ((q32.2.cell (h10r.add 3)).bind (AV.asInt .i64)).bind fun n40 =>
 a1.bind fun r41 =>
 (go (.fn F.kd6 [.ptr a1]) q32.2).bind fun q42 =>
 (AV.asAgg q42.1).bind fun cs43 =>
 cond (Nat.beq cs43.length 7) (
 ((cs43[0]?).bind AV.asBool).bind fun b44 =>
 ((cs43[1]?).bind (AV.asInt .i64)).bind fun n45 =>
 ((cs43[2]?).bind (AV.asInt .i64)).bind fun n46 =>
 ((cs43[3]?).bind (AV.asInt .i64)).bind fun n47 =>
 ((cs43[4]?).bind (AV.asInt .i64)).bind fun n48 =>
 ((cs43[5]?).bind (AV.asInt .i64)).bind fun n49 =>
 ((cs43[6]?).bind (AV.asInt .i64)).bind fun n50 =>
 whenK (SameAt q32.2 q42.2 (h10r.add 3) 1) (
 (go (.fn F.kdm [.agg [.bool b44, .int .i64 n45, .int .i64 n46, .int .i64 n47, .int .i64 n48, .int .i64 n49, .int .i64 n50], .bool (decide (n40 = 1))]) q42.2).bind fun q51 =>
 ((some q51.1).bind (AV.asInt .i64)).bind fun n52 =>
 (idx (some (r41.add 4)) 3 2 1).bind fun r53 =>
 (q51.2.puts r53 [.int .i64 n52]).bind fun h54 =>
 (go (.fn F.kb4 [.ptr a1]) h54).bind fun q55 =>
 (AV.asTup0 q55.1).bind fun _ =>
 some (.int .i64 0, q55.2))) none))))))) none := (kc _ h).trans (by kernel_rfl)
theorem kn0 (a1 : Option Ref) (a2 : Int) (a3 : Int) (a4 : Int) (a5 : Int) (a6 : Int) (a7 : Sl) (a8 : Sl) (a9 : Sl) (h : AH) : go (.fn F.kgs [.ptr a1, .int .i64 a2, .agg [.int .i64 a3, .int .i64 a4, .int .i64 a5, .int .i64 a6, a7.v, a8.v, a9.v]]) h =
 newK h (.cells [.int .i64 a3, .int .i64 a4, .int .i64 a5, .int .i64 a6, a7.v, a8.v, a9.v] T.kw) fun h10r h10 =>
 (go (.fn F.kex [.ptr a1]) h10).bind fun q11 =>
 (AV.asTup2 q11.1).bind fun p12 =>
 (AV.asAgg p12.1).bind fun cs13 =>
 cond (Nat.beq cs13.length 8) (
 ((cs13[0]?).bind (AV.asInt .i64)).bind fun n14 =>
 ((cs13[1]?).bind (AV.asInt .i64)).bind fun n15 =>
 ((cs13[2]?).bind (AV.asInt .i64)).bind fun n16 =>
 ((cs13[3]?).bind (AV.asInt .i64)).bind fun n17 =>
 ((cs13[4]?).bind (AV.asInt .i64)).bind fun n18 =>
 ((cs13[5]?).bind AV.asSl).bind fun l19 =>
 ((cs13[6]?).bind AV.asSl).bind fun l20 =>
 ((cs13[7]?).bind AV.asSl).bind fun l21 =>
 ((some p12.2).bind AV.asBool).bind fun b22 =>
 newK q11.2 (.cells [.int .i64 0, .int .i64 0, .int .i64 0, .int .i64 0, .int .i64 0, (⟨none, 0, .is 0⟩ : Sl).v, (⟨none, 0, .is 0⟩ : Sl).v, (⟨none, 0, .is 0⟩ : Sl).v] T.kdj) fun h23r h23 =>
 (h23.puts h23r [.int .i64 n14, .int .i64 n15, .int .i64 n16, .int .i64 n17, .int .i64 n18, l19.v, l20.v, l21.v]).bind fun h24 =>
 cond (!b22) (
 some (.int .i64 18, h24)) (
 ((h24.cell (h10r.add 0)).bind (AV.asInt .i64)).bind fun n25 =>
 ((h24.cell (h10r.add 1)).bind (AV.asInt .i64)).bind fun n26 =>
 ((h24.cell (h10r.add 2)).bind (AV.asInt .i64)).bind fun n27 =>
 ((h24.cell (h10r.add 3)).bind (AV.asInt .i64)).bind fun n28 =>
 ((h24.cell (h10r.add 4)).bind AV.asSl).bind fun l29 =>
 ((h24.cell (h10r.add 5)).bind AV.asSl).bind fun l30 =>
 ((h24.cell (h10r.add 6)).bind AV.asSl).bind fun l31 =>
 (go (.fn F.ke [.agg [.int .i64 n25, .int .i64 n26, .int .i64 n27, .int .i64 n28, l29.v, l30.v, l31.v]]) h24).bind fun q32 =>
 ((some q32.1).bind AV.asBool).bind fun b33 =>
 cond (!b33) (
 some (.int .i64 16, q32.2)) (
 ((q32.2.cell (h10r.add 0)).bind (AV.asInt .i64)).bind fun n34 =>
 cond (!decide (n34 = 9)) (
 some (.int .i64 16, q32.2)) (
 ((q32.2.cell (h23r.add 0)).bind (AV.asInt .i64)).bind fun n35 =>
 cond (!decide (a2 = n35)) (
 some (.int .i64 18, q32.2)) (
 ((q32.2.cell (h10r.add 1)).bind (AV.asInt .i64)).bind fun n36 =>
 ((q32.2.cell ((h23r.add 1).add 1)).bind (AV.asInt .i64)).bind fun n37 =>
 cond (!decide (n36 = n37)) (
 some (.int .i64 18, q32.2)) (
 ((q32.2.cell (h10r.add 2)).bind (AV.asInt .i64)).bind fun n38 =>
 ((q32.2.cell ((h23r.add 1).add 2)).bind (AV.asInt .i64)).bind fun n39 =>
 cond (!decide (n38 = n39)) (
 some (.int .i64 18, q32.2)) (
 a1.bind fun r40 =>
 ((q32.2.cell ((r40.add 0).add 0)).bind AV.asSl).bind fun l41 =>
 a1.bind fun r42 =>
 ((q32.2.cell (r42.add 5)).bind (AV.asInt .i64)).bind fun n43 =>
 (idx l41.ref l41.len n43 1).bind fun r44 =>
 ((q32.2.cell (r44.add 0)).bind AV.asSl).bind fun l45 =>
 a1.bind fun r46 =>
 ((q32.2.cell (r46.add 6)).bind (AV.asInt .i64)).bind fun n47 =>
 (idx l45.ref l45.len n47 7).bind fun r48 =>
 ((q32.2.cell (r48.add 0)).bind AV.asBool).bind fun b49 =>
 ((q32.2.cell (r48.add 1)).bind (AV.asInt .i64)).bind fun n50 =>
 ((q32.2.cell (r48.add 2)).bind (AV.asInt .i64)).bind fun n51 =>
 ((q32.2.cell (r48.add 3)).bind (AV.asInt .i64)).bind fun n52 =>
 ((q32.2.cell (r48.add 4)).bind (AV.asInt .i64)).bind fun n53 =>
 ((q32.2.cell (r48.add 5)).bind (AV.asInt .i64)).bind fun n54 =>
 ((q32.2.cell (r48.add 6)).bind (AV.asInt .i64)).bind fun n55 =>
 newK q32.2 (.cells [.bool false, .int .i64 0, .int .i64 0, .int .i64 0, .int .i64 0, .int .i64 0, .int .i64 0] T.ko) fun h56r h56 =>
 whenK (SameAt q32.2 h56 r48 7) (
 whenK (SameAt q32.2 h56 (r46.add 6) 1) (
 whenK (SameAt q32.2 h56 (r44.add 0) 1) (
 whenK (SameAt q32.2 h56 (r42.add 5) 1) (
 whenK (SameAt q32.2 h56 ((r40.add 0).add 0) 1) (
 (h56.puts h56r [.bool b49, .int .i64 n50, .int .i64 n51, .int .i64 n52, .int .i64 n53, .int .i64 n54, .int .i64 n55]).bind fun h57 =>
 ((h57.cell (h56r.add 6)).bind (AV.asInt .i64)).bind fun n58 =>
 a1.bind fun r59 =>
 (h57.puts (r59.add 6) [.int .i64 n58]).bind fun h60 =>
 ((h60.cell (h10r.add 3)).bind (AV.asInt .i64)).bind fun n61 =>
 cond (decide (n61 = 1)) (
 ((h60.cell (h56r.add 5)).bind (AV.asInt .i64)).bind fun n62 =>
 a1.bind fun r63 =>
 (h60.puts (r63.add 6) [.int .i64 n62]).bind fun h64 =>
 (go (.fn F.kbg [.ptr a1]) h64).bind fun q65 =>
 (AV.asTup0 q65.1).bind fun _ =>
 some (.int .i64 0, q65.2)) (
 (go (.fn F.kbg [.ptr a1]) h60).bind fun q66 =>
 (AV.asTup0 q66.1).bind fun _ =>
 some (.int .i64 0, q66.2)))))))))))))) none := (kc _ h).trans (by kernel_rfl)
theorem kjv (a1 : Ref) (a2 : Sl) (a3 : Int) (a4 : Int) (a5 : Sl) (a6 : Int) (a7 : Int) (h : AH) : go (.pt F.kbo Td.kfq [(4, .ptr (some a1)), (12, a2.v), (13, .int .i64 a3), (14, .int .i64 a4), (29, a5.v), (30, .int .i64 a6), (31, .int .i64 a7)]) h =
 cond (decide (a7 < a6)) (
 (idx a5.ref a5.len a7 7).bind fun r8 =>
 ((h.cell (r8.add 0)).bind AV.asBool).bind fun b9 =>
 ((h.cell (r8.add 1)).bind (AV.asInt .i64)).bind fun n10 =>
 ((h.cell (r8.add 2)).bind (AV.asInt .i64)).bind fun n11 =>
 ((h.cell (r8.add 3)).bind (AV.asInt .i64)).bind fun n12 =>
 ((h.cell (r8.add 4)).bind (AV.asInt .i64)).bind fun n13 =>
 ((h.cell (r8.add 5)).bind (AV.asInt .i64)).bind fun n14 =>
 ((h.cell (r8.add 6)).bind (AV.asInt .i64)).bind fun n15 =>
 newK h (.cells [.bool false, .int .i64 0, .int .i64 0, .int .i64 0, .int .i64 0, .int .i64 0, .int .i64 0] T.ko) fun h16r h16 =>
 (h16.puts h16r [.bool b9, .int .i64 n10, .int .i64 n11, .int .i64 n12, .int .i64 n13, .int .i64 n14, .int .i64 n15]).bind fun h17 =>
 ((h17.cell (h16r.add 0)).bind AV.asBool).bind fun b18 =>
 ((h17.cell (h16r.add 1)).bind (AV.asInt .i64)).bind fun n19 =>
 ((h17.cell (h16r.add 2)).bind (AV.asInt .i64)).bind fun n20 =>
 ((h17.cell (h16r.add 3)).bind (AV.asInt .i64)).bind fun n21 =>
 ((h17.cell (h16r.add 4)).bind (AV.asInt .i64)).bind fun n22 =>
 ((h17.cell (h16r.add 5)).bind (AV.asInt .i64)).bind fun n23 =>
 ((h17.cell (h16r.add 6)).bind (AV.asInt .i64)).bind fun n24 =>
 ((h17.cell (a1.add 0)).bind AV.asSl).bind fun l25 =>
 (go (.fn F.kem [.agg [.bool b18, .int .i64 n19, .int .i64 n20, .int .i64 n21, .int .i64 n22, .int .i64 n23, .int .i64 n24], .int .i64 a7, .int .i64 (l25.len : Int)]) h17).bind fun q26 =>
 ((some q26.1).bind AV.asBool).bind fun b27 =>
 cond (!b27) (
 some (.bool false, q26.2)) (
 go (.pt F.kbo Td.kfq [(4, .ptr (some a1)), (12, a2.v), (13, .int .i64 a3), (14, .int .i64 a4), (29, a5.v), (30, .int .i64 a6), (31, .int .i64 (IntKind.wrap .i64 (a7 + 1)))]) q26.2)) (
 go (.pt F.kbo Td.kdx [(12, a2.v), (13, .int .i64 a3), (14, .int .i64 (IntKind.wrap .i64 (a4 + 1)))]) h) := (kc _ h).trans (by kernel_rfl)
theorem km7 (a1 : Sl) (h : AH) : go (.fn F.kbz [a1.v, .func (.func F.kbm) [] []]) h =
 (go (.fn F.kv [a1.v, .func (.func F.kbm) [] []]) h).bind fun q2 =>
 ((some q2.1).bind (AV.asInt .i64)).bind fun n3 =>
 some (.bool (decide (n3 ≥ 0)), q2.2) := (kc _ h).trans (by kernel_rfl)
theorem km9 (a1 : Sl) (h : AH) : go (.fn F.kcu [a1.v]) h =
 newM h (.map [] 0) fun h2m h2 =>
 go (.pt F.kcu Td.kev [(3, .map (some h2m)), (7, a1.v), (8, .int .i64 (a1.len : Int)), (9, .int .i64 0)]) h2 := (kc _ h).trans (by kernel_rfl)
theorem kru (a1 : Sl) (a2 : Option Ref) (h : AH) : go (.fn F.kbz [a1.v, .func (.func F.kbt) [] [.ptr a2]]) h =
 (go (.fn F.kv [a1.v, .func (.func F.kbt) [] [.ptr a2]]) h).bind fun q3 =>
 ((some q3.1).bind (AV.asInt .i64)).bind fun n4 =>
 some (.bool (decide (n4 ≥ 0)), q3.2) := (kc _ h).trans (by kernel_rfl)
theorem krx (a1 : Sl) (a2 : Option Ref) (a3 : Option Ref) (h : AH) : go (.fn F.kdc [a1.v, .func (.func F.ky) [] [.ptr a2, .ptr a3]]) h =
 go (.pt F.kdc Td.kfx [(0, a1.v), (1, .func (.func F.ky) [] [.ptr a2, .ptr a3]), (7, .int .i64 (a1.len : Int)), (8, .int .i64 0)]) h := (kc _ h).trans (by kernel_rfl)
theorem kl8 (a1 : Option Ref) (h : AH) : go (.pt F.kb4 Td.kcr [(0, .ptr a1)]) h =
 a1.bind fun r2 =>
 ((h.cell ((r2.add 4).add 0)).bind (AV.asInt .i64)).bind fun n3 =>
 ((h.cell ((r2.add 4).add 1)).bind (AV.asInt .i64)).bind fun n4 =>
 ((h.cell ((r2.add 4).add 2)).bind (AV.asInt .i64)).bind fun n5 =>
 (go (.fn F.kdo [.ptr a1]) h).bind fun q6 =>
 (AV.asAgg q6.1).bind fun cs7 =>
 cond (Nat.beq cs7.length 3) (
 ((cs7[0]?).bind (AV.asInt .i64)).bind fun n8 =>
 ((cs7[1]?).bind (AV.asInt .i64)).bind fun n9 =>
 ((cs7[2]?).bind (AV.asInt .i64)).bind fun n10 =>
 whenK (SameAt h q6.2 (r2.add 4) 3) (
 cond (!((decide (n3 = n8)) && ((decide (n4 = n9)) && ((decide (n5 = n10)) && true)))) (
 a1.bind fun r11 =>
 (idx (some (r11.add 4)) 3 1 1).bind fun r12 =>
 ((q6.2.cell r12).bind (AV.asInt .i64)).bind fun n13 =>
 a1.bind fun r14 =>
 ((q6.2.cell (r14.add 0)).bind AV.asSl).bind fun l15 =>
 cond (decide (n13 = (l15.len : Int))) (
 a1.bind fun r16 =>
 (idx (some (r16.add 4)) 3 0 1).bind fun r17 =>
 ((q6.2.cell r17).bind (AV.asInt .i64)).bind fun n18 =>
 a1.bind fun r19 =>
 (q6.2.puts (r19.add 4) [.int .i64 (IntKind.wrap .i64 (n18 + 1)), .int .i64 0, .int .i64 0]).bind fun h20 =>
 go (.pt F.kb4 Td.kcr [(0, .ptr a1)]) h20) (
 (go (.fn F.kd6 [.ptr a1]) q6.2).bind fun q21 =>
 (AV.asAgg q21.1).bind fun cs22 =>
 cond (Nat.beq cs22.length 7) (
 ((cs22[0]?).bind AV.asBool).bind fun b23 =>
 ((cs22[1]?).bind (AV.asInt .i64)).bind fun n24 =>
 ((cs22[2]?).bind (AV.asInt .i64)).bind fun n25 =>
 ((cs22[3]?).bind (AV.asInt .i64)).bind fun n26 =>
 ((cs22[4]?).bind (AV.asInt .i64)).bind fun n27 =>
 ((cs22[5]?).bind (AV.asInt .i64)).bind fun n28 =>
 ((cs22[6]?).bind (AV.asInt .i64)).bind fun n29 =>
 newK q21.2 (.cells [.bool false, .int .i64 0, .int .i64 0, .int .i64 0, .int .i64 0, .int .i64 0, .int .i64 0] T.ko) fun h30r h30 =>
 (h30.puts h30r [.bool b23, .int .i64 n24, .int .i64 n25, .int .i64 n26, .int .i64 n27, .int .i64 n28, .int .i64 n29]).bind fun h31 =>
 ((h31.cell (h30r.add 0)).bind AV.asBool).bind fun b32 =>
 cond b32 (
 a1.bind fun r33 =>
 ((h31.cell (r33.add 7)).bind AV.asSl).bind fun l34 =>
 a1.bind fun r35 =>
 (idx (some (r35.add 4)) 3 0 1).bind fun r36 =>
 ((h31.cell r36).bind (AV.asInt .i64)).bind fun n37 =>
 (idx l34.ref l34.len n37 1).bind fun r38 =>
 ((h31.cell r38).bind (AV.asInt .i64)).bind fun n39 =>
 ((h31.cell (h30r.add 1)).bind (AV.asInt .i64)).bind fun n40 =>
 (idx l34.ref l34.len n37 1).bind fun r41 =>
 (h31.puts r41 [.int .i64 (IntKind.wrap .i64 (n39 + n40))]).bind fun h42 =>
 a1.bind fun r43 =>
 (idx (some (r43.add 4)) 3 0 1).bind fun r44 =>
 ((h42.cell r44).bind (AV.asInt .i64)).bind fun n45 =>
 a1.bind fun r46 =>
 (idx (some (r46.add 4)) 3 1 1).bind fun r47 =>
 ((h42.cell r47).bind (AV.asInt .i64)).bind fun n48 =>
 a1.bind fun r49 =>
 (h42.puts (r49.add 4) [.int .i64 n45, .int .i64 (IntKind.wrap .i64 (n48 + 1)), .int .i64 0]).bind fun h50 =>
 go (.pt F.kb4 Td.kcr [(0, .ptr a1)]) h50) (
 ((h31.cell (h30r.add 2)).bind (AV.asInt .i64)).bind fun n51 =>
 cond (!decide (n51 = 0)) (
 some (.tup [], h31)) (
 ((h31.cell (h30r.add 0)).bind AV.asBool).bind fun b52 =>
 ((h31.cell (h30r.add 1)).bind (AV.asInt .i64)).bind fun n53 =>
 ((h31.cell (h30r.add 2)).bind (AV.asInt .i64)).bind fun n54 =>
 ((h31.cell (h30r.add 3)).bind (AV.asInt .i64)).bind fun n55 =>
 ((h31.cell (h30r.add 4)).bind (AV.asInt .i64)).bind fun n56 =>
 ((h31.cell (h30r.add 5)).bind (AV.asInt .i64)).bind fun n57 =>
 ((h31.cell (h30r.add 6)).bind (AV.asInt .i64)).bind fun n58 =>
 a1.bind fun r59 =>
 ((h31.cell ((r59.add 1).add 2)).bind AV.asSl).bind fun l60 =>
 ((h31.cell (h30r.add 3)).bind (AV.asInt .i64)).bind fun n61 =>
 (idx l60.ref l60.len n61 1).bind fun r62 =>
 ((h31.cell r62).bind AV.asSl).bind fun l63 =>
 a1.bind fun r64 =>
 (idx (some (r64.add 4)) 3 0 1).bind fun r65 =>
 ((h31.cell r65).bind (AV.asInt .i64)).bind fun n66 =>
 (idx l63.ref l63.len n66 1).bind fun r67 =>
 ((h31.cell r67).bind (AV.asInt .i64)).bind fun n68 =>
 ((h31.cell (h30r.add 4)).bind (AV.asInt .i64)).bind fun n69 =>
 a1.bind fun r70 =>
 (go (.fn F.kdm [.agg [.bool b52, .int .i64 n53, .int .i64 n54, .int .i64 n55, .int .i64 n56, .int .i64 n57, .int .i64 n58], .bool (decide (n68 ≤ n69))]) h31).bind fun q71 =>
 ((some q71.1).bind (AV.asInt .i64)).bind fun n72 =>
 (idx (some (r70.add 4)) 3 2 1).bind fun r73 =>
 (q71.2.puts r73 [.int .i64 n72]).bind fun h74 =>
 go (.pt F.kb4 Td.kcr [(0, .ptr a1)]) h74))) none)) (
 some (.tup [], q6.2)))) none := (kc _ h).trans (by kernel_rfl)
theorem kjr (a1 : Ref) (a2 : Int) (a3 : Sl) (a4 : Int) (h : AH) : go (.pt F.kbu Td.kfo [(1, .ptr (some a1)), (3, .int .i64 a2), (4, a3.v), (5, .int .i64 a4)]) h =
 cond (decide (a4 < (a3.len : Int))) (
 (idx a3.ref a3.len a4 7).bind fun r5 =>
 ((h.cell (r5.add 0)).bind AV.asBool).bind fun b6 =>
 ((h.cell (r5.add 1)).bind (AV.asInt .i64)).bind fun n7 =>
 ((h.cell (r5.add 2)).bind (AV.asInt .i64)).bind fun n8 =>
 ((h.cell (r5.add 3)).bind (AV.asInt .i64)).bind fun n9 =>
 ((h.cell (r5.add 4)).bind (AV.asInt .i64)).bind fun n10 =>
 ((h.cell (r5.add 5)).bind (AV.asInt .i64)).bind fun n11 =>
 ((h.cell (r5.add 6)).bind (AV.asInt .i64)).bind fun n12 =>
 (go (.fn F.kes [.agg [.bool b6, .int .i64 n7, .int .i64 n8, .int .i64 n9, .int .i64 n10, .int .i64 n11, .int .i64 n12], .int .i64 a4, .int .i64 (a3.len : Int)]) h).bind fun q13 =>
 ((some q13.1).bind AV.asBool).bind fun b14 =>
 cond (!b14) (
 some (.bool false, q13.2)) (
 go (.pt F.kbu Td.kfo [(1, .ptr (some a1)), (3, .int .i64 a2), (4, a3.v), (5, .int .i64 (IntKind.wrap .i64 (a4 + 1)))]) q13.2)) (
 go (.pt F.kbu Td.kec [(1, .ptr (some a1)), (3, .int .i64 (IntKind.wrap .i64 (a2 + 1)))]) h) := (kc _ h).trans (by kernel_rfl)
theorem kjd (a1 : Sl) (a2 : Int) (h : AH) : go (.pt F.kcw Td.kfr [(0, a1.v), (3, .int .i64 a2)]) h =
 cond (decide (a2 < (a1.len : Int))) (
 (idx a1.ref a1.len a2 1).bind fun r3 =>
 ((h.cell r3).bind (AV.asInt .i64)).bind fun n4 =>
 cond (decide (n4 < 0)) (
 some (.bool false, h)) (
 (idx a1.ref a1.len a2 1).bind fun r5 =>
 ((h.cell r5).bind (AV.asInt .i64)).bind fun n6 =>
 cond (decide (n6 > 1073741824)) (
 some (.bool false, h)) (
 (idx a1.ref a1.len a2 1).bind fun r7 =>
 ((h.cell r7).bind (AV.asInt .i64)).bind fun n8 =>
 (go (.fn F.kcq [a1.v, .int .i64 n8]) h).bind fun q9 =>
 ((some q9.1).bind (AV.asInt .i64)).bind fun n10 =>
 cond (!decide (n10 = a2)) (
 some (.bool false, q9.2)) (
 go (.pt F.kcw Td.kfr [(0, a1.v), (3, .int .i64 (IntKind.wrap .i64 (a2 + 1)))]) q9.2)))) (
 some (.bool true, h)) := (kc _ h).trans (by kernel_rfl)
theorem ki9 (a1 : Ref) (a2 : Int) (a3 : Int) (h : AH) : go (.pt F.kbs Td.kff [(1, .ptr (some a1)), (4, .int .i64 a2), (5, .int .i64 a3)]) h =
 ((h.cell (a1.add 0)).bind AV.asSl).bind fun l4 =>
 cond (decide (a3 < (l4.len : Int))) (
 ((h.cell (a1.add 2)).bind AV.asSl).bind fun l5 =>
 (idx l5.ref l5.len a2 1).bind fun r6 =>
 ((h.cell r6).bind AV.asSl).bind fun l7 =>
 (idx l7.ref l7.len a3 1).bind fun r8 =>
 ((h.cell r8).bind (AV.asInt .i64)).bind fun n9 =>
 cond (decide (n9 < 0)) (
 some (.bool false, h)) (
 ((h.cell (a1.add 2)).bind AV.asSl).bind fun l10 =>
 (idx l10.ref l10.len a2 1).bind fun r11 =>
 ((h.cell r11).bind AV.asSl).bind fun l12 =>
 (idx l12.ref l12.len a3 1).bind fun r13 =>
 ((h.cell r13).bind (AV.asInt .i64)).bind fun n14 =>
 ((h.cell (a1.add 1)).bind AV.asSl).bind fun l15 =>
 (idx l15.ref l15.len a2 1).bind fun r16 =>
 ((h.cell r16).bind (AV.asInt .i64)).bind fun n17 =>
 cond (decide (n14 ≥ n17)) (
 some (.bool false, h)) (
 go (.pt F.kbs Td.kff [(1, .ptr (some a1)), (4, .int .i64 a2), (5, .int .i64 (IntKind.wrap .i64 (a3 + 1)))]) h))) (
 go (.pt F.kbs Td.kdz [(1, .ptr (some a1)), (4, .int .i64 (IntKind.wrap .i64 (a2 + 1)))]) h) := (kc _ h).trans (by kernel_rfl)
theorem kpb (a1 : Option Ref) (h : AH) : go (.pt F.kbg Td.kci [(0, .ptr a1)]) h =
 a1.bind fun r2 =>
 ((h.cell (r2.add 4)).bind (AV.asInt .i64)).bind fun n3 =>
 a1.bind fun r4 =>
 ((h.cell ((r4.add 1).add 0)).bind AV.asSl).bind fun l5 =>
 cond (decide (n3 < (l5.len : Int))) (
 a1.bind fun r6 =>
 ((h.cell (r6.add 5)).bind (AV.asInt .i64)).bind fun n7 =>
 a1.bind fun r8 =>
 ((h.cell ((r8.add 0).add 0)).bind AV.asSl).bind fun l9 =>
 cond (decide (n7 ≥ (l9.len : Int))) (
 a1.bind fun r10 =>
 ((h.cell (r10.add 4)).bind (AV.asInt .i64)).bind fun n11 =>
 a1.bind fun r12 =>
 (h.puts (r12.add 4) [.int .i64 (IntKind.wrap .i64 (n11 + 1))]).bind fun h13 =>
 a1.bind fun r14 =>
 (h13.puts (r14.add 5) [.int .i64 0]).bind fun h15 =>
 a1.bind fun r16 =>
 (h15.puts (r16.add 6) [.int .i64 0]).bind fun h17 =>
 go (.pt F.kbg Td.kci [(0, .ptr a1)]) h17) (
 a1.bind fun r18 =>
 ((h.cell ((r18.add 0).add 0)).bind AV.asSl).bind fun l19 =>
 a1.bind fun r20 =>
 ((h.cell (r20.add 5)).bind (AV.asInt .i64)).bind fun n21 =>
 (idx l19.ref l19.len n21 1).bind fun r22 =>
 ((h.cell (r22.add 0)).bind AV.asSl).bind fun l23 =>
 a1.bind fun r24 =>
 ((h.cell (r24.add 6)).bind (AV.asInt .i64)).bind fun n25 =>
 (idx l23.ref l23.len n25 7).bind fun r26 =>
 ((h.cell (r26.add 0)).bind AV.asBool).bind fun b27 =>
 ((h.cell (r26.add 1)).bind (AV.asInt .i64)).bind fun n28 =>
 ((h.cell (r26.add 2)).bind (AV.asInt .i64)).bind fun n29 =>
 ((h.cell (r26.add 3)).bind (AV.asInt .i64)).bind fun n30 =>
 ((h.cell (r26.add 4)).bind (AV.asInt .i64)).bind fun n31 =>
 ((h.cell (r26.add 5)).bind (AV.asInt .i64)).bind fun n32 =>
 ((h.cell (r26.add 6)).bind (AV.asInt .i64)).bind fun n33 =>
 newK h (.cells [.bool false, .int .i64 0, .int .i64 0, .int .i64 0, .int .i64 0, .int .i64 0, .int .i64 0] T.ko) fun h34r h34 =>
 whenK (SameAt h h34 r26 7) (
 whenK (SameAt h h34 (r24.add 6) 1) (
 whenK (SameAt h h34 (r22.add 0) 1) (
 whenK (SameAt h h34 (r20.add 5) 1) (
 whenK (SameAt h h34 ((r18.add 0).add 0) 1) (
 (h34.puts h34r [.bool b27, .int .i64 n28, .int .i64 n29, .int .i64 n30, .int .i64 n31, .int .i64 n32, .int .i64 n33]).bind fun h35 =>
 ((h35.cell (h34r.add 0)).bind AV.asBool).bind fun b36 =>
 cond b36 (
 a1.bind fun r37 =>
 ((h35.cell (r37.add 7)).bind AV.asSl).bind fun l38 =>
 a1.bind fun r39 =>
 ((h35.cell (r39.add 4)).bind (AV.asInt .i64)).bind fun n40 =>
 a1.bind fun r41 =>
 ((h35.cell (r41.add 7)).bind AV.asSl).bind fun l42 =>
 a1.bind fun r43 =>
 ((h35.cell (r43.add 4)).bind (AV.asInt .i64)).bind fun n44 =>
 (idx l42.ref l42.len n44 1).bind fun r45 =>
 ((h35.cell r45).bind (AV.asInt .i64)).bind fun n46 =>
 ((h35.cell (h34r.add 1)).bind (AV.asInt .i64)).bind fun n47 =>
 (idx l38.ref l38.len n40 1).bind fun r48 =>
 (h35.puts r48 [.int .i64 (IntKind.wrap .i64 (n46 + n47))]).bind fun h49 =>
 a1.bind fun r50 =>
 ((h49.cell (r50.add 5)).bind (AV.asInt .i64)).bind fun n51 =>
 a1.bind fun r52 =>
 (h49.puts (r52.add 5) [.int .i64 (IntKind.wrap .i64 (n51 + 1))]).bind fun h53 =>
 a1.bind fun r54 =>
 (h53.puts (r54.add 6) [.int .i64 0]).bind fun h55 =>
 go (.pt F.kbg Td.kci [(0, .ptr a1)]) h55) (
 ((h35.cell (h34r.add 2)).bind (AV.asInt .i64)).bind fun n56 =>
 cond (!decide (n56 = 0)) (
 some (.tup [], h35)) (
 ((h35.cell (h34r.add 6)).bind (AV.asInt .i64)).bind fun n57 =>
 a1.bind fun r58 =>
 (h35.puts (r58.add 6) [.int .i64 n57]).bind fun h59 =>
 a1.bind fun r60 =>
 ((h59.cell ((r60.add 1).add 2)).bind AV.asSl).bind fun l61 =>
 ((h59.cell (h34r.add 3)).bind (AV.asInt .i64)).bind fun n62 =>
 (idx l61.ref l61.len n62 1).bind fun r63 =>
 ((h59.cell r63).bind AV.asSl).bind fun l64 =>
 a1.bind fun r65 =>
 ((h59.cell (r65.add 4)).bind (AV.asInt .i64)).bind fun n66 =>
 (idx l64.ref l64.len n66 1).bind fun r67 =>
 ((h59.cell r67).bind (AV.asInt .i64)).bind fun n68 =>
 ((h59.cell (h34r.add 4)).bind (AV.asInt .i64)).bind fun n69 =>
 cond (decide (n68 ≤ n69)) (
 ((h59.cell (h34r.add 5)).bind (AV.asInt .i64)).bind fun n70 =>
 a1.bind fun r71 =>
 (h59.puts (r71.add 6) [.int .i64 n70]).bind fun h72 =>
 go (.pt F.kbg Td.kci [(0, .ptr a1)]) h72) (
 go (.pt F.kbg Td.kci [(0, .ptr a1)]) h59)))))))))) (
 some (.tup [], h)) := (kc _ h).trans (by kernel_rfl)
theorem ksh (a1 : Sl) (a2 : Sl) (a3 : Int) (h : AH) : go (.pt F.kcy Td.kfh [(0, a1.v), (1, a2.v), (5, .int .i64 a3)]) h =
 cond (decide (a3 < (a1.len : Int))) (
 (idx a1.ref a1.len a3 1).bind fun r4 =>
 ((h.cell r4).bind AV.asSl).bind fun l5 =>
 (idx a2.ref a2.len a3 1).bind fun r6 =>
 ((h.cell r6).bind AV.asSl).bind fun l7 =>
 (go (.fn F.kk1 [l5.v, l7.v]) h).bind fun q8 =>
 ((some q8.1).bind AV.asBool).bind fun b9 =>
 cond (!b9) (
 some (.bool false, q8.2)) (
 go (.pt F.kcy Td.kfh [(0, a1.v), (1, a2.v), (5, .int .i64 (IntKind.wrap .i64 (a3 + 1)))]) q8.2)) (
 some (.bool true, h)) := (kc _ h).trans (by kernel_rfl)
theorem kry (a1 : Int) (a2 : Int) (a3 : Int) (a4 : Int) (a5 : Sl) (a6 : Sl) (a7 : Sl) (h : AH) : go (.fn F.kz [.agg [.int .i64 a1, .int .i64 a2, .int .i64 a3, .int .i64 a4, a5.v, a6.v, a7.v]]) h =
 newK h (.cells [.int .i64 a1, .int .i64 a2, .int .i64 a3, .int .i64 a4, a5.v, a6.v, a7.v] T.kw) fun h8r h8 =>
 (go (.fn F.kha []) h8).bind fun q9 =>
 (AV.asAgg q9.1).bind fun cs10 =>
 cond (Nat.beq cs10.length 48) (
 ((cs10[0]?).bind (AV.asInt .i64)).bind fun n11 =>
 ((cs10[1]?).bind AV.asBool).bind fun b12 =>
 ((cs10[2]?).bind AV.asBool).bind fun b13 =>
 ((cs10[3]?).bind AV.asBool).bind fun b14 =>
 ((cs10[4]?).bind (AV.asInt .i64)).bind fun n15 =>
 ((cs10[5]?).bind AV.asBool).bind fun b16 =>
 ((cs10[6]?).bind AV.asBool).bind fun b17 =>
 ((cs10[7]?).bind AV.asBool).bind fun b18 =>
 ((cs10[8]?).bind (AV.asInt .i64)).bind fun n19 =>
 ((cs10[9]?).bind AV.asBool).bind fun b20 =>
 ((cs10[10]?).bind AV.asBool).bind fun b21 =>
 ((cs10[11]?).bind AV.asBool).bind fun b22 =>
 ((cs10[12]?).bind (AV.asInt .i64)).bind fun n23 =>
 ((cs10[13]?).bind AV.asBool).bind fun b24 =>
 ((cs10[14]?).bind AV.asBool).bind fun b25 =>
 ((cs10[15]?).bind AV.asBool).bind fun b26 =>
 ((cs10[16]?).bind (AV.asInt .i64)).bind fun n27 =>
 ((cs10[17]?).bind AV.asBool).bind fun b28 =>
 ((cs10[18]?).bind AV.asBool).bind fun b29 =>
 ((cs10[19]?).bind AV.asBool).bind fun b30 =>
 ((cs10[20]?).bind (AV.asInt .i64)).bind fun n31 =>
 ((cs10[21]?).bind AV.asBool).bind fun b32 =>
 ((cs10[22]?).bind AV.asBool).bind fun b33 =>
 ((cs10[23]?).bind AV.asBool).bind fun b34 =>
 ((cs10[24]?).bind (AV.asInt .i64)).bind fun n35 =>
 ((cs10[25]?).bind AV.asBool).bind fun b36 =>
 ((cs10[26]?).bind AV.asBool).bind fun b37 =>
 ((cs10[27]?).bind AV.asBool).bind fun b38 =>
 ((cs10[28]?).bind (AV.asInt .i64)).bind fun n39 =>
 ((cs10[29]?).bind AV.asBool).bind fun b40 =>
 ((cs10[30]?).bind AV.asBool).bind fun b41 =>
 ((cs10[31]?).bind AV.asBool).bind fun b42 =>
 ((cs10[32]?).bind (AV.asInt .i64)).bind fun n43 =>
 ((cs10[33]?).bind AV.asBool).bind fun b44 =>
 ((cs10[34]?).bind AV.asBool).bind fun b45 =>
 ((cs10[35]?).bind AV.asBool).bind fun b46 =>
 ((cs10[36]?).bind (AV.asInt .i64)).bind fun n47 =>
 ((cs10[37]?).bind AV.asBool).bind fun b48 =>
 ((cs10[38]?).bind AV.asBool).bind fun b49 =>
 ((cs10[39]?).bind AV.asBool).bind fun b50 =>
 ((cs10[40]?).bind (AV.asInt .i64)).bind fun n51 =>
 ((cs10[41]?).bind AV.asBool).bind fun b52 =>
 ((cs10[42]?).bind AV.asBool).bind fun b53 =>
 ((cs10[43]?).bind AV.asBool).bind fun b54 =>
 ((cs10[44]?).bind (AV.asInt .i64)).bind fun n55 =>
 ((cs10[45]?).bind AV.asBool).bind fun b56 =>
 ((cs10[46]?).bind AV.asBool).bind fun b57 =>
 ((cs10[47]?).bind AV.asBool).bind fun b58 =>
 newK q9.2 (.cells [.int .i64 0, .bool false, .bool false, .bool false, .int .i64 0, .bool false, .bool false, .bool false, .int .i64 0, .bool false, .bool false, .bool false, .int .i64 0, .bool false, .bool false, .bool false, .int .i64 0, .bool false, .bool false, .bool false, .int .i64 0, .bool false, .bool false, .bool false, .int .i64 0, .bool false, .bool false, .bool false, .int .i64 0, .bool false, .bool false, .bool false, .int .i64 0, .bool false, .bool false, .bool false, .int .i64 0, .bool false, .bool false, .bool false, .int .i64 0, .bool false, .bool false, .bool false, .int .i64 0, .bool false, .bool false, .bool false] T.kko) fun h59r h59 =>
 (h59.puts h59r [.int .i64 n11, .bool b12, .bool b13, .bool b14, .int .i64 n15, .bool b16, .bool b17, .bool b18, .int .i64 n19, .bool b20, .bool b21, .bool b22, .int .i64 n23, .bool b24, .bool b25, .bool b26, .int .i64 n27, .bool b28, .bool b29, .bool b30, .int .i64 n31, .bool b32, .bool b33, .bool b34, .int .i64 n35, .bool b36, .bool b37, .bool b38, .int .i64 n39, .bool b40, .bool b41, .bool b42, .int .i64 n43, .bool b44, .bool b45, .bool b46, .int .i64 n47, .bool b48, .bool b49, .bool b50, .int .i64 n51, .bool b52, .bool b53, .bool b54, .int .i64 n55, .bool b56, .bool b57, .bool b58]).bind fun h60 =>
 ((h60.cell (h8r.add 0)).bind (AV.asInt .i64)).bind fun n61 =>
 cond (decide (n61 < 1)) (
 some (.bool false, h60)) (
 ((h60.cell (h8r.add 0)).bind (AV.asInt .i64)).bind fun n62 =>
 cond (decide (n62 ≥ 12)) (
 some (.bool false, h60)) (
 ((h60.cell (h8r.add 1)).bind (AV.asInt .i64)).bind fun n63 =>
 (go (.fn F.kr [.int .i64 n63]) h60).bind fun q64 =>
 ((some q64.1).bind AV.asBool).bind fun b65 =>
 cond b65 (
 some (.bool false, q64.2)) (
 ((q64.2.cell (h8r.add 2)).bind (AV.asInt .i64)).bind fun n66 =>
 (go (.fn F.kr [.int .i64 n66]) q64.2).bind fun q67 =>
 ((some q67.1).bind AV.asBool).bind fun b68 =>
 cond b68 (
 some (.bool false, q67.2)) (
 ((q67.2.cell (h8r.add 3)).bind (AV.asInt .i64)).bind fun n69 =>
 (go (.fn F.kr [.int .i64 n69]) q67.2).bind fun q70 =>
 ((some q70.1).bind AV.asBool).bind fun b71 =>
 cond b71 (
 some (.bool false, q70.2)) (
 ((q70.2.cell (h8r.add 0)).bind (AV.asInt .i64)).bind fun n72 =>
 (idx (some h59r) 12 n72 4).bind fun r73 =>
 ((q70.2.cell (r73.add 0)).bind (AV.asInt .i64)).bind fun n74 =>
 ((q70.2.cell (r73.add 1)).bind AV.asBool).bind fun b75 =>
 ((q70.2.cell (r73.add 2)).bind AV.asBool).bind fun b76 =>
 ((q70.2.cell (r73.add 3)).bind AV.asBool).bind fun b77 =>
 newK q70.2 (.cells [.int .i64 0, .bool false, .bool false, .bool false] T.kgh) fun h78r h78 =>
 (h78.puts h78r [.int .i64 n74, .bool b75, .bool b76, .bool b77]).bind fun h79 =>
 ((h79.cell (h8r.add 1)).bind (AV.asInt .i64)).bind fun n80 =>
 ((h79.cell (h8r.add 2)).bind (AV.asInt .i64)).bind fun n81 =>
 ((h79.cell (h8r.add 3)).bind (AV.asInt .i64)).bind fun n82 =>
 newK h79 (.cells [.int .i64 n80, .int .i64 n81, .int .i64 n82] T.int) fun h83r h83 =>
 go (.pt F.kz Td.kb5 [(1, .ptr (some h8r)), (4, .ptr (some h78r)), (43, (⟨some h83r, 3, .is 3⟩ : Sl).v), (44, .int .i64 3), (45, .int .i64 0)]) h83)))))) none := (kc _ h).trans (by kernel_rfl)
theorem kog (a1 : Bool) (a2 : Int) (a3 : Int) (a4 : Int) (a5 : Int) (a6 : Int) (a7 : Int) (a8 : Bool) (h : AH) : go (.fn F.kdm [.agg [.bool a1, .int .i64 a2, .int .i64 a3, .int .i64 a4, .int .i64 a5, .int .i64 a6, .int .i64 a7], .bool a8]) h =
 newK h (.cells [.bool a1, .int .i64 a2, .int .i64 a3, .int .i64 a4, .int .i64 a5, .int .i64 a6, .int .i64 a7] T.ko) fun h9r h9 =>
 cond a8 (
 ((h9.cell (h9r.add 5)).bind (AV.asInt .i64)).bind fun n10 =>
 some (.int .i64 n10, h9)) (
 ((h9.cell (h9r.add 6)).bind (AV.asInt .i64)).bind fun n11 =>
 some (.int .i64 n11, h9)) := (kc _ h).trans (by kernel_rfl)
theorem kon (a1 : Int) (a2 : Int) (a3 : Int) (a4 : Int) (a5 : Sl) (a6 : Sl) (a7 : Sl) (h : AH) : go (.fn F.ke [.agg [.int .i64 a1, .int .i64 a2, .int .i64 a3, .int .i64 a4, a5.v, a6.v, a7.v]]) h =
 newK h (.cells [.int .i64 a1, .int .i64 a2, .int .i64 a3, .int .i64 a4, a5.v, a6.v, a7.v] T.kw) fun h8r h8 =>
 ((h8.cell (h8r.add 0)).bind (AV.asInt .i64)).bind fun n9 =>
 cond (decide (n9 < 1)) (
 some (.bool false, h8)) (
 ((h8.cell (h8r.add 0)).bind (AV.asInt .i64)).bind fun n10 =>
 cond (decide (n10 > 11)) (
 some (.bool false, h8)) (
 ((h8.cell (h8r.add 1)).bind (AV.asInt .i64)).bind fun n11 =>
 cond (decide (n11 < 0)) (
 some (.bool false, h8)) (
 ((h8.cell (h8r.add 1)).bind (AV.asInt .i64)).bind fun n12 =>
 cond (decide (n12 > 1073741824)) (
 some (.bool false, h8)) (
 ((h8.cell (h8r.add 2)).bind (AV.asInt .i64)).bind fun n13 =>
 cond (decide (n13 < 0)) (
 some (.bool false, h8)) (
 ((h8.cell (h8r.add 2)).bind (AV.asInt .i64)).bind fun n14 =>
 cond (decide (n14 > 1073741824)) (
 some (.bool false, h8)) (
 ((h8.cell (h8r.add 3)).bind (AV.asInt .i64)).bind fun n15 =>
 cond (decide (n15 < 0)) (
 some (.bool false, h8)) (
 ((h8.cell (h8r.add 3)).bind (AV.asInt .i64)).bind fun n16 =>
 cond (decide (n16 > 1073741824)) (
 some (.bool false, h8)) (
 ((h8.cell (h8r.add 0)).bind (AV.asInt .i64)).bind fun n17 =>
 (go (.fn F.kc5 [.int .i64 n17]) h8).bind fun q18 =>
 ((some q18.1).bind (AV.asInt .i64)).bind fun n19 =>
 cond (decide (n19 < 2)) (
 ((q18.2.cell (h8r.add 2)).bind (AV.asInt .i64)).bind fun n20 =>
 cond (!decide (n20 = 0)) (
 some (.bool false, q18.2)) (
 cond (decide (n19 < 3)) (
 ((q18.2.cell (h8r.add 3)).bind (AV.asInt .i64)).bind fun n21 =>
 cond (!decide (n21 = 0)) (
 some (.bool false, q18.2)) (
 ((q18.2.cell (h8r.add 0)).bind (AV.asInt .i64)).bind fun n22 =>
 cond (decide (n22 = 9)) (
 ((q18.2.cell (h8r.add 3)).bind (AV.asInt .i64)).bind fun n23 =>
 cond (decide (n23 > 1)) (
 some (.bool false, q18.2)) (
 go (.pt F.ke Td.kby [(1, .ptr (some h8r))]) q18.2)) (
 go (.pt F.ke Td.kby [(1, .ptr (some h8r))]) q18.2))) (
 ((q18.2.cell (h8r.add 0)).bind (AV.asInt .i64)).bind fun n24 =>
 cond (decide (n24 = 9)) (
 ((q18.2.cell (h8r.add 3)).bind (AV.asInt .i64)).bind fun n25 =>
 cond (decide (n25 > 1)) (
 some (.bool false, q18.2)) (
 go (.pt F.ke Td.kby [(1, .ptr (some h8r))]) q18.2)) (
 go (.pt F.ke Td.kby [(1, .ptr (some h8r))]) q18.2)))) (
 cond (decide (n19 < 3)) (
 ((q18.2.cell (h8r.add 3)).bind (AV.asInt .i64)).bind fun n26 =>
 cond (!decide (n26 = 0)) (
 some (.bool false, q18.2)) (
 ((q18.2.cell (h8r.add 0)).bind (AV.asInt .i64)).bind fun n27 =>
 cond (decide (n27 = 9)) (
 ((q18.2.cell (h8r.add 3)).bind (AV.asInt .i64)).bind fun n28 =>
 cond (decide (n28 > 1)) (
 some (.bool false, q18.2)) (
 go (.pt F.ke Td.kby [(1, .ptr (some h8r))]) q18.2)) (
 go (.pt F.ke Td.kby [(1, .ptr (some h8r))]) q18.2))) (
 ((q18.2.cell (h8r.add 0)).bind (AV.asInt .i64)).bind fun n29 =>
 cond (decide (n29 = 9)) (
 ((q18.2.cell (h8r.add 3)).bind (AV.asInt .i64)).bind fun n30 =>
 cond (decide (n30 > 1)) (
 some (.bool false, q18.2)) (
 go (.pt F.ke Td.kby [(1, .ptr (some h8r))]) q18.2)) (
 go (.pt F.ke Td.kby [(1, .ptr (some h8r))]) q18.2))))))))))) := (kc _ h).trans (by kernel_rfl)
theorem km1 (a1 : Bool) (a2 : Int) (a3 : Int) (a4 : Int) (a5 : Int) (a6 : Int) (a7 : Int) (a8 : Int) (a9 : Int) (h : AH) : go (.fn F.kem [.agg [.bool a1, .int .i64 a2, .int .i64 a3, .int .i64 a4, .int .i64 a5, .int .i64 a6, .int .i64 a7], .int .i64 a8, .int .i64 a9]) h =
 newK h (.cells [.bool a1, .int .i64 a2, .int .i64 a3, .int .i64 a4, .int .i64 a5, .int .i64 a6, .int .i64 a7] T.ko) fun h10r h10 =>
 newK h10 (.cells [.int .i64 a8] T.int) fun h11r h11 =>
 newK h11 (.cells [.int .i64 a9] T.int) fun h12r h12 =>
 newK h12 (.cells [.nilFunc] T.kk6) fun h13r h13 =>
 (h13.puts h13r [.func (.func F.kck) [] []]).bind fun h14 =>
 ((h14.cell (h10r.add 0)).bind AV.asBool).bind fun b15 =>
 cond b15 (
 (h14.cell h13r).bind fun v16 =>
 ((h14.cell (h10r.add 1)).bind (AV.asInt .i64)).bind fun n17 =>
 yieldK v16 [.int .i64 n17, .int .i64 (-1099511627776), .int .i64 1099511627776] (fun y19 =>
 (go (.round y19.1 y19.2) h14).bind fun q18 =>
 ((some q18.1).bind AV.asBool).bind fun b21 =>
 cond b21 (
 ((q18.2.cell (h10r.add 0)).bind AV.asBool).bind fun b22 =>
 ((q18.2.cell (h10r.add 1)).bind (AV.asInt .i64)).bind fun n23 =>
 ((q18.2.cell (h10r.add 2)).bind (AV.asInt .i64)).bind fun n24 =>
 ((q18.2.cell (h10r.add 3)).bind (AV.asInt .i64)).bind fun n25 =>
 ((q18.2.cell (h10r.add 4)).bind (AV.asInt .i64)).bind fun n26 =>
 ((q18.2.cell (h10r.add 5)).bind (AV.asInt .i64)).bind fun n27 =>
 ((q18.2.cell (h10r.add 6)).bind (AV.asInt .i64)).bind fun n28 =>
 ((q18.2.cell (h10r.add 1)).bind (AV.asInt .i64)).bind fun n29 =>
 some (.bool ((b22 == true) && ((decide (n23 = n29)) && ((decide (n24 = 0)) && ((decide (n25 = 0)) && ((decide (n26 = 0)) && ((decide (n27 = 0)) && ((decide (n28 = 0)) && true))))))), q18.2)) (
 some (.bool false, q18.2))) (
 (callV Pg go v16 [.int .i64 n17, .int .i64 (-1099511627776), .int .i64 1099511627776] h14).bind fun q20 =>
 ((some q20.1).bind AV.asBool).bind fun b30 =>
 cond b30 (
 ((q20.2.cell (h10r.add 0)).bind AV.asBool).bind fun b31 =>
 ((q20.2.cell (h10r.add 1)).bind (AV.asInt .i64)).bind fun n32 =>
 ((q20.2.cell (h10r.add 2)).bind (AV.asInt .i64)).bind fun n33 =>
 ((q20.2.cell (h10r.add 3)).bind (AV.asInt .i64)).bind fun n34 =>
 ((q20.2.cell (h10r.add 4)).bind (AV.asInt .i64)).bind fun n35 =>
 ((q20.2.cell (h10r.add 5)).bind (AV.asInt .i64)).bind fun n36 =>
 ((q20.2.cell (h10r.add 6)).bind (AV.asInt .i64)).bind fun n37 =>
 ((q20.2.cell (h10r.add 1)).bind (AV.asInt .i64)).bind fun n38 =>
 some (.bool ((b31 == true) && ((decide (n32 = n38)) && ((decide (n33 = 0)) && ((decide (n34 = 0)) && ((decide (n35 = 0)) && ((decide (n36 = 0)) && ((decide (n37 = 0)) && true))))))), q20.2)) (
 some (.bool false, q20.2)))) (
 ((h14.cell (h10r.add 1)).bind (AV.asInt .i64)).bind fun n39 =>
 cond (decide (n39 = 0)) (
 (h14.cell h13r).bind fun v40 =>
 ((h14.cell (h10r.add 2)).bind (AV.asInt .i64)).bind fun n41 =>
 yieldK v40 [.int .i64 n41, .int .i64 0, .int .i64 15] (fun y43 =>
 (go (.round y43.1 y43.2) h14).bind fun q42 =>
 ((some q42.1).bind AV.asBool).bind fun b45 =>
 cond b45 (
 (q42.2.cell h13r).bind fun v46 =>
 ((q42.2.cell (h10r.add 3)).bind (AV.asInt .i64)).bind fun n47 =>
 yieldK v46 [.int .i64 n47, .int .i64 0, .int .i64 1073741824] (fun y49 =>
 (go (.round y49.1 y49.2) q42.2).bind fun q48 =>
 ((some q48.1).bind AV.asBool).bind fun b51 =>
 cond b51 (
 (q48.2.cell h13r).bind fun v52 =>
 ((q48.2.cell (h10r.add 4)).bind (AV.asInt .i64)).bind fun n53 =>
 yieldK v52 [.int .i64 n53, .int .i64 0, .int .i64 31] (fun y55 =>
 (go (.round y55.1 y55.2) q48.2).bind fun q54 =>
 ((some q54.1).bind AV.asBool).bind fun b57 =>
 cond b57 (
 ((q54.2.cell (h10r.add 5)).bind (AV.asInt .i64)).bind fun n58 =>
 (go (.fn F.ku [.int .i64 n58, .ptr (some h13r), .ptr (some h11r), .ptr (some h12r)]) q54.2).bind fun q59 =>
 ((some q59.1).bind AV.asBool).bind fun b60 =>
 cond b60 (
 ((q59.2.cell (h10r.add 6)).bind (AV.asInt .i64)).bind fun n61 =>
 (go (.fn F.ku [.int .i64 n61, .ptr (some h13r), .ptr (some h11r), .ptr (some h12r)]) q59.2).bind fun q62 =>
 ((some q62.1).bind AV.asBool).bind fun b63 =>
 cond b63 (
 ((q62.2.cell (h10r.add 5)).bind (AV.asInt .i64)).bind fun n64 =>
 ((q62.2.cell (h10r.add 6)).bind (AV.asInt .i64)).bind fun n65 =>
 some (.bool (!decide (n64 = n65)), q62.2)) (
 some (.bool false, q62.2))) (
 some (.bool false, q59.2))) (
 some (.bool false, q54.2))) (
 (callV Pg go v52 [.int .i64 n53, .int .i64 0, .int .i64 31] q48.2).bind fun q56 =>
 ((some q56.1).bind AV.asBool).bind fun b66 =>
 cond b66 (
 ((q56.2.cell (h10r.add 5)).bind (AV.asInt .i64)).bind fun n67 =>
 (go (.fn F.ku [.int .i64 n67, .ptr (some h13r), .ptr (some h11r), .ptr (some h12r)]) q56.2).bind fun q68 =>
 ((some q68.1).bind AV.asBool).bind fun b69 =>
 cond b69 (
 ((q68.2.cell (h10r.add 6)).bind (AV.asInt .i64)).bind fun n70 =>
 (go (.fn F.ku [.int .i64 n70, .ptr (some h13r), .ptr (some h11r), .ptr (some h12r)]) q68.2).bind fun q71 =>
 ((some q71.1).bind AV.asBool).bind fun b72 =>
 cond b72 (
 ((q71.2.cell (h10r.add 5)).bind (AV.asInt .i64)).bind fun n73 =>
 ((q71.2.cell (h10r.add 6)).bind (AV.asInt .i64)).bind fun n74 =>
 some (.bool (!decide (n73 = n74)), q71.2)) (
 some (.bool false, q71.2))) (
 some (.bool false, q68.2))) (
 some (.bool false, q56.2)))) (
 some (.bool false, q48.2))) (
 (callV Pg go v46 [.int .i64 n47, .int .i64 0, .int .i64 1073741824] q42.2).bind fun q50 =>
 ((some q50.1).bind AV.asBool).bind fun b75 =>
 cond b75 (
 (q50.2.cell h13r).bind fun v76 =>
 ((q50.2.cell (h10r.add 4)).bind (AV.asInt .i64)).bind fun n77 =>
 yieldK v76 [.int .i64 n77, .int .i64 0, .int .i64 31] (fun y79 =>
 (go (.round y79.1 y79.2) q50.2).bind fun q78 =>
 ((some q78.1).bind AV.asBool).bind fun b81 =>
 cond b81 (
 ((q78.2.cell (h10r.add 5)).bind (AV.asInt .i64)).bind fun n82 =>
 (go (.fn F.ku [.int .i64 n82, .ptr (some h13r), .ptr (some h11r), .ptr (some h12r)]) q78.2).bind fun q83 =>
 ((some q83.1).bind AV.asBool).bind fun b84 =>
 cond b84 (
 ((q83.2.cell (h10r.add 6)).bind (AV.asInt .i64)).bind fun n85 =>
 (go (.fn F.ku [.int .i64 n85, .ptr (some h13r), .ptr (some h11r), .ptr (some h12r)]) q83.2).bind fun q86 =>
 ((some q86.1).bind AV.asBool).bind fun b87 =>
 cond b87 (
 ((q86.2.cell (h10r.add 5)).bind (AV.asInt .i64)).bind fun n88 =>
 ((q86.2.cell (h10r.add 6)).bind (AV.asInt .i64)).bind fun n89 =>
 some (.bool (!decide (n88 = n89)), q86.2)) (
 some (.bool false, q86.2))) (
 some (.bool false, q83.2))) (
 some (.bool false, q78.2))) (
 (callV Pg go v76 [.int .i64 n77, .int .i64 0, .int .i64 31] q50.2).bind fun q80 =>
 ((some q80.1).bind AV.asBool).bind fun b90 =>
 cond b90 (
 ((q80.2.cell (h10r.add 5)).bind (AV.asInt .i64)).bind fun n91 =>
 (go (.fn F.ku [.int .i64 n91, .ptr (some h13r), .ptr (some h11r), .ptr (some h12r)]) q80.2).bind fun q92 =>
 ((some q92.1).bind AV.asBool).bind fun b93 =>
 cond b93 (
 ((q92.2.cell (h10r.add 6)).bind (AV.asInt .i64)).bind fun n94 =>
 (go (.fn F.ku [.int .i64 n94, .ptr (some h13r), .ptr (some h11r), .ptr (some h12r)]) q92.2).bind fun q95 =>
 ((some q95.1).bind AV.asBool).bind fun b96 =>
 cond b96 (
 ((q95.2.cell (h10r.add 5)).bind (AV.asInt .i64)).bind fun n97 =>
 ((q95.2.cell (h10r.add 6)).bind (AV.asInt .i64)).bind fun n98 =>
 some (.bool (!decide (n97 = n98)), q95.2)) (
 some (.bool false, q95.2))) (
 some (.bool false, q92.2))) (
 some (.bool false, q80.2)))) (
 some (.bool false, q50.2)))) (
 some (.bool false, q42.2))) (
 (callV Pg go v40 [.int .i64 n41, .int .i64 0, .int .i64 15] h14).bind fun q44 =>
 ((some q44.1).bind AV.asBool).bind fun b99 =>
 cond b99 (
 (q44.2.cell h13r).bind fun v100 =>
 ((q44.2.cell (h10r.add 3)).bind (AV.asInt .i64)).bind fun n101 =>
 yieldK v100 [.int .i64 n101, .int .i64 0, .int .i64 1073741824] (fun y103 =>
 (go (.round y103.1 y103.2) q44.2).bind fun q102 =>
 ((some q102.1).bind AV.asBool).bind fun b105 =>
 cond b105 (
 (q102.2.cell h13r).bind fun v106 =>
 ((q102.2.cell (h10r.add 4)).bind (AV.asInt .i64)).bind fun n107 =>
 yieldK v106 [.int .i64 n107, .int .i64 0, .int .i64 31] (fun y109 =>
 (go (.round y109.1 y109.2) q102.2).bind fun q108 =>
 ((some q108.1).bind AV.asBool).bind fun b111 =>
 cond b111 (
 ((q108.2.cell (h10r.add 5)).bind (AV.asInt .i64)).bind fun n112 =>
 (go (.fn F.ku [.int .i64 n112, .ptr (some h13r), .ptr (some h11r), .ptr (some h12r)]) q108.2).bind fun q113 =>
 ((some q113.1).bind AV.asBool).bind fun b114 =>
 cond b114 (
 ((q113.2.cell (h10r.add 6)).bind (AV.asInt .i64)).bind fun n115 =>
 (go (.fn F.ku [.int .i64 n115, .ptr (some h13r), .ptr (some h11r), .ptr (some h12r)]) q113.2).bind fun q116 =>
 ((some q116.1).bind AV.asBool).bind fun b117 =>
 cond b117 (
 ((q116.2.cell (h10r.add 5)).bind (AV.asInt .i64)).bind fun n118 =>
 ((q116.2.cell (h10r.add 6)).bind (AV.asInt .i64)).bind fun n119 =>
 some (.bool (!decide (n118 = n119)), q116.2)) (
 some (.bool false, q116.2))) (
 some (.bool false, q113.2))) (
 some (.bool false, q108.2))) (
 (callV Pg go v106 [.int .i64 n107, .int .i64 0, .int .i64 31] q102.2).bind fun q110 =>
 ((some q110.1).bind AV.asBool).bind fun b120 =>
 cond b120 (
 ((q110.2.cell (h10r.add 5)).bind (AV.asInt .i64)).bind fun n121 =>
 (go (.fn F.ku [.int .i64 n121, .ptr (some h13r), .ptr (some h11r), .ptr (some h12r)]) q110.2).bind fun q122 =>
 ((some q122.1).bind AV.asBool).bind fun b123 =>
 cond b123 (
 ((q122.2.cell (h10r.add 6)).bind (AV.asInt .i64)).bind fun n124 =>
 (go (.fn F.ku [.int .i64 n124, .ptr (some h13r), .ptr (some h11r), .ptr (some h12r)]) q122.2).bind fun q125 =>
 ((some q125.1).bind AV.asBool).bind fun b126 =>
 cond b126 (
 ((q125.2.cell (h10r.add 5)).bind (AV.asInt .i64)).bind fun n127 =>
 ((q125.2.cell (h10r.add 6)).bind (AV.asInt .i64)).bind fun n128 =>
 some (.bool (!decide (n127 = n128)), q125.2)) (
 some (.bool false, q125.2))) (
 some (.bool false, q122.2))) (
 some (.bool false, q110.2)))) (
 some (.bool false, q102.2))) (
 (callV Pg go v100 [.int .i64 n101, .int .i64 0, .int .i64 1073741824] q44.2).bind fun q104 =>
 ((some q104.1).bind AV.asBool).bind fun b129 =>
 cond b129 (
 (q104.2.cell h13r).bind fun v130 =>
 ((q104.2.cell (h10r.add 4)).bind (AV.asInt .i64)).bind fun n131 =>
 yieldK v130 [.int .i64 n131, .int .i64 0, .int .i64 31] (fun y133 =>
 (go (.round y133.1 y133.2) q104.2).bind fun q132 =>
 ((some q132.1).bind AV.asBool).bind fun b135 =>
 cond b135 (
 ((q132.2.cell (h10r.add 5)).bind (AV.asInt .i64)).bind fun n136 =>
 (go (.fn F.ku [.int .i64 n136, .ptr (some h13r), .ptr (some h11r), .ptr (some h12r)]) q132.2).bind fun q137 =>
 ((some q137.1).bind AV.asBool).bind fun b138 =>
 cond b138 (
 ((q137.2.cell (h10r.add 6)).bind (AV.asInt .i64)).bind fun n139 =>
 (go (.fn F.ku [.int .i64 n139, .ptr (some h13r), .ptr (some h11r), .ptr (some h12r)]) q137.2).bind fun q140 =>
 ((some q140.1).bind AV.asBool).bind fun b141 =>
 cond b141 (
 ((q140.2.cell (h10r.add 5)).bind (AV.asInt .i64)).bind fun n142 =>
 ((q140.2.cell (h10r.add 6)).bind (AV.asInt .i64)).bind fun n143 =>
 some (.bool (!decide (n142 = n143)), q140.2)) (
 some (.bool false, q140.2))) (
 some (.bool false, q137.2))) (
 some (.bool false, q132.2))) (
 (callV Pg go v130 [.int .i64 n131, .int .i64 0, .int .i64 31] q104.2).bind fun q134 =>
 ((some q134.1).bind AV.asBool).bind fun b144 =>
 cond b144 (
 ((q134.2.cell (h10r.add 5)).bind (AV.asInt .i64)).bind fun n145 =>
 (go (.fn F.ku [.int .i64 n145, .ptr (some h13r), .ptr (some h11r), .ptr (some h12r)]) q134.2).bind fun q146 =>
 ((some q146.1).bind AV.asBool).bind fun b147 =>
 cond b147 (
 ((q146.2.cell (h10r.add 6)).bind (AV.asInt .i64)).bind fun n148 =>
 (go (.fn F.ku [.int .i64 n148, .ptr (some h13r), .ptr (some h11r), .ptr (some h12r)]) q146.2).bind fun q149 =>
 ((some q149.1).bind AV.asBool).bind fun b150 =>
 cond b150 (
 ((q149.2.cell (h10r.add 5)).bind (AV.asInt .i64)).bind fun n151 =>
 ((q149.2.cell (h10r.add 6)).bind (AV.asInt .i64)).bind fun n152 =>
 some (.bool (!decide (n151 = n152)), q149.2)) (
 some (.bool false, q149.2))) (
 some (.bool false, q146.2))) (
 some (.bool false, q134.2)))) (
 some (.bool false, q104.2)))) (
 some (.bool false, q44.2)))) (
 some (.bool false, h14))) := (kc _ h).trans (by kernel_rfl)
theorem kok (a1 : Sl) (h : AH) : go (.fn F.kv [a1.v, .func (.func F.kbm) [] []]) h =
 go (.pt F.kv Td.kbp [(0, a1.v), (1, .func (.func F.kbm) [] []), (7, .int .i64 (a1.len : Int)), (8, .int .i64 0)]) h := (kc _ h).trans (by kernel_rfl)
theorem kj9 (a1 : Nat) (a2 : Sl) (a3 : Int) (a4 : Int) (h : AH) : go (.pt F.kcu Td.kev [(3, .map (some a1)), (7, a2.v), (8, .int .i64 a3), (9, .int .i64 a4)]) h =
 cond (decide (a4 < a3)) (
 (idx a2.ref a2.len a4 1).bind fun r5 =>
 ((h.cell r5).bind (AV.asInt .i64)).bind fun n6 =>
 (mapPut h a1 .i64 n6 (.int .i64 a4)).bind fun h7 =>
 go (.pt F.kcu Td.kev [(3, .map (some a1)), (7, a2.v), (8, .int .i64 a3), (9, .int .i64 (IntKind.wrap .i64 (a4 + 1)))]) h7) (
 some (.map (some a1), h)) := (kc _ h).trans (by kernel_rfl)
theorem kp8 (a1 : Sl) (a2 : Option Ref) (h : AH) : go (.fn F.kv [a1.v, .func (.func F.kbt) [] [.ptr a2]]) h =
 go (.pt F.kv Td.kbp [(0, a1.v), (1, .func (.func F.kbt) [] [.ptr a2]), (7, .int .i64 (a1.len : Int)), (8, .int .i64 0)]) h := (kc _ h).trans (by kernel_rfl)
theorem khw (a1 : Sl) (a2 : Option Ref) (a3 : Option Ref) (a4 : Int) (a5 : Int) (h : AH) : go (.pt F.kdc Td.kfx [(0, a1.v), (1, .func (.func F.ky) [] [.ptr a2, .ptr a3]), (7, .int .i64 a4), (8, .int .i64 a5)]) h =
 cond (decide (a5 < a4)) (
 (idx a1.ref a1.len a5 7).bind fun r6 =>
 ((h.cell (r6.add 0)).bind AV.asBool).bind fun b7 =>
 ((h.cell (r6.add 1)).bind (AV.asInt .i64)).bind fun n8 =>
 ((h.cell (r6.add 2)).bind (AV.asInt .i64)).bind fun n9 =>
 ((h.cell (r6.add 3)).bind (AV.asInt .i64)).bind fun n10 =>
 ((h.cell (r6.add 4)).bind (AV.asInt .i64)).bind fun n11 =>
 ((h.cell (r6.add 5)).bind (AV.asInt .i64)).bind fun n12 =>
 ((h.cell (r6.add 6)).bind (AV.asInt .i64)).bind fun n13 =>
 (go (.fn F.ky [.agg [.bool b7, .int .i64 n8, .int .i64 n9, .int .i64 n10, .int .i64 n11, .int .i64 n12, .int .i64 n13], .ptr a2, .ptr a3]) h).bind fun q14 =>
 ((some q14.1).bind AV.asBool).bind fun b15 =>
 cond b15 (
 some (.int .i64 a5, q14.2)) (
 go (.pt F.kdc Td.kfx [(0, a1.v), (1, .func (.func F.ky) [] [.ptr a2, .ptr a3]), (7, .int .i64 a4), (8, .int .i64 (IntKind.wrap .i64 (a5 + 1)))]) q14.2)) (
 some (.int .i64 (-1), h)) := (kc _ h).trans (by kernel_rfl)
theorem klc (a1 : Bool) (a2 : Int) (a3 : Int) (a4 : Int) (a5 : Int) (a6 : Int) (a7 : Int) (a8 : Int) (a9 : Int) (h : AH) : go (.fn F.kes [.agg [.bool a1, .int .i64 a2, .int .i64 a3, .int .i64 a4, .int .i64 a5, .int .i64 a6, .int .i64 a7], .int .i64 a8, .int .i64 a9]) h =
 newK h (.cells [.bool a1, .int .i64 a2, .int .i64 a3, .int .i64 a4, .int .i64 a5, .int .i64 a6, .int .i64 a7] T.ko) fun h10r h10 =>
 ((h10.cell (h10r.add 0)).bind AV.asBool).bind fun b11 =>
 cond b11 (
 ((h10.cell (h10r.add 1)).bind (AV.asInt .i64)).bind fun n12 =>
 cond (decide (n12 ≥ (-1099511627776))) (
 ((h10.cell (h10r.add 1)).bind (AV.asInt .i64)).bind fun n13 =>
 cond (decide (n13 ≤ 1099511627776)) (
 ((h10.cell (h10r.add 0)).bind AV.asBool).bind fun b14 =>
 ((h10.cell (h10r.add 1)).bind (AV.asInt .i64)).bind fun n15 =>
 ((h10.cell (h10r.add 2)).bind (AV.asInt .i64)).bind fun n16 =>
 ((h10.cell (h10r.add 3)).bind (AV.asInt .i64)).bind fun n17 =>
 ((h10.cell (h10r.add 4)).bind (AV.asInt .i64)).bind fun n18 =>
 ((h10.cell (h10r.add 5)).bind (AV.asInt .i64)).bind fun n19 =>
 ((h10.cell (h10r.add 6)).bind (AV.asInt .i64)).bind fun n20 =>
 ((h10.cell (h10r.add 1)).bind (AV.asInt .i64)).bind fun n21 =>
 some (.bool ((b14 == true) && ((decide (n15 = n21)) && ((decide (n16 = 0)) && ((decide (n17 = 0)) && ((decide (n18 = 0)) && ((decide (n19 = 0)) && ((decide (n20 = 0)) && true))))))), h10)) (
 some (.bool false, h10))) (
 some (.bool false, h10))) (
 ((h10.cell (h10r.add 1)).bind (AV.asInt .i64)).bind fun n22 =>
 cond (!decide (n22 = 0)) (
 some (.bool false, h10)) (
 ((h10.cell (h10r.add 2)).bind (AV.asInt .i64)).bind fun n23 =>
 cond (decide (n23 < 0)) (
 some (.bool false, h10)) (
 ((h10.cell (h10r.add 2)).bind (AV.asInt .i64)).bind fun n24 =>
 cond (decide (n24 > 15)) (
 some (.bool false, h10)) (
 ((h10.cell (h10r.add 3)).bind (AV.asInt .i64)).bind fun n25 =>
 cond (decide (n25 < 0)) (
 some (.bool false, h10)) (
 ((h10.cell (h10r.add 3)).bind (AV.asInt .i64)).bind fun n26 =>
 cond (decide (n26 > 1073741824)) (
 some (.bool false, h10)) (
 ((h10.cell (h10r.add 4)).bind (AV.asInt .i64)).bind fun n27 =>
 cond (decide (n27 < 0)) (
 some (.bool false, h10)) (
 ((h10.cell (h10r.add 4)).bind (AV.asInt .i64)).bind fun n28 =>
 cond (decide (n28 > 31)) (
 some (.bool false, h10)) (
 ((h10.cell (h10r.add 5)).bind (AV.asInt .i64)).bind fun n29 =>
 cond (decide (n29 > a8)) (
 ((h10.cell (h10r.add 5)).bind (AV.asInt .i64)).bind fun n30 =>
 cond (decide (n30 < a9)) (
 ((h10.cell (h10r.add 6)).bind (AV.asInt .i64)).bind fun n31 =>
 cond (decide (n31 > a8)) (
 ((h10.cell (h10r.add 6)).bind (AV.asInt .i64)).bind fun n32 =>
 cond (decide (n32 < a9)) (
 ((h10.cell (h10r.add 5)).bind (AV.asInt .i64)).bind fun n33 =>
 ((h10.cell (h10r.add 6)).bind (AV.asInt .i64)).bind fun n34 =>
 some (.bool (!decide (n33 = n34)), h10)) (
 some (.bool false, h10))) (
 some (.bool false, h10))) (
 some (.bool false, h10))) (
 some (.bool false, h10)))))))))) := (kc _ h).trans (by kernel_rfl)
theorem kpp (a1 : Sl) (a2 : Int) (h : AH) : go (.fn F.kcq [a1.v, .int .i64 a2]) h =
 go (.pt F.kcq Td.kfl [(0, a1.v), (1, .int .i64 a2), (5, .int .i64 0)]) h := (kc _ h).trans (by kernel_rfl)
theorem ko5  (h : AH) : go (.fn F.kha []) h =
 newK h (.cells [.int .i64 0, .bool false, .bool false, .bool false, .int .i64 0, .bool false, .bool false, .bool false, .int .i64 0, .bool false, .bool false, .bool false, .int .i64 0, .bool false, .bool false, .bool false, .int .i64 0, .bool false, .bool false, .bool false, .int .i64 0, .bool false, .bool false, .bool false, .int .i64 0, .bool false, .bool false, .bool false, .int .i64 0, .bool false, .bool false, .bool false, .int .i64 0, .bool false, .bool false, .bool false, .int .i64 0, .bool false, .bool false, .bool false, .int .i64 0, .bool false, .bool false, .bool false, .int .i64 0, .bool false, .bool false, .bool false] T.kko) fun h1r h1 =>
 (h1.puts h1r [.int .i64 0, .bool false, .bool false, .bool false, .int .i64 2, .bool false, .bool false, .bool true, .int .i64 2, .bool false, .bool false, .bool false, .int .i64 1, .bool false, .bool false, .bool true, .int .i64 2, .bool false, .bool true, .bool false, .int .i64 2, .bool true, .bool false, .bool true, .int .i64 2, .bool true, .bool false, .bool false, .int .i64 3, .bool false, .bool true, .bool false, .int .i64 2, .bool false, .bool false, .bool false, .int .i64 3, .bool false, .bool false, .bool false, .int .i64 1, .bool false, .bool false, .bool false, .int .i64 1, .bool false, .bool false, .bool false]).bind fun h2 =>
 ((h2.cell (h1r.add 0)).bind (AV.asInt .i64)).bind fun n3 =>
 ((h2.cell (h1r.add 1)).bind AV.asBool).bind fun b4 =>
 ((h2.cell (h1r.add 2)).bind AV.asBool).bind fun b5 =>
 ((h2.cell (h1r.add 3)).bind AV.asBool).bind fun b6 =>
 ((h2.cell (h1r.add 4)).bind (AV.asInt .i64)).bind fun n7 =>
 ((h2.cell (h1r.add 5)).bind AV.asBool).bind fun b8 =>
 ((h2.cell (h1r.add 6)).bind AV.asBool).bind fun b9 =>
 ((h2.cell (h1r.add 7)).bind AV.asBool).bind fun b10 =>
 ((h2.cell (h1r.add 8)).bind (AV.asInt .i64)).bind fun n11 =>
 ((h2.cell (h1r.add 9)).bind AV.asBool).bind fun b12 =>
 ((h2.cell (h1r.add 10)).bind AV.asBool).bind fun b13 =>
 ((h2.cell (h1r.add 11)).bind AV.asBool).bind fun b14 =>
 ((h2.cell (h1r.add 12)).bind (AV.asInt .i64)).bind fun n15 =>
 ((h2.cell (h1r.add 13)).bind AV.asBool).bind fun b16 =>
 ((h2.cell (h1r.add 14)).bind AV.asBool).bind fun b17 =>
 ((h2.cell (h1r.add 15)).bind AV.asBool).bind fun b18 =>
 ((h2.cell (h1r.add 16)).bind (AV.asInt .i64)).bind fun n19 =>
 ((h2.cell (h1r.add 17)).bind AV.asBool).bind fun b20 =>
 ((h2.cell (h1r.add 18)).bind AV.asBool).bind fun b21 =>
 ((h2.cell (h1r.add 19)).bind AV.asBool).bind fun b22 =>
 ((h2.cell (h1r.add 20)).bind (AV.asInt .i64)).bind fun n23 =>
 ((h2.cell (h1r.add 21)).bind AV.asBool).bind fun b24 =>
 ((h2.cell (h1r.add 22)).bind AV.asBool).bind fun b25 =>
 ((h2.cell (h1r.add 23)).bind AV.asBool).bind fun b26 =>
 ((h2.cell (h1r.add 24)).bind (AV.asInt .i64)).bind fun n27 =>
 ((h2.cell (h1r.add 25)).bind AV.asBool).bind fun b28 =>
 ((h2.cell (h1r.add 26)).bind AV.asBool).bind fun b29 =>
 ((h2.cell (h1r.add 27)).bind AV.asBool).bind fun b30 =>
 ((h2.cell (h1r.add 28)).bind (AV.asInt .i64)).bind fun n31 =>
 ((h2.cell (h1r.add 29)).bind AV.asBool).bind fun b32 =>
 ((h2.cell (h1r.add 30)).bind AV.asBool).bind fun b33 =>
 ((h2.cell (h1r.add 31)).bind AV.asBool).bind fun b34 =>
 ((h2.cell (h1r.add 32)).bind (AV.asInt .i64)).bind fun n35 =>
 ((h2.cell (h1r.add 33)).bind AV.asBool).bind fun b36 =>
 ((h2.cell (h1r.add 34)).bind AV.asBool).bind fun b37 =>
 ((h2.cell (h1r.add 35)).bind AV.asBool).bind fun b38 =>
 ((h2.cell (h1r.add 36)).bind (AV.asInt .i64)).bind fun n39 =>
 ((h2.cell (h1r.add 37)).bind AV.asBool).bind fun b40 =>
 ((h2.cell (h1r.add 38)).bind AV.asBool).bind fun b41 =>
 ((h2.cell (h1r.add 39)).bind AV.asBool).bind fun b42 =>
 ((h2.cell (h1r.add 40)).bind (AV.asInt .i64)).bind fun n43 =>
 ((h2.cell (h1r.add 41)).bind AV.asBool).bind fun b44 =>
 ((h2.cell (h1r.add 42)).bind AV.asBool).bind fun b45 =>
 ((h2.cell (h1r.add 43)).bind AV.asBool).bind fun b46 =>
 ((h2.cell (h1r.add 44)).bind (AV.asInt .i64)).bind fun n47 =>
 ((h2.cell (h1r.add 45)).bind AV.asBool).bind fun b48 =>
 ((h2.cell (h1r.add 46)).bind AV.asBool).bind fun b49 =>
 ((h2.cell (h1r.add 47)).bind AV.asBool).bind fun b50 =>
 some (.agg [.int .i64 n3, .bool b4, .bool b5, .bool b6, .int .i64 n7, .bool b8, .bool b9, .bool b10, .int .i64 n11, .bool b12, .bool b13, .bool b14, .int .i64 n15, .bool b16, .bool b17, .bool b18, .int .i64 n19, .bool b20, .bool b21, .bool b22, .int .i64 n23, .bool b24, .bool b25, .bool b26, .int .i64 n27, .bool b28, .bool b29, .bool b30, .int .i64 n31, .bool b32, .bool b33, .bool b34, .int .i64 n35, .bool b36, .bool b37, .bool b38, .int .i64 n39, .bool b40, .bool b41, .bool b42, .int .i64 n43, .bool b44, .bool b45, .bool b46, .int .i64 n47, .bool b48, .bool b49, .bool b50], h2) := (kc _ h).trans (by kernel_rfl)
theorem kq7 (a1 : Int) (h : AH) : go (.fn F.kr [.int .i64 a1]) h =
 cond (decide (a1 < 0)) (
 some (.bool true, h)) (
 some (.bool (decide (a1 > 1073741824)), h)) := (kc _ h).trans (by kernel_rfl)
theorem kfw (a1 : Ref) (a2 : Ref) (a3 : Sl) (a4 : Int) (a5 : Int) (h : AH) : go (.pt F.kz Td.kb5 [(1, .ptr (some a1)), (4, .ptr (some a2)), (43, a3.v), (44, .int .i64 a4), (45, .int .i64 a5)]) h =
 cond (decide (a5 < a4)) (
 (idx a3.ref a3.len a5 1).bind fun r6 =>
 ((h.cell r6).bind (AV.asInt .i64)).bind fun n7 =>
 ((h.cell (a2.add 0)).bind (AV.asInt .i64)).bind fun n8 =>
 cond (decide (a5 ≥ n8)) (
 cond (!decide (n7 = 0)) (
 some (.bool false, h)) (
 go (.pt F.kz Td.kb5 [(1, .ptr (some a1)), (4, .ptr (some a2)), (43, a3.v), (44, .int .i64 a4), (45, .int .i64 (IntKind.wrap .i64 (a5 + 1)))]) h)) (
 go (.pt F.kz Td.kb5 [(1, .ptr (some a1)), (4, .ptr (some a2)), (43, a3.v), (44, .int .i64 a4), (45, .int .i64 (IntKind.wrap .i64 (a5 + 1)))]) h)) (
 ((h.cell (a1.add 4)).bind AV.asSl).bind fun l9 =>
 ((h.cell (a2.add 1)).bind AV.asBool).bind fun b10 =>
 (go (.fn F.ked [l9.v, .bool b10, .func (.func F.kr) [] []]) h).bind fun q11 =>
 ((some q11.1).bind AV.asBool).bind fun b12 =>
 cond (!b12) (
 some (.bool false, q11.2)) (
 ((q11.2.cell (a1.add 5)).bind AV.asSl).bind fun l13 =>
 ((q11.2.cell (a2.add 2)).bind AV.asBool).bind fun b14 =>
 (go (.fn F.ked [l13.v, .bool b14, .func (.func F.kr) [] []]) q11.2).bind fun q15 =>
 ((some q15.1).bind AV.asBool).bind fun b16 =>
 cond (!b16) (
 some (.bool false, q15.2)) (
 ((q15.2.cell (a1.add 6)).bind AV.asSl).bind fun l17 =>
 ((q15.2.cell (a2.add 3)).bind AV.asBool).bind fun b18 =>
 (go (.fn F.kgb [l17.v, .bool b18, .func (.func F.kba) [] []]) q15.2).bind fun q19 =>
 ((some q19.1).bind AV.asBool).bind fun b20 =>
 cond (!b20) (
 some (.bool false, q19.2)) (
 ((q19.2.cell (a1.add 5)).bind AV.asSl).bind fun l21 =>
 go (.pt F.kz Td.kdp [(1, .ptr (some a1)), (84, .int .i64 (l21.len : Int)), (85, .int .i64 0)]) q19.2)))) := (kc _ h).trans (by kernel_rfl)
theorem kpc (a1 : Int) (h : AH) : go (.fn F.kc5 [.int .i64 a1]) h =
 cond (decide (a1 = 3)) (
 some (.int .i64 1, h)) (
 cond (decide (a1 = 10)) (
 some (.int .i64 1, h)) (
 cond (decide (a1 = 11)) (
 some (.int .i64 1, h)) (
 go (.pt F.kc5 Td.kgj [(3, .int .i64 a1)]) h))) := (kc _ h).trans (by kernel_rfl)
theorem krv (a1 : Ref) (h : AH) : go (.pt F.ke Td.kby [(1, .ptr (some a1))]) h =
 ((h.cell (a1.add 0)).bind (AV.asInt .i64)).bind fun n2 =>
 cond (decide (n2 = 5)) (
 go (.pt F.ke Td.kek [(1, .ptr (some a1)), (4, .bool true)]) h) (
 ((h.cell (a1.add 0)).bind (AV.asInt .i64)).bind fun n3 =>
 go (.pt F.ke Td.kek [(1, .ptr (some a1)), (4, .bool (decide (n3 = 6)))]) h) := (kc _ h).trans (by kernel_rfl)
theorem kll (a1 : Int) (a2 : Ref) (a3 : Ref) (a4 : Ref) (h : AH) : go (.fn F.ku [.int .i64 a1, .ptr (some a2), .ptr (some a3), .ptr (some a4)]) h =
 (h.cell a2).bind fun v5 =>
 ((h.cell a3).bind (AV.asInt .i64)).bind fun n6 =>
 ((h.cell a4).bind (AV.asInt .i64)).bind fun n7 =>
 yieldK v5 [.int .i64 a1, .int .i64 (IntKind.wrap .i64 (n6 + 1)), .int .i64 (IntKind.wrap .i64 (n7 - 1))] (fun y9 =>
 (go (.round y9.1 y9.2) h).bind fun q8 =>
 ((some q8.1).bind AV.asBool).bind fun b11 =>
 some (.bool b11, q8.2)) (
 (callV Pg go v5 [.int .i64 a1, .int .i64 (IntKind.wrap .i64 (n6 + 1)), .int .i64 (IntKind.wrap .i64 (n7 - 1))] h).bind fun q10 =>
 ((some q10.1).bind AV.asBool).bind fun b12 =>
 some (.bool b12, q10.2)) := (kc _ h).trans (by kernel_rfl)
theorem kh9 (a1 : Sl) (a2 : Int) (a3 : Int) (h : AH) : go (.pt F.kv Td.kbp [(0, a1.v), (1, .func (.func F.kbm) [] []), (7, .int .i64 a2), (8, .int .i64 a3)]) h =
 cond (decide (a3 < a2)) (
 (idx a1.ref a1.len a3 1).bind fun r4 =>
 ((h.cell r4).bind (AV.asInt .i64)).bind fun n5 =>
 (go (.fn F.kbm [.int .i64 n5]) h).bind fun q6 =>
 ((some q6.1).bind AV.asBool).bind fun b7 =>
 cond b7 (
 some (.int .i64 a3, q6.2)) (
 go (.pt F.kv Td.kbp [(0, a1.v), (1, .func (.func F.kbm) [] []), (7, .int .i64 a2), (8, .int .i64 (IntKind.wrap .i64 (a3 + 1)))]) q6.2)) (
 some (.int .i64 (-1), h)) := (kc _ h).trans (by kernel_rfl)
theorem kie (a1 : Sl) (a2 : Option Ref) (a3 : Int) (a4 : Int) (h : AH) : go (.pt F.kv Td.kbp [(0, a1.v), (1, .func (.func F.kbt) [] [.ptr a2]), (7, .int .i64 a3), (8, .int .i64 a4)]) h =
 cond (decide (a4 < a3)) (
 (idx a1.ref a1.len a4 1).bind fun r5 =>
 ((h.cell r5).bind (AV.asInt .i64)).bind fun n6 =>
 (go (.fn F.kbt [.int .i64 n6, .ptr a2]) h).bind fun q7 =>
 ((some q7.1).bind AV.asBool).bind fun b8 =>
 cond b8 (
 some (.int .i64 a4, q7.2)) (
 go (.pt F.kv Td.kbp [(0, a1.v), (1, .func (.func F.kbt) [] [.ptr a2]), (7, .int .i64 a3), (8, .int .i64 (IntKind.wrap .i64 (a4 + 1)))]) q7.2)) (
 some (.int .i64 (-1), h)) := (kc _ h).trans (by kernel_rfl)
theorem kox (a1 : Bool) (a2 : Int) (a3 : Int) (a4 : Int) (a5 : Int) (a6 : Int) (a7 : Int) (a8 : Option Ref) (a9 : Option Ref) (h : AH) : go (.fn F.ky [.agg [.bool a1, .int .i64 a2, .int .i64 a3, .int .i64 a4, .int .i64 a5, .int .i64 a6, .int .i64 a7], .ptr a8, .ptr a9]) h =
 newK h (.cells [.bool a1, .int .i64 a2, .int .i64 a3, .int .i64 a4, .int .i64 a5, .int .i64 a6, .int .i64 a7] T.ko) fun h10r h10 =>
 ((h10.cell (h10r.add 0)).bind AV.asBool).bind fun b11 =>
 cond (!b11) (
 ((h10.cell (h10r.add 2)).bind (AV.asInt .i64)).bind fun n12 =>
 a8.bind fun r13 =>
 ((h10.cell r13).bind (AV.asInt .i64)).bind fun n14 =>
 cond (decide (n12 ≥ n14)) (
 some (.bool true, h10)) (
 ((h10.cell (h10r.add 2)).bind (AV.asInt .i64)).bind fun n15 =>
 cond (decide (n15 = 0)) (
 ((h10.cell (h10r.add 3)).bind (AV.asInt .i64)).bind fun n16 =>
 a9.bind fun r17 =>
 ((h10.cell (r17.add 2)).bind AV.asSl).bind fun l18 =>
 some (.bool (decide (n16 ≥ (l18.len : Int))), h10)) (
 some (.bool false, h10)))) (
 some (.bool false, h10)) := (kc _ h).trans (by kernel_rfl)
theorem kiq (a1 : Sl) (a2 : Int) (a3 : Int) (h : AH) : go (.pt F.kcq Td.kfl [(0, a1.v), (1, .int .i64 a2), (5, .int .i64 a3)]) h =
 cond (decide (a3 < (a1.len : Int))) (
 (idx a1.ref a1.len a3 1).bind fun r4 =>
 ((h.cell r4).bind (AV.asInt .i64)).bind fun n5 =>
 cond (decide (n5 = a2)) (
 some (.int .i64 a3, h)) (
 go (.pt F.kcq Td.kfl [(0, a1.v), (1, .int .i64 a2), (5, .int .i64 (IntKind.wrap .i64 (a3 + 1)))]) h)) (
 some (.int .i64 (-1), h)) := (kc _ h).trans (by kernel_rfl)
theorem kr1 (a1 : Sl) (a2 : Bool) (h : AH) : go (.fn F.ked [a1.v, .bool a2, .func (.func F.kr) [] []]) h =
 cond (decide ((a1.len : Int) ≤ 16384)) (
 cond a2 (
 (go (.fn F.kbz [a1.v, .func (.func F.kr) [] []]) h).bind fun q3 =>
 ((some q3.1).bind AV.asBool).bind fun b4 =>
 some (.bool (!b4), q3.2)) (
 cond (decide ((a1.len : Int) = 0)) (
 (go (.fn F.kbz [a1.v, .func (.func F.kr) [] []]) h).bind fun q5 =>
 ((some q5.1).bind AV.asBool).bind fun b6 =>
 some (.bool (!b6), q5.2)) (
 some (.bool false, h)))) (
 some (.bool false, h)) := (kc _ h).trans (by kernel_rfl)
theorem knt (a1 : Sl) (a2 : Bool) (h : AH) : go (.fn F.kgb [a1.v, .bool a2, .func (.func F.kba) [] []]) h =
 cond (decide ((a1.len : Int) ≤ 16384)) (
 cond a2 (
 (go (.fn F.keu [a1.v, .func (.func F.kba) [] []]) h).bind fun q3 =>
 ((some q3.1).bind AV.asBool).bind fun b4 =>
 some (.bool (!b4), q3.2)) (
 cond (decide ((a1.len : Int) = 0)) (
 (go (.fn F.keu [a1.v, .func (.func F.kba) [] []]) h).bind fun q5 =>
 ((some q5.1).bind AV.asBool).bind fun b6 =>
 some (.bool (!b6), q5.2)) (
 some (.bool false, h)))) (
 some (.bool false, h)) := (kc _ h).trans (by kernel_rfl)
theorem kiy (a1 : Ref) (a2 : Int) (a3 : Int) (h : AH) : go (.pt F.kz Td.kdp [(1, .ptr (some a1)), (84, .int .i64 a2), (85, .int .i64 a3)]) h =
 cond (decide (a3 < a2)) (
 cond (decide (a3 > 0)) (
 ((h.cell (a1.add 5)).bind AV.asSl).bind fun l4 =>
 (idx l4.ref l4.len a3 1).bind fun r5 =>
 ((h.cell r5).bind (AV.asInt .i64)).bind fun n6 =>
 ((h.cell (a1.add 5)).bind AV.asSl).bind fun l7 =>
 (idx l7.ref l7.len (IntKind.wrap .i64 (a3 - 1)) 1).bind fun r8 =>
 ((h.cell r8).bind (AV.asInt .i64)).bind fun n9 =>
 cond (decide (n6 ≤ n9)) (
 some (.bool false, h)) (
 go (.pt F.kz Td.kdp [(1, .ptr (some a1)), (84, .int .i64 a2), (85, .int .i64 (IntKind.wrap .i64 (a3 + 1)))]) h)) (
 go (.pt F.kz Td.kdp [(1, .ptr (some a1)), (84, .int .i64 a2), (85, .int .i64 (IntKind.wrap .i64 (a3 + 1)))]) h)) (
 ((h.cell (a1.add 0)).bind (AV.asInt .i64)).bind fun n10 =>
 cond (decide (n10 = 1)) (
 ((h.cell (a1.add 6)).bind AV.asSl).bind fun l11 =>
 some (.bool (decide ((l11.len : Int) = 1)), h)) (
 cond (decide (n10 = 5)) (
 ((h.cell (a1.add 6)).bind AV.asSl).bind fun l12 =>
 ((h.cell (a1.add 4)).bind AV.asSl).bind fun l13 =>
 some (.bool (decide ((l12.len : Int) = (l13.len : Int))), h)) (
 cond (decide (n10 = 6)) (
 ((h.cell (a1.add 4)).bind AV.asSl).bind fun l14 =>
 some (.bool (decide ((l14.len : Int) > 0)), h)) (
 cond (decide (n10 = 9)) (
 ((h.cell (a1.add 3)).bind (AV.asInt .i64)).bind fun n15 =>
 some (.bool (decide (n15 ≤ 1)), h)) (
 some (.bool true, h)))))) := (kc _ h).trans (by kernel_rfl)
theorem km6 (a1 : Int) (h : AH) : go (.pt F.kc5 Td.kgj [(3, .int .i64 a1)]) h =
 cond (decide (a1 = 1)) (
 some (.int .i64 2, h)) (
 cond (decide (a1 = 2)) (
 some (.int .i64 2, h)) (
 cond (decide (a1 = 4)) (
 some (.int .i64 2, h)) (
 cond (decide (a1 = 5)) (
 some (.int .i64 2, h)) (
 cond (decide (a1 = 6)) (
 some (.int .i64 2, h)) (
 cond (decide (a1 = 8)) (
 some (.int .i64 2, h)) (
 cond (decide (a1 = 7)) (
 some (.int .i64 3, h)) (
 cond (decide (a1 = 9)) (
 some (.int .i64 3, h)) (
 some (.int .i64 0, h))))))))) := (kc _ h).trans (by kernel_rfl)
theorem kqr (a1 : Ref) (a2 : Bool) (h : AH) : go (.pt F.ke Td.kek [(1, .ptr (some a1)), (4, .bool a2)]) h =
 ((h.cell (a1.add 0)).bind (AV.asInt .i64)).bind fun n3 =>
 cond (decide (n3 = 4)) (
 go (.pt F.ke Td.ke8 [(1, .ptr (some a1)), (4, .bool a2), (5, .bool true)]) h) (
 ((h.cell (a1.add 0)).bind (AV.asInt .i64)).bind fun n4 =>
 go (.pt F.ke Td.ke8 [(1, .ptr (some a1)), (4, .bool a2), (5, .bool (decide (n4 = 7)))]) h) := (kc _ h).trans (by kernel_rfl)
theorem kla (a1 : Int) (h : AH) : go (.fn F.kbm [.int .i64 a1]) h =
 cond (decide (a1 < 0)) (
 some (.bool true, h)) (
 some (.bool (decide (a1 > 1073741824)), h)) := (kc _ h).trans (by kernel_rfl)
theorem kqg (a1 : Int) (a2 : Option Ref) (h : AH) : go (.fn F.kbt [.int .i64 a1, .ptr a2]) h =
 cond (decide (a1 < 0)) (
 some (.bool true, h)) (
 a2.bind fun r3 =>
 ((h.cell r3).bind (AV.asInt .i64)).bind fun n4 =>
 some (.bool (decide (a1 ≥ n4)), h)) := (kc _ h).trans (by kernel_rfl)
theorem kln (a1 : Sl) (h : AH) : go (.fn F.kbz [a1.v, .func (.func F.kr) [] []]) h =
 (go (.fn F.kv [a1.v, .func (.func F.kr) [] []]) h).bind fun q2 =>
 ((some q2.1).bind (AV.asInt .i64)).bind fun n3 =>
 some (.bool (decide (n3 ≥ 0)), q2.2) := (kc _ h).trans (by kernel_rfl)
theorem krk (a1 : Sl) (h : AH) : go (.fn F.keu [a1.v, .func (.func F.kba) [] []]) h =
 (go (.fn F.kde [a1.v, .func (.func F.kba) [] []]) h).bind fun q2 =>
 ((some q2.1).bind (AV.asInt .i64)).bind fun n3 =>
 some (.bool (decide (n3 ≥ 0)), q2.2) := (kc _ h).trans (by kernel_rfl)
theorem kl6 (a1 : Ref) (a2 : Bool) (a3 : Bool) (h : AH) : go (.pt F.ke Td.ke8 [(1, .ptr (some a1)), (4, .bool a2), (5, .bool a3)]) h =
 ((h.cell (a1.add 0)).bind (AV.asInt .i64)).bind fun n4 =>
 cond (decide (n4 = 1)) (
 go (.pt F.ke Td.keb [(1, .ptr (some a1)), (4, .bool a2), (5, .bool a3), (6, .bool true)]) h) (
 ((h.cell (a1.add 0)).bind (AV.asInt .i64)).bind fun n5 =>
 cond (decide (n5 = 3)) (
 go (.pt F.ke Td.keb [(1, .ptr (some a1)), (4, .bool a2), (5, .bool a3), (6, .bool true)]) h) (
 ((h.cell (a1.add 0)).bind (AV.asInt .i64)).bind fun n6 =>
 go (.pt F.ke Td.keb [(1, .ptr (some a1)), (4, .bool a2), (5, .bool a3), (6, .bool (decide (n6 = 5)))]) h)) := (kc _ h).trans (by kernel_rfl)
theorem kml (a1 : Sl) (h : AH) : go (.fn F.kv [a1.v, .func (.func F.kr) [] []]) h =
 go (.pt F.kv Td.kbp [(0, a1.v), (1, .func (.func F.kr) [] []), (7, .int .i64 (a1.len : Int)), (8, .int .i64 0)]) h := (kc _ h).trans (by kernel_rfl)
theorem knr (a1 : Sl) (h : AH) : go (.fn F.kde [a1.v, .func (.func F.kba) [] []]) h =
 go (.pt F.kde Td.kfn [(0, a1.v), (1, .func (.func F.kba) [] []), (7, .int .i64 (a1.len : Int)), (8, .int .i64 0)]) h := (kc _ h).trans (by kernel_rfl)
theorem kl5 (a1 : Ref) (a2 : Bool) (a3 : Bool) (a4 : Bool) (h : AH) : go (.pt F.ke Td.keb [(1, .ptr (some a1)), (4, .bool a2), (5, .bool a3), (6, .bool a4)]) h =
 cond (!a2) (
 ((h.cell (a1.add 4)).bind AV.asSl).bind fun l5 =>
 cond (decide ((l5.len : Int) > 0)) (
 some (.bool false, h)) (
 cond (!a3) (
 ((h.cell (a1.add 5)).bind AV.asSl).bind fun l6 =>
 cond (decide ((l6.len : Int) > 0)) (
 some (.bool false, h)) (
 cond (!a4) (
 ((h.cell (a1.add 6)).bind AV.asSl).bind fun l7 =>
 cond (decide ((l7.len : Int) > 0)) (
 some (.bool false, h)) (
 go (.pt F.ke Td.kbw [(1, .ptr (some a1))]) h)) (
 go (.pt F.ke Td.kbw [(1, .ptr (some a1))]) h))) (
 cond (!a4) (
 ((h.cell (a1.add 6)).bind AV.asSl).bind fun l8 =>
 cond (decide ((l8.len : Int) > 0)) (
 some (.bool false, h)) (
 go (.pt F.ke Td.kbw [(1, .ptr (some a1))]) h)) (
 go (.pt F.ke Td.kbw [(1, .ptr (some a1))]) h)))) (
 cond (!a3) (
 ((h.cell (a1.add 5)).bind AV.asSl).bind fun l9 =>
 cond (decide ((l9.len : Int) > 0)) (
 some (.bool false, h)) (
 cond (!a4) (
 ((h.cell (a1.add 6)).bind AV.asSl).bind fun l10 =>
 cond (decide ((l10.len : Int) > 0)) (
 some (.bool false, h)) (
 go (.pt F.ke Td.kbw [(1, .ptr (some a1))]) h)) (
 go (.pt F.ke Td.kbw [(1, .ptr (some a1))]) h))) (
 cond (!a4) (
 ((h.cell (a1.add 6)).bind AV.asSl).bind fun l11 =>
 cond (decide ((l11.len : Int) > 0)) (
 some (.bool false, h)) (
 go (.pt F.ke Td.kbw [(1, .ptr (some a1))]) h)) (
 go (.pt F.ke Td.kbw [(1, .ptr (some a1))]) h))) := (kc _ h).trans (by kernel_rfl)
theorem khq (a1 : Sl) (a2 : Int) (a3 : Int) (h : AH) : go (.pt F.kv Td.kbp [(0, a1.v), (1, .func (.func F.kr) [] []), (7, .int .i64 a2), (8, .int .i64 a3)]) h =
 cond (decide (a3 < a2)) (
 (idx a1.ref a1.len a3 1).bind fun r4 =>
 ((h.cell r4).bind (AV.asInt .i64)).bind fun n5 =>
 (go (.fn F.kr [.int .i64 n5]) h).bind fun q6 =>
 ((some q6.1).bind AV.asBool).bind fun b7 =>
 cond b7 (
 some (.int .i64 a3, q6.2)) (
 go (.pt F.kv Td.kbp [(0, a1.v), (1, .func (.func F.kr) [] []), (7, .int .i64 a2), (8, .int .i64 (IntKind.wrap .i64 (a3 + 1)))]) q6.2)) (
 some (.int .i64 (-1), h)) := (kc _ h).trans (by kernel_rfl)
theorem kjn (a1 : Sl) (a2 : Int) (a3 : Int) (h : AH) : go (.pt F.kde Td.kfn [(0, a1.v), (1, .func (.func F.kba) [] []), (7, .int .i64 a2), (8, .int .i64 a3)]) h =
 cond (decide (a3 < a2)) (
 (idx a1.ref a1.len a3 1).bind fun r4 =>
 ((h.cell r4).bind AV.asSl).bind fun l5 =>
 (go (.fn F.kba [l5.v]) h).bind fun q6 =>
 ((some q6.1).bind AV.asBool).bind fun b7 =>
 cond b7 (
 some (.int .i64 a3, q6.2)) (
 go (.pt F.kde Td.kfn [(0, a1.v), (1, .func (.func F.kba) [] []), (7, .int .i64 a2), (8, .int .i64 (IntKind.wrap .i64 (a3 + 1)))]) q6.2)) (
 some (.int .i64 (-1), h)) := (kc _ h).trans (by kernel_rfl)
theorem krq (a1 : Ref) (h : AH) : go (.pt F.ke Td.kbw [(1, .ptr (some a1))]) h =
 ((h.cell (a1.add 4)).bind AV.asSl).bind fun l2 =>
 cond (decide ((l2.len : Int) > 16384)) (
 some (.bool false, h)) (
 ((h.cell (a1.add 5)).bind AV.asSl).bind fun l3 =>
 cond (decide ((l3.len : Int) > 16384)) (
 some (.bool false, h)) (
 ((h.cell (a1.add 6)).bind AV.asSl).bind fun l4 =>
 cond (decide ((l4.len : Int) > 16384)) (
 some (.bool false, h)) (
 go (.pt F.ke Td.kgi [(1, .ptr (some a1))]) h))) := (kc _ h).trans (by kernel_rfl)
theorem knf (a1 : Sl) (h : AH) : go (.fn F.kba [a1.v]) h =
 (go (.fn F.kg1 [a1.v]) h).bind fun q2 =>
 ((some q2.1).bind AV.asBool).bind fun b3 =>
 cond (!b3) (
 some (.bool true, q2.2)) (
 some (.bool (decide ((a1.len : Int) > 4)), q2.2)) := (kc _ h).trans (by kernel_rfl)
theorem kps (a1 : Ref) (h : AH) : go (.pt F.ke Td.kgi [(1, .ptr (some a1))]) h =
 ((h.cell (a1.add 0)).bind (AV.asInt .i64)).bind fun n2 =>
 cond (decide (n2 = 1)) (
 ((h.cell (a1.add 6)).bind AV.asSl).bind fun l3 =>
 cond (!decide ((l3.len : Int) = 1)) (
 some (.bool false, h)) (
 ((h.cell (a1.add 0)).bind (AV.asInt .i64)).bind fun n4 =>
 cond (decide (n4 = 5)) (
 ((h.cell (a1.add 6)).bind AV.asSl).bind fun l5 =>
 ((h.cell (a1.add 4)).bind AV.asSl).bind fun l6 =>
 cond (!decide ((l5.len : Int) = (l6.len : Int))) (
 some (.bool false, h)) (
 ((h.cell (a1.add 0)).bind (AV.asInt .i64)).bind fun n7 =>
 cond (decide (n7 = 6)) (
 ((h.cell (a1.add 4)).bind AV.asSl).bind fun l8 =>
 cond (decide ((l8.len : Int) = 0)) (
 some (.bool false, h)) (
 go (.pt F.ke Td.kbq [(1, .ptr (some a1)), (7, .int .i64 0)]) h)) (
 go (.pt F.ke Td.kbq [(1, .ptr (some a1)), (7, .int .i64 0)]) h))) (
 ((h.cell (a1.add 0)).bind (AV.asInt .i64)).bind fun n9 =>
 cond (decide (n9 = 6)) (
 ((h.cell (a1.add 4)).bind AV.asSl).bind fun l10 =>
 cond (decide ((l10.len : Int) = 0)) (
 some (.bool false, h)) (
 go (.pt F.ke Td.kbq [(1, .ptr (some a1)), (7, .int .i64 0)]) h)) (
 go (.pt F.ke Td.kbq [(1, .ptr (some a1)), (7, .int .i64 0)]) h)))) (
 ((h.cell (a1.add 0)).bind (AV.asInt .i64)).bind fun n11 =>
 cond (decide (n11 = 5)) (
 ((h.cell (a1.add 6)).bind AV.asSl).bind fun l12 =>
 ((h.cell (a1.add 4)).bind AV.asSl).bind fun l13 =>
 cond (!decide ((l12.len : Int) = (l13.len : Int))) (
 some (.bool false, h)) (
 ((h.cell (a1.add 0)).bind (AV.asInt .i64)).bind fun n14 =>
 cond (decide (n14 = 6)) (
 ((h.cell (a1.add 4)).bind AV.asSl).bind fun l15 =>
 cond (decide ((l15.len : Int) = 0)) (
 some (.bool false, h)) (
 go (.pt F.ke Td.kbq [(1, .ptr (some a1)), (7, .int .i64 0)]) h)) (
 go (.pt F.ke Td.kbq [(1, .ptr (some a1)), (7, .int .i64 0)]) h))) (
 ((h.cell (a1.add 0)).bind (AV.asInt .i64)).bind fun n16 =>
 cond (decide (n16 = 6)) (
 ((h.cell (a1.add 4)).bind AV.asSl).bind fun l17 =>
 cond (decide ((l17.len : Int) = 0)) (
 some (.bool false, h)) (
 go (.pt F.ke Td.kbq [(1, .ptr (some a1)), (7, .int .i64 0)]) h)) (
 go (.pt F.ke Td.kbq [(1, .ptr (some a1)), (7, .int .i64 0)]) h))) := (kc _ h).trans (by kernel_rfl)
theorem kmn (a1 : Sl) (h : AH) : go (.fn F.kg1 [a1.v]) h =
 cond (decide ((a1.len : Int) ≤ 64)) (
 cond (decide ((a1.len : Int) = 0)) (
 some (.bool true, h)) (
 (idx a1.ref a1.len (IntKind.wrap .i64 ((a1.len : Int) - 1)) 1).bind fun r2 =>
 ((h.cell r2).bind (AV.asInt .u64)).bind fun n3 =>
 some (.bool (!decide (n3 = 0)), h))) (
 some (.bool false, h)) := (kc _ h).trans (by kernel_rfl)
theorem kio (a1 : Ref) (a2 : Int) (h : AH) : go (.pt F.ke Td.kbq [(1, .ptr (some a1)), (7, .int .i64 a2)]) h =
 ((h.cell (a1.add 4)).bind AV.asSl).bind fun l3 =>
 cond (decide (a2 < (l3.len : Int))) (
 ((h.cell (a1.add 4)).bind AV.asSl).bind fun l4 =>
 (idx l4.ref l4.len a2 1).bind fun r5 =>
 ((h.cell r5).bind (AV.asInt .i64)).bind fun n6 =>
 cond (decide (n6 < 0)) (
 some (.bool false, h)) (
 ((h.cell (a1.add 4)).bind AV.asSl).bind fun l7 =>
 (idx l7.ref l7.len a2 1).bind fun r8 =>
 ((h.cell r8).bind (AV.asInt .i64)).bind fun n9 =>
 cond (decide (n9 > 1073741824)) (
 some (.bool false, h)) (
 go (.pt F.ke Td.kbq [(1, .ptr (some a1)), (7, .int .i64 (IntKind.wrap .i64 (a2 + 1)))]) h))) (
 go (.pt F.ke Td.kd0 [(1, .ptr (some a1)), (8, .int .i64 0)]) h) := (kc _ h).trans (by kernel_rfl)
theorem kin (a1 : Ref) (a2 : Int) (h : AH) : go (.pt F.ke Td.kd0 [(1, .ptr (some a1)), (8, .int .i64 a2)]) h =
 ((h.cell (a1.add 5)).bind AV.asSl).bind fun l3 =>
 cond (decide (a2 < (l3.len : Int))) (
 ((h.cell (a1.add 5)).bind AV.asSl).bind fun l4 =>
 (idx l4.ref l4.len a2 1).bind fun r5 =>
 ((h.cell r5).bind (AV.asInt .i64)).bind fun n6 =>
 cond (decide (n6 < 0)) (
 some (.bool false, h)) (
 ((h.cell (a1.add 5)).bind AV.asSl).bind fun l7 =>
 (idx l7.ref l7.len a2 1).bind fun r8 =>
 ((h.cell r8).bind (AV.asInt .i64)).bind fun n9 =>
 cond (decide (n9 > 1073741824)) (
 some (.bool false, h)) (
 cond (decide (a2 > 0)) (
 ((h.cell (a1.add 5)).bind AV.asSl).bind fun l10 =>
 (idx l10.ref l10.len a2 1).bind fun r11 =>
 ((h.cell r11).bind (AV.asInt .i64)).bind fun n12 =>
 ((h.cell (a1.add 5)).bind AV.asSl).bind fun l13 =>
 (idx l13.ref l13.len (IntKind.wrap .i64 (a2 - 1)) 1).bind fun r14 =>
 ((h.cell r14).bind (AV.asInt .i64)).bind fun n15 =>
 cond (decide (n12 ≤ n15)) (
 some (.bool false, h)) (
 go (.pt F.ke Td.kd0 [(1, .ptr (some a1)), (8, .int .i64 (IntKind.wrap .i64 (a2 + 1)))]) h)) (
 go (.pt F.ke Td.kd0 [(1, .ptr (some a1)), (8, .int .i64 (IntKind.wrap .i64 (a2 + 1)))]) h)))) (
 go (.pt F.ke Td.kfy [(1, .ptr (some a1)), (9, .int .i64 0)]) h) := (kc _ h).trans (by kernel_rfl)
theorem kh6 (a1 : Ref) (a2 : Int) (h : AH) : go (.pt F.ke Td.kfy [(1, .ptr (some a1)), (9, .int .i64 a2)]) h =
 ((h.cell (a1.add 6)).bind AV.asSl).bind fun l3 =>
 cond (decide (a2 < (l3.len : Int))) (
 ((h.cell (a1.add 6)).bind AV.asSl).bind fun l4 =>
 (idx l4.ref l4.len a2 1).bind fun r5 =>
 ((h.cell r5).bind AV.asSl).bind fun l6 =>
 (go (.fn F.khp [l6.v]) h).bind fun q7 =>
 ((some q7.1).bind AV.asBool).bind fun b8 =>
 cond (!b8) (
 some (.bool false, q7.2)) (
 ((q7.2.cell (a1.add 6)).bind AV.asSl).bind fun l9 =>
 (idx l9.ref l9.len a2 1).bind fun r10 =>
 ((q7.2.cell r10).bind AV.asSl).bind fun l11 =>
 cond (decide ((l11.len : Int) > 4)) (
 some (.bool false, q7.2)) (
 go (.pt F.ke Td.kfy [(1, .ptr (some a1)), (9, .int .i64 (IntKind.wrap .i64 (a2 + 1)))]) q7.2))) (
 some (.bool true, h)) := (kc _ h).trans (by kernel_rfl)
theorem ko3 (a1 : Sl) (h : AH) : go (.fn F.khp [a1.v]) h =
 cond (decide ((a1.len : Int) ≤ 64)) (
 cond (decide ((a1.len : Int) = 0)) (
 some (.bool true, h)) (
 (idx a1.ref a1.len (IntKind.wrap .i64 ((a1.len : Int) - 1)) 1).bind fun r2 =>
 ((h.cell r2).bind (AV.asInt .u64)).bind fun n3 =>
 some (.bool (!decide (n3 = 0)), h))) (
 some (.bool false, h)) := (kc _ h).trans (by kernel_rfl)
end Go.Ab

/- squeezed -/
set_option linter.unusedVariables false
set_option linter.unusedSimpArgs false
set_option maxRecDepth 10000
namespace Go.Ab
open Go.Proofs Go.Num
@[reducible] def B : Nat := 18446744073709551616
theorem B2 : 2 ≤ B := by decide
def rt (xs : List Nat) : Bool := decide (xs.length ≤ 64) && (decide (xs.length = 0) || !decide (xs.getD (xs.length - 1) 0 = 0))
theorem knb {xs : List Nat} {i : Nat} (h : i < xs.length) : xs.getD i 0 = xs[i] := by simp [List.getD, h]
theorem Nats.last {h : AH} {s : Sl} {xs : List Nat} (n : Nats h s xs) (hx : xs.length ≠ 0) : ∃ r, idx s.ref s.len (IntKind.wrap .i64 ((s.len : Int) - 1)) 1 = some r ∧ h.cell r = some (.int .u64 ((xs.getD (xs.length - 1) 0 : Nat) : Int)) := by
 obtain ⟨k, hk⟩ : ∃ k, xs.length = k + 1 := ⟨xs.length - 1, by omega⟩
 have hs := n.short
 obtain ⟨r, e1, e2⟩ := n.at (i := k) (by omega)
 rw [n.len, hk] at e1 ⊢
 rw [klt (by omega)]
 refine ⟨r, e1, ?_⟩
 rw [e2, show k + 1 - 1 = k from rfl, knb (by omega)]
theorem kou {h : AH} {s : Sl} {xs : List Nat} (n : Nats h s xs) : go (.fn F.kg1 [s.v]) h = some (.bool (rt xs), h) := by
 rw [kmn]
 have hl := n.len
 refine kel (fun h1 => ?_) (fun h1 => ?_)
 ·have h1 : xs.length ≤ 64 := by rw [decide_eq_true_eq] at h1; omega
  refine kel (fun h2 => ?_) (fun h2 => ?_)
  ·have h2 : xs.length = 0 := by rw [decide_eq_true_eq] at h2; omega
   simp [rt, h2]
  ·have h2 : xs.length ≠ 0 := by rw [decide_eq_false_iff_not] at h2; omega
   obtain ⟨r, e1, e2⟩ := n.last h2
   simp [e1, e2, rt, h1]
   cases xs
   ·simp at h2
   ·simp
 ·have h1 : ¬ xs.length ≤ 64 := by rw [decide_eq_false_iff_not] at h1; omega
  simp [rt, h1]
theorem knh {h : AH} {s : Sl} {xs : List Nat} (n : Nats h s xs) : go (.fn F.khp [s.v]) h = some (.bool (rt xs), h) := by
 rw [ko3]
 have hl := n.len
 refine kel (fun h1 => ?_) (fun h1 => ?_)
 ·have h1 : xs.length ≤ 64 := by rw [decide_eq_true_eq] at h1; omega
  refine kel (fun h2 => ?_) (fun h2 => ?_)
  ·have h2 : xs.length = 0 := by rw [decide_eq_true_eq] at h2; omega
   simp [rt, h2]
  ·have h2 : xs.length ≠ 0 := by rw [decide_eq_false_iff_not] at h2; omega
   obtain ⟨r, e1, e2⟩ := n.last h2
   simp [e1, e2, rt, h1]
   cases xs
   ·simp at h2
   ·simp
 ·have h1 : ¬ xs.length ≤ 64 := by rw [decide_eq_false_iff_not] at h1; omega
  simp [rt, h1]
end Go.Ab

/- squeezed -/
set_option linter.unusedVariables false
set_option linter.unusedSimpArgs false
set_option maxRecDepth 10000
namespace Go.Ab
open Go.Proofs Go.Num
end Go.Ab

/- squeezed -/
set_option linter.unusedVariables false
set_option linter.unusedSimpArgs false
set_option maxRecDepth 10000
namespace Go.Ab
open Go.Proofs Go.Num
end Go.Ab

/- squeezed -/
set_option linter.unusedVariables false
set_option linter.unusedSimpArgs false
set_option maxRecDepth 10000
namespace Go.Ab
open Go.Proofs Go.Num
structure Rows (h : AH) (s : Sl) (rows : List (Sl × List Nat)) : Prop where
 cells : Cells h s 1 (rows.map fun p => p.1.v)
 each : ∀ p ∈ rows, Nats h p.1 p.2
 short : rows.length ≤ 9223372036854775807
theorem Rows.len {h : AH} {s : Sl} {rows : List (Sl × List Nat)} (n : Rows h s rows) : s.len = rows.length := by
 have := n.cells.len
 simpa using this
theorem Rows.at {h : AH} {s : Sl} {rows : List (Sl × List Nat)} (n : Rows h s rows) {i : Nat} (hi : i < rows.length) : ∃ r, idx s.ref s.len (i : Int) 1 = some r ∧ h.cell r = some (rows[i].1).v := by
 obtain ⟨r, e1, e2⟩ := n.cells.get i (rows[i].1).v (by simp [hi])
 refine ⟨r.add i, ?_, e2⟩
 rw [e1, kdb _ _ _ _ (by omega) (by rw [n.len]; omega)]
 simp
theorem Rows.two {h : AH} {a b : Sl} {xs ys : List Nat} (n : Nats h a xs) (m : Nats h b ys) : Rows (h.push (.cells [a.v, b.v] T.kcz)) ⟨some (.new h.blks.size 0), 2, .is 2⟩ [(a, xs), (b, ys)] := by
 refine ⟨Cells.of_has (AH.has_push _ _ _) rfl, fun p hp => ?_, by simp⟩
 have g := Grow.push h (.cells [a.v, b.v] T.kcz)
 simp at hp
 rcases hp with rfl | rfl
 ·exact n.grow g
 ·exact m.grow g
theorem koy {h : AH} {cs : List AV} (a : ArgT Pg h T.kcz cs) : ∃ (s : Sl) (xs : List Nat), cs = [s.v] ∧ Nats h s xs := by
 rcases a.slice ki8 with rfl | ⟨ad, len, cap, rfl, h1, h2, h3⟩
 ·exact ⟨⟨none, 0, .is 0⟩, [], rfl, Nats.nil h⟩
 ·rw [kma] at h3
  have key : ∀ i, i < len → ∃ x : Nat, h.cell (.old (ad.add i)) = some (u64 x) ∧ x < 18446744073709551616 := by
   intro i hi
   obtain ⟨es, e1, e2⟩ := h3 i hi
   obtain ⟨x, rfl, hw⟩ := e2.int kn2
   rw [Nat.mul_one] at e1
   have hx : 0 ≤ x ∧ x < 18446744073709551616 := by
    have : 0 ≤ x ∧ x ≤ 18446744073709551615 := by simpa [Lit.wf, IntKind.has, IntKind.min, IntKind.max, IntKind.bits, IntKind.signed] using hw
    omega
   refine ⟨x.toNat, ?_, by omega⟩
   show _ = some (AV.int .u64 ((x.toNat : Nat) : Int))
   rw [show ((x.toNat : Nat) : Int) = x from by omega]
   simp only [AH.gets, Option.bind_eq_some_iff, Option.map_eq_some_iff] at e1
   obtain ⟨v, e3, l, e4, e5⟩ := e1
   simp only [List.cons.injEq] at e5
   rw [e3, e5.1]
  have mk : ∀ n, n ≤ len → ∃ xs : List Nat, xs.length = n ∧ ∀ (i : Nat) (hi : i < xs.length), h.cell (.old (ad.add i)) = some (u64 xs[i]) ∧ xs[i] < 18446744073709551616 := by
   intro n
   induction n with
   | zero => exact fun _ => ⟨[], rfl, fun i hi => by simp at hi⟩
   | succ n ih =>
    intro hn
    obtain ⟨xs, hl, hx⟩ := ih (by omega)
    obtain ⟨x, k1, k2⟩ := key n (by omega)
    refine ⟨xs ++ [x], by simp [hl], fun i hi => ?_⟩
    simp only [List.length_append, List.length_singleton] at hi
    by_cases hin : i < xs.length
    ·rw [List.getElem_append_left hin]
     exact hx i hin
    ·have : i = n := by omega
     subst this
     rw [List.getElem_append_right (by omega)]
     simp only [hl, Nat.sub_self, List.getElem_singleton]
     exact ⟨k1, k2⟩
  obtain ⟨xs, hl, hx⟩ := mk len (Nat.le_refl _)
  refine ⟨⟨some (.old ad), len, .is cap⟩, xs, rfl, ⟨⟨h1, by simp [hl], fun i v hv => ?_⟩, fun x hx' => ?_, ?_⟩⟩
  ·rw [List.getElem?_map, Option.map_eq_some_iff] at hv
   obtain ⟨x, e1, rfl⟩ := hv
   obtain ⟨hi, rfl⟩ := List.getElem?_eq_some_iff.1 e1
   exact ⟨_, rfl, (hx i hi).1⟩
  ·obtain ⟨i, hi, rfl⟩ := List.getElem_of_mem hx'
   exact (hx i hi).2
  ·have : maxLen = 9223372036854775807 := by decide
   omega
end Go.Ab

/- squeezed -/
set_option linter.unusedVariables false
set_option linter.unusedSimpArgs false
set_option maxRecDepth 10000
namespace Go.Ab
open Go.Proofs
def idsR (l : List Int) : Bool := decide (l.length ≤ 256) && (!(l.any fun x => decide (x < 0) || decide (x > 1073741824)) && decide l.Nodup)
structure Tb where
 ids : List Int
 bins : List Int
 cols : List (List Int)
def colR (t : Tb) (i : Nat) : Bool := !decide (t.bins.getD i 0 < 2) && !decide (t.bins.getD i 0 > 32) && decide ((t.cols.getD i []).length = t.ids.length) && !((t.cols.getD i []).any fun x => decide (x < 0) || decide (x ≥ t.bins.getD i 0))
def tabR (t : Tb) : Bool := idsR t.ids && !decide (t.cols.length > 16) && decide (t.bins.length = t.cols.length) && (List.range t.cols.length).all (colR t)
structure TabAt (h : AH) (S : Fp) (s1 s2 s3 : Sl) (t : Tb) : Prop where
 ids : Sq EI h S s1 t.ids
 bins : Sq EI h S s2 t.bins
 cols : Sq (Ef.seq EI) h S s3 t.cols
theorem TabAt.md {h h' : AH} {S T : Fp} {s1 s2 s3 : Sl} {t : Tb} (n : TabAt h S s1 s2 s3 t) (m : Md T h h') (d : Dis S T) : TabAt h' S s1 s2 s3 t := ⟨n.ids.md m d, n.bins.md m d, n.cols.md m d⟩
theorem TabAt.grow {h h' : AH} {S : Fp} {s1 s2 s3 : Sl} {t : Tb} (n : TabAt h S s1 s2 s3 t) (g : Grow h h') : TabAt h' S s1 s2 s3 t := ⟨n.ids.grow g, n.bins.grow g, n.cols.grow g⟩
section
variable {h0 : AH} {S : Fp} {s : Sl} {xs : List Int}
theorem kp1 (n : Sq EI h0 S s xs) : Runs (go (.fn F.kbz [s.v, .func (.func F.kbm) [] []]) h0) fun v h' => v = .bool (xs.any fun x => decide (x < 0) || decide (x > 1073741824)) ∧ Grow h0 h' := by
 rw [km7]
 refine Runs.contains (xs := xs) ?_
 rw [kok, n.len]
 refine kdt (n := xs.length) (G := fun z h => go (.pt F.kv Td.kbp [(0, s.v), (1, .func (.func F.kbm) [] []), (7, .int .i64 (xs.length : Int)), (8, .int .i64 z)]) h) (fun i h P hi g hT hF => ?_) (fun h g => ?_) xs.length 0 (by omega) (Grow.refl h0) (fun j hj => by omega)
 ·obtain ⟨r, e1, e2⟩ := (n.grow g).int hi
  rw [List.getElem?_eq_getElem hi] at hT hF
  simp only [Option.any_some] at hT hF
  show Runs (go _ _) _
  rw [kh9]
  refine Runs.ifT (decide_eq_true (by omega)) (Runs.step e1 (Runs.step e2 ?_))
  have key : go (.fn F.kbm [.int .i64 xs[i]]) h = some (.bool (decide (xs[i] < 0) || decide (xs[i] > 1073741824)), h) := by
   rw [kla]
   cases decide (xs[i] < 0) <;> rfl
  refine Runs.step key (Runs.step (seen rfl) ?_)
  rw [ki (by have := n.short; omega)]
  exact Runs.cond (fun c => Runs.ret (hT h g c)) fun c => hF h g c
 ·rw [kh9, condF (decide_eq_false (by omega))]
theorem kra (n : Sq EI h0 S s xs) (hl : xs.length ≤ 256) {m : Nat} (hm : h0.blks.size ≤ m) : ∀ (k i : Nat), i + k = xs.length → ∀ {h : AH} {l : List (Int × AV)}, Grow h0 h → MapIs h m l → (∀ x, (kvGet l x).isSome = true ↔ x ∈ xs.take i) → l.length ≤ i → (l.length = i ↔ (xs.take i).Nodup) →
  Runs (go (.pt F.kcu Td.kev [(3, .map (some m)), (7, s.v), (8, .int .i64 (xs.length : Int)), (9, .int .i64 (i : Int))]) h) fun v h' => Grow h0 h' ∧ v = .map (some m) ∧ ∃ l, MapIs h' m l ∧ (l.length = xs.length ↔ xs.Nodup) := by
 intro k
 induction k with
 | zero =>
  intro i hi h l g M hk hle hn
  rw [kj9]
  refine Runs.ifF (decide_eq_false (by omega)) (Runs.ret ⟨g, rfl, l, M, ?_⟩)
  rw [show i = xs.length from by omega, List.take_length] at hn
  exact hn
 | succ k ih =>
  intro i hi h l g M hk hle hn
  have hlt : i < xs.length := by omega
  obtain ⟨r, e1, e2⟩ := (n.grow g).int hlt
  rw [kj9]
  refine Runs.ifT (decide_eq_true (by omega)) (Runs.step e1 (Runs.step e2 ?_))
  obtain ⟨h1, e3, M1, u1⟩ := M.put xs[i] (.int .i64 (i : Int))
  refine Runs.step e3 ?_
  rw [ki (by omega)]
  have ht : xs.take (i + 1) = xs.take i ++ [xs[i]] := List.take_succ_eq_append_getElem hlt
  have hi := hk xs[i]
  refine ih (i + 1) (by omega) (g.updr hm u1) M1 (fun x => ?_) ?_ ?_
  ·rw [kqe, ht, List.mem_append, List.mem_singleton]
   by_cases hx : x = xs[i]
   ·rw [if_pos hx]
    exact ⟨fun _ => .inr hx, fun _ => rfl⟩
   ·rw [if_neg hx, hk x]
    exact ⟨.inl, fun h => h.resolve_right hx⟩
  ·cases hg : kvGet l xs[i] with
   | none => rw [kis _ hg]; simp; omega
   | some w => rw [kj5 _ hg]; omega
  ·rw [ht, List.nodup_append]
   cases hg : kvGet l xs[i] with
   | none =>
    rw [hg] at hi
    have hni : xs[i] ∉ xs.take i := fun h => by simpa using hi.2 h
    rw [kis _ hg]
    simp only [List.length_append, List.length_singleton]
    constructor
    ·intro e
     refine ⟨hn.1 (by omega), by simp, fun a ha b hb => ?_⟩
     rw [List.mem_singleton] at hb
     subst hb
     rintro rfl
     exact hni ha
    ·intro e
     rw [hn.2 e.1]
   | some w =>
    rw [hg] at hi
    have hin : xs[i] ∈ xs.take i := hi.1 rfl
    rw [kj5 _ hg]
    constructor
    ·intro e
     omega
    ·intro e
     exact absurd rfl (e.2.2 _ hin _ (by simp))
theorem kpn (n : Sq EI h0 S s xs) : Runs (go (.fn F.kgx [s.v]) h0) fun v h' => v = .bool (idsR xs) ∧ Grow h0 h' := by
 rw [kk9, n.len]
 unfold idsR
 refine Runs.cond (fun c => ?_) (fun c => ?_)
 ·rw [decide_eq_true_eq] at c
  rw [decide_eq_true (show xs.length ≤ 256 by omega), Bool.true_and]
  refine (kp1 n).call fun v h1 ⟨e, g1⟩ => ?_
  subst e
  refine Runs.step (seen rfl) ?_
  refine Runs.cond (fun c2 => ?_) (fun c2 => ?_)
  ·rw [c2, Bool.true_and]
   have key : Runs (go (.fn F.kcu [s.v]) h1) fun v h' => Grow h1 h' ∧ ∃ m l, v = .map (some m) ∧ MapIs h' m l ∧ (l.length = xs.length ↔ xs.Nodup) := by
    rw [km9, n.len]
    refine Runs.newMap fun h2 M g2 => ?_
    exact (kra (n.grow g1) (by omega) (m := h1.blks.size) (Nat.le_refl _) xs.length 0 (by omega) (l := []) g2 M (fun x => by simp [kvGet]) (Nat.le_refl _) (by simp)).imp fun v h' ⟨g, e, l, M, hn⟩ => ⟨g, _, l, e, M, hn⟩
   refine key.call fun v h2 ⟨g2, m, l, e, M, hn⟩ => ?_
   subst e
   refine Runs.step (seen rfl) (Runs.step M.size (Runs.ret ⟨congrArg AV.bool ?_, g1.trans g2⟩))
   rw [decide_eq_decide, ← hn]
   omega
  ·rw [c2, Bool.false_and]
   exact Runs.ret ⟨rfl, g1⟩
 ·rw [decide_eq_false_iff_not] at c
  rw [decide_eq_false (show ¬ xs.length ≤ 256 by omega), Bool.false_and]
  exact Runs.ret ⟨rfl, Grow.refl _⟩
end
end Go.Ab
