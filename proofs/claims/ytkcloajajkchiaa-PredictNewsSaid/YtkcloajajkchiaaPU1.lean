/- squeezed -/
import Derived.Test.YtkcloajajkchiaaPAbsDra
import Derived.Test.YtkcloajajkchiaaProg
import Derived.Test.YtkcloajajkchiaaPAbsQ

set_option linter.unusedVariables false
set_option maxRecDepth 100000
namespace Go.Ab
open Go.Proofs
@[reducible] def F.kfm : FuncId := 3
@[reducible] def F.ke9 : FuncId := 5
@[reducible] def F.kb8 : FuncId := 6
@[reducible] def F.kb7 : FuncId := 7
@[reducible] def F.kv : FuncId := 8
@[reducible] def F.kfx : FuncId := 12
@[reducible] def F.kbg : FuncId := 16
@[reducible] def F.kcj : FuncId := 17
@[reducible] def F.ku : FuncId := 18
@[reducible] def F.kfw : FuncId := 19
@[reducible] def F.kfk : FuncId := 20
@[reducible] def F.kbs : FuncId := 21
@[reducible] def F.kbb : FuncId := 22
@[reducible] def F.kbe : FuncId := 23
@[reducible] def F.kbl : FuncId := 24
@[reducible] def F.keq : FuncId := 25
@[reducible] def F.kf2 : FuncId := 26
@[reducible] def F.kfv : FuncId := 28
@[reducible] def F.kdx : FuncId := 30
@[reducible] def F.kd9 : FuncId := 32
@[reducible] def F.kf0 : FuncId := 33
@[reducible] def F.kbi : FuncId := 34
@[reducible] def F.kco : FuncId := 35
@[reducible] def F.kcy : FuncId := 36
@[reducible] def F.keo : FuncId := 37
@[reducible] def F.kcc : FuncId := 38
@[reducible] def F.kb5 : FuncId := 48
@[reducible] def F.kq : FuncId := 49
@[reducible] def F.kbh : FuncId := 50
@[reducible] def F.kce : FuncId := 51
@[reducible] def F.kbc : FuncId := 52
@[reducible] def F.kci : FuncId := 53
@[reducible] def T.func : TypeId := 1
@[reducible] def T.int : TypeId := 3
@[reducible] def T.bool : TypeId := 4
@[reducible] def T.string : TypeId := 9
@[reducible] def T.any : TypeId := 20
@[reducible] def T.kfu : TypeId := 22
@[reducible] def T.kw : TypeId := 24
@[reducible] def T.kcq : TypeId := 25
@[reducible] def T.ke1 : TypeId := 26
@[reducible] def T.kr : TypeId := 28
@[reducible] def T.kbz : TypeId := 52
@[reducible] def T.ki : TypeId := 59
@[reducible] def T.ke8 : TypeId := 60
@[reducible] def T.kx : TypeId := 62
@[reducible] def T.km5 : TypeId := 67
@[reducible] def T.kbd : TypeId := 69
@[reducible] def T.khh : TypeId := 85
@[reducible] def T.knz : TypeId := 94
@[reducible] noncomputable def Pg : Program := Try.prog
def keepTab : List (Nat × Nat × List Nat) := [(4, 10, [2, 9, 11, 13]), (4, 24, [2, 9, 11, 13, 22]), (6, 3, [2, 3, 5, 6]), (7, 8, [8, 9, 37, 38, 39]), (8, 8, [1, 3, 5, 10]), (8, 11, [1, 3, 5, 10, 11]), (12, 1000001, [0, 1, 2, 3, 5, 6, 7, 8, 9, 4, 10, 11, 12, 13]), (13, 4, [0, 1, 5]), (14, 1000008, [0, 1, 3, 4, 5, 7, 8, 2, 6, 9, 10]), (16, 4, [12, 13, 14]), (16, 9, [4, 12, 13, 14, 29, 30, 31]), (17, 4, [1, 27, 28, 29]), (21, 0, [0]), (21, 1000004, [0, 1, 2, 3, 4, 5, 6, 7, 8, 9, 10, 11, 12, 13, 14, 15, 16, 17, 18, 19, 20, 22, 23, 21, 24, 25]), (22, 4, [1, 3]), (22, 10, [1, 3, 4, 5]), (23, 5, [1, 4]), (23, 10, [1, 4, 5]), (24, 0, [0]), (27, 4, [0, 1, 5]), (29, 6, [1, 4, 43, 44, 45]), (29, 15, [1, 84, 85]), (31, 6, [1]), (31, 7, [1, 4]), (31, 8, [1, 4, 5]), (31, 9, [1, 4, 5, 6]), (31, 11, [1]), (31, 13, [1]), (31, 16, [1, 7]), (31, 21, [1, 8]), (31, 26, [1, 9]), (36, 2, [0, 1, 7, 8]), (38, 4, [0, 3]), (39, 4, [0, 1, 5]), (46, 6, [3]), (51, 3, [3, 7, 8, 9]), (52, 2, [0, 1, 7, 8]), (53, 2, [0, 1, 5]), (55, 2, [0, 1, 7, 8])]
noncomputable def go : Rec := run Pg (keepOf keepTab)
theorem kc (k : Key) (h : AH) : go k h = stepA Pg (keepOf keepTab) go k h := kkn _ k h
theorem kbw : Pg.underlying T.int = some (.int .i64) := Try.underlying3
theorem kfe : Pg.cellsOf T.int = 1 := by kernel_rfl
theorem kjh : kbf Pg T.int = some [.int .i64 0] := by kernel_rfl
theorem kis : Pg.bytesOf T.int = 8 := by kernel_rfl
theorem kkd : Pg.underlying T.bool = some .bool := Try.underlying4
theorem knp : Pg.cellsOf T.bool = 1 := by kernel_rfl
theorem kiz : Pg.underlying T.kfu = some (.slice T.kx) := Try.underlying22
theorem knk : Pg.cellsOf T.kfu = 1 := by kernel_rfl
theorem kha : Pg.underlying T.kw = some (.struct #[{ name := "Trees", type := T.kfu, offset := 0, embedded := false, tag := "", pkgPath := "", byteOffset := 0 }]) := Try.underlying24
theorem kms : Pg.cellsOf T.kw = 1 := by kernel_rfl
theorem kmu : Pg.underlying T.kcq = some (.slice T.int) := Try.underlying25
theorem kgt : Pg.cellsOf T.kcq = 1 := by kernel_rfl
theorem km1 : Pg.underlying T.ke1 = some (.slice T.kcq) := Try.underlying26
theorem kmo : Pg.cellsOf T.ke1 = 1 := by kernel_rfl
theorem khp : Pg.underlying T.kr = some (.struct #[{ name := "Ids", type := T.kcq, offset := 0, embedded := false, tag := "", pkgPath := "", byteOffset := 0 }, { name := "Bins", type := T.kcq, offset := 1, embedded := false, tag := "", pkgPath := "", byteOffset := 24 }, { name := "Cols", type := T.ke1, offset := 2, embedded := false, tag := "", pkgPath := "", byteOffset := 48 }]) := Try.underlying28
theorem kle : Pg.cellsOf T.kr = 3 := by kernel_rfl
theorem kjx : Pg.underlying T.ki = some (.struct #[{ name := "Leaf", type := T.bool, offset := 0, embedded := false, tag := "", pkgPath := "", byteOffset := 0 }, { name := "Weight", type := T.int, offset := 1, embedded := false, tag := "", pkgPath := "", byteOffset := 8 }, { name := "Party", type := T.int, offset := 2, embedded := false, tag := "", pkgPath := "", byteOffset := 16 }, { name := "Feature", type := T.int, offset := 3, embedded := false, tag := "", pkgPath := "", byteOffset := 24 }, { name := "Cut", type := T.int, offset := 4, embedded := false, tag := "", pkgPath := "", byteOffset := 32 }, { name := "Left", type := T.int, offset := 5, embedded := false, tag := "", pkgPath := "", byteOffset := 40 }, { name := "Right", type := T.int, offset := 6, embedded := false, tag := "", pkgPath := "", byteOffset := 48 }]) := Try.underlying59
theorem kfr : Pg.cellsOf T.ki = 7 := by kernel_rfl
theorem knl : kbf Pg T.ki = some [.bool false, .int .i64 0, .int .i64 0, .int .i64 0, .int .i64 0, .int .i64 0, .int .i64 0] := by kernel_rfl
theorem kix : Pg.bytesOf T.ki = 56 := by kernel_rfl
theorem kno : Pg.underlying T.ke8 = some (.slice T.ki) := Try.underlying60
theorem ki3 : Pg.cellsOf T.ke8 = 1 := by kernel_rfl
theorem kjo : Pg.underlying T.kx = some (.struct #[{ name := "Nodes", type := T.ke8, offset := 0, embedded := false, tag := "", pkgPath := "", byteOffset := 0 }]) := Try.underlying62
theorem kf6 : Pg.cellsOf T.kx = 1 := by kernel_rfl
theorem kmj : kbf Pg T.kx = some [(⟨none, 0, .is 0⟩ : Sl).v] := by kernel_rfl
theorem kjj : Pg.bytesOf T.kx = 24 := by kernel_rfl
noncomputable def Td.kdl : List Item := todoAt Try.f6 3
noncomputable def Td.kex : List Item := todoAt Try.f7 8
noncomputable def Td.kc7 : List Item := todoAt Try.f8 8
noncomputable def Td.kck : List Item := todoAt Try.f8 11
noncomputable def Td.kc1 : List Item := todoAt Try.f16 4
noncomputable def Td.kek : List Item := todoAt Try.f16 9
noncomputable def Td.ket : List Item := todoAt Try.f17 4
noncomputable def Td.kb9 : List Item := todoAt Try.f21 0
noncomputable def Td.kc9 : List Item := todoAt Try.f22 4
noncomputable def Td.kd4 : List Item := todoAt Try.f22 10
noncomputable def Td.kc3 : List Item := todoAt Try.f23 5
noncomputable def Td.ked : List Item := todoAt Try.f23 10
noncomputable def Td.kb0 : List Item := todoAt Try.f24 0
noncomputable def Td.kdk : List Item := todoAt Try.f36 2
noncomputable def Td.kdj : List Item := todoAt Try.f38 4
noncomputable def Td.kd8 : List Item := todoAt Try.f51 3
noncomputable def Td.kby : List Item := todoAt Try.f52 2
noncomputable def Td.kew : List Item := todoAt Try.f53 2
theorem kmc (args : List AV) (h : AH) : callF Pg go F.kb5 args h = go (.fn F.kb5 args) h := by kernel_rfl
theorem kkx (a1 : Sl) (a2 : Int) (a3 : Sl) (a4 : Sl) (a5 : Sl) (h : AH) : go (.fn F.kfm [.agg [a1.v], .int .i64 a2, .agg [a3.v, a4.v, a5.v]]) h =
 newK h (.cells [a1.v] T.kw) fun h6r h6 =>
 newK h6 (.cells [a3.v, a4.v, a5.v] T.kr) fun h7r h7 =>
 (go (.fn F.ke9 []) h7).bind fun q8 =>
 ((some q8.1).bind AV.asBool).bind fun b9 =>
 ((q8.2.cell (h6r.add 0)).bind AV.asSl).bind fun l10 =>
 ((q8.2.cell (h7r.add 0)).bind AV.asSl).bind fun l11 =>
 ((q8.2.cell (h7r.add 1)).bind AV.asSl).bind fun l12 =>
 ((q8.2.cell (h7r.add 2)).bind AV.asSl).bind fun l13 =>
 (go (.fn F.kb8 [.agg [l10.v], .agg [l11.v, l12.v, l13.v]]) q8.2).bind fun q14 =>
 ((some q14.1).bind AV.asBool).bind fun b15 =>
 cond (!b9) (
 some (.bool b9, q14.2)) (
 cond (!b15) (
 some (.bool b9, q14.2)) (
 ((q14.2.cell (h6r.add 0)).bind AV.asSl).bind fun l16 =>
 ((q14.2.cell (h7r.add 0)).bind AV.asSl).bind fun l17 =>
 ((q14.2.cell (h7r.add 1)).bind AV.asSl).bind fun l18 =>
 ((q14.2.cell (h7r.add 2)).bind AV.asSl).bind fun l19 =>
 (go (.fn F.kb7 [.agg [l16.v], .int .i64 a2, .agg [l17.v, l18.v, l19.v]]) q14.2).bind fun q20 =>
 (AV.asTup2 q20.1).bind fun p21 =>
 ((some p21.1).bind AV.asPtr).bind fun p22 =>
 ((some p21.2).bind (AV.asInt .i64)).bind fun n23 =>
 ((q20.2.cell (h6r.add 0)).bind AV.asSl).bind fun l24 =>
 ((q20.2.cell (h7r.add 0)).bind AV.asSl).bind fun l25 =>
 ((q20.2.cell (h7r.add 1)).bind AV.asSl).bind fun l26 =>
 ((q20.2.cell (h7r.add 2)).bind AV.asSl).bind fun l27 =>
 (go (.fn F.kv [.agg [l24.v], .int .i64 a2, .agg [l25.v, l26.v, l27.v]]) q20.2).bind fun q28 =>
 (AV.asTup2 q28.1).bind fun p29 =>
 ((some p29.1).bind AV.asPtr).bind fun p30 =>
 ((some p29.2).bind (AV.asInt .i64)).bind fun n31 =>
 cond (decide (n23 = n31)) (
 some (.bool ((!p22.isNone) == (decide (n23 = 0))), q28.2)) (
 some (.bool false, q28.2)))) := (kc _ h).trans (by kernel_rfl)
theorem klu (a1 : Int) (a2 : Int) (a3 : Int) (h : AH) : go (.fn F.kb5 [.int .i64 a1, .int .i64 a2, .int .i64 a3]) h =
 cond (decide (a1 ≥ a2)) (
 some (.bool (decide (a1 ≤ a3)), h)) (
 some (.bool false, h)) := (kc _ h).trans (by kernel_rfl)
theorem kol  (h : AH) : go (.fn F.ke9 []) h =
 newK h (.cells [.bool true, .int .i64 3, .int .i64 0, .int .i64 0, .int .i64 0, .int .i64 0, .int .i64 0] T.ki) fun h1r h1 =>
 newK h1 (.cells [(⟨some h1r, 1, .is 1⟩ : Sl).v] T.kx) fun h2r h2 =>
 newK h2 (.cells [.int .i64 5, .int .i64 6] T.int) fun h3r h3 =>
 (go (.fn F.kb7 [.agg [(⟨some h2r, 1, .is 1⟩ : Sl).v], .int .i64 1, .agg [(⟨some h3r, 2, .is 2⟩ : Sl).v, (⟨none, 0, .is 0⟩ : Sl).v, (⟨none, 0, .is 0⟩ : Sl).v]]) h3).bind fun q4 =>
 (AV.asTup2 q4.1).bind fun p5 =>
 ((some p5.1).bind AV.asPtr).bind fun p6 =>
 ((some p5.2).bind (AV.asInt .i64)).bind fun n7 =>
 cond (!decide (n7 = 0)) (
 some (.bool false, q4.2)) (
 cond p6.isNone (
 some (.bool false, q4.2)) (
 (go (.fn F.kfx [.ptr p6]) q4.2).bind fun q8 =>
 (AV.asTup2 q8.1).bind fun p9 =>
 ((some p9.1).bind AV.asSl).bind fun l10 =>
 ((some p9.2).bind AV.asBool).bind fun b11 =>
 cond b11 (
 cond (decide ((l10.len : Int) = 2)) (
 (idx l10.ref l10.len 0 1).bind fun r12 =>
 ((q8.2.cell r12).bind (AV.asInt .i64)).bind fun n13 =>
 cond (decide (n13 = 3)) (
 (idx l10.ref l10.len 1 1).bind fun r14 =>
 ((q8.2.cell r14).bind (AV.asInt .i64)).bind fun n15 =>
 some (.bool (decide (n15 = 3)), q8.2)) (
 some (.bool false, q8.2))) (
 some (.bool false, q8.2))) (
 some (.bool false, q8.2)))) := (kc _ h).trans (by kernel_rfl)
theorem klg (a1 : Sl) (a2 : Sl) (a3 : Sl) (a4 : Sl) (h : AH) : go (.fn F.kb8 [.agg [a1.v], .agg [a2.v, a3.v, a4.v]]) h =
 newK h (.cells [a1.v] T.kw) fun h5r h5 =>
 newK h5 (.cells [a2.v, a3.v, a4.v] T.kr) fun h6r h6 =>
 ((h6.cell (h6r.add 0)).bind AV.asSl).bind fun l7 =>
 go (.pt F.kb8 Td.kdl [(2, .ptr (some h5r)), (3, .ptr (some h6r)), (5, .int .i64 (l7.len : Int)), (6, .int .i64 0)]) h6 := (kc _ h).trans (by kernel_rfl)
theorem kjp (a1 : Sl) (a2 : Int) (a3 : Sl) (a4 : Sl) (a5 : Sl) (h : AH) : go (.fn F.kb7 [.agg [a1.v], .int .i64 a2, .agg [a3.v, a4.v, a5.v]]) h =
 newK h (.cells [a1.v] T.kw) fun h6r h6 =>
 newK h6 (.cells [.int .i64 a2] T.int) fun h7r h7 =>
 newK h7 (.cells [a3.v, a4.v, a5.v] T.kr) fun h8r h8 =>
 ((h8.cell (h6r.add 0)).bind AV.asSl).bind fun l9 =>
 (go (.fn F.kbg [.agg [l9.v]]) h8).bind fun q10 =>
 ((some q10.1).bind AV.asBool).bind fun b11 =>
 cond (!b11) (
 some (.tup [.ptr none, .int .i64 1], q10.2)) (
 ((q10.2.cell h7r).bind (AV.asInt .i64)).bind fun n12 =>
 cond (decide (n12 < 1)) (
 some (.tup [.ptr none, .int .i64 1], q10.2)) (
 ((q10.2.cell h7r).bind (AV.asInt .i64)).bind fun n13 =>
 cond (decide (n13 > 16)) (
 some (.tup [.ptr none, .int .i64 1], q10.2)) (
 ((q10.2.cell (h8r.add 0)).bind AV.asSl).bind fun l14 =>
 ((q10.2.cell (h8r.add 1)).bind AV.asSl).bind fun l15 =>
 ((q10.2.cell (h8r.add 2)).bind AV.asSl).bind fun l16 =>
 (go (.fn F.kcj [.agg [l14.v, l15.v, l16.v]]) q10.2).bind fun q17 =>
 ((some q17.1).bind AV.asBool).bind fun b18 =>
 cond (!b18) (
 some (.tup [.ptr none, .int .i64 20], q17.2)) (
 ((q17.2.cell (h8r.add 0)).bind AV.asSl).bind fun l19 =>
 ((q17.2.cell (h8r.add 1)).bind AV.asSl).bind fun l20 =>
 ((q17.2.cell (h8r.add 2)).bind AV.asSl).bind fun l21 =>
 ((q17.2.cell (h8r.add 0)).bind AV.asSl).bind fun l22 =>
 (kb4 (l22.len : Int) (l22.len : Int) T.int (Pg.bytesOf T.int) [.int .i64 0] q17.2).bind fun q23 =>
 whenK (SameAt q17.2 q23.2 h8r 3) (
 newK q23.2 (.cells [(⟨none, 0, .is 0⟩ : Sl).v, l19.v, l20.v, l21.v, .int .i64 0, .int .i64 0, .int .i64 0, q23.1.v] T.kbd) fun h24r h24 =>
 ((h24.cell (h6r.add 0)).bind AV.asSl).bind fun l25 =>
 go (.pt F.kb7 Td.kex [(8, .func (.func F.ku) [] [.ptr (some h7r), .ptr (some h8r)]), (9, .ptr (some h24r)), (37, l25.v), (38, .int .i64 (l25.len : Int)), (39, .int .i64 0)]) h24))))) := (kc _ h).trans (by kernel_rfl)
theorem kl3 (a1 : Sl) (a2 : Int) (a3 : Sl) (a4 : Sl) (a5 : Sl) (h : AH) : go (.fn F.kv [.agg [a1.v], .int .i64 a2, .agg [a3.v, a4.v, a5.v]]) h =
 newK h (.cells [a1.v] T.kw) fun h6r h6 =>
 newK h6 (.cells [a3.v, a4.v, a5.v] T.kr) fun h7r h7 =>
 ((h7.cell (h6r.add 0)).bind AV.asSl).bind fun l8 =>
 (go (.fn F.kbb [.agg [l8.v]]) h7).bind fun q9 =>
 ((some q9.1).bind AV.asBool).bind fun b10 =>
 cond (!b10) (
 some (.tup [.ptr none, .int .i64 1], q9.2)) (
 cond (decide (a2 < 1)) (
 some (.tup [.ptr none, .int .i64 1], q9.2)) (
 cond (decide (a2 > 16)) (
 some (.tup [.ptr none, .int .i64 1], q9.2)) (
 ((q9.2.cell (h7r.add 0)).bind AV.asSl).bind fun l11 =>
 ((q9.2.cell (h7r.add 1)).bind AV.asSl).bind fun l12 =>
 ((q9.2.cell (h7r.add 2)).bind AV.asSl).bind fun l13 =>
 (go (.fn F.kbe [.agg [l11.v, l12.v, l13.v]]) q9.2).bind fun q14 =>
 ((some q14.1).bind AV.asBool).bind fun b15 =>
 cond (!b15) (
 some (.tup [.ptr none, .int .i64 20], q14.2)) (
 go (.pt F.kv Td.kc7 [(1, .int .i64 a2), (3, .ptr (some h6r)), (5, .ptr (some h7r)), (10, .int .i64 0)]) q14.2)))) := (kc _ h).trans (by kernel_rfl)
theorem kjd (a1 : Option Ref) (h : AH) : go (.fn F.kfx [.ptr a1]) h =
 a1.bind fun r2 =>
 ((h.cell (r2.add 7)).bind AV.asSl).bind fun l3 =>
 a1.bind fun r4 =>
 ((h.cell ((r4.add 4).add 0)).bind (AV.asInt .i64)).bind fun n5 =>
 ((h.cell ((r4.add 4).add 1)).bind (AV.asInt .i64)).bind fun n6 =>
 ((h.cell ((r4.add 4).add 2)).bind (AV.asInt .i64)).bind fun n7 =>
 (go (.fn F.kfv [l3.v]) h).bind fun q8 =>
 ((some q8.1).bind AV.asSl).bind fun l9 =>
 whenK (SameAt h q8.2 (r4.add 4) 3) (
 (go (.fn F.keq [.ptr a1]) q8.2).bind fun q10 =>
 (AV.asAgg q10.1).bind fun cs11 =>
 cond (Nat.beq cs11.length 3) (
 ((cs11[0]?).bind (AV.asInt .i64)).bind fun n12 =>
 ((cs11[1]?).bind (AV.asInt .i64)).bind fun n13 =>
 ((cs11[2]?).bind (AV.asInt .i64)).bind fun n14 =>
 whenK (SameAt q8.2 q10.2 (r4.add 4) 3) (
 some (.tup [l9.v, .bool ((decide (n5 = n12)) && ((decide (n6 = n13)) && ((decide (n7 = n14)) && true)))], q10.2))) none) := (kc _ h).trans (by kernel_rfl)
theorem kh2 (a1 : Ref) (a2 : Ref) (a3 : Int) (a4 : Int) (h : AH) : go (.pt F.kb8 Td.kdl [(2, .ptr (some a1)), (3, .ptr (some a2)), (5, .int .i64 a3), (6, .int .i64 a4)]) h =
 ((h.cell (a1.add 0)).bind AV.asSl).bind fun l5 =>
 cond (decide (a4 < (l5.len : Int))) (
 cond (decide (a4 < 20)) (
 ((h.cell (a1.add 0)).bind AV.asSl).bind fun l6 =>
 (idx l6.ref l6.len a4 1).bind fun r7 =>
 ((h.cell (r7.add 0)).bind AV.asSl).bind fun l8 =>
 go (.pt F.kb8 Td.kdl [(2, .ptr (some a1)), (3, .ptr (some a2)), (5, .int .i64 (IntKind.wrap .i64 (a3 + (l8.len : Int)))), (6, .int .i64 (IntKind.wrap .i64 (a4 + 1)))]) h) (
 cond (decide (a3 < 1500)) (
 ((h.cell (a1.add 0)).bind AV.asSl).bind fun l9 =>
 cond (decide ((l9.len : Int) < 20)) (
 ((h.cell (a2.add 0)).bind AV.asSl).bind fun l10 =>
 ((h.cell (a2.add 0)).bind AV.asSl).bind fun l11 =>
 some (.bool (decide ((IntKind.wrap .i64 ((IntKind.wrap .i64 (a3 - (l10.len : Int))) * (l11.len : Int))) ≤ 60000)), h)) (
 some (.bool false, h))) (
 some (.bool false, h)))) (
 cond (decide (a3 < 1500)) (
 ((h.cell (a1.add 0)).bind AV.asSl).bind fun l12 =>
 cond (decide ((l12.len : Int) < 20)) (
 ((h.cell (a2.add 0)).bind AV.asSl).bind fun l13 =>
 ((h.cell (a2.add 0)).bind AV.asSl).bind fun l14 =>
 some (.bool (decide ((IntKind.wrap .i64 ((IntKind.wrap .i64 (a3 - (l13.len : Int))) * (l14.len : Int))) ≤ 60000)), h)) (
 some (.bool false, h))) (
 some (.bool false, h))) := (kc _ h).trans (by kernel_rfl)
theorem kjk (a1 : Sl) (h : AH) : go (.fn F.kbg [.agg [a1.v]]) h =
 newK h (.cells [a1.v] T.kw) fun h2r h2 =>
 ((h2.cell (h2r.add 0)).bind AV.asSl).bind fun l3 =>
 cond (decide ((l3.len : Int) > 16)) (
 some (.bool false, h2)) (
 ((h2.cell (h2r.add 0)).bind AV.asSl).bind fun l4 =>
 go (.pt F.kbg Td.kc1 [(12, l4.v), (13, .int .i64 (l4.len : Int)), (14, .int .i64 0)]) h2) := (kc _ h).trans (by kernel_rfl)
theorem kjl (a1 : Sl) (a2 : Sl) (a3 : Sl) (h : AH) : go (.fn F.kcj [.agg [a1.v, a2.v, a3.v]]) h =
 newK h (.cells [a1.v, a2.v, a3.v] T.kr) fun h4r h4 =>
 ((h4.cell (h4r.add 0)).bind AV.asSl).bind fun l5 =>
 (go (.fn F.kf0 [l5.v]) h4).bind fun q6 =>
 ((some q6.1).bind AV.asBool).bind fun b7 =>
 cond (!b7) (
 some (.bool false, q6.2)) (
 ((q6.2.cell (h4r.add 2)).bind AV.asSl).bind fun l8 =>
 cond (decide ((l8.len : Int) > 16)) (
 some (.bool false, q6.2)) (
 ((q6.2.cell (h4r.add 1)).bind AV.asSl).bind fun l9 =>
 ((q6.2.cell (h4r.add 2)).bind AV.asSl).bind fun l10 =>
 cond (!decide ((l9.len : Int) = (l10.len : Int))) (
 some (.bool false, q6.2)) (
 ((q6.2.cell (h4r.add 2)).bind AV.asSl).bind fun l11 =>
 go (.pt F.kcj Td.ket [(1, .ptr (some h4r)), (27, l11.v), (28, .int .i64 (l11.len : Int)), (29, .int .i64 0)]) q6.2))) := (kc _ h).trans (by kernel_rfl)
theorem kif (a1 : Ref) (a2 : Ref) (a3 : Ref) (a4 : Sl) (a5 : Int) (a6 : Int) (h : AH) : go (.pt F.kb7 Td.kex [(8, .func (.func F.ku) [] [.ptr (some a1), .ptr (some a2)]), (9, .ptr (some a3)), (37, a4.v), (38, .int .i64 a5), (39, .int .i64 a6)]) h =
 cond (decide (a6 < a5)) (
 (idx a4.ref a4.len a6 1).bind fun r7 =>
 ((h.cell (r7.add 0)).bind AV.asSl).bind fun l8 =>
 newK h (.cells [(⟨none, 0, .is 0⟩ : Sl).v] T.kx) fun h9r h9 =>
 (h9.puts h9r [l8.v]).bind fun h10 =>
 ((h10.cell (h9r.add 0)).bind AV.asSl).bind fun l11 =>
 (go (.fn F.kfw [l11.v, .func (.func F.ku) [] [.ptr (some a1), .ptr (some a2)]]) h10).bind fun q12 =>
 ((some q12.1).bind AV.asBool).bind fun b13 =>
 cond b13 (
 some (.tup [.ptr none, .int .i64 1], q12.2)) (
 ((q12.2.cell (a3.add 0)).bind AV.asSl).bind fun l14 =>
 ((q12.2.cell (h9r.add 0)).bind AV.asSl).bind fun l15 =>
 (go (.fn F.kfk [l15.v]) q12.2).bind fun q16 =>
 ((some q16.1).bind AV.asSl).bind fun l17 =>
 whenK (SameAt q12.2 q16.2 (a3.add 0) 1) (
 newK q16.2 (.cells [l17.v] T.kx) fun h18r h18 =>
 whenK (SameAt q16.2 h18 (a3.add 0) 1) (
 (kbo Pg T.kx ((⟨some h18r, 1, .is 1⟩ : Sl).v) h18).bind fun p20 =>
 (ks Pg l14 p20.1 p20.2 T.kx 1 h18).bind fun q19 =>
 (AV.asSl q19.1).bind fun l21 =>
 (q19.2.puts (a3.add 0) [l21.v]).bind fun h22 =>
 go (.pt F.kb7 Td.kex [(8, .func (.func F.ku) [] [.ptr (some a1), .ptr (some a2)]), (9, .ptr (some a3)), (37, a4.v), (38, .int .i64 a5), (39, .int .i64 (IntKind.wrap .i64 (a6 + 1)))]) h22)))) (
 (go (.fn F.kbs [.ptr (some a3)]) h).bind fun q23 =>
 (AV.asTup0 q23.1).bind fun _ =>
 some (.tup [.ptr (some a3), .int .i64 0], q23.2)) := (kc _ h).trans (by kernel_rfl)
theorem klr (a1 : Sl) (h : AH) : go (.fn F.kbb [.agg [a1.v]]) h =
 newK h (.cells [a1.v] T.kw) fun h2r h2 =>
 ((h2.cell (h2r.add 0)).bind AV.asSl).bind fun l3 =>
 cond (decide ((l3.len : Int) > 16)) (
 some (.bool false, h2)) (
 go (.pt F.kbb Td.kc9 [(1, .ptr (some h2r)), (3, .int .i64 0)]) h2) := (kc _ h).trans (by kernel_rfl)
theorem kl7 (a1 : Sl) (a2 : Sl) (a3 : Sl) (h : AH) : go (.fn F.kbe [.agg [a1.v, a2.v, a3.v]]) h =
 newK h (.cells [a1.v, a2.v, a3.v] T.kr) fun h4r h4 =>
 ((h4.cell (h4r.add 0)).bind AV.asSl).bind fun l5 =>
 (go (.fn F.kcc [l5.v]) h4).bind fun q6 =>
 ((some q6.1).bind AV.asBool).bind fun b7 =>
 cond (!b7) (
 some (.bool false, q6.2)) (
 ((q6.2.cell (h4r.add 2)).bind AV.asSl).bind fun l8 =>
 cond (decide ((l8.len : Int) > 16)) (
 some (.bool false, q6.2)) (
 ((q6.2.cell (h4r.add 1)).bind AV.asSl).bind fun l9 =>
 ((q6.2.cell (h4r.add 2)).bind AV.asSl).bind fun l10 =>
 cond (!decide ((l9.len : Int) = (l10.len : Int))) (
 some (.bool false, q6.2)) (
 go (.pt F.kbe Td.kc3 [(1, .ptr (some h4r)), (4, .int .i64 0)]) q6.2))) := (kc _ h).trans (by kernel_rfl)
theorem kib (a1 : Int) (a2 : Ref) (a3 : Ref) (a4 : Int) (h : AH) : go (.pt F.kv Td.kc7 [(1, .int .i64 a1), (3, .ptr (some a2)), (5, .ptr (some a3)), (10, .int .i64 a4)]) h =
 ((h.cell (a2.add 0)).bind AV.asSl).bind fun l5 =>
 cond (decide (a4 < (l5.len : Int))) (
 go (.pt F.kv Td.kck [(1, .int .i64 a1), (3, .ptr (some a2)), (5, .ptr (some a3)), (10, .int .i64 a4), (11, .int .i64 0)]) h) (
 ((h.cell (a2.add 0)).bind AV.asSl).bind fun l6 =>
 ((h.cell (a3.add 0)).bind AV.asSl).bind fun l7 =>
 ((h.cell (a3.add 1)).bind AV.asSl).bind fun l8 =>
 ((h.cell (a3.add 2)).bind AV.asSl).bind fun l9 =>
 ((h.cell (a3.add 0)).bind AV.asSl).bind fun l10 =>
 (kb4 (l10.len : Int) (l10.len : Int) T.int (Pg.bytesOf T.int) [.int .i64 0] h).bind fun q11 =>
 whenK (SameAt h q11.2 a3 3) (
 whenK (SameAt h q11.2 a2 1) (
 newK q11.2 (.cells [l6.v, l7.v, l8.v, l9.v, .int .i64 0, .int .i64 0, .int .i64 0, q11.1.v] T.kbz) fun h12r h12 =>
 (go (.fn F.kbl [.ptr (some h12r)]) h12).bind fun q13 =>
 (AV.asTup0 q13.1).bind fun _ =>
 some (.tup [.ptr (some h12r), .int .i64 0], q13.2)))) := (kc _ h).trans (by kernel_rfl)
theorem knx (a1 : Sl) (h : AH) : go (.fn F.kfv [a1.v]) h =
 cond a1.ref.isNone (
 some ((⟨none, 0, .is 0⟩ : Sl).v, h)) (
 newK h (.cells [] T.int) fun h2r h2 =>
 (kbo Pg T.int a1.v h2).bind fun p4 =>
 (ks Pg (⟨some h2r, 0, .is 0⟩ : Sl) p4.1 p4.2 T.int 1 h2).bind fun q3 =>
 (AV.asSl q3.1).bind fun l5 =>
 some (l5.v, q3.2)) := (kc _ h).trans (by kernel_rfl)
theorem kj1 (a1 : Option Ref) (h : AH) : go (.fn F.keq [.ptr a1]) h =
 newK h (.cells [.int .i64 0, .int .i64 0, .int .i64 0] T.km5) fun h2r h2 =>
 a1.bind fun r3 =>
 ((h2.cell (r3.add 7)).bind AV.asSl).bind fun l4 =>
 (h2.puts h2r [.int .i64 (l4.len : Int), .int .i64 0, .int .i64 0]).bind fun h5 =>
 ((h5.cell (h2r.add 0)).bind (AV.asInt .i64)).bind fun n6 =>
 ((h5.cell (h2r.add 1)).bind (AV.asInt .i64)).bind fun n7 =>
 ((h5.cell (h2r.add 2)).bind (AV.asInt .i64)).bind fun n8 =>
 some (.agg [.int .i64 n6, .int .i64 n7, .int .i64 n8], h5) := (kc _ h).trans (by kernel_rfl)
theorem kho (a1 : Sl) (a2 : Int) (a3 : Int) (h : AH) : go (.pt F.kbg Td.kc1 [(12, a1.v), (13, .int .i64 a2), (14, .int .i64 a3)]) h =
 cond (decide (a3 < a2)) (
 (idx a1.ref a1.len a3 1).bind fun r4 =>
 ((h.cell (r4.add 0)).bind AV.asSl).bind fun l5 =>
 newK h (.cells [(⟨none, 0, .is 0⟩ : Sl).v] T.kx) fun h6r h6 =>
 (h6.puts h6r [l5.v]).bind fun h7 =>
 ((h7.cell (h6r.add 0)).bind AV.asSl).bind fun l8 =>
 cond (decide ((l8.len : Int) < 1)) (
 some (.bool false, h7)) (
 ((h7.cell (h6r.add 0)).bind AV.asSl).bind fun l9 =>
 cond (decide ((l9.len : Int) > 63)) (
 some (.bool false, h7)) (
 ((h7.cell (h6r.add 0)).bind AV.asSl).bind fun l10 =>
 go (.pt F.kbg Td.kek [(4, .ptr (some h6r)), (12, a1.v), (13, .int .i64 a2), (14, .int .i64 a3), (29, l10.v), (30, .int .i64 (l10.len : Int)), (31, .int .i64 0)]) h7))) (
 some (.bool true, h)) := (kc _ h).trans (by kernel_rfl)
theorem knd (a1 : Sl) (h : AH) : go (.fn F.kf0 [a1.v]) h =
 cond (decide ((a1.len : Int) ≤ 256)) (
 (go (.fn F.kco [a1.v, .func (.func F.kbh) [] []]) h).bind fun q2 =>
 ((some q2.1).bind AV.asBool).bind fun b3 =>
 cond (!b3) (
 (go (.fn F.kce [a1.v]) q2.2).bind fun q4 =>
 ((some q4.1).bind AV.asMap).bind fun m5 =>
 (mapLen q4.2 m5).bind fun n6 =>
 some (.bool (decide ((n6 : Int) = (a1.len : Int))), q4.2)) (
 some (.bool false, q2.2))) (
 some (.bool false, h)) := (kc _ h).trans (by kernel_rfl)
theorem kgo (a1 : Ref) (a2 : Sl) (a3 : Int) (a4 : Int) (h : AH) : go (.pt F.kcj Td.ket [(1, .ptr (some a1)), (27, a2.v), (28, .int .i64 a3), (29, .int .i64 a4)]) h =
 cond (decide (a4 < a3)) (
 (idx a2.ref a2.len a4 1).bind fun r5 =>
 ((h.cell r5).bind AV.asSl).bind fun l6 =>
 ((h.cell (a1.add 1)).bind AV.asSl).bind fun l7 =>
 (idx l7.ref l7.len a4 1).bind fun r8 =>
 ((h.cell r8).bind (AV.asInt .i64)).bind fun n9 =>
 newK h (.cells [.int .i64 0] T.int) fun h10r h10 =>
 (h10.puts h10r [.int .i64 n9]).bind fun h11 =>
 ((h11.cell h10r).bind (AV.asInt .i64)).bind fun n12 =>
 cond (decide (n12 < 2)) (
 some (.bool false, h11)) (
 ((h11.cell h10r).bind (AV.asInt .i64)).bind fun n13 =>
 cond (decide (n13 > 32)) (
 some (.bool false, h11)) (
 ((h11.cell (a1.add 0)).bind AV.asSl).bind fun l14 =>
 cond (!decide ((l6.len : Int) = (l14.len : Int))) (
 some (.bool false, h11)) (
 (go (.fn F.kco [l6.v, .func (.func F.kbi) [] [.ptr (some h10r)]]) h11).bind fun q15 =>
 ((some q15.1).bind AV.asBool).bind fun b16 =>
 cond b16 (
 some (.bool false, q15.2)) (
 go (.pt F.kcj Td.ket [(1, .ptr (some a1)), (27, a2.v), (28, .int .i64 a3), (29, .int .i64 (IntKind.wrap .i64 (a4 + 1)))]) q15.2))))) (
 some (.bool true, h)) := (kc _ h).trans (by kernel_rfl)
theorem kl1 (a1 : Sl) (a2 : Option Ref) (a3 : Option Ref) (h : AH) : go (.fn F.kfw [a1.v, .func (.func F.ku) [] [.ptr a2, .ptr a3]]) h =
 (go (.fn F.kcy [a1.v, .func (.func F.ku) [] [.ptr a2, .ptr a3]]) h).bind fun q4 =>
 ((some q4.1).bind (AV.asInt .i64)).bind fun n5 =>
 some (.bool (decide (n5 ≥ 0)), q4.2) := (kc _ h).trans (by kernel_rfl)
theorem kk1 (a1 : Sl) (h : AH) : go (.fn F.kfk [a1.v]) h =
 cond a1.ref.isNone (
 some ((⟨none, 0, .is 0⟩ : Sl).v, h)) (
 newK h (.cells [] T.ki) fun h2r h2 =>
 (kbo Pg T.ki a1.v h2).bind fun p4 =>
 (ks Pg (⟨some h2r, 0, .is 0⟩ : Sl) p4.1 p4.2 T.ki 7 h2).bind fun q3 =>
 (AV.asSl q3.1).bind fun l5 =>
 some (l5.v, q3.2)) := (kc _ h).trans (by kernel_rfl)
theorem kkj (a1 : Option Ref) (h : AH) : go (.fn F.kbs [.ptr a1]) h =
 go (.pt F.kbs Td.kb9 [(0, .ptr a1)]) h := (kc _ h).trans (by kernel_rfl)
theorem kgg (a1 : Ref) (a2 : Int) (h : AH) : go (.pt F.kbb Td.kc9 [(1, .ptr (some a1)), (3, .int .i64 a2)]) h =
 ((h.cell (a1.add 0)).bind AV.asSl).bind fun l3 =>
 cond (decide (a2 < (l3.len : Int))) (
 ((h.cell (a1.add 0)).bind AV.asSl).bind fun l4 =>
 (idx l4.ref l4.len a2 1).bind fun r5 =>
 ((h.cell (r5.add 0)).bind AV.asSl).bind fun l6 =>
 cond (decide ((l6.len : Int) < 1)) (
 some (.bool false, h)) (
 cond (decide ((l6.len : Int) > 63)) (
 some (.bool false, h)) (
 go (.pt F.kbb Td.kd4 [(1, .ptr (some a1)), (3, .int .i64 a2), (4, l6.v), (5, .int .i64 0)]) h))) (
 some (.bool true, h)) := (kc _ h).trans (by kernel_rfl)
theorem kk3 (a1 : Sl) (h : AH) : go (.fn F.kcc [a1.v]) h =
 cond (decide ((a1.len : Int) > 256)) (
 some (.bool false, h)) (
 go (.pt F.kcc Td.kdj [(0, a1.v), (3, .int .i64 0)]) h) := (kc _ h).trans (by kernel_rfl)
theorem kh5 (a1 : Ref) (a2 : Int) (h : AH) : go (.pt F.kbe Td.kc3 [(1, .ptr (some a1)), (4, .int .i64 a2)]) h =
 ((h.cell (a1.add 2)).bind AV.asSl).bind fun l3 =>
 cond (decide (a2 < (l3.len : Int))) (
 ((h.cell (a1.add 1)).bind AV.asSl).bind fun l4 =>
 (idx l4.ref l4.len a2 1).bind fun r5 =>
 ((h.cell r5).bind (AV.asInt .i64)).bind fun n6 =>
 cond (decide (n6 < 2)) (
 some (.bool false, h)) (
 ((h.cell (a1.add 1)).bind AV.asSl).bind fun l7 =>
 (idx l7.ref l7.len a2 1).bind fun r8 =>
 ((h.cell r8).bind (AV.asInt .i64)).bind fun n9 =>
 cond (decide (n9 > 32)) (
 some (.bool false, h)) (
 ((h.cell (a1.add 2)).bind AV.asSl).bind fun l10 =>
 (idx l10.ref l10.len a2 1).bind fun r11 =>
 ((h.cell r11).bind AV.asSl).bind fun l12 =>
 ((h.cell (a1.add 0)).bind AV.asSl).bind fun l13 =>
 cond (!decide ((l12.len : Int) = (l13.len : Int))) (
 some (.bool false, h)) (
 go (.pt F.kbe Td.ked [(1, .ptr (some a1)), (4, .int .i64 a2), (5, .int .i64 0)]) h)))) (
 some (.bool true, h)) := (kc _ h).trans (by kernel_rfl)
theorem khs (a1 : Int) (a2 : Ref) (a3 : Ref) (a4 : Int) (a5 : Int) (h : AH) : go (.pt F.kv Td.kck [(1, .int .i64 a1), (3, .ptr (some a2)), (5, .ptr (some a3)), (10, .int .i64 a4), (11, .int .i64 a5)]) h =
 ((h.cell (a2.add 0)).bind AV.asSl).bind fun l6 =>
 (idx l6.ref l6.len a4 1).bind fun r7 =>
 ((h.cell (r7.add 0)).bind AV.asSl).bind fun l8 =>
 cond (decide (a5 < (l8.len : Int))) (
 ((h.cell (a2.add 0)).bind AV.asSl).bind fun l9 =>
 (idx l9.ref l9.len a4 1).bind fun r10 =>
 ((h.cell (r10.add 0)).bind AV.asSl).bind fun l11 =>
 (idx l11.ref l11.len a5 7).bind fun r12 =>
 ((h.cell (r12.add 0)).bind AV.asBool).bind fun b13 =>
 ((h.cell (r12.add 1)).bind (AV.asInt .i64)).bind fun n14 =>
 ((h.cell (r12.add 2)).bind (AV.asInt .i64)).bind fun n15 =>
 ((h.cell (r12.add 3)).bind (AV.asInt .i64)).bind fun n16 =>
 ((h.cell (r12.add 4)).bind (AV.asInt .i64)).bind fun n17 =>
 ((h.cell (r12.add 5)).bind (AV.asInt .i64)).bind fun n18 =>
 ((h.cell (r12.add 6)).bind (AV.asInt .i64)).bind fun n19 =>
 newK h (.cells [.bool false, .int .i64 0, .int .i64 0, .int .i64 0, .int .i64 0, .int .i64 0, .int .i64 0] T.ki) fun h20r h20 =>
 (h20.puts h20r [.bool b13, .int .i64 n14, .int .i64 n15, .int .i64 n16, .int .i64 n17, .int .i64 n18, .int .i64 n19]).bind fun h21 =>
 ((h21.cell (h20r.add 0)).bind AV.asBool).bind fun b22 =>
 cond (!b22) (
 ((h21.cell (h20r.add 2)).bind (AV.asInt .i64)).bind fun n23 =>
 cond (decide (n23 ≥ a1)) (
 some (.tup [.ptr none, .int .i64 1], h21)) (
 ((h21.cell (h20r.add 2)).bind (AV.asInt .i64)).bind fun n24 =>
 cond (decide (n24 = 0)) (
 ((h21.cell (h20r.add 3)).bind (AV.asInt .i64)).bind fun n25 =>
 ((h21.cell (a3.add 2)).bind AV.asSl).bind fun l26 =>
 cond (decide (n25 ≥ (l26.len : Int))) (
 some (.tup [.ptr none, .int .i64 1], h21)) (
 go (.pt F.kv Td.kck [(1, .int .i64 a1), (3, .ptr (some a2)), (5, .ptr (some a3)), (10, .int .i64 a4), (11, .int .i64 (IntKind.wrap .i64 (a5 + 1)))]) h21)) (
 go (.pt F.kv Td.kck [(1, .int .i64 a1), (3, .ptr (some a2)), (5, .ptr (some a3)), (10, .int .i64 a4), (11, .int .i64 (IntKind.wrap .i64 (a5 + 1)))]) h21))) (
 go (.pt F.kv Td.kck [(1, .int .i64 a1), (3, .ptr (some a2)), (5, .ptr (some a3)), (10, .int .i64 a4), (11, .int .i64 (IntKind.wrap .i64 (a5 + 1)))]) h21)) (
 go (.pt F.kv Td.kc7 [(1, .int .i64 a1), (3, .ptr (some a2)), (5, .ptr (some a3)), (10, .int .i64 (IntKind.wrap .i64 (a4 + 1)))]) h) := (kc _ h).trans (by kernel_rfl)
theorem klc (a1 : Option Ref) (h : AH) : go (.fn F.kbl [.ptr a1]) h =
 go (.pt F.kbl Td.kb0 [(0, .ptr a1)]) h := (kc _ h).trans (by kernel_rfl)
theorem kju (a1 : Option Ref) (h : AH) : go (.fn F.kf2 [.ptr a1]) h =
 newK h (.cells [.bool false, .int .i64 0, .int .i64 0, .int .i64 0, .int .i64 0, .int .i64 0, .int .i64 0] T.ki) fun h2r h2 =>
 a1.bind fun r3 =>
 ((h2.cell (r3.add 0)).bind AV.asSl).bind fun l4 =>
 a1.bind fun r5 =>
 (idx (some (r5.add 4)) 3 1 1).bind fun r6 =>
 ((h2.cell r6).bind (AV.asInt .i64)).bind fun n7 =>
 (idx l4.ref l4.len n7 1).bind fun r8 =>
 ((h2.cell (r8.add 0)).bind AV.asSl).bind fun l9 =>
 a1.bind fun r10 =>
 (idx (some (r10.add 4)) 3 2 1).bind fun r11 =>
 ((h2.cell r11).bind (AV.asInt .i64)).bind fun n12 =>
 (idx l9.ref l9.len n12 7).bind fun r13 =>
 ((h2.cell (r13.add 0)).bind AV.asBool).bind fun b14 =>
 ((h2.cell (r13.add 1)).bind (AV.asInt .i64)).bind fun n15 =>
 ((h2.cell (r13.add 2)).bind (AV.asInt .i64)).bind fun n16 =>
 ((h2.cell (r13.add 3)).bind (AV.asInt .i64)).bind fun n17 =>
 ((h2.cell (r13.add 4)).bind (AV.asInt .i64)).bind fun n18 =>
 ((h2.cell (r13.add 5)).bind (AV.asInt .i64)).bind fun n19 =>
 ((h2.cell (r13.add 6)).bind (AV.asInt .i64)).bind fun n20 =>
 (h2.puts h2r [.bool b14, .int .i64 n15, .int .i64 n16, .int .i64 n17, .int .i64 n18, .int .i64 n19, .int .i64 n20]).bind fun h21 =>
 ((h21.cell (h2r.add 0)).bind AV.asBool).bind fun b22 =>
 ((h21.cell (h2r.add 1)).bind (AV.asInt .i64)).bind fun n23 =>
 ((h21.cell (h2r.add 2)).bind (AV.asInt .i64)).bind fun n24 =>
 ((h21.cell (h2r.add 3)).bind (AV.asInt .i64)).bind fun n25 =>
 ((h21.cell (h2r.add 4)).bind (AV.asInt .i64)).bind fun n26 =>
 ((h21.cell (h2r.add 5)).bind (AV.asInt .i64)).bind fun n27 =>
 ((h21.cell (h2r.add 6)).bind (AV.asInt .i64)).bind fun n28 =>
 some (.agg [.bool b22, .int .i64 n23, .int .i64 n24, .int .i64 n25, .int .i64 n26, .int .i64 n27, .int .i64 n28], h21) := (kc _ h).trans (by kernel_rfl)
theorem kgi (a1 : Ref) (a2 : Sl) (a3 : Int) (a4 : Int) (a5 : Sl) (a6 : Int) (a7 : Int) (h : AH) : go (.pt F.kbg Td.kek [(4, .ptr (some a1)), (12, a2.v), (13, .int .i64 a3), (14, .int .i64 a4), (29, a5.v), (30, .int .i64 a6), (31, .int .i64 a7)]) h =
 cond (decide (a7 < a6)) (
 (idx a5.ref a5.len a7 7).bind fun r8 =>
 ((h.cell (r8.add 0)).bind AV.asBool).bind fun b9 =>
 ((h.cell (r8.add 1)).bind (AV.asInt .i64)).bind fun n10 =>
 ((h.cell (r8.add 2)).bind (AV.asInt .i64)).bind fun n11 =>
 ((h.cell (r8.add 3)).bind (AV.asInt .i64)).bind fun n12 =>
 ((h.cell (r8.add 4)).bind (AV.asInt .i64)).bind fun n13 =>
 ((h.cell (r8.add 5)).bind (AV.asInt .i64)).bind fun n14 =>
 ((h.cell (r8.add 6)).bind (AV.asInt .i64)).bind fun n15 =>
 newK h (.cells [.bool false, .int .i64 0, .int .i64 0, .int .i64 0, .int .i64 0, .int .i64 0, .int .i64 0] T.ki) fun h16r h16 =>
 (h16.puts h16r [.bool b9, .int .i64 n10, .int .i64 n11, .int .i64 n12, .int .i64 n13, .int .i64 n14, .int .i64 n15]).bind fun h17 =>
 ((h17.cell (h16r.add 0)).bind AV.asBool).bind fun b18 =>
 ((h17.cell (h16r.add 1)).bind (AV.asInt .i64)).bind fun n19 =>
 ((h17.cell (h16r.add 2)).bind (AV.asInt .i64)).bind fun n20 =>
 ((h17.cell (h16r.add 3)).bind (AV.asInt .i64)).bind fun n21 =>
 ((h17.cell (h16r.add 4)).bind (AV.asInt .i64)).bind fun n22 =>
 ((h17.cell (h16r.add 5)).bind (AV.asInt .i64)).bind fun n23 =>
 ((h17.cell (h16r.add 6)).bind (AV.asInt .i64)).bind fun n24 =>
 ((h17.cell (a1.add 0)).bind AV.asSl).bind fun l25 =>
 (go (.fn F.kd9 [.agg [.bool b18, .int .i64 n19, .int .i64 n20, .int .i64 n21, .int .i64 n22, .int .i64 n23, .int .i64 n24], .int .i64 a7, .int .i64 (l25.len : Int)]) h17).bind fun q26 =>
 ((some q26.1).bind AV.asBool).bind fun b27 =>
 cond (!b27) (
 some (.bool false, q26.2)) (
 go (.pt F.kbg Td.kek [(4, .ptr (some a1)), (12, a2.v), (13, .int .i64 a3), (14, .int .i64 a4), (29, a5.v), (30, .int .i64 a6), (31, .int .i64 (IntKind.wrap .i64 (a7 + 1)))]) q26.2)) (
 go (.pt F.kbg Td.kc1 [(12, a2.v), (13, .int .i64 a3), (14, .int .i64 (IntKind.wrap .i64 (a4 + 1)))]) h) := (kc _ h).trans (by kernel_rfl)
theorem kk7 (a1 : Sl) (h : AH) : go (.fn F.kco [a1.v, .func (.func F.kbh) [] []]) h =
 (go (.fn F.kbc [a1.v, .func (.func F.kbh) [] []]) h).bind fun q2 =>
 ((some q2.1).bind (AV.asInt .i64)).bind fun n3 =>
 some (.bool (decide (n3 ≥ 0)), q2.2) := (kc _ h).trans (by kernel_rfl)
theorem kof (a1 : Sl) (h : AH) : go (.fn F.kce [a1.v]) h =
 newM h (.map [] 0) fun h2m h2 =>
 go (.pt F.kce Td.kd8 [(3, .map (some h2m)), (7, a1.v), (8, .int .i64 (a1.len : Int)), (9, .int .i64 0)]) h2 := (kc _ h).trans (by kernel_rfl)
theorem kkm (a1 : Sl) (a2 : Option Ref) (h : AH) : go (.fn F.kco [a1.v, .func (.func F.kbi) [] [.ptr a2]]) h =
 (go (.fn F.kbc [a1.v, .func (.func F.kbi) [] [.ptr a2]]) h).bind fun q3 =>
 ((some q3.1).bind (AV.asInt .i64)).bind fun n4 =>
 some (.bool (decide (n4 ≥ 0)), q3.2) := (kc _ h).trans (by kernel_rfl)
theorem kjf (a1 : Sl) (a2 : Option Ref) (a3 : Option Ref) (h : AH) : go (.fn F.kcy [a1.v, .func (.func F.ku) [] [.ptr a2, .ptr a3]]) h =
 go (.pt F.kcy Td.kdk [(0, a1.v), (1, .func (.func F.ku) [] [.ptr a2, .ptr a3]), (7, .int .i64 (a1.len : Int)), (8, .int .i64 0)]) h := (kc _ h).trans (by kernel_rfl)
theorem kkl (a1 : Option Ref) (h : AH) : go (.pt F.kbs Td.kb9 [(0, .ptr a1)]) h =
 a1.bind fun r2 =>
 ((h.cell ((r2.add 4).add 0)).bind (AV.asInt .i64)).bind fun n3 =>
 ((h.cell ((r2.add 4).add 1)).bind (AV.asInt .i64)).bind fun n4 =>
 ((h.cell ((r2.add 4).add 2)).bind (AV.asInt .i64)).bind fun n5 =>
 (go (.fn F.keq [.ptr a1]) h).bind fun q6 =>
 (AV.asAgg q6.1).bind fun cs7 =>
 cond (Nat.beq cs7.length 3) (
 ((cs7[0]?).bind (AV.asInt .i64)).bind fun n8 =>
 ((cs7[1]?).bind (AV.asInt .i64)).bind fun n9 =>
 ((cs7[2]?).bind (AV.asInt .i64)).bind fun n10 =>
 whenK (SameAt h q6.2 (r2.add 4) 3) (
 cond (!((decide (n3 = n8)) && ((decide (n4 = n9)) && ((decide (n5 = n10)) && true)))) (
 a1.bind fun r11 =>
 (idx (some (r11.add 4)) 3 1 1).bind fun r12 =>
 ((q6.2.cell r12).bind (AV.asInt .i64)).bind fun n13 =>
 a1.bind fun r14 =>
 ((q6.2.cell (r14.add 0)).bind AV.asSl).bind fun l15 =>
 cond (decide (n13 = (l15.len : Int))) (
 a1.bind fun r16 =>
 (idx (some (r16.add 4)) 3 0 1).bind fun r17 =>
 ((q6.2.cell r17).bind (AV.asInt .i64)).bind fun n18 =>
 a1.bind fun r19 =>
 (q6.2.puts (r19.add 4) [.int .i64 (IntKind.wrap .i64 (n18 + 1)), .int .i64 0, .int .i64 0]).bind fun h20 =>
 go (.pt F.kbs Td.kb9 [(0, .ptr a1)]) h20) (
 (go (.fn F.kf2 [.ptr a1]) q6.2).bind fun q21 =>
 (AV.asAgg q21.1).bind fun cs22 =>
 cond (Nat.beq cs22.length 7) (
 ((cs22[0]?).bind AV.asBool).bind fun b23 =>
 ((cs22[1]?).bind (AV.asInt .i64)).bind fun n24 =>
 ((cs22[2]?).bind (AV.asInt .i64)).bind fun n25 =>
 ((cs22[3]?).bind (AV.asInt .i64)).bind fun n26 =>
 ((cs22[4]?).bind (AV.asInt .i64)).bind fun n27 =>
 ((cs22[5]?).bind (AV.asInt .i64)).bind fun n28 =>
 ((cs22[6]?).bind (AV.asInt .i64)).bind fun n29 =>
 newK q21.2 (.cells [.bool false, .int .i64 0, .int .i64 0, .int .i64 0, .int .i64 0, .int .i64 0, .int .i64 0] T.ki) fun h30r h30 =>
 (h30.puts h30r [.bool b23, .int .i64 n24, .int .i64 n25, .int .i64 n26, .int .i64 n27, .int .i64 n28, .int .i64 n29]).bind fun h31 =>
 ((h31.cell (h30r.add 0)).bind AV.asBool).bind fun b32 =>
 cond b32 (
 a1.bind fun r33 =>
 ((h31.cell (r33.add 7)).bind AV.asSl).bind fun l34 =>
 a1.bind fun r35 =>
 (idx (some (r35.add 4)) 3 0 1).bind fun r36 =>
 ((h31.cell r36).bind (AV.asInt .i64)).bind fun n37 =>
 (idx l34.ref l34.len n37 1).bind fun r38 =>
 ((h31.cell r38).bind (AV.asInt .i64)).bind fun n39 =>
 ((h31.cell (h30r.add 1)).bind (AV.asInt .i64)).bind fun n40 =>
 (idx l34.ref l34.len n37 1).bind fun r41 =>
 (h31.puts r41 [.int .i64 (IntKind.wrap .i64 (n39 + n40))]).bind fun h42 =>
 a1.bind fun r43 =>
 (idx (some (r43.add 4)) 3 0 1).bind fun r44 =>
 ((h42.cell r44).bind (AV.asInt .i64)).bind fun n45 =>
 a1.bind fun r46 =>
 (idx (some (r46.add 4)) 3 1 1).bind fun r47 =>
 ((h42.cell r47).bind (AV.asInt .i64)).bind fun n48 =>
 a1.bind fun r49 =>
 (h42.puts (r49.add 4) [.int .i64 n45, .int .i64 (IntKind.wrap .i64 (n48 + 1)), .int .i64 0]).bind fun h50 =>
 go (.pt F.kbs Td.kb9 [(0, .ptr a1)]) h50) (
 ((h31.cell (h30r.add 2)).bind (AV.asInt .i64)).bind fun n51 =>
 cond (!decide (n51 = 0)) (
 some (.tup [], h31)) (
 ((h31.cell (h30r.add 0)).bind AV.asBool).bind fun b52 =>
 ((h31.cell (h30r.add 1)).bind (AV.asInt .i64)).bind fun n53 =>
 ((h31.cell (h30r.add 2)).bind (AV.asInt .i64)).bind fun n54 =>
 ((h31.cell (h30r.add 3)).bind (AV.asInt .i64)).bind fun n55 =>
 ((h31.cell (h30r.add 4)).bind (AV.asInt .i64)).bind fun n56 =>
 ((h31.cell (h30r.add 5)).bind (AV.asInt .i64)).bind fun n57 =>
 ((h31.cell (h30r.add 6)).bind (AV.asInt .i64)).bind fun n58 =>
 a1.bind fun r59 =>
 ((h31.cell ((r59.add 1).add 2)).bind AV.asSl).bind fun l60 =>
 ((h31.cell (h30r.add 3)).bind (AV.asInt .i64)).bind fun n61 =>
 (idx l60.ref l60.len n61 1).bind fun r62 =>
 ((h31.cell r62).bind AV.asSl).bind fun l63 =>
 a1.bind fun r64 =>
 (idx (some (r64.add 4)) 3 0 1).bind fun r65 =>
 ((h31.cell r65).bind (AV.asInt .i64)).bind fun n66 =>
 (idx l63.ref l63.len n66 1).bind fun r67 =>
 ((h31.cell r67).bind (AV.asInt .i64)).bind fun n68 =>
 ((h31.cell (h30r.add 4)).bind (AV.asInt .i64)).bind fun n69 =>
 a1.bind fun r70 =>
 (go (.fn F.kdx [.agg [.bool b52, .int .i64 n53, .int .i64 n54, .int .i64 n55, .int .i64 n56, .int .i64 n57, .int .i64 n58], .bool (decide (n68 ≤ n69))]) h31).bind fun q71 =>
 ((some q71.1).bind (AV.asInt .i64)).bind fun n72 =>
 (idx (some (r70.add 4)) 3 2 1).bind fun r73 =>
 (q71.2.puts r73 [.int .i64 n72]).bind fun h74 =>
 go (.pt F.kbs Td.kb9 [(0, .ptr a1)]) h74))) none)) (
 some (.tup [], q6.2)))) none := (kc _ h).trans (by kernel_rfl)
theorem kg7 (a1 : Ref) (a2 : Int) (a3 : Sl) (a4 : Int) (h : AH) : go (.pt F.kbb Td.kd4 [(1, .ptr (some a1)), (3, .int .i64 a2), (4, a3.v), (5, .int .i64 a4)]) h =
 cond (decide (a4 < (a3.len : Int))) (
 (idx a3.ref a3.len a4 7).bind fun r5 =>
 ((h.cell (r5.add 0)).bind AV.asBool).bind fun b6 =>
 ((h.cell (r5.add 1)).bind (AV.asInt .i64)).bind fun n7 =>
 ((h.cell (r5.add 2)).bind (AV.asInt .i64)).bind fun n8 =>
 ((h.cell (r5.add 3)).bind (AV.asInt .i64)).bind fun n9 =>
 ((h.cell (r5.add 4)).bind (AV.asInt .i64)).bind fun n10 =>
 ((h.cell (r5.add 5)).bind (AV.asInt .i64)).bind fun n11 =>
 ((h.cell (r5.add 6)).bind (AV.asInt .i64)).bind fun n12 =>
 (go (.fn F.keo [.agg [.bool b6, .int .i64 n7, .int .i64 n8, .int .i64 n9, .int .i64 n10, .int .i64 n11, .int .i64 n12], .int .i64 a4, .int .i64 (a3.len : Int)]) h).bind fun q13 =>
 ((some q13.1).bind AV.asBool).bind fun b14 =>
 cond (!b14) (
 some (.bool false, q13.2)) (
 go (.pt F.kbb Td.kd4 [(1, .ptr (some a1)), (3, .int .i64 a2), (4, a3.v), (5, .int .i64 (IntKind.wrap .i64 (a4 + 1)))]) q13.2)) (
 go (.pt F.kbb Td.kc9 [(1, .ptr (some a1)), (3, .int .i64 (IntKind.wrap .i64 (a2 + 1)))]) h) := (kc _ h).trans (by kernel_rfl)
theorem kh1 (a1 : Sl) (a2 : Int) (h : AH) : go (.pt F.kcc Td.kdj [(0, a1.v), (3, .int .i64 a2)]) h =
 cond (decide (a2 < (a1.len : Int))) (
 (idx a1.ref a1.len a2 1).bind fun r3 =>
 ((h.cell r3).bind (AV.asInt .i64)).bind fun n4 =>
 cond (decide (n4 < 0)) (
 some (.bool false, h)) (
 (idx a1.ref a1.len a2 1).bind fun r5 =>
 ((h.cell r5).bind (AV.asInt .i64)).bind fun n6 =>
 cond (decide (n6 > 1073741824)) (
 some (.bool false, h)) (
 (idx a1.ref a1.len a2 1).bind fun r7 =>
 ((h.cell r7).bind (AV.asInt .i64)).bind fun n8 =>
 (go (.fn F.kci [a1.v, .int .i64 n8]) h).bind fun q9 =>
 ((some q9.1).bind (AV.asInt .i64)).bind fun n10 =>
 cond (!decide (n10 = a2)) (
 some (.bool false, q9.2)) (
 go (.pt F.kcc Td.kdj [(0, a1.v), (3, .int .i64 (IntKind.wrap .i64 (a2 + 1)))]) q9.2)))) (
 some (.bool true, h)) := (kc _ h).trans (by kernel_rfl)
theorem kg0 (a1 : Ref) (a2 : Int) (a3 : Int) (h : AH) : go (.pt F.kbe Td.ked [(1, .ptr (some a1)), (4, .int .i64 a2), (5, .int .i64 a3)]) h =
 ((h.cell (a1.add 0)).bind AV.asSl).bind fun l4 =>
 cond (decide (a3 < (l4.len : Int))) (
 ((h.cell (a1.add 2)).bind AV.asSl).bind fun l5 =>
 (idx l5.ref l5.len a2 1).bind fun r6 =>
 ((h.cell r6).bind AV.asSl).bind fun l7 =>
 (idx l7.ref l7.len a3 1).bind fun r8 =>
 ((h.cell r8).bind (AV.asInt .i64)).bind fun n9 =>
 cond (decide (n9 < 0)) (
 some (.bool false, h)) (
 ((h.cell (a1.add 2)).bind AV.asSl).bind fun l10 =>
 (idx l10.ref l10.len a2 1).bind fun r11 =>
 ((h.cell r11).bind AV.asSl).bind fun l12 =>
 (idx l12.ref l12.len a3 1).bind fun r13 =>
 ((h.cell r13).bind (AV.asInt .i64)).bind fun n14 =>
 ((h.cell (a1.add 1)).bind AV.asSl).bind fun l15 =>
 (idx l15.ref l15.len a2 1).bind fun r16 =>
 ((h.cell r16).bind (AV.asInt .i64)).bind fun n17 =>
 cond (decide (n14 ≥ n17)) (
 some (.bool false, h)) (
 go (.pt F.kbe Td.ked [(1, .ptr (some a1)), (4, .int .i64 a2), (5, .int .i64 (IntKind.wrap .i64 (a3 + 1)))]) h))) (
 go (.pt F.kbe Td.kc3 [(1, .ptr (some a1)), (4, .int .i64 (IntKind.wrap .i64 (a2 + 1)))]) h) := (kc _ h).trans (by kernel_rfl)
theorem knt (a1 : Option Ref) (h : AH) : go (.pt F.kbl Td.kb0 [(0, .ptr a1)]) h =
 a1.bind fun r2 =>
 ((h.cell (r2.add 4)).bind (AV.asInt .i64)).bind fun n3 =>
 a1.bind fun r4 =>
 ((h.cell ((r4.add 1).add 0)).bind AV.asSl).bind fun l5 =>
 cond (decide (n3 < (l5.len : Int))) (
 a1.bind fun r6 =>
 ((h.cell (r6.add 5)).bind (AV.asInt .i64)).bind fun n7 =>
 a1.bind fun r8 =>
 ((h.cell ((r8.add 0).add 0)).bind AV.asSl).bind fun l9 =>
 cond (decide (n7 ≥ (l9.len : Int))) (
 a1.bind fun r10 =>
 ((h.cell (r10.add 4)).bind (AV.asInt .i64)).bind fun n11 =>
 a1.bind fun r12 =>
 (h.puts (r12.add 4) [.int .i64 (IntKind.wrap .i64 (n11 + 1))]).bind fun h13 =>
 a1.bind fun r14 =>
 (h13.puts (r14.add 5) [.int .i64 0]).bind fun h15 =>
 a1.bind fun r16 =>
 (h15.puts (r16.add 6) [.int .i64 0]).bind fun h17 =>
 go (.pt F.kbl Td.kb0 [(0, .ptr a1)]) h17) (
 a1.bind fun r18 =>
 ((h.cell ((r18.add 0).add 0)).bind AV.asSl).bind fun l19 =>
 a1.bind fun r20 =>
 ((h.cell (r20.add 5)).bind (AV.asInt .i64)).bind fun n21 =>
 (idx l19.ref l19.len n21 1).bind fun r22 =>
 ((h.cell (r22.add 0)).bind AV.asSl).bind fun l23 =>
 a1.bind fun r24 =>
 ((h.cell (r24.add 6)).bind (AV.asInt .i64)).bind fun n25 =>
 (idx l23.ref l23.len n25 7).bind fun r26 =>
 ((h.cell (r26.add 0)).bind AV.asBool).bind fun b27 =>
 ((h.cell (r26.add 1)).bind (AV.asInt .i64)).bind fun n28 =>
 ((h.cell (r26.add 2)).bind (AV.asInt .i64)).bind fun n29 =>
 ((h.cell (r26.add 3)).bind (AV.asInt .i64)).bind fun n30 =>
 ((h.cell (r26.add 4)).bind (AV.asInt .i64)).bind fun n31 =>
 ((h.cell (r26.add 5)).bind (AV.asInt .i64)).bind fun n32 =>
 ((h.cell (r26.add 6)).bind (AV.asInt .i64)).bind fun n33 =>
 newK h (.cells [.bool false, .int .i64 0, .int .i64 0, .int .i64 0, .int .i64 0, .int .i64 0, .int .i64 0] T.ki) fun h34r h34 =>
 whenK (SameAt h h34 r26 7) (
 whenK (SameAt h h34 (r24.add 6) 1) (
 whenK (SameAt h h34 (r22.add 0) 1) (
 whenK (SameAt h h34 (r20.add 5) 1) (
 whenK (SameAt h h34 ((r18.add 0).add 0) 1) (
 (h34.puts h34r [.bool b27, .int .i64 n28, .int .i64 n29, .int .i64 n30, .int .i64 n31, .int .i64 n32, .int .i64 n33]).bind fun h35 =>
 ((h35.cell (h34r.add 0)).bind AV.asBool).bind fun b36 =>
 cond b36 (
 a1.bind fun r37 =>
 ((h35.cell (r37.add 7)).bind AV.asSl).bind fun l38 =>
 a1.bind fun r39 =>
 ((h35.cell (r39.add 4)).bind (AV.asInt .i64)).bind fun n40 =>
 a1.bind fun r41 =>
 ((h35.cell (r41.add 7)).bind AV.asSl).bind fun l42 =>
 a1.bind fun r43 =>
 ((h35.cell (r43.add 4)).bind (AV.asInt .i64)).bind fun n44 =>
 (idx l42.ref l42.len n44 1).bind fun r45 =>
 ((h35.cell r45).bind (AV.asInt .i64)).bind fun n46 =>
 ((h35.cell (h34r.add 1)).bind (AV.asInt .i64)).bind fun n47 =>
 (idx l38.ref l38.len n40 1).bind fun r48 =>
 (h35.puts r48 [.int .i64 (IntKind.wrap .i64 (n46 + n47))]).bind fun h49 =>
 a1.bind fun r50 =>
 ((h49.cell (r50.add 5)).bind (AV.asInt .i64)).bind fun n51 =>
 a1.bind fun r52 =>
 (h49.puts (r52.add 5) [.int .i64 (IntKind.wrap .i64 (n51 + 1))]).bind fun h53 =>
 a1.bind fun r54 =>
 (h53.puts (r54.add 6) [.int .i64 0]).bind fun h55 =>
 go (.pt F.kbl Td.kb0 [(0, .ptr a1)]) h55) (
 ((h35.cell (h34r.add 2)).bind (AV.asInt .i64)).bind fun n56 =>
 cond (!decide (n56 = 0)) (
 some (.tup [], h35)) (
 ((h35.cell (h34r.add 6)).bind (AV.asInt .i64)).bind fun n57 =>
 a1.bind fun r58 =>
 (h35.puts (r58.add 6) [.int .i64 n57]).bind fun h59 =>
 a1.bind fun r60 =>
 ((h59.cell ((r60.add 1).add 2)).bind AV.asSl).bind fun l61 =>
 ((h59.cell (h34r.add 3)).bind (AV.asInt .i64)).bind fun n62 =>
 (idx l61.ref l61.len n62 1).bind fun r63 =>
 ((h59.cell r63).bind AV.asSl).bind fun l64 =>
 a1.bind fun r65 =>
 ((h59.cell (r65.add 4)).bind (AV.asInt .i64)).bind fun n66 =>
 (idx l64.ref l64.len n66 1).bind fun r67 =>
 ((h59.cell r67).bind (AV.asInt .i64)).bind fun n68 =>
 ((h59.cell (h34r.add 4)).bind (AV.asInt .i64)).bind fun n69 =>
 cond (decide (n68 ≤ n69)) (
 ((h59.cell (h34r.add 5)).bind (AV.asInt .i64)).bind fun n70 =>
 a1.bind fun r71 =>
 (h59.puts (r71.add 6) [.int .i64 n70]).bind fun h72 =>
 go (.pt F.kbl Td.kb0 [(0, .ptr a1)]) h72) (
 go (.pt F.kbl Td.kb0 [(0, .ptr a1)]) h59)))))))))) (
 some (.tup [], h)) := (kc _ h).trans (by kernel_rfl)
theorem kj3 (a1 : Bool) (a2 : Int) (a3 : Int) (a4 : Int) (a5 : Int) (a6 : Int) (a7 : Int) (a8 : Bool) (h : AH) : go (.fn F.kdx [.agg [.bool a1, .int .i64 a2, .int .i64 a3, .int .i64 a4, .int .i64 a5, .int .i64 a6, .int .i64 a7], .bool a8]) h =
 newK h (.cells [.bool a1, .int .i64 a2, .int .i64 a3, .int .i64 a4, .int .i64 a5, .int .i64 a6, .int .i64 a7] T.ki) fun h9r h9 =>
 cond a8 (
 ((h9.cell (h9r.add 5)).bind (AV.asInt .i64)).bind fun n10 =>
 some (.int .i64 n10, h9)) (
 ((h9.cell (h9r.add 6)).bind (AV.asInt .i64)).bind fun n11 =>
 some (.int .i64 n11, h9)) := (kc _ h).trans (by kernel_rfl)
theorem knn (a1 : Bool) (a2 : Int) (a3 : Int) (a4 : Int) (a5 : Int) (a6 : Int) (a7 : Int) (a8 : Int) (a9 : Int) (h : AH) : go (.fn F.kd9 [.agg [.bool a1, .int .i64 a2, .int .i64 a3, .int .i64 a4, .int .i64 a5, .int .i64 a6, .int .i64 a7], .int .i64 a8, .int .i64 a9]) h =
 newK h (.cells [.bool a1, .int .i64 a2, .int .i64 a3, .int .i64 a4, .int .i64 a5, .int .i64 a6, .int .i64 a7] T.ki) fun h10r h10 =>
 newK h10 (.cells [.int .i64 a8] T.int) fun h11r h11 =>
 newK h11 (.cells [.int .i64 a9] T.int) fun h12r h12 =>
 newK h12 (.cells [.nilFunc] T.knz) fun h13r h13 =>
 (h13.puts h13r [.func (.func F.kb5) [] []]).bind fun h14 =>
 ((h14.cell (h10r.add 0)).bind AV.asBool).bind fun b15 =>
 cond b15 (
 (h14.cell h13r).bind fun v16 =>
 ((h14.cell (h10r.add 1)).bind (AV.asInt .i64)).bind fun n17 =>
 yieldK v16 [.int .i64 n17, .int .i64 (-1099511627776), .int .i64 1099511627776] (fun y19 =>
 (go (.round y19.1 y19.2) h14).bind fun q18 =>
 ((some q18.1).bind AV.asBool).bind fun b21 =>
 cond b21 (
 ((q18.2.cell (h10r.add 0)).bind AV.asBool).bind fun b22 =>
 ((q18.2.cell (h10r.add 1)).bind (AV.asInt .i64)).bind fun n23 =>
 ((q18.2.cell (h10r.add 2)).bind (AV.asInt .i64)).bind fun n24 =>
 ((q18.2.cell (h10r.add 3)).bind (AV.asInt .i64)).bind fun n25 =>
 ((q18.2.cell (h10r.add 4)).bind (AV.asInt .i64)).bind fun n26 =>
 ((q18.2.cell (h10r.add 5)).bind (AV.asInt .i64)).bind fun n27 =>
 ((q18.2.cell (h10r.add 6)).bind (AV.asInt .i64)).bind fun n28 =>
 ((q18.2.cell (h10r.add 1)).bind (AV.asInt .i64)).bind fun n29 =>
 some (.bool ((b22 == true) && ((decide (n23 = n29)) && ((decide (n24 = 0)) && ((decide (n25 = 0)) && ((decide (n26 = 0)) && ((decide (n27 = 0)) && ((decide (n28 = 0)) && true))))))), q18.2)) (
 some (.bool false, q18.2))) (
 (callV Pg go v16 [.int .i64 n17, .int .i64 (-1099511627776), .int .i64 1099511627776] h14).bind fun q20 =>
 ((some q20.1).bind AV.asBool).bind fun b30 =>
 cond b30 (
 ((q20.2.cell (h10r.add 0)).bind AV.asBool).bind fun b31 =>
 ((q20.2.cell (h10r.add 1)).bind (AV.asInt .i64)).bind fun n32 =>
 ((q20.2.cell (h10r.add 2)).bind (AV.asInt .i64)).bind fun n33 =>
 ((q20.2.cell (h10r.add 3)).bind (AV.asInt .i64)).bind fun n34 =>
 ((q20.2.cell (h10r.add 4)).bind (AV.asInt .i64)).bind fun n35 =>
 ((q20.2.cell (h10r.add 5)).bind (AV.asInt .i64)).bind fun n36 =>
 ((q20.2.cell (h10r.add 6)).bind (AV.asInt .i64)).bind fun n37 =>
 ((q20.2.cell (h10r.add 1)).bind (AV.asInt .i64)).bind fun n38 =>
 some (.bool ((b31 == true) && ((decide (n32 = n38)) && ((decide (n33 = 0)) && ((decide (n34 = 0)) && ((decide (n35 = 0)) && ((decide (n36 = 0)) && ((decide (n37 = 0)) && true))))))), q20.2)) (
 some (.bool false, q20.2)))) (
 ((h14.cell (h10r.add 1)).bind (AV.asInt .i64)).bind fun n39 =>
 cond (decide (n39 = 0)) (
 (h14.cell h13r).bind fun v40 =>
 ((h14.cell (h10r.add 2)).bind (AV.asInt .i64)).bind fun n41 =>
 yieldK v40 [.int .i64 n41, .int .i64 0, .int .i64 15] (fun y43 =>
 (go (.round y43.1 y43.2) h14).bind fun q42 =>
 ((some q42.1).bind AV.asBool).bind fun b45 =>
 cond b45 (
 (q42.2.cell h13r).bind fun v46 =>
 ((q42.2.cell (h10r.add 3)).bind (AV.asInt .i64)).bind fun n47 =>
 yieldK v46 [.int .i64 n47, .int .i64 0, .int .i64 1073741824] (fun y49 =>
 (go (.round y49.1 y49.2) q42.2).bind fun q48 =>
 ((some q48.1).bind AV.asBool).bind fun b51 =>
 cond b51 (
 (q48.2.cell h13r).bind fun v52 =>
 ((q48.2.cell (h10r.add 4)).bind (AV.asInt .i64)).bind fun n53 =>
 yieldK v52 [.int .i64 n53, .int .i64 0, .int .i64 31] (fun y55 =>
 (go (.round y55.1 y55.2) q48.2).bind fun q54 =>
 ((some q54.1).bind AV.asBool).bind fun b57 =>
 cond b57 (
 ((q54.2.cell (h10r.add 5)).bind (AV.asInt .i64)).bind fun n58 =>
 (go (.fn F.kq [.int .i64 n58, .ptr (some h13r), .ptr (some h11r), .ptr (some h12r)]) q54.2).bind fun q59 =>
 ((some q59.1).bind AV.asBool).bind fun b60 =>
 cond b60 (
 ((q59.2.cell (h10r.add 6)).bind (AV.asInt .i64)).bind fun n61 =>
 (go (.fn F.kq [.int .i64 n61, .ptr (some h13r), .ptr (some h11r), .ptr (some h12r)]) q59.2).bind fun q62 =>
 ((some q62.1).bind AV.asBool).bind fun b63 =>
 cond b63 (
 ((q62.2.cell (h10r.add 5)).bind (AV.asInt .i64)).bind fun n64 =>
 ((q62.2.cell (h10r.add 6)).bind (AV.asInt .i64)).bind fun n65 =>
 some (.bool (!decide (n64 = n65)), q62.2)) (
 some (.bool false, q62.2))) (
 some (.bool false, q59.2))) (
 some (.bool false, q54.2))) (
 (callV Pg go v52 [.int .i64 n53, .int .i64 0, .int .i64 31] q48.2).bind fun q56 =>
 ((some q56.1).bind AV.asBool).bind fun b66 =>
 cond b66 (
 ((q56.2.cell (h10r.add 5)).bind (AV.asInt .i64)).bind fun n67 =>
 (go (.fn F.kq [.int .i64 n67, .ptr (some h13r), .ptr (some h11r), .ptr (some h12r)]) q56.2).bind fun q68 =>
 ((some q68.1).bind AV.asBool).bind fun b69 =>
 cond b69 (
 ((q68.2.cell (h10r.add 6)).bind (AV.asInt .i64)).bind fun n70 =>
 (go (.fn F.kq [.int .i64 n70, .ptr (some h13r), .ptr (some h11r), .ptr (some h12r)]) q68.2).bind fun q71 =>
 ((some q71.1).bind AV.asBool).bind fun b72 =>
 cond b72 (
 ((q71.2.cell (h10r.add 5)).bind (AV.asInt .i64)).bind fun n73 =>
 ((q71.2.cell (h10r.add 6)).bind (AV.asInt .i64)).bind fun n74 =>
 some (.bool (!decide (n73 = n74)), q71.2)) (
 some (.bool false, q71.2))) (
 some (.bool false, q68.2))) (
 some (.bool false, q56.2)))) (
 some (.bool false, q48.2))) (
 (callV Pg go v46 [.int .i64 n47, .int .i64 0, .int .i64 1073741824] q42.2).bind fun q50 =>
 ((some q50.1).bind AV.asBool).bind fun b75 =>
 cond b75 (
 (q50.2.cell h13r).bind fun v76 =>
 ((q50.2.cell (h10r.add 4)).bind (AV.asInt .i64)).bind fun n77 =>
 yieldK v76 [.int .i64 n77, .int .i64 0, .int .i64 31] (fun y79 =>
 (go (.round y79.1 y79.2) q50.2).bind fun q78 =>
 ((some q78.1).bind AV.asBool).bind fun b81 =>
 cond b81 (
 ((q78.2.cell (h10r.add 5)).bind (AV.asInt .i64)).bind fun n82 =>
 (go (.fn F.kq [.int .i64 n82, .ptr (some h13r), .ptr (some h11r), .ptr (some h12r)]) q78.2).bind fun q83 =>
 ((some q83.1).bind AV.asBool).bind fun b84 =>
 cond b84 (
 ((q83.2.cell (h10r.add 6)).bind (AV.asInt .i64)).bind fun n85 =>
 (go (.fn F.kq [.int .i64 n85, .ptr (some h13r), .ptr (some h11r), .ptr (some h12r)]) q83.2).bind fun q86 =>
 ((some q86.1).bind AV.asBool).bind fun b87 =>
 cond b87 (
 ((q86.2.cell (h10r.add 5)).bind (AV.asInt .i64)).bind fun n88 =>
 ((q86.2.cell (h10r.add 6)).bind (AV.asInt .i64)).bind fun n89 =>
 some (.bool (!decide (n88 = n89)), q86.2)) (
 some (.bool false, q86.2))) (
 some (.bool false, q83.2))) (
 some (.bool false, q78.2))) (
 (callV Pg go v76 [.int .i64 n77, .int .i64 0, .int .i64 31] q50.2).bind fun q80 =>
 ((some q80.1).bind AV.asBool).bind fun b90 =>
 cond b90 (
 ((q80.2.cell (h10r.add 5)).bind (AV.asInt .i64)).bind fun n91 =>
 (go (.fn F.kq [.int .i64 n91, .ptr (some h13r), .ptr (some h11r), .ptr (some h12r)]) q80.2).bind fun q92 =>
 ((some q92.1).bind AV.asBool).bind fun b93 =>
 cond b93 (
 ((q92.2.cell (h10r.add 6)).bind (AV.asInt .i64)).bind fun n94 =>
 (go (.fn F.kq [.int .i64 n94, .ptr (some h13r), .ptr (some h11r), .ptr (some h12r)]) q92.2).bind fun q95 =>
 ((some q95.1).bind AV.asBool).bind fun b96 =>
 cond b96 (
 ((q95.2.cell (h10r.add 5)).bind (AV.asInt .i64)).bind fun n97 =>
 ((q95.2.cell (h10r.add 6)).bind (AV.asInt .i64)).bind fun n98 =>
 some (.bool (!decide (n97 = n98)), q95.2)) (
 some (.bool false, q95.2))) (
 some (.bool false, q92.2))) (
 some (.bool false, q80.2)))) (
 some (.bool false, q50.2)))) (
 some (.bool false, q42.2))) (
 (callV Pg go v40 [.int .i64 n41, .int .i64 0, .int .i64 15] h14).bind fun q44 =>
 ((some q44.1).bind AV.asBool).bind fun b99 =>
 cond b99 (
 (q44.2.cell h13r).bind fun v100 =>
 ((q44.2.cell (h10r.add 3)).bind (AV.asInt .i64)).bind fun n101 =>
 yieldK v100 [.int .i64 n101, .int .i64 0, .int .i64 1073741824] (fun y103 =>
 (go (.round y103.1 y103.2) q44.2).bind fun q102 =>
 ((some q102.1).bind AV.asBool).bind fun b105 =>
 cond b105 (
 (q102.2.cell h13r).bind fun v106 =>
 ((q102.2.cell (h10r.add 4)).bind (AV.asInt .i64)).bind fun n107 =>
 yieldK v106 [.int .i64 n107, .int .i64 0, .int .i64 31] (fun y109 =>
 (go (.round y109.1 y109.2) q102.2).bind fun q108 =>
 ((some q108.1).bind AV.asBool).bind fun b111 =>
 cond b111 (
 ((q108.2.cell (h10r.add 5)).bind (AV.asInt .i64)).bind fun n112 =>
 (go (.fn F.kq [.int .i64 n112, .ptr (some h13r), .ptr (some h11r), .ptr (some h12r)]) q108.2).bind fun q113 =>
 ((some q113.1).bind AV.asBool).bind fun b114 =>
 cond b114 (
 ((q113.2.cell (h10r.add 6)).bind (AV.asInt .i64)).bind fun n115 =>
 (go (.fn F.kq [.int .i64 n115, .ptr (some h13r), .ptr (some h11r), .ptr (some h12r)]) q113.2).bind fun q116 =>
 ((some q116.1).bind AV.asBool).bind fun b117 =>
 cond b117 (
 ((q116.2.cell (h10r.add 5)).bind (AV.asInt .i64)).bind fun n118 =>
 ((q116.2.cell (h10r.add 6)).bind (AV.asInt .i64)).bind fun n119 =>
 some (.bool (!decide (n118 = n119)), q116.2)) (
 some (.bool false, q116.2))) (
 some (.bool false, q113.2))) (
 some (.bool false, q108.2))) (
 (callV Pg go v106 [.int .i64 n107, .int .i64 0, .int .i64 31] q102.2).bind fun q110 =>
 ((some q110.1).bind AV.asBool).bind fun b120 =>
 cond b120 (
 ((q110.2.cell (h10r.add 5)).bind (AV.asInt .i64)).bind fun n121 =>
 (go (.fn F.kq [.int .i64 n121, .ptr (some h13r), .ptr (some h11r), .ptr (some h12r)]) q110.2).bind fun q122 =>
 ((some q122.1).bind AV.asBool).bind fun b123 =>
 cond b123 (
 ((q122.2.cell (h10r.add 6)).bind (AV.asInt .i64)).bind fun n124 =>
 (go (.fn F.kq [.int .i64 n124, .ptr (some h13r), .ptr (some h11r), .ptr (some h12r)]) q122.2).bind fun q125 =>
 ((some q125.1).bind AV.asBool).bind fun b126 =>
 cond b126 (
 ((q125.2.cell (h10r.add 5)).bind (AV.asInt .i64)).bind fun n127 =>
 ((q125.2.cell (h10r.add 6)).bind (AV.asInt .i64)).bind fun n128 =>
 some (.bool (!decide (n127 = n128)), q125.2)) (
 some (.bool false, q125.2))) (
 some (.bool false, q122.2))) (
 some (.bool false, q110.2)))) (
 some (.bool false, q102.2))) (
 (callV Pg go v100 [.int .i64 n101, .int .i64 0, .int .i64 1073741824] q44.2).bind fun q104 =>
 ((some q104.1).bind AV.asBool).bind fun b129 =>
 cond b129 (
 (q104.2.cell h13r).bind fun v130 =>
 ((q104.2.cell (h10r.add 4)).bind (AV.asInt .i64)).bind fun n131 =>
 yieldK v130 [.int .i64 n131, .int .i64 0, .int .i64 31] (fun y133 =>
 (go (.round y133.1 y133.2) q104.2).bind fun q132 =>
 ((some q132.1).bind AV.asBool).bind fun b135 =>
 cond b135 (
 ((q132.2.cell (h10r.add 5)).bind (AV.asInt .i64)).bind fun n136 =>
 (go (.fn F.kq [.int .i64 n136, .ptr (some h13r), .ptr (some h11r), .ptr (some h12r)]) q132.2).bind fun q137 =>
 ((some q137.1).bind AV.asBool).bind fun b138 =>
 cond b138 (
 ((q137.2.cell (h10r.add 6)).bind (AV.asInt .i64)).bind fun n139 =>
 (go (.fn F.kq [.int .i64 n139, .ptr (some h13r), .ptr (some h11r), .ptr (some h12r)]) q137.2).bind fun q140 =>
 ((some q140.1).bind AV.asBool).bind fun b141 =>
 cond b141 (
 ((q140.2.cell (h10r.add 5)).bind (AV.asInt .i64)).bind fun n142 =>
 ((q140.2.cell (h10r.add 6)).bind (AV.asInt .i64)).bind fun n143 =>
 some (.bool (!decide (n142 = n143)), q140.2)) (
 some (.bool false, q140.2))) (
 some (.bool false, q137.2))) (
 some (.bool false, q132.2))) (
 (callV Pg go v130 [.int .i64 n131, .int .i64 0, .int .i64 31] q104.2).bind fun q134 =>
 ((some q134.1).bind AV.asBool).bind fun b144 =>
 cond b144 (
 ((q134.2.cell (h10r.add 5)).bind (AV.asInt .i64)).bind fun n145 =>
 (go (.fn F.kq [.int .i64 n145, .ptr (some h13r), .ptr (some h11r), .ptr (some h12r)]) q134.2).bind fun q146 =>
 ((some q146.1).bind AV.asBool).bind fun b147 =>
 cond b147 (
 ((q146.2.cell (h10r.add 6)).bind (AV.asInt .i64)).bind fun n148 =>
 (go (.fn F.kq [.int .i64 n148, .ptr (some h13r), .ptr (some h11r), .ptr (some h12r)]) q146.2).bind fun q149 =>
 ((some q149.1).bind AV.asBool).bind fun b150 =>
 cond b150 (
 ((q149.2.cell (h10r.add 5)).bind (AV.asInt .i64)).bind fun n151 =>
 ((q149.2.cell (h10r.add 6)).bind (AV.asInt .i64)).bind fun n152 =>
 some (.bool (!decide (n151 = n152)), q149.2)) (
 some (.bool false, q149.2))) (
 some (.bool false, q146.2))) (
 some (.bool false, q134.2)))) (
 some (.bool false, q104.2)))) (
 some (.bool false, q44.2)))) (
 some (.bool false, h14))) := (kc _ h).trans (by kernel_rfl)
theorem ki1 (a1 : Sl) (h : AH) : go (.fn F.kbc [a1.v, .func (.func F.kbh) [] []]) h =
 go (.pt F.kbc Td.kby [(0, a1.v), (1, .func (.func F.kbh) [] []), (7, .int .i64 (a1.len : Int)), (8, .int .i64 0)]) h := (kc _ h).trans (by kernel_rfl)
theorem kgm (a1 : Nat) (a2 : Sl) (a3 : Int) (a4 : Int) (h : AH) : go (.pt F.kce Td.kd8 [(3, .map (some a1)), (7, a2.v), (8, .int .i64 a3), (9, .int .i64 a4)]) h =
 cond (decide (a4 < a3)) (
 (idx a2.ref a2.len a4 1).bind fun r5 =>
 ((h.cell r5).bind (AV.asInt .i64)).bind fun n6 =>
 (mapPut h a1 .i64 n6 (.int .i64 a4)).bind fun h7 =>
 go (.pt F.kce Td.kd8 [(3, .map (some a1)), (7, a2.v), (8, .int .i64 a3), (9, .int .i64 (IntKind.wrap .i64 (a4 + 1)))]) h7) (
 some (.map (some a1), h)) := (kc _ h).trans (by kernel_rfl)
theorem kog (a1 : Sl) (a2 : Option Ref) (h : AH) : go (.fn F.kbc [a1.v, .func (.func F.kbi) [] [.ptr a2]]) h =
 go (.pt F.kbc Td.kby [(0, a1.v), (1, .func (.func F.kbi) [] [.ptr a2]), (7, .int .i64 (a1.len : Int)), (8, .int .i64 0)]) h := (kc _ h).trans (by kernel_rfl)
theorem kgy (a1 : Sl) (a2 : Option Ref) (a3 : Option Ref) (a4 : Int) (a5 : Int) (h : AH) : go (.pt F.kcy Td.kdk [(0, a1.v), (1, .func (.func F.ku) [] [.ptr a2, .ptr a3]), (7, .int .i64 a4), (8, .int .i64 a5)]) h =
 cond (decide (a5 < a4)) (
 (idx a1.ref a1.len a5 7).bind fun r6 =>
 ((h.cell (r6.add 0)).bind AV.asBool).bind fun b7 =>
 ((h.cell (r6.add 1)).bind (AV.asInt .i64)).bind fun n8 =>
 ((h.cell (r6.add 2)).bind (AV.asInt .i64)).bind fun n9 =>
 ((h.cell (r6.add 3)).bind (AV.asInt .i64)).bind fun n10 =>
 ((h.cell (r6.add 4)).bind (AV.asInt .i64)).bind fun n11 =>
 ((h.cell (r6.add 5)).bind (AV.asInt .i64)).bind fun n12 =>
 ((h.cell (r6.add 6)).bind (AV.asInt .i64)).bind fun n13 =>
 (go (.fn F.ku [.agg [.bool b7, .int .i64 n8, .int .i64 n9, .int .i64 n10, .int .i64 n11, .int .i64 n12, .int .i64 n13], .ptr a2, .ptr a3]) h).bind fun q14 =>
 ((some q14.1).bind AV.asBool).bind fun b15 =>
 cond b15 (
 some (.int .i64 a5, q14.2)) (
 go (.pt F.kcy Td.kdk [(0, a1.v), (1, .func (.func F.ku) [] [.ptr a2, .ptr a3]), (7, .int .i64 a4), (8, .int .i64 (IntKind.wrap .i64 (a5 + 1)))]) q14.2)) (
 some (.int .i64 (-1), h)) := (kc _ h).trans (by kernel_rfl)
theorem kiy (a1 : Bool) (a2 : Int) (a3 : Int) (a4 : Int) (a5 : Int) (a6 : Int) (a7 : Int) (a8 : Int) (a9 : Int) (h : AH) : go (.fn F.keo [.agg [.bool a1, .int .i64 a2, .int .i64 a3, .int .i64 a4, .int .i64 a5, .int .i64 a6, .int .i64 a7], .int .i64 a8, .int .i64 a9]) h =
 newK h (.cells [.bool a1, .int .i64 a2, .int .i64 a3, .int .i64 a4, .int .i64 a5, .int .i64 a6, .int .i64 a7] T.ki) fun h10r h10 =>
 ((h10.cell (h10r.add 0)).bind AV.asBool).bind fun b11 =>
 cond b11 (
 ((h10.cell (h10r.add 1)).bind (AV.asInt .i64)).bind fun n12 =>
 cond (decide (n12 ≥ (-1099511627776))) (
 ((h10.cell (h10r.add 1)).bind (AV.asInt .i64)).bind fun n13 =>
 cond (decide (n13 ≤ 1099511627776)) (
 ((h10.cell (h10r.add 0)).bind AV.asBool).bind fun b14 =>
 ((h10.cell (h10r.add 1)).bind (AV.asInt .i64)).bind fun n15 =>
 ((h10.cell (h10r.add 2)).bind (AV.asInt .i64)).bind fun n16 =>
 ((h10.cell (h10r.add 3)).bind (AV.asInt .i64)).bind fun n17 =>
 ((h10.cell (h10r.add 4)).bind (AV.asInt .i64)).bind fun n18 =>
 ((h10.cell (h10r.add 5)).bind (AV.asInt .i64)).bind fun n19 =>
 ((h10.cell (h10r.add 6)).bind (AV.asInt .i64)).bind fun n20 =>
 ((h10.cell (h10r.add 1)).bind (AV.asInt .i64)).bind fun n21 =>
 some (.bool ((b14 == true) && ((decide (n15 = n21)) && ((decide (n16 = 0)) && ((decide (n17 = 0)) && ((decide (n18 = 0)) && ((decide (n19 = 0)) && ((decide (n20 = 0)) && true))))))), h10)) (
 some (.bool false, h10))) (
 some (.bool false, h10))) (
 ((h10.cell (h10r.add 1)).bind (AV.asInt .i64)).bind fun n22 =>
 cond (!decide (n22 = 0)) (
 some (.bool false, h10)) (
 ((h10.cell (h10r.add 2)).bind (AV.asInt .i64)).bind fun n23 =>
 cond (decide (n23 < 0)) (
 some (.bool false, h10)) (
 ((h10.cell (h10r.add 2)).bind (AV.asInt .i64)).bind fun n24 =>
 cond (decide (n24 > 15)) (
 some (.bool false, h10)) (
 ((h10.cell (h10r.add 3)).bind (AV.asInt .i64)).bind fun n25 =>
 cond (decide (n25 < 0)) (
 some (.bool false, h10)) (
 ((h10.cell (h10r.add 3)).bind (AV.asInt .i64)).bind fun n26 =>
 cond (decide (n26 > 1073741824)) (
 some (.bool false, h10)) (
 ((h10.cell (h10r.add 4)).bind (AV.asInt .i64)).bind fun n27 =>
 cond (decide (n27 < 0)) (
 some (.bool false, h10)) (
 ((h10.cell (h10r.add 4)).bind (AV.asInt .i64)).bind fun n28 =>
 cond (decide (n28 > 31)) (
 some (.bool false, h10)) (
 ((h10.cell (h10r.add 5)).bind (AV.asInt .i64)).bind fun n29 =>
 cond (decide (n29 > a8)) (
 ((h10.cell (h10r.add 5)).bind (AV.asInt .i64)).bind fun n30 =>
 cond (decide (n30 < a9)) (
 ((h10.cell (h10r.add 6)).bind (AV.asInt .i64)).bind fun n31 =>
 cond (decide (n31 > a8)) (
 ((h10.cell (h10r.add 6)).bind (AV.asInt .i64)).bind fun n32 =>
 cond (decide (n32 < a9)) (
 ((h10.cell (h10r.add 5)).bind (AV.asInt .i64)).bind fun n33 =>
 ((h10.cell (h10r.add 6)).bind (AV.asInt .i64)).bind fun n34 =>
 some (.bool (!decide (n33 = n34)), h10)) (
 some (.bool false, h10))) (
 some (.bool false, h10))) (
 some (.bool false, h10))) (
 some (.bool false, h10)))))))))) := (kc _ h).trans (by kernel_rfl)
theorem kku (a1 : Sl) (a2 : Int) (h : AH) : go (.fn F.kci [a1.v, .int .i64 a2]) h =
 go (.pt F.kci Td.kew [(0, a1.v), (1, .int .i64 a2), (5, .int .i64 0)]) h := (kc _ h).trans (by kernel_rfl)
theorem kiw (a1 : Int) (a2 : Ref) (a3 : Ref) (a4 : Ref) (h : AH) : go (.fn F.kq [.int .i64 a1, .ptr (some a2), .ptr (some a3), .ptr (some a4)]) h =
 (h.cell a2).bind fun v5 =>
 ((h.cell a3).bind (AV.asInt .i64)).bind fun n6 =>
 ((h.cell a4).bind (AV.asInt .i64)).bind fun n7 =>
 yieldK v5 [.int .i64 a1, .int .i64 (IntKind.wrap .i64 (n6 + 1)), .int .i64 (IntKind.wrap .i64 (n7 - 1))] (fun y9 =>
 (go (.round y9.1 y9.2) h).bind fun q8 =>
 ((some q8.1).bind AV.asBool).bind fun b11 =>
 some (.bool b11, q8.2)) (
 (callV Pg go v5 [.int .i64 a1, .int .i64 (IntKind.wrap .i64 (n6 + 1)), .int .i64 (IntKind.wrap .i64 (n7 - 1))] h).bind fun q10 =>
 ((some q10.1).bind AV.asBool).bind fun b12 =>
 some (.bool b12, q10.2)) := (kc _ h).trans (by kernel_rfl)
theorem khl (a1 : Sl) (a2 : Int) (a3 : Int) (h : AH) : go (.pt F.kbc Td.kby [(0, a1.v), (1, .func (.func F.kbh) [] []), (7, .int .i64 a2), (8, .int .i64 a3)]) h =
 cond (decide (a3 < a2)) (
 (idx a1.ref a1.len a3 1).bind fun r4 =>
 ((h.cell r4).bind (AV.asInt .i64)).bind fun n5 =>
 (go (.fn F.kbh [.int .i64 n5]) h).bind fun q6 =>
 ((some q6.1).bind AV.asBool).bind fun b7 =>
 cond b7 (
 some (.int .i64 a3, q6.2)) (
 go (.pt F.kbc Td.kby [(0, a1.v), (1, .func (.func F.kbh) [] []), (7, .int .i64 a2), (8, .int .i64 (IntKind.wrap .i64 (a3 + 1)))]) q6.2)) (
 some (.int .i64 (-1), h)) := (kc _ h).trans (by kernel_rfl)
theorem kgf (a1 : Sl) (a2 : Option Ref) (a3 : Int) (a4 : Int) (h : AH) : go (.pt F.kbc Td.kby [(0, a1.v), (1, .func (.func F.kbi) [] [.ptr a2]), (7, .int .i64 a3), (8, .int .i64 a4)]) h =
 cond (decide (a4 < a3)) (
 (idx a1.ref a1.len a4 1).bind fun r5 =>
 ((h.cell r5).bind (AV.asInt .i64)).bind fun n6 =>
 (go (.fn F.kbi [.int .i64 n6, .ptr a2]) h).bind fun q7 =>
 ((some q7.1).bind AV.asBool).bind fun b8 =>
 cond b8 (
 some (.int .i64 a4, q7.2)) (
 go (.pt F.kbc Td.kby [(0, a1.v), (1, .func (.func F.kbi) [] [.ptr a2]), (7, .int .i64 a3), (8, .int .i64 (IntKind.wrap .i64 (a4 + 1)))]) q7.2)) (
 some (.int .i64 (-1), h)) := (kc _ h).trans (by kernel_rfl)
theorem kn7 (a1 : Bool) (a2 : Int) (a3 : Int) (a4 : Int) (a5 : Int) (a6 : Int) (a7 : Int) (a8 : Option Ref) (a9 : Option Ref) (h : AH) : go (.fn F.ku [.agg [.bool a1, .int .i64 a2, .int .i64 a3, .int .i64 a4, .int .i64 a5, .int .i64 a6, .int .i64 a7], .ptr a8, .ptr a9]) h =
 newK h (.cells [.bool a1, .int .i64 a2, .int .i64 a3, .int .i64 a4, .int .i64 a5, .int .i64 a6, .int .i64 a7] T.ki) fun h10r h10 =>
 ((h10.cell (h10r.add 0)).bind AV.asBool).bind fun b11 =>
 cond (!b11) (
 ((h10.cell (h10r.add 2)).bind (AV.asInt .i64)).bind fun n12 =>
 a8.bind fun r13 =>
 ((h10.cell r13).bind (AV.asInt .i64)).bind fun n14 =>
 cond (decide (n12 ≥ n14)) (
 some (.bool true, h10)) (
 ((h10.cell (h10r.add 2)).bind (AV.asInt .i64)).bind fun n15 =>
 cond (decide (n15 = 0)) (
 ((h10.cell (h10r.add 3)).bind (AV.asInt .i64)).bind fun n16 =>
 a9.bind fun r17 =>
 ((h10.cell (r17.add 2)).bind AV.asSl).bind fun l18 =>
 some (.bool (decide (n16 ≥ (l18.len : Int))), h10)) (
 some (.bool false, h10)))) (
 some (.bool false, h10)) := (kc _ h).trans (by kernel_rfl)
theorem kgc (a1 : Sl) (a2 : Int) (a3 : Int) (h : AH) : go (.pt F.kci Td.kew [(0, a1.v), (1, .int .i64 a2), (5, .int .i64 a3)]) h =
 cond (decide (a3 < (a1.len : Int))) (
 (idx a1.ref a1.len a3 1).bind fun r4 =>
 ((h.cell r4).bind (AV.asInt .i64)).bind fun n5 =>
 cond (decide (n5 = a2)) (
 some (.int .i64 a3, h)) (
 go (.pt F.kci Td.kew [(0, a1.v), (1, .int .i64 a2), (5, .int .i64 (IntKind.wrap .i64 (a3 + 1)))]) h)) (
 some (.int .i64 (-1), h)) := (kc _ h).trans (by kernel_rfl)
theorem kmd (a1 : Int) (h : AH) : go (.fn F.kbh [.int .i64 a1]) h =
 cond (decide (a1 < 0)) (
 some (.bool true, h)) (
 some (.bool (decide (a1 > 1073741824)), h)) := (kc _ h).trans (by kernel_rfl)
theorem kjm (a1 : Int) (a2 : Option Ref) (h : AH) : go (.fn F.kbi [.int .i64 a1, .ptr a2]) h =
 cond (decide (a1 < 0)) (
 some (.bool true, h)) (
 a2.bind fun r3 =>
 ((h.cell r3).bind (AV.asInt .i64)).bind fun n4 =>
 some (.bool (decide (a1 ≥ n4)), h)) := (kc _ h).trans (by kernel_rfl)
end Go.Ab

/- squeezed -/
set_option linter.unusedVariables false
set_option linter.unusedSimpArgs false
set_option maxRecDepth 10000
namespace Go.Ab
open Go.Proofs Go.Num
@[reducible] def B : Nat := 18446744073709551616
theorem B2 : 2 ≤ B := by decide
def rt (xs : List Nat) : Bool := decide (xs.length ≤ 64) && (decide (xs.length = 0) || !decide (xs.getD (xs.length - 1) 0 = 0))
end Go.Ab

/- squeezed -/
set_option linter.unusedVariables false
set_option linter.unusedSimpArgs false
set_option maxRecDepth 10000
namespace Go.Ab
open Go.Proofs Go.Num
end Go.Ab

/- squeezed -/
set_option linter.unusedVariables false
set_option linter.unusedSimpArgs false
set_option maxRecDepth 10000
namespace Go.Ab
open Go.Proofs Go.Num
end Go.Ab

/- squeezed -/
set_option linter.unusedVariables false
set_option linter.unusedSimpArgs false
set_option maxRecDepth 10000
namespace Go.Ab
open Go.Proofs Go.Num
structure Rows (h : AH) (s : Sl) (rows : List (Sl × List Nat)) : Prop where
 cells : Cells h s 1 (rows.map fun p => p.1.v)
 each : ∀ p ∈ rows, Nats h p.1 p.2
 short : rows.length ≤ 9223372036854775807
theorem Rows.len {h : AH} {s : Sl} {rows : List (Sl × List Nat)} (n : Rows h s rows) : s.len = rows.length := by
 have := n.cells.len
 simpa using this
theorem Rows.at {h : AH} {s : Sl} {rows : List (Sl × List Nat)} (n : Rows h s rows) {i : Nat} (hi : i < rows.length) : ∃ r, idx s.ref s.len (i : Int) 1 = some r ∧ h.cell r = some (rows[i].1).v := by
 obtain ⟨r, e1, e2⟩ := n.cells.get i (rows[i].1).v (by simp [hi])
 refine ⟨r.add i, ?_, e2⟩
 rw [e1, kcx _ _ _ _ (by omega) (by rw [n.len]; omega)]
 simp
theorem Rows.two {h : AH} {a b : Sl} {xs ys : List Nat} (n : Nats h a xs) (m : Nats h b ys) : Rows (h.push (.cells [a.v, b.v] T.khh)) ⟨some (.new h.blks.size 0), 2, .is 2⟩ [(a, xs), (b, ys)] := by
 refine ⟨Cells.of_has (AH.has_push _ _ _) rfl, fun p hp => ?_, by simp⟩
 have g := Grow.push h (.cells [a.v, b.v] T.khh)
 simp at hp
 rcases hp with rfl | rfl
 ·exact n.grow g
 ·exact m.grow g
end Go.Ab

/- squeezed -/
set_option linter.unusedVariables false
set_option linter.unusedSimpArgs false
set_option maxRecDepth 10000
namespace Go.Ab
open Go.Proofs
def idsR (l : List Int) : Bool := decide (l.length ≤ 256) && (!(l.any fun x => decide (x < 0) || decide (x > 1073741824)) && decide l.Nodup)
structure Tb where
 ids : List Int
 bins : List Int
 cols : List (List Int)
def colR (t : Tb) (i : Nat) : Bool := !decide (t.bins.getD i 0 < 2) && !decide (t.bins.getD i 0 > 32) && decide ((t.cols.getD i []).length = t.ids.length) && !((t.cols.getD i []).any fun x => decide (x < 0) || decide (x ≥ t.bins.getD i 0))
def tabR (t : Tb) : Bool := idsR t.ids && !decide (t.cols.length > 16) && decide (t.bins.length = t.cols.length) && (List.range t.cols.length).all (colR t)
structure TabAt (h : AH) (S : Fp) (s1 s2 s3 : Sl) (t : Tb) : Prop where
 ids : Sq EI h S s1 t.ids
 bins : Sq EI h S s2 t.bins
 cols : Sq (Ef.seq EI) h S s3 t.cols
theorem TabAt.md {h h' : AH} {S T : Fp} {s1 s2 s3 : Sl} {t : Tb} (n : TabAt h S s1 s2 s3 t) (m : Md T h h') (d : Dis S T) : TabAt h' S s1 s2 s3 t := ⟨n.ids.md m d, n.bins.md m d, n.cols.md m d⟩
theorem TabAt.grow {h h' : AH} {S : Fp} {s1 s2 s3 : Sl} {t : Tb} (n : TabAt h S s1 s2 s3 t) (g : Grow h h') : TabAt h' S s1 s2 s3 t := ⟨n.ids.grow g, n.bins.grow g, n.cols.grow g⟩
section
variable {h0 : AH} {S : Fp} {s : Sl} {xs : List Int}
theorem kk2 (n : Sq EI h0 S s xs) : Runs (go (.fn F.kco [s.v, .func (.func F.kbh) [] []]) h0) fun v h' => v = .bool (xs.any fun x => decide (x < 0) || decide (x > 1073741824)) ∧ Grow h0 h' := by
 rw [kk7]
 refine Runs.contains (xs := xs) ?_
 rw [ki1, n.len]
 refine kez (n := xs.length) (G := fun z h => go (.pt F.kbc Td.kby [(0, s.v), (1, .func (.func F.kbh) [] []), (7, .int .i64 (xs.length : Int)), (8, .int .i64 z)]) h) (fun i h P hi g hT hF => ?_) (fun h g => ?_) xs.length 0 (by omega) (Grow.refl h0) (fun j hj => by omega)
 ·obtain ⟨r, e1, e2⟩ := (n.grow g).int hi
  rw [List.getElem?_eq_getElem hi] at hT hF
  simp only [Option.any_some] at hT hF
  show Runs (go _ _) _
  rw [khl]
  refine Runs.ifT (decide_eq_true (by omega)) (Runs.step e1 (Runs.step e2 ?_))
  have key : go (.fn F.kbh [.int .i64 xs[i]]) h = some (.bool (decide (xs[i] < 0) || decide (xs[i] > 1073741824)), h) := by
   rw [kmd]
   cases decide (xs[i] < 0) <;> rfl
  refine Runs.step key (Runs.step (seen rfl) ?_)
  rw [kn (by have := n.short; omega)]
  exact Runs.cond (fun c => Runs.ret (hT h g c)) fun c => hF h g c
 ·rw [khl, condF (decide_eq_false (by omega))]
theorem koo (n : Sq EI h0 S s xs) (hl : xs.length ≤ 256) {m : Nat} (hm : h0.blks.size ≤ m) : ∀ (k i : Nat), i + k = xs.length → ∀ {h : AH} {l : List (Int × AV)}, Grow h0 h → MapIs h m l → (∀ x, (kvGet l x).isSome = true ↔ x ∈ xs.take i) → l.length ≤ i → (l.length = i ↔ (xs.take i).Nodup) →
  Runs (go (.pt F.kce Td.kd8 [(3, .map (some m)), (7, s.v), (8, .int .i64 (xs.length : Int)), (9, .int .i64 (i : Int))]) h) fun v h' => Grow h0 h' ∧ v = .map (some m) ∧ ∃ l, MapIs h' m l ∧ (l.length = xs.length ↔ xs.Nodup) := by
 intro k
 induction k with
 | zero =>
  intro i hi h l g M hk hle hn
  rw [kgm]
  refine Runs.ifF (decide_eq_false (by omega)) (Runs.ret ⟨g, rfl, l, M, ?_⟩)
  rw [show i = xs.length from by omega, List.take_length] at hn
  exact hn
 | succ k ih =>
  intro i hi h l g M hk hle hn
  have hlt : i < xs.length := by omega
  obtain ⟨r, e1, e2⟩ := (n.grow g).int hlt
  rw [kgm]
  refine Runs.ifT (decide_eq_true (by omega)) (Runs.step e1 (Runs.step e2 ?_))
  obtain ⟨h1, e3, M1, u1⟩ := M.put xs[i] (.int .i64 (i : Int))
  refine Runs.step e3 ?_
  rw [kn (by omega)]
  have ht : xs.take (i + 1) = xs.take i ++ [xs[i]] := List.take_succ_eq_append_getElem hlt
  have hi := hk xs[i]
  refine ih (i + 1) (by omega) (g.updr hm u1) M1 (fun x => ?_) ?_ ?_
  ·rw [kj2, ht, List.mem_append, List.mem_singleton]
   by_cases hx : x = xs[i]
   ·rw [if_pos hx]
    exact ⟨fun _ => .inr hx, fun _ => rfl⟩
   ·rw [if_neg hx, hk x]
    exact ⟨.inl, fun h => h.resolve_right hx⟩
  ·cases hg : kvGet l xs[i] with
   | none => rw [kg5 _ hg]; simp; omega
   | some w => rw [kgs _ hg]; omega
  ·rw [ht, List.nodup_append]
   cases hg : kvGet l xs[i] with
   | none =>
    rw [hg] at hi
    have hni : xs[i] ∉ xs.take i := fun h => by simpa using hi.2 h
    rw [kg5 _ hg]
    simp only [List.length_append, List.length_singleton]
    constructor
    ·intro e
     refine ⟨hn.1 (by omega), by simp, fun a ha b hb => ?_⟩
     rw [List.mem_singleton] at hb
     subst hb
     rintro rfl
     exact hni ha
    ·intro e
     rw [hn.2 e.1]
   | some w =>
    rw [hg] at hi
    have hin : xs[i] ∈ xs.take i := hi.1 rfl
    rw [kgs _ hg]
    constructor
    ·intro e
     omega
    ·intro e
     exact absurd rfl (e.2.2 _ hin _ (by simp))
theorem knv (n : Sq EI h0 S s xs) : Runs (go (.fn F.kf0 [s.v]) h0) fun v h' => v = .bool (idsR xs) ∧ Grow h0 h' := by
 rw [knd, n.len]
 unfold idsR
 refine Runs.cond (fun c => ?_) (fun c => ?_)
 ·rw [decide_eq_true_eq] at c
  rw [decide_eq_true (show xs.length ≤ 256 by omega), Bool.true_and]
  refine (kk2 n).call fun v h1 ⟨e, g1⟩ => ?_
  subst e
  refine Runs.step (seen rfl) ?_
  refine Runs.cond (fun c2 => ?_) (fun c2 => ?_)
  ·rw [c2, Bool.true_and]
   have key : Runs (go (.fn F.kce [s.v]) h1) fun v h' => Grow h1 h' ∧ ∃ m l, v = .map (some m) ∧ MapIs h' m l ∧ (l.length = xs.length ↔ xs.Nodup) := by
    rw [kof, n.len]
    refine Runs.newMap fun h2 M g2 => ?_
    exact (koo (n.grow g1) (by omega) (m := h1.blks.size) (Nat.le_refl _) xs.length 0 (by omega) (l := []) g2 M (fun x => by simp [kvGet]) (Nat.le_refl _) (by simp)).imp fun v h' ⟨g, e, l, M, hn⟩ => ⟨g, _, l, e, M, hn⟩
   refine key.call fun v h2 ⟨g2, m, l, e, M, hn⟩ => ?_
   subst e
   refine Runs.step (seen rfl) (Runs.step M.size (Runs.ret ⟨congrArg AV.bool ?_, g1.trans g2⟩))
   rw [decide_eq_decide, ← hn]
   omega
  ·rw [c2, Bool.false_and]
   exact Runs.ret ⟨rfl, g1⟩
 ·rw [decide_eq_false_iff_not] at c
  rw [decide_eq_false (show ¬ xs.length ≤ 256 by omega), Bool.false_and]
  exact Runs.ret ⟨rfl, Grow.refl _⟩
end
end Go.Ab

/- squeezed -/
set_option linter.unusedVariables false
set_option linter.unusedSimpArgs false
set_option maxRecDepth 10000
namespace Go.Ab
open Go.Proofs
theorem kkw {h0 : AH} {S : Fp} {s : Sl} {xs : List Int} (n : Sq EI h0 S s xs) {b : Nat} {z : Int} {e : TypeId} (hb : h0.has b [.int .i64 z] e) : Runs (go (.fn F.kco [s.v, .func (.func F.kbi) [] [.ptr (some (.new b 0))]]) h0) fun v h' => v = .bool (xs.any fun x => decide (x < 0) || decide (x ≥ z)) ∧ Grow h0 h' := by
 rw [kkm]
 refine Runs.contains (xs := xs) ?_
 rw [kog, n.len]
 refine kez (n := xs.length) (G := fun y h => go (.pt F.kbc Td.kby [(0, s.v), (1, .func (.func F.kbi) [] [.ptr (some (.new b 0))]), (7, .int .i64 (xs.length : Int)), (8, .int .i64 y)]) h) (fun i h P hi g hT hF => ?_) (fun h g => ?_) xs.length 0 (by omega) (Grow.refl h0) (fun j hj => by omega)
 ·obtain ⟨r, e1, e2⟩ := (n.grow g).int hi
  rw [List.getElem?_eq_getElem hi] at hT hF
  simp only [Option.any_some] at hT hF
  show Runs (go _ _) _
  rw [kgf]
  refine Runs.ifT (decide_eq_true (by omega)) (Runs.step e1 (Runs.step e2 ?_))
  have key : Runs (go (.fn F.kbi [.int .i64 xs[i], .ptr (some (.new b 0))]) h) fun v h' => v = .bool (decide (xs[i] < 0) || decide (xs[i] ≥ z)) ∧ h' = h := by
   rw [kjm]
   cases decide (xs[i] < 0)
   ·refine Runs.ifF rfl (Runs.step rfl (Runs.step ((g.has hb).rd0 rfl (kb _ _)) ?_))
    exact Runs.ret ⟨rfl, rfl⟩
   ·exact Runs.ret ⟨rfl, rfl⟩
  refine key.call fun v h' ⟨ev, eh⟩ => ?_
  subst ev; subst eh
  refine Runs.step (seen rfl) ?_
  rw [kn (by have := n.short; omega)]
  exact Runs.cond (fun c => Runs.ret (hT _ g c)) fun c => hF _ g c
 ·rw [kgf, condF (decide_eq_false (by omega))]
section
variable {h0 : AH} {S : Fp} {s1 s2 s3 : Sl} {t : Tb}
theorem kk9 (n : TabAt h0 S s1 s2 s3 t) (hl : t.cols.length ≤ 16) (hb : t.bins.length = t.cols.length) {b : Nat} (hbb : h0.blks.size ≤ b) : ∀ (k i : Nat), i + k = t.cols.length → ∀ {h : AH}, Grow h0 h → h.has b [s1.v, s2.v, s3.v] T.kr →
  Runs (go (.pt F.kcj Td.ket [(1, .ptr (some (.new b 0))), (27, s3.v), (28, .int .i64 (t.cols.length : Int)), (29, .int .i64 (i : Int))]) h) fun v h' => v = .bool (((List.range t.cols.length).drop i).all (colR t)) ∧ Grow h0 h' := by
 intro k
 induction k with
 | zero =>
  intro i hi h g B
  rw [kgo]
  refine Runs.ifF (decide_eq_false (by omega)) (Runs.ret ⟨?_, g⟩)
  rw [kcl (by simp; omega)]
 | succ k ih =>
  intro i hi h g B
  have hc : i < t.cols.length := by omega
  have hbi : i < t.bins.length := by omega
  obtain ⟨r, s', e1, e2, -, n'⟩ := (n.cols.grow g).sl hc
  obtain ⟨r2, e3, e4⟩ := (n.bins.grow g).int hbi
  rw [kgo]
  refine Runs.ifT (decide_eq_true (by omega)) (Runs.step e1 (Runs.step e2 (Runs.step (B.rd 1 rfl (asSl_v _)) (Runs.step e3 (Runs.step e4 ?_)))))
  refine Runs.new fun h1 b1 g1 => Runs.puts b1 rfl fun h2 b2 u2 => ?_
  have G : Grow h h2 := g1.updr (Nat.le_refl _) u2
  have B2 := G.has B
  rw [kdw hc]
  have hcol : colR t i = (!decide (t.bins[i] < 2) && !decide (t.bins[i] > 32) && decide (t.cols[i].length = t.ids.length) && !(t.cols[i].any fun x => decide (x < 0) || decide (x ≥ t.bins[i]))) := by
   simp [colR, List.getD, hbi, hc]
  rw [hcol]
  refine Runs.step (b2.rd0 rfl (kb _ _)) (Runs.cond (fun c => Runs.ret ⟨by rw [c]; rfl, g.trans G⟩) fun c => ?_)
  refine Runs.step (b2.rd0 rfl (kb _ _)) (Runs.cond (fun c2 => Runs.ret ⟨by rw [c, c2]; rfl, g.trans G⟩) fun c2 => ?_)
  refine Runs.step (B2.rd 0 rfl (asSl_v _)) ?_
  rw [n'.len, n.ids.len]
  refine Runs.cond (fun c3 => Runs.ret ⟨?_, g.trans G⟩) fun c3 => ?_
  ·have : ¬ t.cols[i].length = t.ids.length := by simpa [Int.ofNat_inj] using c3
   rw [c, c2, decide_eq_false this]
   rfl
  have c3 : t.cols[i].length = t.ids.length := by simpa [Int.ofNat_inj] using c3
  refine (kkw (n'.grow G) b2).call fun v h3 ⟨ev, g3⟩ => ?_
  subst ev
  refine Runs.step (seen rfl) (Runs.cond (fun c4 => Runs.ret ⟨by rw [c, c2, decide_eq_true c3, c4]; rfl, (g.trans G).trans g3⟩) fun c4 => ?_)
  rw [c, c2, decide_eq_true c3, c4, kn (by omega)]
  exact ih (i + 1) (by omega) ((g.trans G).trans g3) (g3.has B2)
theorem ki9 (n : TabAt h0 S s1 s2 s3 t) : Runs (go (.fn F.kcj [.agg [s1.v, s2.v, s3.v]]) h0) fun v h' => v = .bool (tabR t) ∧ Grow h0 h' := by
 rw [kjl]
 refine Runs.new fun h4 b4 g4 => Runs.step (b4.rd 0 rfl (asSl_v _)) ?_
 refine (knv (n.ids.grow g4)).call fun v h6 ⟨ev, g6⟩ => ?_
 subst ev
 have B := g6.has b4
 have G := g4.trans g6
 unfold tabR
 refine Runs.step (seen rfl) (Runs.cond (fun c => Runs.ret ⟨by rw [show idsR t.ids = false by simpa using c]; rfl, G⟩) fun c => ?_)
 rw [show idsR t.ids = true by simpa using c, Bool.true_and]
 refine Runs.step (B.rd 2 rfl (asSl_v _)) ?_
 rw [n.cols.len]
 refine Runs.cond (fun c2 => Runs.ret ⟨?_, G⟩) fun c2 => ?_
 ·rw [decide_eq_true_eq] at c2
  rw [decide_eq_true (show t.cols.length > 16 by omega)]
  rfl
 rw [decide_eq_false_iff_not] at c2
 rw [decide_eq_false (show ¬ t.cols.length > 16 by omega)]
 refine Runs.step (B.rd 1 rfl (asSl_v _)) (Runs.step (B.rd 2 rfl (asSl_v _)) ?_)
 rw [n.bins.len, n.cols.len]
 refine Runs.cond (fun c3 => Runs.ret ⟨?_, G⟩) fun c3 => ?_
 ·have : ¬ t.bins.length = t.cols.length := by simpa [Int.ofNat_inj] using c3
  rw [decide_eq_false this]
  rfl
 have c3 : t.bins.length = t.cols.length := by simpa [Int.ofNat_inj] using c3
 rw [decide_eq_true c3]
 refine Runs.step (B.rd 2 rfl (asSl_v _)) ?_
 rw [n.cols.len]
 exact kk9 n (by omega) c3 (Nat.le_refl _) t.cols.length 0 (by omega) G B
theorem klo {s : Sl} {xs : List Int} (n : Sq EI h0 S s xs) (x : Int) (hl : xs.length ≤ 1000000) : ∀ (k i : Nat), i + k = xs.length → (∀ j (hj : j < xs.length), j < i → xs[j] ≠ x) →
  ∃ z, go (.pt F.kci Td.kew [(0, s.v), (1, .int .i64 x), (5, .int .i64 (i : Int))]) h0 = some (.int .i64 z, h0) ∧ ∀ t (ht : t < xs.length), xs[t] = x → (z = (t : Int) ↔ ∀ j (hj : j < xs.length), j < t → xs[j] ≠ x) := by
 intro k
 induction k with
 | zero =>
  intro i hi hn
  refine ⟨-1, ?_, fun t ht e => absurd e (hn t ht (by omega))⟩
  rw [kgc, n.len, condF (decide_eq_false (by omega))]
 | succ k ih =>
  intro i hi hn
  have hlt : i < xs.length := by omega
  obtain ⟨r, e1, e2⟩ := n.int hlt
  rw [kgc, e1, n.len, condT (decide_eq_true (by omega)), Option.bind_some, e2, Option.bind_some]
  by_cases hx : xs[i] = x
  ·rw [condT (decide_eq_true hx)]
   refine ⟨_, rfl, fun t ht e => ⟨fun h j hj hjt => hn j hj (by omega), fun h => ?_⟩⟩
   rcases Nat.lt_trichotomy i t with h1 | h1 | h1
   ·exact absurd hx (h i hlt h1)
   ·rw [h1]
   ·exact absurd e (hn t ht h1)
  ·rw [condF (decide_eq_false hx), kn (by omega)]
   refine ih (i + 1) (by omega) fun j hj hji => ?_
   by_cases h1 : j = i
   ·subst h1; exact hx
   ·exact hn j hj (by omega)
theorem kn9 {s : Sl} {xs : List Int} (n : Sq EI h0 S s xs) (hl : xs.length ≤ 256) : ∀ (k i : Nat), i + k = xs.length → (∀ j (hj : j < xs.length), j < i → 0 ≤ xs[j] ∧ xs[j] ≤ 1073741824) → (xs.take i).Nodup →
  go (.pt F.kcc Td.kdj [(0, s.v), (3, .int .i64 (i : Int))]) h0 = some (.bool (!(xs.any fun x => decide (x < 0) || decide (x > 1073741824)) && decide xs.Nodup), h0) := by
 intro k
 induction k with
 | zero =>
  intro i hi hr hn
  rw [kh1, n.len, condF (decide_eq_false (by omega))]
  have h1 : (xs.any fun x => decide (x < 0) || decide (x > 1073741824)) = false := by
   rw [List.any_eq_false]
   intro x hx
   obtain ⟨j, hj, rfl⟩ := List.getElem_of_mem hx
   have := hr j hj (by omega)
   simp
   omega
  rw [show i = xs.length by omega, List.take_length] at hn
  rw [h1, decide_eq_true hn]
  rfl
 | succ k ih =>
  intro i hi hr hn
  have hlt : i < xs.length := by omega
  obtain ⟨r, e1, e2⟩ := n.int hlt
  rw [kh1, e1, n.len, condT (decide_eq_true (by omega))]
  rw [n.len] at e1
  simp only [Option.bind_some, e1, e2]
  have bad : (xs[i] < 0 ∨ xs[i] > 1073741824) → (xs.any fun x => decide (x < 0) || decide (x > 1073741824)) = true := fun h => by
   rw [List.any_eq_true]
   exact ⟨xs[i], List.getElem_mem hlt, by simpa using h⟩
  by_cases c1 : xs[i] < 0
  ·rw [condT (decide_eq_true c1), bad (.inl c1)]
   rfl
  rw [condF (decide_eq_false c1)]
  by_cases c2 : xs[i] > 1073741824
  ·rw [condT (decide_eq_true c2), bad (.inr c2)]
   rfl
  rw [condF (decide_eq_false c2)]
  obtain ⟨z, e3, hz⟩ := klo n xs[i] (by omega) xs.length 0 (by omega) fun j hj h => by omega
  have hz := hz i hlt rfl
  have hu : go (.fn F.kci [s.v, .int .i64 xs[i]]) h0 = some (.int .i64 z, h0) := by
   rw [kku]
   exact e3
  rw [hu]
  simp only [Option.bind_some, kb]
  have ht : xs.take (i + 1) = xs.take i ++ [xs[i]] := List.take_succ_eq_append_getElem hlt
  by_cases c3 : z = (i : Int)
  ·rw [condF (by rw [decide_eq_true c3]; rfl), kn (by omega)]
   refine ih (i + 1) (by omega) (fun j hj hji => ?_) ?_
   ·by_cases h1 : j = i
    ·subst h1; omega
    ·exact hr j hj (by omega)
   ·rw [ht, List.nodup_append]
    refine ⟨hn, by simp, fun a ha b hb => ?_⟩
    rw [List.mem_singleton] at hb
    subst hb
    rintro rfl
    obtain ⟨j, hj, e⟩ := List.getElem_of_mem ha
    rw [List.getElem_take] at e
    rw [List.length_take] at hj
    exact hz.1 c3 j (by omega) (by omega) e
  ·rw [condT (by rw [decide_eq_false c3]; rfl)]
   have : ¬ xs.Nodup := fun h => c3 (hz.2 fun j hj hji e => by
    have := (List.nodup_iff_pairwise_ne.1 h)
    rw [List.pairwise_iff_getElem] at this
    exact this j i hj hlt hji e)
   rw [decide_eq_false this, Bool.and_false]
theorem klf {s : Sl} {xs : List Int} (n : Sq EI h0 S s xs) : go (.fn F.kcc [s.v]) h0 = some (.bool (idsR xs), h0) := by
 rw [kk3, n.len]
 unfold idsR
 by_cases c : xs.length > 256
 ·rw [condT (decide_eq_true (by omega)), decide_eq_false (by omega)]
  rfl
 ·rw [condF (decide_eq_false (by omega)), decide_eq_true (show xs.length ≤ 256 by omega), Bool.true_and]
  exact kn9 n (by omega) xs.length 0 (by omega) (fun j hj h => by omega) (by simp)
theorem klx (n : TabAt h0 S s1 s2 s3 t) {b : Nat} (B : h0.has b [s1.v, s2.v, s3.v] T.kr) {i : Nat} (hc : i < t.cols.length) (hl : t.cols.length ≤ 16) (hb : t.bins.length = t.cols.length) (hi : t.cols[i].length = t.ids.length) (hids : t.ids.length ≤ 256) : ∀ (k j : Nat), j + k = t.ids.length →
  go (.pt F.kbe Td.ked [(1, .ptr (some (.new b 0))), (4, .int .i64 (i : Int)), (5, .int .i64 (j : Int))]) h0 = cond ((t.cols[i].drop j).any fun x => decide (x < 0) || decide (x ≥ t.bins[i])) (some (.bool false, h0)) (go (.pt F.kbe Td.kc3 [(1, .ptr (some (.new b 0))), (4, .int .i64 ((i + 1 : Nat) : Int))]) h0) := by
 have hbi : i < t.bins.length := by omega
 obtain ⟨r, s', e1, e2, -, n'⟩ := n.cols.sl hc
 obtain ⟨r2, e3, e4⟩ := n.bins.int hbi
 intro k
 induction k with
 | zero =>
  intro j hj
  rw [kg0, B.rd 0 rfl (asSl_v _), Option.bind_some, n.ids.len, condF (decide_eq_false (by omega)), kn (by omega), List.drop_of_length_le (by omega)]
  rfl
 | succ k ih =>
  intro j hj
  have hjc : j < t.cols[i].length := by omega
  obtain ⟨r3, e5, e6⟩ := n'.int hjc
  rw [kg0, B.rd 0 rfl (asSl_v _), Option.bind_some, n.ids.len, condT (decide_eq_true (by omega)), B.rd 2 rfl (asSl_v _)]
  simp only [Option.bind_some, e1, e2, e5, e6, B.rd 1 rfl (asSl_v _), e3, e4]
  rw [List.drop_eq_getElem_cons hjc, List.any_cons]
  by_cases c1 : t.cols[i][j] < 0
  ·rw [condT (decide_eq_true c1), decide_eq_true c1]
   rfl
  rw [condF (decide_eq_false c1), decide_eq_false c1, Bool.false_or]
  by_cases c2 : t.cols[i][j] ≥ t.bins[i]
  ·rw [condT (decide_eq_true c2), decide_eq_true c2]
   rfl
  rw [condF (decide_eq_false c2), decide_eq_false c2, Bool.false_or, kn (by omega)]
  exact ih (j + 1) (by omega)
theorem kk4 (n : TabAt h0 S s1 s2 s3 t) {b : Nat} (B : h0.has b [s1.v, s2.v, s3.v] T.kr) (hl : t.cols.length ≤ 16) (hb : t.bins.length = t.cols.length) (hids : t.ids.length ≤ 256) : ∀ (k i : Nat), i + k = t.cols.length →
  go (.pt F.kbe Td.kc3 [(1, .ptr (some (.new b 0))), (4, .int .i64 (i : Int))]) h0 = some (.bool (((List.range t.cols.length).drop i).all (colR t)), h0) := by
 intro k
 induction k with
 | zero =>
  intro i hi
  rw [kh5, B.rd 2 rfl (asSl_v _), Option.bind_some, n.cols.len, condF (decide_eq_false (by omega)), kcl (by simp; omega)]
 | succ k ih =>
  intro i hi
  have hc : i < t.cols.length := by omega
  have hbi : i < t.bins.length := by omega
  obtain ⟨r, s', e1, e2, -, n'⟩ := n.cols.sl hc
  obtain ⟨r2, e3, e4⟩ := n.bins.int hbi
  have hcol : colR t i = (!decide (t.bins[i] < 2) && !decide (t.bins[i] > 32) && decide (t.cols[i].length = t.ids.length) && !(t.cols[i].any fun x => decide (x < 0) || decide (x ≥ t.bins[i]))) := by
   simp [colR, List.getD, hbi, hc]
  rw [kdw hc, hcol]
  rw [kh5, B.rd 2 rfl (asSl_v _), Option.bind_some, n.cols.len, condT (decide_eq_true (by omega)), B.rd 1 rfl (asSl_v _), Option.bind_some, e3, Option.bind_some, e4, Option.bind_some]
  simp only [Option.bind_some, B.rd 0 rfl (asSl_v _), e1, e2, e3, e4]
  by_cases c1 : t.bins[i] < 2
  ·rw [condT (decide_eq_true c1), decide_eq_true c1]
   rfl
  rw [condF (decide_eq_false c1), decide_eq_false c1]
  by_cases c2 : t.bins[i] > 32
  ·rw [condT (decide_eq_true c2), decide_eq_true c2]
   rfl
  rw [condF (decide_eq_false c2), decide_eq_false c2, n'.len, n.ids.len]
  by_cases c3 : t.cols[i].length = t.ids.length
  ·rw [condF (by rw [decide_eq_true (by omega)]; rfl), decide_eq_true c3, show (0 : Int) = ((0 : Nat) : Int) from rfl, klx n B hc hl hb c3 hids t.ids.length 0 (by omega), List.drop_zero]
   cases (t.cols[i].any fun x => decide (x < 0) || decide (x ≥ t.bins[i])) with
   | true => rfl
   | false => rw [cond_false, ih (i + 1) (by omega)]; rfl
  ·rw [condT (by rw [decide_eq_false (by omega)]; rfl), decide_eq_false c3]
   rfl
theorem kla (n : TabAt h0 S s1 s2 s3 t) : Runs (go (.fn F.kbe [.agg [s1.v, s2.v, s3.v]]) h0) fun v h' => v = .bool (tabR t) ∧ Grow h0 h' := by
 rw [kl7]
 refine Runs.new fun h4 B G => Runs.step (B.rd 0 rfl (asSl_v _)) ?_
 refine Runs.step (klf (n.ids.grow G)) ?_
 unfold tabR
 refine Runs.step (seen rfl) (Runs.cond (fun c => Runs.ret ⟨by rw [show idsR t.ids = false by simpa using c]; rfl, G⟩) fun c => ?_)
 have c : idsR t.ids = true := by simpa using c
 rw [c, Bool.true_and]
 refine Runs.step (B.rd 2 rfl (asSl_v _)) ?_
 rw [n.cols.len]
 refine Runs.cond (fun c2 => Runs.ret ⟨?_, G⟩) fun c2 => ?_
 ·rw [decide_eq_true_eq] at c2
  rw [decide_eq_true (show t.cols.length > 16 by omega)]
  rfl
 rw [decide_eq_false_iff_not] at c2
 rw [decide_eq_false (show ¬ t.cols.length > 16 by omega)]
 refine Runs.step (B.rd 1 rfl (asSl_v _)) (Runs.step (B.rd 2 rfl (asSl_v _)) ?_)
 rw [n.bins.len, n.cols.len]
 refine Runs.cond (fun c3 => Runs.ret ⟨?_, G⟩) fun c3 => ?_
 ·have : ¬ t.bins.length = t.cols.length := by simpa [Int.ofNat_inj] using c3
  rw [decide_eq_false this]
  rfl
 have c3 : t.bins.length = t.cols.length := by simpa [Int.ofNat_inj] using c3
 rw [decide_eq_true c3]
 have hids : t.ids.length ≤ 256 := by
  unfold idsR at c
  simp at c
  exact c.1
 have := kk4 (n.grow G) B (by omega) c3 hids t.cols.length 0 (by omega)
 exact ⟨_, _, this, rfl, G⟩
end
end Go.Ab

/- squeezed -/
set_option linter.unusedVariables false
set_option linter.unusedSimpArgs false
set_option maxRecDepth 10000
namespace Go.Ab
open Go.Proofs
theorem AH.has.at {h : AH} {i : Nat} {cs : List AV} {e : TypeId} (b : h.has i cs e) {k : Nat} {v : AV} (hk : cs[k]? = some v) : h.cell (.new i k) = some v := (b.cell k).trans hk
theorem Runs.yieldF {f : FuncId} {a c xs : List AV} {A : Nat × List AV → Option (AV × AH)} {B : Option (AV × AH)} {P : AV → AH → Prop} (H : Runs B P) : Runs (yieldK (.func (.func f) a c) xs A B) P := H
def Nd.may (x : Nd) (i n : Int) : Prop := if x.leaf = true then (-1099511627776 ≤ x.weight ∧ x.weight ≤ 1099511627776 ∧ x.party = 0 ∧ x.feature = 0 ∧ x.cut = 0 ∧ x.left = 0 ∧ x.right = 0)
 else (x.weight = 0 ∧ 0 ≤ x.party ∧ x.party ≤ 15 ∧ 0 ≤ x.feature ∧ x.feature ≤ 1073741824 ∧ 0 ≤ x.cut ∧ x.cut ≤ 31 ∧ i < x.left ∧ x.left < n ∧ i < x.right ∧ x.right < n ∧ x.left ≠ x.right)
instance Nd.mayDec (x : Nd) (i n : Int) : Decidable (x.may i n) := by unfold Nd.may; exact inferInstance
theorem kgl (a b c : Int) (h : AH) : callV Pg go (.func (.func F.kb5) [] []) [.int .i64 a, .int .i64 b, .int .i64 c] h = some (.bool (decide (b ≤ a) && decide (a ≤ c)), h) := by
 show callF Pg go F.kb5 _ h = _
 rw [kmc]
 show go (.fn F.kb5 [.int .i64 a, .int .i64 b, .int .i64 c]) h = _
 rw [klu]
 by_cases k : a ≥ b
 ·rw [condT (decide_eq_true k), decide_eq_true (show b ≤ a from k)]; rfl
 ·rw [condF (decide_eq_false k), decide_eq_false (show ¬ b ≤ a from k)]; rfl
theorem koc {h : AH} {a i n : Int} {x y z : Nat} {e1 e2 e3 : TypeId} (b1 : h.has x [.func (.func F.kb5) [] []] e1) (b2 : h.has y [.int .i64 i] e2) (b3 : h.has z [.int .i64 n] e3) (hi : 0 ≤ i ∧ i ≤ 1000) (hn : 0 ≤ n ∧ n ≤ 1000) :
  go (.fn F.kq [.int .i64 a, .ptr (some (.new x 0)), .ptr (some (.new y 0)), .ptr (some (.new z 0))]) h = some (.bool (decide (i < a) && decide (a < n)), h) := by
 have : Runs (go (.fn F.kq [.int .i64 a, .ptr (some (.new x 0)), .ptr (some (.new y 0)), .ptr (some (.new z 0))]) h) fun v h' => v = .bool (decide (i < a) && decide (a < n)) ∧ h' = h := by
  rw [kiw]
  refine Runs.step (b1.at rfl) (Runs.step (b2.rd0 rfl (kb _ _)) (Runs.step (b3.rd0 rfl (kb _ _)) (Runs.yieldF ?_)))
  refine Runs.step (kgl _ _ _ _) (Runs.step (seen rfl) (Runs.ret ⟨congrArg AV.bool ?_, rfl⟩))
  have w1 : IntKind.wrap .i64 (i + 1) = i + 1 := wrap64 (by omega) (by omega)
  have w2 : IntKind.wrap .i64 (n - 1) = n - 1 := wrap64 (by omega) (by omega)
  rw [w1, w2]
  congr 1 <;> rw [decide_eq_decide] <;> omega
 obtain ⟨_, _, e, rfl, rfl⟩ := this
 exact e
theorem kkz {h : AH} (x : Nd) {i n : Int} (hi : 0 ≤ i ∧ i ≤ 1000) (hn : 0 ≤ n ∧ n ≤ 1000) : Runs (go (.fn F.kd9 [.agg x.cells, .int .i64 i, .int .i64 n]) h) fun v h' => v = .bool (decide (x.may i n)) ∧ Grow h h' := by
 obtain ⟨leaf, w, p, f, c, l, r⟩ := x
 show Runs (go (.fn F.kd9 [.agg [.bool leaf, .int .i64 w, .int .i64 p, .int .i64 f, .int .i64 c, .int .i64 l, .int .i64 r], .int .i64 i, .int .i64 n]) h) _
 rw [knn]
 refine Runs.new fun h1 b1 g1 => Runs.new fun h2 b2 g2 => Runs.new fun h3 b3 g3 => Runs.new fun h4 b4 g4 => Runs.puts b4 rfl fun h5 b5 u5 => ?_
 have g5 := (Grow.refl h3).trans g4 |>.updr (Nat.le_refl _) u5
 have b1 := (g2.trans (g3.trans g5)).has b1
 have b2 := (g3.trans g5).has b2
 have b3 := g5.has b3
 have G := g1.trans (g2.trans (g3.trans g5))
 have fin : ∀ {b : Bool}, (b = true ↔ Nd.may ⟨leaf, w, p, f, c, l, r⟩ i n) → Runs (some (.bool b, h5)) fun v h' => v = .bool (decide (Nd.may ⟨leaf, w, p, f, c, l, r⟩ i n)) ∧ Grow h h' := fun {b} e => Runs.ret ⟨congrArg AV.bool (by
  rw [Bool.eq_iff_iff, decide_eq_true_eq]
  exact e), G⟩
 cases leaf
 all_goals
  repeat' first
   | refine Runs.yieldF ?_
   | refine Runs.step (kgl _ _ _ _) ?_
   | refine Runs.step (koc b5 b2 b3 hi hn) ?_
   | refine Runs.step (AH.has.rd (by assumption) _ rfl (by first | exact kb _ _ | rfl)) ?_
   | refine Runs.step (AH.has.at (by assumption) rfl) ?_
   | refine Runs.step (seen rfl) ?_
   | refine Runs.cond (fun k => ?_) (fun k => ?_)
  all_goals
   refine fin ?_
   simp [Nd.may] at *
   try omega
theorem kjn {h : AH} (x : Nd) {i n : Int} : Runs (go (.fn F.keo [.agg x.cells, .int .i64 i, .int .i64 n]) h) fun v h' => v = .bool (decide (x.may i n)) ∧ Grow h h' := by
 obtain ⟨leaf, w, p, f, c, l, r⟩ := x
 show Runs (go (.fn F.keo [.agg [.bool leaf, .int .i64 w, .int .i64 p, .int .i64 f, .int .i64 c, .int .i64 l, .int .i64 r], .int .i64 i, .int .i64 n]) h) _
 rw [kiy]
 refine Runs.new fun h5 b1 G => ?_
 have fin : ∀ {b : Bool}, (b = true ↔ Nd.may ⟨leaf, w, p, f, c, l, r⟩ i n) → Runs (some (.bool b, h5)) fun v h' => v = .bool (decide (Nd.may ⟨leaf, w, p, f, c, l, r⟩ i n)) ∧ Grow h h' := fun {b} e => Runs.ret ⟨congrArg AV.bool (by
  rw [Bool.eq_iff_iff, decide_eq_true_eq]
  exact e), G⟩
 cases leaf
 all_goals
  repeat' first
   | refine Runs.step (AH.has.rd (by assumption) _ rfl (by first | exact kb _ _ | rfl)) ?_
   | refine Runs.cond (fun k => ?_) (fun k => ?_)
  all_goals
   refine fin ?_
   simp [Nd.may] at *
   try omega
end Go.Ab

/- squeezed -/
set_option linter.unusedVariables false
set_option linter.unusedSimpArgs false
set_option maxRecDepth 10000
namespace Go.Ab
open Go.Proofs
abbrev EM : Ef (List Nd) := Ef.seq Ef.nd
def Nd.no : Nd := ⟨false, 0, 0, 0, 0, 0, 0⟩
def nodesR (l : List Nd) (i : Nat) : Bool := decide ((l.getD i Nd.no).may (i : Int) (l.length : Int))
def treeR (l : List Nd) : Bool := !decide (l.length < 1) && !decide (l.length > 63) && (List.range l.length).all (nodesR l)
def modR (m : List (List Nd)) : Bool := !decide (m.length > 16) && m.all treeR
section
variable {h0 : AH} {S : Fp} {s : Sl} {m : List (List Nd)}
theorem kmw {l : List Nd} {t : Sl} (n : Sq Ef.nd h0 S t l) (hl : l.length ≤ 63) {b : Nat} (hb : h0.has b [t.v] T.kx) (hl2 : m.length ≤ 16) {z : Nat} (hz : z < m.length) : ∀ (k i : Nat), i + k = l.length → ∀ {h : AH}, Grow h0 h →
  (∀ h', Grow h0 h' → Runs (go (.pt F.kbg Td.kc1 [(12, s.v), (13, .int .i64 (m.length : Int)), (14, .int .i64 ((z + 1 : Nat) : Int))]) h') fun v h'' => v = .bool ((m.drop (z + 1)).all treeR) ∧ Grow h' h'') →
  Runs (go (.pt F.kbg Td.kek [(4, .ptr (some (.new b 0))), (12, s.v), (13, .int .i64 (m.length : Int)), (14, .int .i64 (z : Int)), (29, t.v), (30, .int .i64 (l.length : Int)), (31, .int .i64 (i : Int))]) h) fun v h' => v = .bool (((List.range l.length).drop i).all (nodesR l) && (m.drop (z + 1)).all treeR) ∧ Grow h0 h' := by
 intro k
 induction k with
 | zero =>
  intro i hi h g next
  rw [kgi]
  refine Runs.ifF (decide_eq_false (by omega)) ?_
  rw [kn (by omega), kcl (by simp; omega), Bool.true_and]
  exact (next h g).imp fun v h' ⟨a, b⟩ => ⟨a, g.trans b⟩
 | succ k ih =>
  intro i hi h g next
  have hlt : i < l.length := by omega
  obtain ⟨r, e, e0, e1, e2, e3, e4, e5, e6⟩ := (n.grow g).nd hlt
  rw [kgi]
  refine Runs.ifT (decide_eq_true (by omega)) (Runs.step e (Runs.step e0 (Runs.step e1 (Runs.step e2 (Runs.step e3 (Runs.step e4 (Runs.step e5 (Runs.step e6 ?_))))))))
  refine Runs.new fun h1 b1 g1 => Runs.puts b1 rfl fun h2 b2 u2 => ?_
  have G : Grow h h2 := g1.updr (Nat.le_refl _) u2
  have hb2 := (g.trans G).has hb
  repeat refine Runs.step (AH.has.rd (by assumption) _ rfl (by first | exact kb _ _ | exact asSl_v _ | rfl)) ?_
  rw [n.len]
  refine (kkz l[i] (i := (i : Int)) (n := (l.length : Int)) (by omega) (by omega)).call fun v h3 ⟨ev, g3⟩ => ?_
  subst ev
  refine Runs.step (seen rfl) ?_
  have hn : nodesR l i = decide (l[i].may (i : Int) (l.length : Int)) := by simp [nodesR, List.getD, hlt]
  rw [kdw hlt, hn]
  refine Runs.cond (fun c => Runs.ret ⟨?_, (g.trans G).trans g3⟩) fun c => ?_
  ·rw [Bool.not_eq_true'] at c
   rw [c]; rfl
  ·rw [Bool.not_eq_false'] at c
   rw [c, Bool.true_and, kn (by omega)]
   exact ih (i + 1) (by omega) ((g.trans G).trans g3) next
theorem ki0 (n : Sq EM h0 S s m) (hl : m.length ≤ 16) : ∀ (k z : Nat), z + k = m.length → ∀ {h : AH}, Grow h0 h →
  Runs (go (.pt F.kbg Td.kc1 [(12, s.v), (13, .int .i64 (m.length : Int)), (14, .int .i64 (z : Int))]) h) fun v h' => v = .bool ((m.drop z).all treeR) ∧ Grow h h' := by
 intro k
 induction k with
 | zero =>
  intro z hz h g
  rw [kho]
  refine Runs.ifF (decide_eq_false (by omega)) (Runs.ret ⟨by rw [kcl (by omega)], Grow.refl _⟩)
 | succ k ih =>
  intro z hz h g
  have hlt : z < m.length := by omega
  obtain ⟨r, t, e1, -, e2, n'⟩ := (n.grow g).sl hlt
  rw [kho]
  refine Runs.ifT (decide_eq_true (by omega)) (Runs.step e1 (Runs.step e2 ?_))
  refine Runs.new fun h1 b1 g1 => Runs.puts b1 rfl fun h2 b2 u2 => ?_
  have G : Grow h h2 := g1.updr (Nat.le_refl _) u2
  refine Runs.step (b2.rd 0 rfl (asSl_v _)) ?_
  rw [n'.len, kfj hlt]
  unfold treeR
  refine Runs.cond (fun c => Runs.ret ⟨?_, G⟩) fun c => ?_
  ·rw [decide_eq_true_eq] at c
   rw [decide_eq_true (show m[z].length < 1 by omega)]; rfl
  rw [decide_eq_false_iff_not] at c
  rw [decide_eq_false (show ¬ m[z].length < 1 by omega)]
  refine Runs.step (b2.rd 0 rfl (asSl_v _)) ?_
  rw [n'.len]
  refine Runs.cond (fun c2 => Runs.ret ⟨?_, G⟩) fun c2 => ?_
  ·rw [decide_eq_true_eq] at c2
   rw [decide_eq_true (show m[z].length > 63 by omega)]; rfl
  rw [decide_eq_false_iff_not] at c2
  rw [decide_eq_false (show ¬ m[z].length > 63 by omega)]
  refine Runs.step (b2.rd 0 rfl (asSl_v _)) ?_
  rw [n'.len]
  refine (kmw (n'.grow G) (by omega) b2 hl hlt m[z].length 0 (by omega) (Grow.refl _) fun h' g' => ih (z + 1) (by omega) ((g.trans G).trans g')).imp fun v h' ⟨a, b⟩ => ⟨?_, G.trans b⟩
  rw [a]
  rfl
theorem koj (n : Sq EM h0 S s m) : Runs (go (.fn F.kbg [.agg [s.v]]) h0) fun v h' => v = .bool (modR m) ∧ Grow h0 h' := by
 rw [kjk]
 refine Runs.new fun h2 b2 g2 => Runs.step (b2.rd 0 rfl (asSl_v _)) ?_
 rw [n.len]
 unfold modR
 refine Runs.cond (fun c => Runs.ret ⟨?_, g2⟩) fun c => ?_
 ·rw [decide_eq_true_eq] at c
  rw [decide_eq_true (show m.length > 16 by omega)]; rfl
 rw [decide_eq_false_iff_not] at c
 rw [decide_eq_false (show ¬ m.length > 16 by omega)]
 refine Runs.step (b2.rd 0 rfl (asSl_v _)) ?_
 rw [n.len]
 exact (ki0 n (by omega) m.length 0 (by omega) g2).imp fun v h' ⟨a, b⟩ => ⟨a, g2.trans b⟩
theorem kme {l : List Nd} {t : Sl} (n : Sq Ef.nd h0 S t l) (hl : l.length ≤ 63) {b : Nat} (hl2 : m.length ≤ 16) {z : Nat} (hz : z < m.length) : ∀ (k i : Nat), i + k = l.length → ∀ {h : AH}, Grow h0 h →
  (∀ h', Grow h0 h' → Runs (go (.pt F.kbb Td.kc9 [(1, .ptr (some (.new b 0))), (3, .int .i64 ((z + 1 : Nat) : Int))]) h') fun v h'' => v = .bool ((m.drop (z + 1)).all treeR) ∧ Grow h' h'') →
  Runs (go (.pt F.kbb Td.kd4 [(1, .ptr (some (.new b 0))), (3, .int .i64 (z : Int)), (4, t.v), (5, .int .i64 (i : Int))]) h) fun v h' => v = .bool (((List.range l.length).drop i).all (nodesR l) && (m.drop (z + 1)).all treeR) ∧ Grow h0 h' := by
 intro k
 induction k with
 | zero =>
  intro i hi h g next
  rw [kg7, n.len]
  refine Runs.ifF (decide_eq_false (by omega)) ?_
  rw [kn (by omega), kcl (by simp; omega), Bool.true_and]
  exact (next h g).imp fun v h' ⟨a, b⟩ => ⟨a, g.trans b⟩
 | succ k ih =>
  intro i hi h g next
  have hlt : i < l.length := by omega
  obtain ⟨r, e, e0, e1, e2, e3, e4, e5, e6⟩ := (n.grow g).nd hlt
  rw [kg7, n.len]
  rw [n.len] at e
  refine Runs.ifT (decide_eq_true (by omega)) (Runs.step e (Runs.step e0 (Runs.step e1 (Runs.step e2 (Runs.step e3 (Runs.step e4 (Runs.step e5 (Runs.step e6 ?_))))))))
  refine (kjn l[i] (i := (i : Int)) (n := (l.length : Int))).call fun v h3 ⟨ev, g3⟩ => ?_
  subst ev
  refine Runs.step (seen rfl) ?_
  have hn : nodesR l i = decide (l[i].may (i : Int) (l.length : Int)) := by simp [nodesR, List.getD, hlt]
  rw [kdw hlt, hn]
  refine Runs.cond (fun c => Runs.ret ⟨?_, g.trans g3⟩) fun c => ?_
  ·rw [Bool.not_eq_true'] at c
   rw [c]; rfl
  ·rw [Bool.not_eq_false'] at c
   rw [c, Bool.true_and, kn (by omega)]
   exact ih (i + 1) (by omega) (g.trans g3) next
theorem kja (n : Sq EM h0 S s m) (hl : m.length ≤ 16) {b : Nat} (hb : h0.has b [s.v] T.kw) : ∀ (k z : Nat), z + k = m.length → ∀ {h : AH}, Grow h0 h →
  Runs (go (.pt F.kbb Td.kc9 [(1, .ptr (some (.new b 0))), (3, .int .i64 (z : Int))]) h) fun v h' => v = .bool ((m.drop z).all treeR) ∧ Grow h h' := by
 intro k
 induction k with
 | zero =>
  intro z hz h g
  rw [kgg]
  refine Runs.step ((g.has hb).rd 0 rfl (asSl_v _)) ?_
  rw [n.len]
  refine Runs.ifF (decide_eq_false (by omega)) (Runs.ret ⟨by rw [kcl (by omega)], Grow.refl _⟩)
 | succ k ih =>
  intro z hz h g
  have hlt : z < m.length := by omega
  obtain ⟨r, t, e1, -, e2, n'⟩ := (n.grow g).sl hlt
  rw [kgg]
  refine Runs.step ((g.has hb).rd 0 rfl (asSl_v _)) ?_
  rw [n.len]
  rw [n.len] at e1
  refine Runs.ifT (decide_eq_true (by omega)) (Runs.step ((g.has hb).rd 0 rfl (asSl_v _)) ?_)
  rw [n.len]
  refine Runs.step e1 (Runs.step e2 ?_)
  rw [n'.len, kfj hlt]
  unfold treeR
  refine Runs.cond (fun c => Runs.ret ⟨?_, Grow.refl _⟩) fun c => ?_
  ·rw [decide_eq_true_eq] at c
   rw [decide_eq_true (show m[z].length < 1 by omega)]; rfl
  rw [decide_eq_false_iff_not] at c
  rw [decide_eq_false (show ¬ m[z].length < 1 by omega)]
  refine Runs.cond (fun c2 => Runs.ret ⟨?_, Grow.refl _⟩) fun c2 => ?_
  ·rw [decide_eq_true_eq] at c2
   rw [decide_eq_true (show m[z].length > 63 by omega)]; rfl
  rw [decide_eq_false_iff_not] at c2
  rw [decide_eq_false (show ¬ m[z].length > 63 by omega)]
  exact kme n' (by omega) hl hlt m[z].length 0 (by omega) (Grow.refl _) fun h' g' => ih (z + 1) (by omega) (g.trans g')
theorem kom (n : Sq EM h0 S s m) : Runs (go (.fn F.kbb [.agg [s.v]]) h0) fun v h' => v = .bool (modR m) ∧ Grow h0 h' := by
 rw [klr]
 refine Runs.new fun h2 b2 g2 => Runs.step (b2.rd 0 rfl (asSl_v _)) ?_
 rw [n.len]
 unfold modR
 refine Runs.cond (fun c => Runs.ret ⟨?_, g2⟩) fun c => ?_
 ·rw [decide_eq_true_eq] at c
  rw [decide_eq_true (show m.length > 16 by omega)]; rfl
 rw [decide_eq_false_iff_not] at c
 rw [decide_eq_false (show ¬ m.length > 16 by omega)]
 exact (kja (n.grow g2) (by omega) b2 m.length 0 (by omega) (Grow.refl _)).imp fun v h' ⟨a, b⟩ => ⟨a, g2.trans b⟩
end
end Go.Ab

/- squeezed -/
set_option linter.unusedVariables false
set_option linter.unusedSimpArgs false
set_option maxRecDepth 10000
namespace Go.Ab
open Go.Proofs
def oddI (x : Int) : Bool := decide (x < 0) || decide (x > 1073741824)
def natNo (x : List Nat) : Bool := !rt x || decide (x.length > 4)
def riseOk (l : List Int) (i : Nat) : Bool := decide (i = 0) || !decide (l.getD i 0 ≤ l.getD (i - 1) 0)
structure Ms where
 kind : Int
 a : Int
 b : Int
 c : Int
 ids : List Int
 rows : List Int
 nats : List (List Nat)
 deriving DecidableEq
structure MsAt (h : AH) (S : Fp) (s5 s6 s7 : Sl) (m : Ms) : Prop where
 ids : Sq EI h S s5 m.ids
 rows : Sq EI h S s6 m.rows
 nats : Sq Ef.nats h S s7 m.nats
theorem MsAt.grow {h h' : AH} {S : Fp} {s5 s6 s7 : Sl} {m : Ms} (n : MsAt h S s5 s6 s7 m) (g : Grow h h') : MsAt h' S s5 s6 s7 m := ⟨n.ids.grow g, n.rows.grow g, n.nats.grow g⟩
theorem MsAt.md {h h' : AH} {S T : Fp} {s5 s6 s7 : Sl} {m : Ms} (n : MsAt h S s5 s6 s7 m) (d : Md T h h') (x : Dis S T) : MsAt h' S s5 s6 s7 m := ⟨n.ids.md d x, n.rows.md d x, n.nats.md d x⟩
@[reducible] def Ms.cells (m : Ms) (s5 s6 s7 : Sl) : List AV := [.int .i64 m.kind, .int .i64 m.a, .int .i64 m.b, .int .i64 m.c, s5.v, s6.v, s7.v]
def Ms.end' (m : Ms) : Prop := (m.kind = 1 → m.nats.length = 1) ∧ (m.kind = 5 → m.nats.length = m.ids.length) ∧ (m.kind = 6 → m.ids.length ≠ 0) ∧ (m.kind = 9 → m.c ≤ 1)
def Ms.lists (m : Ms) : Prop := (m.ids.length ≤ 16384 ∧ (m.kind = 5 ∨ m.kind = 6 ∨ m.ids.length = 0) ∧ m.ids.any oddI = false) ∧ (m.rows.length ≤ 16384 ∧ (m.kind = 4 ∨ m.kind = 7 ∨ m.rows.length = 0) ∧ m.rows.any oddI = false) ∧
 (m.nats.length ≤ 16384 ∧ (m.kind = 1 ∨ m.kind = 3 ∨ m.kind = 5 ∨ m.nats.length = 0) ∧ m.nats.any natNo = false) ∧ (List.range m.rows.length).all (riseOk m.rows) = true
def Ms.heads (m : Ms) : Prop := 1 ≤ m.kind ∧ m.kind ≤ 11 ∧ oddI m.a = false ∧ oddI m.b = false ∧ oddI m.c = false ∧ ((m.kind = 3 ∨ m.kind = 10 ∨ m.kind = 11) → m.b = 0) ∧ (¬ (m.kind = 7 ∨ m.kind = 9) → m.c = 0)
def Ms.ok (m : Ms) : Prop := m.heads ∧ m.lists ∧ m.end'
section
variable {h0 : AH} {S : Fp}
variable {m : Ms} {s5 s6 s7 : Sl} {b : Nat}
end
end Go.Ab

/- squeezed -/
set_option linter.unusedVariables false
set_option linter.unusedSimpArgs false
set_option maxRecDepth 10000
namespace Go.Ab
open Go.Proofs
section
variable {h0 : AH} {S : Fp} {m : Ms} {s5 s6 s7 : Sl} {b : Nat}
end
end Go.Ab

/- squeezed -/
set_option linter.unusedVariables false
set_option linter.unusedSimpArgs false
set_option maxRecDepth 10000
namespace Go.Ab
open Go.Proofs
theorem keu {A : Type} {f : AV → Option A} {h h' : AH} {r : Ref} {k : Nat} {x : A} (e : (h.cell (r.add k)).bind f = some x) (g : Grow h h') (o n : Nat) : SameAt h h' (r.add o) n := by
 obtain ⟨v, e1, _⟩ := Option.bind_eq_some_iff.1 e
 have hi := AH.cell_inn e1
 have inn : ∀ a, (r.add a).inn h := fun a => by
  cases r with
  | old _ => trivial
  | new i p => exact hi
 refine ⟨fun j _ => ?_, ?_⟩
 ·rw [Ref.add_add]
  exact g.cell (inn _)
 ·cases r with
  | old _ => exact fun _ => True.intro
  | new i p => exact fun _ => g.blk i hi
structure Wk where
 m : List (List Nd)
 t : Tb
 row : Nat
 tree : Nat
 node : Nat
 sc : List Int
def Wk.nd (w : Wk) : Nd := (w.m.getD w.tree []).getD w.node Nd.no
def Wk.bin (w : Wk) : Int := (w.t.cols.getD w.nd.feature.toNat []).getD w.row 0
def Wk.kid (w : Wk) (b : Bool) : Int := if b then w.nd.left else w.nd.right
def Wk.step (w : Wk) : Option Wk :=
 if w.t.ids.length ≤ w.row then none
 else if w.m.length ≤ w.tree then some { w with row := w.row + 1, tree := 0, node := 0 }
 else if w.nd.leaf then some { w with tree := w.tree + 1, node := 0, sc := w.sc.set w.row (IntKind.wrap .i64 (w.sc.getD w.row 0 + w.nd.weight)) }
 else if w.nd.party ≠ 0 then none
 else some { w with node := (w.kid (decide (w.bin ≤ w.nd.cut))).toNat }
def Wk.on : Nat → Wk → Wk
 | 0, w => w
 | f + 1, w => match w.step with
  | none => w
  | some w' => Wk.on f w'
def Wk.mu (w : Wk) : Nat := (w.t.ids.length - w.row) * 1089 - (w.tree * 64 + w.node)
structure Wk.Ok (w : Wk) : Prop where
 m : modR w.m = true
 t : tabR w.t = true
 own : ∀ l ∈ w.m, ∀ x ∈ l, x.leaf = false → x.party = 0 → x.feature < (w.t.cols.length : Int)
 sc : w.sc.length = w.t.ids.length
 row : w.row ≤ w.t.ids.length
 tree : w.tree ≤ w.m.length
 node : w.tree < w.m.length → w.node < (w.m.getD w.tree []).length
 end' : w.tree = w.m.length → w.node = 0
 over : w.row = w.t.ids.length → w.tree = 0 ∧ w.node = 0
theorem kc0 {m : List (List Nd)} (h : modR m = true) : m.length ≤ 16 := by
 unfold modR at h
 simp at h
 omega
theorem kcp {m : List (List Nd)} (h : modR m = true) {k : Nat} (hk : k < m.length) : 1 ≤ m[k].length ∧ m[k].length ≤ 63 ∧ ∀ (i : Nat) (hi : i < m[k].length), (m[k][i]).may (i : Int) (m[k].length : Int) := by
 unfold modR at h
 simp only [Bool.and_eq_true, List.all_eq_true] at h
 have h2 := h.2 m[k] (List.getElem_mem hk)
 unfold treeR at h2
 simp only [Bool.and_eq_true, Bool.not_eq_true', decide_eq_false_iff_not, List.all_eq_true] at h2
 refine ⟨by omega, by omega, fun i hi => ?_⟩
 have := h2.2 i (by simpa using hi)
 simpa [nodesR, List.getD, hi] using this
theorem kdf {t : Tb} (h : tabR t = true) : t.ids.length ≤ 256 := by
 unfold tabR idsR at h
 simp at h
 exact h.1.1.1.1
theorem knr {t : Tb} (h : tabR t = true) {k : Nat} (hk : k < t.cols.length) : t.cols[k].length = t.ids.length := by
 unfold tabR at h
 simp only [Bool.and_eq_true, List.all_eq_true] at h
 have := h.2 k (by simpa using hk)
 unfold colR at this
 simp only [Bool.and_eq_true, decide_eq_true_eq] at this
 have h3 := this.1.2
 simpa [List.getD, hk] using h3
section
variable {w : Wk}
theorem Wk.Ok.at (o : Wk.Ok w) (h : w.row < w.t.ids.length) (h2 : w.tree < w.m.length) : ∃ h3 : w.node < w.m[w.tree].length, w.nd = w.m[w.tree][w.node] ∧ w.nd.may (w.node : Int) (w.m[w.tree].length : Int) ∧ w.m[w.tree].length ≤ 63 := by
 have hn := o.node h2
 have e : w.m.getD w.tree [] = w.m[w.tree] := by simp [List.getD, h2]
 rw [e] at hn
 have e2 : w.nd = w.m[w.tree][w.node] := by
  show (w.m.getD w.tree []).getD w.node Nd.no = _
  rw [e, List.getD, List.getElem?_eq_getElem hn]
  rfl
 obtain ⟨h4, h5, h6⟩ := kcp o.m h2
 exact ⟨hn, e2, by rw [e2]; exact h6 _ hn, h5⟩
theorem Wk.Ok.kid (o : Wk.Ok w) (h : w.row < w.t.ids.length) (h2 : w.tree < w.m.length) (hl : w.nd.leaf = false) (b : Bool) : ∃ z : Nat, w.kid b = (z : Int) ∧ w.node < z ∧ z < w.m[w.tree].length ∧ z ≤ 63 ∧ Wk.Ok { w with node := z } := by
 obtain ⟨h3, e, hm, h63⟩ := o.at h h2
 unfold Nd.may at hm
 rw [hl, if_neg (by simp)] at hm
 have key : (w.node : Int) < w.kid b ∧ w.kid b < (w.m[w.tree].length : Int) := by
  unfold Wk.kid
  cases b
  ·simp; omega
  ·simp; omega
 refine ⟨(w.kid b).toNat, by omega, by omega, by omega, by omega, ⟨o.m, o.t, o.own, o.sc, o.row, o.tree, fun _ => ?_, fun h => by dsimp only at h; omega, fun h => by dsimp only at h; omega⟩⟩
 dsimp only
 simp [List.getD, h2]
 omega
theorem Wk.Ok.feature (o : Wk.Ok w) (h : w.row < w.t.ids.length) (h2 : w.tree < w.m.length) (hl : w.nd.leaf = false) (hp : w.nd.party = 0) : ∃ f : Nat, w.nd.feature = (f : Int) ∧ ∃ hf : f < w.t.cols.length, w.row < w.t.cols[f].length ∧ w.bin = w.t.cols[f].getD w.row 0 := by
 obtain ⟨h3, e, hm, h63⟩ := o.at h h2
 have hm2 := hm
 unfold Nd.may at hm2
 rw [hl, if_neg (by simp)] at hm2
 have h4 := o.own _ (List.getElem_mem h2) _ (List.getElem_mem h3) (by rw [← e]; exact hl) (by rw [← e]; exact hp)
 rw [← e] at h4
 refine ⟨w.nd.feature.toNat, by omega, by omega, ?_, ?_⟩
 ·rw [knr o.t (by omega)]; exact h
 ·have hf : w.nd.feature.toNat < w.t.cols.length := by omega
  have : w.t.cols.getD w.nd.feature.toNat [] = w.t.cols[w.nd.feature.toNat] := by rw [List.getD, List.getElem?_eq_getElem hf]; rfl
  unfold Wk.bin
  rw [this]
theorem Wk.Ok.step (o : Wk.Ok w) {w' : Wk} (e : w.step = some w') : Wk.Ok w' ∧ w'.mu < w.mu ∧ w'.m = w.m ∧ w'.t = w.t := by
 unfold Wk.step at e
 split at e
 ·cases e
 rename_i h
 have h16 := kc0 o.m
 have htr := o.tree
 split at e
 ·cases e
  rename_i h2
  have := o.end' (by omega)
  refine ⟨⟨o.m, o.t, o.own, o.sc, by dsimp only; omega, Nat.zero_le _, fun h => ?_, fun _ => rfl, fun _ => ⟨rfl, rfl⟩⟩, ?_, rfl, rfl⟩
  ·dsimp only at h ⊢
   have := (kcp o.m h).1
   simp [List.getD, h]
   omega
  ·unfold mu
   dsimp only
   omega
 rename_i h2
 obtain ⟨h3, e3, hm, h63⟩ := o.at (by omega) (by omega)
 split at e
 ·cases e
  refine ⟨⟨o.m, o.t, o.own, by rw [List.length_set]; exact o.sc, o.row, by dsimp only; omega, fun h => ?_, fun _ => rfl, fun h => by dsimp only at h; omega⟩, ?_, rfl, rfl⟩
  ·dsimp only at h ⊢
   have := (kcp o.m h).1
   simp [List.getD, h]
   omega
  ·unfold mu
   dsimp only
   omega
 rename_i h4
 split at e
 ·cases e
 rename_i h5
 cases e
 obtain ⟨z, e5, h6, h7, h8, o'⟩ := o.kid (by omega) (by omega) (by simpa using h4) (decide (w.bin ≤ w.nd.cut))
 rw [e5, Int.toNat_natCast]
 refine ⟨o', ?_, rfl, rfl⟩
 unfold mu
 dsimp only
 omega
theorem Wk.Ok.on : ∀ (f : Nat) {w : Wk}, Wk.Ok w → w.mu ≤ f → Wk.Ok (w.on f) ∧ (w.on f).step = none ∧ (w.on f).m = w.m ∧ (w.on f).t = w.t
 | 0, w, o, h => by
  refine ⟨o, ?_, rfl, rfl⟩
  cases e : w.step with
  | none => exact e
  | some w' =>
   have := (o.step e).2.1
   omega
 | f + 1, w, o, h => by
  show Wk.Ok (match w.step with | none => w | some w' => Wk.on f w') ∧ _
  cases e : w.step with
  | none =>
   have : w.on (f + 1) = w := by simp only [Wk.on, e]
   rw [this]
   exact ⟨o, e, rfl, rfl⟩
  | some w' =>
   have : w.on (f + 1) = w'.on f := by simp only [Wk.on, e]
   rw [this]
   obtain ⟨o', lt, e1, e2⟩ := o.step e
   obtain ⟨a, b, c, d⟩ := Wk.Ok.on f o' (by omega)
   exact ⟨a, b, c.trans e1, d.trans e2⟩
theorem Wk.Ok.stop (o : Wk.Ok w) (e : w.step = none) : w.row = w.t.ids.length ∨ w.row < w.t.ids.length ∧ w.tree < w.m.length ∧ w.nd.leaf = false ∧ w.nd.party ≠ 0 := by
 unfold Wk.step at e
 have := o.row
 have := o.tree
 grind
end
end Go.Ab

/- squeezed -/
set_option linter.unusedVariables false
set_option linter.unusedSimpArgs false
set_option maxRecDepth 10000
namespace Go.Ab
open Go.Proofs
theorem AH.has.rn {A : Type} {f : AV → Option A} {h : AH} {i : Nat} {cs : List AV} {e : TypeId} (b : h.has i cs e) (k : Nat) {v : AV} {x : A} (hk : cs[k]? = some v) (hf : f v = some x) : (h.cell (.new i k)).bind f = some x := by
 rw [b.cell, hk]
 exact hf
theorem Grow.same0 {h h' : AH} (g : Grow h h') {i : Nat} {cs : List AV} {e : TypeId} (b : h.has i cs e) (o n : Nat) : SameAt h h' (.new i o) n := g.same b o n
@[reducible] def Wk.cells (w : Wk) (s0 s1 s2 s3 s7 : Sl) : List AV := [s0.v, s1.v, s2.v, s3.v, .int .i64 (w.row : Int), .int .i64 (w.tree : Int), .int .i64 (w.node : Int), s7.v]
def WalkAt (ty : TypeId) (h : AH) (S : Fp) (i j : Nat) (w : Wk) : Prop := ∃ s0 s1 s2 s3 s7 : Sl, h.has i (w.cells s0 s1 s2 s3 s7) ty ∧ Sq EM h S s0 w.m ∧ TabAt h S s1 s2 s3 w.t ∧ GF EI T.int h Fp.no s7 (some j) w.sc ∧ ¬ S i ∧ ¬ S j ∧ i ≠ j
section
variable {ty : TypeId} {h h' : AH} {S U : Fp} {i j : Nat} {w : Wk}
theorem WalkAt.md (n : WalkAt ty h S i j w) (m : Md U h h') (d : Dis S U) (d1 : ¬ U i) (d2 : ¬ U j) : WalkAt ty h' S i j w := by
 obtain ⟨s0, s1, s2, s3, s7, b, n0, n1, v, e1, e2, e3⟩ := n
 exact ⟨s0, s1, s2, s3, s7, m.has b d1, n0.md m d, n1.md m d, GF.md m (Dis.no.symm) v fun k e => by cases e; exact d2, e1, e2, e3⟩
theorem WalkAt.grow (n : WalkAt ty h S i j w) (g : Grow h h') : WalkAt ty h' S i j w := n.md (g.md Fp.no) Dis.no Fp.not_no Fp.not_no
theorem khd (n : WalkAt T.kbd h S i j w) : Runs (go (.fn F.keq [.ptr (some (.new i 0))]) h) fun v h' => v = .agg [.int .i64 (w.sc.length : Int), .int .i64 0, .int .i64 0] ∧ Grow h h' := by
 obtain ⟨s0, s1, s2, s3, s7, b, n0, n1, v, -⟩ := n
 rw [kj1]
 refine Runs.new fun h2 b2 g2 => Runs.step rfl (Runs.step ((g2.has b).rn 7 rfl (asSl_v _)) (Runs.puts b2 rfl fun h5 b5 u5 => ?_))
 refine Runs.step (b5.rd 0 rfl (kb _ _)) (Runs.step (b5.rd 1 rfl (kb _ _)) (Runs.step (b5.rd 2 rfl (kb _ _)) (Runs.ret ⟨?_, g2.updr (Nat.le_refl _) u5⟩)))
 rw [v.len]
theorem kii (n : WalkAt T.kbd h S i j w) (o : w.Ok) (hr : w.row < w.t.ids.length) (ht : w.tree < w.m.length) : Runs (go (.fn F.kf2 [.ptr (some (.new i 0))]) h) fun v h' => v = .agg w.nd.cells ∧ Grow h h' := by
 obtain ⟨h3, e3, -, -⟩ := o.at hr ht
 obtain ⟨s0, s1, s2, s3, s7, b, n0, n1, v, -⟩ := n
 rw [kju]
 refine Runs.new fun h2 b2 g2 => ?_
 have b' := g2.has b
 obtain ⟨r, s', e4, -, e5, n'⟩ := (n0.grow g2).sl ht
 obtain ⟨r2, e6, f0, f1, f2, f3, f4, f5, f6⟩ := n'.nd h3
 refine Runs.step rfl (Runs.step (b'.rn 0 rfl (asSl_v _)) (Runs.step rfl (Runs.step (a := Ref.new i 5) rfl (Runs.step (b'.rn 5 rfl (kb _ _)) (Runs.step e4 (Runs.step e5 ?_))))))
 refine Runs.step rfl (Runs.step (a := Ref.new i 6) rfl (Runs.step (b'.rn 6 rfl (kb _ _)) (Runs.step e6 ?_)))
 refine Runs.step f0 (Runs.step f1 (Runs.step f2 (Runs.step f3 (Runs.step f4 (Runs.step f5 (Runs.step f6 ?_))))))
 refine Runs.puts b2 rfl fun h5 b5 u5 => ?_
 repeat refine Runs.step (AH.has.rd b5 _ rfl (by first | exact kb _ _ | rfl)) ?_
 exact Runs.ret ⟨by rw [e3]; rfl, g2.updr (Nat.le_refl _) u5⟩
theorem klw (x : Nd) (b : Bool) : Runs (go (.fn F.kdx [.agg x.cells, .bool b]) h) fun v h' => v = .int .i64 (if b then x.left else x.right) ∧ Grow h h' := by
 show Runs (go (.fn F.kdx [.agg [.bool x.leaf, .int .i64 x.weight, .int .i64 x.party, .int .i64 x.feature, .int .i64 x.cut, .int .i64 x.left, .int .i64 x.right], .bool b]) h) _
 rw [kj3]
 refine Runs.new fun h2 b2 g2 => ?_
 cases b
 ·exact Runs.ifF rfl (Runs.step (b2.rd 6 rfl (kb _ _)) (Runs.ret ⟨rfl, g2⟩))
 ·exact Runs.ifT rfl (Runs.step (b2.rd 5 rfl (kb _ _)) (Runs.ret ⟨rfl, g2⟩))
end
def Fp.two (i j : Nat) : Fp := fun k => k = i ∨ k = j
theorem koi {S : Fp} {i j : Nat} : ∀ (f : Nat) {w : Wk} {h : AH}, WalkAt T.kbd h S i j w → w.Ok → w.mu ≤ f →
  Runs (go (.pt F.kbs Td.kb9 [(0, .ptr (some (.new i 0)))]) h) fun v h' => v = .tup [] ∧ WalkAt T.kbd h' S i j (w.on f) ∧ Md (Fp.two i j) h h' := by
 intro f
 induction f with
 | zero => ?_
 | succ f ih => ?_
 all_goals
  intro w h n o hf
  have n' := n
  obtain ⟨s0, s1, s2, s3, s7, b, n0, n1, v, d1, d2, d3⟩ := n'
  rw [kkl]
  refine Runs.step rfl (Runs.step (b.rn _ rfl (kb _ _)) (Runs.step (b.rn _ rfl (kb _ _)) (Runs.step (b.rn _ rfl (kb _ _)) ?_)))
  refine (khd n).call fun _ h1 ⟨e, g1⟩ => ?_
  subst e
  refine Runs.step rfl (Runs.ifT rfl (Runs.step (seenAt rfl (kb _ _)) (Runs.step (seenAt rfl (kb _ _)) (Runs.step (seenAt rfl (kb _ _)) (Runs.when (g1.same0 b _ 3) ?_)))))
  have b1 := g1.has b
  have hrow := o.row
  have hend := o.over
  have hsc := o.sc
  have h16 := kc0 o.m
  have h256 := kdf o.t
  refine Runs.cond (fun c => ?_) (fun c => ?_)
  rotate_left
  ·
   have hs : w.step = none := by
    unfold Wk.step
    rw [if_pos]
    simp at c
    omega
   refine Runs.ret ⟨rfl, ?_, g1.md _⟩
   have : ∀ f, w.on f = w := fun f => by cases f <;> simp [Wk.on, hs]
   rw [this]
   exact n.grow g1
  have hr : w.row < w.t.ids.length := by
   simp at c
   omega
  refine Runs.step rfl (Runs.step (a := Ref.new i 5) rfl (Runs.step (b1.rn 5 rfl (kb _ _)) (Runs.step rfl (Runs.step (b1.rn 0 rfl (asSl_v _)) ?_))))
  rw [n0.len]
  have ht := o.tree
 ·
  have hs : w.step = none := by
   cases e : w.step with
   | none => rfl
   | some w' => have := (o.step e).2.1; omega
  have hst := o.stop hs
  obtain ⟨_, h2, h3, h4⟩ := hst.resolve_left (by omega)
  refine Runs.ifF (decide_eq_false (by omega)) ?_
  refine (kii (n.grow g1) o hr h2).call fun _ h5 ⟨e, g5⟩ => ?_
  subst e
  refine Runs.step rfl (Runs.ifT rfl ?_)
  repeat refine Runs.step (seenAt rfl (by first | exact kb _ _ | rfl)) ?_
  refine Runs.new fun h6 b6 g6 => Runs.puts b6 rfl fun h7 b7 u7 => ?_
  have g7 : Grow h5 h7 := g6.updr (Nat.le_refl _) u7
  refine Runs.step (b7.rd 0 rfl rfl) (Runs.ifF h3 (Runs.step (b7.rd 2 rfl (kb _ _)) (Runs.ifT (by simpa using h4) (Runs.ret ⟨rfl, n.grow (g1.trans (g5.trans g7)), (g1.trans (g5.trans g7)).md _⟩))))
 ·have fin : ∀ {w' : Wk} {h' : AH}, w.step = some w' → WalkAt T.kbd h' S i j w' → Md (Fp.two i j) h h' → Runs (go (.pt F.kbs Td.kb9 [(0, .ptr (some (.new i 0)))]) h') fun v h'' => v = .tup [] ∧ WalkAt T.kbd h'' S i j (w.on (f + 1)) ∧ Md (Fp.two i j) h h'' := fun {w' h'} e n' m => by
   obtain ⟨o', lt, -, -⟩ := o.step e
   have : w.on (f + 1) = w'.on f := by simp only [Wk.on, e]
   rw [this]
   exact (ih n' o' (by omega)).imp fun v h'' ⟨a, b, c⟩ => ⟨a, b, m.trans c⟩
  refine Runs.cond (fun c2 => ?_) (fun c2 => ?_)
  ·rw [decide_eq_true_eq] at c2
   refine Runs.step rfl (Runs.step (a := Ref.new i 4) rfl (Runs.step (b1.rn 4 rfl (kb _ _)) (Runs.step rfl ?_)))
   refine Runs.putAt b1 (cs' := Wk.cells { w with row := w.row + 1, tree := 0, node := 0 } s0 s1 s2 s3 s7) (by simp) (by rw [kn (by omega)]; rfl) fun h3 b3 u3 => ?_
   have m3 : Md (Fp.two i j) h h3 := g1.thenM (u3.md (.inl rfl))
   have hd : Dis S (Fp.two i j) := fun k a b => by rcases b with rfl | rfl; exact d1 a; exact d2 a
   refine fin (w' := { w with row := w.row + 1, tree := 0, node := 0 }) (by unfold Wk.step; rw [if_neg (by omega), if_pos (by omega)]) ⟨s0, s1, s2, s3, s7, b3, n0.md m3 hd, n1.md m3 hd, GF.updo (v.grow g1) (i := some i) Fp.not_no (fun e => d3 e.symm) u3, d1, d2, d3⟩ m3
  ·rw [decide_eq_false_iff_not] at c2
   have h2 : w.tree < w.m.length := by omega
   obtain ⟨hx, ex, hmay, h63⟩ := o.at hr h2
   refine (kii (n.grow g1) o hr h2).call fun _ h5 ⟨e, g5⟩ => ?_
   subst e
   refine Runs.step rfl (Runs.ifT rfl ?_)
   repeat refine Runs.step (seenAt rfl (by first | exact kb _ _ | rfl)) ?_
   refine Runs.new fun h6 b6 g6 => Runs.puts b6 rfl fun h7 b7 u7 => ?_
   have g7 : Grow h h7 := g1.trans (g5.trans (g6.updr (Nat.le_refl _) u7))
   have B := g7.has b
   have hd : Dis S (Fp.two i j) := fun k a b => by rcases b with rfl | rfl; exact d1 a; exact d2 a
   refine Runs.step (b7.rd 0 rfl rfl) (Runs.cond (fun c3 => ?_) (fun c3 => ?_))
   ·
    have hrs : w.row < w.sc.length := by omega
    have v7 := v.grow g7
    obtain ⟨r, e1, e2⟩ := v7.sq.int hrs
    obtain ⟨r', h9, e3, e4, v9, u9⟩ := v7.set (T := Fp.no) (cs := [.int .i64 (IntKind.wrap .i64 (w.sc[w.row] + w.nd.weight))]) (x := IntKind.wrap .i64 (w.sc[w.row] + w.nd.weight)) rfl NotO.no (kgr hrs)
    rw [← v.len] at e3
    have e3 : idx s7.ref s7.len (w.row : Int) 1 = some r' := e3
    refine Runs.step rfl (Runs.step (B.rn 7 rfl (asSl_v _)) (Runs.step rfl (Runs.step (a := Ref.new i 4) rfl (Runs.step (B.rn 4 rfl (kb _ _)) (Runs.step e1 (Runs.step e2 (Runs.step (b7.rd 1 rfl (kb _ _)) (Runs.step e3 (Runs.step e4 ?_)))))))))
    have B9 := AH.has.updr B d3 u9
    refine Runs.step rfl (Runs.step (a := Ref.new i 4) rfl (Runs.step (B9.rn 4 rfl (kb _ _)) (Runs.step rfl (Runs.step (a := Ref.new i 5) rfl (Runs.step (B9.rn 5 rfl (kb _ _)) (Runs.step rfl ?_))))))
    refine Runs.putAt B9 (cs' := Wk.cells { w with tree := w.tree + 1, node := 0, sc := w.sc.set w.row (IntKind.wrap .i64 (w.sc.getD w.row 0 + w.nd.weight)) } s0 s1 s2 s3 s7) (by simp) (by rw [kn (by omega)]; rfl) fun h10 b10 u10 => ?_
    have m9 : Md (Fp.two i j) h h9 := g7.thenM (Upd.md u9 (.inr rfl))
    have m10 : Md (Fp.two i j) h h10 := m9.trans (u10.md (.inl rfl))
    have hg : w.sc.getD w.row 0 = w.sc[w.row] := by simp [List.getD, hrs]
    refine fin (w' := { w with tree := w.tree + 1, node := 0, sc := w.sc.set w.row (IntKind.wrap .i64 (w.sc.getD w.row 0 + w.nd.weight)) }) (by unfold Wk.step; rw [if_neg (by omega), if_neg (by omega), if_pos c3]) ⟨s0, s1, s2, s3, s7, b10, n0.md m10 hd, n1.md m10 hd, ?_, d1, d2, d3⟩ m10
    rw [hg]
    exact GF.updo (GF.mono v9 (fun k x => x.elim id id) (i := some j) Fp.not_no) (i := some i) Fp.not_no (fun e => d3 e.symm) u10
   ·refine Runs.step (b7.rd 2 rfl (kb _ _)) (Runs.cond (fun c4 => ?_) (fun c4 => ?_))
    ·
     have hs : w.step = none := by
      unfold Wk.step
      rw [if_neg (by omega), if_neg (by omega), if_neg (by rw [c3]; simp), if_pos (by simpa using c4)]
     have : w.on (f + 1) = w := by simp only [Wk.on, hs]
     rw [this]
     exact Runs.ret ⟨rfl, n.grow g7, g7.md _⟩
    ·have hp : w.nd.party = 0 := by simpa using c4
     obtain ⟨z, e5, h8, h9, h10, h11⟩ := o.kid hr h2 c3 (decide (w.bin ≤ w.nd.cut))
     obtain ⟨fe, e6, hf, h12, hbin⟩ := o.feature hr h2 c3 hp
     obtain ⟨r1, s', k1, k2, -, k3⟩ := (n1.cols.grow g7).sl hf
     obtain ⟨r2, k4, k5⟩ := k3.int h12
     repeat refine Runs.step (AH.has.rd b7 _ rfl (by first | exact kb _ _ | rfl)) ?_
     refine Runs.step rfl (Runs.step (B.rn _ rfl (asSl_v _)) (Runs.step (b7.rd 3 rfl (kb _ _)) ?_))
     rw [e6]
     refine Runs.step k1 (Runs.step k2 (Runs.step rfl (Runs.step (a := Ref.new i 4) rfl (Runs.step (B.rn 4 rfl (kb _ _)) (Runs.step k4 (Runs.step k5 (Runs.step (b7.rd 4 rfl (kb _ _)) (Runs.step rfl ?_))))))))
     have hbb : w.bin = w.t.cols[fe][w.row] := by rw [hbin]; simp [List.getD, h12]
     rw [← hbb, ← e6]
     refine (klw w.nd (decide (w.bin ≤ w.nd.cut))).call fun _ h13 ⟨e, g13⟩ => ?_
     subst e
     have hk : (if decide (w.bin ≤ w.nd.cut) = true then w.nd.left else w.nd.right) = (z : Int) := e5
     rw [hk]
     refine Runs.step (seen (kb _ _)) (Runs.step (a := (Ref.new i 0).add 6) rfl ?_)
     have g13' := g7.trans g13
     refine Runs.putAt (g13.has B) (cs' := Wk.cells { w with node := z } s0 s1 s2 s3 s7) (by simp) rfl fun h14 b14 u14 => ?_
     have m14 : Md (Fp.two i j) h h14 := g13'.thenM (u14.md (.inl rfl))
     refine fin (w' := { w with node := z }) ?_ ⟨s0, s1, s2, s3, s7, b14, n0.md m14 hd, n1.md m14 hd, GF.updo (v.grow g13') (i := some i) Fp.not_no (fun e => d3 e.symm) u14, d1, d2, d3⟩ m14
     unfold Wk.step
     rw [if_neg (by omega), if_neg (by omega), if_neg (by rw [c3]; simp), if_neg (by simpa using hp), e5, Int.toNat_natCast]
end Go.Ab

/- squeezed -/
set_option linter.unusedVariables false
set_option linter.unusedSimpArgs false
set_option maxRecDepth 10000
namespace Go.Ab
open Go.Proofs
theorem klz {S : Fp} {i j : Nat} : ∀ (f : Nat) {w : Wk} {h : AH}, WalkAt T.kbz h S i j w → w.Ok → w.mu ≤ f →
  Runs (go (.pt F.kbl Td.kb0 [(0, .ptr (some (.new i 0)))]) h) fun v h' => v = .tup [] ∧ WalkAt T.kbz h' S i j (w.on f) ∧ Md (Fp.two i j) h h' := by
 intro f
 induction f with
 | zero => ?_
 | succ f ih => ?_
 all_goals
  intro w h n o hf
  have n' := n
  obtain ⟨s0, s1, s2, s3, s7, b, n0, n1, v, d1, d2, d3⟩ := n'
  rw [knt]
  refine Runs.step rfl (Runs.step (b.rn _ rfl (kb _ _)) (Runs.step rfl (Runs.step (b.rn _ rfl (asSl_v _)) ?_)))
  rw [n1.ids.len]
  have hrow := o.row
  have hend := o.over
  have hsc := o.sc
  have h16 := kc0 o.m
  have h256 := kdf o.t
  have ht := o.tree
  refine Runs.cond (fun c => ?_) (fun c => ?_)
  rotate_left
  ·have hs : w.step = none := by
    unfold Wk.step
    rw [if_pos]
    simp at c
    omega
   refine Runs.ret ⟨rfl, ?_, Md.refl _ _⟩
   have : ∀ f, w.on f = w := fun f => by cases f <;> simp [Wk.on, hs]
   rw [this]
   exact n
  rw [decide_eq_true_eq] at c
  have hr : w.row < w.t.ids.length := by omega
  refine Runs.step rfl (Runs.step (b.rn _ rfl (kb _ _)) (Runs.step rfl (Runs.step (b.rn _ rfl (asSl_v _)) ?_)))
  rw [n0.len]
 ·have hs : w.step = none := by
   cases e : w.step with
   | none => rfl
   | some w' => have := (o.step e).2.1; omega
  have hst := o.stop hs
  obtain ⟨_, h2, h3, h4⟩ := hst.resolve_left (by omega)
  obtain ⟨hx, ex, hmay, h63⟩ := o.at hr h2
  obtain ⟨r, s', e4, -, e5, n'⟩ := n0.sl h2
  obtain ⟨r2, e6, f0, f1, f2, f3, f4, f5, f6⟩ := n'.nd hx
  refine Runs.ifF (decide_eq_false (by omega)) ?_
  refine Runs.step rfl (Runs.step (b.rn _ rfl (asSl_v _)) (Runs.step rfl (Runs.step (b.rn _ rfl (kb _ _)) (Runs.step e4 (Runs.step e5 (Runs.step rfl (Runs.step (b.rn _ rfl (kb _ _)) (Runs.step e6 ?_))))))))
  refine Runs.step f0 (Runs.step f1 (Runs.step f2 (Runs.step f3 (Runs.step f4 (Runs.step f5 (Runs.step f6 ?_))))))
  refine Runs.new fun h6 b6 g6 => ?_
  refine Runs.when (keu f0 g6 0 7 |> fun x => by rwa [Ref.add_zero] at x) (Runs.when (g6.same0 b _ 1) (Runs.when (keu e5 g6 0 1) (Runs.when (g6.same0 b _ 1) (Runs.when (g6.same0 b _ 1) ?_))))
  refine Runs.puts b6 rfl fun h7 b7 u7 => ?_
  have g7 : Grow h h7 := g6.updr (Nat.le_refl _) u7
  rw [ex] at h3 h4
  refine Runs.step (b7.rd 0 rfl rfl) (Runs.ifF h3 (Runs.step (b7.rd 2 rfl (kb _ _)) (Runs.ifT (by simpa using h4) (Runs.ret ⟨rfl, n.grow g7, g7.md _⟩))))
 ·have fin : ∀ {w' : Wk} {h' : AH}, w.step = some w' → WalkAt T.kbz h' S i j w' → Md (Fp.two i j) h h' → Runs (go (.pt F.kbl Td.kb0 [(0, .ptr (some (.new i 0)))]) h') fun v h'' => v = .tup [] ∧ WalkAt T.kbz h'' S i j (w.on (f + 1)) ∧ Md (Fp.two i j) h h'' := fun {w' h'} e n' m => by
   obtain ⟨o', lt, -, -⟩ := o.step e
   have : w.on (f + 1) = w'.on f := by simp only [Wk.on, e]
   rw [this]
   exact (ih n' o' (by omega)).imp fun v h'' ⟨a, b, c⟩ => ⟨a, b, m.trans c⟩
  have hd : Dis S (Fp.two i j) := fun k a b => by rcases b with rfl | rfl; exact d1 a; exact d2 a
  refine Runs.cond (fun c2 => ?_) (fun c2 => ?_)
  ·rw [decide_eq_true_eq] at c2
   refine Runs.step rfl (Runs.step (b.rn _ rfl (kb _ _)) (Runs.step rfl ?_))
   rw [kn (by omega)]
   refine Runs.putAt b (cs' := Wk.cells { w with row := w.row + 1 } s0 s1 s2 s3 s7) (by simp) rfl fun h3 b3 u3 => Runs.step rfl ?_
   refine Runs.putAt b3 (cs' := Wk.cells { w with row := w.row + 1, tree := 0 } s0 s1 s2 s3 s7) (by simp) rfl fun h4 b4 u4 => Runs.step rfl ?_
   refine Runs.putAt b4 (cs' := Wk.cells { w with row := w.row + 1, tree := 0, node := 0 } s0 s1 s2 s3 s7) (by simp) rfl fun h5 b5 u5 => ?_
   have U := (u3.trans u4).trans u5
   have m3 : Md (Fp.two i j) h h5 := U.md (.inl rfl)
   refine fin (w' := { w with row := w.row + 1, tree := 0, node := 0 }) (by unfold Wk.step; rw [if_neg (by omega), if_pos (by omega)]) ⟨s0, s1, s2, s3, s7, b5, n0.md m3 hd, n1.md m3 hd, GF.updo v (i := some i) Fp.not_no (fun e => d3 e.symm) U, d1, d2, d3⟩ m3
  ·rw [decide_eq_false_iff_not] at c2
   have h2 : w.tree < w.m.length := by omega
   obtain ⟨hx, ex, hmay, h63⟩ := o.at hr h2
   obtain ⟨r, s', e4, -, e5, n'⟩ := n0.sl h2
   obtain ⟨r2, e6, f0, f1, f2, f3, f4, f5, f6⟩ := n'.nd hx
   refine Runs.step rfl (Runs.step (b.rn _ rfl (asSl_v _)) (Runs.step rfl (Runs.step (b.rn _ rfl (kb _ _)) (Runs.step e4 (Runs.step e5 (Runs.step rfl (Runs.step (b.rn _ rfl (kb _ _)) (Runs.step e6 ?_))))))))
   refine Runs.step f0 (Runs.step f1 (Runs.step f2 (Runs.step f3 (Runs.step f4 (Runs.step f5 (Runs.step f6 ?_))))))
   rw [← ex]
   refine Runs.new fun h6 b6 g6 => ?_
   refine Runs.when (keu f0 g6 0 7 |> fun x => by rwa [Ref.add_zero] at x) (Runs.when (g6.same0 b _ 1) (Runs.when (keu e5 g6 0 1) (Runs.when (g6.same0 b _ 1) (Runs.when (g6.same0 b _ 1) ?_))))
   refine Runs.puts b6 rfl fun h7 b7 u7 => ?_
   have g7 : Grow h h7 := g6.updr (Nat.le_refl _) u7
   have B := g7.has b
   have hi6 : h.blks.size ≠ i := fun e => by have := b.lt; omega
   refine Runs.step (b7.rd 0 rfl rfl) (Runs.cond (fun c3 => ?_) (fun c3 => ?_))
   ·have hrs : w.row < w.sc.length := by omega
    have v7 := v.grow g7
    obtain ⟨r, e1, e2⟩ := v7.sq.int hrs
    obtain ⟨r', h9, e3, e4, v9, u9⟩ := v7.set (T := Fp.no) (cs := [.int .i64 (IntKind.wrap .i64 (w.sc[w.row] + w.nd.weight))]) (x := IntKind.wrap .i64 (w.sc[w.row] + w.nd.weight)) rfl NotO.no (kgr hrs)
    rw [← v.len] at e3
    have e3 : idx s7.ref s7.len (w.row : Int) 1 = some r' := e3
    refine Runs.step rfl (Runs.step (B.rn 7 rfl (asSl_v _)) (Runs.step rfl (Runs.step (B.rn 4 rfl (kb _ _)) (Runs.step rfl (Runs.step (B.rn 7 rfl (asSl_v _)) (Runs.step rfl (Runs.step (B.rn 4 rfl (kb _ _)) (Runs.step e1 (Runs.step e2 (Runs.step (b7.rd 1 rfl (kb _ _)) (Runs.step e3 (Runs.step e4 ?_))))))))))))
    have B9 := AH.has.updr B d3 u9
    refine Runs.step rfl (Runs.step (B9.rn _ rfl (kb _ _)) (Runs.step rfl ?_))
    rw [kn (by omega)]
    have hg : w.sc.getD w.row 0 = w.sc[w.row] := by simp [List.getD, hrs]
    refine Runs.putAt B9 (cs' := Wk.cells { w with tree := w.tree + 1 } s0 s1 s2 s3 s7) (by simp) rfl fun h10 b10 u10 => Runs.step rfl ?_
    refine Runs.putAt b10 (cs' := Wk.cells { w with tree := w.tree + 1, node := 0, sc := w.sc.set w.row (IntKind.wrap .i64 (w.sc.getD w.row 0 + w.nd.weight)) } s0 s1 s2 s3 s7) (by simp) rfl fun h11 b11 u11 => ?_
    have U := u10.trans u11
    have m9 : Md (Fp.two i j) h h9 := g7.thenM (Upd.md u9 (.inr rfl))
    have m10 : Md (Fp.two i j) h h11 := m9.trans (U.md (.inl rfl))
    refine fin (w' := { w with tree := w.tree + 1, node := 0, sc := w.sc.set w.row (IntKind.wrap .i64 (w.sc.getD w.row 0 + w.nd.weight)) }) (by unfold Wk.step; rw [if_neg (by omega), if_neg (by omega), if_pos c3]) ⟨s0, s1, s2, s3, s7, b11, n0.md m10 hd, n1.md m10 hd, ?_, d1, d2, d3⟩ m10
    rw [hg]
    exact GF.updo (GF.mono v9 (fun k x => x.elim id id) (i := some j) Fp.not_no) (i := some i) Fp.not_no (fun e => d3 e.symm) U
   ·refine Runs.step (b7.rd 2 rfl (kb _ _)) (Runs.cond (fun c4 => ?_) (fun c4 => ?_))
    ·have hs : w.step = none := by
      unfold Wk.step
      rw [if_neg (by omega), if_neg (by omega), if_neg (by rw [c3]; simp), if_pos (by simpa using c4)]
     have : w.on (f + 1) = w := by simp only [Wk.on, hs]
     rw [this]
     exact Runs.ret ⟨rfl, n.grow g7, g7.md _⟩
    ·have hp : w.nd.party = 0 := by simpa using c4
     obtain ⟨z, e5, h8, h9, h10, h11⟩ := o.kid hr h2 c3 (decide (w.bin ≤ w.nd.cut))
     obtain ⟨z', e5', -⟩ := o.kid hr h2 c3 false
     have e5' : w.nd.right = (z' : Int) := e5'
     obtain ⟨fe, e6, hf, h12, hbin⟩ := o.feature hr h2 c3 hp
     refine Runs.step (b7.rd 6 rfl (kb _ _)) (Runs.step rfl ?_)
     rw [e5']
     refine Runs.putAt B (cs' := Wk.cells { w with node := z' } s0 s1 s2 s3 s7) (by simp) rfl fun h9 B9 u9 => ?_
     have m9 : Md (Fp.two i j) h h9 := g7.thenM (u9.md (.inl rfl))
     obtain ⟨r1, s', k1, k2, -, k3⟩ := (n1.cols.md m9 hd).sl hf
     obtain ⟨r2, k4, k5⟩ := k3.int h12
     have b9 := AH.has.updr b7 hi6 u9
     refine Runs.step rfl (Runs.step (B9.rn _ rfl (asSl_v _)) (Runs.step (b9.rd 3 rfl (kb _ _)) ?_))
     rw [e6]
     refine Runs.step k1 (Runs.step k2 (Runs.step rfl (Runs.step (B9.rn _ rfl (kb _ _)) (Runs.step k4 (Runs.step k5 (Runs.step (b9.rd 4 rfl (kb _ _)) ?_))))))
     have hbb : w.bin = w.t.cols[fe][w.row] := by rw [hbin]; simp [List.getD, h12]
     rw [← hbb]
     have hst : w.step = some { w with node := z } := by
      unfold Wk.step
      rw [if_neg (by omega), if_neg (by omega), if_neg (by rw [c3]; simp), if_neg (by simpa using hp), e5, Int.toNat_natCast]
     unfold Wk.kid at e5
     refine Runs.cond (fun c5 => ?_) (fun c5 => ?_)
     ·rw [c5, if_pos rfl] at e5
      refine Runs.step (b9.rd 5 rfl (kb _ _)) (Runs.step rfl ?_)
      rw [e5]
      refine Runs.putAt B9 (cs' := Wk.cells { w with node := z } s0 s1 s2 s3 s7) (by simp) rfl fun h14 b14 u14 => ?_
      have m14 := m9.trans (u14.md (T := Fp.two i j) (.inl rfl))
      exact fin hst ⟨s0, s1, s2, s3, s7, b14, n0.md m14 hd, n1.md m14 hd, GF.updo (v.grow g7) (i := some i) Fp.not_no (fun e => d3 e.symm) (u9.trans u14), d1, d2, d3⟩ m14
     ·rw [c5, if_neg (by simp), e5'] at e5
      have : z' = z := by omega
      subst this
      exact fin hst ⟨s0, s1, s2, s3, s7, B9, n0.md m9 hd, n1.md m9 hd, GF.updo (v.grow g7) (i := some i) Fp.not_no (fun e => d3 e.symm) u9, d1, d2, d3⟩ m9
end Go.Ab

/- squeezed -/
set_option linter.unusedVariables false
set_option linter.unusedSimpArgs false
set_option maxRecDepth 10000
namespace Go.Ab
open Go.Proofs
theorem klb {n : Nat} (h : n ≤ 1000000) : growOk Pg n T.int 1 = true := by
 unfold growOk
 rw [kjh, kis]
 have h1 : n * 8 ≤ kj := by simp only [kj]; omega
 have h2 : n ≤ kj := by simp only [kj]; omega
 simp [h1, h2]
theorem kkb {h : AH} {S : Fp} {s : Sl} {xs : List Int} (n : Sq EI h S s xs) (hl : xs.length ≤ 1000000) : Runs (go (.fn F.kfv [s.v]) h) fun v h' => ∃ (s' : Sl) (i : Option Nat), v = s'.v ∧ GF EI T.int h' (fun j => S j ∧ j < h.blks.size) s' i xs ∧ Grow h h' ∧ LeO h.blks.size i := by
 rw [knx]
 exact Runs.clone (P := Pg) (elem := T.int) n kfe (klb hl)
@[reducible] def nilS : Sl := ⟨none, 0, .is 0⟩
def Wk.next (w : Wk) : List AV := if w.row < w.t.ids.length then [.int .i64 w.nd.party, .int .i64 8, .int .i64 w.nd.feature, .int .i64 (w.row : Int), .int .i64 0, nilS.v, nilS.v, nilS.v]
 else [.int .i64 0, .int .i64 0, .int .i64 0, .int .i64 0, .int .i64 0, nilS.v, nilS.v, nilS.v]
def Wk.go (w : Wk) : Wk := w.on w.mu
section
variable {h : AH} {S S' : Fp} {i j : Nat} {w : Wk}
theorem kkv (n : WalkAt T.kbd h S i j w) (o : w.Ok) (hs : w.step = none) : Runs (go (.fn F.kfx [.ptr (some (.new i 0))]) h) fun v h' => ∃ (s' : Sl) (k : Option Nat), v = .tup [s'.v, .bool (!decide (w.row < w.t.ids.length))] ∧ GF EI T.int h' Fp.no s' k w.sc ∧ Grow h h' := by
 have n' := n
 obtain ⟨s0, s1, s2, s3, s7, b, n0, n1, v, d1, d2, d3⟩ := n'
 have hst := o.stop hs
 have hov := o.over
 have hsc := o.sc
 have h256 := kdf o.t
 rw [kjd]
 refine Runs.step rfl (Runs.step (b.rn _ rfl (asSl_v _)) (Runs.step rfl (Runs.step (b.rn _ rfl (kb _ _)) (Runs.step (b.rn _ rfl (kb _ _)) (Runs.step (b.rn _ rfl (kb _ _)) ?_)))))
 refine (kkb v.sq (by omega)).call fun _ h1 ⟨s', k, e, v1, g1, l1⟩ => ?_
 subst e
 have b1 := g1.has b
 refine Runs.step (seen (asSl_v _)) (Runs.when (g1.same0 b _ 3) ?_)
 refine (khd (n.grow g1)).call fun _ h3 ⟨e, g3⟩ => ?_
 subst e
 refine Runs.step rfl (Runs.ifT rfl (Runs.step (seenAt rfl (kb _ _)) (Runs.step (seenAt rfl (kb _ _)) (Runs.step (seenAt rfl (kb _ _)) (Runs.when (g3.same0 b1 _ 3) ?_)))))
 refine Runs.ret ⟨s', k, ?_, ?_, g1.trans g3⟩
 ·congr 3
  by_cases hr : w.row < w.t.ids.length
  ·rw [decide_eq_true hr, decide_eq_false (show ¬ (w.row : Int) = (w.sc.length : Int) by omega)]
   rfl
  ·have hr2 := o.row
   rw [decide_eq_false hr, decide_eq_true (show (w.row : Int) = (w.sc.length : Int) by omega), decide_eq_true (show (w.tree : Int) = 0 by omega), decide_eq_true (show (w.node : Int) = 0 by omega)]
   rfl
 ·have v3 := v1.grow g3
  cases k with
  | none => exact v3
  | some k =>
   obtain ⟨l, a, r, ln, rows, e', bb, c, r2⟩ := v3
   exact ⟨l, Fp.not_no, r, ln, rows, e', bb, c, r2.imp fun _ _ x => x⟩
end
end Go.Ab

/- squeezed -/
set_option linter.unusedVariables false
set_option linter.unusedSimpArgs false
set_option maxRecDepth 10000
namespace Go.Ab
open Go.Proofs
section
variable {h : AH} {S S' : Fp} {i j : Nat} {w : Wk} {m : Ms} {s5 s6 s7 : Sl}
end
end Go.Ab
