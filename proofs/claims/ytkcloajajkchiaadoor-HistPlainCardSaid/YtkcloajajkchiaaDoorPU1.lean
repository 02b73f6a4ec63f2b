/- squeezed -/
import Derived.Test.YtkcloajajkchiaaDoorPAbsDra
import Derived.Test.YtkcloajajkchiaaDoorProg
import Derived.Test.YtkcloajajkchiaaDoorPAbsP

set_option linter.unusedVariables false
set_option maxRecDepth 100000
namespace Go.Ab
open Go.Proofs
@[reducible] def F.kg2 : FuncId := 3
@[reducible] def F.kgu : FuncId := 4
@[reducible] def F.k7 : FuncId := 5
@[reducible] def F.kbs : FuncId := 6
@[reducible] def F.kco : FuncId := 7
@[reducible] def F.k8 : FuncId := 8
@[reducible] def F.k6 : FuncId := 9
@[reducible] def F.ky : FuncId := 10
@[reducible] def F.kch : FuncId := 11
@[reducible] def F.kb2 : FuncId := 12
@[reducible] def F.kdx : FuncId := 13
@[reducible] def F.k9 : FuncId := 14
@[reducible] def F.kgk : FuncId := 15
@[reducible] def F.kbi : FuncId := 16
@[reducible] def F.kbf : FuncId := 17
@[reducible] def F.kf2 : FuncId := 18
@[reducible] def F.kb5 : FuncId := 19
@[reducible] def F.kg8 : FuncId := 20
@[reducible] def F.kbk : FuncId := 21
@[reducible] def F.ku : FuncId := 22
@[reducible] def F.kb0 : FuncId := 23
@[reducible] def F.kfb : FuncId := 24
@[reducible] def F.kfd : FuncId := 25
@[reducible] def F.kcn : FuncId := 26
@[reducible] def F.kcz : FuncId := 27
@[reducible] def F.kq : FuncId := 28
@[reducible] def F.kb9 : FuncId := 29
@[reducible] def F.kb6 : FuncId := 30
@[reducible] def F.kbm : FuncId := 31
@[reducible] def F.kcv : FuncId := 32
@[reducible] def F.kcs : FuncId := 33
@[reducible] def F.kcq : FuncId := 34
@[reducible] def F.kb3 : FuncId := 35
@[reducible] def F.kgd : FuncId := 36
@[reducible] def F.kg7 : FuncId := 37
@[reducible] def F.kcx : FuncId := 38
@[reducible] def F.keh : FuncId := 39
@[reducible] def F.kbl : FuncId := 40
@[reducible] def F.kbv : FuncId := 41
@[reducible] def F.kx : FuncId := 42
@[reducible] def F.kgq : FuncId := 43
@[reducible] def T.func : TypeId := 1
@[reducible] def T.int : TypeId := 3
@[reducible] def T.bool : TypeId := 4
@[reducible] def T.string : TypeId := 9
@[reducible] def T.any : TypeId := 20
@[reducible] def T.k5 : TypeId := 22
@[reducible] def T.khb : TypeId := 23
@[reducible] def T.kj : TypeId := 25
@[reducible] def T.ket : TypeId := 26
@[reducible] def T.kf : TypeId := 28
@[reducible] def T.kda : TypeId := 31
@[reducible] def T.kcl : TypeId := 34
@[reducible] def T.kcj : TypeId := 40
@[reducible] def T.kn : TypeId := 42
@[reducible] def T.kr : TypeId := 50
@[reducible] noncomputable def Pg : Program := Tryd.prog
@[reducible] def Gl.math_bits_deBruijn64tab : Nat := 0
def keepTab : List (Nat × Nat × List Nat) := [(5, 3, [2, 3, 4, 7, 8]), (5, 8, [3, 4, 7, 9]), (5, 15, [3, 4, 10, 11]), (7, 4, [0, 1, 5]), (8, 4, [1, 3, 4, 5]), (8, 7, [1, 3, 4, 5, 6]), (9, 11, [5, 6, 7, 9, 12, 33, 34, 35]), (10, 5, [2, 3, 4, 9]), (10, 13, [2, 3, 10, 11, 12, 13]), (10, 17, [2, 3, 10, 11, 12, 13, 14, 15]), (11, 4, [0, 1, 5]), (12, 4, [1, 27, 28, 29]), (14, 5, [1, 4]), (14, 10, [1, 4, 5]), (19, 4, [1, 3, 4, 5]), (22, 1, [0, 1, 2, 10, 11, 12]), (22, 4, [0, 1, 2, 4, 10, 11, 12, 18, 19]), (23, 7, [2, 3, 6, 8, 44, 45, 46]), (26, 4, [0, 3]), (28, 2, [0, 1, 7, 8]), (29, 4, [1, 3]), (30, 3, [1, 5, 6]), (32, 3, [3, 7, 8, 9]), (33, 5, [4, 6, 23, 24, 25]), (34, 5, [2, 3, 4, 6, 8, 9, 35, 36]), (38, 2, [0, 1, 5]), (42, 1, [0, 6, 7, 8]), (42, 3, [0, 3, 4, 6, 7, 8])]
noncomputable def go : Rec := run Pg (keepOf keepTab)
theorem kb (k : Key) (h : AH) : go k h = stepA Pg (keepOf keepTab) go k h := km2 _ k h
theorem kiw : Pg.underlying T.int = some (.int .i64) := Tryd.underlying3
theorem kdg : Pg.cellsOf T.int = 1 := by kernel_rfl
theorem kos : kbg Pg T.int = some [.int .i64 0] := by kernel_rfl
theorem kk7 : Pg.bytesOf T.int = 8 := by kernel_rfl
theorem kjr : Pg.underlying T.k5 = some (.slice T.int) := Tryd.underlying22
theorem kjc : Pg.cellsOf T.k5 = 1 := by kernel_rfl
theorem kni : Pg.underlying T.khb = some (.slice T.k5) := Tryd.underlying23
theorem koh : Pg.cellsOf T.khb = 1 := by kernel_rfl
theorem kkj : Pg.underlying T.kj = some (.struct #[{ name := "Ids", type := T.k5, offset := 0, embedded := false, tag := "", pkgPath := "", byteOffset := 0 }, { name := "Bins", type := T.k5, offset := 1, embedded := false, tag := "", pkgPath := "", byteOffset := 24 }, { name := "Cols", type := T.khb, offset := 2, embedded := false, tag := "", pkgPath := "", byteOffset := 48 }]) := Tryd.underlying25
theorem kqs : Pg.cellsOf T.kj = 3 := by kernel_rfl
theorem kma : Pg.underlying T.ket = some (.slice T.kcj) := Tryd.underlying26
theorem koz : Pg.cellsOf T.ket = 1 := by kernel_rfl
theorem kiy : Pg.underlying T.kf = some (.struct #[{ name := "N", type := T.int, offset := 0, embedded := false, tag := "", pkgPath := "", byteOffset := 0 }, { name := "W", type := T.ket, offset := 1, embedded := false, tag := "", pkgPath := "", byteOffset := 8 }]) := Tryd.underlying28
theorem kl4 : Pg.cellsOf T.kf = 2 := by kernel_rfl
theorem kml : Pg.underlying T.kcj = some (.int .u64) := Tryd.underlying40
theorem kqz : Pg.cellsOf T.kcj = 1 := by kernel_rfl
theorem kn2 : Pg.bytesOf T.kcj = 8 := by kernel_rfl
theorem kig : Pg.cellsOf T.kn = 2 := by kernel_rfl
theorem kp8 : kbg Pg T.kn = some [.int .i64 0, .int .i64 0] := by kernel_rfl
theorem kqn : Pg.bytesOf T.kn = 16 := by kernel_rfl
theorem khf : Pg.cellsOf T.kr = 2 := by kernel_rfl
theorem klo : kbg Pg T.kr = some [.int .i64 0, .int .i64 0] := by kernel_rfl
theorem kmf : Pg.bytesOf T.kr = 16 := by kernel_rfl
noncomputable def Td.kfv : List Item := todoAt Tryd.f5 3
noncomputable def Td.kfp : List Item := todoAt Tryd.f5 8
noncomputable def Td.kel : List Item := todoAt Tryd.f5 15
noncomputable def Td.kff : List Item := todoAt Tryd.f7 4
noncomputable def Td.kdk : List Item := todoAt Tryd.f8 4
noncomputable def Td.kep : List Item := todoAt Tryd.f8 7
noncomputable def Td.kfi : List Item := todoAt Tryd.f9 11
noncomputable def Td.kfk : List Item := todoAt Tryd.f10 5
noncomputable def Td.kdr : List Item := todoAt Tryd.f10 13
noncomputable def Td.kdj : List Item := todoAt Tryd.f10 17
noncomputable def Td.kfj : List Item := todoAt Tryd.f11 4
noncomputable def Td.kfc : List Item := todoAt Tryd.f12 4
noncomputable def Td.kdh : List Item := todoAt Tryd.f14 5
noncomputable def Td.kei : List Item := todoAt Tryd.f14 10
noncomputable def Td.kds : List Item := todoAt Tryd.f19 4
noncomputable def Td.kdq : List Item := todoAt Tryd.f22 1
noncomputable def Td.kdn : List Item := todoAt Tryd.f22 4
noncomputable def Td.kdl : List Item := todoAt Tryd.f23 7
noncomputable def Td.kew : List Item := todoAt Tryd.f26 4
noncomputable def Td.kz : List Item := todoAt Tryd.f28 2
noncomputable def Td.kez : List Item := todoAt Tryd.f29 4
noncomputable def Td.ke2 : List Item := todoAt Tryd.f30 3
noncomputable def Td.kek : List Item := todoAt Tryd.f32 3
noncomputable def Td.kfh : List Item := todoAt Tryd.f33 5
noncomputable def Td.ke5 : List Item := todoAt Tryd.f34 5
noncomputable def Td.kd2 : List Item := todoAt Tryd.f38 2
noncomputable def Td.kd0 : List Item := todoAt Tryd.f42 1
noncomputable def Td.kd5 : List Item := todoAt Tryd.f42 3
noncomputable def Fx.kgy : Func := Tryd.f6
noncomputable def Tr.kho : List Item := kf8 Tryd.f6 0 (.tmp 9)
noncomputable def Ta.kiz : List Item := (loopAt Tryd.f6 0).2.2.2
noncomputable def Fx.kgn : Func := Tryd.f9
noncomputable def Tr.kkg : List Item := kf8 Tryd.f9 0 (.tmp 27)
noncomputable def Ta.khz : List Item := (loopAt Tryd.f9 0).2.2.2
noncomputable def Fx.kgc : Func := Tryd.f41
noncomputable def Tr.ki6 : List Item := kf8 Tryd.f41 0 (.tmp 6)
noncomputable def Ta.kjb : List Item := (loopAt Tryd.f41 0).2.2.2
theorem khc (args : List AV) (h : AH) : callF Pg go F.ku args h = go (.fn F.ku args) h := by kernel_rfl
theorem kof (args : List AV) (h : AH) : callF Pg go F.kx args h = go (.fn F.kx args) h := by kernel_rfl
theorem kk4 (a1 : Sl) (a2 : Sl) (a3 : Sl) (a4 : Int) (a5 : Sl) (a6 : Sl) (h : AH) : go (.fn F.kg2 [.agg [a1.v, a2.v, a3.v], .agg [.int .i64 a4, a5.v], a6.v]) h =
 newK h (.cells [a1.v, a2.v, a3.v] T.kj) fun h7r h7 =>
 newK h7 (.cells [.int .i64 a4, a5.v] T.kf) fun h8r h8 =>
 (go (.fn F.kgu []) h8).bind fun q9 =>
 ((some q9.1).bind AV.asBool).bind fun b10 =>
 ((q9.2.cell (h7r.add 0)).bind AV.asSl).bind fun l11 =>
 ((q9.2.cell (h7r.add 1)).bind AV.asSl).bind fun l12 =>
 ((q9.2.cell (h7r.add 2)).bind AV.asSl).bind fun l13 =>
 ((q9.2.cell (h8r.add 0)).bind (AV.asInt .i64)).bind fun n14 =>
 ((q9.2.cell (h8r.add 1)).bind AV.asSl).bind fun l15 =>
 (go (.fn F.k7 [.agg [l11.v, l12.v, l13.v], .agg [.int .i64 n14, l15.v], (⟨none, 0, .is 0⟩ : Sl).v]) q9.2).bind fun q16 =>
 ((some q16.1).bind AV.asBool).bind fun b17 =>
 cond (!b17) (
 some (.bool b10, q16.2)) (
 cond (decide ((a6.len : Int) > 1000)) (
 some (.bool b10, q16.2)) (
 ((q16.2.cell (h7r.add 0)).bind AV.asSl).bind fun l18 =>
 ((q16.2.cell (h7r.add 1)).bind AV.asSl).bind fun l19 =>
 ((q16.2.cell (h7r.add 2)).bind AV.asSl).bind fun l20 =>
 (go (.fn F.kbs [.agg [l18.v, l19.v, l20.v]]) q16.2).bind fun q21 =>
 ((some q21.1).bind AV.asSl).bind fun l22 =>
 ((q21.2.cell (h7r.add 0)).bind AV.asSl).bind fun l23 =>
 ((q21.2.cell (h7r.add 1)).bind AV.asSl).bind fun l24 =>
 ((q21.2.cell (h7r.add 2)).bind AV.asSl).bind fun l25 =>
 (go (.fn F.k8 [.agg [l23.v, l24.v, l25.v]]) q21.2).bind fun q26 =>
 ((some q26.1).bind AV.asSl).bind fun l27 =>
 (go (.fn F.kco [l22.v, l27.v]) q26.2).bind fun q28 =>
 ((some q28.1).bind AV.asBool).bind fun b29 =>
 ((q28.2.cell (h7r.add 0)).bind AV.asSl).bind fun l30 =>
 ((q28.2.cell (h7r.add 1)).bind AV.asSl).bind fun l31 =>
 ((q28.2.cell (h7r.add 2)).bind AV.asSl).bind fun l32 =>
 ((q28.2.cell (h8r.add 0)).bind (AV.asInt .i64)).bind fun n33 =>
 ((q28.2.cell (h8r.add 1)).bind AV.asSl).bind fun l34 =>
 (go (.fn F.k6 [.agg [l30.v, l31.v, l32.v], .agg [.int .i64 n33, l34.v], a6.v]) q28.2).bind fun q35 =>
 (AV.asTup2 q35.1).bind fun p36 =>
 ((some p36.1).bind AV.asSl).bind fun l37 =>
 ((some p36.2).bind (AV.asInt .i64)).bind fun n38 =>
 ((q35.2.cell (h7r.add 0)).bind AV.asSl).bind fun l39 =>
 ((q35.2.cell (h7r.add 1)).bind AV.asSl).bind fun l40 =>
 ((q35.2.cell (h7r.add 2)).bind AV.asSl).bind fun l41 =>
 ((q35.2.cell (h8r.add 0)).bind (AV.asInt .i64)).bind fun n42 =>
 ((q35.2.cell (h8r.add 1)).bind AV.asSl).bind fun l43 =>
 (go (.fn F.ky [.agg [l39.v, l40.v, l41.v], .agg [.int .i64 n42, l43.v], a6.v]) q35.2).bind fun q44 =>
 (AV.asTup2 q44.1).bind fun p45 =>
 ((some p45.1).bind AV.asSl).bind fun l46 =>
 ((some p45.2).bind (AV.asInt .i64)).bind fun n47 =>
 (go (.fn F.kch [l37.v, l46.v]) q44.2).bind fun q48 =>
 ((some q48.1).bind AV.asBool).bind fun b49 =>
 cond b10 (
 cond b29 (
 cond b49 (
 some (.bool (decide (n38 = n47)), q48.2)) (
 some (.bool false, q48.2))) (
 some (.bool false, q48.2))) (
 some (.bool false, q48.2)))) := (kb _ h).trans (by kernel_rfl)
theorem kpm (a1 : Nat) (a2 : Ref) (a3 : Ref) (h : AH) : go (.fn F.ku [.func (.yield a1) [] [], .ptr (some a2), .ptr (some a3)]) h =
 ((h.cell (a2.add 1)).bind AV.asSl).bind fun l4 =>
 go (.pt F.ku Td.kdq [(0, .func (.yield a1) [] []), (1, .ptr (some a2)), (2, .ptr (some a3)), (10, l4.v), (11, .int .i64 (l4.len : Int)), (12, .int .i64 0)]) h := (kb _ h).trans (by kernel_rfl)
theorem kq4 (a1 : Nat) (a2 : Ref) (h : AH) : go (.fn F.kx [.func (.yield a1) [] [], .ptr (some a2)]) h =
 ((h.cell (a2.add 1)).bind AV.asSl).bind fun l3 =>
 go (.pt F.kx Td.kd0 [(0, .func (.yield a1) [] []), (6, l3.v), (7, .int .i64 (l3.len : Int)), (8, .int .i64 0)]) h := (kb _ h).trans (by kernel_rfl)
theorem kmx  (h : AH) : go (.fn F.kgu []) h =
 newK h (.cells [.int .i64 0, .int .i64 1, .int .i64 2] T.int) fun h1r h1 =>
 newK h1 (.cells [.int .i64 2] T.int) fun h2r h2 =>
 newK h2 (.cells [.int .i64 0, .int .i64 1, .int .i64 1] T.int) fun h3r h3 =>
 newK h3 (.cells [(⟨some h3r, 3, .is 3⟩ : Sl).v] T.k5) fun h4r h4 =>
 newK h4 (.cells [(⟨none, 0, .is 0⟩ : Sl).v, (⟨none, 0, .is 0⟩ : Sl).v, (⟨none, 0, .is 0⟩ : Sl).v] T.kj) fun h5r h5 =>
 (h5.puts h5r [(⟨some h1r, 3, .is 3⟩ : Sl).v, (⟨some h2r, 1, .is 1⟩ : Sl).v, (⟨some h4r, 1, .is 1⟩ : Sl).v]).bind fun h6 =>
 ((h6.cell (h5r.add 0)).bind AV.asSl).bind fun l7 =>
 ((h6.cell (h5r.add 1)).bind AV.asSl).bind fun l8 =>
 ((h6.cell (h5r.add 2)).bind AV.asSl).bind fun l9 =>
 newK h6 (.cells [.int .u64 3] T.kcj) fun h10r h10 =>
 newK h10 (.cells [.int .i64 5, .int .i64 6, .int .i64 7] T.int) fun h11r h11 =>
 (go (.fn F.k6 [.agg [l7.v, l8.v, l9.v], .agg [.int .i64 3, (⟨some h10r, 1, .is 1⟩ : Sl).v], (⟨some h11r, 3, .is 3⟩ : Sl).v]) h11).bind fun q12 =>
 (AV.asTup2 q12.1).bind fun p13 =>
 ((some p13.1).bind AV.asSl).bind fun l14 =>
 ((some p13.2).bind (AV.asInt .i64)).bind fun n15 =>
 cond (decide (n15 = 0)) (
 cond (decide ((l14.len : Int) = 1)) (
 (idx l14.ref l14.len 0 2).bind fun r16 =>
 ((q12.2.cell (r16.add 0)).bind (AV.asInt .i64)).bind fun n17 =>
 ((q12.2.cell (r16.add 1)).bind (AV.asInt .i64)).bind fun n18 =>
 some (.bool ((decide (n17 = 5)) && ((decide (n18 = 1)) && true)), q12.2)) (
 some (.bool false, q12.2))) (
 some (.bool false, q12.2)) := (kb _ h).trans (by kernel_rfl)
theorem kll (a1 : Sl) (a2 : Sl) (a3 : Sl) (a4 : Int) (a5 : Sl) (a6 : Sl) (h : AH) : go (.fn F.k7 [.agg [a1.v, a2.v, a3.v], .agg [.int .i64 a4, a5.v], a6.v]) h =
 newK h (.cells [a1.v, a2.v, a3.v] T.kj) fun h7r h7 =>
 newK h7 (.cells [.int .i64 a4, a5.v] T.kf) fun h8r h8 =>
 go (.pt F.k7 Td.kfv [(2, a6.v), (3, .ptr (some h7r)), (4, .ptr (some h8r)), (7, .int .i64 0), (8, .int .i64 0)]) h8 := (kb _ h).trans (by kernel_rfl)
theorem kne (a1 : Sl) (a2 : Sl) (a3 : Sl) (h : AH) : go (.fn F.kbs [.agg [a1.v, a2.v, a3.v]]) h =
 newK h (.cells [a1.v, a2.v, a3.v] T.kj) fun h4r h4 =>
 newK h4 (.cells [(⟨none, 0, .is 0⟩ : Sl).v] T.kda) fun h5r h5 =>
 ((h5.cell (h4r.add 0)).bind AV.asSl).bind fun l6 =>
 ((h5.cell (h4r.add 1)).bind AV.asSl).bind fun l7 =>
 ((h5.cell (h4r.add 2)).bind AV.asSl).bind fun l8 =>
 (go (.fn F.kb2 [.agg [l6.v, l7.v, l8.v]]) h5).bind fun q9 =>
 ((some q9.1).bind AV.asBool).bind fun b10 =>
 cond b10 (
 ((q9.2.cell (h4r.add 0)).bind AV.asSl).bind fun l11 =>
 ((q9.2.cell (h4r.add 1)).bind AV.asSl).bind fun l12 =>
 ((q9.2.cell (h4r.add 2)).bind AV.asSl).bind fun l13 =>
 (go (.fn F.kdx [.agg [l11.v, l12.v, l13.v], .agg [.int .i64 0, (⟨none, 0, .is 0⟩ : Sl).v]]) q9.2).bind fun q14 =>
 go (.pt F.kbs Tr.kho [(0, .agg [a1.v, a2.v, a3.v]), (1, .ptr (some h4r)), (2, (⟨none, 0, .is 0⟩ : Sl).v), (3, .ptr (some h5r)), (5, .agg [l6.v, l7.v, l8.v]), (6, .bool true), (7, .agg [l11.v, l12.v, l13.v]), (8, .agg [.int .i64 0, (⟨none, 0, .is 0⟩ : Sl).v]), (9, q14.1)]) q14.2) (
 ((q9.2.cell h5r).bind AV.asSl).bind fun l15 =>
 some (l15.v, q9.2)) := (kb _ h).trans (by kernel_rfl)
theorem kop (a1 : Sl) (a2 : Sl) (a3 : Sl) (h : AH) : go (.fn F.k8 [.agg [a1.v, a2.v, a3.v]]) h =
 newK h (.cells [a1.v, a2.v, a3.v] T.kj) fun h4r h4 =>
 ((h4.cell (h4r.add 0)).bind AV.asSl).bind fun l5 =>
 ((h4.cell (h4r.add 1)).bind AV.asSl).bind fun l6 =>
 ((h4.cell (h4r.add 2)).bind AV.asSl).bind fun l7 =>
 (go (.fn F.k9 [.agg [l5.v, l6.v, l7.v]]) h4).bind fun q8 =>
 ((some q8.1).bind AV.asBool).bind fun b9 =>
 go (.pt F.k8 Td.kdk [(1, .ptr (some h4r)), (3, .bool b9), (4, (⟨none, 0, .is 0⟩ : Sl).v), (5, .int .i64 0)]) q8.2 := (kb _ h).trans (by kernel_rfl)
theorem km9 (a1 : Sl) (a2 : Sl) (h : AH) : go (.fn F.kco [a1.v, a2.v]) h =
 cond (!decide ((a1.len : Int) = (a2.len : Int))) (
 some (.bool false, h)) (
 go (.pt F.kco Td.kff [(0, a1.v), (1, a2.v), (5, .int .i64 0)]) h) := (kb _ h).trans (by kernel_rfl)
theorem kmt (a1 : Sl) (a2 : Sl) (a3 : Sl) (a4 : Int) (a5 : Sl) (a6 : Sl) (h : AH) : go (.fn F.k6 [.agg [a1.v, a2.v, a3.v], .agg [.int .i64 a4, a5.v], a6.v]) h =
 newK h (.cells [a1.v, a2.v, a3.v] T.kj) fun h7r h7 =>
 newK h7 (.cells [.int .i64 a4, a5.v] T.kf) fun h8r h8 =>
 newK h8 (.cells [a6.v] T.k5) fun h9r h9 =>
 ((h9.cell (h7r.add 0)).bind AV.asSl).bind fun l10 =>
 ((h9.cell (h7r.add 1)).bind AV.asSl).bind fun l11 =>
 ((h9.cell (h7r.add 2)).bind AV.asSl).bind fun l12 =>
 ((h9.cell (h8r.add 0)).bind (AV.asInt .i64)).bind fun n13 =>
 ((h9.cell (h8r.add 1)).bind AV.asSl).bind fun l14 =>
 ((h9.cell h9r).bind AV.asSl).bind fun l15 =>
 (go (.fn F.kgk [.agg [l10.v, l11.v, l12.v], .agg [.int .i64 n13, l14.v], .int .i64 (l15.len : Int)]) h9).bind fun q16 =>
 ((some q16.1).bind (AV.asInt .i64)).bind fun n17 =>
 cond (!decide (n17 = 0)) (
 some (.tup [(⟨none, 0, .is 0⟩ : Sl).v, .int .i64 n17], q16.2)) (
 ((q16.2.cell h9r).bind AV.asSl).bind fun l18 =>
 (go (.fn F.kbi [l18.v, .func (.func F.kbf) [] []]) q16.2).bind fun q19 =>
 ((some q19.1).bind AV.asBool).bind fun b20 =>
 cond b20 (
 some (.tup [(⟨none, 0, .is 0⟩ : Sl).v, .int .i64 1], q19.2)) (
 newK q19.2 (.cells [(⟨none, 0, .is 0⟩ : Sl).v] T.kcl) fun h21r h21 =>
 ((h21.cell (h7r.add 0)).bind AV.asSl).bind fun l22 =>
 ((h21.cell (h7r.add 1)).bind AV.asSl).bind fun l23 =>
 ((h21.cell (h7r.add 2)).bind AV.asSl).bind fun l24 =>
 ((h21.cell (h8r.add 0)).bind (AV.asInt .i64)).bind fun n25 =>
 ((h21.cell (h8r.add 1)).bind AV.asSl).bind fun l26 =>
 (go (.fn F.kdx [.agg [l22.v, l23.v, l24.v], .agg [.int .i64 n25, l26.v]]) h21).bind fun q27 =>
 go (.pt F.k6 Tr.kkg [(0, .agg [a1.v, a2.v, a3.v]), (1, .agg [.int .i64 a4, a5.v]), (2, a6.v), (3, .ptr (some h7r)), (4, .ptr (some h8r)), (5, .ptr (some h9r)), (6, (⟨none, 0, .is 0⟩ : Sl).v), (7, .int .i64 0), (8, .int .i64 n17), (9, .ptr (some h21r)), (15, .agg [l10.v, l11.v, l12.v]), (16, .agg [.int .i64 n13, l14.v]), (17, l15.v), (18, .int .i64 (l15.len : Int)), (19, .int .i64 n17), (20, .int .i64 n17), (21, .bool false), (23, l18.v), (24, .bool false), (25, .agg [l22.v, l23.v, l24.v]), (26, .agg [.int .i64 n25, l26.v]), (27, q27.1)]) q27.2)) := (kb _ h).trans (by kernel_rfl)
theorem kod (a1 : Sl) (a2 : Sl) (a3 : Sl) (a4 : Int) (a5 : Sl) (a6 : Sl) (h : AH) : go (.fn F.ky [.agg [a1.v, a2.v, a3.v], .agg [.int .i64 a4, a5.v], a6.v]) h =
 newK h (.cells [a1.v, a2.v, a3.v] T.kj) fun h7r h7 =>
 newK h7 (.cells [.int .i64 a4, a5.v] T.kf) fun h8r h8 =>
 ((h8.cell (h7r.add 0)).bind AV.asSl).bind fun l9 =>
 ((h8.cell (h7r.add 1)).bind AV.asSl).bind fun l10 =>
 ((h8.cell (h7r.add 2)).bind AV.asSl).bind fun l11 =>
 ((h8.cell (h8r.add 0)).bind (AV.asInt .i64)).bind fun n12 =>
 ((h8.cell (h8r.add 1)).bind AV.asSl).bind fun l13 =>
 (go (.fn F.kf2 [.agg [l9.v, l10.v, l11.v], .agg [.int .i64 n12, l13.v], .int .i64 (a6.len : Int)]) h8).bind fun q14 =>
 ((some q14.1).bind (AV.asInt .i64)).bind fun n15 =>
 cond (!decide (n15 = 0)) (
 some (.tup [(⟨none, 0, .is 0⟩ : Sl).v, .int .i64 n15], q14.2)) (
 go (.pt F.ky Td.kfk [(2, a6.v), (3, .ptr (some h7r)), (4, .ptr (some h8r)), (9, .int .i64 0)]) q14.2) := (kb _ h).trans (by kernel_rfl)
theorem krp (a1 : Sl) (a2 : Sl) (h : AH) : go (.fn F.kch [a1.v, a2.v]) h =
 cond (!decide ((a1.len : Int) = (a2.len : Int))) (
 some (.bool false, h)) (
 go (.pt F.kch Td.kfj [(0, a1.v), (1, a2.v), (5, .int .i64 0)]) h) := (kb _ h).trans (by kernel_rfl)
theorem khl (a1 : Nat) (a2 : Ref) (a3 : Ref) (a4 : Sl) (a5 : Int) (a6 : Int) (h : AH) : go (.pt F.ku Td.kdq [(0, .func (.yield a1) [] []), (1, .ptr (some a2)), (2, .ptr (some a3)), (10, a4.v), (11, .int .i64 a5), (12, .int .i64 a6)]) h =
 cond (decide (a6 < a5)) (
 (idx a4.ref a4.len a6 1).bind fun r7 =>
 ((h.cell r7).bind (AV.asInt .i64)).bind fun n8 =>
 go (.pt F.ku Td.kdn [(0, .func (.yield a1) [] []), (1, .ptr (some a2)), (2, .ptr (some a3)), (4, .int .i64 a6), (10, a4.v), (11, .int .i64 a5), (12, .int .i64 a6), (18, .int .i64 (IntKind.wrap .i64 (n8 - 1))), (19, .int .i64 0)]) h) (
 some (.tup [], h)) := (kb _ h).trans (by kernel_rfl)
theorem khx (a1 : Nat) (a2 : Sl) (a3 : Int) (a4 : Int) (h : AH) : go (.pt F.kx Td.kd0 [(0, .func (.yield a1) [] []), (6, a2.v), (7, .int .i64 a3), (8, .int .i64 a4)]) h =
 cond (decide (a4 < a3)) (
 (idx a2.ref a2.len a4 1).bind fun r5 =>
 ((h.cell r5).bind (AV.asInt .u64)).bind fun n6 =>
 go (.pt F.kx Td.kd5 [(0, .func (.yield a1) [] []), (3, .int .i64 a4), (4, .int .u64 n6), (6, a2.v), (7, .int .i64 a3), (8, .int .i64 a4)]) h) (
 some (.tup [], h)) := (kb _ h).trans (by kernel_rfl)
theorem klw (a1 : Sl) (a2 : Ref) (a3 : Ref) (a4 : Int) (a5 : Int) (h : AH) : go (.pt F.k7 Td.kfv [(2, a1.v), (3, .ptr (some a2)), (4, .ptr (some a3)), (7, .int .i64 a4), (8, .int .i64 a5)]) h =
 cond (decide (a5 < (a1.len : Int))) (
 (idx a1.ref a1.len a5 1).bind fun r6 =>
 ((h.cell r6).bind AV.asSl).bind fun l7 =>
 cond (decide ((l7.len : Int) > 20)) (
 some (.bool false, h)) (
 cond (decide (a5 > 300)) (
 some (.bool false, h)) (
 go (.pt F.k7 Td.kfv [(2, a1.v), (3, .ptr (some a2)), (4, .ptr (some a3)), (7, .int .i64 a4), (8, .int .i64 (IntKind.wrap .i64 (a5 + 1)))]) h))) (
 go (.pt F.k7 Td.kfp [(3, .ptr (some a2)), (4, .ptr (some a3)), (7, .int .i64 a4), (9, .int .i64 0)]) h) := (kb _ h).trans (by kernel_rfl)
theorem kqg (a1 : Sl) (a2 : Sl) (a3 : Sl) (h : AH) : go (.fn F.kb2 [.agg [a1.v, a2.v, a3.v]]) h =
 newK h (.cells [a1.v, a2.v, a3.v] T.kj) fun h4r h4 =>
 ((h4.cell (h4r.add 0)).bind AV.asSl).bind fun l5 =>
 (go (.fn F.kg8 [l5.v]) h4).bind fun q6 =>
 ((some q6.1).bind AV.asBool).bind fun b7 =>
 cond (!b7) (
 some (.bool false, q6.2)) (
 ((q6.2.cell (h4r.add 2)).bind AV.asSl).bind fun l8 =>
 cond (decide ((l8.len : Int) > 16)) (
 some (.bool false, q6.2)) (
 ((q6.2.cell (h4r.add 1)).bind AV.asSl).bind fun l9 =>
 ((q6.2.cell (h4r.add 2)).bind AV.asSl).bind fun l10 =>
 cond (!decide ((l9.len : Int) = (l10.len : Int))) (
 some (.bool false, q6.2)) (
 ((q6.2.cell (h4r.add 2)).bind AV.asSl).bind fun l11 =>
 go (.pt F.kb2 Td.kfc [(1, .ptr (some h4r)), (27, l11.v), (28, .int .i64 (l11.len : Int)), (29, .int .i64 0)]) q6.2))) := (kb _ h).trans (by kernel_rfl)
theorem kh4 (a1 : Sl) (a2 : Sl) (a3 : Sl) (a4 : Int) (a5 : Sl) (h : AH) : go (.fn F.kdx [.agg [a1.v, a2.v, a3.v], .agg [.int .i64 a4, a5.v]]) h =
 newK h (.cells [a1.v, a2.v, a3.v] T.kj) fun h6r h6 =>
 newK h6 (.cells [.int .i64 a4, a5.v] T.kf) fun h7r h7 =>
 some (.func (.func F.ku) [] [.ptr (some h6r), .ptr (some h7r)], h7) := (kb _ h).trans (by kernel_rfl)
theorem kmy (a1 : Sl) (a2 : Sl) (a3 : Sl) (a4 : Ref) (a5 : Sl) (a6 : Ref) (a7 : Sl) (a8 : Sl) (a9 : Sl) (a10 : Bool) (a11 : Sl) (a12 : Sl) (a13 : Sl) (a14 : Int) (a15 : Sl) (a16 : AV) (h : AH) : go (.pt F.kbs Tr.kho [(0, .agg [a1.v, a2.v, a3.v]), (1, .ptr (some a4)), (2, a5.v), (3, .ptr (some a6)), (5, .agg [a7.v, a8.v, a9.v]), (6, .bool a10), (7, .agg [a11.v, a12.v, a13.v]), (8, .agg [.int .i64 a14, a15.v]), (9, a16)]) h =
 funcK a16 fun g21 f22 c23 =>
 newM h (kbr Fx.kgy F.kbs 0 .ready none [(0, .agg [a1.v, a2.v, a3.v]), (1, .ptr (some a4)), (2, a5.v), (3, .ptr (some a6)), (5, .agg [a7.v, a8.v, a9.v]), (6, .bool a10), (7, .agg [a11.v, a12.v, a13.v]), (8, .agg [.int .i64 a14, a15.v]), (9, a16)]) fun m17 h18 =>
 (callF Pg go g21 (f22 ++ [.func (.yield m17) [] []] ++ c23) h18).bind fun q19 =>
 (kb7 m17 q19.2).bind fun p20 =>
 go (.pt F.kbs ((p20.1.map Item.code).toList ++ Ta.kiz) [(0, .agg [a1.v, a2.v, a3.v]), (1, .ptr (some a4)), (2, a5.v), (3, .ptr (some a6)), (5, .agg [a7.v, a8.v, a9.v]), (6, .bool a10), (7, .agg [a11.v, a12.v, a13.v]), (8, .agg [.int .i64 a14, a15.v]), (9, a16)]) p20.2 := (kb _ h).trans (by kernel_rfl)
theorem kle (a1 : Sl) (a2 : Sl) (a3 : Sl) (h : AH) : go (.fn F.k9 [.agg [a1.v, a2.v, a3.v]]) h =
 newK h (.cells [a1.v, a2.v, a3.v] T.kj) fun h4r h4 =>
 ((h4.cell (h4r.add 0)).bind AV.asSl).bind fun l5 =>
 (go (.fn F.kcn [l5.v]) h4).bind fun q6 =>
 ((some q6.1).bind AV.asBool).bind fun b7 =>
 cond (!b7) (
 some (.bool false, q6.2)) (
 ((q6.2.cell (h4r.add 2)).bind AV.asSl).bind fun l8 =>
 cond (decide ((l8.len : Int) > 16)) (
 some (.bool false, q6.2)) (
 ((q6.2.cell (h4r.add 1)).bind AV.asSl).bind fun l9 =>
 ((q6.2.cell (h4r.add 2)).bind AV.asSl).bind fun l10 =>
 cond (!decide ((l9.len : Int) = (l10.len : Int))) (
 some (.bool false, q6.2)) (
 go (.pt F.k9 Td.kdh [(1, .ptr (some h4r)), (4, .int .i64 0)]) q6.2))) := (kb _ h).trans (by kernel_rfl)
theorem kg4 (a1 : Ref) (a2 : Bool) (a3 : Sl) (a4 : Int) (h : AH) : go (.pt F.k8 Td.kdk [(1, .ptr (some a1)), (3, .bool a2), (4, a3.v), (5, .int .i64 a4)]) h =
 cond a2 (
 ((h.cell (a1.add 2)).bind AV.asSl).bind fun l5 =>
 cond (decide (a4 < (l5.len : Int))) (
 go (.pt F.k8 Td.kep [(1, .ptr (some a1)), (3, .bool a2), (4, a3.v), (5, .int .i64 a4), (6, .int .i64 0)]) h) (
 some (a3.v, h))) (
 some (a3.v, h)) := (kb _ h).trans (by kernel_rfl)
theorem kil (a1 : Sl) (a2 : Sl) (a3 : Int) (h : AH) : go (.pt F.kco Td.kff [(0, a1.v), (1, a2.v), (5, .int .i64 a3)]) h =
 cond (decide (a3 < (a1.len : Int))) (
 (idx a1.ref a1.len a3 2).bind fun r4 =>
 ((h.cell (r4.add 0)).bind (AV.asInt .i64)).bind fun n5 =>
 ((h.cell (r4.add 1)).bind (AV.asInt .i64)).bind fun n6 =>
 (idx a2.ref a2.len a3 2).bind fun r7 =>
 ((h.cell (r7.add 0)).bind (AV.asInt .i64)).bind fun n8 =>
 ((h.cell (r7.add 1)).bind (AV.asInt .i64)).bind fun n9 =>
 cond (!((decide (n5 = n8)) && ((decide (n6 = n9)) && true))) (
 some (.bool false, h)) (
 go (.pt F.kco Td.kff [(0, a1.v), (1, a2.v), (5, .int .i64 (IntKind.wrap .i64 (a3 + 1)))]) h)) (
 some (.bool true, h)) := (kb _ h).trans (by kernel_rfl)
theorem kk6 (a1 : Sl) (a2 : Sl) (a3 : Sl) (a4 : Int) (a5 : Sl) (a6 : Int) (h : AH) : go (.fn F.kgk [.agg [a1.v, a2.v, a3.v], .agg [.int .i64 a4, a5.v], .int .i64 a6]) h =
 newK h (.cells [a1.v, a2.v, a3.v] T.kj) fun h7r h7 =>
 newK h7 (.cells [.int .i64 a4, a5.v] T.kf) fun h8r h8 =>
 ((h8.cell (h7r.add 0)).bind AV.asSl).bind fun l9 =>
 ((h8.cell (h7r.add 1)).bind AV.asSl).bind fun l10 =>
 ((h8.cell (h7r.add 2)).bind AV.asSl).bind fun l11 =>
 (go (.fn F.kb2 [.agg [l9.v, l10.v, l11.v]]) h8).bind fun q12 =>
 ((some q12.1).bind AV.asBool).bind fun b13 =>
 cond (!b13) (
 some (.int .i64 20, q12.2)) (
 ((q12.2.cell (h8r.add 0)).bind (AV.asInt .i64)).bind fun n14 =>
 ((q12.2.cell (h8r.add 1)).bind AV.asSl).bind fun l15 =>
 (go (.fn F.kcz [.agg [.int .i64 n14, l15.v]]) q12.2).bind fun q16 =>
 ((some q16.1).bind AV.asBool).bind fun b17 =>
 cond (!b17) (
 some (.int .i64 1, q16.2)) (
 ((q16.2.cell (h8r.add 0)).bind (AV.asInt .i64)).bind fun n18 =>
 ((q16.2.cell (h7r.add 0)).bind AV.asSl).bind fun l19 =>
 cond (!decide (n18 = (l19.len : Int))) (
 some (.int .i64 1, q16.2)) (
 ((q16.2.cell (h7r.add 0)).bind AV.asSl).bind fun l20 =>
 cond (!decide (a6 = (l20.len : Int))) (
 some (.int .i64 1, q16.2)) (
 some (.int .i64 0, q16.2))))) := (kb _ h).trans (by kernel_rfl)
theorem ko8 (a1 : Sl) (h : AH) : go (.fn F.kbi [a1.v, .func (.func F.kbf) [] []]) h =
 (go (.fn F.kq [a1.v, .func (.func F.kbf) [] []]) h).bind fun q2 =>
 ((some q2.1).bind (AV.asInt .i64)).bind fun n3 =>
 some (.bool (decide (n3 ≥ 0)), q2.2) := (kb _ h).trans (by kernel_rfl)
theorem kk2 (a1 : Sl) (a2 : Sl) (a3 : Sl) (a4 : Int) (a5 : Sl) (a6 : Sl) (a7 : Ref) (a8 : Ref) (a9 : Ref) (a10 : Sl) (a11 : Int) (a12 : Int) (a13 : Ref) (a14 : Sl) (a15 : Sl) (a16 : Sl) (a17 : Int) (a18 : Sl) (a19 : Sl) (a20 : Int) (a21 : Int) (a22 : Int) (a23 : Bool) (a24 : Sl) (a25 : Bool) (a26 : Sl) (a27 : Sl) (a28 : Sl) (a29 : Int) (a30 : Sl) (a31 : AV) (h : AH) : go (.pt F.k6 Tr.kkg [(0, .agg [a1.v, a2.v, a3.v]), (1, .agg [.int .i64 a4, a5.v]), (2, a6.v), (3, .ptr (some a7)), (4, .ptr (some a8)), (5, .ptr (some a9)), (6, a10.v), (7, .int .i64 a11), (8, .int .i64 a12), (9, .ptr (some a13)), (15, .agg [a14.v, a15.v, a16.v]), (16, .agg [.int .i64 a17, a18.v]), (17, a19.v), (18, .int .i64 a20), (19, .int .i64 a21), (20, .int .i64 a22), (21, .bool a23), (23, a24.v), (24, .bool a25), (25, .agg [a26.v, a27.v, a28.v]), (26, .agg [.int .i64 a29, a30.v]), (27, a31)]) h =
 funcK a31 fun g36 f37 c38 =>
 newM h (kbr Fx.kgn F.k6 0 .ready none [(0, .agg [a1.v, a2.v, a3.v]), (1, .agg [.int .i64 a4, a5.v]), (2, a6.v), (3, .ptr (some a7)), (4, .ptr (some a8)), (5, .ptr (some a9)), (6, a10.v), (7, .int .i64 a11), (8, .int .i64 a12), (9, .ptr (some a13)), (15, .agg [a14.v, a15.v, a16.v]), (16, .agg [.int .i64 a17, a18.v]), (17, a19.v), (18, .int .i64 a20), (19, .int .i64 a21), (20, .int .i64 a22), (21, .bool a23), (23, a24.v), (24, .bool a25), (25, .agg [a26.v, a27.v, a28.v]), (26, .agg [.int .i64 a29, a30.v]), (27, a31)]) fun m32 h33 =>
 (callF Pg go g36 (f37 ++ [.func (.yield m32) [] []] ++ c38) h33).bind fun q34 =>
 (kb7 m32 q34.2).bind fun p35 =>
 go (.pt F.k6 ((p35.1.map Item.code).toList ++ Ta.khz) [(0, .agg [a1.v, a2.v, a3.v]), (1, .agg [.int .i64 a4, a5.v]), (2, a6.v), (3, .ptr (some a7)), (4, .ptr (some a8)), (5, .ptr (some a9)), (6, a10.v), (7, .int .i64 a11), (8, .int .i64 a12), (9, .ptr (some a13)), (15, .agg [a14.v, a15.v, a16.v]), (16, .agg [.int .i64 a17, a18.v]), (17, a19.v), (18, .int .i64 a20), (19, .int .i64 a21), (20, .int .i64 a22), (21, .bool a23), (23, a24.v), (24, .bool a25), (25, .agg [a26.v, a27.v, a28.v]), (26, .agg [.int .i64 a29, a30.v]), (27, a31)]) p35.2 := (kb _ h).trans (by kernel_rfl)
theorem kqw (a1 : Sl) (a2 : Sl) (a3 : Sl) (a4 : Int) (a5 : Sl) (a6 : Int) (h : AH) : go (.fn F.kf2 [.agg [a1.v, a2.v, a3.v], .agg [.int .i64 a4, a5.v], .int .i64 a6]) h =
 newK h (.cells [a1.v, a2.v, a3.v] T.kj) fun h7r h7 =>
 newK h7 (.cells [.int .i64 a4, a5.v] T.kf) fun h8r h8 =>
 ((h8.cell (h7r.add 0)).bind AV.asSl).bind fun l9 =>
 ((h8.cell (h7r.add 1)).bind AV.asSl).bind fun l10 =>
 ((h8.cell (h7r.add 2)).bind AV.asSl).bind fun l11 =>
 (go (.fn F.k9 [.agg [l9.v, l10.v, l11.v]]) h8).bind fun q12 =>
 ((some q12.1).bind AV.asBool).bind fun b13 =>
 cond (!b13) (
 some (.int .i64 20, q12.2)) (
 ((q12.2.cell (h8r.add 0)).bind (AV.asInt .i64)).bind fun n14 =>
 ((q12.2.cell (h8r.add 1)).bind AV.asSl).bind fun l15 =>
 (go (.fn F.kb9 [.agg [.int .i64 n14, l15.v]]) q12.2).bind fun q16 =>
 ((some q16.1).bind AV.asBool).bind fun b17 =>
 cond (!b17) (
 some (.int .i64 1, q16.2)) (
 ((q16.2.cell (h8r.add 0)).bind (AV.asInt .i64)).bind fun n18 =>
 ((q16.2.cell (h7r.add 0)).bind AV.asSl).bind fun l19 =>
 cond (!decide (n18 = (l19.len : Int))) (
 some (.int .i64 1, q16.2)) (
 ((q16.2.cell (h7r.add 0)).bind AV.asSl).bind fun l20 =>
 cond (!decide (a6 = (l20.len : Int))) (
 some (.int .i64 1, q16.2)) (
 some (.int .i64 0, q16.2))))) := (kb _ h).trans (by kernel_rfl)
theorem khd (a1 : Sl) (a2 : Ref) (a3 : Ref) (a4 : Int) (h : AH) : go (.pt F.ky Td.kfk [(2, a1.v), (3, .ptr (some a2)), (4, .ptr (some a3)), (9, .int .i64 a4)]) h =
 cond (decide (a4 < (a1.len : Int))) (
 (idx a1.ref a1.len a4 1).bind fun r5 =>
 ((h.cell r5).bind (AV.asInt .i64)).bind fun n6 =>
 cond (decide (n6 < (-1048576))) (
 some (.tup [(⟨none, 0, .is 0⟩ : Sl).v, .int .i64 1], h)) (
 (idx a1.ref a1.len a4 1).bind fun r7 =>
 ((h.cell r7).bind (AV.asInt .i64)).bind fun n8 =>
 cond (decide (n8 > 1048576)) (
 some (.tup [(⟨none, 0, .is 0⟩ : Sl).v, .int .i64 1], h)) (
 go (.pt F.ky Td.kfk [(2, a1.v), (3, .ptr (some a2)), (4, .ptr (some a3)), (9, .int .i64 (IntKind.wrap .i64 (a4 + 1)))]) h))) (
 ((h.cell (a3.add 0)).bind (AV.asInt .i64)).bind fun n9 =>
 ((h.cell (a3.add 1)).bind AV.asSl).bind fun l10 =>
 (go (.fn F.kb5 [.agg [.int .i64 n9, l10.v]]) h).bind fun q11 =>
 ((some q11.1).bind AV.asSl).bind fun l12 =>
 ((q11.2.cell (a2.add 0)).bind AV.asSl).bind fun l13 =>
 ((q11.2.cell (a2.add 1)).bind AV.asSl).bind fun l14 =>
 ((q11.2.cell (a2.add 2)).bind AV.asSl).bind fun l15 =>
 (go (.fn F.k8 [.agg [l13.v, l14.v, l15.v]]) q11.2).bind fun q16 =>
 ((some q16.1).bind AV.asSl).bind fun l17 =>
 go (.pt F.ky Td.kdr [(2, a1.v), (3, .ptr (some a2)), (10, l12.v), (11, l17.v), (12, (⟨none, 0, .is 0⟩ : Sl).v), (13, .int .i64 0)]) q16.2) := (kb _ h).trans (by kernel_rfl)
theorem kjp (a1 : Sl) (a2 : Sl) (a3 : Int) (h : AH) : go (.pt F.kch Td.kfj [(0, a1.v), (1, a2.v), (5, .int .i64 a3)]) h =
 cond (decide (a3 < (a1.len : Int))) (
 (idx a1.ref a1.len a3 2).bind fun r4 =>
 ((h.cell (r4.add 0)).bind (AV.asInt .i64)).bind fun n5 =>
 ((h.cell (r4.add 1)).bind (AV.asInt .i64)).bind fun n6 =>
 (idx a2.ref a2.len a3 2).bind fun r7 =>
 ((h.cell (r7.add 0)).bind (AV.asInt .i64)).bind fun n8 =>
 ((h.cell (r7.add 1)).bind (AV.asInt .i64)).bind fun n9 =>
 cond (!((decide (n5 = n8)) && ((decide (n6 = n9)) && true))) (
 some (.bool false, h)) (
 go (.pt F.kch Td.kfj [(0, a1.v), (1, a2.v), (5, .int .i64 (IntKind.wrap .i64 (a3 + 1)))]) h)) (
 some (.bool true, h)) := (kb _ h).trans (by kernel_rfl)
theorem kkh (a1 : Nat) (a2 : Ref) (a3 : Ref) (a4 : Int) (a5 : Sl) (a6 : Int) (a7 : Int) (a8 : Int) (a9 : Int) (h : AH) : go (.pt F.ku Td.kdn [(0, .func (.yield a1) [] []), (1, .ptr (some a2)), (2, .ptr (some a3)), (4, .int .i64 a4), (10, a5.v), (11, .int .i64 a6), (12, .int .i64 a7), (18, .int .i64 a8), (19, .int .i64 a9)]) h =
 cond (decide (a9 < a8)) (
 ((h.cell (a2.add 0)).bind AV.asSl).bind fun l10 =>
 ((h.cell (a2.add 1)).bind AV.asSl).bind fun l11 =>
 ((h.cell (a2.add 2)).bind AV.asSl).bind fun l12 =>
 (go (.fn F.kb0 [.agg [l10.v, l11.v, l12.v], .int .i64 a4, .int .i64 a9]) h).bind fun q13 =>
 (AV.asTup2 q13.1).bind fun p14 =>
 (AV.asAgg p14.1).bind fun cs15 =>
 cond (Nat.beq cs15.length 2) (
 ((cs15[0]?).bind (AV.asInt .i64)).bind fun n16 =>
 ((cs15[1]?).bind AV.asSl).bind fun l17 =>
 ((some p14.2).bind (AV.asInt .i64)).bind fun n18 =>
 newK q13.2 (.cells [.int .i64 0, (⟨none, 0, .is 0⟩ : Sl).v] T.kf) fun h19r h19 =>
 (h19.puts h19r [.int .i64 n16, l17.v]).bind fun h20 =>
 ((h20.cell (h19r.add 0)).bind (AV.asInt .i64)).bind fun n21 =>
 ((h20.cell (h19r.add 1)).bind AV.asSl).bind fun l22 =>
 ((h20.cell (a3.add 0)).bind (AV.asInt .i64)).bind fun n23 =>
 ((h20.cell (a3.add 1)).bind AV.asSl).bind fun l24 =>
 (go (.fn F.kfb [.agg [.int .i64 n21, l22.v], .agg [.int .i64 n23, l24.v]]) h20).bind fun q25 =>
 (AV.asTup2 q25.1).bind fun p26 =>
 (AV.asAgg p26.1).bind fun cs27 =>
 cond (Nat.beq cs27.length 2) (
 ((cs27[0]?).bind (AV.asInt .i64)).bind fun n28 =>
 ((cs27[1]?).bind AV.asSl).bind fun l29 =>
 ((some p26.2).bind (AV.asInt .i64)).bind fun n30 =>
 (q25.2.puts h19r [.int .i64 n28, l29.v]).bind fun h31 =>
 ((h31.cell (h19r.add 0)).bind (AV.asInt .i64)).bind fun n32 =>
 ((h31.cell (h19r.add 1)).bind AV.asSl).bind fun l33 =>
 (go (.fn F.kfd [.agg [.int .i64 n32, l33.v]]) h31).bind fun q34 =>
 ((some q34.1).bind AV.asSl).bind fun l35 =>
 (go (.round a1 [.agg [.int .i64 a4, .int .i64 a9], l35.v]) q34.2).bind fun q36 =>
 ((some q36.1).bind AV.asBool).bind fun b37 =>
 cond (!b37) (
 some (.tup [], q36.2)) (
 go (.pt F.ku Td.kdn [(0, .func (.yield a1) [] []), (1, .ptr (some a2)), (2, .ptr (some a3)), (4, .int .i64 a4), (10, a5.v), (11, .int .i64 a6), (12, .int .i64 a7), (18, .int .i64 a8), (19, .int .i64 (IntKind.wrap .i64 (a9 + 1)))]) q36.2)) none) none) (
 go (.pt F.ku Td.kdq [(0, .func (.yield a1) [] []), (1, .ptr (some a2)), (2, .ptr (some a3)), (10, a5.v), (11, .int .i64 a6), (12, .int .i64 (IntKind.wrap .i64 (a7 + 1)))]) h) := (kb _ h).trans (by kernel_rfl)
theorem kix (a1 : Nat) (a2 : Int) (a3 : Int) (a4 : Sl) (a5 : Int) (a6 : Int) (h : AH) : go (.pt F.kx Td.kd5 [(0, .func (.yield a1) [] []), (3, .int .i64 a2), (4, .int .u64 a3), (6, a4.v), (7, .int .i64 a5), (8, .int .i64 a6)]) h =
 cond (!decide (a3 = 0)) (
 (go (.fn F.kgq [.int .u64 a3]) h).bind fun q7 =>
 ((some q7.1).bind (AV.asInt .i64)).bind fun n8 =>
 (go (.round a1 [.int .i64 (IntKind.wrap .i64 ((IntKind.wrap .i64 (64 * a2)) + n8))]) q7.2).bind fun q9 =>
 ((some q9.1).bind AV.asBool).bind fun b10 =>
 cond (!b10) (
 some (.tup [], q9.2)) (
 go (.pt F.kx Td.kd5 [(0, .func (.yield a1) [] []), (3, .int .i64 a2), (4, .int .u64 (iand .u64 a3 (IntKind.wrap .u64 (a3 - 1)))), (6, a4.v), (7, .int .i64 a5), (8, .int .i64 a6)]) q9.2)) (
 go (.pt F.kx Td.kd0 [(0, .func (.yield a1) [] []), (6, a4.v), (7, .int .i64 a5), (8, .int .i64 (IntKind.wrap .i64 (a6 + 1)))]) h) := (kb _ h).trans (by kernel_rfl)
theorem khr (a1 : Ref) (a2 : Ref) (a3 : Int) (a4 : Int) (h : AH) : go (.pt F.k7 Td.kfp [(3, .ptr (some a1)), (4, .ptr (some a2)), (7, .int .i64 a3), (9, .int .i64 a4)]) h =
 ((h.cell (a1.add 2)).bind AV.asSl).bind fun l5 =>
 cond (decide (a4 < (l5.len : Int))) (
 ((h.cell (a1.add 2)).bind AV.asSl).bind fun l6 =>
 (idx l6.ref l6.len a4 1).bind fun r7 =>
 ((h.cell r7).bind AV.asSl).bind fun l8 =>
 cond (decide ((IntKind.wrap .i64 (a3 + (l8.len : Int))) > 2000)) (
 some (.bool false, h)) (
 go (.pt F.k7 Td.kfp [(3, .ptr (some a1)), (4, .ptr (some a2)), (7, .int .i64 (IntKind.wrap .i64 (a3 + (l8.len : Int)))), (9, .int .i64 (IntKind.wrap .i64 (a4 + 1)))]) h)) (
 go (.pt F.k7 Td.kel [(3, .ptr (some a1)), (4, .ptr (some a2)), (10, .int .i64 0), (11, .int .i64 0)]) h) := (kb _ h).trans (by kernel_rfl)
theorem kmk (a1 : Sl) (h : AH) : go (.fn F.kg8 [a1.v]) h =
 cond (decide ((a1.len : Int) ≤ 256)) (
 (go (.fn F.kbi [a1.v, .func (.func F.kbm) [] []]) h).bind fun q2 =>
 ((some q2.1).bind AV.asBool).bind fun b3 =>
 cond (!b3) (
 (go (.fn F.kcv [a1.v]) q2.2).bind fun q4 =>
 ((some q4.1).bind AV.asMap).bind fun m5 =>
 (mapLen q4.2 m5).bind fun n6 =>
 some (.bool (decide ((n6 : Int) = (a1.len : Int))), q4.2)) (
 some (.bool false, q2.2))) (
 some (.bool false, h)) := (kb _ h).trans (by kernel_rfl)
theorem kir (a1 : Ref) (a2 : Sl) (a3 : Int) (a4 : Int) (h : AH) : go (.pt F.kb2 Td.kfc [(1, .ptr (some a1)), (27, a2.v), (28, .int .i64 a3), (29, .int .i64 a4)]) h =
 cond (decide (a4 < a3)) (
 (idx a2.ref a2.len a4 1).bind fun r5 =>
 ((h.cell r5).bind AV.asSl).bind fun l6 =>
 ((h.cell (a1.add 1)).bind AV.asSl).bind fun l7 =>
 (idx l7.ref l7.len a4 1).bind fun r8 =>
 ((h.cell r8).bind (AV.asInt .i64)).bind fun n9 =>
 newK h (.cells [.int .i64 0] T.int) fun h10r h10 =>
 (h10.puts h10r [.int .i64 n9]).bind fun h11 =>
 ((h11.cell h10r).bind (AV.asInt .i64)).bind fun n12 =>
 cond (decide (n12 < 2)) (
 some (.bool false, h11)) (
 ((h11.cell h10r).bind (AV.asInt .i64)).bind fun n13 =>
 cond (decide (n13 > 32)) (
 some (.bool false, h11)) (
 ((h11.cell (a1.add 0)).bind AV.asSl).bind fun l14 =>
 cond (!decide ((l6.len : Int) = (l14.len : Int))) (
 some (.bool false, h11)) (
 (go (.fn F.kbi [l6.v, .func (.func F.kbk) [] [.ptr (some h10r)]]) h11).bind fun q15 =>
 ((some q15.1).bind AV.asBool).bind fun b16 =>
 cond b16 (
 some (.bool false, q15.2)) (
 go (.pt F.kb2 Td.kfc [(1, .ptr (some a1)), (27, a2.v), (28, .int .i64 a3), (29, .int .i64 (IntKind.wrap .i64 (a4 + 1)))]) q15.2))))) (
 some (.bool true, h)) := (kb _ h).trans (by kernel_rfl)
theorem kk3 (l : Nat) (pe : Option Code) (a1 : Sl) (a2 : Sl) (a3 : Sl) (a4 : Ref) (a5 : Sl) (a6 : Ref) (a7 : Sl) (a8 : Sl) (a9 : Sl) (a10 : Bool) (a11 : Sl) (a12 : Sl) (a13 : Sl) (a14 : Int) (a15 : Sl) (a16 : AV) (a17 : Int) (a18 : Int) (a19 : AV) (h : AH) (hb : h.blks[l]? = some (kbr Fx.kgy F.kbs 0 .ready pe [(0, .agg [a1.v, a2.v, a3.v]), (1, .ptr (some a4)), (2, a5.v), (3, .ptr (some a6)), (5, .agg [a7.v, a8.v, a9.v]), (6, .bool a10), (7, .agg [a11.v, a12.v, a13.v]), (8, .agg [.int .i64 a14, a15.v]), (9, a16)])) : go (.round l [.agg [.int .i64 a17, .int .i64 a18], a19]) h =
 newK h (.cells [.int .i64 0, .int .i64 0] T.kr) fun h20r h20 =>
 (h20.puts h20r [.int .i64 a17, .int .i64 a18]).bind fun h21 =>
 (beginA l h21).bind fun h22 =>
 ((h22.cell a6).bind AV.asSl).bind fun l23 =>
 ((h22.cell (h20r.add 0)).bind (AV.asInt .i64)).bind fun n24 =>
 ((h22.cell (h20r.add 1)).bind (AV.asInt .i64)).bind fun n25 =>
 newK h22 (.cells [.int .i64 n24, .int .i64 n25] T.kr) fun h26r h26 =>
 (kba Pg T.kr ((⟨some h26r, 1, .is 1⟩ : Sl).v) h26).bind fun p28 =>
 (kv Pg l23 p28.1 p28.2 T.kr 2 h26).bind fun q27 =>
 (AV.asSl q27.1).bind fun l29 =>
 (q27.2.puts a6 [l29.v]).bind fun h30 =>
 kbn l none h30 := (kb _ h).trans ((kgh hb).trans (by kernel_rfl))
theorem kk0 (a1 : Sl) (a2 : Sl) (a3 : Sl) (a4 : Ref) (a5 : Sl) (a6 : Ref) (a7 : Sl) (a8 : Sl) (a9 : Sl) (a10 : Bool) (a11 : Sl) (a12 : Sl) (a13 : Sl) (a14 : Int) (a15 : Sl) (a16 : AV) (h : AH) : go (.pt F.kbs ((Option.map Item.code none).toList ++ Ta.kiz) [(0, .agg [a1.v, a2.v, a3.v]), (1, .ptr (some a4)), (2, a5.v), (3, .ptr (some a6)), (5, .agg [a7.v, a8.v, a9.v]), (6, .bool a10), (7, .agg [a11.v, a12.v, a13.v]), (8, .agg [.int .i64 a14, a15.v]), (9, a16)]) h =
 ((h.cell a6).bind AV.asSl).bind fun l17 =>
 some (l17.v, h) := (kb _ h).trans (by kernel_rfl)
theorem km1 (a1 : Sl) (h : AH) : go (.fn F.kcn [a1.v]) h =
 cond (decide ((a1.len : Int) > 256)) (
 some (.bool false, h)) (
 go (.pt F.kcn Td.kew [(0, a1.v), (3, .int .i64 0)]) h) := (kb _ h).trans (by kernel_rfl)
theorem kjh (a1 : Ref) (a2 : Int) (h : AH) : go (.pt F.k9 Td.kdh [(1, .ptr (some a1)), (4, .int .i64 a2)]) h =
 ((h.cell (a1.add 2)).bind AV.asSl).bind fun l3 =>
 cond (decide (a2 < (l3.len : Int))) (
 ((h.cell (a1.add 1)).bind AV.asSl).bind fun l4 =>
 (idx l4.ref l4.len a2 1).bind fun r5 =>
 ((h.cell r5).bind (AV.asInt .i64)).bind fun n6 =>
 cond (decide (n6 < 2)) (
 some (.bool false, h)) (
 ((h.cell (a1.add 1)).bind AV.asSl).bind fun l7 =>
 (idx l7.ref l7.len a2 1).bind fun r8 =>
 ((h.cell r8).bind (AV.asInt .i64)).bind fun n9 =>
 cond (decide (n9 > 32)) (
 some (.bool false, h)) (
 ((h.cell (a1.add 2)).bind AV.asSl).bind fun l10 =>
 (idx l10.ref l10.len a2 1).bind fun r11 =>
 ((h.cell r11).bind AV.asSl).bind fun l12 =>
 ((h.cell (a1.add 0)).bind AV.asSl).bind fun l13 =>
 cond (!decide ((l12.len : Int) = (l13.len : Int))) (
 some (.bool false, h)) (
 go (.pt F.k9 Td.kei [(1, .ptr (some a1)), (4, .int .i64 a2), (5, .int .i64 0)]) h)))) (
 some (.bool true, h)) := (kb _ h).trans (by kernel_rfl)
theorem kia (a1 : Ref) (a2 : Bool) (a3 : Sl) (a4 : Int) (a5 : Int) (h : AH) : go (.pt F.k8 Td.kep [(1, .ptr (some a1)), (3, .bool a2), (4, a3.v), (5, .int .i64 a4), (6, .int .i64 a5)]) h =
 ((h.cell (a1.add 1)).bind AV.asSl).bind fun l6 =>
 (idx l6.ref l6.len a4 1).bind fun r7 =>
 ((h.cell r7).bind (AV.asInt .i64)).bind fun n8 =>
 cond (decide (a5 < (IntKind.wrap .i64 (n8 - 1)))) (
 newK h (.cells [.int .i64 a4, .int .i64 a5] T.kr) fun h9r h9 =>
 (kba Pg T.kr ((⟨some h9r, 1, .is 1⟩ : Sl).v) h9).bind fun p11 =>
 (kv Pg a3 p11.1 p11.2 T.kr 2 h9).bind fun q10 =>
 (AV.asSl q10.1).bind fun l12 =>
 go (.pt F.k8 Td.kep [(1, .ptr (some a1)), (3, .bool a2), (4, l12.v), (5, .int .i64 a4), (6, .int .i64 (IntKind.wrap .i64 (a5 + 1)))]) q10.2) (
 go (.pt F.k8 Td.kdk [(1, .ptr (some a1)), (3, .bool a2), (4, a3.v), (5, .int .i64 (IntKind.wrap .i64 (a4 + 1)))]) h) := (kb _ h).trans (by kernel_rfl)
theorem km6 (a1 : Int) (a2 : Sl) (h : AH) : go (.fn F.kcz [.agg [.int .i64 a1, a2.v]]) h =
 newK h (.cells [.int .i64 a1, a2.v] T.kf) fun h3r h3 =>
 ((h3.cell (h3r.add 0)).bind (AV.asInt .i64)).bind fun n4 =>
 cond (decide (n4 < 0)) (
 some (.bool false, h3)) (
 ((h3.cell (h3r.add 0)).bind (AV.asInt .i64)).bind fun n5 =>
 cond (decide (n5 > 65536)) (
 some (.bool false, h3)) (
 ((h3.cell (h3r.add 1)).bind AV.asSl).bind fun l6 =>
 ((h3.cell (h3r.add 0)).bind (AV.asInt .i64)).bind fun n7 =>
 cond (!decide ((l6.len : Int) = (IntKind.wrap .i64 (Int.tdiv (IntKind.wrap .i64 ((IntKind.wrap .i64 (n7 + 64)) - 1)) 64)))) (
 some (.bool false, h3)) (
 ((h3.cell (h3r.add 0)).bind (AV.asInt .i64)).bind fun n8 =>
 cond (decide ((Int.tmod n8 64) = 0)) (
 some (.bool true, h3)) (
 ((h3.cell (h3r.add 1)).bind AV.asSl).bind fun l9 =>
 ((h3.cell (h3r.add 1)).bind AV.asSl).bind fun l10 =>
 (idx l9.ref l9.len (IntKind.wrap .i64 ((l10.len : Int) - 1)) 1).bind fun r11 =>
 ((h3.cell r11).bind (AV.asInt .u64)).bind fun n12 =>
 ((h3.cell (h3r.add 0)).bind (AV.asInt .i64)).bind fun n13 =>
 cond (decide ((Int.tmod n13 64) < 0)) none (
 some (.bool (decide ((ishr .u64 n12 (Int.tmod n13 64)) = 0)), h3)))))) := (kb _ h).trans (by kernel_rfl)
theorem kn6 (a1 : Sl) (h : AH) : go (.fn F.kq [a1.v, .func (.func F.kbf) [] []]) h =
 go (.pt F.kq Td.kz [(0, a1.v), (1, .func (.func F.kbf) [] []), (7, .int .i64 (a1.len : Int)), (8, .int .i64 0)]) h := (kb _ h).trans (by kernel_rfl)
theorem klj (l : Nat) (pe : Option Code) (a1 : Sl) (a2 : Sl) (a3 : Sl) (a4 : Int) (a5 : Sl) (a6 : Sl) (a7 : Ref) (a8 : Ref) (a9 : Ref) (a10 : Sl) (a11 : Int) (a12 : Int) (a13 : Ref) (a14 : Sl) (a15 : Sl) (a16 : Sl) (a17 : Int) (a18 : Sl) (a19 : Sl) (a20 : Int) (a21 : Int) (a22 : Int) (a23 : Bool) (a24 : Sl) (a25 : Bool) (a26 : Sl) (a27 : Sl) (a28 : Sl) (a29 : Int) (a30 : Sl) (a31 : AV) (a32 : AV) (a33 : Sl) (h : AH) (hb : h.blks[l]? = some (kbr Fx.kgn F.k6 0 .ready pe [(0, .agg [a1.v, a2.v, a3.v]), (1, .agg [.int .i64 a4, a5.v]), (2, a6.v), (3, .ptr (some a7)), (4, .ptr (some a8)), (5, .ptr (some a9)), (6, a10.v), (7, .int .i64 a11), (8, .int .i64 a12), (9, .ptr (some a13)), (15, .agg [a14.v, a15.v, a16.v]), (16, .agg [.int .i64 a17, a18.v]), (17, a19.v), (18, .int .i64 a20), (19, .int .i64 a21), (20, .int .i64 a22), (21, .bool a23), (23, a24.v), (24, .bool a25), (25, .agg [a26.v, a27.v, a28.v]), (26, .agg [.int .i64 a29, a30.v]), (27, a31)])) : go (.round l [a32, a33.v]) h =
 (beginA l h).bind fun h34 =>
 newK h34 (.cells [.int .i64 0, .int .i64 0] T.kn) fun h35r h35 =>
 (h35.puts h35r [.int .i64 0, .int .i64 (a33.len : Int)]).bind fun h36 =>
 go (.rpt l F.k6 Td.kfi [(5, .ptr (some a9)), (6, a10.v), (7, .int .i64 a11), (9, .ptr (some a13)), (12, .ptr (some h35r)), (33, a33.v), (34, .int .i64 (a33.len : Int)), (35, .int .i64 0)]) h36 := (kb _ h).trans ((kgh hb).trans (by kernel_rfl))
theorem kom (a1 : Sl) (a2 : Sl) (a3 : Sl) (a4 : Int) (a5 : Sl) (a6 : Sl) (a7 : Ref) (a8 : Ref) (a9 : Ref) (a10 : Sl) (a11 : Int) (a12 : Int) (a13 : Ref) (a14 : Sl) (a15 : Sl) (a16 : Sl) (a17 : Int) (a18 : Sl) (a19 : Sl) (a20 : Int) (a21 : Int) (a22 : Int) (a23 : Bool) (a24 : Sl) (a25 : Bool) (a26 : Sl) (a27 : Sl) (a28 : Sl) (a29 : Int) (a30 : Sl) (a31 : AV) (h : AH) : go (.pt F.k6 ((Option.map Item.code none).toList ++ Ta.khz) [(0, .agg [a1.v, a2.v, a3.v]), (1, .agg [.int .i64 a4, a5.v]), (2, a6.v), (3, .ptr (some a7)), (4, .ptr (some a8)), (5, .ptr (some a9)), (6, a10.v), (7, .int .i64 a11), (8, .int .i64 a12), (9, .ptr (some a13)), (15, .agg [a14.v, a15.v, a16.v]), (16, .agg [.int .i64 a17, a18.v]), (17, a19.v), (18, .int .i64 a20), (19, .int .i64 a21), (20, .int .i64 a22), (21, .bool a23), (23, a24.v), (24, .bool a25), (25, .agg [a26.v, a27.v, a28.v]), (26, .agg [.int .i64 a29, a30.v]), (27, a31)]) h =
 ((h.cell a13).bind AV.asSl).bind fun l32 =>
 some (.tup [l32.v, .int .i64 0], h) := (kb _ h).trans (by kernel_rfl)
theorem knd (a1 : Int) (a2 : Sl) (h : AH) : go (.fn F.kb9 [.agg [.int .i64 a1, a2.v]]) h =
 newK h (.cells [.int .i64 a1, a2.v] T.kf) fun h3r h3 =>
 ((h3.cell (h3r.add 0)).bind (AV.asInt .i64)).bind fun n4 =>
 cond (decide (n4 < 0)) (
 some (.bool false, h3)) (
 ((h3.cell (h3r.add 0)).bind (AV.asInt .i64)).bind fun n5 =>
 cond (decide (n5 > 65536)) (
 some (.bool false, h3)) (
 ((h3.cell (h3r.add 1)).bind AV.asSl).bind fun l6 =>
 ((h3.cell (h3r.add 0)).bind (AV.asInt .i64)).bind fun n7 =>
 cond (!decide ((l6.len : Int) = (IntKind.wrap .i64 (Int.tdiv (IntKind.wrap .i64 (n7 + 63)) 64)))) (
 some (.bool false, h3)) (
 ((h3.cell (h3r.add 0)).bind (AV.asInt .i64)).bind fun n8 =>
 go (.pt F.kb9 Td.kez [(1, .ptr (some h3r)), (3, .int .i64 n8)]) h3))) := (kb _ h).trans (by kernel_rfl)
theorem knx (a1 : Int) (a2 : Sl) (h : AH) : go (.fn F.kb5 [.agg [.int .i64 a1, a2.v]]) h =
 newK h (.cells [.int .i64 a1, a2.v] T.kf) fun h3r h3 =>
 ((h3.cell (h3r.add 0)).bind (AV.asInt .i64)).bind fun n4 =>
 ((h3.cell (h3r.add 1)).bind AV.asSl).bind fun l5 =>
 (go (.fn F.kb9 [.agg [.int .i64 n4, l5.v]]) h3).bind fun q6 =>
 ((some q6.1).bind AV.asBool).bind fun b7 =>
 go (.pt F.kb5 Td.kds [(1, .ptr (some h3r)), (3, .bool b7), (4, (⟨none, 0, .is 0⟩ : Sl).v), (5, .int .i64 0)]) q6.2 := (kb _ h).trans (by kernel_rfl)
theorem kjl (a1 : Sl) (a2 : Ref) (a3 : Sl) (a4 : Sl) (a5 : Sl) (a6 : Int) (h : AH) : go (.pt F.ky Td.kdr [(2, a1.v), (3, .ptr (some a2)), (10, a3.v), (11, a4.v), (12, a5.v), (13, .int .i64 a6)]) h =
 cond (decide (a6 < (a4.len : Int))) (
 newK h (.cells [.int .i64 0, .int .i64 0] T.kn) fun h7r h7 =>
 (h7.puts h7r [.int .i64 0, .int .i64 0]).bind fun h8 =>
 go (.pt F.ky Td.kdj [(2, a1.v), (3, .ptr (some a2)), (10, a3.v), (11, a4.v), (12, a5.v), (13, .int .i64 a6), (14, .ptr (some h7r)), (15, .int .i64 0)]) h8) (
 some (.tup [a5.v, .int .i64 0], h)) := (kb _ h).trans (by kernel_rfl)
theorem kot (a1 : Sl) (a2 : Sl) (a3 : Sl) (a4 : Int) (a5 : Int) (h : AH) : go (.fn F.kb0 [.agg [a1.v, a2.v, a3.v], .int .i64 a4, .int .i64 a5]) h =
 newK h (.cells [a1.v, a2.v, a3.v] T.kj) fun h6r h6 =>
 newK h6 (.cells [.int .i64 0, (⟨none, 0, .is 0⟩ : Sl).v] T.kf) fun h7r h7 =>
 ((h7.cell (h6r.add 0)).bind AV.asSl).bind fun l8 =>
 ((h7.cell (h6r.add 1)).bind AV.asSl).bind fun l9 =>
 ((h7.cell (h6r.add 2)).bind AV.asSl).bind fun l10 =>
 (go (.fn F.kb2 [.agg [l8.v, l9.v, l10.v]]) h7).bind fun q11 =>
 ((some q11.1).bind AV.asBool).bind fun b12 =>
 cond (!b12) (
 (q11.2.puts h7r [.int .i64 0, (⟨none, 0, .is 0⟩ : Sl).v]).bind fun h13 =>
 ((h13.cell (h7r.add 0)).bind (AV.asInt .i64)).bind fun n14 =>
 ((h13.cell (h7r.add 1)).bind AV.asSl).bind fun l15 =>
 some (.tup [.agg [.int .i64 n14, l15.v], .int .i64 20], h13)) (
 cond (decide (a4 < 0)) (
 (q11.2.puts h7r [.int .i64 0, (⟨none, 0, .is 0⟩ : Sl).v]).bind fun h16 =>
 ((h16.cell (h7r.add 0)).bind (AV.asInt .i64)).bind fun n17 =>
 ((h16.cell (h7r.add 1)).bind AV.asSl).bind fun l18 =>
 some (.tup [.agg [.int .i64 n17, l18.v], .int .i64 1], h16)) (
 ((q11.2.cell (h6r.add 2)).bind AV.asSl).bind fun l19 =>
 cond (decide (a4 ≥ (l19.len : Int))) (
 (q11.2.puts h7r [.int .i64 0, (⟨none, 0, .is 0⟩ : Sl).v]).bind fun h20 =>
 ((h20.cell (h7r.add 0)).bind (AV.asInt .i64)).bind fun n21 =>
 ((h20.cell (h7r.add 1)).bind AV.asSl).bind fun l22 =>
 some (.tup [.agg [.int .i64 n21, l22.v], .int .i64 1], h20)) (
 cond (decide (a5 < 0)) (
 (q11.2.puts h7r [.int .i64 0, (⟨none, 0, .is 0⟩ : Sl).v]).bind fun h23 =>
 ((h23.cell (h7r.add 0)).bind (AV.asInt .i64)).bind fun n24 =>
 ((h23.cell (h7r.add 1)).bind AV.asSl).bind fun l25 =>
 some (.tup [.agg [.int .i64 n24, l25.v], .int .i64 1], h23)) (
 ((q11.2.cell (h6r.add 1)).bind AV.asSl).bind fun l26 =>
 (idx l26.ref l26.len a4 1).bind fun r27 =>
 ((q11.2.cell r27).bind (AV.asInt .i64)).bind fun n28 =>
 cond (decide (a5 ≥ n28)) (
 (q11.2.puts h7r [.int .i64 0, (⟨none, 0, .is 0⟩ : Sl).v]).bind fun h29 =>
 ((h29.cell (h7r.add 0)).bind (AV.asInt .i64)).bind fun n30 =>
 ((h29.cell (h7r.add 1)).bind AV.asSl).bind fun l31 =>
 some (.tup [.agg [.int .i64 n30, l31.v], .int .i64 1], h29)) (
 ((q11.2.cell (h6r.add 2)).bind AV.asSl).bind fun l32 =>
 (idx l32.ref l32.len a4 1).bind fun r33 =>
 ((q11.2.cell r33).bind AV.asSl).bind fun l34 =>
 go (.pt F.kb0 Td.kdl [(2, .int .i64 a5), (3, .ptr (some h6r)), (6, .ptr (some h7r)), (8, (⟨none, 0, .is 0⟩ : Sl).v), (44, l34.v), (45, .int .i64 (l34.len : Int)), (46, .int .i64 0)]) q11.2))))) := (kb _ h).trans (by kernel_rfl)
theorem kk9 (a1 : Int) (a2 : Sl) (a3 : Int) (a4 : Sl) (h : AH) : go (.fn F.kfb [.agg [.int .i64 a1, a2.v], .agg [.int .i64 a3, a4.v]]) h =
 newK h (.cells [.int .i64 a1, a2.v] T.kf) fun h5r h5 =>
 newK h5 (.cells [.int .i64 a3, a4.v] T.kf) fun h6r h6 =>
 newK h6 (.cells [.int .i64 0, (⟨none, 0, .is 0⟩ : Sl).v] T.kf) fun h7r h7 =>
 ((h7.cell (h5r.add 0)).bind (AV.asInt .i64)).bind fun n8 =>
 ((h7.cell (h5r.add 1)).bind AV.asSl).bind fun l9 =>
 ((h7.cell (h6r.add 0)).bind (AV.asInt .i64)).bind fun n10 =>
 ((h7.cell (h6r.add 1)).bind AV.asSl).bind fun l11 =>
 (go (.fn F.kcq [.agg [.int .i64 n8, l9.v], .agg [.int .i64 n10, l11.v], .func (.func F.kb3) [] []]) h7).bind fun q12 =>
 (AV.asTup2 q12.1).bind fun p13 =>
 (AV.asAgg p13.1).bind fun cs14 =>
 cond (Nat.beq cs14.length 2) (
 ((cs14[0]?).bind (AV.asInt .i64)).bind fun n15 =>
 ((cs14[1]?).bind AV.asSl).bind fun l16 =>
 ((some p13.2).bind (AV.asInt .i64)).bind fun n17 =>
 (q12.2.puts h7r [.int .i64 n15, l16.v]).bind fun h18 =>
 ((h18.cell (h7r.add 0)).bind (AV.asInt .i64)).bind fun n19 =>
 ((h18.cell (h7r.add 1)).bind AV.asSl).bind fun l20 =>
 some (.tup [.agg [.int .i64 n19, l20.v], .int .i64 n17], h18)) none := (kb _ h).trans (by kernel_rfl)
theorem kpt (a1 : Int) (a2 : Sl) (h : AH) : go (.fn F.kfd [.agg [.int .i64 a1, a2.v]]) h =
 newK h (.cells [.int .i64 a1, a2.v] T.kf) fun h3r h3 =>
 ((h3.cell (h3r.add 0)).bind (AV.asInt .i64)).bind fun n4 =>
 ((h3.cell (h3r.add 1)).bind AV.asSl).bind fun l5 =>
 (go (.fn F.kcz [.agg [.int .i64 n4, l5.v]]) h3).bind fun q6 =>
 ((some q6.1).bind AV.asBool).bind fun b7 =>
 cond (!b7) (
 some ((⟨none, 0, .is 0⟩ : Sl).v, q6.2)) (
 ((q6.2.cell (h3r.add 0)).bind (AV.asInt .i64)).bind fun n8 =>
 ((q6.2.cell (h3r.add 1)).bind AV.asSl).bind fun l9 =>
 (go (.fn F.kg7 [.agg [.int .i64 n8, l9.v]]) q6.2).bind fun q10 =>
 (go (.fn F.kgd [q10.1]) q10.2).bind fun q11 =>
 ((some q11.1).bind AV.asSl).bind fun l12 =>
 some (l12.v, q11.2)) := (kb _ h).trans (by kernel_rfl)
theorem knf (a1 : Int) (h : AH) : go (.fn F.kgq [.int .u64 a1]) h =
 cond (decide (a1 = 0)) (
 some (.int .i64 64, h)) (
 (idx (some (.old ⟨Gl.math_bits_deBruijn64tab, 0, none⟩)) 64 (ishr .u64 (IntKind.wrap .u64 ((iand .u64 a1 (IntKind.wrap .u64 (0 - a1))) * 285870213051353865)) 58) 1).bind fun r2 =>
 ((h.cell r2).bind (AV.asInt .u8)).bind fun n3 =>
 some (.int .i64 (IntKind.wrap .i64 n3), h)) := (kb _ h).trans (by kernel_rfl)
theorem kkl (a1 : Ref) (a2 : Ref) (a3 : Int) (a4 : Int) (h : AH) : go (.pt F.k7 Td.kel [(3, .ptr (some a1)), (4, .ptr (some a2)), (10, .int .i64 a3), (11, .int .i64 a4)]) h =
 ((h.cell (a1.add 1)).bind AV.asSl).bind fun l5 =>
 cond (decide (a4 < (l5.len : Int))) (
 cond (decide (a4 < 20)) (
 ((h.cell (a1.add 1)).bind AV.asSl).bind fun l6 =>
 (idx l6.ref l6.len a4 1).bind fun r7 =>
 ((h.cell r7).bind (AV.asInt .i64)).bind fun n8 =>
 go (.pt F.k7 Td.kel [(3, .ptr (some a1)), (4, .ptr (some a2)), (10, .int .i64 (IntKind.wrap .i64 (a3 + (imax 0 (imin n8 32))))), (11, .int .i64 (IntKind.wrap .i64 (a4 + 1)))]) h) (
 ((h.cell (a1.add 0)).bind AV.asSl).bind fun l9 =>
 cond (decide ((l9.len : Int) ≤ 300)) (
 ((h.cell (a2.add 1)).bind AV.asSl).bind fun l10 =>
 cond (decide ((l10.len : Int) ≤ 2000)) (
 ((h.cell (a1.add 0)).bind AV.asSl).bind fun l11 =>
 some (.bool (decide ((IntKind.wrap .i64 (a3 * (l11.len : Int))) ≤ 3000)), h)) (
 some (.bool false, h))) (
 some (.bool false, h)))) (
 ((h.cell (a1.add 0)).bind AV.asSl).bind fun l12 =>
 cond (decide ((l12.len : Int) ≤ 300)) (
 ((h.cell (a2.add 1)).bind AV.asSl).bind fun l13 =>
 cond (decide ((l13.len : Int) ≤ 2000)) (
 ((h.cell (a1.add 0)).bind AV.asSl).bind fun l14 =>
 some (.bool (decide ((IntKind.wrap .i64 (a3 * (l14.len : Int))) ≤ 3000)), h)) (
 some (.bool false, h))) (
 some (.bool false, h))) := (kb _ h).trans (by kernel_rfl)
theorem kqk (a1 : Sl) (h : AH) : go (.fn F.kbi [a1.v, .func (.func F.kbm) [] []]) h =
 (go (.fn F.kq [a1.v, .func (.func F.kbm) [] []]) h).bind fun q2 =>
 ((some q2.1).bind (AV.asInt .i64)).bind fun n3 =>
 some (.bool (decide (n3 ≥ 0)), q2.2) := (kb _ h).trans (by kernel_rfl)
theorem kq6 (a1 : Sl) (h : AH) : go (.fn F.kcv [a1.v]) h =
 newM h (.map [] 0) fun h2m h2 =>
 go (.pt F.kcv Td.kek [(3, .map (some h2m)), (7, a1.v), (8, .int .i64 (a1.len : Int)), (9, .int .i64 0)]) h2 := (kb _ h).trans (by kernel_rfl)
theorem kkt (a1 : Sl) (a2 : Option Ref) (h : AH) : go (.fn F.kbi [a1.v, .func (.func F.kbk) [] [.ptr a2]]) h =
 (go (.fn F.kq [a1.v, .func (.func F.kbk) [] [.ptr a2]]) h).bind fun q3 =>
 ((some q3.1).bind (AV.asInt .i64)).bind fun n4 =>
 some (.bool (decide (n4 ≥ 0)), q3.2) := (kb _ h).trans (by kernel_rfl)
theorem kh9 (a1 : Sl) (a2 : Int) (h : AH) : go (.pt F.kcn Td.kew [(0, a1.v), (3, .int .i64 a2)]) h =
 cond (decide (a2 < (a1.len : Int))) (
 (idx a1.ref a1.len a2 1).bind fun r3 =>
 ((h.cell r3).bind (AV.asInt .i64)).bind fun n4 =>
 cond (decide (n4 < 0)) (
 some (.bool false, h)) (
 (idx a1.ref a1.len a2 1).bind fun r5 =>
 ((h.cell r5).bind (AV.asInt .i64)).bind fun n6 =>
 cond (decide (n6 > 1073741824)) (
 some (.bool false, h)) (
 (idx a1.ref a1.len a2 1).bind fun r7 =>
 ((h.cell r7).bind (AV.asInt .i64)).bind fun n8 =>
 (go (.fn F.kcx [a1.v, .int .i64 n8]) h).bind fun q9 =>
 ((some q9.1).bind (AV.asInt .i64)).bind fun n10 =>
 cond (!decide (n10 = a2)) (
 some (.bool false, q9.2)) (
 go (.pt F.kcn Td.kew [(0, a1.v), (3, .int .i64 (IntKind.wrap .i64 (a2 + 1)))]) q9.2)))) (
 some (.bool true, h)) := (kb _ h).trans (by kernel_rfl)
theorem kj9 (a1 : Ref) (a2 : Int) (a3 : Int) (h : AH) : go (.pt F.k9 Td.kei [(1, .ptr (some a1)), (4, .int .i64 a2), (5, .int .i64 a3)]) h =
 ((h.cell (a1.add 0)).bind AV.asSl).bind fun l4 =>
 cond (decide (a3 < (l4.len : Int))) (
 ((h.cell (a1.add 2)).bind AV.asSl).bind fun l5 =>
 (idx l5.ref l5.len a2 1).bind fun r6 =>
 ((h.cell r6).bind AV.asSl).bind fun l7 =>
 (idx l7.ref l7.len a3 1).bind fun r8 =>
 ((h.cell r8).bind (AV.asInt .i64)).bind fun n9 =>
 cond (decide (n9 < 0)) (
 some (.bool false, h)) (
 ((h.cell (a1.add 2)).bind AV.asSl).bind fun l10 =>
 (idx l10.ref l10.len a2 1).bind fun r11 =>
 ((h.cell r11).bind AV.asSl).bind fun l12 =>
 (idx l12.ref l12.len a3 1).bind fun r13 =>
 ((h.cell r13).bind (AV.asInt .i64)).bind fun n14 =>
 ((h.cell (a1.add 1)).bind AV.asSl).bind fun l15 =>
 (idx l15.ref l15.len a2 1).bind fun r16 =>
 ((h.cell r16).bind (AV.asInt .i64)).bind fun n17 =>
 cond (decide (n14 ≥ n17)) (
 some (.bool false, h)) (
 go (.pt F.k9 Td.kei [(1, .ptr (some a1)), (4, .int .i64 a2), (5, .int .i64 (IntKind.wrap .i64 (a3 + 1)))]) h))) (
 go (.pt F.k9 Td.kdh [(1, .ptr (some a1)), (4, .int .i64 (IntKind.wrap .i64 (a2 + 1)))]) h) := (kb _ h).trans (by kernel_rfl)
theorem kjz (a1 : Sl) (a2 : Int) (a3 : Int) (h : AH) : go (.pt F.kq Td.kz [(0, a1.v), (1, .func (.func F.kbf) [] []), (7, .int .i64 a2), (8, .int .i64 a3)]) h =
 cond (decide (a3 < a2)) (
 (idx a1.ref a1.len a3 1).bind fun r4 =>
 ((h.cell r4).bind (AV.asInt .i64)).bind fun n5 =>
 (go (.fn F.kbf [.int .i64 n5]) h).bind fun q6 =>
 ((some q6.1).bind AV.asBool).bind fun b7 =>
 cond b7 (
 some (.int .i64 a3, q6.2)) (
 go (.pt F.kq Td.kz [(0, a1.v), (1, .func (.func F.kbf) [] []), (7, .int .i64 a2), (8, .int .i64 (IntKind.wrap .i64 (a3 + 1)))]) q6.2)) (
 some (.int .i64 (-1), h)) := (kb _ h).trans (by kernel_rfl)
theorem kj6 (a1 : Ref) (a2 : Sl) (a3 : Int) (a4 : Ref) (a5 : Ref) (a6 : Sl) (a7 : Int) (a8 : Int) (l : Nat) (h : AH) : go (.rpt l F.k6 Td.kfi [(5, .ptr (some a1)), (6, a2.v), (7, .int .i64 a3), (9, .ptr (some a4)), (12, .ptr (some a5)), (33, a6.v), (34, .int .i64 a7), (35, .int .i64 a8)]) h =
 cond (decide (a8 < a7)) (
 (idx a6.ref a6.len a8 1).bind fun r9 =>
 ((h.cell r9).bind (AV.asInt .i64)).bind fun n10 =>
 ((h.cell (a5.add 0)).bind (AV.asInt .i64)).bind fun n11 =>
 ((h.cell a1).bind AV.asSl).bind fun l12 =>
 (idx l12.ref l12.len n10 1).bind fun r13 =>
 ((h.cell r13).bind (AV.asInt .i64)).bind fun n14 =>
 (h.puts (a5.add 0) [.int .i64 (IntKind.wrap .i64 (n11 + n14))]).bind fun h15 =>
 go (.rpt l F.k6 Td.kfi [(5, .ptr (some a1)), (6, a2.v), (7, .int .i64 a3), (9, .ptr (some a4)), (12, .ptr (some a5)), (33, a6.v), (34, .int .i64 a7), (35, .int .i64 (IntKind.wrap .i64 (a8 + 1)))]) h15) (
 ((h.cell a4).bind AV.asSl).bind fun l16 =>
 ((h.cell (a5.add 0)).bind (AV.asInt .i64)).bind fun n17 =>
 ((h.cell (a5.add 1)).bind (AV.asInt .i64)).bind fun n18 =>
 newK h (.cells [.int .i64 n17, .int .i64 n18] T.kn) fun h19r h19 =>
 (kba Pg T.kn ((⟨some h19r, 1, .is 1⟩ : Sl).v) h19).bind fun p21 =>
 (kv Pg l16 p21.1 p21.2 T.kn 2 h19).bind fun q20 =>
 (AV.asSl q20.1).bind fun l22 =>
 (q20.2.puts a4 [l22.v]).bind fun h23 =>
 kbn l none h23) := (kb _ h).trans (by kernel_rfl)
theorem kim (a1 : Ref) (a2 : Int) (h : AH) : go (.pt F.kb9 Td.kez [(1, .ptr (some a1)), (3, .int .i64 a2)]) h =
 ((h.cell (a1.add 1)).bind AV.asSl).bind fun l3 =>
 cond (decide (a2 < (IntKind.wrap .i64 (64 * (l3.len : Int))))) (
 ((h.cell (a1.add 0)).bind (AV.asInt .i64)).bind fun n4 =>
 ((h.cell (a1.add 1)).bind AV.asSl).bind fun l5 =>
 (go (.fn F.kb6 [.agg [.int .i64 n4, l5.v], .int .i64 a2]) h).bind fun q6 =>
 ((some q6.1).bind AV.asBool).bind fun b7 =>
 cond b7 (
 some (.bool false, q6.2)) (
 go (.pt F.kb9 Td.kez [(1, .ptr (some a1)), (3, .int .i64 (IntKind.wrap .i64 (a2 + 1)))]) q6.2)) (
 some (.bool true, h)) := (kb _ h).trans (by kernel_rfl)
theorem kf4 (a1 : Ref) (a2 : Bool) (a3 : Sl) (a4 : Int) (h : AH) : go (.pt F.kb5 Td.kds [(1, .ptr (some a1)), (3, .bool a2), (4, a3.v), (5, .int .i64 a4)]) h =
 cond a2 (
 ((h.cell (a1.add 0)).bind (AV.asInt .i64)).bind fun n5 =>
 cond (decide (a4 < n5)) (
 ((h.cell (a1.add 0)).bind (AV.asInt .i64)).bind fun n6 =>
 ((h.cell (a1.add 1)).bind AV.asSl).bind fun l7 =>
 (go (.fn F.kb6 [.agg [.int .i64 n6, l7.v], .int .i64 a4]) h).bind fun q8 =>
 ((some q8.1).bind AV.asBool).bind fun b9 =>
 cond b9 (
 newK q8.2 (.cells [.int .i64 a4] T.int) fun h10r h10 =>
 (kba Pg T.int ((⟨some h10r, 1, .is 1⟩ : Sl).v) h10).bind fun p12 =>
 (kv Pg a3 p12.1 p12.2 T.int 1 h10).bind fun q11 =>
 (AV.asSl q11.1).bind fun l13 =>
 go (.pt F.kb5 Td.kds [(1, .ptr (some a1)), (3, .bool a2), (4, l13.v), (5, .int .i64 (IntKind.wrap .i64 (a4 + 1)))]) q11.2) (
 go (.pt F.kb5 Td.kds [(1, .ptr (some a1)), (3, .bool a2), (4, a3.v), (5, .int .i64 (IntKind.wrap .i64 (a4 + 1)))]) q8.2)) (
 some (a3.v, h))) (
 some (a3.v, h)) := (kb _ h).trans (by kernel_rfl)
theorem khs (a1 : Sl) (a2 : Ref) (a3 : Sl) (a4 : Sl) (a5 : Sl) (a6 : Int) (a7 : Ref) (a8 : Int) (h : AH) : go (.pt F.ky Td.kdj [(2, a1.v), (3, .ptr (some a2)), (10, a3.v), (11, a4.v), (12, a5.v), (13, .int .i64 a6), (14, .ptr (some a7)), (15, .int .i64 a8)]) h =
 cond (decide (a8 < (a3.len : Int))) (
 ((h.cell (a2.add 2)).bind AV.asSl).bind fun l9 =>
 (idx a4.ref a4.len a6 2).bind fun r10 =>
 ((h.cell (r10.add 0)).bind (AV.asInt .i64)).bind fun n11 =>
 (idx l9.ref l9.len n11 1).bind fun r12 =>
 ((h.cell r12).bind AV.asSl).bind fun l13 =>
 (idx a3.ref a3.len a8 1).bind fun r14 =>
 ((h.cell r14).bind (AV.asInt .i64)).bind fun n15 =>
 (idx l13.ref l13.len n15 1).bind fun r16 =>
 ((h.cell r16).bind (AV.asInt .i64)).bind fun n17 =>
 (idx a4.ref a4.len a6 2).bind fun r18 =>
 ((h.cell (r18.add 1)).bind (AV.asInt .i64)).bind fun n19 =>
 cond (decide (n17 ≤ n19)) (
 ((h.cell (a7.add 0)).bind (AV.asInt .i64)).bind fun n20 =>
 (idx a3.ref a3.len a8 1).bind fun r21 =>
 ((h.cell r21).bind (AV.asInt .i64)).bind fun n22 =>
 (idx a1.ref a1.len n22 1).bind fun r23 =>
 ((h.cell r23).bind (AV.asInt .i64)).bind fun n24 =>
 (h.puts (a7.add 0) [.int .i64 (IntKind.wrap .i64 (n20 + n24))]).bind fun h25 =>
 ((h25.cell (a7.add 1)).bind (AV.asInt .i64)).bind fun n26 =>
 (h25.puts (a7.add 1) [.int .i64 (IntKind.wrap .i64 (n26 + 1))]).bind fun h27 =>
 go (.pt F.ky Td.kdj [(2, a1.v), (3, .ptr (some a2)), (10, a3.v), (11, a4.v), (12, a5.v), (13, .int .i64 a6), (14, .ptr (some a7)), (15, .int .i64 (IntKind.wrap .i64 (a8 + 1)))]) h27) (
 go (.pt F.ky Td.kdj [(2, a1.v), (3, .ptr (some a2)), (10, a3.v), (11, a4.v), (12, a5.v), (13, .int .i64 a6), (14, .ptr (some a7)), (15, .int .i64 (IntKind.wrap .i64 (a8 + 1)))]) h)) (
 ((h.cell (a7.add 0)).bind (AV.asInt .i64)).bind fun n28 =>
 ((h.cell (a7.add 1)).bind (AV.asInt .i64)).bind fun n29 =>
 newK h (.cells [.int .i64 n28, .int .i64 n29] T.kn) fun h30r h30 =>
 (kba Pg T.kn ((⟨some h30r, 1, .is 1⟩ : Sl).v) h30).bind fun p32 =>
 (kv Pg a5 p32.1 p32.2 T.kn 2 h30).bind fun q31 =>
 (AV.asSl q31.1).bind fun l33 =>
 go (.pt F.ky Td.kdr [(2, a1.v), (3, .ptr (some a2)), (10, a3.v), (11, a4.v), (12, l33.v), (13, .int .i64 (IntKind.wrap .i64 (a6 + 1)))]) q31.2) := (kb _ h).trans (by kernel_rfl)
theorem ki7 (a1 : Int) (a2 : Ref) (a3 : Ref) (a4 : Sl) (a5 : Sl) (a6 : Int) (a7 : Int) (h : AH) : go (.pt F.kb0 Td.kdl [(2, .int .i64 a1), (3, .ptr (some a2)), (6, .ptr (some a3)), (8, a4.v), (44, a5.v), (45, .int .i64 a6), (46, .int .i64 a7)]) h =
 cond (decide (a7 < a6)) (
 (idx a5.ref a5.len a7 1).bind fun r8 =>
 ((h.cell r8).bind (AV.asInt .i64)).bind fun n9 =>
 cond (decide (n9 ≤ a1)) (
 newK h (.cells [.int .i64 a7] T.int) fun h10r h10 =>
 (kba Pg T.int ((⟨some h10r, 1, .is 1⟩ : Sl).v) h10).bind fun p12 =>
 (kv Pg a4 p12.1 p12.2 T.int 1 h10).bind fun q11 =>
 (AV.asSl q11.1).bind fun l13 =>
 go (.pt F.kb0 Td.kdl [(2, .int .i64 a1), (3, .ptr (some a2)), (6, .ptr (some a3)), (8, l13.v), (44, a5.v), (45, .int .i64 a6), (46, .int .i64 (IntKind.wrap .i64 (a7 + 1)))]) q11.2) (
 go (.pt F.kb0 Td.kdl [(2, .int .i64 a1), (3, .ptr (some a2)), (6, .ptr (some a3)), (8, a4.v), (44, a5.v), (45, .int .i64 a6), (46, .int .i64 (IntKind.wrap .i64 (a7 + 1)))]) h)) (
 ((h.cell (a2.add 0)).bind AV.asSl).bind fun l14 =>
 (go (.fn F.kcs [.int .i64 (l14.len : Int), a4.v]) h).bind fun q15 =>
 (AV.asTup2 q15.1).bind fun p16 =>
 (AV.asAgg p16.1).bind fun cs17 =>
 cond (Nat.beq cs17.length 2) (
 ((cs17[0]?).bind (AV.asInt .i64)).bind fun n18 =>
 ((cs17[1]?).bind AV.asSl).bind fun l19 =>
 ((some p16.2).bind (AV.asInt .i64)).bind fun n20 =>
 (q15.2.puts a3 [.int .i64 n18, l19.v]).bind fun h21 =>
 ((h21.cell (a3.add 0)).bind (AV.asInt .i64)).bind fun n22 =>
 ((h21.cell (a3.add 1)).bind AV.asSl).bind fun l23 =>
 some (.tup [.agg [.int .i64 n22, l23.v], .int .i64 n20], h21)) none) := (kb _ h).trans (by kernel_rfl)
theorem kpa (a1 : Int) (a2 : Sl) (a3 : Int) (a4 : Sl) (h : AH) : go (.fn F.kcq [.agg [.int .i64 a1, a2.v], .agg [.int .i64 a3, a4.v], .func (.func F.kb3) [] []]) h =
 newK h (.cells [.int .i64 a1, a2.v] T.kf) fun h5r h5 =>
 newK h5 (.cells [.int .i64 a3, a4.v] T.kf) fun h6r h6 =>
 newK h6 (.cells [.int .i64 0, (⟨none, 0, .is 0⟩ : Sl).v] T.kf) fun h7r h7 =>
 ((h7.cell (h5r.add 0)).bind (AV.asInt .i64)).bind fun n8 =>
 ((h7.cell (h5r.add 1)).bind AV.asSl).bind fun l9 =>
 (go (.fn F.kcz [.agg [.int .i64 n8, l9.v]]) h7).bind fun q10 =>
 ((some q10.1).bind AV.asBool).bind fun b11 =>
 cond (!b11) (
 (q10.2.puts h7r [.int .i64 0, (⟨none, 0, .is 0⟩ : Sl).v]).bind fun h12 =>
 ((h12.cell (h7r.add 0)).bind (AV.asInt .i64)).bind fun n13 =>
 ((h12.cell (h7r.add 1)).bind AV.asSl).bind fun l14 =>
 some (.tup [.agg [.int .i64 n13, l14.v], .int .i64 1], h12)) (
 ((q10.2.cell (h6r.add 0)).bind (AV.asInt .i64)).bind fun n15 =>
 ((q10.2.cell (h6r.add 1)).bind AV.asSl).bind fun l16 =>
 (go (.fn F.kcz [.agg [.int .i64 n15, l16.v]]) q10.2).bind fun q17 =>
 ((some q17.1).bind AV.asBool).bind fun b18 =>
 cond (!b18) (
 (q17.2.puts h7r [.int .i64 0, (⟨none, 0, .is 0⟩ : Sl).v]).bind fun h19 =>
 ((h19.cell (h7r.add 0)).bind (AV.asInt .i64)).bind fun n20 =>
 ((h19.cell (h7r.add 1)).bind AV.asSl).bind fun l21 =>
 some (.tup [.agg [.int .i64 n20, l21.v], .int .i64 1], h19)) (
 ((q17.2.cell (h5r.add 0)).bind (AV.asInt .i64)).bind fun n22 =>
 ((q17.2.cell (h6r.add 0)).bind (AV.asInt .i64)).bind fun n23 =>
 cond (!decide (n22 = n23)) (
 (q17.2.puts h7r [.int .i64 0, (⟨none, 0, .is 0⟩ : Sl).v]).bind fun h24 =>
 ((h24.cell (h7r.add 0)).bind (AV.asInt .i64)).bind fun n25 =>
 ((h24.cell (h7r.add 1)).bind AV.asSl).bind fun l26 =>
 some (.tup [.agg [.int .i64 n25, l26.v], .int .i64 1], h24)) (
 ((q17.2.cell (h5r.add 0)).bind (AV.asInt .i64)).bind fun n27 =>
 (go (.fn F.keh [.int .i64 n27]) q17.2).bind fun q28 =>
 (AV.asTup2 q28.1).bind fun p29 =>
 (AV.asAgg p29.1).bind fun cs30 =>
 cond (Nat.beq cs30.length 2) (
 ((cs30[0]?).bind (AV.asInt .i64)).bind fun n31 =>
 ((cs30[1]?).bind AV.asSl).bind fun l32 =>
 ((some p29.2).bind (AV.asInt .i64)).bind fun n33 =>
 newK q28.2 (.cells [.int .i64 0, (⟨none, 0, .is 0⟩ : Sl).v] T.kf) fun h34r h34 =>
 (h34.puts h34r [.int .i64 n31, l32.v]).bind fun h35 =>
 ((h35.cell (h34r.add 1)).bind AV.asSl).bind fun l36 =>
 go (.pt F.kcq Td.ke5 [(2, .func (.func F.kb3) [] []), (3, .ptr (some h5r)), (4, .ptr (some h6r)), (6, .ptr (some h7r)), (8, .ptr (some h34r)), (9, .int .i64 n33), (35, .int .i64 (l36.len : Int)), (36, .int .i64 0)]) h35) none))) := (kb _ h).trans (by kernel_rfl)
theorem kqc (a1 : Int) (a2 : Sl) (h : AH) : go (.fn F.kg7 [.agg [.int .i64 a1, a2.v]]) h =
 newK h (.cells [.int .i64 a1, a2.v] T.kf) fun h3r h3 =>
 some (.func (.func F.kx) [] [.ptr (some h3r)], h3) := (kb _ h).trans (by kernel_rfl)
theorem kmi (a1 : AV) (h : AH) : go (.fn F.kgd [a1]) h =
 (go (.fn F.kbv [(⟨none, 0, .is 0⟩ : Sl).v, a1]) h).bind fun q2 =>
 ((some q2.1).bind AV.asSl).bind fun l3 =>
 some (l3.v, q2.2) := (kb _ h).trans (by kernel_rfl)
theorem kpq (a1 : Sl) (h : AH) : go (.fn F.kq [a1.v, .func (.func F.kbm) [] []]) h =
 go (.pt F.kq Td.kz [(0, a1.v), (1, .func (.func F.kbm) [] []), (7, .int .i64 (a1.len : Int)), (8, .int .i64 0)]) h := (kb _ h).trans (by kernel_rfl)
theorem khq (a1 : Nat) (a2 : Sl) (a3 : Int) (a4 : Int) (h : AH) : go (.pt F.kcv Td.kek [(3, .map (some a1)), (7, a2.v), (8, .int .i64 a3), (9, .int .i64 a4)]) h =
 cond (decide (a4 < a3)) (
 (idx a2.ref a2.len a4 1).bind fun r5 =>
 ((h.cell r5).bind (AV.asInt .i64)).bind fun n6 =>
 (mapPut h a1 .i64 n6 (.int .i64 a4)).bind fun h7 =>
 go (.pt F.kcv Td.kek [(3, .map (some a1)), (7, a2.v), (8, .int .i64 a3), (9, .int .i64 (IntKind.wrap .i64 (a4 + 1)))]) h7) (
 some (.map (some a1), h)) := (kb _ h).trans (by kernel_rfl)
theorem kpx (a1 : Sl) (a2 : Option Ref) (h : AH) : go (.fn F.kq [a1.v, .func (.func F.kbk) [] [.ptr a2]]) h =
 go (.pt F.kq Td.kz [(0, a1.v), (1, .func (.func F.kbk) [] [.ptr a2]), (7, .int .i64 (a1.len : Int)), (8, .int .i64 0)]) h := (kb _ h).trans (by kernel_rfl)
theorem kld (a1 : Sl) (a2 : Int) (h : AH) : go (.fn F.kcx [a1.v, .int .i64 a2]) h =
 go (.pt F.kcx Td.kd2 [(0, a1.v), (1, .int .i64 a2), (5, .int .i64 0)]) h := (kb _ h).trans (by kernel_rfl)
theorem kk5 (a1 : Int) (h : AH) : go (.fn F.kbf [.int .i64 a1]) h =
 cond (decide (a1 < (-1048576))) (
 some (.bool true, h)) (
 some (.bool (decide (a1 > 1048576)), h)) := (kb _ h).trans (by kernel_rfl)
theorem knw (a1 : Int) (a2 : Sl) (a3 : Int) (h : AH) : go (.fn F.kb6 [.agg [.int .i64 a1, a2.v], .int .i64 a3]) h =
 newK h (.cells [.int .i64 a1, a2.v] T.kf) fun h4r h4 =>
 ((h4.cell (h4r.add 1)).bind AV.asSl).bind fun l5 =>
 (idx l5.ref l5.len (IntKind.wrap .i64 (Int.tdiv a3 64)) 1).bind fun r6 =>
 ((h4.cell r6).bind (AV.asInt .u64)).bind fun n7 =>
 go (.pt F.kb6 Td.ke2 [(1, .int .i64 a3), (5, .int .u64 n7), (6, .int .i64 0)]) h4 := (kb _ h).trans (by kernel_rfl)
theorem kl0 (a1 : Int) (a2 : Sl) (h : AH) : go (.fn F.kcs [.int .i64 a1, a2.v]) h =
 newK h (.cells [.int .i64 a1] T.int) fun h3r h3 =>
 newK h3 (.cells [.int .i64 0, (⟨none, 0, .is 0⟩ : Sl).v] T.kf) fun h4r h4 =>
 ((h4.cell h3r).bind (AV.asInt .i64)).bind fun n5 =>
 (go (.fn F.keh [.int .i64 n5]) h4).bind fun q6 =>
 (AV.asTup2 q6.1).bind fun p7 =>
 (AV.asAgg p7.1).bind fun cs8 =>
 cond (Nat.beq cs8.length 2) (
 ((cs8[0]?).bind (AV.asInt .i64)).bind fun n9 =>
 ((cs8[1]?).bind AV.asSl).bind fun l10 =>
 ((some p7.2).bind (AV.asInt .i64)).bind fun n11 =>
 newK q6.2 (.cells [.int .i64 0, (⟨none, 0, .is 0⟩ : Sl).v] T.kf) fun h12r h12 =>
 (h12.puts h12r [.int .i64 n9, l10.v]).bind fun h13 =>
 cond (!decide (n11 = 0)) (
 (h13.puts h4r [.int .i64 0, (⟨none, 0, .is 0⟩ : Sl).v]).bind fun h14 =>
 ((h14.cell (h4r.add 0)).bind (AV.asInt .i64)).bind fun n15 =>
 ((h14.cell (h4r.add 1)).bind AV.asSl).bind fun l16 =>
 some (.tup [.agg [.int .i64 n15, l16.v], .int .i64 1], h14)) (
 (go (.fn F.kbi [a2.v, .func (.func F.kbl) [] [.ptr (some h3r)]]) h13).bind fun q17 =>
 ((some q17.1).bind AV.asBool).bind fun b18 =>
 cond b18 (
 (q17.2.puts h4r [.int .i64 0, (⟨none, 0, .is 0⟩ : Sl).v]).bind fun h19 =>
 ((h19.cell (h4r.add 0)).bind (AV.asInt .i64)).bind fun n20 =>
 ((h19.cell (h4r.add 1)).bind AV.asSl).bind fun l21 =>
 some (.tup [.agg [.int .i64 n20, l21.v], .int .i64 1], h19)) (
 go (.pt F.kcs Td.kfh [(4, .ptr (some h4r)), (6, .ptr (some h12r)), (23, a2.v), (24, .int .i64 (a2.len : Int)), (25, .int .i64 0)]) q17.2))) none := (kb _ h).trans (by kernel_rfl)
theorem krc (a1 : Int) (h : AH) : go (.fn F.keh [.int .i64 a1]) h =
 newK h (.cells [.int .i64 0, (⟨none, 0, .is 0⟩ : Sl).v] T.kf) fun h2r h2 =>
 cond (decide (a1 < 0)) (
 (h2.puts h2r [.int .i64 0, (⟨none, 0, .is 0⟩ : Sl).v]).bind fun h3 =>
 ((h3.cell (h2r.add 0)).bind (AV.asInt .i64)).bind fun n4 =>
 ((h3.cell (h2r.add 1)).bind AV.asSl).bind fun l5 =>
 some (.tup [.agg [.int .i64 n4, l5.v], .int .i64 1], h3)) (
 cond (decide (a1 > 65536)) (
 (h2.puts h2r [.int .i64 0, (⟨none, 0, .is 0⟩ : Sl).v]).bind fun h6 =>
 ((h6.cell (h2r.add 0)).bind (AV.asInt .i64)).bind fun n7 =>
 ((h6.cell (h2r.add 1)).bind AV.asSl).bind fun l8 =>
 some (.tup [.agg [.int .i64 n7, l8.v], .int .i64 1], h6)) (
 (kc0 (IntKind.wrap .i64 (Int.tdiv (IntKind.wrap .i64 ((IntKind.wrap .i64 (a1 + 64)) - 1)) 64)) (IntKind.wrap .i64 (Int.tdiv (IntKind.wrap .i64 ((IntKind.wrap .i64 (a1 + 64)) - 1)) 64)) T.kcj (Pg.bytesOf T.kcj) [.int .u64 0] h2).bind fun q9 =>
 (q9.2.puts h2r [.int .i64 a1, q9.1.v]).bind fun h10 =>
 ((h10.cell (h2r.add 0)).bind (AV.asInt .i64)).bind fun n11 =>
 ((h10.cell (h2r.add 1)).bind AV.asSl).bind fun l12 =>
 some (.tup [.agg [.int .i64 n11, l12.v], .int .i64 0], h10))) := (kb _ h).trans (by kernel_rfl)
theorem kj7 (a1 : Ref) (a2 : Ref) (a3 : Ref) (a4 : Ref) (a5 : Int) (a6 : Int) (a7 : Int) (h : AH) : go (.pt F.kcq Td.ke5 [(2, .func (.func F.kb3) [] []), (3, .ptr (some a1)), (4, .ptr (some a2)), (6, .ptr (some a3)), (8, .ptr (some a4)), (9, .int .i64 a5), (35, .int .i64 a6), (36, .int .i64 a7)]) h =
 cond (decide (a7 < a6)) (
 ((h.cell (a4.add 1)).bind AV.asSl).bind fun l8 =>
 ((h.cell (a1.add 1)).bind AV.asSl).bind fun l9 =>
 (idx l9.ref l9.len a7 1).bind fun r10 =>
 ((h.cell r10).bind (AV.asInt .u64)).bind fun n11 =>
 ((h.cell (a2.add 1)).bind AV.asSl).bind fun l12 =>
 (idx l12.ref l12.len a7 1).bind fun r13 =>
 ((h.cell r13).bind (AV.asInt .u64)).bind fun n14 =>
 (go (.fn F.kb3 [.int .u64 n11, .int .u64 n14]) h).bind fun q15 =>
 ((some q15.1).bind (AV.asInt .u64)).bind fun n16 =>
 whenK (SameAt h q15.2 (a4.add 1) 1) (
 (idx l8.ref l8.len a7 1).bind fun r17 =>
 (q15.2.puts r17 [.int .u64 n16]).bind fun h18 =>
 go (.pt F.kcq Td.ke5 [(2, .func (.func F.kb3) [] []), (3, .ptr (some a1)), (4, .ptr (some a2)), (6, .ptr (some a3)), (8, .ptr (some a4)), (9, .int .i64 a5), (35, .int .i64 a6), (36, .int .i64 (IntKind.wrap .i64 (a7 + 1)))]) h18)) (
 ((h.cell (a4.add 0)).bind (AV.asInt .i64)).bind fun n19 =>
 ((h.cell (a4.add 1)).bind AV.asSl).bind fun l20 =>
 (h.puts a3 [.int .i64 n19, l20.v]).bind fun h21 =>
 ((h21.cell (a3.add 0)).bind (AV.asInt .i64)).bind fun n22 =>
 ((h21.cell (a3.add 1)).bind AV.asSl).bind fun l23 =>
 some (.tup [.agg [.int .i64 n22, l23.v], .int .i64 a5], h21)) := (kb _ h).trans (by kernel_rfl)
theorem kpo (a1 : Sl) (a2 : AV) (h : AH) : go (.fn F.kbv [a1.v, a2]) h =
 newK h (.cells [a1.v] T.k5) fun h3r h3 =>
 go (.pt F.kbv Tr.ki6 [(0, a1.v), (1, a2), (2, .ptr (some h3r)), (4, (⟨none, 0, .is 0⟩ : Sl).v), (6, a2)]) h3 := (kb _ h).trans (by kernel_rfl)
theorem kh3 (a1 : Sl) (a2 : Int) (a3 : Int) (h : AH) : go (.pt F.kq Td.kz [(0, a1.v), (1, .func (.func F.kbm) [] []), (7, .int .i64 a2), (8, .int .i64 a3)]) h =
 cond (decide (a3 < a2)) (
 (idx a1.ref a1.len a3 1).bind fun r4 =>
 ((h.cell r4).bind (AV.asInt .i64)).bind fun n5 =>
 (go (.fn F.kbm [.int .i64 n5]) h).bind fun q6 =>
 ((some q6.1).bind AV.asBool).bind fun b7 =>
 cond b7 (
 some (.int .i64 a3, q6.2)) (
 go (.pt F.kq Td.kz [(0, a1.v), (1, .func (.func F.kbm) [] []), (7, .int .i64 a2), (8, .int .i64 (IntKind.wrap .i64 (a3 + 1)))]) q6.2)) (
 some (.int .i64 (-1), h)) := (kb _ h).trans (by kernel_rfl)
theorem kj4 (a1 : Sl) (a2 : Option Ref) (a3 : Int) (a4 : Int) (h : AH) : go (.pt F.kq Td.kz [(0, a1.v), (1, .func (.func F.kbk) [] [.ptr a2]), (7, .int .i64 a3), (8, .int .i64 a4)]) h =
 cond (decide (a4 < a3)) (
 (idx a1.ref a1.len a4 1).bind fun r5 =>
 ((h.cell r5).bind (AV.asInt .i64)).bind fun n6 =>
 (go (.fn F.kbk [.int .i64 n6, .ptr a2]) h).bind fun q7 =>
 ((some q7.1).bind AV.asBool).bind fun b8 =>
 cond b8 (
 some (.int .i64 a4, q7.2)) (
 go (.pt F.kq Td.kz [(0, a1.v), (1, .func (.func F.kbk) [] [.ptr a2]), (7, .int .i64 a3), (8, .int .i64 (IntKind.wrap .i64 (a4 + 1)))]) q7.2)) (
 some (.int .i64 (-1), h)) := (kb _ h).trans (by kernel_rfl)
theorem kjw (a1 : Sl) (a2 : Int) (a3 : Int) (h : AH) : go (.pt F.kcx Td.kd2 [(0, a1.v), (1, .int .i64 a2), (5, .int .i64 a3)]) h =
 cond (decide (a3 < (a1.len : Int))) (
 (idx a1.ref a1.len a3 1).bind fun r4 =>
 ((h.cell r4).bind (AV.asInt .i64)).bind fun n5 =>
 cond (decide (n5 = a2)) (
 some (.int .i64 a3, h)) (
 go (.pt F.kcx Td.kd2 [(0, a1.v), (1, .int .i64 a2), (5, .int .i64 (IntKind.wrap .i64 (a3 + 1)))]) h)) (
 some (.int .i64 (-1), h)) := (kb _ h).trans (by kernel_rfl)
theorem kh1 (a1 : Int) (a2 : Int) (a3 : Int) (h : AH) : go (.pt F.kb6 Td.ke2 [(1, .int .i64 a1), (5, .int .u64 a2), (6, .int .i64 a3)]) h =
 cond (decide (a3 < (Int.tmod a1 64))) (
 go (.pt F.kb6 Td.ke2 [(1, .int .i64 a1), (5, .int .u64 (IntKind.wrap .u64 (Int.tdiv a2 2))), (6, .int .i64 (IntKind.wrap .i64 (a3 + 1)))]) h) (
 some (.bool (decide ((Int.tmod a2 2) = 1)), h)) := (kb _ h).trans (by kernel_rfl)
theorem kly (a1 : Sl) (a2 : Option Ref) (h : AH) : go (.fn F.kbi [a1.v, .func (.func F.kbl) [] [.ptr a2]]) h =
 (go (.fn F.kq [a1.v, .func (.func F.kbl) [] [.ptr a2]]) h).bind fun q3 =>
 ((some q3.1).bind (AV.asInt .i64)).bind fun n4 =>
 some (.bool (decide (n4 ≥ 0)), q3.2) := (kb _ h).trans (by kernel_rfl)
theorem kja (a1 : Ref) (a2 : Ref) (a3 : Sl) (a4 : Int) (a5 : Int) (h : AH) : go (.pt F.kcs Td.kfh [(4, .ptr (some a1)), (6, .ptr (some a2)), (23, a3.v), (24, .int .i64 a4), (25, .int .i64 a5)]) h =
 cond (decide (a5 < a4)) (
 (idx a3.ref a3.len a5 1).bind fun r6 =>
 ((h.cell r6).bind (AV.asInt .i64)).bind fun n7 =>
 ((h.cell (a2.add 1)).bind AV.asSl).bind fun l8 =>
 (idx l8.ref l8.len (IntKind.wrap .i64 (Int.tdiv n7 64)) 1).bind fun r9 =>
 ((h.cell r9).bind (AV.asInt .u64)).bind fun n10 =>
 cond (decide ((Int.tmod n7 64) < 0)) none (
 (idx l8.ref l8.len (IntKind.wrap .i64 (Int.tdiv n7 64)) 1).bind fun r11 =>
 (h.puts r11 [.int .u64 (ior .u64 n10 (ishl .u64 1 (Int.tmod n7 64)))]).bind fun h12 =>
 go (.pt F.kcs Td.kfh [(4, .ptr (some a1)), (6, .ptr (some a2)), (23, a3.v), (24, .int .i64 a4), (25, .int .i64 (IntKind.wrap .i64 (a5 + 1)))]) h12)) (
 ((h.cell (a2.add 0)).bind (AV.asInt .i64)).bind fun n13 =>
 ((h.cell (a2.add 1)).bind AV.asSl).bind fun l14 =>
 (h.puts a1 [.int .i64 n13, l14.v]).bind fun h15 =>
 ((h15.cell (a1.add 0)).bind (AV.asInt .i64)).bind fun n16 =>
 ((h15.cell (a1.add 1)).bind AV.asSl).bind fun l17 =>
 some (.tup [.agg [.int .i64 n16, l17.v], .int .i64 0], h15)) := (kb _ h).trans (by kernel_rfl)
theorem kp2 (a1 : Int) (a2 : Int) (h : AH) : go (.fn F.kb3 [.int .u64 a1, .int .u64 a2]) h =
 some (.int .u64 (iand .u64 a1 a2), h) := (kb _ h).trans (by kernel_rfl)
theorem kpk (a1 : Sl) (a2 : AV) (a3 : Ref) (a4 : Sl) (a5 : AV) (h : AH) : go (.pt F.kbv Tr.ki6 [(0, a1.v), (1, a2), (2, .ptr (some a3)), (4, a4.v), (6, a5)]) h =
 funcK a5 fun g10 f11 c12 =>
 newM h (kbr Fx.kgc F.kbv 0 .ready none [(0, a1.v), (1, a2), (2, .ptr (some a3)), (4, a4.v), (6, a5)]) fun m6 h7 =>
 (callF Pg go g10 (f11 ++ [.func (.yield m6) [] []] ++ c12) h7).bind fun q8 =>
 (kb7 m6 q8.2).bind fun p9 =>
 go (.pt F.kbv ((p9.1.map Item.code).toList ++ Ta.kjb) [(0, a1.v), (1, a2), (2, .ptr (some a3)), (4, a4.v), (6, a5)]) p9.2 := (kb _ h).trans (by kernel_rfl)
theorem kpn (a1 : Int) (h : AH) : go (.fn F.kbm [.int .i64 a1]) h =
 cond (decide (a1 < 0)) (
 some (.bool true, h)) (
 some (.bool (decide (a1 > 1073741824)), h)) := (kb _ h).trans (by kernel_rfl)
theorem kkv (a1 : Int) (a2 : Option Ref) (h : AH) : go (.fn F.kbk [.int .i64 a1, .ptr a2]) h =
 cond (decide (a1 < 0)) (
 some (.bool true, h)) (
 a2.bind fun r3 =>
 ((h.cell r3).bind (AV.asInt .i64)).bind fun n4 =>
 some (.bool (decide (a1 ≥ n4)), h)) := (kb _ h).trans (by kernel_rfl)
theorem kkz (a1 : Sl) (a2 : Option Ref) (h : AH) : go (.fn F.kq [a1.v, .func (.func F.kbl) [] [.ptr a2]]) h =
 go (.pt F.kq Td.kz [(0, a1.v), (1, .func (.func F.kbl) [] [.ptr a2]), (7, .int .i64 (a1.len : Int)), (8, .int .i64 0)]) h := (kb _ h).trans (by kernel_rfl)
theorem kn5 (l : Nat) (pe : Option Code) (a1 : Sl) (a2 : AV) (a3 : Ref) (a4 : Sl) (a5 : AV) (a6 : Int) (h : AH) (hb : h.blks[l]? = some (kbr Fx.kgc F.kbv 0 .ready pe [(0, a1.v), (1, a2), (2, .ptr (some a3)), (4, a4.v), (6, a5)])) : go (.round l [.int .i64 a6]) h =
 (beginA l h).bind fun h7 =>
 ((h7.cell a3).bind AV.asSl).bind fun l8 =>
 newK h7 (.cells [.int .i64 a6] T.int) fun h9r h9 =>
 (kba Pg T.int ((⟨some h9r, 1, .is 1⟩ : Sl).v) h9).bind fun p11 =>
 (kv Pg l8 p11.1 p11.2 T.int 1 h9).bind fun q10 =>
 (AV.asSl q10.1).bind fun l12 =>
 (q10.2.puts a3 [l12.v]).bind fun h13 =>
 kbn l none h13 := (kb _ h).trans ((kgh hb).trans (by kernel_rfl))
theorem kk8 (a1 : Sl) (a2 : AV) (a3 : Ref) (a4 : Sl) (a5 : AV) (h : AH) : go (.pt F.kbv ((Option.map Item.code none).toList ++ Ta.kjb) [(0, a1.v), (1, a2), (2, .ptr (some a3)), (4, a4.v), (6, a5)]) h =
 ((h.cell a3).bind AV.asSl).bind fun l6 =>
 some (l6.v, h) := (kb _ h).trans (by kernel_rfl)
theorem kj0 (a1 : Sl) (a2 : Option Ref) (a3 : Int) (a4 : Int) (h : AH) : go (.pt F.kq Td.kz [(0, a1.v), (1, .func (.func F.kbl) [] [.ptr a2]), (7, .int .i64 a3), (8, .int .i64 a4)]) h =
 cond (decide (a4 < a3)) (
 (idx a1.ref a1.len a4 1).bind fun r5 =>
 ((h.cell r5).bind (AV.asInt .i64)).bind fun n6 =>
 (go (.fn F.kbl [.int .i64 n6, .ptr a2]) h).bind fun q7 =>
 ((some q7.1).bind AV.asBool).bind fun b8 =>
 cond b8 (
 some (.int .i64 a4, q7.2)) (
 go (.pt F.kq Td.kz [(0, a1.v), (1, .func (.func F.kbl) [] [.ptr a2]), (7, .int .i64 a3), (8, .int .i64 (IntKind.wrap .i64 (a4 + 1)))]) q7.2)) (
 some (.int .i64 (-1), h)) := (kb _ h).trans (by kernel_rfl)
theorem klh (a1 : Int) (a2 : Option Ref) (h : AH) : go (.fn F.kbl [.int .i64 a1, .ptr a2]) h =
 cond (decide (a1 < 0)) (
 some (.bool true, h)) (
 a2.bind fun r3 =>
 ((h.cell r3).bind (AV.asInt .i64)).bind fun n4 =>
 some (.bool (decide (a1 ≥ n4)), h)) := (kb _ h).trans (by kernel_rfl)
end Go.Ab

/- squeezed -/
set_option linter.unusedVariables false
set_option linter.unusedSimpArgs false
set_option maxRecDepth 10000
namespace Go.Ab
open Go.Proofs
def idsR (l : List Int) : Bool := decide (l.length ≤ 256) && (!(l.any fun x => decide (x < 0) || decide (x > 1073741824)) && decide l.Nodup)
structure Tb where
 ids : List Int
 bins : List Int
 cols : List (List Int)
def colR (t : Tb) (i : Nat) : Bool := !decide (t.bins.getD i 0 < 2) && !decide (t.bins.getD i 0 > 32) && decide ((t.cols.getD i []).length = t.ids.length) && !((t.cols.getD i []).any fun x => decide (x < 0) || decide (x ≥ t.bins.getD i 0))
def tabR (t : Tb) : Bool := idsR t.ids && !decide (t.cols.length > 16) && decide (t.bins.length = t.cols.length) && (List.range t.cols.length).all (colR t)
structure TabAt (h : AH) (S : Fp) (s1 s2 s3 : Sl) (t : Tb) : Prop where
 ids : Sq EI h S s1 t.ids
 bins : Sq EI h S s2 t.bins
 cols : Sq (Ef.seq EI) h S s3 t.cols
theorem TabAt.md {h h' : AH} {S T : Fp} {s1 s2 s3 : Sl} {t : Tb} (n : TabAt h S s1 s2 s3 t) (m : Md T h h') (d : Dis S T) : TabAt h' S s1 s2 s3 t := ⟨n.ids.md m d, n.bins.md m d, n.cols.md m d⟩
theorem TabAt.grow {h h' : AH} {S : Fp} {s1 s2 s3 : Sl} {t : Tb} (n : TabAt h S s1 s2 s3 t) (g : Grow h h') : TabAt h' S s1 s2 s3 t := ⟨n.ids.grow g, n.bins.grow g, n.cols.grow g⟩
section
variable {h0 : AH} {S : Fp} {s : Sl} {xs : List Int}
theorem kpu (n : Sq EI h0 S s xs) : Runs (go (.fn F.kbi [s.v, .func (.func F.kbm) [] []]) h0) fun v h' => v = .bool (xs.any fun x => decide (x < 0) || decide (x > 1073741824)) ∧ Grow h0 h' := by
 rw [kqk]
 refine Runs.contains (xs := xs) ?_
 rw [kpq, n.len]
 refine keg (n := xs.length) (G := fun z h => go (.pt F.kq Td.kz [(0, s.v), (1, .func (.func F.kbm) [] []), (7, .int .i64 (xs.length : Int)), (8, .int .i64 z)]) h) (fun i h P hi g hT hF => ?_) (fun h g => ?_) xs.length 0 (by omega) (Grow.refl h0) (fun j hj => by omega)
 ·obtain ⟨r, e1, e2⟩ := (n.grow g).int hi
  rw [List.getElem?_eq_getElem hi] at hT hF
  simp only [Option.any_some] at hT hF
  show Runs (go _ _) _
  rw [kh3]
  refine Runs.ifT (decide_eq_true (by omega)) (Runs.step e1 (Runs.step e2 ?_))
  have key : go (.fn F.kbm [.int .i64 xs[i]]) h = some (.bool (decide (xs[i] < 0) || decide (xs[i] > 1073741824)), h) := by
   rw [kpn]
   cases decide (xs[i] < 0) <;> rfl
  refine Runs.step key (Runs.step (seen rfl) ?_)
  rw [ki (by have := n.short; omega)]
  exact Runs.cond (fun c => Runs.ret (hT h g c)) fun c => hF h g c
 ·rw [kh3, condF (decide_eq_false (by omega))]
theorem kpl (n : Sq EI h0 S s xs) (hl : xs.length ≤ 256) {m : Nat} (hm : h0.blks.size ≤ m) : ∀ (k i : Nat), i + k = xs.length → ∀ {h : AH} {l : List (Int × AV)}, Grow h0 h → MapIs h m l → (∀ x, (kvGet l x).isSome = true ↔ x ∈ xs.take i) → l.length ≤ i → (l.length = i ↔ (xs.take i).Nodup) →
  Runs (go (.pt F.kcv Td.kek [(3, .map (some m)), (7, s.v), (8, .int .i64 (xs.length : Int)), (9, .int .i64 (i : Int))]) h) fun v h' => Grow h0 h' ∧ v = .map (some m) ∧ ∃ l, MapIs h' m l ∧ (l.length = xs.length ↔ xs.Nodup) := by
 intro k
 induction k with
 | zero =>
  intro i hi h l g M hk hle hn
  rw [khq]
  refine Runs.ifF (decide_eq_false (by omega)) (Runs.ret ⟨g, rfl, l, M, ?_⟩)
  rw [show i = xs.length from by omega, List.take_length] at hn
  exact hn
 | succ k ih =>
  intro i hi h l g M hk hle hn
  have hlt : i < xs.length := by omega
  obtain ⟨r, e1, e2⟩ := (n.grow g).int hlt
  rw [khq]
  refine Runs.ifT (decide_eq_true (by omega)) (Runs.step e1 (Runs.step e2 ?_))
  obtain ⟨h1, e3, M1, u1⟩ := M.put xs[i] (.int .i64 (i : Int))
  refine Runs.step e3 ?_
  rw [ki (by omega)]
  have ht : xs.take (i + 1) = xs.take i ++ [xs[i]] := List.take_succ_eq_append_getElem hlt
  have hi := hk xs[i]
  refine ih (i + 1) (by omega) (g.updr hm u1) M1 (fun x => ?_) ?_ ?_
  ·rw [knl, ht, List.mem_append, List.mem_singleton]
   by_cases hx : x = xs[i]
   ·rw [if_pos hx]
    exact ⟨fun _ => .inr hx, fun _ => rfl⟩
   ·rw [if_neg hx, hk x]
    exact ⟨.inl, fun h => h.resolve_right hx⟩
  ·cases hg : kvGet l xs[i] with
   | none => rw [ki1 _ hg]; simp; omega
   | some w => rw [kii _ hg]; omega
  ·rw [ht, List.nodup_append]
   cases hg : kvGet l xs[i] with
   | none =>
    rw [hg] at hi
    have hni : xs[i] ∉ xs.take i := fun h => by simpa using hi.2 h
    rw [ki1 _ hg]
    simp only [List.length_append, List.length_singleton]
    constructor
    ·intro e
     refine ⟨hn.1 (by omega), by simp, fun a ha b hb => ?_⟩
     rw [List.mem_singleton] at hb
     subst hb
     rintro rfl
     exact hni ha
    ·intro e
     rw [hn.2 e.1]
   | some w =>
    rw [hg] at hi
    have hin : xs[i] ∈ xs.take i := hi.1 rfl
    rw [kii _ hg]
    constructor
    ·intro e
     omega
    ·intro e
     exact absurd rfl (e.2.2 _ hin _ (by simp))
theorem kmd (n : Sq EI h0 S s xs) : Runs (go (.fn F.kg8 [s.v]) h0) fun v h' => v = .bool (idsR xs) ∧ Grow h0 h' := by
 rw [kmk, n.len]
 unfold idsR
 refine Runs.cond (fun c => ?_) (fun c => ?_)
 ·rw [decide_eq_true_eq] at c
  rw [decide_eq_true (show xs.length ≤ 256 by omega), Bool.true_and]
  refine (kpu n).call fun v h1 ⟨e, g1⟩ => ?_
  subst e
  refine Runs.step (seen rfl) ?_
  refine Runs.cond (fun c2 => ?_) (fun c2 => ?_)
  ·rw [c2, Bool.true_and]
   have key : Runs (go (.fn F.kcv [s.v]) h1) fun v h' => Grow h1 h' ∧ ∃ m l, v = .map (some m) ∧ MapIs h' m l ∧ (l.length = xs.length ↔ xs.Nodup) := by
    rw [kq6, n.len]
    refine Runs.newMap fun h2 M g2 => ?_
    exact (kpl (n.grow g1) (by omega) (m := h1.blks.size) (Nat.le_refl _) xs.length 0 (by omega) (l := []) g2 M (fun x => by simp [kvGet]) (Nat.le_refl _) (by simp)).imp fun v h' ⟨g, e, l, M, hn⟩ => ⟨g, _, l, e, M, hn⟩
   refine key.call fun v h2 ⟨g2, m, l, e, M, hn⟩ => ?_
   subst e
   refine Runs.step (seen rfl) (Runs.step M.size (Runs.ret ⟨congrArg AV.bool ?_, g1.trans g2⟩))
   rw [decide_eq_decide, ← hn]
   omega
  ·rw [c2, Bool.false_and]
   exact Runs.ret ⟨rfl, g1⟩
 ·rw [decide_eq_false_iff_not] at c
  rw [decide_eq_false (show ¬ xs.length ≤ 256 by omega), Bool.false_and]
  exact Runs.ret ⟨rfl, Grow.refl _⟩
end
end Go.Ab

/- squeezed -/
set_option linter.unusedVariables false
set_option linter.unusedSimpArgs false
set_option maxRecDepth 10000
namespace Go.Ab
open Go.Proofs
theorem kqo {h0 : AH} {S : Fp} {s : Sl} {xs : List Int} (n : Sq EI h0 S s xs) {b : Nat} {z : Int} {e : TypeId} (hb : h0.has b [.int .i64 z] e) : Runs (go (.fn F.kbi [s.v, .func (.func F.kbk) [] [.ptr (some (.new b 0))]]) h0) fun v h' => v = .bool (xs.any fun x => decide (x < 0) || decide (x ≥ z)) ∧ Grow h0 h' := by
 rw [kkt]
 refine Runs.contains (xs := xs) ?_
 rw [kpx, n.len]
 refine keg (n := xs.length) (G := fun y h => go (.pt F.kq Td.kz [(0, s.v), (1, .func (.func F.kbk) [] [.ptr (some (.new b 0))]), (7, .int .i64 (xs.length : Int)), (8, .int .i64 y)]) h) (fun i h P hi g hT hF => ?_) (fun h g => ?_) xs.length 0 (by omega) (Grow.refl h0) (fun j hj => by omega)
 ·obtain ⟨r, e1, e2⟩ := (n.grow g).int hi
  rw [List.getElem?_eq_getElem hi] at hT hF
  simp only [Option.any_some] at hT hF
  show Runs (go _ _) _
  rw [kj4]
  refine Runs.ifT (decide_eq_true (by omega)) (Runs.step e1 (Runs.step e2 ?_))
  have key : Runs (go (.fn F.kbk [.int .i64 xs[i], .ptr (some (.new b 0))]) h) fun v h' => v = .bool (decide (xs[i] < 0) || decide (xs[i] ≥ z)) ∧ h' = h := by
   rw [kkv]
   cases decide (xs[i] < 0)
   ·refine Runs.ifF rfl (Runs.step rfl (Runs.step ((g.has hb).rd0 rfl (kc _ _)) ?_))
    exact Runs.ret ⟨rfl, rfl⟩
   ·exact Runs.ret ⟨rfl, rfl⟩
  refine key.call fun v h' ⟨ev, eh⟩ => ?_
  subst ev; subst eh
  refine Runs.step (seen rfl) ?_
  rw [ki (by have := n.short; omega)]
  exact Runs.cond (fun c => Runs.ret (hT _ g c)) fun c => hF _ g c
 ·rw [kj4, condF (decide_eq_false (by omega))]
section
variable {h0 : AH} {S : Fp} {s1 s2 s3 : Sl} {t : Tb}
theorem kp6 (n : TabAt h0 S s1 s2 s3 t) (hl : t.cols.length ≤ 16) (hb : t.bins.length = t.cols.length) {b : Nat} (hbb : h0.blks.size ≤ b) : ∀ (k i : Nat), i + k = t.cols.length → ∀ {h : AH}, Grow h0 h → h.has b [s1.v, s2.v, s3.v] T.kj →
  Runs (go (.pt F.kb2 Td.kfc [(1, .ptr (some (.new b 0))), (27, s3.v), (28, .int .i64 (t.cols.length : Int)), (29, .int .i64 (i : Int))]) h) fun v h' => v = .bool (((List.range t.cols.length).drop i).all (colR t)) ∧ Grow h0 h' := by
 intro k
 induction k with
 | zero =>
  intro i hi h g B
  rw [kir]
  refine Runs.ifF (decide_eq_false (by omega)) (Runs.ret ⟨?_, g⟩)
  rw [kec (by simp; omega)]
 | succ k ih =>
  intro i hi h g B
  have hc : i < t.cols.length := by omega
  have hbi : i < t.bins.length := by omega
  obtain ⟨r, s', e1, e2, -, n'⟩ := (n.cols.grow g).sl hc
  obtain ⟨r2, e3, e4⟩ := (n.bins.grow g).int hbi
  rw [kir]
  refine Runs.ifT (decide_eq_true (by omega)) (Runs.step e1 (Runs.step e2 (Runs.step (B.rd 1 rfl (asSl_v _)) (Runs.step e3 (Runs.step e4 ?_)))))
  refine Runs.new fun h1 b1 g1 => Runs.puts b1 rfl fun h2 b2 u2 => ?_
  have G : Grow h h2 := g1.updr (Nat.le_refl _) u2
  have B2 := G.has B
  rw [kgo hc]
  have hcol : colR t i = (!decide (t.bins[i] < 2) && !decide (t.bins[i] > 32) && decide (t.cols[i].length = t.ids.length) && !(t.cols[i].any fun x => decide (x < 0) || decide (x ≥ t.bins[i]))) := by
   simp [colR, List.getD, hbi, hc]
  rw [hcol]
  refine Runs.step (b2.rd0 rfl (kc _ _)) (Runs.cond (fun c => Runs.ret ⟨by rw [c]; rfl, g.trans G⟩) fun c => ?_)
  refine Runs.step (b2.rd0 rfl (kc _ _)) (Runs.cond (fun c2 => Runs.ret ⟨by rw [c, c2]; rfl, g.trans G⟩) fun c2 => ?_)
  refine Runs.step (B2.rd 0 rfl (asSl_v _)) ?_
  rw [n'.len, n.ids.len]
  refine Runs.cond (fun c3 => Runs.ret ⟨?_, g.trans G⟩) fun c3 => ?_
  ·have : ¬ t.cols[i].length = t.ids.length := by simpa [Int.ofNat_inj] using c3
   rw [c, c2, decide_eq_false this]
   rfl
  have c3 : t.cols[i].length = t.ids.length := by simpa [Int.ofNat_inj] using c3
  refine (kqo (n'.grow G) b2).call fun v h3 ⟨ev, g3⟩ => ?_
  subst ev
  refine Runs.step (seen rfl) (Runs.cond (fun c4 => Runs.ret ⟨by rw [c, c2, decide_eq_true c3, c4]; rfl, (g.trans G).trans g3⟩) fun c4 => ?_)
  rw [c, c2, decide_eq_true c3, c4, ki (by omega)]
  exact ih (i + 1) (by omega) ((g.trans G).trans g3) (g3.has B2)
theorem kfy (n : TabAt h0 S s1 s2 s3 t) : Runs (go (.fn F.kb2 [.agg [s1.v, s2.v, s3.v]]) h0) fun v h' => v = .bool (tabR t) ∧ Grow h0 h' := by
 rw [kqg]
 refine Runs.new fun h4 b4 g4 => Runs.step (b4.rd 0 rfl (asSl_v _)) ?_
 refine (kmd (n.ids.grow g4)).call fun v h6 ⟨ev, g6⟩ => ?_
 subst ev
 have B := g6.has b4
 have G := g4.trans g6
 unfold tabR
 refine Runs.step (seen rfl) (Runs.cond (fun c => Runs.ret ⟨by rw [show idsR t.ids = false by simpa using c]; rfl, G⟩) fun c => ?_)
 rw [show idsR t.ids = true by simpa using c, Bool.true_and]
 refine Runs.step (B.rd 2 rfl (asSl_v _)) ?_
 rw [n.cols.len]
 refine Runs.cond (fun c2 => Runs.ret ⟨?_, G⟩) fun c2 => ?_
 ·rw [decide_eq_true_eq] at c2
  rw [decide_eq_true (show t.cols.length > 16 by omega)]
  rfl
 rw [decide_eq_false_iff_not] at c2
 rw [decide_eq_false (show ¬ t.cols.length > 16 by omega)]
 refine Runs.step (B.rd 1 rfl (asSl_v _)) (Runs.step (B.rd 2 rfl (asSl_v _)) ?_)
 rw [n.bins.len, n.cols.len]
 refine Runs.cond (fun c3 => Runs.ret ⟨?_, G⟩) fun c3 => ?_
 ·have : ¬ t.bins.length = t.cols.length := by simpa [Int.ofNat_inj] using c3
  rw [decide_eq_false this]
  rfl
 have c3 : t.bins.length = t.cols.length := by simpa [Int.ofNat_inj] using c3
 rw [decide_eq_true c3]
 refine Runs.step (B.rd 2 rfl (asSl_v _)) ?_
 rw [n.cols.len]
 exact kp6 n (by omega) c3 (Nat.le_refl _) t.cols.length 0 (by omega) G B
theorem km0 {s : Sl} {xs : List Int} (n : Sq EI h0 S s xs) (x : Int) (hl : xs.length ≤ 1000000) : ∀ (k i : Nat), i + k = xs.length → (∀ j (hj : j < xs.length), j < i → xs[j] ≠ x) →
  ∃ z, go (.pt F.kcx Td.kd2 [(0, s.v), (1, .int .i64 x), (5, .int .i64 (i : Int))]) h0 = some (.int .i64 z, h0) ∧ ∀ t (ht : t < xs.length), xs[t] = x → (z = (t : Int) ↔ ∀ j (hj : j < xs.length), j < t → xs[j] ≠ x) := by
 intro k
 induction k with
 | zero =>
  intro i hi hn
  refine ⟨-1, ?_, fun t ht e => absurd e (hn t ht (by omega))⟩
  rw [kjw, n.len, condF (decide_eq_false (by omega))]
 | succ k ih =>
  intro i hi hn
  have hlt : i < xs.length := by omega
  obtain ⟨r, e1, e2⟩ := n.int hlt
  rw [kjw, e1, n.len, condT (decide_eq_true (by omega)), Option.bind_some, e2, Option.bind_some]
  by_cases hx : xs[i] = x
  ·rw [condT (decide_eq_true hx)]
   refine ⟨_, rfl, fun t ht e => ⟨fun h j hj hjt => hn j hj (by omega), fun h => ?_⟩⟩
   rcases Nat.lt_trichotomy i t with h1 | h1 | h1
   ·exact absurd hx (h i hlt h1)
   ·rw [h1]
   ·exact absurd e (hn t ht h1)
  ·rw [condF (decide_eq_false hx), ki (by omega)]
   refine ih (i + 1) (by omega) fun j hj hji => ?_
   by_cases h1 : j = i
   ·subst h1; exact hx
   ·exact hn j hj (by omega)
theorem kpr {s : Sl} {xs : List Int} (n : Sq EI h0 S s xs) (hl : xs.length ≤ 256) : ∀ (k i : Nat), i + k = xs.length → (∀ j (hj : j < xs.length), j < i → 0 ≤ xs[j] ∧ xs[j] ≤ 1073741824) → (xs.take i).Nodup →
  go (.pt F.kcn Td.kew [(0, s.v), (3, .int .i64 (i : Int))]) h0 = some (.bool (!(xs.any fun x => decide (x < 0) || decide (x > 1073741824)) && decide xs.Nodup), h0) := by
 intro k
 induction k with
 | zero =>
  intro i hi hr hn
  rw [kh9, n.len, condF (decide_eq_false (by omega))]
  have h1 : (xs.any fun x => decide (x < 0) || decide (x > 1073741824)) = false := by
   rw [List.any_eq_false]
   intro x hx
   obtain ⟨j, hj, rfl⟩ := List.getElem_of_mem hx
   have := hr j hj (by omega)
   simp
   omega
  rw [show i = xs.length by omega, List.take_length] at hn
  rw [h1, decide_eq_true hn]
  rfl
 | succ k ih =>
  intro i hi hr hn
  have hlt : i < xs.length := by omega
  obtain ⟨r, e1, e2⟩ := n.int hlt
  rw [kh9, e1, n.len, condT (decide_eq_true (by omega))]
  rw [n.len] at e1
  simp only [Option.bind_some, e1, e2]
  have bad : (xs[i] < 0 ∨ xs[i] > 1073741824) → (xs.any fun x => decide (x < 0) || decide (x > 1073741824)) = true := fun h => by
   rw [List.any_eq_true]
   exact ⟨xs[i], List.getElem_mem hlt, by simpa using h⟩
  by_cases c1 : xs[i] < 0
  ·rw [condT (decide_eq_true c1), bad (.inl c1)]
   rfl
  rw [condF (decide_eq_false c1)]
  by_cases c2 : xs[i] > 1073741824
  ·rw [condT (decide_eq_true c2), bad (.inr c2)]
   rfl
  rw [condF (decide_eq_false c2)]
  obtain ⟨z, e3, hz⟩ := km0 n xs[i] (by omega) xs.length 0 (by omega) fun j hj h => by omega
  have hz := hz i hlt rfl
  have hu : go (.fn F.kcx [s.v, .int .i64 xs[i]]) h0 = some (.int .i64 z, h0) := by
   rw [kld]
   exact e3
  rw [hu]
  simp only [Option.bind_some, kc]
  have ht : xs.take (i + 1) = xs.take i ++ [xs[i]] := List.take_succ_eq_append_getElem hlt
  by_cases c3 : z = (i : Int)
  ·rw [condF (by rw [decide_eq_true c3]; rfl), ki (by omega)]
   refine ih (i + 1) (by omega) (fun j hj hji => ?_) ?_
   ·by_cases h1 : j = i
    ·subst h1; omega
    ·exact hr j hj (by omega)
   ·rw [ht, List.nodup_append]
    refine ⟨hn, by simp, fun a ha b hb => ?_⟩
    rw [List.mem_singleton] at hb
    subst hb
    rintro rfl
    obtain ⟨j, hj, e⟩ := List.getElem_of_mem ha
    rw [List.getElem_take] at e
    rw [List.length_take] at hj
    exact hz.1 c3 j (by omega) (by omega) e
  ·rw [condT (by rw [decide_eq_false c3]; rfl)]
   have : ¬ xs.Nodup := fun h => c3 (hz.2 fun j hj hji e => by
    have := (List.nodup_iff_pairwise_ne.1 h)
    rw [List.pairwise_iff_getElem] at this
    exact this j i hj hlt hji e)
   rw [decide_eq_false this, Bool.and_false]
theorem kno {s : Sl} {xs : List Int} (n : Sq EI h0 S s xs) : go (.fn F.kcn [s.v]) h0 = some (.bool (idsR xs), h0) := by
 rw [km1, n.len]
 unfold idsR
 by_cases c : xs.length > 256
 ·rw [condT (decide_eq_true (by omega)), decide_eq_false (by omega)]
  rfl
 ·rw [condF (decide_eq_false (by omega)), decide_eq_true (show xs.length ≤ 256 by omega), Bool.true_and]
  exact kpr n (by omega) xs.length 0 (by omega) (fun j hj h => by omega) (by simp)
theorem krf (n : TabAt h0 S s1 s2 s3 t) {b : Nat} (B : h0.has b [s1.v, s2.v, s3.v] T.kj) {i : Nat} (hc : i < t.cols.length) (hl : t.cols.length ≤ 16) (hb : t.bins.length = t.cols.length) (hi : t.cols[i].length = t.ids.length) (hids : t.ids.length ≤ 256) : ∀ (k j : Nat), j + k = t.ids.length →
  go (.pt F.k9 Td.kei [(1, .ptr (some (.new b 0))), (4, .int .i64 (i : Int)), (5, .int .i64 (j : Int))]) h0 = cond ((t.cols[i].drop j).any fun x => decide (x < 0) || decide (x ≥ t.bins[i])) (some (.bool false, h0)) (go (.pt F.k9 Td.kdh [(1, .ptr (some (.new b 0))), (4, .int .i64 ((i + 1 : Nat) : Int))]) h0) := by
 have hbi : i < t.bins.length := by omega
 obtain ⟨r, s', e1, e2, -, n'⟩ := n.cols.sl hc
 obtain ⟨r2, e3, e4⟩ := n.bins.int hbi
 intro k
 induction k with
 | zero =>
  intro j hj
  rw [kj9, B.rd 0 rfl (asSl_v _), Option.bind_some, n.ids.len, condF (decide_eq_false (by omega)), ki (by omega), List.drop_of_length_le (by omega)]
  rfl
 | succ k ih =>
  intro j hj
  have hjc : j < t.cols[i].length := by omega
  obtain ⟨r3, e5, e6⟩ := n'.int hjc
  rw [kj9, B.rd 0 rfl (asSl_v _), Option.bind_some, n.ids.len, condT (decide_eq_true (by omega)), B.rd 2 rfl (asSl_v _)]
  simp only [Option.bind_some, e1, e2, e5, e6, B.rd 1 rfl (asSl_v _), e3, e4]
  rw [List.drop_eq_getElem_cons hjc, List.any_cons]
  by_cases c1 : t.cols[i][j] < 0
  ·rw [condT (decide_eq_true c1), decide_eq_true c1]
   rfl
  rw [condF (decide_eq_false c1), decide_eq_false c1, Bool.false_or]
  by_cases c2 : t.cols[i][j] ≥ t.bins[i]
  ·rw [condT (decide_eq_true c2), decide_eq_true c2]
   rfl
  rw [condF (decide_eq_false c2), decide_eq_false c2, Bool.false_or, ki (by omega)]
  exact ih (j + 1) (by omega)
theorem kns (n : TabAt h0 S s1 s2 s3 t) {b : Nat} (B : h0.has b [s1.v, s2.v, s3.v] T.kj) (hl : t.cols.length ≤ 16) (hb : t.bins.length = t.cols.length) (hids : t.ids.length ≤ 256) : ∀ (k i : Nat), i + k = t.cols.length →
  go (.pt F.k9 Td.kdh [(1, .ptr (some (.new b 0))), (4, .int .i64 (i : Int))]) h0 = some (.bool (((List.range t.cols.length).drop i).all (colR t)), h0) := by
 intro k
 induction k with
 | zero =>
  intro i hi
  rw [kjh, B.rd 2 rfl (asSl_v _), Option.bind_some, n.cols.len, condF (decide_eq_false (by omega)), kec (by simp; omega)]
 | succ k ih =>
  intro i hi
  have hc : i < t.cols.length := by omega
  have hbi : i < t.bins.length := by omega
  obtain ⟨r, s', e1, e2, -, n'⟩ := n.cols.sl hc
  obtain ⟨r2, e3, e4⟩ := n.bins.int hbi
  have hcol : colR t i = (!decide (t.bins[i] < 2) && !decide (t.bins[i] > 32) && decide (t.cols[i].length = t.ids.length) && !(t.cols[i].any fun x => decide (x < 0) || decide (x ≥ t.bins[i]))) := by
   simp [colR, List.getD, hbi, hc]
  rw [kgo hc, hcol]
  rw [kjh, B.rd 2 rfl (asSl_v _), Option.bind_some, n.cols.len, condT (decide_eq_true (by omega)), B.rd 1 rfl (asSl_v _), Option.bind_some, e3, Option.bind_some, e4, Option.bind_some]
  simp only [Option.bind_some, B.rd 0 rfl (asSl_v _), e1, e2, e3, e4]
  by_cases c1 : t.bins[i] < 2
  ·rw [condT (decide_eq_true c1), decide_eq_true c1]
   rfl
  rw [condF (decide_eq_false c1), decide_eq_false c1]
  by_cases c2 : t.bins[i] > 32
  ·rw [condT (decide_eq_true c2), decide_eq_true c2]
   rfl
  rw [condF (decide_eq_false c2), decide_eq_false c2, n'.len, n.ids.len]
  by_cases c3 : t.cols[i].length = t.ids.length
  ·rw [condF (by rw [decide_eq_true (by omega)]; rfl), decide_eq_true c3, show (0 : Int) = ((0 : Nat) : Int) from rfl, krf n B hc hl hb c3 hids t.ids.length 0 (by omega), List.drop_zero]
   cases (t.cols[i].any fun x => decide (x < 0) || decide (x ≥ t.bins[i])) with
   | true => rfl
   | false => rw [cond_false, ih (i + 1) (by omega)]; rfl
  ·rw [condT (by rw [decide_eq_false (by omega)]; rfl), decide_eq_false c3]
   rfl
theorem ki4 (n : TabAt h0 S s1 s2 s3 t) : Runs (go (.fn F.k9 [.agg [s1.v, s2.v, s3.v]]) h0) fun v h' => v = .bool (tabR t) ∧ Grow h0 h' := by
 rw [kle]
 refine Runs.new fun h4 B G => Runs.step (B.rd 0 rfl (asSl_v _)) ?_
 refine Runs.step (kno (n.ids.grow G)) ?_
 unfold tabR
 refine Runs.step (seen rfl) (Runs.cond (fun c => Runs.ret ⟨by rw [show idsR t.ids = false by simpa using c]; rfl, G⟩) fun c => ?_)
 have c : idsR t.ids = true := by simpa using c
 rw [c, Bool.true_and]
 refine Runs.step (B.rd 2 rfl (asSl_v _)) ?_
 rw [n.cols.len]
 refine Runs.cond (fun c2 => Runs.ret ⟨?_, G⟩) fun c2 => ?_
 ·rw [decide_eq_true_eq] at c2
  rw [decide_eq_true (show t.cols.length > 16 by omega)]
  rfl
 rw [decide_eq_false_iff_not] at c2
 rw [decide_eq_false (show ¬ t.cols.length > 16 by omega)]
 refine Runs.step (B.rd 1 rfl (asSl_v _)) (Runs.step (B.rd 2 rfl (asSl_v _)) ?_)
 rw [n.bins.len, n.cols.len]
 refine Runs.cond (fun c3 => Runs.ret ⟨?_, G⟩) fun c3 => ?_
 ·have : ¬ t.bins.length = t.cols.length := by simpa [Int.ofNat_inj] using c3
  rw [decide_eq_false this]
  rfl
 have c3 : t.bins.length = t.cols.length := by simpa [Int.ofNat_inj] using c3
 rw [decide_eq_true c3]
 have hids : t.ids.length ≤ 256 := by
  unfold idsR at c
  simp at c
  exact c.1
 have := kns (n.grow G) B (by omega) c3 hids t.cols.length 0 (by omega)
 exact ⟨_, _, this, rfl, G⟩
end
end Go.Ab

/- squeezed -/
set_option linter.unusedVariables false
namespace Go.Ab
theorem kib : ∀ (n w : Nat), w ≠ 0 → w < 2 ^ n → ∃ k m, k < n ∧ w = 2 ^ (k + 1) * m + 2 ^ k := by
 intro n
 induction n with
 | zero => intro w h0 h; omega
 | succ n ih =>
  intro w h0 h
  rcases Nat.mod_two_eq_zero_or_one w with e | e
  ·obtain ⟨k, m, hk, hm⟩ := ih (w / 2) (by omega) (by rw [Nat.pow_succ] at h; omega)
   refine ⟨k + 1, m, by omega, ?_⟩
   have : w = 2 * (w / 2) := by omega
   rw [this, hm, Nat.mul_add, ← Nat.mul_assoc, ← Nat.pow_succ', ← Nat.pow_succ']
  ·exact ⟨0, w / 2, by omega, by simp; omega⟩
theorem kdb {k m : Nat} (j : Nat) : (2 ^ (k + 1) * m + 2 ^ k).testBit j = if j < k then false else if j = k then true else m.testBit (j - (k + 1)) := by
 rw [Nat.testBit_two_pow_mul_add _ (Nat.pow_lt_pow_right (by decide) (Nat.lt_succ_self k)), Nat.testBit_two_pow]
 grind
theorem klb (k m : Nat) : (2 ^ (k + 1) * m + 2 ^ k) &&& (2 ^ (k + 1) * m + 2 ^ k - 1) = 2 ^ (k + 1) * m := by
 have hp : 0 < 2 ^ k := Nat.two_pow_pos k
 have e : 2 ^ (k + 1) * m + 2 ^ k - 1 = 2 ^ (k + 1) * m + (2 ^ k - 1) := by omega
 rw [e]
 apply Nat.eq_of_testBit_eq
 intro j
 rw [Nat.testBit_and, kdb, Nat.testBit_two_pow_mul_add _ (by rw [Nat.pow_succ]; omega), Nat.testBit_two_pow_sub_one, Nat.testBit_two_pow_mul]
 grind
theorem kpp {k m n : Nat} (h : 2 ^ (k + 1) * m + 2 ^ k < 2 ^ n) : (2 ^ (k + 1) * m + 2 ^ k) &&& (2 ^ n - (2 ^ (k + 1) * m + 2 ^ k)) = 2 ^ k := by
 have hk : k < n := by
  rcases Nat.lt_or_ge k n with h1 | h1
  ·exact h1
  ·have := Nat.pow_le_pow_right (n := 2) (by decide) h1
   omega
 obtain ⟨d, rfl⟩ : ∃ d, n = (k + 1) + d := ⟨n - (k + 1), by omega⟩
 have hm : m < 2 ^ d := by
  rcases Nat.lt_or_ge m (2 ^ d) with h1 | h1
  ·exact h1
  ·have := Nat.mul_le_mul_left (2 ^ (k + 1)) h1
   rw [← Nat.pow_add] at this
   exact absurd h (Nat.not_lt.2 (Nat.le_trans this (Nat.le_add_right _ _)))
 have e : 2 ^ (k + 1 + d) - (2 ^ (k + 1) * m + 2 ^ k) = 2 ^ (k + 1) * (2 ^ d - (m + 1)) + 2 ^ k := by
  have a : 2 ^ (k + 1 + d) = 2 ^ (k + 1) * 2 ^ d := Nat.pow_add ..
  have b : 2 ^ (k + 1) * 2 ^ d = 2 ^ (k + 1) * (2 ^ d - (m + 1)) + 2 ^ (k + 1) * (m + 1) := by rw [← Nat.mul_add]; congr 1; omega
  have c : 2 ^ (k + 1) * (m + 1) = 2 ^ (k + 1) * m + 2 ^ (k + 1) := by rw [Nat.mul_add, Nat.mul_one]
  have f : 2 ^ (k + 1) = 2 ^ k + 2 ^ k := by rw [Nat.pow_succ]; omega
  omega
 rw [e]
 apply Nat.eq_of_testBit_eq
 intro j
 rw [Nat.testBit_and, kdb, kdb, Nat.testBit_two_pow]
 by_cases h1 : j < k
 ·have : ¬ k = j := by omega
  simp [h1, this]
 ·by_cases h2 : j = k
  ·subst h2; simp
  ·have : ¬ k = j := by omega
   rw [if_neg h1, if_neg h2, if_neg h1, if_neg h2, Nat.testBit_two_pow_sub_succ hm]
   simp [this]
   intro a b
   exact a
def ones (w : Nat) : List Nat := (List.range 64).filter w.testBit
theorem koc {p q : Nat → Bool} {k : Nat} : ∀ {n : Nat}, k < n → p k = true → (∀ j, j < k → p j = false) → (∀ j, j < n → q j = (p j && decide (j ≠ k))) → (List.range n).filter p = k :: (List.range n).filter q := by
 intro n
 induction n with
 | zero => intro h; omega
 | succ n ih =>
  intro h hp hl hq
  rw [List.range_succ, List.filter_append, List.filter_append]
  by_cases e : k = n
  ·subst e
   have a : (List.range k).filter p = [] := List.filter_eq_nil_iff.2 fun j hj => by rw [hl j (List.mem_range.1 hj)]; simp
   have b : (List.range k).filter q = [] := List.filter_eq_nil_iff.2 fun j hj => by
    have := List.mem_range.1 hj
    rw [hq j (by omega), hl j this]; simp
   rw [a, b]
   have : q k = false := by rw [hq k (by omega)]; simp
   simp [hp, this]
  ·rw [ih (by omega) hp hl fun j hj => hq j (by omega)]
   have : q n = p n := by rw [hq n (by omega)]; simp; intro _; omega
   simp [this, List.filter_cons]
theorem kh2 : ones 0 = [] := by
 unfold ones
 exact List.filter_eq_nil_iff.2 fun j _ => by simp
theorem ki5 {k m : Nat} (hk : k < 64) : ones (2 ^ (k + 1) * m + 2 ^ k) = k :: ones (2 ^ (k + 1) * m) := by
 unfold ones
 refine koc hk (by rw [kdb]; simp) (fun j hj => by rw [kdb]; simp [hj]) fun j _ => ?_
 rw [kdb, Nat.testBit_two_pow_mul]
 by_cases h1 : j < k
 ·have : ¬ k + 1 ≤ j := by omega
  simp [h1, this]
 ·by_cases h2 : j = k
  ·subst h2
   have : ¬ j + 1 ≤ j := by omega
   simp [this]
  ·have : k + 1 ≤ j := by omega
   simp [h1, h2, this]
end Go.Ab

/- squeezed -/
set_option linter.unusedVariables false
set_option linter.unusedSimpArgs false
set_option maxRecDepth 10000
namespace Go.Ab
open Go.Proofs
theorem kfx {a b : Nat} (ha : a < 18446744073709551616) (hb : b < 18446744073709551616) : iand .u64 (a : Int) (b : Int) = ((a &&& b : Nat) : Int) := by
 unfold iand
 rw [show IntKind.bits .u64 = 64 from rfl, wrapU]
 have e1 : BitVec.ofInt 64 (a : Int) = BitVec.ofNat 64 a := rfl
 have e2 : BitVec.ofInt 64 (b : Int) = BitVec.ofNat 64 b := rfl
 rw [e1, e2, BitVec.toNat_and, BitVec.toNat_ofNat, BitVec.toNat_ofNat, Nat.mod_eq_of_lt (show a < 2 ^ 64 from ha), Nat.mod_eq_of_lt (show b < 2 ^ 64 from hb)]
 have : a &&& b ≤ a := Nat.and_le_left
 omega
theorem or_nat {a b : Nat} (ha : a < 18446744073709551616) (hb : b < 18446744073709551616) : ior .u64 (a : Int) (b : Int) = ((a ||| b : Nat) : Int) := by
 unfold ior
 rw [show IntKind.bits .u64 = 64 from rfl, wrapU]
 have e1 : BitVec.ofInt 64 (a : Int) = BitVec.ofNat 64 a := rfl
 have e2 : BitVec.ofInt 64 (b : Int) = BitVec.ofNat 64 b := rfl
 rw [e1, e2, BitVec.toNat_or, BitVec.toNat_ofNat, BitVec.toNat_ofNat, Nat.mod_eq_of_lt (show a < 2 ^ 64 from ha), Nat.mod_eq_of_lt (show b < 2 ^ 64 from hb)]
 have : a ||| b < 2 ^ 64 := Nat.or_lt_two_pow ha hb
 omega
theorem kkb (x n : Nat) : ishr .u64 (x : Int) (n : Int) = ((x / 2 ^ min n 64 : Nat) : Int) := by
 unfold ishr
 rw [Int.toNat_natCast, show IntKind.bits .u64 = 64 from rfl]
 have : ((2 : Int) ^ min n 64) = ((2 ^ min n 64 : Nat) : Int) := by simp
 rw [this, Int.fdiv_eq_ediv_of_nonneg _ (Int.natCast_nonneg _)]
 exact (Int.natCast_ediv _ _).symm
theorem ko4 {n : Nat} (hn : n < 64) : ishl .u64 1 (n : Int) = ((2 ^ n : Nat) : Int) := by
 unfold ishl
 rw [Int.toNat_natCast, show IntKind.bits .u64 = 64 from rfl, Nat.min_eq_left (by omega), wrapU]
 have h1 : (1 : Int) * (2 : Int) ^ n = ((2 ^ n : Nat) : Int) := by simp
 have h2 : 2 ^ n < 2 ^ 64 := Nat.pow_lt_pow_right (by decide) hn
 rw [h1]
 generalize 2 ^ n = q at *
 omega
def tzTab : List Nat := [0, 1, 56, 2, 57, 49, 28, 3, 61, 58, 42, 50, 38, 29, 17, 4, 62, 47, 59, 36, 45, 43, 51, 22, 53, 39, 33, 30, 24, 18, 12, 5, 63, 55, 48, 27, 60, 41, 37, 16, 46, 35, 44, 21, 52, 32, 23, 11, 54, 26, 40, 15, 34, 20, 31, 10, 25, 14, 19, 9, 13, 8, 7, 6]
theorem tz_idx : ∀ k : _root_.Fin 64, tzTab.getD ((2 ^ k.val * 285870213051353865 % 18446744073709551616) / 288230376151711744) 0 = k.val := by decide +kernel
def Tab (h : AH) : Prop := ∀ k : Nat, k < 64 → h.cell (.old ⟨Gl.math_bits_deBruijn64tab, k, none⟩) = some (.int .u8 ((tzTab.getD k 0 : Nat) : Int))
theorem Tab.md {h h' : AH} {T : Fp} (t : Tab h) (m : Md T h h') : Tab h' := fun k hk => by
 rw [← t k hk]
 simp only [AH.cell, m.old]
theorem Tab.grow {h h' : AH} (t : Tab h) (g : Grow h h') : Tab h' := t.md (g.md Fp.no)
theorem tz_is {h : AH} (T : Tab h) {k m : Nat} (hk : k < 64) (hw : 2 ^ (k + 1) * m + 2 ^ k < 18446744073709551616) : go (.fn F.kgq [.int .u64 ((2 ^ (k + 1) * m + 2 ^ k : Nat) : Int)]) h = some (.int .i64 (k : Int), h) := by
 rw [knf]
 have hp := Nat.two_pow_pos k
 have en := kpp (k := k) (m := m) (n := 64) hw
 generalize hW : 2 ^ (k + 1) * m + 2 ^ k = W at *
 have hW0 : 0 < W := by omega
 have e1 : IntKind.wrap .u64 (0 - (W : Int)) = ((18446744073709551616 - W : Nat) : Int) := by rw [wrapU]; omega
 rw [condF (decide_eq_false (by omega)), e1, kfx hw (by omega), en]
 have e2 : IntKind.wrap .u64 (((2 ^ k : Nat) : Int) * 285870213051353865) = ((2 ^ k * 285870213051353865 % 18446744073709551616 : Nat) : Int) := by
  rw [wrapU, show ((2 ^ k : Nat) : Int) * 285870213051353865 = ((2 ^ k * 285870213051353865 : Nat) : Int) from by simp]
  rfl
 have ht := tz_idx ⟨k, hk⟩
 dsimp only at ht
 rw [e2, show (58 : Int) = ((58 : Nat) : Int) from rfl, kkb, show 2 ^ min 58 64 = 288230376151711744 from rfl]
 generalize hJ : 2 ^ k * 285870213051353865 % 18446744073709551616 / 288230376151711744 = J at *
 have hJ64 : J < 64 := by
  rw [← hJ, Nat.div_lt_iff_lt_mul (by decide)]
  exact Nat.mod_lt _ (by decide)
 have ei : idx (some (Ref.old ⟨Gl.math_bits_deBruijn64tab, 0, none⟩)) 64 (J : Int) 1 = some (.old ⟨Gl.math_bits_deBruijn64tab, J, none⟩) := by
  rw [kc6 _ _ _ _ (by omega) (by omega), Int.toNat_natCast, Nat.mul_one]
  simp [Ref.add, Addr.add]
  exact fun h => h.symm
 rw [ei, Option.bind_some, T J hJ64, ht]
 show some (AV.int .i64 (IntKind.wrap .i64 (k : Int)), h) = _
 rw [wrap64 (by omega) (by omega)]
def wbit (w : List Nat) (i : Nat) : Bool := (w.getD (i / 64) 0).testBit (i % 64)
def btR (n : Int) (w : List Nat) : Bool := decide (0 ≤ n) && (decide (n ≤ 65536) && (decide (w.length = (n.toNat + 63) / 64) && (List.range (64 * w.length)).all fun i => decide (i < n.toNat) || !wbit w i))
theorem kpv {x k : Nat} : x < 2 ^ k ↔ ∀ i, k ≤ i → x.testBit i = false :=
 ⟨fun h i hi => Nat.testBit_lt_two_pow (Nat.lt_of_lt_of_le h (Nat.pow_le_pow_right (by decide) hi)), fun h => Nat.lt_pow_two_of_testBit x h⟩
section
variable {h0 : AH} {s : Sl} {w : List Nat} {n : Int}
theorem Nats.rdN {h : AH} (N : Nats h s w) {i : Nat} (hi : i < w.length) : ∃ r : Ref, idx s.ref s.len (i : Int) 1 = some r ∧ (h.cell r).bind (AV.asInt .u64) = some (w[i] : Int) := by
 obtain ⟨r, e1, e2⟩ := N.at hi
 exact ⟨r, e1, rdc e2 (kc _ _)⟩
theorem keo (N : Nats h0 s w) : Runs (go (.fn F.kcz [.agg [.int .i64 n, s.v]]) h0) fun v h' => v = .bool (btR n w) ∧ Grow h0 h' := by
 rw [km6]
 refine Runs.new fun h1 b1 g1 => Runs.step (b1.rd 0 rfl (kc _ _)) (Runs.cond (fun c => ?_) fun c => ?_)
 ·rw [decide_eq_true_eq] at c
  refine Runs.ret ⟨?_, g1⟩
  unfold btR
  rw [decide_eq_false (by omega)]; rfl
 rw [decide_eq_false_iff_not] at c
 refine Runs.step (b1.rd 0 rfl (kc _ _)) (Runs.cond (fun c2 => ?_) fun c2 => ?_)
 ·rw [decide_eq_true_eq] at c2
  refine Runs.ret ⟨?_, g1⟩
  unfold btR
  rw [decide_eq_false (show ¬ n ≤ 65536 by omega)]; simp
 rw [decide_eq_false_iff_not] at c2
 obtain ⟨z, rfl⟩ : ∃ z : Nat, n = (z : Int) := ⟨n.toNat, by omega⟩
 have N1 := N.grow g1
 refine Runs.step (b1.rd 1 rfl (asSl_v _)) (Runs.step (b1.rd 0 rfl (kc _ _)) ?_)
 rw [N.len, wrap64 (n := (z : Int) + 64) (by omega) (by omega), wrap64 (n := (z : Int) + 64 - 1) (by omega) (by omega), show (z : Int) + 64 - 1 = ((z + 63 : Nat) : Int) from by omega, show Int.tdiv ((z + 63 : Nat) : Int) 64 = (((z + 63) / 64 : Nat) : Int) from rfl, wrap64 (by omega) (by omega)]
 have hb : btR (z : Int) w = (decide (w.length = (z + 63) / 64) && (List.range (64 * w.length)).all fun i => decide (i < z) || !wbit w i) := by
  unfold btR
  rw [decide_eq_true (show (0 : Int) ≤ (z : Int) by omega), decide_eq_true (show (z : Int) ≤ 65536 by omega), Int.toNat_natCast]; rfl
 rw [hb]
 refine Runs.cond (fun c3 => ?_) fun c3 => ?_
 ·refine Runs.ret ⟨?_, g1⟩
  rw [Bool.not_eq_true', decide_eq_false_iff_not] at c3
  rw [decide_eq_false (by omega)]; rfl
 rw [Bool.not_eq_false', decide_eq_true_eq] at c3
 have hl : w.length = (z + 63) / 64 := by omega
 rw [decide_eq_true hl, Bool.true_and]
 refine Runs.step (b1.rd 0 rfl (kc _ _)) ?_
 rw [show Int.tmod (z : Int) 64 = ((z % 64 : Nat) : Int) from rfl]
 refine Runs.cond (fun c4 => ?_) fun c4 => ?_
 ·rw [decide_eq_true_eq] at c4
  refine Runs.ret ⟨congrArg AV.bool ?_, g1⟩
  symm
  rw [List.all_eq_true]
  intro i hi
  rw [List.mem_range] at hi
  rw [decide_eq_true (by omega)]; rfl
 rw [decide_eq_false_iff_not] at c4
 have hi : z / 64 < w.length := by omega
 obtain ⟨r, e1, e2⟩ := N1.rdN hi
 refine Runs.step (b1.rd 1 rfl (asSl_v _)) (Runs.step (b1.rd 1 rfl (asSl_v _)) ?_)
 rw [N.len, show ((w.length : Nat) : Int) - 1 = ((z / 64 : Nat) : Int) from by omega, wrap64 (by omega) (by omega)]
 rw [N.len] at e1
 refine Runs.step e1 (Runs.step e2 (Runs.step (b1.rd 0 rfl (kc _ _)) ?_))
 rw [show Int.tmod (z : Int) 64 = ((z % 64 : Nat) : Int) from rfl, kkb]
 refine Runs.ifF (decide_eq_false (by omega)) (Runs.ret ⟨congrArg AV.bool ?_, g1⟩)
 rw [Bool.eq_iff_iff, decide_eq_true_eq, List.all_eq_true, Nat.min_eq_left (by omega)]
 have hx : ((w[z / 64] / 2 ^ (z % 64) : Nat) : Int) = 0 ↔ w[z / 64] < 2 ^ (z % 64) := by
  have := Nat.div_eq_zero_iff (a := w[z / 64]) (b := 2 ^ (z % 64))
  have := Nat.two_pow_pos (z % 64)
  omega
 rw [hx, kpv]
 have hg : w.getD (z / 64) 0 = w[z / 64] := by simp [List.getD, hi]
 constructor
 ·intro H i hi'
  rw [List.mem_range] at hi'
  rcases Nat.lt_or_ge i z with h | h
  ·rw [decide_eq_true h]; rfl
  ·have : i / 64 = z / 64 := by omega
   unfold wbit
   rw [this, hg, H (i % 64) (by omega)]; simp
 ·intro H j hj
  rcases Nat.lt_or_ge j 64 with h | h
  ·have := H (64 * (z / 64) + j) (by rw [List.mem_range]; omega)
   unfold wbit at this
   rw [decide_eq_false (by omega), show (64 * (z / 64) + j) / 64 = z / 64 from by omega, show (64 * (z / 64) + j) % 64 = j from by omega, hg] at this
   simpa using this
  ·exact Nat.testBit_lt_two_pow (Nat.lt_of_lt_of_le (N.lt _ (List.getElem_mem hi)) (show 2 ^ 64 ≤ 2 ^ j from Nat.pow_le_pow_right (by decide) h))
end
end Go.Ab

/- squeezed -/
set_option linter.unusedVariables false
set_option linter.unusedSimpArgs false
set_option maxRecDepth 10000
namespace Go.Ab
open Go.Proofs
def zs (l : List Nat) : List Int := l.map fun x : Nat => (x : Int)
theorem zs_len (l : List Nat) : (zs l).length = l.length := List.length_map _
theorem zs_app (l m : List Nat) : zs (l ++ m) = zs l ++ zs m := List.map_append
theorem kf0 {n : Nat} (h : n ≤ 1000000) : growOk Pg n T.int 1 = true := by
 unfold growOk
 rw [kos, kk7]
 have h1 : n * 8 ≤ kp := by simp only [kp]; omega
 have h2 : n ≤ kp := by simp only [kp]; omega
 simp [h1, h2]
def btL (n : Int) (w : List Nat) : List Nat := if btR n w then (List.range n.toNat).filter (wbit w) else []
theorem btR_n {n : Int} {w : List Nat} (h : btR n w = true) : 0 ≤ n ∧ n ≤ 65536 ∧ w.length = (n.toNat + 63) / 64 ∧ ∀ i, i < 64 * w.length → n.toNat ≤ i → wbit w i = false := by
 unfold btR at h
 simp only [Bool.and_eq_true, decide_eq_true_eq, List.all_eq_true, List.mem_range, Bool.or_eq_true, Bool.not_eq_true'] at h
 exact ⟨h.1, h.2.1, h.2.2.1, fun i hi hn => (h.2.2.2 i hi).resolve_left (by omega)⟩
theorem btR_of {n : Int} {w : List Nat} (h1 : 0 ≤ n) (h2 : n ≤ 65536) (h3 : w.length = (n.toNat + 63) / 64) (h4 : ∀ i, i < 64 * w.length → n.toNat ≤ i → wbit w i = false) : btR n w = true := by
 unfold btR
 simp only [Bool.and_eq_true, decide_eq_true_eq, List.all_eq_true, List.mem_range, Bool.or_eq_true, Bool.not_eq_true']
 exact ⟨h1, h2, h3, fun i hi => (Nat.lt_or_ge i n.toNat).imp_right (h4 i hi)⟩
section
variable {h0 : AH} {s : Sl} {w : List Nat} {n : Int}
theorem kqe {i : Nat} : ∀ (k j : Nat), j + k = i % 64 → ∀ (x : Nat) (h : AH), x < 18446744073709551616 →
  go (.pt F.kb6 Td.ke2 [(1, .int .i64 (i : Int)), (5, .int .u64 (x : Int)), (6, .int .i64 (j : Int))]) h = some (.bool (x.testBit k), h) := by
 intro k
 induction k with
 | zero =>
  intro j hj x h hx
  rw [kh1, show Int.tmod (i : Int) 64 = ((i % 64 : Nat) : Int) from rfl, condF (decide_eq_false (by omega)), show Int.tmod (x : Int) 2 = ((x % 2 : Nat) : Int) from rfl]
  have : x.testBit 0 = decide (((x % 2 : Nat) : Int) = 1) := by
   rw [Nat.testBit_zero, decide_eq_decide]
   omega
  rw [this]
 | succ k ih =>
  intro j hj x h hx
  rw [kh1, show Int.tmod (i : Int) 64 = ((i % 64 : Nat) : Int) from rfl, condT (decide_eq_true (by omega)), show Int.tdiv (x : Int) 2 = ((x / 2 : Nat) : Int) from rfl, ki (by omega)]
  have : IntKind.wrap .u64 ((x / 2 : Nat) : Int) = ((x / 2 : Nat) : Int) := by rw [wrapU]; omega
  rw [this, ih (j + 1) (by omega) (x / 2) h (by omega), Nat.testBit_succ]
theorem kij (N : Nats h0 s w) {i : Nat} (hi : i / 64 < w.length) (hl : i < 4611686018427387904) : Runs (go (.fn F.kb6 [.agg [.int .i64 n, s.v], .int .i64 (i : Int)]) h0) fun v h' => v = .bool (wbit w i) ∧ Grow h0 h' := by
 rw [knw]
 refine Runs.new fun h1 b1 g1 => Runs.step (b1.rd 1 rfl (asSl_v _)) ?_
 obtain ⟨r, e1, e2⟩ := (N.grow g1).rdN hi
 rw [show Int.tdiv (i : Int) 64 = ((i / 64 : Nat) : Int) from rfl, wrap64 (by omega) (by omega)]
 refine Runs.step e1 (Runs.step e2 ?_)
 rw [show (0 : Int) = ((0 : Nat) : Int) from rfl, kqe (i % 64) 0 (by omega) _ _ (N.lt _ (List.getElem_mem hi))]
 refine Runs.ret ⟨?_, g1⟩
 unfold wbit
 simp [List.getD, hi]
theorem krq {b : Nat} (N : Nats h0 s w) (hl : w.length ≤ 2000) (hb : h0.has b [.int .i64 n, s.v] T.kf) : ∀ (k i : Nat), (64 * w.length) ≤ i + k → ∀ {h : AH}, Grow h0 h →
  Runs (go (.pt F.kb9 Td.kez [(1, .ptr (some (.new b 0))), (3, .int .i64 (i : Int))]) h) fun v h' => v = .bool (((List.range (64 * w.length)).drop i).all fun j => !wbit w j) ∧ Grow h0 h' := by
 intro k
 induction k with
 | zero =>
  intro i hi h g
  rw [kim]
  refine Runs.step ((g.has hb).rd 1 rfl (asSl_v _)) ?_
  rw [N.len, wrap64 (by omega) (by omega)]
  refine Runs.ifF (decide_eq_false (by omega)) (Runs.ret ⟨?_, g⟩)
  rw [kec (by simp; omega)]
 | succ k ih =>
  intro i hi h g
  rw [kim]
  refine Runs.step ((g.has hb).rd 1 rfl (asSl_v _)) ?_
  rw [N.len, wrap64 (by omega) (by omega)]
  refine Runs.cond (fun c => ?_) fun c => ?_
  ·rw [decide_eq_true_eq] at c
   refine Runs.step ((g.has hb).rd 0 rfl (kc _ _)) (Runs.step ((g.has hb).rd 1 rfl (asSl_v _)) ?_)
   refine (kij (N.grow g) (i := i) (by omega) (by omega)).call fun v h1 ⟨e, g1⟩ => ?_
   subst e
   refine Runs.step (seen rfl) ?_
   rw [kgo (by omega)]
   refine Runs.cond (fun c2 => Runs.ret ⟨by rw [c2]; rfl, g.trans g1⟩) fun c2 => ?_
   rw [ki (by omega), c2]
   exact ih (i + 1) (by omega) (g.trans g1)
  ·rw [decide_eq_false_iff_not] at c
   refine Runs.ret ⟨?_, g⟩
   rw [kec (by simp; omega)]
theorem kjx (N : Nats h0 s w) : Runs (go (.fn F.kb9 [.agg [.int .i64 n, s.v]]) h0) fun v h' => v = .bool (btR n w) ∧ Grow h0 h' := by
 rw [knd]
 refine Runs.new fun h1 b1 g1 => Runs.step (b1.rd 0 rfl (kc _ _)) (Runs.cond (fun c => ?_) fun c => ?_)
 ·rw [decide_eq_true_eq] at c
  refine Runs.ret ⟨?_, g1⟩
  unfold btR
  rw [decide_eq_false (by omega)]; rfl
 rw [decide_eq_false_iff_not] at c
 refine Runs.step (b1.rd 0 rfl (kc _ _)) (Runs.cond (fun c2 => ?_) fun c2 => ?_)
 ·rw [decide_eq_true_eq] at c2
  refine Runs.ret ⟨?_, g1⟩
  unfold btR
  rw [decide_eq_false (show ¬ n ≤ 65536 by omega)]; simp
 rw [decide_eq_false_iff_not] at c2
 obtain ⟨z, rfl⟩ : ∃ z : Nat, n = (z : Int) := ⟨n.toNat, by omega⟩
 have N1 := N.grow g1
 refine Runs.step (b1.rd 1 rfl (asSl_v _)) (Runs.step (b1.rd 0 rfl (kc _ _)) ?_)
 rw [N.len, wrap64 (n := (z : Int) + 63) (by omega) (by omega), show (z : Int) + 63 = ((z + 63 : Nat) : Int) from by omega, show Int.tdiv ((z + 63 : Nat) : Int) 64 = (((z + 63) / 64 : Nat) : Int) from rfl, wrap64 (by omega) (by omega)]
 have hb : btR (z : Int) w = (decide (w.length = (z + 63) / 64) && (List.range (64 * w.length)).all fun i => decide (i < z) || !wbit w i) := by
  unfold btR
  rw [decide_eq_true (show (0 : Int) ≤ (z : Int) by omega), decide_eq_true (show (z : Int) ≤ 65536 by omega), Int.toNat_natCast]; rfl
 rw [hb]
 refine Runs.cond (fun c3 => ?_) fun c3 => ?_
 ·refine Runs.ret ⟨?_, g1⟩
  rw [Bool.not_eq_true', decide_eq_false_iff_not] at c3
  rw [decide_eq_false (by omega)]; rfl
 rw [Bool.not_eq_false', decide_eq_true_eq] at c3
 have hl : w.length = (z + 63) / 64 := by omega
 rw [decide_eq_true hl, Bool.true_and]
 refine Runs.step (b1.rd 0 rfl (kc _ _)) ?_
 refine (krq N1 (by omega) b1 (64 * w.length) z (by omega) (Grow.refl h1)).imp fun v h' ⟨e, g⟩ => ⟨?_, g1.trans g⟩
 rw [e]
 congr 1
 rw [Bool.eq_iff_iff, List.all_eq_true, List.all_eq_true]
 constructor
 ·intro H i hi
  rw [List.mem_range] at hi
  rcases Nat.lt_or_ge i z with h | h
  ·rw [decide_eq_true h]; rfl
  ·rw [H i (by rw [List.mem_drop_iff_getElem]; exact ⟨i - z, by simp; omega, by simp; omega⟩)]; simp
 ·intro H i hi
  rw [List.mem_drop_iff_getElem] at hi
  obtain ⟨j, hj, e⟩ := hi
  simp at hj e
  have := H i (by rw [List.mem_range]; omega)
  rw [decide_eq_false (by omega)] at this
  simpa using this
theorem kpd {b : Nat} {z : Nat} (N : Nats h0 s w) (hR : btR (z : Int) w = true) (hb : h0.has b [.int .i64 (z : Int), s.v] T.kf) : ∀ (k i : Nat), i + k = z → ∀ {h : AH} {t : Sl} {j : Option Nat}, Grow h0 h → LeO h0.blks.size j →
  GF EI T.int h Fp.no t j (zs ((List.range i).filter (wbit w))) →
  Runs (go (.pt F.kb5 Td.kds [(1, .ptr (some (.new b 0))), (3, .bool true), (4, t.v), (5, .int .i64 (i : Int))]) h) fun v h' => Grow h0 h' ∧ ∃ (t' : Sl) (j' : Option Nat), v = t'.v ∧ LeO h0.blks.size j' ∧ GF EI T.int h' Fp.no t' j' (zs ((List.range z).filter (wbit w))) := by
 obtain ⟨_, hz, hl, _⟩ := btR_n hR
 intro k
 induction k with
 | zero =>
  intro i hi h t j g lj V
  obtain rfl : i = z := by omega
  rw [kf4]
  refine Runs.ifT rfl (Runs.step ((g.has hb).rd 0 rfl (kc _ _)) (Runs.ifF (decide_eq_false (by omega)) (Runs.ret ⟨g, t, j, rfl, lj, V⟩)))
 | succ k ih =>
  intro i hi h t j g lj V
  rw [kf4]
  refine Runs.ifT rfl (Runs.step ((g.has hb).rd 0 rfl (kc _ _)) (Runs.ifT (decide_eq_true (by omega)) ?_))
  refine Runs.step ((g.has hb).rd 0 rfl (kc _ _)) (Runs.step ((g.has hb).rd 1 rfl (asSl_v _)) ?_)
  refine (kij (N.grow g) (i := i) (by omega) (by omega)).call fun v h1 ⟨e, g1⟩ => ?_
  subst e
  refine Runs.step (seen rfl) (Runs.cond (fun c => ?_) fun c => ?_)
  ·refine Runs.new fun h2 b2 g2 => ?_
   refine Runs.step (kc9 b2 (by rw [kdg]; rfl)) ?_
   have V2 := (V.grow g1).grow g2
   have hlen : (zs ((List.range i).filter (wbit w))).length ≤ i := by
    rw [zs_len]
    exact Nat.le_trans (List.length_filter_le _ _) (by simp)
   obtain ⟨t', h3, e3, V3, u3⟩ := V2.push (T := Fp.no) (cs := [.int .i64 (i : Int)]) (x := (i : Int)) rfl NotO.no (kf0 (by omega))
   refine Runs.step e3 (Runs.step (asSl_v _) ?_)
   rw [ki (by omega)]
   have g3 : Grow h0 h3 := ((g.trans g1).trans g2).updo lj u3
   refine ih (i + 1) (by omega) g3 (t := t') (j := some h2.blks.size) (show _ ≤ _ from ((g.trans g1).trans g2).size) ?_
   have : zs ((List.range (i + 1)).filter (wbit w)) = zs ((List.range i).filter (wbit w)) ++ [(i : Int)] := by
    rw [List.range_succ, List.filter_append, zs_app]
    simp [c, zs]
   rw [this]
   exact V3.mono (fun j x => x.1.elim id id) NotO.no
  ·rw [ki (by omega)]
   refine ih (i + 1) (by omega) (g.trans g1) lj ?_
   have : (List.range (i + 1)).filter (wbit w) = (List.range i).filter (wbit w) := by
    rw [List.range_succ, List.filter_append]
    simp [c]
   rw [this]
   exact V.grow g1
theorem kra (N : Nats h0 s w) : Runs (go (.fn F.kb5 [.agg [.int .i64 n, s.v]]) h0) fun v h' => Grow h0 h' ∧ ∃ (t' : Sl) (j' : Option Nat), v = t'.v ∧ LeO h0.blks.size j' ∧ GF EI T.int h' Fp.no t' j' (zs (btL n w)) := by
 rw [knx]
 refine Runs.new fun h1 b1 g1 => Runs.step (b1.rd 0 rfl (kc _ _)) (Runs.step (b1.rd 1 rfl (asSl_v _)) ?_)
 refine (kjx (N.grow g1)).call fun v h2 ⟨e, g2⟩ => ?_
 subst e
 refine Runs.step (seen rfl) ?_
 cases hR : btR n w with
 | false =>
  rw [kf4]
  refine Runs.ifF rfl (Runs.ret ⟨g1.trans g2, _, none, rfl, trivial, ?_⟩)
  unfold btL
  rw [hR]
  exact GF.none _ _ _ _
 | true =>
  obtain ⟨h1n, _⟩ := btR_n hR
  obtain ⟨z, rfl⟩ : ∃ z : Nat, n = (z : Int) := ⟨n.toNat, by omega⟩
  refine (kpd (N.grow (g1.trans g2)) hR (g2.has b1) z 0 (by omega) (Grow.refl h2) (j := none) trivial (GF.none _ _ _ _)).imp fun v h' ⟨g, t', j', e, lj, V⟩ => ⟨(g1.trans g2).trans g, t', j', e, LeO.trans (g1.trans g2).size lj, ?_⟩
  unfold btL
  rw [hR]
  exact V
end
end Go.Ab

/- squeezed -/
set_option linter.unusedVariables false
set_option linter.unusedSimpArgs false
set_option maxRecDepth 10000
namespace Go.Ab
open Go.Proofs
theorem krs {w : List Nat} {i j : Nat} (hi : i / 64 < w.length) : wbit (w.set (i / 64) (w[i / 64] ||| 2 ^ (i % 64))) j = (decide (j = i) || wbit w j) := by
 unfold wbit
 by_cases h : j / 64 = i / 64
 ·rw [h]
  have : (w.set (i / 64) (w[i / 64] ||| 2 ^ (i % 64))).getD (i / 64) 0 = w[i / 64] ||| 2 ^ (i % 64) := by simp [List.getD, hi]
  rw [this, Nat.testBit_or, Nat.testBit_two_pow]
  have h2 : w.getD (i / 64) 0 = w[i / 64] := by simp [List.getD, hi]
  rw [h2, Bool.or_comm]
  congr 1
  rw [decide_eq_decide]
  omega
 ·have h1 : (w.set (i / 64) (w[i / 64] ||| 2 ^ (i % 64))).getD (j / 64) 0 = w.getD (j / 64) 0 := by
   simp only [List.getD]
   rw [List.getElem?_set_ne (by omega)]
  rw [h1]
  have : ¬ j = i := fun e => h (by rw [e])
  simp [this]
theorem ko9 (n i : Nat) : wbit (List.replicate n 0) i = false := by
 unfold wbit
 have : (List.replicate n 0).getD (i / 64) 0 = 0 := by
  simp only [List.getD, List.getElem?_replicate]
  split <;> rfl
 rw [this]
 exact Nat.zero_testBit _
section
variable {h0 : AH}
theorem khu {n : Nat} (hn : n ≤ 65536) : Runs (go (.fn F.keh [.int .i64 (n : Int)]) h0) fun v h' => Grow h0 h' ∧ ∃ (s : Sl) (i : Nat), v = .tup [.agg [.int .i64 (n : Int), s.v], .int .i64 0] ∧ h0.blks.size ≤ i ∧ Vec h' s i (List.replicate ((n + 63) / 64) 0) := by
 rw [krc]
 refine Runs.new fun h1 b1 g1 => Runs.ifF (decide_eq_false (by omega)) (Runs.ifF (decide_eq_false (by omega)) ?_)
 rw [wrap64 (n := (n : Int) + 64) (by omega) (by omega), wrap64 (n := (n : Int) + 64 - 1) (by omega) (by omega), show (n : Int) + 64 - 1 = ((n + 63 : Nat) : Int) from by omega, show Int.tdiv ((n + 63 : Nat) : Int) 64 = (((n + 63) / 64 : Nat) : Int) from rfl, wrap64 (by omega) (by omega)]
 refine Runs.mk (kmn (by omega)) kn2 fun s h2 V g2 => ?_
 refine Runs.puts (g2.has b1) rfl fun h3 b3 u3 => ?_
 refine Runs.step (b3.rd 0 rfl (kc _ _)) (Runs.step (b3.rd 1 rfl (asSl_v _)) (Runs.ret ⟨(g1.trans g2).updr (Nat.le_refl _) u3, s, h1.blks.size, rfl, g1.size, V.updr (by have := b1.lt; omega) u3⟩))
end
end Go.Ab

/- squeezed -/
set_option linter.unusedVariables false
set_option linter.unusedSimpArgs false
set_option maxRecDepth 10000
namespace Go.Ab
open Go.Proofs
theorem kow {w : List Nat} {i : Nat} (hi : i < w.length) : (List.range (64 * (i + 1))).filter (wbit w) = (List.range (64 * i)).filter (wbit w) ++ (ones w[i]).map (fun k => 64 * i + k) := by
 rw [Nat.mul_add, Nat.mul_one, List.range_add, List.filter_append, List.filter_map]
 congr 1
 unfold ones
 congr 1
 apply List.filter_congr
 intro k hk
 rw [List.mem_range] at hk
 simp only [Function.comp, wbit]
 rw [show (64 * i + k) / 64 = i from by omega, show (64 * i + k) % 64 = k from by omega]
 simp [List.getD, hi]
section
variable {w : List Nat} {s : Sl} {l : Nat}
theorem ko3 {Inv : List Nat → AH → Prop} (hT : ∀ d h, Inv d h → Tab h) (hround : ∀ d i h, Inv d h → i < 64 * w.length → d.length < 64 * w.length → Runs (go (.round l [.int .i64 (i : Int)]) h) fun v h' => v = .bool true ∧ Inv (d ++ [i]) h') (hl : w.length ≤ 2000) {i : Nat} (hi : i < w.length) {P : AV → AH → Prop} :
  ∀ (n x : Nat), x < 18446744073709551616 → (ones x).length = n → ∀ (d : List Nat) (h : AH), d.length + n ≤ 64 * w.length → Inv d h → (∀ h', Inv (d ++ (ones x).map (fun k => 64 * i + k)) h' → Runs (go (.pt F.kx Td.kd0 [(0, .func (.yield l) [] []), (6, s.v), (7, .int .i64 (w.length : Int)), (8, .int .i64 ((i + 1 : Nat) : Int))]) h') P) →
  Runs (go (.pt F.kx Td.kd5 [(0, .func (.yield l) [] []), (3, .int .i64 (i : Int)), (4, .int .u64 (x : Int)), (6, s.v), (7, .int .i64 (w.length : Int)), (8, .int .i64 (i : Int))]) h) P := by
 intro n
 induction n with
 | zero =>
  intro x hx hn d h hd I H
  have hx0 : x = 0 := by
   rcases Nat.eq_zero_or_pos x with h0 | h0
   ·exact h0
   ·obtain ⟨k, m, hk, rfl⟩ := kib 64 x (by omega) hx
    rw [ki5 hk] at hn
    simp at hn
  subst hx0
  rw [kix]
  refine Runs.ifF (by rfl) ?_
  rw [ki (by omega)]
  rw [kh2] at H
  exact H h (by simpa using I)
 | succ n ih =>
  intro x hx hn d h hd I H
  have hx0 : x ≠ 0 := fun e => by subst e; rw [kh2] at hn; simp at hn
  obtain ⟨k, m, hk, hxe⟩ := kib 64 x hx0 hx
  subst hxe
  rw [ki5 hk] at hn H
  rw [kix]
  refine Runs.ifT (by rw [decide_eq_false (by omega)]; rfl) ?_
  refine Runs.step (tz_is (hT _ _ I) hk hx) (Runs.step (seen rfl) ?_)
  rw [wrap64 (n := 64 * (i : Int)) (by omega) (by omega), wrap64 (by omega) (by omega), show 64 * (i : Int) + (k : Int) = ((64 * i + k : Nat) : Int) from by omega]
  refine (hround d (64 * i + k) h I (by omega) (by omega)).call fun v h1 ⟨e, I1⟩ => ?_
  subst e
  refine Runs.step (seen rfl) (Runs.ifF rfl ?_)
  have e1 : IntKind.wrap .u64 (((2 ^ (k + 1) * m + 2 ^ k : Nat) : Int) - 1) = ((2 ^ (k + 1) * m + 2 ^ k - 1 : Nat) : Int) := by
   have := Nat.two_pow_pos k
   generalize 2 ^ (k + 1) * m + 2 ^ k = W at *
   rw [wrapU]
   omega
  have hle : 2 ^ (k + 1) * m < 18446744073709551616 := by
   have := Nat.two_pow_pos k
   exact Nat.lt_of_le_of_lt (Nat.le_add_right _ _) hx
  dsimp only
  rw [e1, kfx hx (by omega), klb]
  refine ih _ hle (by simpa using hn) (d ++ [64 * i + k]) h1 (by rw [List.length_append, List.length_singleton]; omega) I1 fun h' I' => H h' ?_
  simpa using I'
theorem klg {Inv : List Nat → AH → Prop} (hT : ∀ d h, Inv d h → Tab h) (hN : ∀ d h, Inv d h → Nats h s w) (hround : ∀ d i h, Inv d h → i < 64 * w.length → d.length < 64 * w.length → Runs (go (.round l [.int .i64 (i : Int)]) h) fun v h' => v = .bool true ∧ Inv (d ++ [i]) h') (hl : w.length ≤ 2000) :
  ∀ (k i : Nat), i + k = w.length → ∀ h, Inv ((List.range (64 * i)).filter (wbit w)) h →
  Runs (go (.pt F.kx Td.kd0 [(0, .func (.yield l) [] []), (6, s.v), (7, .int .i64 (w.length : Int)), (8, .int .i64 (i : Int))]) h) fun v h' => v = .tup [] ∧ Inv ((List.range (64 * w.length)).filter (wbit w)) h' := by
 intro k
 induction k with
 | zero =>
  intro i hi h I
  obtain rfl : i = w.length := by omega
  rw [khx]
  exact Runs.ifF (decide_eq_false (by omega)) (Runs.ret ⟨rfl, I⟩)
 | succ k ih =>
  intro i hi h I
  have hlt : i < w.length := by omega
  obtain ⟨r, e1, e2⟩ := (hN _ _ I).rdN hlt
  rw [khx]
  refine Runs.ifT (decide_eq_true (by omega)) (Runs.step e1 (Runs.step e2 ?_))
  refine ko3 hT hround hl hlt _ _ ((hN _ _ I).lt _ (List.getElem_mem hlt)) rfl _ h ?_ I fun h' I' => ?_
  ·have h1 := List.length_filter_le (wbit w) (List.range (64 * i))
   have h2 := List.length_filter_le w[i].testBit (List.range 64)
   rw [List.length_range] at h1 h2
   show _ + ((List.range 64).filter _).length ≤ _
   omega
  rw [← kow hlt] at I'
  exact ih (i + 1) (by omega) h' I'
end
end Go.Ab

/- squeezed -/
set_option linter.unusedVariables false
set_option linter.unusedSimpArgs false
set_option maxRecDepth 10000
namespace Go.Ab
open Go.Proofs
noncomputable def aNote (st : LoopState) (b : Nat) (g : AV) : ABlk := kbr Fx.kgc F.kbv 0 st none [(0, (⟨none, 0, .is 0⟩ : Sl).v), (1, g), (2, .ptr (some (.new b 0))), (4, (⟨none, 0, .is 0⟩ : Sl).v), (6, g)]
structure Coll (h0 : AH) (b l : Nat) (g : AV) (d : List Nat) (h : AH) : Prop where
 grow : Grow h0 h
 note : h.blks[l]? = some (aNote .ready b g)
 out : ∃ (t : Sl) (j : Option Nat), h.has b [t.v] T.k5 ∧ LeO (l + 1) j ∧ GF EI T.int h Fp.no t j (zs d)
theorem kbt {m n : Nat} (h : m < n) : ∀ {j : Option Nat}, LeO n j → ∀ k, j = some k → k ≠ m
 | some x, l, k, e => by cases e; have : n ≤ x := l; omega
theorem kri {h0 h : AH} {b l : Nat} {g : AV} {d : List Nat} (hb : h0.blks.size ≤ b) (hbl : b < l) (I : Coll h0 b l g d h) (hd : d.length < 900000) (i : Nat) : Runs (go (.round l [.int .i64 (i : Int)]) h) fun v h' => v = .bool true ∧ Coll h0 b l g (d ++ [i]) h' := by
 obtain ⟨G, hn, t, j, B, lj, V⟩ := I
 have hl : l < h.blks.size := (Array.getElem?_eq_some_iff.1 hn).1
 rw [kn5 l none _ _ _ _ _ _ _ hn, kf6 (h := h) hn, Option.bind_some]
 generalize hq : h.setBlk l _ = h1
 have u1 : Upd h h1 l := by rw [← hq]; exact AH.setBlk_Upd _
 have n1 : h1.blks[l]? = some (aNote .busy b g) := by rw [← hq]; exact AH.setBlk_get hl
 have B1 : h1.has b [t.v] T.k5 := B.updr (by omega) u1
 have V1 : GF EI T.int h1 Fp.no t j (zs d) := V.upd u1 Fp.not_no (kbt (Nat.lt_succ_self l) lj)
 refine Runs.step (B1.rd0 rfl (asSl_v _)) ?_
 refine Runs.new fun h2 b2 g2 => ?_
 refine Runs.step (kc9 b2 (by rw [kdg]; rfl)) ?_
 obtain ⟨t', h3, e3, V3, u3⟩ := (V1.grow g2).push (T := Fp.no) (cs := [.int .i64 (i : Int)]) (x := (i : Int)) rfl NotO.no (kf0 (by rw [zs_len]; omega))
 refine Runs.step e3 (Runs.step (asSl_v _) ?_)
 have m3 : Md (Fp.opt j) h2 h3 := u3.md fun k e => e
 have no : ∀ {m : Nat}, m ≤ l → ¬ Fp.opt j m := fun hm e => kbt (Nat.lt_succ_of_le hm) lj _ e rfl
 have B3 : h3.has b [t.v] T.k5 := m3.has (g2.has B1) (no (by omega))
 have n3 : h3.blks[l]? = some (aNote .busy b g) := m3.get ((g2.blk l (Array.getElem?_eq_some_iff.1 n1).1).trans n1) (no (Nat.le_refl _))
 refine Runs.puts B3 rfl fun h4 B4 u4 => ?_
 have n4 : h4.blks[l]? = some (aNote .busy b g) := (u4.blk l (by omega) (Array.getElem?_eq_some_iff.1 n3).1).trans n3
 rw [kf5 n4]
 have u5 : Upd h4 (h4.setBlk l (aNote .ready b g)) l := AH.setBlk_Upd _
 have hs : h.blks.size ≤ h2.blks.size := Nat.le_trans u1.size g2.size
 refine Runs.ret ⟨rfl, ?_, AH.setBlk_get (Array.getElem?_eq_some_iff.1 n4).1, t', some h2.blks.size, B4.updr (by omega) u5, show l + 1 ≤ h2.blks.size by omega, ?_⟩
 ·have G2 : Grow h0 h2 := (G.updr (by omega) u1).trans g2
  have G3 : Grow h0 h3 := G2.updo (LeO.trans (by omega) lj) u3
  exact (G3.updr hb u4).updr (by omega) u5
 ·rw [zs_app]
  have V4 : GF EI T.int h3 Fp.no t' (some h2.blks.size) (zs d ++ [(i : Int)]) := V3.mono (fun j x => x.1.elim id id) NotO.no
  have := (V4.upd u4 Fp.not_no fun k e => by cases e; omega).upd u5 Fp.not_no fun k e => by cases e; omega
  exact this
section
variable {h0 : AH} {s : Sl} {w : List Nat} {n : Int}
theorem kn7 (T0 : Tab h0) (N : Nats h0 s w) : Runs (go (.fn F.kfd [.agg [.int .i64 n, s.v]]) h0) fun v h' => Grow h0 h' ∧ ∃ (t' : Sl) (j' : Option Nat), v = t'.v ∧ LeO h0.blks.size j' ∧ GF EI T.int h' Fp.no t' j' (zs (btL n w)) := by
 rw [kpt]
 refine Runs.new fun h1 b1 g1 => Runs.step (b1.rd 0 rfl (kc _ _)) (Runs.step (b1.rd 1 rfl (asSl_v _)) ?_)
 refine (keo (N.grow g1)).call fun v h2 ⟨e, g2⟩ => ?_
 subst e
 refine Runs.step (seen rfl) ?_
 cases hR : btR n w with
 | false =>
  refine Runs.ifT rfl (Runs.ret ⟨g1.trans g2, _, none, rfl, trivial, ?_⟩)
  unfold btL
  rw [hR]
  exact GF.none _ _ _ _
 | true =>
  obtain ⟨hn0, hn1, hlen, hov⟩ := btR_n hR
  refine Runs.ifF rfl (Runs.step ((g2.has b1).rd 0 rfl (kc _ _)) (Runs.step ((g2.has b1).rd 1 rfl (asSl_v _)) ?_))
  have k0 : Runs (go (.fn F.kg7 [.agg [.int .i64 n, s.v]]) h2) fun v h' => v = .func (.func F.kx) [] [.ptr (some (.new h2.blks.size 0))] ∧ h'.has h2.blks.size [.int .i64 n, s.v] T.kf ∧ Grow h2 h' := by
   rw [kqc]
   exact Runs.new fun h3 b3 g3 => Runs.ret ⟨rfl, b3, g3⟩
  refine k0.call fun v h3 ⟨e, b3, g3⟩ => ?_
  subst e
  have G3 : Grow h0 h3 := (g1.trans g2).trans g3
  have key : Runs (go (.fn F.kbv [(⟨none, 0, .is 0⟩ : Sl).v, .func (.func F.kx) [] [.ptr (some (.new h2.blks.size 0))]]) h3) fun v h' => Grow h3 h' ∧ ∃ (t' : Sl) (j' : Option Nat), v = t'.v ∧ LeO h3.blks.size j' ∧ GF EI T.int h' Fp.no t' j' (zs (btL n w)) := by
   rw [kpo]
   refine Runs.new fun h4 b4 g4 => ?_
   rw [kpk, kgr]
   refine Runs.newM fun h5 hb g5 => ?_
   rw [kof]
   generalize hgv : (AV.func (.func F.kx) [] [AV.ptr (some (Ref.new h2.blks.size 0))]) = gv at hb
   have s4 : h3.blks.size < h4.blks.size := b4.lt
   have b3' : h5.has h2.blks.size [.int .i64 n, s.v] T.kf := g5.has (g4.has b3)
   have I0 : Coll h3 h3.blks.size h4.blks.size gv [] h5 := ⟨g4.trans g5, hb, _, none, g5.has b4, trivial, GF.none _ _ _ _⟩
   have N3 : Nats h3 s w := N.grow G3
   have T3 : Tab h3 := T0.grow G3
   have k1 : Runs (go (.fn F.kx [.func (.yield h4.blks.size) [] [], .ptr (some (.new h2.blks.size 0))]) h5) fun v h' => v = .tup [] ∧ Coll h3 h3.blks.size h4.blks.size gv ((List.range (64 * w.length)).filter (wbit w)) h' := by
    rw [kq4]
    refine Runs.step (b3'.rd 1 rfl (asSl_v _)) ?_
    rw [N.len]
    exact klg (Inv := Coll h3 h3.blks.size h4.blks.size gv) (fun d h I => T3.grow I.grow) (fun d h I => N3.grow I.grow) (fun d i h I hi hd => kri (Nat.le_refl _) s4 I (by omega) i) (by omega) w.length 0 (by omega) h5 (by simpa using I0)
   refine k1.call fun v h6 ⟨e, I⟩ => ?_
   obtain ⟨G, hn, t, j, B, lj, V⟩ := I
   rw [kgj hn, Option.bind_some]
   rw [kk8]
   have hl := (Array.getElem?_eq_some_iff.1 hn).1
   have u6 : Upd h6 (h6.setBlk h4.blks.size .dead) h4.blks.size := AH.setBlk_Upd _
   refine Runs.step ((B.updr (by omega) u6).rd0 rfl (asSl_v _)) (Runs.ret ⟨G.updr (by omega) u6, t, j, rfl, LeO.trans (by omega) lj, ?_⟩)
   have e : btL n w = (List.range (64 * w.length)).filter (wbit w) := by
    unfold btL
    rw [hR, if_pos rfl]
    obtain ⟨z, rfl⟩ : ∃ z : Nat, n = (z : Int) := ⟨n.toNat, by omega⟩
    rw [Int.toNat_natCast] at hlen hov ⊢
    obtain ⟨q, hq⟩ : ∃ q, 64 * w.length = z + q := ⟨64 * w.length - z, by omega⟩
    rw [hq, List.range_add, List.filter_append]
    have : ((List.range q).map (z + ·)).filter (wbit w) = [] := List.filter_eq_nil_iff.2 fun x hx => by
     rw [List.mem_map] at hx
     obtain ⟨y, hy, rfl⟩ := hx
     rw [List.mem_range] at hy
     rw [hov (z + y) (by omega) (by omega)]
     simp
    rw [this, List.append_nil]
   rw [e]
   exact V.upd u6 Fp.not_no (kbt (Nat.lt_succ_self _) lj)
  have k2 : Runs (go (.fn F.kgd [.func (.func F.kx) [] [.ptr (some (.new h2.blks.size 0))]]) h3) fun v h' => Grow h3 h' ∧ ∃ (t' : Sl) (j' : Option Nat), v = t'.v ∧ LeO h3.blks.size j' ∧ GF EI T.int h' Fp.no t' j' (zs (btL n w)) := by
   rw [kmi]
   refine key.call fun v h' ⟨g, t', j', e, lj, V⟩ => ?_
   subst e
   exact Runs.step (seen (asSl_v _)) (Runs.ret ⟨g, t', j', rfl, lj, V⟩)
  refine k2.call fun v h' ⟨g, t', j', e, lj, V⟩ => ?_
  subst e
  exact Runs.step (seen (asSl_v _)) (Runs.ret ⟨G3.trans g, t', j', rfl, LeO.trans G3.size lj, V⟩)
end
end Go.Ab

/- squeezed -/
set_option linter.unusedVariables false
set_option linter.unusedSimpArgs false
set_option maxRecDepth 10000
namespace Go.Ab
open Go.Proofs
theorem ko5 {w : List Nat} {i x : Nat} (hi : i < w.length) (j : Nat) : wbit (w.set i x) j = if j / 64 = i then x.testBit (j % 64) else wbit w j := by
 unfold wbit
 split
 ·rename_i h
  rw [h]
  have : (w.set i x).getD i 0 = x := by simp [List.getD, hi]
  rw [this]
 ·rename_i h
  have : (w.set i x).getD (j / 64) 0 = w.getD (j / 64) 0 := by
   simp only [List.getD]
   rw [List.getElem?_set_ne (by omega)]
  rw [this]
theorem kie {w : List Nat} {j : Nat} (h : w.length ≤ j / 64) : wbit w j = false := by
 unfold wbit
 have : w.getD (j / 64) 0 = 0 := by simp [List.getD, h]
 rw [this]
 exact Nat.zero_testBit _
section
variable {h0 : AH} {S : Fp} {s : Sl}
theorem kli {xs : List Int} (n : Sq EI h0 S s xs) {b : Nat} {z : Int} {e : TypeId} (hb : h0.has b [.int .i64 z] e) : Runs (go (.fn F.kbi [s.v, .func (.func F.kbl) [] [.ptr (some (.new b 0))]]) h0) fun v h' => v = .bool (xs.any fun x => decide (x < 0) || decide (x ≥ z)) ∧ Grow h0 h' := by
 rw [kly]
 refine Runs.contains (xs := xs) ?_
 rw [kkz, n.len]
 refine keg (n := xs.length) (G := fun y h => go (.pt F.kq Td.kz [(0, s.v), (1, .func (.func F.kbl) [] [.ptr (some (.new b 0))]), (7, .int .i64 (xs.length : Int)), (8, .int .i64 y)]) h) (fun i h P hi g hT hF => ?_) (fun h g => ?_) xs.length 0 (by omega) (Grow.refl h0) (fun j hj => by omega)
 ·obtain ⟨r, e1, e2⟩ := (n.grow g).int hi
  rw [List.getElem?_eq_getElem hi] at hT hF
  simp only [Option.any_some] at hT hF
  show Runs (go _ _) _
  rw [kj0]
  refine Runs.ifT (decide_eq_true (by omega)) (Runs.step e1 (Runs.step e2 ?_))
  have key : Runs (go (.fn F.kbl [.int .i64 xs[i], .ptr (some (.new b 0))]) h) fun v h' => v = .bool (decide (xs[i] < 0) || decide (xs[i] ≥ z)) ∧ h' = h := by
   rw [klh]
   cases decide (xs[i] < 0)
   ·refine Runs.ifF rfl (Runs.step rfl (Runs.step ((g.has hb).rd0 rfl (kc _ _)) ?_))
    exact Runs.ret ⟨rfl, rfl⟩
   ·exact Runs.ret ⟨rfl, rfl⟩
  refine key.call fun v h' ⟨ev, eh⟩ => ?_
  subst ev; subst eh
  refine Runs.step (seen rfl) ?_
  rw [ki (by have := n.short; omega)]
  exact Runs.cond (fun c => Runs.ret (hT _ g c)) fun c => hF _ g c
 ·rw [kj0, condF (decide_eq_false (by omega))]
theorem kng {l : List Nat} {n : Nat} (q : Sq EI h0 S s (zs l)) (hl : ∀ x ∈ l, x < n) (hn : n ≤ 65536) {b c i : Nat} {t : Sl} (hb : h0.blks.size ≤ b) (hci : c ≠ i) (hbc : b ≠ c) (hbi : b ≠ i) (hi : h0.blks.size ≤ i) : ∀ (k j : Nat), j + k = l.length → ∀ (h : AH) (w : List Nat), Grow h0 h → (∃ cs : List AV, cs.length = 2 ∧ h.has b cs T.kf) → h.has c [.int .i64 (n : Int), t.v] T.kf → Vec h t i w → w.length = (n + 63) / 64 → (∀ m, wbit w m = decide (m ∈ l.take j)) →
  Runs (go (.pt F.kcs Td.kfh [(4, .ptr (some (.new b 0))), (6, .ptr (some (.new c 0))), (23, s.v), (24, .int .i64 (l.length : Int)), (25, .int .i64 (j : Int))]) h) fun v h' => Grow h0 h' ∧ ∃ (t : Sl) (w : List Nat), v = .tup [.agg [.int .i64 (n : Int), t.v], .int .i64 0] ∧ Nats h' t w ∧ w.length = (n + 63) / 64 ∧ Own h0 t ∧ ∀ m, wbit w m = decide (m ∈ l) := by
 intro k
 induction k with
 | zero =>
  intro j hj h w g ⟨cs, hcs, B⟩ C V hw hm
  obtain rfl : j = l.length := by omega
  rw [kja]
  refine Runs.ifF (decide_eq_false (by omega)) (Runs.step (C.rd 0 rfl (kc _ _)) (Runs.step (C.rd 1 rfl (asSl_v _)) ?_))
  refine Runs.puts B (by rw [hcs]; rfl) fun h1 B1 u1 => ?_
  refine Runs.step (B1.rd 0 rfl (kc _ _)) (Runs.step (B1.rd 1 rfl (asSl_v _)) (Runs.ret ⟨g.updr hb u1, t, w, rfl, (V.updr (fun e => hbi e.symm) u1).nats, hw, V.own hi, fun m => ?_⟩))
  rw [hm, List.take_length]
 | succ k ih =>
  intro j hj h w g hB C V hw hm
  have hj' : j < (zs l).length := by rw [zs_len]; omega
  obtain ⟨r, e1, e2⟩ := (q.grow g).int hj'
  have hx : (zs l)[j] = ((l[j]'(by omega) : Nat) : Int) := by simp [zs]
  have hjl : j < l.length := by omega
  have hxn : l[j] < n := hl _ (List.getElem_mem hjl)
  have hq : l[j] / 64 < w.length := by omega
  rw [kja]
  refine Runs.ifT (decide_eq_true (by omega)) (Runs.step e1 (Runs.step e2 ?_))
  rw [hx]
  refine Runs.step (C.rd 1 rfl (asSl_v _)) ?_
  rw [show Int.tdiv ((l[j] : Nat) : Int) 64 = ((l[j] / 64 : Nat) : Int) from rfl, wrap64 (by omega) (by omega), show Int.tmod ((l[j] : Nat) : Int) 64 = ((l[j] % 64 : Nat) : Int) from rfl, V.len]
  refine Runs.step (V.idx rfl (kc3 hq)) (Runs.step (V.rd rfl (kc3 hq) (kc _ _)) (Runs.ifF (decide_eq_false (by omega)) (Runs.step (V.idx rfl (kc3 hq)) ?_)))
  have hwl : w[l[j] / 64] < 18446744073709551616 := V.lt _ (List.getElem_mem hq)
  have hpl : 2 ^ (l[j] % 64) < 2 ^ 64 := Nat.pow_lt_pow_right (by decide) (by omega)
  have hgd : w.getD (l[j] / 64) 0 = w[l[j] / 64] := by simp [List.getD, hq]
  rw [hgd, ko4 (by omega), or_nat hwl hpl]
  refine Runs.vput V rfl (kc3 hq) (kkc (Nat.or_lt_two_pow (n := 64) hwl hpl)) fun h1 V1 u1 => ?_
  rw [ki (by have := q.short; rw [zs_len] at this; omega)]
  obtain ⟨cs, hcs, B⟩ := hB
  refine ih (j + 1) (by omega) h1 _ (g.updr hi u1) ⟨cs, hcs, B.updr hbi u1⟩ (C.updr hci u1) V1 (by rw [List.length_set]; exact hw) fun m => ?_
  rw [krs hq, hm, List.take_succ_eq_append_getElem hjl, Bool.eq_iff_iff]
  simp only [Bool.or_eq_true, decide_eq_true_eq, List.mem_append, List.mem_singleton]
  exact Or.comm
theorem knb {l : List Nat} {n : Nat} (q : Sq EI h0 S s (zs l)) (hl : ∀ x ∈ l, x < n) (hn : n ≤ 65536) : Runs (go (.fn F.kcs [.int .i64 (n : Int), s.v]) h0) fun v h' => Grow h0 h' ∧ ∃ (t : Sl) (w : List Nat), v = .tup [.agg [.int .i64 (n : Int), t.v], .int .i64 0] ∧ Nats h' t w ∧ w.length = (n + 63) / 64 ∧ Own h0 t ∧ ∀ m, wbit w m = decide (m ∈ l) := by
 rw [kl0]
 refine Runs.new fun h1 b1 g1 => Runs.new fun h2 b2 g2 => Runs.step ((g2.has b1).rd0 rfl (kc _ _)) ?_
 refine (khu hn).call fun v h3 ⟨g3, t, i, e, hi, V⟩ => ?_
 subst e
 refine Runs.step rfl (Runs.step rfl (Runs.ifT rfl (Runs.step rfl (Runs.step (seenAt rfl (asSl_v _)) (Runs.step rfl ?_)))))
 dsimp only
 refine Runs.new fun h4 b4 g4 => Runs.puts b4 rfl fun h5 b5 u5 => Runs.ifF rfl ?_
 have s1 : h0.blks.size < h1.blks.size := b1.lt
 have s2 : h1.blks.size < h2.blks.size := b2.lt
 have s3 : i < h3.blks.size := V.inn
 have s4 : h2.blks.size ≤ h3.blks.size := g3.size
 have G4 : Grow h0 h4 := (((g1.trans g2).trans g3).trans g4)
 have G5 : Grow h0 h5 := G4.updr (by have := G4.size; omega) u5
 have G25 : Grow h2 h5 := (g3.trans g4).updr (by omega) u5
 refine (kli (q.grow G5) (G25.has (g2.has b1))).call fun v h6 ⟨e, g6⟩ => ?_
 subst e
 have hany : ((zs l).any fun x => decide (x < 0) || decide (x ≥ (n : Int))) = false := by
  rw [List.any_eq_false]
  intro x hx
  unfold zs at hx
  rw [List.mem_map] at hx
  obtain ⟨y, hy, rfl⟩ := hx
  have := hl y hy
  simp
  omega
 rw [hany]
 refine Runs.step (seen rfl) (Runs.ifF rfl ?_)
 rw [q.len, zs_len]
 have V6 : Vec h6 t i (List.replicate ((n + 63) / 64) 0) := ((V.grow g4).updr (by omega) u5).grow g6
 exact kng q hl hn (b := h1.blks.size) (c := h3.blks.size) (i := i) (by omega) (by omega) (by omega) (by omega) (by omega) l.length 0 (by omega) h6 _ (G5.trans g6) ⟨_, rfl, g6.has (G25.has b2)⟩ (g6.has b5) V6 (by simp) (fun m => by rw [ko9]; simp)
end
end Go.Ab
