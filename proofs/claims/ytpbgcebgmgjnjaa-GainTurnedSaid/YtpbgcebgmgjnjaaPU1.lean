/- squeezed -/
import Derived.Test.YtpbgcebgmgjnjaaPAbsDra
import Derived.Test.YtpbgcebgmgjnjaaProg
import Derived.Test.YtpbgcebgmgjnjaaPAbsQ

set_option linter.unusedVariables false
set_option maxRecDepth 100000
namespace Go.Ab
open Go.Proofs
@[reducible] def F.kch : FuncId := 3
@[reducible] def F.kii : FuncId := 4
@[reducible] def F.kci : FuncId := 5
@[reducible] def F.kg8 : FuncId := 6
@[reducible] def F.ke6 : FuncId := 7
@[reducible] def F.kgf : FuncId := 8
@[reducible] def F.ke9 : FuncId := 9
@[reducible] def F.kg3 : FuncId := 10
@[reducible] def F.kc3 : FuncId := 11
@[reducible] def F.kj9 : FuncId := 12
@[reducible] def F.kiz : FuncId := 13
@[reducible] def F.kjc : FuncId := 14
@[reducible] def F.kdl : FuncId := 15
@[reducible] def F.kfp : FuncId := 16
@[reducible] def F.kdo : FuncId := 17
@[reducible] def F.kdr : FuncId := 18
@[reducible] def F.kfc : FuncId := 19
@[reducible] def F.kca : FuncId := 20
@[reducible] def F.kfh : FuncId := 21
@[reducible] def F.kkm : FuncId := 22
@[reducible] def F.kec : FuncId := 23
@[reducible] def F.kj7 : FuncId := 24
@[reducible] def F.khs : FuncId := 25
@[reducible] def F.khn : FuncId := 26
@[reducible] def F.kjl : FuncId := 27
@[reducible] def F.ke7 : FuncId := 28
@[reducible] def F.kgl : FuncId := 29
@[reducible] def F.kz : FuncId := 30
@[reducible] def F.kez : FuncId := 31
@[reducible] def F.kdx : FuncId := 32
@[reducible] def F.kc0 : FuncId := 33
@[reducible] def F.kdc : FuncId := 34
@[reducible] def F.kbl : FuncId := 35
@[reducible] def F.kop : FuncId := 36
@[reducible] def F.kcq : FuncId := 37
@[reducible] def F.kku : FuncId := 38
@[reducible] def F.kf1 : FuncId := 39
@[reducible] def F.kfk : FuncId := 40
@[reducible] def F.kel : FuncId := 41
@[reducible] def F.kfx : FuncId := 42
@[reducible] def F.kqb : FuncId := 43
@[reducible] def F.kct : FuncId := 44
@[reducible] def F.kg1 : FuncId := 45
@[reducible] def F.ki7 : FuncId := 46
@[reducible] def F.kn7 : FuncId := 47
@[reducible] def F.kcn : FuncId := 48
@[reducible] def F.kbh : FuncId := 49
@[reducible] def F.ki5 : FuncId := 50
@[reducible] def F.kc2 : FuncId := 51
@[reducible] def F.kdd : FuncId := 52
@[reducible] def F.kbx : FuncId := 53
@[reducible] def F.kb2 : FuncId := 54
@[reducible] def F.ke8 : FuncId := 55
@[reducible] def F.kj6 : FuncId := 56
@[reducible] def F.khz : FuncId := 57
@[reducible] def F.kkg : FuncId := 58
@[reducible] def F.kfb : FuncId := 59
@[reducible] def F.kgt : FuncId := 60
@[reducible] def F.kfv : FuncId := 61
@[reducible] def F.kfz : FuncId := 62
@[reducible] def F.kb1 : FuncId := 63
@[reducible] def F.kcc : FuncId := 64
@[reducible] def F.kfa : FuncId := 65
@[reducible] def F.kjt : FuncId := 66
@[reducible] def F.kiq : FuncId := 67
@[reducible] def T.func : TypeId := 1
@[reducible] def T.int : TypeId := 3
@[reducible] def T.bool : TypeId := 4
@[reducible] def T.string : TypeId := 9
@[reducible] def T.kf8 : TypeId := 22
@[reducible] def T.ko : TypeId := 24
@[reducible] def T.kl2 : TypeId := 25
@[reducible] def T.kpf : TypeId := 27
@[reducible] def T.kbs : TypeId := 34
@[reducible] def T.kf : TypeId := 36
@[reducible] def T.kq : TypeId := 38
@[reducible] def T.kg : TypeId := 41
@[reducible] def T.ku3 : TypeId := 82
@[reducible] noncomputable def Pg : Program := Try.prog
def keepTab : List (Nat × Nat × List Nat) := [(3, 13, [8, 9, 11, 13, 15, 16]), (3, 19, [8, 11, 15, 17]), (3, 1000006, [1, 2, 3, 5, 6, 7, 0, 4, 8, 9]), (5, 7, [0, 6, 10, 13, 47, 48, 49]), (11, 1000003, [0, 2, 1, 3, 4]), (12, 1000003, [0, 1, 3, 4, 2, 5, 6, 7]), (13, 1000005, [0, 1, 3, 4, 10, 2, 5, 6, 7, 8, 9, 11, 12]), (13, 2000005, [10]), (18, 4, [0, 1]), (23, 1000001, [0, 1, 2, 3, 9, 4, 5, 6, 7, 8, 10, 11]), (23, 2000001, [9]), (30, 2, [0, 3]), (33, 6, [0, 1, 5]), (34, 4, [0, 1, 6, 7, 8]), (35, 6, [6, 7, 8, 9, 10, 11]), (35, 10, [6, 7, 8, 9, 10, 11, 12, 13]), (35, 18, [6, 10, 15, 16, 112, 113]), (40, 1000003, [0, 1, 2, 4, 5, 11, 3, 6, 7, 8, 9, 10, 12, 13]), (40, 2000003, [11]), (49, 3, [0, 1, 2]), (49, 17, [2, 8, 9, 10, 11, 13, 14, 15, 16]), (49, 24, [2, 8, 9, 10, 14, 15, 16, 17, 18]), (51, 3, [1, 5, 12, 13, 14]), (52, 4, [2, 3, 4, 11, 12]), (53, 3, [1, 5, 20, 21, 22]), (53, 7, [1, 5, 6, 7, 8, 20, 21, 22, 27, 28, 29]), (54, 4, [0, 1, 5, 6, 13, 14]), (55, 2, [0, 1, 7, 8]), (59, 2, [0, 1, 7, 8]), (60, 1000006, [0, 1, 2, 4, 5, 8, 9, 10, 12, 13, 3, 6, 7, 11, 14, 15, 16, 17]), (60, 1000007, [0, 1, 2, 4, 5, 9, 10, 12, 13, 3, 6, 7, 8, 11, 14, 15, 16, 17, 18]), (63, 6, [0, 1, 5, 6, 21, 22]), (64, 2, [0, 1, 2, 6, 7]), (65, 2, [0, 1, 7, 8])]
noncomputable def go : Rec := run Pg (keepOf keepTab)
theorem ke (k : Key) (h : AH) : go k h = stepA Pg (keepOf keepTab) go k h := kw3 _ k h
theorem kf9 : Pg.underlying T.int = some (.int .i64) := Try.underlying3
theorem kjm : Pg.cellsOf T.int = 1 := by kernel_rfl
theorem kvg : kcg Pg T.int = some [.int .i64 0] := by kernel_rfl
theorem kt3 : Pg.bytesOf T.int = 8 := by kernel_rfl
theorem ku4 : Pg.bytesOf T.bool = 1 := by kernel_rfl
theorem kme : Pg.underlying T.kf8 = some (.array 2 T.int) := Try.underlying22
theorem kvu : Pg.cellsOf T.kf8 = 2 := by kernel_rfl
theorem klk : Pg.underlying T.ko = some (.struct #[{ name := "G", type := T.int, offset := 0, embedded := false, tag := "", pkgPath := "", byteOffset := 0 }, { name := "H", type := T.int, offset := 1, embedded := false, tag := "", pkgPath := "", byteOffset := 8 }]) := Try.underlying24
theorem kik : Pg.cellsOf T.ko = 2 := by kernel_rfl
theorem kto : kcg Pg T.ko = some [.int .i64 0, .int .i64 0] := by kernel_rfl
theorem ks1 : Pg.bytesOf T.ko = 16 := by kernel_rfl
theorem kp2 : Pg.underlying T.kl2 = some (.slice T.ko) := Try.underlying25
theorem kw0 : Pg.cellsOf T.kg = 1 := by kernel_rfl
theorem kzx : kcg Pg T.kg = some [.int .u64 0] := by kernel_rfl
theorem ked : Pg.bytesOf T.kg = 8 := by kernel_rfl
noncomputable def Td.kji : List Item := todoAt Try.f3 13
noncomputable def Td.kh9 : List Item := todoAt Try.f3 19
noncomputable def Td.ke4 : List Item := todoAt Try.f5 7
noncomputable def Td.kjo : List Item := todoAt Try.f18 4
noncomputable def Td.kgj : List Item := todoAt Try.f30 2
noncomputable def Td.ki6 : List Item := todoAt Try.f33 6
noncomputable def Td.kio : List Item := todoAt Try.f34 4
noncomputable def Td.kiw : List Item := todoAt Try.f35 6
noncomputable def Td.kjk : List Item := todoAt Try.f35 10
noncomputable def Td.kfn : List Item := todoAt Try.f35 18
noncomputable def Td.klx : List Item := todoAt Try.f49 3
noncomputable def Td.kgb : List Item := todoAt Try.f49 17
noncomputable def Td.ker : List Item := todoAt Try.f49 24
noncomputable def Td.kgg : List Item := todoAt Try.f51 3
noncomputable def Td.kgc : List Item := todoAt Try.f52 4
noncomputable def Td.kjf : List Item := todoAt Try.f53 3
noncomputable def Td.kjb : List Item := todoAt Try.f53 7
noncomputable def Td.kfm : List Item := todoAt Try.f54 4
noncomputable def Td.kht : List Item := todoAt Try.f55 2
noncomputable def Td.ki3 : List Item := todoAt Try.f59 2
noncomputable def Td.kdw : List Item := todoAt Try.f63 6
noncomputable def Td.keo : List Item := todoAt Try.f64 2
noncomputable def Td.kja : List Item := todoAt Try.f65 2
def lit1 : ByteArray := (⟨((List.append (List.append ([0, 1, 2, 2, 3, 3, 3, 3, 4, 4, 4, 4, 4, 4, 4, 4, 5, 5, 5, 5, 5, 5, 5, 5, 5, 5, 5, 5, 5, 5, 5, 5, 6, 6, 6, 6, 6, 6, 6, 6, 6, 6, 6, 6, 6, 6, 6, 6, 6, 6, 6, 6, 6, 6, 6, 6, 6, 6, 6, 6, 6, 6, 6, 6] : List UInt8) ([7, 7, 7, 7, 7, 7, 7, 7, 7, 7, 7, 7, 7, 7, 7, 7, 7, 7, 7, 7, 7, 7, 7, 7, 7, 7, 7, 7, 7, 7, 7, 7, 7, 7, 7, 7, 7, 7, 7, 7, 7, 7, 7, 7, 7, 7, 7, 7, 7, 7, 7, 7, 7, 7, 7, 7, 7, 7, 7, 7, 7, 7, 7, 7] : List UInt8)) (List.append ([8, 8, 8, 8, 8, 8, 8, 8, 8, 8, 8, 8, 8, 8, 8, 8, 8, 8, 8, 8, 8, 8, 8, 8, 8, 8, 8, 8, 8, 8, 8, 8, 8, 8, 8, 8, 8, 8, 8, 8, 8, 8, 8, 8, 8, 8, 8, 8, 8, 8, 8, 8, 8, 8, 8, 8, 8, 8, 8, 8, 8, 8, 8, 8] : List UInt8) ([8, 8, 8, 8, 8, 8, 8, 8, 8, 8, 8, 8, 8, 8, 8, 8, 8, 8, 8, 8, 8, 8, 8, 8, 8, 8, 8, 8, 8, 8, 8, 8, 8, 8, 8, 8, 8, 8, 8, 8, 8, 8, 8, 8, 8, 8, 8, 8, 8, 8, 8, 8, 8, 8, 8, 8, 8, 8, 8, 8, 8, 8, 8, 8] : List UInt8)))).toArray⟩ : ByteArray)
theorem kwb (a1 : Int) (a2 : Int) (a3 : Int) (a4 : Int) (a5 : Sl) (h : AH) : go (.fn F.kch [.agg [.int .i64 a1, .int .i64 a2], .agg [.int .i64 a3, .int .i64 a4], a5.v]) h =
 newK h (.cells [.int .i64 a1, .int .i64 a2] T.kf8) fun h6r h6 =>
 newK h6 (.cells [.int .i64 a3, .int .i64 a4] T.ko) fun h7r h7 =>
 (go (.fn F.kii []) h7).bind fun q8 =>
 ((some q8.1).bind AV.asBool).bind fun b9 =>
 cond (!b9) (
 some (.bool b9, q8.2)) (
 cond (decide ((a5.len : Int) = 0)) (
 some (.bool b9, q8.2)) (
 cond (decide ((a5.len : Int) > 500)) (
 some (.bool b9, q8.2)) (
 (cutSl a5 (IntKind.wrap .i64 (Int.tdiv (a5.len : Int) 2)) (a5.len : Int) 2).bind fun l10 =>
 (cutSl a5 0 (IntKind.wrap .i64 (Int.tdiv (a5.len : Int) 2)) 2).bind fun l11 =>
 newK q8.2 (.cells [] T.ko) fun h12r h12 =>
 (kcm Pg T.ko l10.v h12).bind fun p14 =>
 (kbb Pg (⟨some h12r, 0, .is 0⟩ : Sl) p14.1 p14.2 T.ko 2 h12).bind fun q13 =>
 (AV.asSl q13.1).bind fun l15 =>
 (kcm Pg T.ko l11.v q13.2).bind fun p17 =>
 (kbb Pg l15 p17.1 p17.2 T.ko 2 q13.2).bind fun q16 =>
 (AV.asSl q16.1).bind fun l18 =>
 (idx (some h6r) 2 0 1).bind fun r19 =>
 ((q16.2.cell r19).bind (AV.asInt .i64)).bind fun n20 =>
 (idx (some h6r) 2 1 1).bind fun r21 =>
 ((q16.2.cell r21).bind (AV.asInt .i64)).bind fun n22 =>
 ((q16.2.cell (h7r.add 0)).bind (AV.asInt .i64)).bind fun n23 =>
 ((q16.2.cell (h7r.add 1)).bind (AV.asInt .i64)).bind fun n24 =>
 (go (.fn F.kci [.int .i64 n20, .int .i64 n22, .agg [.int .i64 n23, .int .i64 n24], a5.v]) q16.2).bind fun q25 =>
 (AV.asTup2 q25.1).bind fun p26 =>
 ((some p26.1).bind AV.asSl).bind fun l27 =>
 ((some p26.2).bind (AV.asInt .i64)).bind fun n28 =>
 (idx (some h6r) 2 0 1).bind fun r29 =>
 ((q25.2.cell r29).bind (AV.asInt .i64)).bind fun n30 =>
 (idx (some h6r) 2 1 1).bind fun r31 =>
 ((q25.2.cell r31).bind (AV.asInt .i64)).bind fun n32 =>
 ((q25.2.cell (h7r.add 0)).bind (AV.asInt .i64)).bind fun n33 =>
 ((q25.2.cell (h7r.add 1)).bind (AV.asInt .i64)).bind fun n34 =>
 (go (.fn F.kci [.int .i64 n30, .int .i64 n32, .agg [.int .i64 n33, .int .i64 n34], l18.v]) q25.2).bind fun q35 =>
 (AV.asTup2 q35.1).bind fun p36 =>
 ((some p36.1).bind AV.asSl).bind fun l37 =>
 ((some p36.2).bind (AV.asInt .i64)).bind fun n38 =>
 cond (!decide (n28 = n38)) (
 some (.bool false, q35.2)) (
 cond (!decide ((l27.len : Int) = (l37.len : Int))) (
 some (.bool false, q35.2)) (
 (kbq (a5.len : Int) (a5.len : Int) T.bool (Pg.bytesOf T.bool) [.bool false] q35.2).bind fun q39 =>
 go (.pt F.kch Td.kji [(8, .int .i64 (a5.len : Int)), (9, .int .i64 (IntKind.wrap .i64 (Int.tdiv (a5.len : Int) 2))), (11, l27.v), (13, l37.v), (15, q39.1.v), (16, .int .i64 0)]) q39.2))))) := (ke _ h).trans (by kernel_rfl)
theorem kvd (a1 : Sl) (a2 : Sl) (a3 : Ref) (h : AH) : go (.fn F.kgt [a1.v, a2.v, .ptr (some a3)]) h =
 cond (decide ((a1.len : Int) < 24)) (
 (go (.fn F.kbx [a1.v, a2.v]) h).bind fun q4 =>
 ((some q4.1).bind AV.asSl).bind fun l5 =>
 some (l5.v, q4.2)) (
 cond (decide ((a2.len : Int) < 24)) (
 (go (.fn F.kbx [a1.v, a2.v]) h).bind fun q6 =>
 ((some q6.1).bind AV.asSl).bind fun l7 =>
 some (l7.v, q6.2)) (
 newK h (.cells [.int .i64 0] T.int) fun h8r h8 =>
 (h8.puts h8r [.int .i64 (IntKind.wrap .i64 (Int.tdiv (IntKind.wrap .i64 ((imax (a1.len : Int) (a2.len : Int)) + 1)) 2))]).bind fun h9 =>
 (h9.cell a3).bind fun v10 =>
 (h9.cell a3).bind fun v11 =>
 (go (.fn F.kfv [a1.v, .ptr (some h8r)]) h9).bind fun q12 =>
 ((some q12.1).bind AV.asSl).bind fun l13 =>
 whenK (SameAt h9 q12.2 a3 1) (
 whenK (SameAt h9 q12.2 a3 1) (
 (go (.fn F.kfv [a2.v, .ptr (some h8r)]) q12.2).bind fun q14 =>
 ((some q14.1).bind AV.asSl).bind fun l15 =>
 whenK (SameAt q12.2 q14.2 a3 1) (
 whenK (SameAt q12.2 q14.2 a3 1) (
 (callV Pg go v10 [l13.v, l15.v] q14.2).bind fun q16 =>
 ((some q16.1).bind AV.asSl).bind fun l17 =>
 whenK (SameAt q14.2 q16.2 a3 1) (
 (go (.fn F.kfz [a1.v, .ptr (some h8r)]) q16.2).bind fun q18 =>
 ((some q18.1).bind AV.asSl).bind fun l19 =>
 whenK (SameAt q16.2 q18.2 a3 1) (
 (go (.fn F.kfz [a2.v, .ptr (some h8r)]) q18.2).bind fun q20 =>
 ((some q20.1).bind AV.asSl).bind fun l21 =>
 whenK (SameAt q18.2 q20.2 a3 1) (
 (callV Pg go v11 [l19.v, l21.v] q20.2).bind fun q22 =>
 ((some q22.1).bind AV.asSl).bind fun l23 =>
 (q22.2.cell a3).bind fun v24 =>
 (go (.fn F.kfv [a1.v, .ptr (some h8r)]) q22.2).bind fun q25 =>
 ((some q25.1).bind AV.asSl).bind fun l26 =>
 whenK (SameAt q22.2 q25.2 a3 1) (
 (go (.fn F.kfz [a1.v, .ptr (some h8r)]) q25.2).bind fun q27 =>
 ((some q27.1).bind AV.asSl).bind fun l28 =>
 whenK (SameAt q25.2 q27.2 a3 1) (
 (go (.fn F.kb1 [l26.v, l28.v]) q27.2).bind fun q29 =>
 ((some q29.1).bind AV.asSl).bind fun l30 =>
 whenK (SameAt q27.2 q29.2 a3 1) (
 (go (.fn F.kz [l30.v]) q29.2).bind fun q31 =>
 ((some q31.1).bind AV.asSl).bind fun l32 =>
 whenK (SameAt q29.2 q31.2 a3 1) (
 (go (.fn F.kfv [a2.v, .ptr (some h8r)]) q31.2).bind fun q33 =>
 ((some q33.1).bind AV.asSl).bind fun l34 =>
 whenK (SameAt q31.2 q33.2 a3 1) (
 (go (.fn F.kfz [a2.v, .ptr (some h8r)]) q33.2).bind fun q35 =>
 ((some q35.1).bind AV.asSl).bind fun l36 =>
 whenK (SameAt q33.2 q35.2 a3 1) (
 (go (.fn F.kb1 [l34.v, l36.v]) q35.2).bind fun q37 =>
 ((some q37.1).bind AV.asSl).bind fun l38 =>
 whenK (SameAt q35.2 q37.2 a3 1) (
 (go (.fn F.kz [l38.v]) q37.2).bind fun q39 =>
 ((some q39.1).bind AV.asSl).bind fun l40 =>
 whenK (SameAt q37.2 q39.2 a3 1) (
 (callV Pg go v24 [l32.v, l40.v] q39.2).bind fun q41 =>
 ((some q41.1).bind AV.asSl).bind fun l42 =>
 (go (.fn F.kb2 [l42.v, l17.v]) q41.2).bind fun q43 =>
 ((some q43.1).bind AV.asSl).bind fun l44 =>
 (go (.fn F.kz [l44.v]) q43.2).bind fun q45 =>
 ((some q45.1).bind AV.asSl).bind fun l46 =>
 (go (.fn F.kb2 [l46.v, l23.v]) q45.2).bind fun q47 =>
 ((some q47.1).bind AV.asSl).bind fun l48 =>
 (go (.fn F.kz [l48.v]) q47.2).bind fun q49 =>
 ((some q49.1).bind AV.asSl).bind fun l50 =>
 (kbq (IntKind.wrap .i64 ((IntKind.wrap .i64 ((a1.len : Int) + (a2.len : Int))) + 1)) (IntKind.wrap .i64 ((IntKind.wrap .i64 ((a1.len : Int) + (a2.len : Int))) + 1)) T.kg (Pg.bytesOf T.kg) [.int .u64 0] q49.2).bind fun q51 =>
 (copyH l17 q51.1 1 q51.2).bind fun h52 =>
 ((h52.cell h8r).bind (AV.asInt .i64)).bind fun n53 =>
 (go (.fn F.kcc [q51.1.v, l50.v, .int .i64 n53]) h52).bind fun q54 =>
 (AV.asTup0 q54.1).bind fun _ =>
 ((q54.2.cell h8r).bind (AV.asInt .i64)).bind fun n55 =>
 (go (.fn F.kcc [q51.1.v, l23.v, .int .i64 (IntKind.wrap .i64 (2 * n55))]) q54.2).bind fun q56 =>
 (AV.asTup0 q56.1).bind fun _ =>
 (go (.fn F.kz [q51.1.v]) q56.2).bind fun q57 =>
 ((some q57.1).bind AV.asSl).bind fun l58 =>
 some (l58.v, q57.2)))))))))))))))))) := (ke _ h).trans (by kernel_rfl)
theorem kqu  (h : AH) : go (.fn F.kii []) h =
 (go (.fn F.kg8 [.int .i64 1, .agg [.int .i64 4, .int .i64 1]]) h).bind fun q1 =>
 (AV.asTup2 q1.1).bind fun p2 =>
 (AV.asAgg p2.1).bind fun cs3 =>
 cond (Nat.beq cs3.length 3) (
 ((cs3[0]?).bind AV.asBool).bind fun b4 =>
 ((cs3[1]?).bind AV.asSl).bind fun l5 =>
 ((cs3[2]?).bind AV.asSl).bind fun l6 =>
 ((some p2.2).bind (AV.asInt .i64)).bind fun n7 =>
 newK q1.2 (.cells [.bool false, (⟨none, 0, .is 0⟩ : Sl).v, (⟨none, 0, .is 0⟩ : Sl).v] T.kq) fun h8r h8 =>
 (h8.puts h8r [.bool b4, l5.v, l6.v]).bind fun h9 =>
 cond (decide (n7 = 0)) (
 ((h9.cell ((h8r.add 0).add 1)).bind AV.asSl).bind fun l10 =>
 cond (decide ((l10.len : Int) = 1)) (
 ((h9.cell ((h8r.add 0).add 1)).bind AV.asSl).bind fun l11 =>
 (idx l11.ref l11.len 0 1).bind fun r12 =>
 ((h9.cell r12).bind (AV.asInt .u64)).bind fun n13 =>
 some (.bool (decide (n13 = 8)), h9)) (
 some (.bool false, h9))) (
 some (.bool false, h9))) none := (ke _ h).trans (by kernel_rfl)
theorem ky4 (a1 : Int) (a2 : Int) (a3 : Int) (a4 : Int) (a5 : Sl) (h : AH) : go (.fn F.kci [.int .i64 a1, .int .i64 a2, .agg [.int .i64 a3, .int .i64 a4], a5.v]) h =
 newK h (.cells [.int .i64 a3, .int .i64 a4] T.ko) fun h6r h6 =>
 ((h6.cell (h6r.add 0)).bind (AV.asInt .i64)).bind fun n7 =>
 ((h6.cell (h6r.add 1)).bind (AV.asInt .i64)).bind fun n8 =>
 (go (.fn F.ke6 [.agg [.int .i64 n7, .int .i64 n8]]) h6).bind fun q9 =>
 ((some q9.1).bind AV.asBool).bind fun b10 =>
 cond (!b10) (
 some (.tup [(⟨none, 0, .is 0⟩ : Sl).v, .int .i64 1], q9.2)) (
 (go (.fn F.kgf [.int .i64 a1]) q9.2).bind fun q11 =>
 ((some q11.1).bind AV.asBool).bind fun b12 =>
 cond (!b12) (
 some (.tup [(⟨none, 0, .is 0⟩ : Sl).v, .int .i64 1], q11.2)) (
 cond (decide (a2 < 0)) (
 some (.tup [(⟨none, 0, .is 0⟩ : Sl).v, .int .i64 1], q11.2)) (
 cond (decide (a2 > 1048576)) (
 some (.tup [(⟨none, 0, .is 0⟩ : Sl).v, .int .i64 1], q11.2)) (
 cond (decide ((a5.len : Int) > 16384)) (
 some (.tup [(⟨none, 0, .is 0⟩ : Sl).v, .int .i64 1], q11.2)) (
 newK q11.2 (.cells [(⟨none, 0, .is 0⟩ : Sl).v] T.kpf) fun h13r h13 =>
 (go (.fn F.kg3 [.int .i64 a2]) h13).bind fun q14 =>
 (AV.asAgg q14.1).bind fun cs15 =>
 cond (Nat.beq cs15.length 2) (
 ((cs15[0]?).bind AV.asBool).bind fun b16 =>
 ((cs15[1]?).bind AV.asSl).bind fun l17 =>
 newK q14.2 (.cells [.int .u64 1] T.kg) fun h18r h18 =>
 (go (.fn F.ke9 [.agg [.bool b16, l17.v], (⟨some h18r, 1, .is 1⟩ : Sl).v]) h18).bind fun q19 =>
 (AV.asTup2 q19.1).bind fun p20 =>
 (AV.asAgg p20.1).bind fun cs21 =>
 cond (Nat.beq cs21.length 3) (
 ((cs21[0]?).bind AV.asBool).bind fun b22 =>
 ((cs21[1]?).bind AV.asSl).bind fun l23 =>
 ((cs21[2]?).bind AV.asSl).bind fun l24 =>
 ((some p20.2).bind (AV.asInt .i64)).bind fun n25 =>
 newK q19.2 (.cells [.bool false, (⟨none, 0, .is 0⟩ : Sl).v, (⟨none, 0, .is 0⟩ : Sl).v] T.kq) fun h26r h26 =>
 (h26.puts h26r [.bool b22, l23.v, l24.v]).bind fun h27 =>
 go (.pt F.kci Td.ke4 [(0, .int .i64 a1), (6, .ptr (some h6r)), (10, .ptr (some h13r)), (13, .func (.func F.kc3) [] [.ptr (some h26r), .ptr (some h13r)]), (47, a5.v), (48, .int .i64 (a5.len : Int)), (49, .int .i64 0)]) h27) none) none))))) := (ke _ h).trans (by kernel_rfl)
theorem ko0 (a1 : Int) (a2 : Int) (a3 : Sl) (a4 : Sl) (a5 : Sl) (a6 : Int) (h : AH) : go (.pt F.kch Td.kji [(8, .int .i64 a1), (9, .int .i64 a2), (11, a3.v), (13, a4.v), (15, a5.v), (16, .int .i64 a6)]) h =
 cond (decide (a6 < (a4.len : Int))) (
 (idx a4.ref a4.len a6 1).bind fun r7 =>
 ((h.cell r7).bind (AV.asInt .i64)).bind fun n8 =>
 cond (decide (n8 < 0)) (
 some (.bool false, h)) (
 (idx a4.ref a4.len a6 1).bind fun r9 =>
 ((h.cell r9).bind (AV.asInt .i64)).bind fun n10 =>
 cond (decide (n10 ≥ a1)) (
 some (.bool false, h)) (
 (idx a4.ref a4.len a6 1).bind fun r11 =>
 ((h.cell r11).bind (AV.asInt .i64)).bind fun n12 =>
 cond (decide (a1 = 0)) none (
 (idx a5.ref a5.len (Int.tmod (IntKind.wrap .i64 (n12 + a2)) a1) 1).bind fun r13 =>
 (h.puts r13 [.bool true]).bind fun h14 =>
 go (.pt F.kch Td.kji [(8, .int .i64 a1), (9, .int .i64 a2), (11, a3.v), (13, a4.v), (15, a5.v), (16, .int .i64 (IntKind.wrap .i64 (a6 + 1)))]) h14)))) (
 go (.pt F.kch Td.kh9 [(8, .int .i64 a1), (11, a3.v), (15, a5.v), (17, .int .i64 0)]) h) := (ke _ h).trans (by kernel_rfl)
theorem kup (a1 : Sl) (a2 : Sl) (h : AH) : go (.fn F.kbx [a1.v, a2.v]) h =
 (kbq (IntKind.wrap .i64 ((a1.len : Int) + (a2.len : Int))) (IntKind.wrap .i64 ((a1.len : Int) + (a2.len : Int))) T.kg (Pg.bytesOf T.kg) [.int .u64 0] h).bind fun q3 =>
 go (.pt F.kbx Td.kjf [(1, a2.v), (5, q3.1.v), (20, a1.v), (21, .int .i64 (a1.len : Int)), (22, .int .i64 0)]) q3.2 := (ke _ h).trans (by kernel_rfl)
theorem kwe (a1 : Sl) (a2 : Ref) (h : AH) : go (.fn F.kfv [a1.v, .ptr (some a2)]) h =
 ((h.cell a2).bind (AV.asInt .i64)).bind fun n3 =>
 (cutSl a1 0 (imin n3 (a1.len : Int)) 1).bind fun l4 =>
 (go (.fn F.kz [l4.v]) h).bind fun q5 =>
 ((some q5.1).bind AV.asSl).bind fun l6 =>
 some (l6.v, q5.2) := (ke _ h).trans (by kernel_rfl)
theorem krl (a1 : Sl) (a2 : Ref) (h : AH) : go (.fn F.kfz [a1.v, .ptr (some a2)]) h =
 ((h.cell a2).bind (AV.asInt .i64)).bind fun n3 =>
 (cutSl a1 (imin n3 (a1.len : Int)) (a1.len : Int) 1).bind fun l4 =>
 some (l4.v, h) := (ke _ h).trans (by kernel_rfl)
theorem kxk (a1 : Sl) (a2 : Sl) (h : AH) : go (.fn F.kb1 [a1.v, a2.v]) h =
 cond (decide ((a1.len : Int) < (a2.len : Int))) (
 (kbq (IntKind.wrap .i64 ((a2.len : Int) + 1)) (IntKind.wrap .i64 ((a2.len : Int) + 1)) T.kg (Pg.bytesOf T.kg) [.int .u64 0] h).bind fun q3 =>
 go (.pt F.kb1 Td.kdw [(0, a2.v), (1, a1.v), (5, q3.1.v), (6, .int .u64 0), (21, .int .i64 (a2.len : Int)), (22, .int .i64 0)]) q3.2) (
 (kbq (IntKind.wrap .i64 ((a1.len : Int) + 1)) (IntKind.wrap .i64 ((a1.len : Int) + 1)) T.kg (Pg.bytesOf T.kg) [.int .u64 0] h).bind fun q4 =>
 go (.pt F.kb1 Td.kdw [(0, a1.v), (1, a2.v), (5, q4.1.v), (6, .int .u64 0), (21, .int .i64 (a1.len : Int)), (22, .int .i64 0)]) q4.2) := (ke _ h).trans (by kernel_rfl)
theorem klp (a1 : Sl) (h : AH) : go (.fn F.kz [a1.v]) h =
 go (.pt F.kz Td.kgj [(0, a1.v), (3, .int .i64 (a1.len : Int))]) h := (ke _ h).trans (by kernel_rfl)
theorem krb (a1 : Sl) (a2 : Sl) (h : AH) : go (.fn F.kb2 [a1.v, a2.v]) h =
 (kbq (a1.len : Int) (a1.len : Int) T.kg (Pg.bytesOf T.kg) [.int .u64 0] h).bind fun q3 =>
 go (.pt F.kb2 Td.kfm [(0, a1.v), (1, a2.v), (5, q3.1.v), (6, .int .u64 0), (13, .int .i64 (a1.len : Int)), (14, .int .i64 0)]) q3.2 := (ke _ h).trans (by kernel_rfl)
theorem kw1 (a1 : Sl) (a2 : Sl) (a3 : Int) (h : AH) : go (.fn F.kcc [a1.v, a2.v, .int .i64 a3]) h =
 go (.pt F.kcc Td.keo [(0, a1.v), (1, a2.v), (2, .int .i64 a3), (6, .int .u64 0), (7, .int .i64 a3)]) h := (ke _ h).trans (by kernel_rfl)
theorem ks5 (a1 : Int) (a2 : Int) (a3 : Int) (h : AH) : go (.fn F.kg8 [.int .i64 a1, .agg [.int .i64 a2, .int .i64 a3]]) h =
 newK h (.cells [.int .i64 a2, .int .i64 a3] T.ko) fun h4r h4 =>
 newK h4 (.cells [.bool false, (⟨none, 0, .is 0⟩ : Sl).v, (⟨none, 0, .is 0⟩ : Sl).v] T.kq) fun h5r h5 =>
 ((h5.cell (h4r.add 0)).bind (AV.asInt .i64)).bind fun n6 =>
 ((h5.cell (h4r.add 1)).bind (AV.asInt .i64)).bind fun n7 =>
 (go (.fn F.ke6 [.agg [.int .i64 n6, .int .i64 n7]]) h5).bind fun q8 =>
 ((some q8.1).bind AV.asBool).bind fun b9 =>
 cond (!b9) (
 (q8.2.puts h5r [.bool false, (⟨none, 0, .is 0⟩ : Sl).v, (⟨none, 0, .is 0⟩ : Sl).v]).bind fun h10 =>
 ((h10.cell (h5r.add 0)).bind AV.asBool).bind fun b11 =>
 ((h10.cell (h5r.add 1)).bind AV.asSl).bind fun l12 =>
 ((h10.cell (h5r.add 2)).bind AV.asSl).bind fun l13 =>
 some (.tup [.agg [.bool b11, l12.v, l13.v], .int .i64 1], h10)) (
 (go (.fn F.kgf [.int .i64 a1]) q8.2).bind fun q14 =>
 ((some q14.1).bind AV.asBool).bind fun b15 =>
 cond (!b15) (
 (q14.2.puts h5r [.bool false, (⟨none, 0, .is 0⟩ : Sl).v, (⟨none, 0, .is 0⟩ : Sl).v]).bind fun h16 =>
 ((h16.cell (h5r.add 0)).bind AV.asBool).bind fun b17 =>
 ((h16.cell (h5r.add 1)).bind AV.asSl).bind fun l18 =>
 ((h16.cell (h5r.add 2)).bind AV.asSl).bind fun l19 =>
 some (.tup [.agg [.bool b17, l18.v, l19.v], .int .i64 1], h16)) (
 ((q14.2.cell (h4r.add 0)).bind (AV.asInt .i64)).bind fun n20 =>
 (go (.fn F.kg3 [.int .i64 n20]) q14.2).bind fun q21 =>
 (AV.asAgg q21.1).bind fun cs22 =>
 cond (Nat.beq cs22.length 2) (
 ((cs22[0]?).bind AV.asBool).bind fun b23 =>
 ((cs22[1]?).bind AV.asSl).bind fun l24 =>
 newK q21.2 (.cells [.bool false, (⟨none, 0, .is 0⟩ : Sl).v] T.kf) fun h25r h25 =>
 (h25.puts h25r [.bool b23, l24.v]).bind fun h26 =>
 ((h26.cell (h25r.add 0)).bind AV.asBool).bind fun b27 =>
 ((h26.cell (h25r.add 1)).bind AV.asSl).bind fun l28 =>
 ((h26.cell (h25r.add 0)).bind AV.asBool).bind fun b29 =>
 ((h26.cell (h25r.add 1)).bind AV.asSl).bind fun l30 =>
 (go (.fn F.kjc [.agg [.bool b27, l28.v], .agg [.bool b29, l30.v]]) h26).bind fun q31 =>
 (AV.asTup2 q31.1).bind fun p32 =>
 (AV.asAgg p32.1).bind fun cs33 =>
 cond (Nat.beq cs33.length 2) (
 ((cs33[0]?).bind AV.asBool).bind fun b34 =>
 ((cs33[1]?).bind AV.asSl).bind fun l35 =>
 ((some p32.2).bind (AV.asInt .i64)).bind fun n36 =>
 newK q31.2 (.cells [.bool false, (⟨none, 0, .is 0⟩ : Sl).v] T.kf) fun h37r h37 =>
 (h37.puts h37r [.bool b34, l35.v]).bind fun h38 =>
 ((h38.cell (h37r.add 0)).bind AV.asBool).bind fun b39 =>
 ((h38.cell (h37r.add 1)).bind AV.asSl).bind fun l40 =>
 ((h38.cell (h4r.add 1)).bind (AV.asInt .i64)).bind fun n41 =>
 (go (.fn F.kdl [.int .u64 (IntKind.wrap .u64 (IntKind.wrap .i64 (n41 + a1)))]) h38).bind fun q42 =>
 ((some q42.1).bind AV.asSl).bind fun l43 =>
 whenK (SameAt h38 q42.2 h37r 2) (
 (go (.fn F.ke9 [.agg [.bool b39, l40.v], l43.v]) q42.2).bind fun q44 =>
 (AV.asTup2 q44.1).bind fun p45 =>
 (AV.asAgg p45.1).bind fun cs46 =>
 cond (Nat.beq cs46.length 3) (
 ((cs46[0]?).bind AV.asBool).bind fun b47 =>
 ((cs46[1]?).bind AV.asSl).bind fun l48 =>
 ((cs46[2]?).bind AV.asSl).bind fun l49 =>
 ((some p45.2).bind (AV.asInt .i64)).bind fun n50 =>
 (q44.2.puts h5r [.bool b47, l48.v, l49.v]).bind fun h51 =>
 ((h51.cell (h5r.add 0)).bind AV.asBool).bind fun b52 =>
 ((h51.cell (h5r.add 1)).bind AV.asSl).bind fun l53 =>
 ((h51.cell (h5r.add 2)).bind AV.asSl).bind fun l54 =>
 some (.tup [.agg [.bool b52, l53.v, l54.v], .int .i64 n50], h51)) none)) none) none)) := (ke _ h).trans (by kernel_rfl)
theorem kvw (a1 : Int) (a2 : Int) (h : AH) : go (.fn F.ke6 [.agg [.int .i64 a1, .int .i64 a2]]) h =
 newK h (.cells [.int .i64 a1, .int .i64 a2] T.ko) fun h3r h3 =>
 ((h3.cell (h3r.add 0)).bind (AV.asInt .i64)).bind fun n4 =>
 cond (decide (n4 ≥ (-1099511627776))) (
 ((h3.cell (h3r.add 0)).bind (AV.asInt .i64)).bind fun n5 =>
 cond (decide (n5 ≤ 1099511627776)) (
 ((h3.cell (h3r.add 1)).bind (AV.asInt .i64)).bind fun n6 =>
 cond (decide (n6 ≥ 0)) (
 ((h3.cell (h3r.add 1)).bind (AV.asInt .i64)).bind fun n7 =>
 some (.bool (decide (n7 ≤ 1048576)), h3)) (
 some (.bool false, h3))) (
 some (.bool false, h3))) (
 some (.bool false, h3)) := (ke _ h).trans (by kernel_rfl)
theorem kws (a1 : Int) (h : AH) : go (.fn F.kgf [.int .i64 a1]) h =
 cond (decide (a1 ≥ 1)) (
 some (.bool (decide (a1 ≤ 1048576)), h)) (
 some (.bool false, h)) := (ke _ h).trans (by kernel_rfl)
theorem kzc (a1 : Int) (h : AH) : go (.fn F.kg3 [.int .i64 a1]) h =
 newK h (.cells [.bool false, (⟨none, 0, .is 0⟩ : Sl).v] T.kf) fun h2r h2 =>
 cond (decide (a1 < 0)) (
 (go (.fn F.kdl [.int .u64 (IntKind.wrap .u64 (0 - (IntKind.wrap .u64 a1)))]) h2).bind fun q3 =>
 ((some q3.1).bind AV.asSl).bind fun l4 =>
 (go (.fn F.kca [.bool true, l4.v]) q3.2).bind fun q5 =>
 (AV.asAgg q5.1).bind fun cs6 =>
 cond (Nat.beq cs6.length 2) (
 ((cs6[0]?).bind AV.asBool).bind fun b7 =>
 ((cs6[1]?).bind AV.asSl).bind fun l8 =>
 (q5.2.puts h2r [.bool b7, l8.v]).bind fun h9 =>
 ((h9.cell (h2r.add 0)).bind AV.asBool).bind fun b10 =>
 ((h9.cell (h2r.add 1)).bind AV.asSl).bind fun l11 =>
 some (.agg [.bool b10, l11.v], h9)) none) (
 (go (.fn F.kdl [.int .u64 (IntKind.wrap .u64 a1)]) h2).bind fun q12 =>
 ((some q12.1).bind AV.asSl).bind fun l13 =>
 (go (.fn F.kca [.bool false, l13.v]) q12.2).bind fun q14 =>
 (AV.asAgg q14.1).bind fun cs15 =>
 cond (Nat.beq cs15.length 2) (
 ((cs15[0]?).bind AV.asBool).bind fun b16 =>
 ((cs15[1]?).bind AV.asSl).bind fun l17 =>
 (q14.2.puts h2r [.bool b16, l17.v]).bind fun h18 =>
 ((h18.cell (h2r.add 0)).bind AV.asBool).bind fun b19 =>
 ((h18.cell (h2r.add 1)).bind AV.asSl).bind fun l20 =>
 some (.agg [.bool b19, l20.v], h18)) none) := (ke _ h).trans (by kernel_rfl)
theorem kxn (a1 : Bool) (a2 : Sl) (a3 : Sl) (h : AH) : go (.fn F.ke9 [.agg [.bool a1, a2.v], a3.v]) h =
 newK h (.cells [.bool a1, a2.v] T.kf) fun h4r h4 =>
 newK h4 (.cells [.bool false, (⟨none, 0, .is 0⟩ : Sl).v, (⟨none, 0, .is 0⟩ : Sl).v] T.kq) fun h5r h5 =>
 ((h5.cell (h4r.add 0)).bind AV.asBool).bind fun b6 =>
 ((h5.cell (h4r.add 1)).bind AV.asSl).bind fun l7 =>
 (go (.fn F.kfp [.agg [.bool b6, l7.v]]) h5).bind fun q8 =>
 ((some q8.1).bind AV.asBool).bind fun b9 =>
 cond (!b9) (
 (q8.2.puts h5r [.bool false, (⟨none, 0, .is 0⟩ : Sl).v, (⟨none, 0, .is 0⟩ : Sl).v]).bind fun h10 =>
 ((h10.cell (h5r.add 0)).bind AV.asBool).bind fun b11 =>
 ((h10.cell (h5r.add 1)).bind AV.asSl).bind fun l12 =>
 ((h10.cell (h5r.add 2)).bind AV.asSl).bind fun l13 =>
 some (.tup [.agg [.bool b11, l12.v, l13.v], .int .i64 1], h10)) (
 (go (.fn F.kdo [a3.v]) q8.2).bind fun q14 =>
 ((some q14.1).bind AV.asBool).bind fun b15 =>
 cond (!b15) (
 (q14.2.puts h5r [.bool false, (⟨none, 0, .is 0⟩ : Sl).v, (⟨none, 0, .is 0⟩ : Sl).v]).bind fun h16 =>
 ((h16.cell (h5r.add 0)).bind AV.asBool).bind fun b17 =>
 ((h16.cell (h5r.add 1)).bind AV.asSl).bind fun l18 =>
 ((h16.cell (h5r.add 2)).bind AV.asSl).bind fun l19 =>
 some (.tup [.agg [.bool b17, l18.v, l19.v], .int .i64 1], h16)) (
 cond (decide ((a3.len : Int) = 0)) (
 (q14.2.puts h5r [.bool false, (⟨none, 0, .is 0⟩ : Sl).v, (⟨none, 0, .is 0⟩ : Sl).v]).bind fun h20 =>
 ((h20.cell (h5r.add 0)).bind AV.asBool).bind fun b21 =>
 ((h20.cell (h5r.add 1)).bind AV.asSl).bind fun l22 =>
 ((h20.cell (h5r.add 2)).bind AV.asSl).bind fun l23 =>
 some (.tup [.agg [.bool b21, l22.v, l23.v], .int .i64 3], h20)) (
 ((q14.2.cell (h4r.add 1)).bind AV.asSl).bind fun l24 =>
 (go (.fn F.kdr [l24.v, a3.v]) q14.2).bind fun q25 =>
 (AV.asTup2 q25.1).bind fun p26 =>
 ((some p26.1).bind AV.asSl).bind fun l27 =>
 ((some p26.2).bind (AV.asInt .i64)).bind fun n28 =>
 ((q25.2.cell (h4r.add 1)).bind AV.asSl).bind fun l29 =>
 (go (.fn F.kfc [l29.v, l27.v]) q25.2).bind fun q30 =>
 (AV.asTup3 q30.1).bind fun p31 =>
 ((some p31.1).bind AV.asSl).bind fun l32 =>
 ((some p31.2.1).bind AV.asSl).bind fun l33 =>
 ((some p31.2.2).bind (AV.asInt .i64)).bind fun n34 =>
 (go (.fn F.kfc [a3.v, l27.v]) q30.2).bind fun q35 =>
 (AV.asTup3 q35.1).bind fun p36 =>
 ((some p36.1).bind AV.asSl).bind fun l37 =>
 ((some p36.2.1).bind AV.asSl).bind fun l38 =>
 ((some p36.2.2).bind (AV.asInt .i64)).bind fun n39 =>
 cond (decide ((imax (l32.len : Int) (l37.len : Int)) > 16)) (
 (q35.2.puts h5r [.bool false, (⟨none, 0, .is 0⟩ : Sl).v, (⟨none, 0, .is 0⟩ : Sl).v]).bind fun h40 =>
 ((h40.cell (h5r.add 0)).bind AV.asBool).bind fun b41 =>
 ((h40.cell (h5r.add 1)).bind AV.asSl).bind fun l42 =>
 ((h40.cell (h5r.add 2)).bind AV.asSl).bind fun l43 =>
 some (.tup [.agg [.bool b41, l42.v, l43.v], .int .i64 4], h40)) (
 ((q35.2.cell (h4r.add 0)).bind AV.asBool).bind fun b44 =>
 (go (.fn F.kca [.bool b44, l32.v]) q35.2).bind fun q45 =>
 (AV.asAgg q45.1).bind fun cs46 =>
 cond (Nat.beq cs46.length 2) (
 ((cs46[0]?).bind AV.asBool).bind fun b47 =>
 ((cs46[1]?).bind AV.asSl).bind fun l48 =>
 (q45.2.puts h5r [.bool b47, l48.v, l37.v]).bind fun h49 =>
 ((h49.cell (h5r.add 0)).bind AV.asBool).bind fun b50 =>
 ((h49.cell (h5r.add 1)).bind AV.asSl).bind fun l51 =>
 ((h49.cell (h5r.add 2)).bind AV.asSl).bind fun l52 =>
 some (.tup [.agg [.bool b50, l51.v, l52.v], .int .i64 0], h49)) none)))) := (ke _ h).trans (by kernel_rfl)
theorem ko3 (a1 : Int) (a2 : Ref) (a3 : Ref) (a4 : Ref) (a5 : Ref) (a6 : Sl) (a7 : Int) (a8 : Int) (h : AH) : go (.pt F.kci Td.ke4 [(0, .int .i64 a1), (6, .ptr (some a2)), (10, .ptr (some a3)), (13, .func (.func F.kc3) [] [.ptr (some a4), .ptr (some a5)]), (47, a6.v), (48, .int .i64 a7), (49, .int .i64 a8)]) h =
 cond (decide (a8 < a7)) (
 (idx a6.ref a6.len a8 2).bind fun r9 =>
 ((h.cell (r9.add 0)).bind (AV.asInt .i64)).bind fun n10 =>
 ((h.cell (r9.add 1)).bind (AV.asInt .i64)).bind fun n11 =>
 newK h (.cells [.int .i64 0, .int .i64 0] T.ko) fun h12r h12 =>
 (h12.puts h12r [.int .i64 n10, .int .i64 n11]).bind fun h13 =>
 ((h13.cell (h12r.add 0)).bind (AV.asInt .i64)).bind fun n14 =>
 ((h13.cell (h12r.add 1)).bind (AV.asInt .i64)).bind fun n15 =>
 ((h13.cell (a2.add 0)).bind (AV.asInt .i64)).bind fun n16 =>
 ((h13.cell (a2.add 1)).bind (AV.asInt .i64)).bind fun n17 =>
 (go (.fn F.kiz [.int .i64 a1, .agg [.int .i64 n14, .int .i64 n15], .agg [.int .i64 n16, .int .i64 n17]]) h13).bind fun q18 =>
 (AV.asTup2 q18.1).bind fun p19 =>
 (AV.asAgg p19.1).bind fun cs20 =>
 cond (Nat.beq cs20.length 3) (
 ((cs20[0]?).bind AV.asBool).bind fun b21 =>
 ((cs20[1]?).bind AV.asSl).bind fun l22 =>
 ((cs20[2]?).bind AV.asSl).bind fun l23 =>
 ((some p19.2).bind (AV.asInt .i64)).bind fun n24 =>
 newK q18.2 (.cells [.bool false, (⟨none, 0, .is 0⟩ : Sl).v, (⟨none, 0, .is 0⟩ : Sl).v] T.kq) fun h25r h25 =>
 (h25.puts h25r [.bool b21, l22.v, l23.v]).bind fun h26 =>
 cond (!decide (n24 = 0)) (
 some (.tup [(⟨none, 0, .is 0⟩ : Sl).v, .int .i64 n24], h26)) (
 ((h26.cell (h12r.add 1)).bind (AV.asInt .i64)).bind fun n27 =>
 cond (decide (n27 > 0)) (
 ((h26.cell (h12r.add 1)).bind (AV.asInt .i64)).bind fun n28 =>
 ((h26.cell (a2.add 1)).bind (AV.asInt .i64)).bind fun n29 =>
 cond (decide (n28 < n29)) (
 ((h26.cell (h25r.add 0)).bind AV.asBool).bind fun b30 =>
 ((h26.cell (h25r.add 1)).bind AV.asSl).bind fun l31 =>
 ((h26.cell (h25r.add 2)).bind AV.asSl).bind fun l32 =>
 (go (.fn F.kc3 [.int .i64 a8, .agg [.bool b30, l31.v, l32.v], .ptr (some a4), .ptr (some a5)]) h26).bind fun q33 =>
 (AV.asTup0 q33.1).bind fun _ =>
 go (.pt F.kci Td.ke4 [(0, .int .i64 a1), (6, .ptr (some a2)), (10, .ptr (some a3)), (13, .func (.func F.kc3) [] [.ptr (some a4), .ptr (some a5)]), (47, a6.v), (48, .int .i64 a7), (49, .int .i64 (IntKind.wrap .i64 (a8 + 1)))]) q33.2) (
 go (.pt F.kci Td.ke4 [(0, .int .i64 a1), (6, .ptr (some a2)), (10, .ptr (some a3)), (13, .func (.func F.kc3) [] [.ptr (some a4), .ptr (some a5)]), (47, a6.v), (48, .int .i64 a7), (49, .int .i64 (IntKind.wrap .i64 (a8 + 1)))]) h26)) (
 go (.pt F.kci Td.ke4 [(0, .int .i64 a1), (6, .ptr (some a2)), (10, .ptr (some a3)), (13, .func (.func F.kc3) [] [.ptr (some a4), .ptr (some a5)]), (47, a6.v), (48, .int .i64 a7), (49, .int .i64 (IntKind.wrap .i64 (a8 + 1)))]) h26))) none) (
 ((h.cell a3).bind AV.asSl).bind fun l34 =>
 some (.tup [l34.v, .int .i64 0], h)) := (ke _ h).trans (by kernel_rfl)
theorem knu (a1 : Int) (a2 : Sl) (a3 : Sl) (a4 : Int) (h : AH) : go (.pt F.kch Td.kh9 [(8, .int .i64 a1), (11, a2.v), (15, a3.v), (17, .int .i64 a4)]) h =
 cond (decide (a4 < (a2.len : Int))) (
 (idx a2.ref a2.len a4 1).bind fun r5 =>
 ((h.cell r5).bind (AV.asInt .i64)).bind fun n6 =>
 cond (decide (n6 < 0)) (
 some (.bool false, h)) (
 (idx a2.ref a2.len a4 1).bind fun r7 =>
 ((h.cell r7).bind (AV.asInt .i64)).bind fun n8 =>
 cond (decide (n8 ≥ a1)) (
 some (.bool false, h)) (
 (idx a2.ref a2.len a4 1).bind fun r9 =>
 ((h.cell r9).bind (AV.asInt .i64)).bind fun n10 =>
 (idx a3.ref a3.len n10 1).bind fun r11 =>
 ((h.cell r11).bind AV.asBool).bind fun b12 =>
 cond (!b12) (
 some (.bool false, h)) (
 go (.pt F.kch Td.kh9 [(8, .int .i64 a1), (11, a2.v), (15, a3.v), (17, .int .i64 (IntKind.wrap .i64 (a4 + 1)))]) h)))) (
 some (.bool true, h)) := (ke _ h).trans (by kernel_rfl)
theorem kx6 (a1 : Sl) (a2 : Sl) (a3 : Sl) (a4 : Int) (a5 : Int) (h : AH) : go (.pt F.kbx Td.kjf [(1, a1.v), (5, a2.v), (20, a3.v), (21, .int .i64 a4), (22, .int .i64 a5)]) h =
 cond (decide (a5 < a4)) (
 (idx a3.ref a3.len a5 1).bind fun r6 =>
 ((h.cell r6).bind (AV.asInt .u64)).bind fun n7 =>
 go (.pt F.kbx Td.kjb [(1, a1.v), (5, a2.v), (6, .int .i64 a5), (7, .int .u64 n7), (8, .int .u64 0), (20, a3.v), (21, .int .i64 a4), (22, .int .i64 a5), (27, a1.v), (28, .int .i64 (a1.len : Int)), (29, .int .i64 0)]) h) (
 (go (.fn F.kz [a2.v]) h).bind fun q8 =>
 ((some q8.1).bind AV.asSl).bind fun l9 =>
 some (l9.v, q8.2)) := (ke _ h).trans (by kernel_rfl)
theorem kok (a1 : Sl) (a2 : Sl) (a3 : Sl) (a4 : Int) (a5 : Int) (a6 : Int) (h : AH) : go (.pt F.kb1 Td.kdw [(0, a1.v), (1, a2.v), (5, a3.v), (6, .int .u64 a4), (21, .int .i64 a5), (22, .int .i64 a6)]) h =
 cond (decide (a6 < a5)) (
 cond (decide (a6 < (a2.len : Int))) (
 (idx a2.ref a2.len a6 1).bind fun r7 =>
 ((h.cell r7).bind (AV.asInt .u64)).bind fun n8 =>
 (idx a1.ref a1.len a6 1).bind fun r9 =>
 ((h.cell r9).bind (AV.asInt .u64)).bind fun n10 =>
 ((prim "math/bits.Add64" [.int .u64 n10, .int .u64 n8, .int .u64 a4]).map fun v => (v, h)).bind fun q11 =>
 (AV.asTup2 q11.1).bind fun p12 =>
 ((some p12.1).bind (AV.asInt .u64)).bind fun n13 =>
 ((some p12.2).bind (AV.asInt .u64)).bind fun n14 =>
 (idx a3.ref a3.len a6 1).bind fun r15 =>
 (q11.2.puts r15 [.int .u64 n13]).bind fun h16 =>
 go (.pt F.kb1 Td.kdw [(0, a1.v), (1, a2.v), (5, a3.v), (6, .int .u64 n14), (21, .int .i64 a5), (22, .int .i64 (IntKind.wrap .i64 (a6 + 1)))]) h16) (
 (idx a1.ref a1.len a6 1).bind fun r17 =>
 ((h.cell r17).bind (AV.asInt .u64)).bind fun n18 =>
 ((prim "math/bits.Add64" [.int .u64 n18, .int .u64 0, .int .u64 a4]).map fun v => (v, h)).bind fun q19 =>
 (AV.asTup2 q19.1).bind fun p20 =>
 ((some p20.1).bind (AV.asInt .u64)).bind fun n21 =>
 ((some p20.2).bind (AV.asInt .u64)).bind fun n22 =>
 (idx a3.ref a3.len a6 1).bind fun r23 =>
 (q19.2.puts r23 [.int .u64 n21]).bind fun h24 =>
 go (.pt F.kb1 Td.kdw [(0, a1.v), (1, a2.v), (5, a3.v), (6, .int .u64 n22), (21, .int .i64 a5), (22, .int .i64 (IntKind.wrap .i64 (a6 + 1)))]) h24)) (
 (idx a3.ref a3.len (a1.len : Int) 1).bind fun r25 =>
 (h.puts r25 [.int .u64 a4]).bind fun h26 =>
 some (a3.v, h26)) := (ke _ h).trans (by kernel_rfl)
theorem kh1 (a1 : Sl) (a2 : Int) (h : AH) : go (.pt F.kz Td.kgj [(0, a1.v), (3, .int .i64 a2)]) h =
 cond (decide (a2 > 0)) (
 (idx a1.ref a1.len (IntKind.wrap .i64 (a2 - 1)) 1).bind fun r3 =>
 ((h.cell r3).bind (AV.asInt .u64)).bind fun n4 =>
 cond (decide (n4 = 0)) (
 go (.pt F.kz Td.kgj [(0, a1.v), (3, .int .i64 (IntKind.wrap .i64 (a2 - 1)))]) h) (
 (cutSl a1 0 a2 1).bind fun l5 =>
 some (l5.v, h))) (
 (cutSl a1 0 a2 1).bind fun l6 =>
 some (l6.v, h)) := (ke _ h).trans (by kernel_rfl)
theorem ko8 (a1 : Sl) (a2 : Sl) (a3 : Sl) (a4 : Int) (a5 : Int) (a6 : Int) (h : AH) : go (.pt F.kb2 Td.kfm [(0, a1.v), (1, a2.v), (5, a3.v), (6, .int .u64 a4), (13, .int .i64 a5), (14, .int .i64 a6)]) h =
 cond (decide (a6 < a5)) (
 cond (decide (a6 < (a2.len : Int))) (
 (idx a2.ref a2.len a6 1).bind fun r7 =>
 ((h.cell r7).bind (AV.asInt .u64)).bind fun n8 =>
 (idx a1.ref a1.len a6 1).bind fun r9 =>
 ((h.cell r9).bind (AV.asInt .u64)).bind fun n10 =>
 ((prim "math/bits.Sub64" [.int .u64 n10, .int .u64 n8, .int .u64 a4]).map fun v => (v, h)).bind fun q11 =>
 (AV.asTup2 q11.1).bind fun p12 =>
 ((some p12.1).bind (AV.asInt .u64)).bind fun n13 =>
 ((some p12.2).bind (AV.asInt .u64)).bind fun n14 =>
 (idx a3.ref a3.len a6 1).bind fun r15 =>
 (q11.2.puts r15 [.int .u64 n13]).bind fun h16 =>
 go (.pt F.kb2 Td.kfm [(0, a1.v), (1, a2.v), (5, a3.v), (6, .int .u64 n14), (13, .int .i64 a5), (14, .int .i64 (IntKind.wrap .i64 (a6 + 1)))]) h16) (
 (idx a1.ref a1.len a6 1).bind fun r17 =>
 ((h.cell r17).bind (AV.asInt .u64)).bind fun n18 =>
 ((prim "math/bits.Sub64" [.int .u64 n18, .int .u64 0, .int .u64 a4]).map fun v => (v, h)).bind fun q19 =>
 (AV.asTup2 q19.1).bind fun p20 =>
 ((some p20.1).bind (AV.asInt .u64)).bind fun n21 =>
 ((some p20.2).bind (AV.asInt .u64)).bind fun n22 =>
 (idx a3.ref a3.len a6 1).bind fun r23 =>
 (q19.2.puts r23 [.int .u64 n21]).bind fun h24 =>
 go (.pt F.kb2 Td.kfm [(0, a1.v), (1, a2.v), (5, a3.v), (6, .int .u64 n22), (13, .int .i64 a5), (14, .int .i64 (IntKind.wrap .i64 (a6 + 1)))]) h24)) (
 some (a3.v, h)) := (ke _ h).trans (by kernel_rfl)
theorem kwk (a1 : Sl) (a2 : Sl) (a3 : Int) (a4 : Int) (a5 : Int) (h : AH) : go (.pt F.kcc Td.keo [(0, a1.v), (1, a2.v), (2, .int .i64 a3), (6, .int .u64 a4), (7, .int .i64 a5)]) h =
 cond (decide (a5 < (a1.len : Int))) (
 cond (decide ((IntKind.wrap .i64 (a5 - a3)) < (a2.len : Int))) (
 cond (decide ((IntKind.wrap .i64 (a5 - a3)) < (a2.len : Int))) (
 (idx a2.ref a2.len (IntKind.wrap .i64 (a5 - a3)) 1).bind fun r6 =>
 ((h.cell r6).bind (AV.asInt .u64)).bind fun n7 =>
 (idx a1.ref a1.len a5 1).bind fun r8 =>
 ((h.cell r8).bind (AV.asInt .u64)).bind fun n9 =>
 ((prim "math/bits.Add64" [.int .u64 n9, .int .u64 n7, .int .u64 a4]).map fun v => (v, h)).bind fun q10 =>
 (AV.asTup2 q10.1).bind fun p11 =>
 ((some p11.1).bind (AV.asInt .u64)).bind fun n12 =>
 ((some p11.2).bind (AV.asInt .u64)).bind fun n13 =>
 (idx a1.ref a1.len a5 1).bind fun r14 =>
 (q10.2.puts r14 [.int .u64 n12]).bind fun h15 =>
 go (.pt F.kcc Td.keo [(0, a1.v), (1, a2.v), (2, .int .i64 a3), (6, .int .u64 n13), (7, .int .i64 (IntKind.wrap .i64 (a5 + 1)))]) h15) (
 (idx a1.ref a1.len a5 1).bind fun r16 =>
 ((h.cell r16).bind (AV.asInt .u64)).bind fun n17 =>
 ((prim "math/bits.Add64" [.int .u64 n17, .int .u64 0, .int .u64 a4]).map fun v => (v, h)).bind fun q18 =>
 (AV.asTup2 q18.1).bind fun p19 =>
 ((some p19.1).bind (AV.asInt .u64)).bind fun n20 =>
 ((some p19.2).bind (AV.asInt .u64)).bind fun n21 =>
 (idx a1.ref a1.len a5 1).bind fun r22 =>
 (q18.2.puts r22 [.int .u64 n20]).bind fun h23 =>
 go (.pt F.kcc Td.keo [(0, a1.v), (1, a2.v), (2, .int .i64 a3), (6, .int .u64 n21), (7, .int .i64 (IntKind.wrap .i64 (a5 + 1)))]) h23)) (
 cond (decide (a4 > 0)) (
 cond (decide ((IntKind.wrap .i64 (a5 - a3)) < (a2.len : Int))) (
 (idx a2.ref a2.len (IntKind.wrap .i64 (a5 - a3)) 1).bind fun r24 =>
 ((h.cell r24).bind (AV.asInt .u64)).bind fun n25 =>
 (idx a1.ref a1.len a5 1).bind fun r26 =>
 ((h.cell r26).bind (AV.asInt .u64)).bind fun n27 =>
 ((prim "math/bits.Add64" [.int .u64 n27, .int .u64 n25, .int .u64 a4]).map fun v => (v, h)).bind fun q28 =>
 (AV.asTup2 q28.1).bind fun p29 =>
 ((some p29.1).bind (AV.asInt .u64)).bind fun n30 =>
 ((some p29.2).bind (AV.asInt .u64)).bind fun n31 =>
 (idx a1.ref a1.len a5 1).bind fun r32 =>
 (q28.2.puts r32 [.int .u64 n30]).bind fun h33 =>
 go (.pt F.kcc Td.keo [(0, a1.v), (1, a2.v), (2, .int .i64 a3), (6, .int .u64 n31), (7, .int .i64 (IntKind.wrap .i64 (a5 + 1)))]) h33) (
 (idx a1.ref a1.len a5 1).bind fun r34 =>
 ((h.cell r34).bind (AV.asInt .u64)).bind fun n35 =>
 ((prim "math/bits.Add64" [.int .u64 n35, .int .u64 0, .int .u64 a4]).map fun v => (v, h)).bind fun q36 =>
 (AV.asTup2 q36.1).bind fun p37 =>
 ((some p37.1).bind (AV.asInt .u64)).bind fun n38 =>
 ((some p37.2).bind (AV.asInt .u64)).bind fun n39 =>
 (idx a1.ref a1.len a5 1).bind fun r40 =>
 (q36.2.puts r40 [.int .u64 n38]).bind fun h41 =>
 go (.pt F.kcc Td.keo [(0, a1.v), (1, a2.v), (2, .int .i64 a3), (6, .int .u64 n39), (7, .int .i64 (IntKind.wrap .i64 (a5 + 1)))]) h41)) (
 some (.tup [], h)))) (
 some (.tup [], h)) := (ke _ h).trans (by kernel_rfl)
theorem kr1 (a1 : Bool) (a2 : Sl) (a3 : Bool) (a4 : Sl) (h : AH) : go (.fn F.kjc [.agg [.bool a1, a2.v], .agg [.bool a3, a4.v]]) h =
 newK h (.cells [.bool a1, a2.v] T.kf) fun h5r h5 =>
 newK h5 (.cells [.bool a3, a4.v] T.kf) fun h6r h6 =>
 newK h6 (.cells [.bool false, (⟨none, 0, .is 0⟩ : Sl).v] T.kf) fun h7r h7 =>
 ((h7.cell (h5r.add 0)).bind AV.asBool).bind fun b8 =>
 ((h7.cell (h5r.add 1)).bind AV.asSl).bind fun l9 =>
 ((h7.cell (h6r.add 0)).bind AV.asBool).bind fun b10 =>
 ((h7.cell (h6r.add 1)).bind AV.asSl).bind fun l11 =>
 newK h7 (.cells [.bool b8, l9.v, .bool b10, l11.v] T.kf) fun h12r h12 =>
 (go (.fn F.ke7 [(⟨some h12r, 2, .is 2⟩ : Sl).v]) h12).bind fun q13 =>
 ((some q13.1).bind AV.asBool).bind fun b14 =>
 cond (!b14) (
 (q13.2.puts h7r [.bool false, (⟨none, 0, .is 0⟩ : Sl).v]).bind fun h15 =>
 ((h15.cell (h7r.add 0)).bind AV.asBool).bind fun b16 =>
 ((h15.cell (h7r.add 1)).bind AV.asSl).bind fun l17 =>
 some (.tup [.agg [.bool b16, l17.v], .int .i64 1], h15)) (
 ((q13.2.cell (h5r.add 1)).bind AV.asSl).bind fun l18 =>
 ((q13.2.cell (h6r.add 1)).bind AV.asSl).bind fun l19 =>
 (go (.fn F.kgl [l18.v, l19.v]) q13.2).bind fun q20 =>
 (AV.asTup2 q20.1).bind fun p21 =>
 ((some p21.1).bind AV.asSl).bind fun l22 =>
 ((some p21.2).bind (AV.asInt .i64)).bind fun n23 =>
 ((q20.2.cell (h5r.add 0)).bind AV.asBool).bind fun b24 =>
 ((q20.2.cell (h6r.add 0)).bind AV.asBool).bind fun b25 =>
 (go (.fn F.kca [.bool (!(b24 == b25)), l22.v]) q20.2).bind fun q26 =>
 (AV.asAgg q26.1).bind fun cs27 =>
 cond (Nat.beq cs27.length 2) (
 ((cs27[0]?).bind AV.asBool).bind fun b28 =>
 ((cs27[1]?).bind AV.asSl).bind fun l29 =>
 (q26.2.puts h7r [.bool b28, l29.v]).bind fun h30 =>
 ((h30.cell (h7r.add 0)).bind AV.asBool).bind fun b31 =>
 ((h30.cell (h7r.add 1)).bind AV.asSl).bind fun l32 =>
 some (.tup [.agg [.bool b31, l32.v], .int .i64 n23], h30)) none) := (ke _ h).trans (by kernel_rfl)
theorem kxy (a1 : Int) (h : AH) : go (.fn F.kdl [.int .u64 a1]) h =
 newK h (.cells [.int .u64 a1] T.kg) fun h2r h2 =>
 (go (.fn F.kz [(⟨some h2r, 1, .is 1⟩ : Sl).v]) h2).bind fun q3 =>
 ((some q3.1).bind AV.asSl).bind fun l4 =>
 some (l4.v, q3.2) := (ke _ h).trans (by kernel_rfl)
theorem kum (a1 : Bool) (a2 : Sl) (h : AH) : go (.fn F.kca [.bool a1, a2.v]) h =
 newK h (.cells [.bool false, (⟨none, 0, .is 0⟩ : Sl).v] T.kf) fun h3r h3 =>
 (go (.fn F.kdo [a2.v]) h3).bind fun q4 =>
 ((some q4.1).bind AV.asBool).bind fun b5 =>
 cond (!b5) (
 (q4.2.puts h3r [.bool false, (⟨none, 0, .is 0⟩ : Sl).v]).bind fun h6 =>
 ((h6.cell (h3r.add 0)).bind AV.asBool).bind fun b7 =>
 ((h6.cell (h3r.add 1)).bind AV.asSl).bind fun l8 =>
 some (.agg [.bool b7, l8.v], h6)) (
 cond (decide ((a2.len : Int) = 0)) (
 (q4.2.puts h3r [.bool false, (⟨none, 0, .is 0⟩ : Sl).v]).bind fun h9 =>
 ((h9.cell (h3r.add 0)).bind AV.asBool).bind fun b10 =>
 ((h9.cell (h3r.add 1)).bind AV.asSl).bind fun l11 =>
 some (.agg [.bool b10, l11.v], h9)) (
 (go (.fn F.kez [a2.v]) q4.2).bind fun q12 =>
 ((some q12.1).bind AV.asSl).bind fun l13 =>
 (q12.2.puts h3r [.bool a1, l13.v]).bind fun h14 =>
 ((h14.cell (h3r.add 0)).bind AV.asBool).bind fun b15 =>
 ((h14.cell (h3r.add 1)).bind AV.asSl).bind fun l16 =>
 some (.agg [.bool b15, l16.v], h14))) := (ke _ h).trans (by kernel_rfl)
theorem kwj (a1 : Bool) (a2 : Sl) (h : AH) : go (.fn F.kfp [.agg [.bool a1, a2.v]]) h =
 newK h (.cells [.bool a1, a2.v] T.kf) fun h3r h3 =>
 ((h3.cell (h3r.add 1)).bind AV.asSl).bind fun l4 =>
 (go (.fn F.kdo [l4.v]) h3).bind fun q5 =>
 ((some q5.1).bind AV.asBool).bind fun b6 =>
 cond b6 (
 ((q5.2.cell (h3r.add 0)).bind AV.asBool).bind fun b7 =>
 cond (!b7) (
 some (.bool true, q5.2)) (
 ((q5.2.cell (h3r.add 1)).bind AV.asSl).bind fun l8 =>
 some (.bool (decide ((l8.len : Int) > 0)), q5.2))) (
 some (.bool false, q5.2)) := (ke _ h).trans (by kernel_rfl)
theorem ksm (a1 : Sl) (h : AH) : go (.fn F.kdo [a1.v]) h =
 cond (decide ((a1.len : Int) ≤ 64)) (
 cond (decide ((a1.len : Int) = 0)) (
 some (.bool true, h)) (
 (idx a1.ref a1.len (IntKind.wrap .i64 ((a1.len : Int) - 1)) 1).bind fun r2 =>
 ((h.cell r2).bind (AV.asInt .u64)).bind fun n3 =>
 some (.bool (!decide (n3 = 0)), h))) (
 some (.bool false, h)) := (ke _ h).trans (by kernel_rfl)
theorem ky1 (a1 : Sl) (a2 : Sl) (h : AH) : go (.fn F.kdr [a1.v, a2.v]) h =
 (go (.fn F.kdo [a1.v]) h).bind fun q3 =>
 ((some q3.1).bind AV.asBool).bind fun b4 =>
 cond (!b4) (
 some (.tup [(⟨none, 0, .is 0⟩ : Sl).v, .int .i64 1], q3.2)) (
 (go (.fn F.kdo [a2.v]) q3.2).bind fun q5 =>
 ((some q5.1).bind AV.asBool).bind fun b6 =>
 cond (!b6) (
 some (.tup [(⟨none, 0, .is 0⟩ : Sl).v, .int .i64 1], q5.2)) (
 (go (.fn F.kez [a1.v]) q5.2).bind fun q7 =>
 ((some q7.1).bind AV.asSl).bind fun l8 =>
 (go (.fn F.kez [a2.v]) q7.2).bind fun q9 =>
 ((some q9.1).bind AV.asSl).bind fun l10 =>
 go (.pt F.kdr Td.kjo [(0, l8.v), (1, l10.v)]) q9.2)) := (ke _ h).trans (by kernel_rfl)
theorem kuf (a1 : Sl) (a2 : Sl) (h : AH) : go (.fn F.kfc [a1.v, a2.v]) h =
 newK h (.cells [a1.v, a2.v] T.kbs) fun h3r h3 =>
 (go (.fn F.kdx [(⟨some h3r, 2, .is 2⟩ : Sl).v]) h3).bind fun q4 =>
 ((some q4.1).bind AV.asBool).bind fun b5 =>
 cond (!b5) (
 some (.tup [(⟨none, 0, .is 0⟩ : Sl).v, (⟨none, 0, .is 0⟩ : Sl).v, .int .i64 1], q4.2)) (
 cond (decide ((a2.len : Int) = 0)) (
 some (.tup [(⟨none, 0, .is 0⟩ : Sl).v, (⟨none, 0, .is 0⟩ : Sl).v, .int .i64 3], q4.2)) (
 (go (.fn F.kc0 [a1.v, a2.v]) q4.2).bind fun q6 =>
 ((some q6.1).bind (AV.asInt .i64)).bind fun n7 =>
 cond (decide (n7 < 0)) (
 (go (.fn F.kez [a1.v]) q6.2).bind fun q8 =>
 ((some q8.1).bind AV.asSl).bind fun l9 =>
 some (.tup [(⟨none, 0, .is 0⟩ : Sl).v, l9.v, .int .i64 0], q8.2)) (
 cond (decide ((a2.len : Int) = 1)) (
 (idx a2.ref a2.len 0 1).bind fun r10 =>
 ((q6.2.cell r10).bind (AV.asInt .u64)).bind fun n11 =>
 (go (.fn F.kdc [a1.v, .int .u64 n11]) q6.2).bind fun q12 =>
 (AV.asTup2 q12.1).bind fun p13 =>
 ((some p13.1).bind AV.asSl).bind fun l14 =>
 ((some p13.2).bind (AV.asInt .u64)).bind fun n15 =>
 (go (.fn F.kdl [.int .u64 n15]) q12.2).bind fun q16 =>
 ((some q16.1).bind AV.asSl).bind fun l17 =>
 some (.tup [l14.v, l17.v, .int .i64 0], q16.2)) (
 (go (.fn F.kbl [a1.v, a2.v]) q6.2).bind fun q18 =>
 (AV.asTup2 q18.1).bind fun p19 =>
 ((some p19.1).bind AV.asSl).bind fun l20 =>
 ((some p19.2).bind AV.asSl).bind fun l21 =>
 some (.tup [l20.v, l21.v, .int .i64 0], q18.2))))) := (ke _ h).trans (by kernel_rfl)
theorem kyf (a1 : Int) (a2 : Int) (a3 : Int) (a4 : Int) (a5 : Int) (h : AH) : go (.fn F.kiz [.int .i64 a1, .agg [.int .i64 a2, .int .i64 a3], .agg [.int .i64 a4, .int .i64 a5]]) h =
 newK h (.cells [.int .i64 a1] T.int) fun h6r h6 =>
 newK h6 (.cells [.int .i64 a2, .int .i64 a3] T.ko) fun h7r h7 =>
 newK h7 (.cells [.int .i64 a4, .int .i64 a5] T.ko) fun h8r h8 =>
 newK h8 (.cells [.bool false, (⟨none, 0, .is 0⟩ : Sl).v, (⟨none, 0, .is 0⟩ : Sl).v] T.kq) fun h9r h9 =>
 ((h9.cell (h7r.add 0)).bind (AV.asInt .i64)).bind fun n10 =>
 ((h9.cell (h7r.add 1)).bind (AV.asInt .i64)).bind fun n11 =>
 ((h9.cell (h8r.add 0)).bind (AV.asInt .i64)).bind fun n12 =>
 ((h9.cell (h8r.add 1)).bind (AV.asInt .i64)).bind fun n13 =>
 (go (.fn F.kj7 [.agg [.int .i64 n10, .int .i64 n11], .agg [.int .i64 n12, .int .i64 n13]]) h9).bind fun q14 =>
 (AV.asTup2 q14.1).bind fun p15 =>
 (AV.asAgg p15.1).bind fun cs16 =>
 cond (Nat.beq cs16.length 2) (
 ((cs16[0]?).bind (AV.asInt .i64)).bind fun n17 =>
 ((cs16[1]?).bind (AV.asInt .i64)).bind fun n18 =>
 ((some p15.2).bind AV.asBool).bind fun b19 =>
 newK q14.2 (.cells [.int .i64 0, .int .i64 0] T.ko) fun h20r h20 =>
 (h20.puts h20r [.int .i64 n17, .int .i64 n18]).bind fun h21 =>
 cond (!b19) (
 (h21.puts h9r [.bool false, (⟨none, 0, .is 0⟩ : Sl).v, (⟨none, 0, .is 0⟩ : Sl).v]).bind fun h22 =>
 ((h22.cell (h9r.add 0)).bind AV.asBool).bind fun b23 =>
 ((h22.cell (h9r.add 1)).bind AV.asSl).bind fun l24 =>
 ((h22.cell (h9r.add 2)).bind AV.asSl).bind fun l25 =>
 some (.tup [.agg [.bool b23, l24.v, l25.v], .int .i64 1], h22)) (
 ((h21.cell h6r).bind (AV.asInt .i64)).bind fun n26 =>
 (go (.fn F.kgf [.int .i64 n26]) h21).bind fun q27 =>
 ((some q27.1).bind AV.asBool).bind fun b28 =>
 cond (!b28) (
 (q27.2.puts h9r [.bool false, (⟨none, 0, .is 0⟩ : Sl).v, (⟨none, 0, .is 0⟩ : Sl).v]).bind fun h29 =>
 ((h29.cell (h9r.add 0)).bind AV.asBool).bind fun b30 =>
 ((h29.cell (h9r.add 1)).bind AV.asSl).bind fun l31 =>
 ((h29.cell (h9r.add 2)).bind AV.asSl).bind fun l32 =>
 some (.tup [.agg [.bool b30, l31.v, l32.v], .int .i64 1], h29)) (
 newK q27.2 (.cells [.bool false, (⟨none, 0, .is 0⟩ : Sl).v, (⟨none, 0, .is 0⟩ : Sl).v] T.kq) fun h33r h33 =>
 ((h33.cell (h7r.add 0)).bind (AV.asInt .i64)).bind fun n34 =>
 ((h33.cell (h7r.add 1)).bind (AV.asInt .i64)).bind fun n35 =>
 ((h33.cell (h20r.add 0)).bind (AV.asInt .i64)).bind fun n36 =>
 ((h33.cell (h20r.add 1)).bind (AV.asInt .i64)).bind fun n37 =>
 (go (.fn F.khs [.agg [.int .i64 n34, .int .i64 n35], .ptr (some h6r)]) h33).bind fun q38 =>
 (AV.asAgg q38.1).bind fun cs39 =>
 cond (Nat.beq cs39.length 3) (
 ((cs39[0]?).bind AV.asBool).bind fun b40 =>
 ((cs39[1]?).bind AV.asSl).bind fun l41 =>
 ((cs39[2]?).bind AV.asSl).bind fun l42 =>
 whenK (SameAt h33 q38.2 h20r 2) (
 whenK (SameAt h33 q38.2 h33r 0) (
 (go (.fn F.khs [.agg [.int .i64 n36, .int .i64 n37], .ptr (some h6r)]) q38.2).bind fun q43 =>
 (AV.asAgg q43.1).bind fun cs44 =>
 cond (Nat.beq cs44.length 3) (
 ((cs44[0]?).bind AV.asBool).bind fun b45 =>
 ((cs44[1]?).bind AV.asSl).bind fun l46 =>
 ((cs44[2]?).bind AV.asSl).bind fun l47 =>
 whenK (SameAt q38.2 q43.2 h33r 0) (
 (go (.fn F.khn [.agg [.bool b40, l41.v, l42.v], .agg [.bool b45, l46.v, l47.v]]) q43.2).bind fun q48 =>
 (AV.asTup2 q48.1).bind fun p49 =>
 (AV.asAgg p49.1).bind fun cs50 =>
 cond (Nat.beq cs50.length 3) (
 ((cs50[0]?).bind AV.asBool).bind fun b51 =>
 ((cs50[1]?).bind AV.asSl).bind fun l52 =>
 ((cs50[2]?).bind AV.asSl).bind fun l53 =>
 ((some p49.2).bind (AV.asInt .i64)).bind fun n54 =>
 whenK (SameAt q43.2 q48.2 h33r 0) (
 (q48.2.puts h33r [.bool b51, l52.v, l53.v]).bind fun h55 =>
 ((h55.cell (h33r.add 0)).bind AV.asBool).bind fun b56 =>
 ((h55.cell (h33r.add 1)).bind AV.asSl).bind fun l57 =>
 ((h55.cell (h33r.add 2)).bind AV.asSl).bind fun l58 =>
 ((h55.cell (h8r.add 0)).bind (AV.asInt .i64)).bind fun n59 =>
 ((h55.cell (h8r.add 1)).bind (AV.asInt .i64)).bind fun n60 =>
 (go (.fn F.khs [.agg [.int .i64 n59, .int .i64 n60], .ptr (some h6r)]) h55).bind fun q61 =>
 (AV.asAgg q61.1).bind fun cs62 =>
 cond (Nat.beq cs62.length 3) (
 ((cs62[0]?).bind AV.asBool).bind fun b63 =>
 ((cs62[1]?).bind AV.asSl).bind fun l64 =>
 ((cs62[2]?).bind AV.asSl).bind fun l65 =>
 whenK (SameAt h55 q61.2 h33r 3) (
 (go (.fn F.kjl [.agg [.bool b56, l57.v, l58.v], .agg [.bool b63, l64.v, l65.v]]) q61.2).bind fun q66 =>
 (AV.asTup2 q66.1).bind fun p67 =>
 (AV.asAgg p67.1).bind fun cs68 =>
 cond (Nat.beq cs68.length 3) (
 ((cs68[0]?).bind AV.asBool).bind fun b69 =>
 ((cs68[1]?).bind AV.asSl).bind fun l70 =>
 ((cs68[2]?).bind AV.asSl).bind fun l71 =>
 ((some p67.2).bind (AV.asInt .i64)).bind fun n72 =>
 (q66.2.puts h9r [.bool b69, l70.v, l71.v]).bind fun h73 =>
 ((h73.cell (h9r.add 0)).bind AV.asBool).bind fun b74 =>
 ((h73.cell (h9r.add 1)).bind AV.asSl).bind fun l75 =>
 ((h73.cell (h9r.add 2)).bind AV.asSl).bind fun l76 =>
 some (.tup [.agg [.bool b74, l75.v, l76.v], .int .i64 n72], h73)) none)) none)) none)) none))) none))) none := (ke _ h).trans (by kernel_rfl)
theorem kqx (a1 : Int) (a2 : Bool) (a3 : Sl) (a4 : Sl) (a5 : Ref) (a6 : Ref) (h : AH) : go (.fn F.kc3 [.int .i64 a1, .agg [.bool a2, a3.v, a4.v], .ptr (some a5), .ptr (some a6)]) h =
 newK h (.cells [.bool a2, a3.v, a4.v] T.kq) fun h7r h7 =>
 ((h7.cell (h7r.add 0)).bind AV.asBool).bind fun b8 =>
 ((h7.cell (h7r.add 1)).bind AV.asSl).bind fun l9 =>
 ((h7.cell (h7r.add 2)).bind AV.asSl).bind fun l10 =>
 ((h7.cell (a5.add 0)).bind AV.asBool).bind fun b11 =>
 ((h7.cell (a5.add 1)).bind AV.asSl).bind fun l12 =>
 ((h7.cell (a5.add 2)).bind AV.asSl).bind fun l13 =>
 (go (.fn F.kj9 [.agg [.bool b8, l9.v, l10.v], .agg [.bool b11, l12.v, l13.v]]) h7).bind fun q14 =>
 ((some q14.1).bind (AV.asInt .i64)).bind fun n15 =>
 cond (decide (n15 > 0)) (
 ((q14.2.cell (h7r.add 0)).bind AV.asBool).bind fun b16 =>
 ((q14.2.cell (h7r.add 1)).bind AV.asSl).bind fun l17 =>
 ((q14.2.cell (h7r.add 2)).bind AV.asSl).bind fun l18 =>
 newK q14.2 (.cells [.int .i64 a1] T.int) fun h19r h19 =>
 whenK (SameAt q14.2 h19 h7r 3) (
 (h19.puts a6 [(⟨some h19r, 1, .is 1⟩ : Sl).v]).bind fun h20 =>
 whenK (SameAt h19 h20 h7r 3) (
 (h20.puts a5 [.bool b16, l17.v, l18.v]).bind fun h21 =>
 some (.tup [], h21)))) (
 cond (decide (n15 = 0)) (
 ((q14.2.cell a6).bind AV.asSl).bind fun l22 =>
 cond (decide ((l22.len : Int) > 0)) (
 ((q14.2.cell a6).bind AV.asSl).bind fun l23 =>
 newK q14.2 (.cells [.int .i64 a1] T.int) fun h24r h24 =>
 (kcm Pg T.int ((⟨some h24r, 1, .is 1⟩ : Sl).v) h24).bind fun p26 =>
 (kbb Pg l23 p26.1 p26.2 T.int 1 h24).bind fun q25 =>
 (AV.asSl q25.1).bind fun l27 =>
 (q25.2.puts a6 [l27.v]).bind fun h28 =>
 some (.tup [], h28)) (
 some (.tup [], q14.2))) (
 some (.tup [], q14.2))) := (ke _ h).trans (by kernel_rfl)
theorem kxq (a1 : Sl) (a2 : Sl) (a3 : Int) (a4 : Int) (a5 : Int) (a6 : Sl) (a7 : Int) (a8 : Int) (a9 : Sl) (a10 : Int) (a11 : Int) (h : AH) : go (.pt F.kbx Td.kjb [(1, a1.v), (5, a2.v), (6, .int .i64 a3), (7, .int .u64 a4), (8, .int .u64 a5), (20, a6.v), (21, .int .i64 a7), (22, .int .i64 a8), (27, a9.v), (28, .int .i64 a10), (29, .int .i64 a11)]) h =
 cond (decide (a11 < a10)) (
 (idx a9.ref a9.len a11 1).bind fun r12 =>
 ((h.cell r12).bind (AV.asInt .u64)).bind fun n13 =>
 (go (.fn F.kiq [.int .u64 a4, .int .u64 n13]) h).bind fun q14 =>
 (AV.asTup2 q14.1).bind fun p15 =>
 ((some p15.1).bind (AV.asInt .u64)).bind fun n16 =>
 ((some p15.2).bind (AV.asInt .u64)).bind fun n17 =>
 (idx a2.ref a2.len (IntKind.wrap .i64 (a3 + a11)) 1).bind fun r18 =>
 ((q14.2.cell r18).bind (AV.asInt .u64)).bind fun n19 =>
 ((prim "math/bits.Add64" [.int .u64 n17, .int .u64 n19, .int .u64 0]).map fun v => (v, q14.2)).bind fun q20 =>
 (AV.asTup2 q20.1).bind fun p21 =>
 ((some p21.1).bind (AV.asInt .u64)).bind fun n22 =>
 ((some p21.2).bind (AV.asInt .u64)).bind fun n23 =>
 ((prim "math/bits.Add64" [.int .u64 n22, .int .u64 a5, .int .u64 0]).map fun v => (v, q20.2)).bind fun q24 =>
 (AV.asTup2 q24.1).bind fun p25 =>
 ((some p25.1).bind (AV.asInt .u64)).bind fun n26 =>
 ((some p25.2).bind (AV.asInt .u64)).bind fun n27 =>
 (idx a2.ref a2.len (IntKind.wrap .i64 (a3 + a11)) 1).bind fun r28 =>
 (q24.2.puts r28 [.int .u64 n26]).bind fun h29 =>
 go (.pt F.kbx Td.kjb [(1, a1.v), (5, a2.v), (6, .int .i64 a3), (7, .int .u64 a4), (8, .int .u64 (IntKind.wrap .u64 ((IntKind.wrap .u64 (n16 + n23)) + n27))), (20, a6.v), (21, .int .i64 a7), (22, .int .i64 a8), (27, a9.v), (28, .int .i64 a10), (29, .int .i64 (IntKind.wrap .i64 (a11 + 1)))]) h29) (
 (idx a2.ref a2.len (IntKind.wrap .i64 (a3 + (a1.len : Int))) 1).bind fun r30 =>
 (h.puts r30 [.int .u64 a5]).bind fun h31 =>
 go (.pt F.kbx Td.kjf [(1, a1.v), (5, a2.v), (20, a6.v), (21, .int .i64 a7), (22, .int .i64 (IntKind.wrap .i64 (a8 + 1)))]) h31) := (ke _ h).trans (by kernel_rfl)
theorem kw6 (a1 : Sl) (h : AH) : go (.fn F.ke7 [a1.v]) h =
 (go (.fn F.kqb [a1.v, .func (.func F.kct) [] []]) h).bind fun q2 =>
 ((some q2.1).bind AV.asBool).bind fun b3 =>
 some (.bool (!b3), q2.2) := (ke _ h).trans (by kernel_rfl)
theorem kvk (a1 : Sl) (a2 : Sl) (h : AH) : go (.fn F.kgl [a1.v, a2.v]) h =
 newK h (.cells [a1.v, a2.v] T.kbs) fun h3r h3 =>
 (go (.fn F.kdx [(⟨some h3r, 2, .is 2⟩ : Sl).v]) h3).bind fun q4 =>
 ((some q4.1).bind AV.asBool).bind fun b5 =>
 cond (!b5) (
 some (.tup [(⟨none, 0, .is 0⟩ : Sl).v, .int .i64 1], q4.2)) (
 (go (.fn F.ki7 [a1.v, a2.v]) q4.2).bind fun q6 =>
 ((some q6.1).bind AV.asSl).bind fun l7 =>
 (go (.fn F.kg1 [l7.v]) q6.2).bind fun q8 =>
 (AV.asTup2 q8.1).bind fun p9 =>
 ((some p9.1).bind AV.asSl).bind fun l10 =>
 ((some p9.2).bind (AV.asInt .i64)).bind fun n11 =>
 some (.tup [l10.v, .int .i64 n11], q8.2)) := (ke _ h).trans (by kernel_rfl)
theorem ksa (a1 : Sl) (h : AH) : go (.fn F.kez [a1.v]) h =
 cond a1.ref.isNone (
 some ((⟨none, 0, .is 0⟩ : Sl).v, h)) (
 newK h (.cells [] T.kg) fun h2r h2 =>
 (kcm Pg T.kg a1.v h2).bind fun p4 =>
 (kbb Pg (⟨some h2r, 0, .is 0⟩ : Sl) p4.1 p4.2 T.kg 1 h2).bind fun q3 =>
 (AV.asSl q3.1).bind fun l5 =>
 some (l5.v, q3.2)) := (ke _ h).trans (by kernel_rfl)
theorem kv0 (a1 : Sl) (a2 : Sl) (h : AH) : go (.pt F.kdr Td.kjo [(0, a1.v), (1, a2.v)]) h =
 cond (decide ((a2.len : Int) > 0)) (
 (go (.fn F.kfc [a1.v, a2.v]) h).bind fun q3 =>
 (AV.asTup3 q3.1).bind fun p4 =>
 ((some p4.1).bind AV.asSl).bind fun l5 =>
 ((some p4.2.1).bind AV.asSl).bind fun l6 =>
 ((some p4.2.2).bind (AV.asInt .i64)).bind fun n7 =>
 go (.pt F.kdr Td.kjo [(0, a2.v), (1, l6.v)]) q3.2) (
 some (.tup [a1.v, .int .i64 0], h)) := (ke _ h).trans (by kernel_rfl)
theorem krg (a1 : Sl) (h : AH) : go (.fn F.kdx [a1.v]) h =
 (go (.fn F.kn7 [a1.v, .func (.func F.kcn) [] []]) h).bind fun q2 =>
 ((some q2.1).bind AV.asBool).bind fun b3 =>
 some (.bool (!b3), q2.2) := (ke _ h).trans (by kernel_rfl)
theorem kr6 (a1 : Sl) (a2 : Sl) (h : AH) : go (.fn F.kc0 [a1.v, a2.v]) h =
 cond (!decide ((a1.len : Int) = (a2.len : Int))) (
 cond (decide ((a1.len : Int) < (a2.len : Int))) (
 some (.int .i64 (-1), h)) (
 some (.int .i64 1, h))) (
 go (.pt F.kc0 Td.ki6 [(0, a1.v), (1, a2.v), (5, .int .i64 (IntKind.wrap .i64 ((a1.len : Int) - 1)))]) h) := (ke _ h).trans (by kernel_rfl)
theorem kul (a1 : Sl) (a2 : Int) (h : AH) : go (.fn F.kdc [a1.v, .int .u64 a2]) h =
 (kbq (a1.len : Int) (a1.len : Int) T.kg (Pg.bytesOf T.kg) [.int .u64 0] h).bind fun q3 =>
 go (.pt F.kdc Td.kio [(0, a1.v), (1, .int .u64 a2), (6, q3.1.v), (7, .int .u64 0), (8, .int .i64 (IntKind.wrap .i64 ((a1.len : Int) - 1)))]) q3.2 := (ke _ h).trans (by kernel_rfl)
theorem kzs (a1 : Sl) (a2 : Sl) (h : AH) : go (.fn F.kbl [a1.v, a2.v]) h =
 (idx a2.ref a2.len (IntKind.wrap .i64 ((a2.len : Int) - 1)) 1).bind fun r3 =>
 ((h.cell r3).bind (AV.asInt .u64)).bind fun n4 =>
 (go (.fn F.ki5 [.int .u64 n4]) h).bind fun q5 =>
 ((some q5.1).bind (AV.asInt .i64)).bind fun n6 =>
 (go (.fn F.kc2 [a1.v, .int .u64 (IntKind.wrap .u64 n6)]) q5.2).bind fun q7 =>
 ((some q7.1).bind AV.asSl).bind fun l8 =>
 (go (.fn F.kc2 [a2.v, .int .u64 (IntKind.wrap .u64 n6)]) q7.2).bind fun q9 =>
 ((some q9.1).bind AV.asSl).bind fun l10 =>
 (go (.fn F.kz [l10.v]) q9.2).bind fun q11 =>
 ((some q11.1).bind AV.asSl).bind fun l12 =>
 (kbq (IntKind.wrap .i64 ((l8.len : Int) - (l12.len : Int))) (IntKind.wrap .i64 ((l8.len : Int) - (l12.len : Int))) T.kg (Pg.bytesOf T.kg) [.int .u64 0] q11.2).bind fun q13 =>
 go (.pt F.kbl Td.kiw [(6, .int .u64 (IntKind.wrap .u64 n6)), (7, l8.v), (8, l12.v), (9, .int .i64 (l12.len : Int)), (10, q13.1.v), (11, .int .i64 (IntKind.wrap .i64 ((q13.1.len : Int) - 1)))]) q13.2 := (ke _ h).trans (by kernel_rfl)
theorem ky0 (a1 : Int) (a2 : Int) (a3 : Int) (a4 : Int) (h : AH) : go (.fn F.kj7 [.agg [.int .i64 a1, .int .i64 a2], .agg [.int .i64 a3, .int .i64 a4]]) h =
 newK h (.cells [.int .i64 a1, .int .i64 a2] T.ko) fun h5r h5 =>
 newK h5 (.cells [.int .i64 a3, .int .i64 a4] T.ko) fun h6r h6 =>
 newK h6 (.cells [.int .i64 0, .int .i64 0] T.ko) fun h7r h7 =>
 ((h7.cell (h5r.add 0)).bind (AV.asInt .i64)).bind fun n8 =>
 ((h7.cell (h5r.add 1)).bind (AV.asInt .i64)).bind fun n9 =>
 (go (.fn F.ke6 [.agg [.int .i64 n8, .int .i64 n9]]) h7).bind fun q10 =>
 ((some q10.1).bind AV.asBool).bind fun b11 =>
 cond (!b11) (
 (q10.2.puts h7r [.int .i64 0, .int .i64 0]).bind fun h12 =>
 ((h12.cell (h7r.add 0)).bind (AV.asInt .i64)).bind fun n13 =>
 ((h12.cell (h7r.add 1)).bind (AV.asInt .i64)).bind fun n14 =>
 some (.tup [.agg [.int .i64 n13, .int .i64 n14], .bool false], h12)) (
 ((q10.2.cell (h6r.add 0)).bind (AV.asInt .i64)).bind fun n15 =>
 ((q10.2.cell (h6r.add 1)).bind (AV.asInt .i64)).bind fun n16 =>
 (go (.fn F.ke6 [.agg [.int .i64 n15, .int .i64 n16]]) q10.2).bind fun q17 =>
 ((some q17.1).bind AV.asBool).bind fun b18 =>
 cond (!b18) (
 (q17.2.puts h7r [.int .i64 0, .int .i64 0]).bind fun h19 =>
 ((h19.cell (h7r.add 0)).bind (AV.asInt .i64)).bind fun n20 =>
 ((h19.cell (h7r.add 1)).bind (AV.asInt .i64)).bind fun n21 =>
 some (.tup [.agg [.int .i64 n20, .int .i64 n21], .bool false], h19)) (
 ((q17.2.cell (h6r.add 0)).bind (AV.asInt .i64)).bind fun n22 =>
 ((q17.2.cell (h5r.add 0)).bind (AV.asInt .i64)).bind fun n23 =>
 ((q17.2.cell (h6r.add 1)).bind (AV.asInt .i64)).bind fun n24 =>
 ((q17.2.cell (h5r.add 1)).bind (AV.asInt .i64)).bind fun n25 =>
 newK q17.2 (.cells [.int .i64 0, .int .i64 0] T.ko) fun h26r h26 =>
 (h26.puts h26r [.int .i64 (IntKind.wrap .i64 (n22 - n23)), .int .i64 (IntKind.wrap .i64 (n24 - n25))]).bind fun h27 =>
 ((h27.cell (h26r.add 0)).bind (AV.asInt .i64)).bind fun n28 =>
 ((h27.cell (h26r.add 1)).bind (AV.asInt .i64)).bind fun n29 =>
 ((h27.cell (h26r.add 0)).bind (AV.asInt .i64)).bind fun n30 =>
 ((h27.cell (h26r.add 1)).bind (AV.asInt .i64)).bind fun n31 =>
 (go (.fn F.ke6 [.agg [.int .i64 n30, .int .i64 n31]]) h27).bind fun q32 =>
 ((some q32.1).bind AV.asBool).bind fun b33 =>
 whenK (SameAt h27 q32.2 h26r 2) (
 (q32.2.puts h7r [.int .i64 n28, .int .i64 n29]).bind fun h34 =>
 ((h34.cell (h7r.add 0)).bind (AV.asInt .i64)).bind fun n35 =>
 ((h34.cell (h7r.add 1)).bind (AV.asInt .i64)).bind fun n36 =>
 some (.tup [.agg [.int .i64 n35, .int .i64 n36], .bool b33], h34)))) := (ke _ h).trans (by kernel_rfl)
theorem kk2 (a1 : Int) (a2 : Int) (a3 : Ref) (h : AH) : go (.fn F.khs [.agg [.int .i64 a1, .int .i64 a2], .ptr (some a3)]) h =
 newK h (.cells [.int .i64 a1, .int .i64 a2] T.ko) fun h4r h4 =>
 newK h4 (.cells [.bool false, (⟨none, 0, .is 0⟩ : Sl).v, (⟨none, 0, .is 0⟩ : Sl).v] T.kq) fun h5r h5 =>
 ((h5.cell a3).bind (AV.asInt .i64)).bind fun n6 =>
 ((h5.cell (h4r.add 0)).bind (AV.asInt .i64)).bind fun n7 =>
 ((h5.cell (h4r.add 1)).bind (AV.asInt .i64)).bind fun n8 =>
 (go (.fn F.kg8 [.int .i64 n6, .agg [.int .i64 n7, .int .i64 n8]]) h5).bind fun q9 =>
 (AV.asTup2 q9.1).bind fun p10 =>
 (AV.asAgg p10.1).bind fun cs11 =>
 cond (Nat.beq cs11.length 3) (
 ((cs11[0]?).bind AV.asBool).bind fun b12 =>
 ((cs11[1]?).bind AV.asSl).bind fun l13 =>
 ((cs11[2]?).bind AV.asSl).bind fun l14 =>
 ((some p10.2).bind (AV.asInt .i64)).bind fun n15 =>
 newK q9.2 (.cells [.bool false, (⟨none, 0, .is 0⟩ : Sl).v, (⟨none, 0, .is 0⟩ : Sl).v] T.kq) fun h16r h16 =>
 (h16.puts h16r [.bool b12, l13.v, l14.v]).bind fun h17 =>
 ((h17.cell (h16r.add 0)).bind AV.asBool).bind fun b18 =>
 ((h17.cell (h16r.add 1)).bind AV.asSl).bind fun l19 =>
 ((h17.cell (h16r.add 2)).bind AV.asSl).bind fun l20 =>
 (h17.puts h5r [.bool b18, l19.v, l20.v]).bind fun h21 =>
 ((h21.cell (h5r.add 0)).bind AV.asBool).bind fun b22 =>
 ((h21.cell (h5r.add 1)).bind AV.asSl).bind fun l23 =>
 ((h21.cell (h5r.add 2)).bind AV.asSl).bind fun l24 =>
 some (.agg [.bool b22, l23.v, l24.v], h21)) none := (ke _ h).trans (by kernel_rfl)
theorem ktz (a1 : Bool) (a2 : Sl) (a3 : Sl) (a4 : Bool) (a5 : Sl) (a6 : Sl) (h : AH) : go (.fn F.khn [.agg [.bool a1, a2.v, a3.v], .agg [.bool a4, a5.v, a6.v]]) h =
 newK h (.cells [.bool a1, a2.v, a3.v] T.kq) fun h7r h7 =>
 newK h7 (.cells [.bool a4, a5.v, a6.v] T.kq) fun h8r h8 =>
 newK h8 (.cells [.bool false, (⟨none, 0, .is 0⟩ : Sl).v, (⟨none, 0, .is 0⟩ : Sl).v] T.kq) fun h9r h9 =>
 ((h9.cell (h7r.add 0)).bind AV.asBool).bind fun b10 =>
 ((h9.cell (h7r.add 1)).bind AV.asSl).bind fun l11 =>
 ((h9.cell (h7r.add 2)).bind AV.asSl).bind fun l12 =>
 ((h9.cell (h8r.add 0)).bind AV.asBool).bind fun b13 =>
 ((h9.cell (h8r.add 1)).bind AV.asSl).bind fun l14 =>
 ((h9.cell (h8r.add 2)).bind AV.asSl).bind fun l15 =>
 (go (.fn F.kfk [.agg [.bool b10, l11.v, l12.v], .agg [.bool b13, l14.v, l15.v], .func (.func F.kel) [] []]) h9).bind fun q16 =>
 (AV.asTup2 q16.1).bind fun p17 =>
 (AV.asAgg p17.1).bind fun cs18 =>
 cond (Nat.beq cs18.length 3) (
 ((cs18[0]?).bind AV.asBool).bind fun b19 =>
 ((cs18[1]?).bind AV.asSl).bind fun l20 =>
 ((cs18[2]?).bind AV.asSl).bind fun l21 =>
 ((some p17.2).bind (AV.asInt .i64)).bind fun n22 =>
 (q16.2.puts h9r [.bool b19, l20.v, l21.v]).bind fun h23 =>
 ((h23.cell (h9r.add 0)).bind AV.asBool).bind fun b24 =>
 ((h23.cell (h9r.add 1)).bind AV.asSl).bind fun l25 =>
 ((h23.cell (h9r.add 2)).bind AV.asSl).bind fun l26 =>
 some (.tup [.agg [.bool b24, l25.v, l26.v], .int .i64 n22], h23)) none := (ke _ h).trans (by kernel_rfl)
theorem kv6 (a1 : Bool) (a2 : Sl) (a3 : Sl) (a4 : Bool) (a5 : Sl) (a6 : Sl) (h : AH) : go (.fn F.kjl [.agg [.bool a1, a2.v, a3.v], .agg [.bool a4, a5.v, a6.v]]) h =
 newK h (.cells [.bool a1, a2.v, a3.v] T.kq) fun h7r h7 =>
 newK h7 (.cells [.bool a4, a5.v, a6.v] T.kq) fun h8r h8 =>
 newK h8 (.cells [.bool false, (⟨none, 0, .is 0⟩ : Sl).v, (⟨none, 0, .is 0⟩ : Sl).v] T.kq) fun h9r h9 =>
 ((h9.cell (h7r.add 0)).bind AV.asBool).bind fun b10 =>
 ((h9.cell (h7r.add 1)).bind AV.asSl).bind fun l11 =>
 ((h9.cell (h7r.add 2)).bind AV.asSl).bind fun l12 =>
 ((h9.cell (h8r.add 0)).bind AV.asBool).bind fun b13 =>
 ((h9.cell (h8r.add 1)).bind AV.asSl).bind fun l14 =>
 ((h9.cell (h8r.add 2)).bind AV.asSl).bind fun l15 =>
 (go (.fn F.kfk [.agg [.bool b10, l11.v, l12.v], .agg [.bool b13, l14.v, l15.v], .func (.func F.kfx) [] []]) h9).bind fun q16 =>
 (AV.asTup2 q16.1).bind fun p17 =>
 (AV.asAgg p17.1).bind fun cs18 =>
 cond (Nat.beq cs18.length 3) (
 ((cs18[0]?).bind AV.asBool).bind fun b19 =>
 ((cs18[1]?).bind AV.asSl).bind fun l20 =>
 ((cs18[2]?).bind AV.asSl).bind fun l21 =>
 ((some p17.2).bind (AV.asInt .i64)).bind fun n22 =>
 (q16.2.puts h9r [.bool b19, l20.v, l21.v]).bind fun h23 =>
 ((h23.cell (h9r.add 0)).bind AV.asBool).bind fun b24 =>
 ((h23.cell (h9r.add 1)).bind AV.asSl).bind fun l25 =>
 ((h23.cell (h9r.add 2)).bind AV.asSl).bind fun l26 =>
 some (.tup [.agg [.bool b24, l25.v, l26.v], .int .i64 n22], h23)) none := (ke _ h).trans (by kernel_rfl)
theorem ksp (a1 : Bool) (a2 : Sl) (a3 : Sl) (a4 : Bool) (a5 : Sl) (a6 : Sl) (h : AH) : go (.fn F.kj9 [.agg [.bool a1, a2.v, a3.v], .agg [.bool a4, a5.v, a6.v]]) h =
 newK h (.cells [.bool a1, a2.v, a3.v] T.kq) fun h7r h7 =>
 newK h7 (.cells [.bool a4, a5.v, a6.v] T.kq) fun h8r h8 =>
 ((h8.cell (h7r.add 0)).bind AV.asBool).bind fun b9 =>
 ((h8.cell (h7r.add 1)).bind AV.asSl).bind fun l10 =>
 ((h8.cell (h7r.add 2)).bind AV.asSl).bind fun l11 =>
 ((h8.cell (h8r.add 0)).bind AV.asBool).bind fun b12 =>
 ((h8.cell (h8r.add 1)).bind AV.asSl).bind fun l13 =>
 ((h8.cell (h8r.add 2)).bind AV.asSl).bind fun l14 =>
 newK h8 (.cells [.bool b9, l10.v, l11.v, .bool b12, l13.v, l14.v] T.kq) fun h15r h15 =>
 (go (.fn F.kfh [(⟨some h15r, 2, .is 2⟩ : Sl).v]) h15).bind fun q16 =>
 ((some q16.1).bind AV.asBool).bind fun b17 =>
 cond (!b17) (
 some (.int .i64 0, q16.2)) (
 ((q16.2.cell (h7r.add 0)).bind AV.asBool).bind fun b18 =>
 ((q16.2.cell (h7r.add 1)).bind AV.asSl).bind fun l19 =>
 ((q16.2.cell (h7r.add 2)).bind AV.asSl).bind fun l20 =>
 ((q16.2.cell (h8r.add 0)).bind AV.asBool).bind fun b21 =>
 ((q16.2.cell (h8r.add 1)).bind AV.asSl).bind fun l22 =>
 ((q16.2.cell (h8r.add 2)).bind AV.asSl).bind fun l23 =>
 ((q16.2.cell (h8r.add 0)).bind AV.asBool).bind fun b24 =>
 ((q16.2.cell (h8r.add 1)).bind AV.asSl).bind fun l25 =>
 ((q16.2.cell (h8r.add 2)).bind AV.asSl).bind fun l26 =>
 ((q16.2.cell (h7r.add 0)).bind AV.asBool).bind fun b27 =>
 ((q16.2.cell (h7r.add 1)).bind AV.asSl).bind fun l28 =>
 ((q16.2.cell (h7r.add 2)).bind AV.asSl).bind fun l29 =>
 (go (.fn F.kec [.agg [.bool b18, l19.v, l20.v], .agg [.bool b21, l22.v, l23.v]]) q16.2).bind fun q30 =>
 (AV.asAgg q30.1).bind fun cs31 =>
 cond (Nat.beq cs31.length 2) (
 ((cs31[0]?).bind AV.asBool).bind fun b32 =>
 ((cs31[1]?).bind AV.asSl).bind fun l33 =>
 whenK (SameAt q16.2 q30.2 h7r 3) (
 whenK (SameAt q16.2 q30.2 h8r 3) (
 (go (.fn F.kec [.agg [.bool b24, l25.v, l26.v], .agg [.bool b27, l28.v, l29.v]]) q30.2).bind fun q34 =>
 (AV.asAgg q34.1).bind fun cs35 =>
 cond (Nat.beq cs35.length 2) (
 ((cs35[0]?).bind AV.asBool).bind fun b36 =>
 ((cs35[1]?).bind AV.asSl).bind fun l37 =>
 (go (.fn F.kkm [.agg [.bool b32, l33.v], .agg [.bool b36, l37.v]]) q34.2).bind fun q38 =>
 ((some q38.1).bind (AV.asInt .i64)).bind fun n39 =>
 some (.int .i64 n39, q38.2)) none))) none) := (ke _ h).trans (by kernel_rfl)
theorem kvx (a1 : Int) (a2 : Int) (h : AH) : go (.fn F.kiq [.int .u64 a1, .int .u64 a2]) h =
 some (.tup [.int .u64 (IntKind.wrap .u64 ((IntKind.wrap .u64 ((IntKind.wrap .u64 ((ishr .u64 a1 32) * (ishr .u64 a2 32))) + (ishr .u64 (IntKind.wrap .u64 ((IntKind.wrap .u64 ((ishr .u64 a1 32) * (iand .u64 a2 4294967295))) + (ishr .u64 (IntKind.wrap .u64 ((iand .u64 a1 4294967295) * (iand .u64 a2 4294967295))) 32))) 32))) + (ishr .u64 (IntKind.wrap .u64 ((iand .u64 (IntKind.wrap .u64 ((IntKind.wrap .u64 ((ishr .u64 a1 32) * (iand .u64 a2 4294967295))) + (ishr .u64 (IntKind.wrap .u64 ((iand .u64 a1 4294967295) * (iand .u64 a2 4294967295))) 32))) 4294967295) + (IntKind.wrap .u64 ((iand .u64 a1 4294967295) * (ishr .u64 a2 32))))) 32))), .int .u64 (IntKind.wrap .u64 (a1 * a2))], h) := (ke _ h).trans (by kernel_rfl)
theorem kzl (a1 : Sl) (h : AH) : go (.fn F.kqb [a1.v, .func (.func F.kct) [] []]) h =
 (go (.fn F.kfb [a1.v, .func (.func F.kct) [] []]) h).bind fun q2 =>
 ((some q2.1).bind (AV.asInt .i64)).bind fun n3 =>
 some (.bool (decide (n3 ≥ 0)), q2.2) := (ke _ h).trans (by kernel_rfl)
theorem krj (a1 : Sl) (a2 : Sl) (h : AH) : go (.fn F.ki7 [a1.v, a2.v]) h =
 newK h (.cells [.nilFunc] T.ku3) fun h3r h3 =>
 (h3.puts h3r [.func (.func F.kgt) [] [.ptr (some h3r)]]).bind fun h4 =>
 (h4.cell h3r).bind fun v5 =>
 yieldK v5 [a1.v, a2.v] (fun y7 =>
 (go (.round y7.1 y7.2) h4).bind fun q6 =>
 ((some q6.1).bind AV.asSl).bind fun l9 =>
 some (l9.v, q6.2)) (
 (callV Pg go v5 [a1.v, a2.v] h4).bind fun q8 =>
 ((some q8.1).bind AV.asSl).bind fun l10 =>
 some (l10.v, q8.2)) := (ke _ h).trans (by kernel_rfl)
theorem krt (a1 : Sl) (h : AH) : go (.fn F.kg1 [a1.v]) h =
 (go (.fn F.kz [a1.v]) h).bind fun q2 =>
 ((some q2.1).bind AV.asSl).bind fun l3 =>
 cond (decide ((l3.len : Int) > 64)) (
 some (.tup [(⟨none, 0, .is 0⟩ : Sl).v, .int .i64 4], q2.2)) (
 some (.tup [l3.v, .int .i64 0], q2.2)) := (ke _ h).trans (by kernel_rfl)
theorem kq8 (a1 : Sl) (h : AH) : go (.fn F.kn7 [a1.v, .func (.func F.kcn) [] []]) h =
 (go (.fn F.kfa [a1.v, .func (.func F.kcn) [] []]) h).bind fun q2 =>
 ((some q2.1).bind (AV.asInt .i64)).bind fun n3 =>
 some (.bool (decide (n3 ≥ 0)), q2.2) := (ke _ h).trans (by kernel_rfl)
theorem kph (a1 : Sl) (a2 : Sl) (a3 : Int) (h : AH) : go (.pt F.kc0 Td.ki6 [(0, a1.v), (1, a2.v), (5, .int .i64 a3)]) h =
 cond (decide (a3 ≥ 0)) (
 (idx a1.ref a1.len a3 1).bind fun r4 =>
 ((h.cell r4).bind (AV.asInt .u64)).bind fun n5 =>
 (idx a2.ref a2.len a3 1).bind fun r6 =>
 ((h.cell r6).bind (AV.asInt .u64)).bind fun n7 =>
 cond (!decide (n5 = n7)) (
 (idx a1.ref a1.len a3 1).bind fun r8 =>
 ((h.cell r8).bind (AV.asInt .u64)).bind fun n9 =>
 (idx a2.ref a2.len a3 1).bind fun r10 =>
 ((h.cell r10).bind (AV.asInt .u64)).bind fun n11 =>
 cond (decide (n9 < n11)) (
 some (.int .i64 (-1), h)) (
 some (.int .i64 1, h))) (
 go (.pt F.kc0 Td.ki6 [(0, a1.v), (1, a2.v), (5, .int .i64 (IntKind.wrap .i64 (a3 - 1)))]) h)) (
 some (.int .i64 0, h)) := (ke _ h).trans (by kernel_rfl)
theorem kyw (a1 : Sl) (a2 : Int) (a3 : Sl) (a4 : Int) (a5 : Int) (h : AH) : go (.pt F.kdc Td.kio [(0, a1.v), (1, .int .u64 a2), (6, a3.v), (7, .int .u64 a4), (8, .int .i64 a5)]) h =
 cond (decide (a5 ≥ 0)) (
 (idx a1.ref a1.len a5 1).bind fun r6 =>
 ((h.cell r6).bind (AV.asInt .u64)).bind fun n7 =>
 (go (.fn F.kbh [.int .u64 a4, .int .u64 n7, .int .u64 a2]) h).bind fun q8 =>
 (AV.asTup2 q8.1).bind fun p9 =>
 ((some p9.1).bind (AV.asInt .u64)).bind fun n10 =>
 ((some p9.2).bind (AV.asInt .u64)).bind fun n11 =>
 (idx a3.ref a3.len a5 1).bind fun r12 =>
 (q8.2.puts r12 [.int .u64 n10]).bind fun h13 =>
 go (.pt F.kdc Td.kio [(0, a1.v), (1, .int .u64 a2), (6, a3.v), (7, .int .u64 n11), (8, .int .i64 (IntKind.wrap .i64 (a5 - 1)))]) h13) (
 (go (.fn F.kz [a3.v]) h).bind fun q14 =>
 ((some q14.1).bind AV.asSl).bind fun l15 =>
 some (.tup [l15.v, .int .u64 a4], q14.2)) := (ke _ h).trans (by kernel_rfl)
theorem ktf (a1 : Int) (h : AH) : go (.fn F.ki5 [.int .u64 a1]) h =
 (go (.fn F.kjt [.int .u64 a1]) h).bind fun q2 =>
 ((some q2.1).bind (AV.asInt .i64)).bind fun n3 =>
 some (.int .i64 (IntKind.wrap .i64 (64 - n3)), q2.2) := (ke _ h).trans (by kernel_rfl)
theorem kvj (a1 : Sl) (a2 : Int) (h : AH) : go (.fn F.kc2 [a1.v, .int .u64 a2]) h =
 (kbq (IntKind.wrap .i64 ((a1.len : Int) + 1)) (IntKind.wrap .i64 ((a1.len : Int) + 1)) T.kg (Pg.bytesOf T.kg) [.int .u64 0] h).bind fun q3 =>
 go (.pt F.kc2 Td.kgg [(1, .int .u64 a2), (5, q3.1.v), (12, a1.v), (13, .int .i64 (a1.len : Int)), (14, .int .i64 0)]) q3.2 := (ke _ h).trans (by kernel_rfl)
theorem kyy (a1 : Int) (a2 : Sl) (a3 : Sl) (a4 : Int) (a5 : Sl) (a6 : Int) (h : AH) : go (.pt F.kbl Td.kiw [(6, .int .u64 a1), (7, a2.v), (8, a3.v), (9, .int .i64 a4), (10, a5.v), (11, .int .i64 a6)]) h =
 cond (decide (a6 ≥ 0)) (
 (idx a2.ref a2.len (IntKind.wrap .i64 (a6 + a4)) 1).bind fun r7 =>
 ((h.cell r7).bind (AV.asInt .u64)).bind fun n8 =>
 (idx a2.ref a2.len (IntKind.wrap .i64 ((IntKind.wrap .i64 (a6 + a4)) - 1)) 1).bind fun r9 =>
 ((h.cell r9).bind (AV.asInt .u64)).bind fun n10 =>
 (idx a2.ref a2.len (IntKind.wrap .i64 ((IntKind.wrap .i64 (a6 + a4)) - 2)) 1).bind fun r11 =>
 ((h.cell r11).bind (AV.asInt .u64)).bind fun n12 =>
 (idx a3.ref a3.len (IntKind.wrap .i64 (a4 - 1)) 1).bind fun r13 =>
 ((h.cell r13).bind (AV.asInt .u64)).bind fun n14 =>
 (idx a3.ref a3.len (IntKind.wrap .i64 (a4 - 2)) 1).bind fun r15 =>
 ((h.cell r15).bind (AV.asInt .u64)).bind fun n16 =>
 (go (.fn F.kdd [.int .u64 n8, .int .u64 n10, .int .u64 n12, .int .u64 n14, .int .u64 n16]) h).bind fun q17 =>
 ((some q17.1).bind (AV.asInt .u64)).bind fun n18 =>
 (cutSl a2 a6 (IntKind.wrap .i64 ((IntKind.wrap .i64 (a6 + a4)) + 1)) 1).bind fun l19 =>
 go (.pt F.kbl Td.kjk [(6, .int .u64 a1), (7, a2.v), (8, a3.v), (9, .int .i64 a4), (10, a5.v), (11, .int .i64 a6), (12, .int .u64 n18), (13, l19.v)]) q17.2) (
 (go (.fn F.kz [a2.v]) h).bind fun q20 =>
 ((some q20.1).bind AV.asSl).bind fun l21 =>
 (kbq (l21.len : Int) (l21.len : Int) T.kg (Pg.bytesOf T.kg) [.int .u64 0] q20.2).bind fun q22 =>
 go (.pt F.kbl Td.kfn [(6, .int .u64 a1), (10, a5.v), (15, l21.v), (16, q22.1.v), (112, .int .i64 (l21.len : Int)), (113, .int .i64 0)]) q22.2) := (ke _ h).trans (by kernel_rfl)
theorem kw9 (a1 : Bool) (a2 : Sl) (a3 : Sl) (a4 : Bool) (a5 : Sl) (a6 : Sl) (h : AH) : go (.fn F.kfk [.agg [.bool a1, a2.v, a3.v], .agg [.bool a4, a5.v, a6.v], .func (.func F.kel) [] []]) h =
 newK h (.cells [.bool a1, a2.v, a3.v] T.kq) fun h7r h7 =>
 newK h7 (.cells [.bool a4, a5.v, a6.v] T.kq) fun h8r h8 =>
 newK h8 (.cells [.bool false, (⟨none, 0, .is 0⟩ : Sl).v, (⟨none, 0, .is 0⟩ : Sl).v] T.kq) fun h9r h9 =>
 ((h9.cell (h7r.add 0)).bind AV.asBool).bind fun b10 =>
 ((h9.cell (h7r.add 1)).bind AV.asSl).bind fun l11 =>
 ((h9.cell (h7r.add 2)).bind AV.asSl).bind fun l12 =>
 ((h9.cell (h8r.add 0)).bind AV.asBool).bind fun b13 =>
 ((h9.cell (h8r.add 1)).bind AV.asSl).bind fun l14 =>
 ((h9.cell (h8r.add 2)).bind AV.asSl).bind fun l15 =>
 newK h9 (.cells [.bool b10, l11.v, l12.v, .bool b13, l14.v, l15.v] T.kq) fun h16r h16 =>
 (go (.fn F.kfh [(⟨some h16r, 2, .is 2⟩ : Sl).v]) h16).bind fun q17 =>
 ((some q17.1).bind AV.asBool).bind fun b18 =>
 cond (!b18) (
 (q17.2.puts h9r [.bool false, (⟨none, 0, .is 0⟩ : Sl).v, (⟨none, 0, .is 0⟩ : Sl).v]).bind fun h19 =>
 ((h19.cell (h9r.add 0)).bind AV.asBool).bind fun b20 =>
 ((h19.cell (h9r.add 1)).bind AV.asSl).bind fun l21 =>
 ((h19.cell (h9r.add 2)).bind AV.asSl).bind fun l22 =>
 some (.tup [.agg [.bool b20, l21.v, l22.v], .int .i64 1], h19)) (
 newK q17.2 (.cells [.bool false, (⟨none, 0, .is 0⟩ : Sl).v] T.kf) fun h23r h23 =>
 ((h23.cell (h7r.add 0)).bind AV.asBool).bind fun b24 =>
 ((h23.cell (h7r.add 1)).bind AV.asSl).bind fun l25 =>
 ((h23.cell (h7r.add 2)).bind AV.asSl).bind fun l26 =>
 ((h23.cell (h8r.add 0)).bind AV.asBool).bind fun b27 =>
 ((h23.cell (h8r.add 1)).bind AV.asSl).bind fun l28 =>
 ((h23.cell (h8r.add 2)).bind AV.asSl).bind fun l29 =>
 ((h23.cell (h8r.add 0)).bind AV.asBool).bind fun b30 =>
 ((h23.cell (h8r.add 1)).bind AV.asSl).bind fun l31 =>
 ((h23.cell (h8r.add 2)).bind AV.asSl).bind fun l32 =>
 ((h23.cell (h7r.add 0)).bind AV.asBool).bind fun b33 =>
 ((h23.cell (h7r.add 1)).bind AV.asSl).bind fun l34 =>
 ((h23.cell (h7r.add 2)).bind AV.asSl).bind fun l35 =>
 (go (.fn F.kec [.agg [.bool b24, l25.v, l26.v], .agg [.bool b27, l28.v, l29.v]]) h23).bind fun q36 =>
 (AV.asAgg q36.1).bind fun cs37 =>
 cond (Nat.beq cs37.length 2) (
 ((cs37[0]?).bind AV.asBool).bind fun b38 =>
 ((cs37[1]?).bind AV.asSl).bind fun l39 =>
 whenK (SameAt h23 q36.2 h7r 3) (
 whenK (SameAt h23 q36.2 h8r 3) (
 whenK (SameAt h23 q36.2 h23r 0) (
 (go (.fn F.kec [.agg [.bool b30, l31.v, l32.v], .agg [.bool b33, l34.v, l35.v]]) q36.2).bind fun q40 =>
 (AV.asAgg q40.1).bind fun cs41 =>
 cond (Nat.beq cs41.length 2) (
 ((cs41[0]?).bind AV.asBool).bind fun b42 =>
 ((cs41[1]?).bind AV.asSl).bind fun l43 =>
 whenK (SameAt q36.2 q40.2 h23r 0) (
 (go (.fn F.kel [.agg [.bool b38, l39.v], .agg [.bool b42, l43.v]]) q40.2).bind fun q44 =>
 (AV.asTup2 q44.1).bind fun p45 =>
 (AV.asAgg p45.1).bind fun cs46 =>
 cond (Nat.beq cs46.length 2) (
 ((cs46[0]?).bind AV.asBool).bind fun b47 =>
 ((cs46[1]?).bind AV.asSl).bind fun l48 =>
 ((some p45.2).bind (AV.asInt .i64)).bind fun n49 =>
 whenK (SameAt q40.2 q44.2 h23r 0) (
 (q44.2.puts h23r [.bool b47, l48.v]).bind fun h50 =>
 ((h50.cell (h7r.add 2)).bind AV.asSl).bind fun l51 =>
 ((h50.cell (h8r.add 2)).bind AV.asSl).bind fun l52 =>
 (go (.fn F.kgl [l51.v, l52.v]) h50).bind fun q53 =>
 (AV.asTup2 q53.1).bind fun p54 =>
 ((some p54.1).bind AV.asSl).bind fun l55 =>
 ((some p54.2).bind (AV.asInt .i64)).bind fun n56 =>
 ((q53.2.cell (h23r.add 0)).bind AV.asBool).bind fun b57 =>
 ((q53.2.cell (h23r.add 1)).bind AV.asSl).bind fun l58 =>
 (go (.fn F.ke9 [.agg [.bool b57, l58.v], l55.v]) q53.2).bind fun q59 =>
 (AV.asTup2 q59.1).bind fun p60 =>
 (AV.asAgg p60.1).bind fun cs61 =>
 cond (Nat.beq cs61.length 3) (
 ((cs61[0]?).bind AV.asBool).bind fun b62 =>
 ((cs61[1]?).bind AV.asSl).bind fun l63 =>
 ((cs61[2]?).bind AV.asSl).bind fun l64 =>
 ((some p60.2).bind (AV.asInt .i64)).bind fun n65 =>
 (q59.2.puts h9r [.bool b62, l63.v, l64.v]).bind fun h66 =>
 ((h66.cell (h9r.add 0)).bind AV.asBool).bind fun b67 =>
 ((h66.cell (h9r.add 1)).bind AV.asSl).bind fun l68 =>
 ((h66.cell (h9r.add 2)).bind AV.asSl).bind fun l69 =>
 some (.tup [.agg [.bool b67, l68.v, l69.v], .int .i64 n65], h66)) none)) none)) none)))) none) := (ke _ h).trans (by kernel_rfl)
theorem ku2 (a1 : Bool) (a2 : Sl) (a3 : Sl) (a4 : Bool) (a5 : Sl) (a6 : Sl) (h : AH) : go (.fn F.kfk [.agg [.bool a1, a2.v, a3.v], .agg [.bool a4, a5.v, a6.v], .func (.func F.kfx) [] []]) h =
 newK h (.cells [.bool a1, a2.v, a3.v] T.kq) fun h7r h7 =>
 newK h7 (.cells [.bool a4, a5.v, a6.v] T.kq) fun h8r h8 =>
 newK h8 (.cells [.bool false, (⟨none, 0, .is 0⟩ : Sl).v, (⟨none, 0, .is 0⟩ : Sl).v] T.kq) fun h9r h9 =>
 ((h9.cell (h7r.add 0)).bind AV.asBool).bind fun b10 =>
 ((h9.cell (h7r.add 1)).bind AV.asSl).bind fun l11 =>
 ((h9.cell (h7r.add 2)).bind AV.asSl).bind fun l12 =>
 ((h9.cell (h8r.add 0)).bind AV.asBool).bind fun b13 =>
 ((h9.cell (h8r.add 1)).bind AV.asSl).bind fun l14 =>
 ((h9.cell (h8r.add 2)).bind AV.asSl).bind fun l15 =>
 newK h9 (.cells [.bool b10, l11.v, l12.v, .bool b13, l14.v, l15.v] T.kq) fun h16r h16 =>
 (go (.fn F.kfh [(⟨some h16r, 2, .is 2⟩ : Sl).v]) h16).bind fun q17 =>
 ((some q17.1).bind AV.asBool).bind fun b18 =>
 cond (!b18) (
 (q17.2.puts h9r [.bool false, (⟨none, 0, .is 0⟩ : Sl).v, (⟨none, 0, .is 0⟩ : Sl).v]).bind fun h19 =>
 ((h19.cell (h9r.add 0)).bind AV.asBool).bind fun b20 =>
 ((h19.cell (h9r.add 1)).bind AV.asSl).bind fun l21 =>
 ((h19.cell (h9r.add 2)).bind AV.asSl).bind fun l22 =>
 some (.tup [.agg [.bool b20, l21.v, l22.v], .int .i64 1], h19)) (
 newK q17.2 (.cells [.bool false, (⟨none, 0, .is 0⟩ : Sl).v] T.kf) fun h23r h23 =>
 ((h23.cell (h7r.add 0)).bind AV.asBool).bind fun b24 =>
 ((h23.cell (h7r.add 1)).bind AV.asSl).bind fun l25 =>
 ((h23.cell (h7r.add 2)).bind AV.asSl).bind fun l26 =>
 ((h23.cell (h8r.add 0)).bind AV.asBool).bind fun b27 =>
 ((h23.cell (h8r.add 1)).bind AV.asSl).bind fun l28 =>
 ((h23.cell (h8r.add 2)).bind AV.asSl).bind fun l29 =>
 ((h23.cell (h8r.add 0)).bind AV.asBool).bind fun b30 =>
 ((h23.cell (h8r.add 1)).bind AV.asSl).bind fun l31 =>
 ((h23.cell (h8r.add 2)).bind AV.asSl).bind fun l32 =>
 ((h23.cell (h7r.add 0)).bind AV.asBool).bind fun b33 =>
 ((h23.cell (h7r.add 1)).bind AV.asSl).bind fun l34 =>
 ((h23.cell (h7r.add 2)).bind AV.asSl).bind fun l35 =>
 (go (.fn F.kec [.agg [.bool b24, l25.v, l26.v], .agg [.bool b27, l28.v, l29.v]]) h23).bind fun q36 =>
 (AV.asAgg q36.1).bind fun cs37 =>
 cond (Nat.beq cs37.length 2) (
 ((cs37[0]?).bind AV.asBool).bind fun b38 =>
 ((cs37[1]?).bind AV.asSl).bind fun l39 =>
 whenK (SameAt h23 q36.2 h7r 3) (
 whenK (SameAt h23 q36.2 h8r 3) (
 whenK (SameAt h23 q36.2 h23r 0) (
 (go (.fn F.kec [.agg [.bool b30, l31.v, l32.v], .agg [.bool b33, l34.v, l35.v]]) q36.2).bind fun q40 =>
 (AV.asAgg q40.1).bind fun cs41 =>
 cond (Nat.beq cs41.length 2) (
 ((cs41[0]?).bind AV.asBool).bind fun b42 =>
 ((cs41[1]?).bind AV.asSl).bind fun l43 =>
 whenK (SameAt q36.2 q40.2 h23r 0) (
 (go (.fn F.kfx [.agg [.bool b38, l39.v], .agg [.bool b42, l43.v]]) q40.2).bind fun q44 =>
 (AV.asTup2 q44.1).bind fun p45 =>
 (AV.asAgg p45.1).bind fun cs46 =>
 cond (Nat.beq cs46.length 2) (
 ((cs46[0]?).bind AV.asBool).bind fun b47 =>
 ((cs46[1]?).bind AV.asSl).bind fun l48 =>
 ((some p45.2).bind (AV.asInt .i64)).bind fun n49 =>
 whenK (SameAt q40.2 q44.2 h23r 0) (
 (q44.2.puts h23r [.bool b47, l48.v]).bind fun h50 =>
 ((h50.cell (h7r.add 2)).bind AV.asSl).bind fun l51 =>
 ((h50.cell (h8r.add 2)).bind AV.asSl).bind fun l52 =>
 (go (.fn F.kgl [l51.v, l52.v]) h50).bind fun q53 =>
 (AV.asTup2 q53.1).bind fun p54 =>
 ((some p54.1).bind AV.asSl).bind fun l55 =>
 ((some p54.2).bind (AV.asInt .i64)).bind fun n56 =>
 ((q53.2.cell (h23r.add 0)).bind AV.asBool).bind fun b57 =>
 ((q53.2.cell (h23r.add 1)).bind AV.asSl).bind fun l58 =>
 (go (.fn F.ke9 [.agg [.bool b57, l58.v], l55.v]) q53.2).bind fun q59 =>
 (AV.asTup2 q59.1).bind fun p60 =>
 (AV.asAgg p60.1).bind fun cs61 =>
 cond (Nat.beq cs61.length 3) (
 ((cs61[0]?).bind AV.asBool).bind fun b62 =>
 ((cs61[1]?).bind AV.asSl).bind fun l63 =>
 ((cs61[2]?).bind AV.asSl).bind fun l64 =>
 ((some p60.2).bind (AV.asInt .i64)).bind fun n65 =>
 (q59.2.puts h9r [.bool b62, l63.v, l64.v]).bind fun h66 =>
 ((h66.cell (h9r.add 0)).bind AV.asBool).bind fun b67 =>
 ((h66.cell (h9r.add 1)).bind AV.asSl).bind fun l68 =>
 ((h66.cell (h9r.add 2)).bind AV.asSl).bind fun l69 =>
 some (.tup [.agg [.bool b67, l68.v, l69.v], .int .i64 n65], h66)) none)) none)) none)))) none) := (ke _ h).trans (by kernel_rfl)
theorem kzu (a1 : Sl) (h : AH) : go (.fn F.kfh [a1.v]) h =
 (go (.fn F.kop [a1.v, .func (.func F.kcq) [] []]) h).bind fun q2 =>
 ((some q2.1).bind AV.asBool).bind fun b3 =>
 some (.bool (!b3), q2.2) := (ke _ h).trans (by kernel_rfl)
theorem kyq (a1 : Bool) (a2 : Sl) (a3 : Sl) (a4 : Bool) (a5 : Sl) (a6 : Sl) (h : AH) : go (.fn F.kec [.agg [.bool a1, a2.v, a3.v], .agg [.bool a4, a5.v, a6.v]]) h =
 newK h (.cells [.bool a1, a2.v, a3.v] T.kq) fun h7r h7 =>
 newK h7 (.cells [.bool a4, a5.v, a6.v] T.kq) fun h8r h8 =>
 newK h8 (.cells [.bool false, (⟨none, 0, .is 0⟩ : Sl).v] T.kf) fun h9r h9 =>
 newK h9 (.cells [.bool false, (⟨none, 0, .is 0⟩ : Sl).v] T.kf) fun h10r h10 =>
 ((h10.cell ((h7r.add 0).add 0)).bind AV.asBool).bind fun b11 =>
 ((h10.cell ((h7r.add 0).add 1)).bind AV.asSl).bind fun l12 =>
 ((h10.cell (h8r.add 2)).bind AV.asSl).bind fun l13 =>
 (go (.fn F.kca [.bool false, l13.v]) h10).bind fun q14 =>
 (AV.asAgg q14.1).bind fun cs15 =>
 cond (Nat.beq cs15.length 2) (
 ((cs15[0]?).bind AV.asBool).bind fun b16 =>
 ((cs15[1]?).bind AV.asSl).bind fun l17 =>
 whenK (SameAt h10 q14.2 (h7r.add 0) 2) (
 whenK (SameAt h10 q14.2 h10r 0) (
 (go (.fn F.kjc [.agg [.bool b11, l12.v], .agg [.bool b16, l17.v]]) q14.2).bind fun q18 =>
 (AV.asTup2 q18.1).bind fun p19 =>
 (AV.asAgg p19.1).bind fun cs20 =>
 cond (Nat.beq cs20.length 2) (
 ((cs20[0]?).bind AV.asBool).bind fun b21 =>
 ((cs20[1]?).bind AV.asSl).bind fun l22 =>
 ((some p19.2).bind (AV.asInt .i64)).bind fun n23 =>
 whenK (SameAt q14.2 q18.2 h10r 0) (
 (q18.2.puts h10r [.bool b21, l22.v]).bind fun h24 =>
 ((h24.cell (h10r.add 0)).bind AV.asBool).bind fun b25 =>
 ((h24.cell (h10r.add 1)).bind AV.asSl).bind fun l26 =>
 (h24.puts h9r [.bool b25, l26.v]).bind fun h27 =>
 ((h27.cell (h9r.add 0)).bind AV.asBool).bind fun b28 =>
 ((h27.cell (h9r.add 1)).bind AV.asSl).bind fun l29 =>
 some (.agg [.bool b28, l29.v], h27))) none))) none := (ke _ h).trans (by kernel_rfl)
theorem kxw (a1 : Bool) (a2 : Sl) (a3 : Bool) (a4 : Sl) (h : AH) : go (.fn F.kkm [.agg [.bool a1, a2.v], .agg [.bool a3, a4.v]]) h =
 newK h (.cells [.bool a1, a2.v] T.kf) fun h5r h5 =>
 newK h5 (.cells [.bool a3, a4.v] T.kf) fun h6r h6 =>
 ((h6.cell (h5r.add 0)).bind AV.asBool).bind fun b7 =>
 ((h6.cell (h5r.add 1)).bind AV.asSl).bind fun l8 =>
 ((h6.cell (h6r.add 0)).bind AV.asBool).bind fun b9 =>
 ((h6.cell (h6r.add 1)).bind AV.asSl).bind fun l10 =>
 newK h6 (.cells [.bool b7, l8.v, .bool b9, l10.v] T.kf) fun h11r h11 =>
 (go (.fn F.ke7 [(⟨some h11r, 2, .is 2⟩ : Sl).v]) h11).bind fun q12 =>
 ((some q12.1).bind AV.asBool).bind fun b13 =>
 cond (!b13) (
 some (.int .i64 0, q12.2)) (
 ((q12.2.cell (h5r.add 0)).bind AV.asBool).bind fun b14 =>
 ((q12.2.cell (h6r.add 0)).bind AV.asBool).bind fun b15 =>
 cond ((b14 == true) && ((b15 == false) && true)) (
 some (.int .i64 (-1), q12.2)) (
 cond ((b14 == false) && ((b15 == true) && true)) (
 some (.int .i64 1, q12.2)) (
 cond ((b14 == true) && ((b15 == true) && true)) (
 ((q12.2.cell (h6r.add 1)).bind AV.asSl).bind fun l16 =>
 ((q12.2.cell (h5r.add 1)).bind AV.asSl).bind fun l17 =>
 (go (.fn F.kf1 [l16.v, l17.v]) q12.2).bind fun q18 =>
 ((some q18.1).bind (AV.asInt .i64)).bind fun n19 =>
 some (.int .i64 n19, q18.2)) (
 ((q12.2.cell (h5r.add 1)).bind AV.asSl).bind fun l20 =>
 ((q12.2.cell (h6r.add 1)).bind AV.asSl).bind fun l21 =>
 (go (.fn F.kf1 [l20.v, l21.v]) q12.2).bind fun q22 =>
 ((some q22.1).bind (AV.asInt .i64)).bind fun n23 =>
 some (.int .i64 n23, q22.2))))) := (ke _ h).trans (by kernel_rfl)
theorem kvb (a1 : Sl) (h : AH) : go (.fn F.kfb [a1.v, .func (.func F.kct) [] []]) h =
 go (.pt F.kfb Td.ki3 [(0, a1.v), (1, .func (.func F.kct) [] []), (7, .int .i64 (a1.len : Int)), (8, .int .i64 0)]) h := (ke _ h).trans (by kernel_rfl)
theorem kuj (a1 : Sl) (h : AH) : go (.fn F.kfa [a1.v, .func (.func F.kcn) [] []]) h =
 go (.pt F.kfa Td.kja [(0, a1.v), (1, .func (.func F.kcn) [] []), (7, .int .i64 (a1.len : Int)), (8, .int .i64 0)]) h := (ke _ h).trans (by kernel_rfl)
theorem ksb (a1 : Int) (a2 : Int) (a3 : Int) (h : AH) : go (.fn F.kbh [.int .u64 a1, .int .u64 a2, .int .u64 a3]) h =
 cond (decide (a3 = 0)) (
 (h.cell (.old ⟨0, 0, none⟩)).bind fun v4 =>
 none) (
 go (.pt F.kbh Td.klx [(0, .int .u64 a1), (1, .int .u64 a2), (2, .int .u64 a3)]) h) := (ke _ h).trans (by kernel_rfl)
theorem kta (a1 : Int) (h : AH) : go (.fn F.kjt [.int .u64 a1]) h =
 cond (decide (a1 ≥ 4294967296)) (
 cond (decide ((ishr .u64 a1 32) ≥ 65536)) (
 cond (decide ((ishr .u64 (ishr .u64 a1 32) 16) ≥ 256)) (
 cond (decide (0 ≤ (IntKind.wrap .u8 (ishr .u64 (ishr .u64 (ishr .u64 a1 32) 16) 8)))) (
 (lit1[Int.toNat (IntKind.wrap .u8 (ishr .u64 (ishr .u64 (ishr .u64 a1 32) 16) 8))]?).bind fun b2 =>
 some (.int .i64 (IntKind.wrap .i64 ((IntKind.wrap .i64 ((IntKind.wrap .i64 (32 + 16)) + 8)) + (IntKind.wrap .i64 (b2.toNat : Int)))), h)) none) (
 cond (decide (0 ≤ (IntKind.wrap .u8 (ishr .u64 (ishr .u64 a1 32) 16)))) (
 (lit1[Int.toNat (IntKind.wrap .u8 (ishr .u64 (ishr .u64 a1 32) 16))]?).bind fun b3 =>
 some (.int .i64 (IntKind.wrap .i64 ((IntKind.wrap .i64 (32 + 16)) + (IntKind.wrap .i64 (b3.toNat : Int)))), h)) none)) (
 cond (decide ((ishr .u64 a1 32) ≥ 256)) (
 cond (decide (0 ≤ (IntKind.wrap .u8 (ishr .u64 (ishr .u64 a1 32) 8)))) (
 (lit1[Int.toNat (IntKind.wrap .u8 (ishr .u64 (ishr .u64 a1 32) 8))]?).bind fun b4 =>
 some (.int .i64 (IntKind.wrap .i64 ((IntKind.wrap .i64 (32 + 8)) + (IntKind.wrap .i64 (b4.toNat : Int)))), h)) none) (
 cond (decide (0 ≤ (IntKind.wrap .u8 (ishr .u64 a1 32)))) (
 (lit1[Int.toNat (IntKind.wrap .u8 (ishr .u64 a1 32))]?).bind fun b5 =>
 some (.int .i64 (IntKind.wrap .i64 (32 + (IntKind.wrap .i64 (b5.toNat : Int)))), h)) none))) (
 cond (decide (a1 ≥ 65536)) (
 cond (decide ((ishr .u64 a1 16) ≥ 256)) (
 cond (decide (0 ≤ (IntKind.wrap .u8 (ishr .u64 (ishr .u64 a1 16) 8)))) (
 (lit1[Int.toNat (IntKind.wrap .u8 (ishr .u64 (ishr .u64 a1 16) 8))]?).bind fun b6 =>
 some (.int .i64 (IntKind.wrap .i64 ((IntKind.wrap .i64 ((IntKind.wrap .i64 (0 + 16)) + 8)) + (IntKind.wrap .i64 (b6.toNat : Int)))), h)) none) (
 cond (decide (0 ≤ (IntKind.wrap .u8 (ishr .u64 a1 16)))) (
 (lit1[Int.toNat (IntKind.wrap .u8 (ishr .u64 a1 16))]?).bind fun b7 =>
 some (.int .i64 (IntKind.wrap .i64 ((IntKind.wrap .i64 (0 + 16)) + (IntKind.wrap .i64 (b7.toNat : Int)))), h)) none)) (
 cond (decide (a1 ≥ 256)) (
 cond (decide (0 ≤ (IntKind.wrap .u8 (ishr .u64 a1 8)))) (
 (lit1[Int.toNat (IntKind.wrap .u8 (ishr .u64 a1 8))]?).bind fun b8 =>
 some (.int .i64 (IntKind.wrap .i64 ((IntKind.wrap .i64 (0 + 8)) + (IntKind.wrap .i64 (b8.toNat : Int)))), h)) none) (
 cond (decide (0 ≤ (IntKind.wrap .u8 a1))) (
 (lit1[Int.toNat (IntKind.wrap .u8 a1)]?).bind fun b9 =>
 some (.int .i64 (IntKind.wrap .i64 (0 + (IntKind.wrap .i64 (b9.toNat : Int)))), h)) none))) := (ke _ h).trans (by kernel_rfl)
theorem kts (a1 : Int) (a2 : Sl) (a3 : Sl) (a4 : Int) (a5 : Int) (h : AH) : go (.pt F.kc2 Td.kgg [(1, .int .u64 a1), (5, a2.v), (12, a3.v), (13, .int .i64 a4), (14, .int .i64 a5)]) h =
 cond (decide (a5 < a4)) (
 (idx a3.ref a3.len a5 1).bind fun r6 =>
 ((h.cell r6).bind (AV.asInt .u64)).bind fun n7 =>
 (idx a2.ref a2.len a5 1).bind fun r8 =>
 ((h.cell r8).bind (AV.asInt .u64)).bind fun n9 =>
 cond (decide (a1 < 0)) none (
 (idx a2.ref a2.len a5 1).bind fun r10 =>
 (h.puts r10 [.int .u64 (ior .u64 n9 (ishl .u64 n7 a1))]).bind fun h11 =>
 cond (decide (a1 > 0)) (
 cond (decide ((IntKind.wrap .u64 (64 - a1)) < 0)) none (
 (idx a2.ref a2.len (IntKind.wrap .i64 (a5 + 1)) 1).bind fun r12 =>
 (h11.puts r12 [.int .u64 (ishr .u64 n7 (IntKind.wrap .u64 (64 - a1)))]).bind fun h13 =>
 go (.pt F.kc2 Td.kgg [(1, .int .u64 a1), (5, a2.v), (12, a3.v), (13, .int .i64 a4), (14, .int .i64 (IntKind.wrap .i64 (a5 + 1)))]) h13)) (
 go (.pt F.kc2 Td.kgg [(1, .int .u64 a1), (5, a2.v), (12, a3.v), (13, .int .i64 a4), (14, .int .i64 (IntKind.wrap .i64 (a5 + 1)))]) h11))) (
 some (a2.v, h)) := (ke _ h).trans (by kernel_rfl)
theorem kwu (a1 : Int) (a2 : Int) (a3 : Int) (a4 : Int) (a5 : Int) (h : AH) : go (.fn F.kdd [.int .u64 a1, .int .u64 a2, .int .u64 a3, .int .u64 a4, .int .u64 a5]) h =
 cond (decide (a1 ≥ a4)) (
 some (.int .u64 18446744073709551615, h)) (
 (go (.fn F.kbh [.int .u64 a1, .int .u64 a2, .int .u64 a4]) h).bind fun q6 =>
 (AV.asTup2 q6.1).bind fun p7 =>
 ((some p7.1).bind (AV.asInt .u64)).bind fun n8 =>
 ((some p7.2).bind (AV.asInt .u64)).bind fun n9 =>
 go (.pt F.kdd Td.kgc [(2, .int .u64 a3), (3, .int .u64 a4), (4, .int .u64 a5), (11, .int .u64 n8), (12, .int .u64 n9)]) q6.2) := (ke _ h).trans (by kernel_rfl)
theorem kzf (a1 : Int) (a2 : Sl) (a3 : Sl) (a4 : Int) (a5 : Sl) (a6 : Int) (a7 : Int) (a8 : Sl) (h : AH) : go (.pt F.kbl Td.kjk [(6, .int .u64 a1), (7, a2.v), (8, a3.v), (9, .int .i64 a4), (10, a5.v), (11, .int .i64 a6), (12, .int .u64 a7), (13, a8.v)]) h =
 (go (.fn F.kdl [.int .u64 a7]) h).bind fun q9 =>
 ((some q9.1).bind AV.asSl).bind fun l10 =>
 (go (.fn F.kbx [a3.v, l10.v]) q9.2).bind fun q11 =>
 ((some q11.1).bind AV.asSl).bind fun l12 =>
 (go (.fn F.kez [a8.v]) q11.2).bind fun q13 =>
 ((some q13.1).bind AV.asSl).bind fun l14 =>
 (go (.fn F.kz [l14.v]) q13.2).bind fun q15 =>
 ((some q15.1).bind AV.asSl).bind fun l16 =>
 (go (.fn F.kc0 [l16.v, l12.v]) q15.2).bind fun q17 =>
 ((some q17.1).bind (AV.asInt .i64)).bind fun n18 =>
 cond (decide (n18 ≥ 0)) (
 (go (.fn F.kb2 [a8.v, l12.v]) q17.2).bind fun q19 =>
 ((some q19.1).bind AV.asSl).bind fun l20 =>
 (copyH l20 a8 1 q19.2).bind fun h21 =>
 (idx a5.ref a5.len a6 1).bind fun r22 =>
 (h21.puts r22 [.int .u64 a7]).bind fun h23 =>
 go (.pt F.kbl Td.kiw [(6, .int .u64 a1), (7, a2.v), (8, a3.v), (9, .int .i64 a4), (10, a5.v), (11, .int .i64 (IntKind.wrap .i64 (a6 - 1)))]) h23) (
 go (.pt F.kbl Td.kjk [(6, .int .u64 a1), (7, a2.v), (8, a3.v), (9, .int .i64 a4), (10, a5.v), (11, .int .i64 a6), (12, .int .u64 (IntKind.wrap .u64 (a7 - 1))), (13, a8.v)]) q17.2) := (ke _ h).trans (by kernel_rfl)
theorem kru (a1 : Int) (a2 : Sl) (a3 : Sl) (a4 : Sl) (a5 : Int) (a6 : Int) (h : AH) : go (.pt F.kbl Td.kfn [(6, .int .u64 a1), (10, a2.v), (15, a3.v), (16, a4.v), (112, .int .i64 a5), (113, .int .i64 a6)]) h =
 cond (decide (a6 < a5)) (
 (idx a3.ref a3.len a6 1).bind fun r7 =>
 ((h.cell r7).bind (AV.asInt .u64)).bind fun n8 =>
 cond (decide (a1 < 0)) none (
 (idx a4.ref a4.len a6 1).bind fun r9 =>
 (h.puts r9 [.int .u64 (ishr .u64 n8 a1)]).bind fun h10 =>
 cond (decide (a1 > 0)) (
 cond (decide ((IntKind.wrap .i64 (a6 + 1)) < (a3.len : Int))) (
 (idx a4.ref a4.len a6 1).bind fun r11 =>
 ((h10.cell r11).bind (AV.asInt .u64)).bind fun n12 =>
 (idx a3.ref a3.len (IntKind.wrap .i64 (a6 + 1)) 1).bind fun r13 =>
 ((h10.cell r13).bind (AV.asInt .u64)).bind fun n14 =>
 cond (decide ((IntKind.wrap .u64 (64 - a1)) < 0)) none (
 (idx a4.ref a4.len a6 1).bind fun r15 =>
 (h10.puts r15 [.int .u64 (ior .u64 n12 (ishl .u64 n14 (IntKind.wrap .u64 (64 - a1))))]).bind fun h16 =>
 go (.pt F.kbl Td.kfn [(6, .int .u64 a1), (10, a2.v), (15, a3.v), (16, a4.v), (112, .int .i64 a5), (113, .int .i64 (IntKind.wrap .i64 (a6 + 1)))]) h16)) (
 go (.pt F.kbl Td.kfn [(6, .int .u64 a1), (10, a2.v), (15, a3.v), (16, a4.v), (112, .int .i64 a5), (113, .int .i64 (IntKind.wrap .i64 (a6 + 1)))]) h10)) (
 go (.pt F.kbl Td.kfn [(6, .int .u64 a1), (10, a2.v), (15, a3.v), (16, a4.v), (112, .int .i64 a5), (113, .int .i64 (IntKind.wrap .i64 (a6 + 1)))]) h10))) (
 (go (.fn F.kz [a2.v]) h).bind fun q17 =>
 ((some q17.1).bind AV.asSl).bind fun l18 =>
 (go (.fn F.kz [a4.v]) q17.2).bind fun q19 =>
 ((some q19.1).bind AV.asSl).bind fun l20 =>
 some (.tup [l18.v, l20.v], q19.2)) := (ke _ h).trans (by kernel_rfl)
theorem krr (a1 : Bool) (a2 : Sl) (a3 : Bool) (a4 : Sl) (h : AH) : go (.fn F.kel [.agg [.bool a1, a2.v], .agg [.bool a3, a4.v]]) h =
 newK h (.cells [.bool a1, a2.v] T.kf) fun h5r h5 =>
 newK h5 (.cells [.bool a3, a4.v] T.kf) fun h6r h6 =>
 newK h6 (.cells [.bool false, (⟨none, 0, .is 0⟩ : Sl).v] T.kf) fun h7r h7 =>
 ((h7.cell (h5r.add 0)).bind AV.asBool).bind fun b8 =>
 ((h7.cell (h5r.add 1)).bind AV.asSl).bind fun l9 =>
 ((h7.cell (h6r.add 0)).bind AV.asBool).bind fun b10 =>
 ((h7.cell (h6r.add 1)).bind AV.asSl).bind fun l11 =>
 newK h7 (.cells [.bool b8, l9.v, .bool b10, l11.v] T.kf) fun h12r h12 =>
 (go (.fn F.ke7 [(⟨some h12r, 2, .is 2⟩ : Sl).v]) h12).bind fun q13 =>
 ((some q13.1).bind AV.asBool).bind fun b14 =>
 cond (!b14) (
 (q13.2.puts h7r [.bool false, (⟨none, 0, .is 0⟩ : Sl).v]).bind fun h15 =>
 ((h15.cell (h7r.add 0)).bind AV.asBool).bind fun b16 =>
 ((h15.cell (h7r.add 1)).bind AV.asSl).bind fun l17 =>
 some (.tup [.agg [.bool b16, l17.v], .int .i64 1], h15)) (
 ((q13.2.cell (h5r.add 0)).bind AV.asBool).bind fun b18 =>
 ((q13.2.cell (h6r.add 0)).bind AV.asBool).bind fun b19 =>
 cond (b18 == b19) (
 ((q13.2.cell (h5r.add 1)).bind AV.asSl).bind fun l20 =>
 ((q13.2.cell (h6r.add 1)).bind AV.asSl).bind fun l21 =>
 (go (.fn F.kj6 [l20.v, l21.v]) q13.2).bind fun q22 =>
 (AV.asTup2 q22.1).bind fun p23 =>
 ((some p23.1).bind AV.asSl).bind fun l24 =>
 ((some p23.2).bind (AV.asInt .i64)).bind fun n25 =>
 ((q22.2.cell (h5r.add 0)).bind AV.asBool).bind fun b26 =>
 (go (.fn F.kca [.bool b26, l24.v]) q22.2).bind fun q27 =>
 (AV.asAgg q27.1).bind fun cs28 =>
 cond (Nat.beq cs28.length 2) (
 ((cs28[0]?).bind AV.asBool).bind fun b29 =>
 ((cs28[1]?).bind AV.asSl).bind fun l30 =>
 (q27.2.puts h7r [.bool b29, l30.v]).bind fun h31 =>
 ((h31.cell (h7r.add 0)).bind AV.asBool).bind fun b32 =>
 ((h31.cell (h7r.add 1)).bind AV.asSl).bind fun l33 =>
 some (.tup [.agg [.bool b32, l33.v], .int .i64 n25], h31)) none) (
 ((q13.2.cell (h5r.add 1)).bind AV.asSl).bind fun l34 =>
 ((q13.2.cell (h6r.add 1)).bind AV.asSl).bind fun l35 =>
 (go (.fn F.kf1 [l34.v, l35.v]) q13.2).bind fun q36 =>
 ((some q36.1).bind (AV.asInt .i64)).bind fun n37 =>
 cond (decide (n37 < 0)) (
 ((q36.2.cell (h6r.add 0)).bind AV.asBool).bind fun b38 =>
 ((q36.2.cell (h6r.add 1)).bind AV.asSl).bind fun l39 =>
 ((q36.2.cell (h5r.add 0)).bind AV.asBool).bind fun b40 =>
 ((q36.2.cell (h5r.add 1)).bind AV.asSl).bind fun l41 =>
 (q36.2.puts h5r [.bool b38, l39.v]).bind fun h42 =>
 (h42.puts h6r [.bool b40, l41.v]).bind fun h43 =>
 ((h43.cell (h5r.add 1)).bind AV.asSl).bind fun l44 =>
 ((h43.cell (h6r.add 1)).bind AV.asSl).bind fun l45 =>
 (go (.fn F.khz [l44.v, l45.v]) h43).bind fun q46 =>
 (AV.asTup2 q46.1).bind fun p47 =>
 ((some p47.1).bind AV.asSl).bind fun l48 =>
 ((some p47.2).bind (AV.asInt .i64)).bind fun n49 =>
 ((q46.2.cell (h5r.add 0)).bind AV.asBool).bind fun b50 =>
 (go (.fn F.kca [.bool b50, l48.v]) q46.2).bind fun q51 =>
 (AV.asAgg q51.1).bind fun cs52 =>
 cond (Nat.beq cs52.length 2) (
 ((cs52[0]?).bind AV.asBool).bind fun b53 =>
 ((cs52[1]?).bind AV.asSl).bind fun l54 =>
 (q51.2.puts h7r [.bool b53, l54.v]).bind fun h55 =>
 ((h55.cell (h7r.add 0)).bind AV.asBool).bind fun b56 =>
 ((h55.cell (h7r.add 1)).bind AV.asSl).bind fun l57 =>
 some (.tup [.agg [.bool b56, l57.v], .int .i64 n49], h55)) none) (
 ((q36.2.cell (h5r.add 1)).bind AV.asSl).bind fun l58 =>
 ((q36.2.cell (h6r.add 1)).bind AV.asSl).bind fun l59 =>
 (go (.fn F.khz [l58.v, l59.v]) q36.2).bind fun q60 =>
 (AV.asTup2 q60.1).bind fun p61 =>
 ((some p61.1).bind AV.asSl).bind fun l62 =>
 ((some p61.2).bind (AV.asInt .i64)).bind fun n63 =>
 ((q60.2.cell (h5r.add 0)).bind AV.asBool).bind fun b64 =>
 (go (.fn F.kca [.bool b64, l62.v]) q60.2).bind fun q65 =>
 (AV.asAgg q65.1).bind fun cs66 =>
 cond (Nat.beq cs66.length 2) (
 ((cs66[0]?).bind AV.asBool).bind fun b67 =>
 ((cs66[1]?).bind AV.asSl).bind fun l68 =>
 (q65.2.puts h7r [.bool b67, l68.v]).bind fun h69 =>
 ((h69.cell (h7r.add 0)).bind AV.asBool).bind fun b70 =>
 ((h69.cell (h7r.add 1)).bind AV.asSl).bind fun l71 =>
 some (.tup [.agg [.bool b70, l71.v], .int .i64 n63], h69)) none))) := (ke _ h).trans (by kernel_rfl)
theorem kve (a1 : Bool) (a2 : Sl) (a3 : Bool) (a4 : Sl) (h : AH) : go (.fn F.kfx [.agg [.bool a1, a2.v], .agg [.bool a3, a4.v]]) h =
 newK h (.cells [.bool a1, a2.v] T.kf) fun h5r h5 =>
 newK h5 (.cells [.bool a3, a4.v] T.kf) fun h6r h6 =>
 newK h6 (.cells [.bool false, (⟨none, 0, .is 0⟩ : Sl).v] T.kf) fun h7r h7 =>
 ((h7.cell (h5r.add 0)).bind AV.asBool).bind fun b8 =>
 ((h7.cell (h5r.add 1)).bind AV.asSl).bind fun l9 =>
 ((h7.cell (h6r.add 0)).bind AV.asBool).bind fun b10 =>
 ((h7.cell (h6r.add 1)).bind AV.asSl).bind fun l11 =>
 newK h7 (.cells [.bool b8, l9.v, .bool b10, l11.v] T.kf) fun h12r h12 =>
 (go (.fn F.ke7 [(⟨some h12r, 2, .is 2⟩ : Sl).v]) h12).bind fun q13 =>
 ((some q13.1).bind AV.asBool).bind fun b14 =>
 cond (!b14) (
 (q13.2.puts h7r [.bool false, (⟨none, 0, .is 0⟩ : Sl).v]).bind fun h15 =>
 ((h15.cell (h7r.add 0)).bind AV.asBool).bind fun b16 =>
 ((h15.cell (h7r.add 1)).bind AV.asSl).bind fun l17 =>
 some (.tup [.agg [.bool b16, l17.v], .int .i64 1], h15)) (
 ((q13.2.cell (h5r.add 0)).bind AV.asBool).bind fun b18 =>
 ((q13.2.cell (h5r.add 1)).bind AV.asSl).bind fun l19 =>
 ((q13.2.cell (h6r.add 0)).bind AV.asBool).bind fun b20 =>
 ((q13.2.cell (h6r.add 1)).bind AV.asSl).bind fun l21 =>
 (go (.fn F.kkg [.agg [.bool b20, l21.v]]) q13.2).bind fun q22 =>
 (AV.asAgg q22.1).bind fun cs23 =>
 cond (Nat.beq cs23.length 2) (
 ((cs23[0]?).bind AV.asBool).bind fun b24 =>
 ((cs23[1]?).bind AV.asSl).bind fun l25 =>
 whenK (SameAt q13.2 q22.2 h5r 2) (
 (go (.fn F.kel [.agg [.bool b18, l19.v], .agg [.bool b24, l25.v]]) q22.2).bind fun q26 =>
 (AV.asTup2 q26.1).bind fun p27 =>
 (AV.asAgg p27.1).bind fun cs28 =>
 cond (Nat.beq cs28.length 2) (
 ((cs28[0]?).bind AV.asBool).bind fun b29 =>
 ((cs28[1]?).bind AV.asSl).bind fun l30 =>
 ((some p27.2).bind (AV.asInt .i64)).bind fun n31 =>
 (q26.2.puts h7r [.bool b29, l30.v]).bind fun h32 =>
 ((h32.cell (h7r.add 0)).bind AV.asBool).bind fun b33 =>
 ((h32.cell (h7r.add 1)).bind AV.asSl).bind fun l34 =>
 some (.tup [.agg [.bool b33, l34.v], .int .i64 n31], h32)) none)) none) := (ke _ h).trans (by kernel_rfl)
theorem kt9 (a1 : Sl) (h : AH) : go (.fn F.kop [a1.v, .func (.func F.kcq) [] []]) h =
 (go (.fn F.ke8 [a1.v, .func (.func F.kcq) [] []]) h).bind fun q2 =>
 ((some q2.1).bind (AV.asInt .i64)).bind fun n3 =>
 some (.bool (decide (n3 ≥ 0)), q2.2) := (ke _ h).trans (by kernel_rfl)
theorem kss (a1 : Sl) (a2 : Sl) (h : AH) : go (.fn F.kf1 [a1.v, a2.v]) h =
 newK h (.cells [a1.v, a2.v] T.kbs) fun h3r h3 =>
 (go (.fn F.kdx [(⟨some h3r, 2, .is 2⟩ : Sl).v]) h3).bind fun q4 =>
 ((some q4.1).bind AV.asBool).bind fun b5 =>
 cond (!b5) (
 some (.int .i64 0, q4.2)) (
 (go (.fn F.kc0 [a1.v, a2.v]) q4.2).bind fun q6 =>
 ((some q6.1).bind (AV.asInt .i64)).bind fun n7 =>
 some (.int .i64 n7, q6.2)) := (ke _ h).trans (by kernel_rfl)
theorem kpx (a1 : Sl) (a2 : Int) (a3 : Int) (h : AH) : go (.pt F.kfb Td.ki3 [(0, a1.v), (1, .func (.func F.kct) [] []), (7, .int .i64 a2), (8, .int .i64 a3)]) h =
 cond (decide (a3 < a2)) (
 (idx a1.ref a1.len a3 2).bind fun r4 =>
 ((h.cell (r4.add 0)).bind AV.asBool).bind fun b5 =>
 ((h.cell (r4.add 1)).bind AV.asSl).bind fun l6 =>
 (go (.fn F.kct [.agg [.bool b5, l6.v]]) h).bind fun q7 =>
 ((some q7.1).bind AV.asBool).bind fun b8 =>
 cond b8 (
 some (.int .i64 a3, q7.2)) (
 go (.pt F.kfb Td.ki3 [(0, a1.v), (1, .func (.func F.kct) [] []), (7, .int .i64 a2), (8, .int .i64 (IntKind.wrap .i64 (a3 + 1)))]) q7.2)) (
 some (.int .i64 (-1), h)) := (ke _ h).trans (by kernel_rfl)
theorem kl8 (a1 : Sl) (a2 : Int) (a3 : Int) (h : AH) : go (.pt F.kfa Td.kja [(0, a1.v), (1, .func (.func F.kcn) [] []), (7, .int .i64 a2), (8, .int .i64 a3)]) h =
 cond (decide (a3 < a2)) (
 (idx a1.ref a1.len a3 1).bind fun r4 =>
 ((h.cell r4).bind AV.asSl).bind fun l5 =>
 (go (.fn F.kcn [l5.v]) h).bind fun q6 =>
 ((some q6.1).bind AV.asBool).bind fun b7 =>
 cond b7 (
 some (.int .i64 a3, q6.2)) (
 go (.pt F.kfa Td.kja [(0, a1.v), (1, .func (.func F.kcn) [] []), (7, .int .i64 a2), (8, .int .i64 (IntKind.wrap .i64 (a3 + 1)))]) q6.2)) (
 some (.int .i64 (-1), h)) := (ke _ h).trans (by kernel_rfl)
theorem kvq (a1 : Int) (a2 : Int) (a3 : Int) (h : AH) : go (.pt F.kbh Td.klx [(0, .int .u64 a1), (1, .int .u64 a2), (2, .int .u64 a3)]) h =
 cond (decide (a3 ≤ a1)) (
 (h.cell (.old ⟨1, 0, none⟩)).bind fun v4 =>
 none) (
 cond (decide (a1 = 0)) (
 cond (decide (a3 = 0)) none (
 cond (decide (a3 = 0)) none (
 some (.tup [.int .u64 (IntKind.wrap .u64 (Int.tdiv a2 a3)), .int .u64 (Int.tmod a2 a3)], h)))) (
 (go (.fn F.ki5 [.int .u64 a3]) h).bind fun q5 =>
 ((some q5.1).bind (AV.asInt .i64)).bind fun n6 =>
 cond (decide ((IntKind.wrap .u64 n6) < 0)) none (
 cond (decide ((IntKind.wrap .u64 n6) < 0)) none (
 cond (decide ((IntKind.wrap .u64 (64 - (IntKind.wrap .u64 n6))) < 0)) none (
 cond (decide ((IntKind.wrap .u64 n6) < 0)) none (
 cond (decide ((ishr .u64 (ishl .u64 a3 (IntKind.wrap .u64 n6)) 32) = 0)) none (
 go (.pt F.kbh Td.kgb [(2, .int .u64 (ishl .u64 a3 (IntKind.wrap .u64 n6))), (8, .int .u64 (IntKind.wrap .u64 n6)), (9, .int .u64 (ishr .u64 (ishl .u64 a3 (IntKind.wrap .u64 n6)) 32)), (10, .int .u64 (iand .u64 (ishl .u64 a3 (IntKind.wrap .u64 n6)) 4294967295)), (11, .int .u64 (ior .u64 (ishl .u64 a1 (IntKind.wrap .u64 n6)) (ishr .u64 a2 (IntKind.wrap .u64 (64 - (IntKind.wrap .u64 n6)))))), (13, .int .u64 (ishr .u64 (ishl .u64 a2 (IntKind.wrap .u64 n6)) 32)), (14, .int .u64 (iand .u64 (ishl .u64 a2 (IntKind.wrap .u64 n6)) 4294967295)), (15, .int .u64 (IntKind.wrap .u64 (Int.tdiv (ior .u64 (ishl .u64 a1 (IntKind.wrap .u64 n6)) (ishr .u64 a2 (IntKind.wrap .u64 (64 - (IntKind.wrap .u64 n6))))) (ishr .u64 (ishl .u64 a3 (IntKind.wrap .u64 n6)) 32)))), (16, .int .u64 (IntKind.wrap .u64 ((ior .u64 (ishl .u64 a1 (IntKind.wrap .u64 n6)) (ishr .u64 a2 (IntKind.wrap .u64 (64 - (IntKind.wrap .u64 n6))))) - (IntKind.wrap .u64 ((IntKind.wrap .u64 (Int.tdiv (ior .u64 (ishl .u64 a1 (IntKind.wrap .u64 n6)) (ishr .u64 a2 (IntKind.wrap .u64 (64 - (IntKind.wrap .u64 n6))))) (ishr .u64 (ishl .u64 a3 (IntKind.wrap .u64 n6)) 32))) * (ishr .u64 (ishl .u64 a3 (IntKind.wrap .u64 n6)) 32))))))]) q5.2))))))) := (ke _ h).trans (by kernel_rfl)
theorem ksx (a1 : Int) (a2 : Int) (a3 : Int) (a4 : Int) (a5 : Int) (h : AH) : go (.pt F.kdd Td.kgc [(2, .int .u64 a1), (3, .int .u64 a2), (4, .int .u64 a3), (11, .int .u64 a4), (12, .int .u64 a5)]) h =
 (go (.fn F.kiq [.int .u64 a4, .int .u64 a3]) h).bind fun q6 =>
 (AV.asTup2 q6.1).bind fun p7 =>
 ((some p7.1).bind (AV.asInt .u64)).bind fun n8 =>
 ((some p7.2).bind (AV.asInt .u64)).bind fun n9 =>
 cond (decide (n8 < a5)) (
 some (.int .u64 a4, q6.2)) (
 cond (decide (n8 = a5)) (
 cond (decide (n9 ≤ a1)) (
 some (.int .u64 a4, q6.2)) (
 cond (decide ((IntKind.wrap .u64 (a5 + a2)) < a5)) (
 some (.int .u64 (IntKind.wrap .u64 (a4 - 1)), q6.2)) (
 go (.pt F.kdd Td.kgc [(2, .int .u64 a1), (3, .int .u64 a2), (4, .int .u64 a3), (11, .int .u64 (IntKind.wrap .u64 (a4 - 1))), (12, .int .u64 (IntKind.wrap .u64 (a5 + a2)))]) q6.2))) (
 cond (decide ((IntKind.wrap .u64 (a5 + a2)) < a5)) (
 some (.int .u64 (IntKind.wrap .u64 (a4 - 1)), q6.2)) (
 go (.pt F.kdd Td.kgc [(2, .int .u64 a1), (3, .int .u64 a2), (4, .int .u64 a3), (11, .int .u64 (IntKind.wrap .u64 (a4 - 1))), (12, .int .u64 (IntKind.wrap .u64 (a5 + a2)))]) q6.2))) := (ke _ h).trans (by kernel_rfl)
theorem kx0 (a1 : Sl) (a2 : Sl) (h : AH) : go (.fn F.kj6 [a1.v, a2.v]) h =
 newK h (.cells [a1.v, a2.v] T.kbs) fun h3r h3 =>
 (go (.fn F.kdx [(⟨some h3r, 2, .is 2⟩ : Sl).v]) h3).bind fun q4 =>
 ((some q4.1).bind AV.asBool).bind fun b5 =>
 cond (!b5) (
 some (.tup [(⟨none, 0, .is 0⟩ : Sl).v, .int .i64 1], q4.2)) (
 (go (.fn F.kb1 [a1.v, a2.v]) q4.2).bind fun q6 =>
 ((some q6.1).bind AV.asSl).bind fun l7 =>
 (go (.fn F.kg1 [l7.v]) q6.2).bind fun q8 =>
 (AV.asTup2 q8.1).bind fun p9 =>
 ((some p9.1).bind AV.asSl).bind fun l10 =>
 ((some p9.2).bind (AV.asInt .i64)).bind fun n11 =>
 some (.tup [l10.v, .int .i64 n11], q8.2)) := (ke _ h).trans (by kernel_rfl)
theorem kxi (a1 : Sl) (a2 : Sl) (h : AH) : go (.fn F.khz [a1.v, a2.v]) h =
 newK h (.cells [a1.v, a2.v] T.kbs) fun h3r h3 =>
 (go (.fn F.kdx [(⟨some h3r, 2, .is 2⟩ : Sl).v]) h3).bind fun q4 =>
 ((some q4.1).bind AV.asBool).bind fun b5 =>
 cond (!b5) (
 some (.tup [(⟨none, 0, .is 0⟩ : Sl).v, .int .i64 1], q4.2)) (
 (go (.fn F.kc0 [a1.v, a2.v]) q4.2).bind fun q6 =>
 ((some q6.1).bind (AV.asInt .i64)).bind fun n7 =>
 cond (decide (n7 < 0)) (
 some (.tup [(⟨none, 0, .is 0⟩ : Sl).v, .int .i64 2], q6.2)) (
 (go (.fn F.kb2 [a1.v, a2.v]) q6.2).bind fun q8 =>
 ((some q8.1).bind AV.asSl).bind fun l9 =>
 (go (.fn F.kg1 [l9.v]) q8.2).bind fun q10 =>
 (AV.asTup2 q10.1).bind fun p11 =>
 ((some p11.1).bind AV.asSl).bind fun l12 =>
 ((some p11.2).bind (AV.asInt .i64)).bind fun n13 =>
 some (.tup [l12.v, .int .i64 n13], q10.2))) := (ke _ h).trans (by kernel_rfl)
theorem kwx (a1 : Bool) (a2 : Sl) (h : AH) : go (.fn F.kkg [.agg [.bool a1, a2.v]]) h =
 newK h (.cells [.bool a1, a2.v] T.kf) fun h3r h3 =>
 newK h3 (.cells [.bool false, (⟨none, 0, .is 0⟩ : Sl).v] T.kf) fun h4r h4 =>
 ((h4.cell (h3r.add 0)).bind AV.asBool).bind fun b5 =>
 ((h4.cell (h3r.add 1)).bind AV.asSl).bind fun l6 =>
 (go (.fn F.kfp [.agg [.bool b5, l6.v]]) h4).bind fun q7 =>
 ((some q7.1).bind AV.asBool).bind fun b8 =>
 cond (!b8) (
 (q7.2.puts h4r [.bool false, (⟨none, 0, .is 0⟩ : Sl).v]).bind fun h9 =>
 ((h9.cell (h4r.add 0)).bind AV.asBool).bind fun b10 =>
 ((h9.cell (h4r.add 1)).bind AV.asSl).bind fun l11 =>
 some (.agg [.bool b10, l11.v], h9)) (
 ((q7.2.cell (h3r.add 0)).bind AV.asBool).bind fun b12 =>
 ((q7.2.cell (h3r.add 1)).bind AV.asSl).bind fun l13 =>
 (go (.fn F.kca [.bool (!b12), l13.v]) q7.2).bind fun q14 =>
 (AV.asAgg q14.1).bind fun cs15 =>
 cond (Nat.beq cs15.length 2) (
 ((cs15[0]?).bind AV.asBool).bind fun b16 =>
 ((cs15[1]?).bind AV.asSl).bind fun l17 =>
 (q14.2.puts h4r [.bool b16, l17.v]).bind fun h18 =>
 ((h18.cell (h4r.add 0)).bind AV.asBool).bind fun b19 =>
 ((h18.cell (h4r.add 1)).bind AV.asSl).bind fun l20 =>
 some (.agg [.bool b19, l20.v], h18)) none) := (ke _ h).trans (by kernel_rfl)
theorem kwi (a1 : Sl) (h : AH) : go (.fn F.ke8 [a1.v, .func (.func F.kcq) [] []]) h =
 go (.pt F.ke8 Td.kht [(0, a1.v), (1, .func (.func F.kcq) [] []), (7, .int .i64 (a1.len : Int)), (8, .int .i64 0)]) h := (ke _ h).trans (by kernel_rfl)
theorem kt7 (a1 : Bool) (a2 : Sl) (h : AH) : go (.fn F.kct [.agg [.bool a1, a2.v]]) h =
 newK h (.cells [.bool a1, a2.v] T.kf) fun h3r h3 =>
 ((h3.cell (h3r.add 0)).bind AV.asBool).bind fun b4 =>
 ((h3.cell (h3r.add 1)).bind AV.asSl).bind fun l5 =>
 (go (.fn F.kfp [.agg [.bool b4, l5.v]]) h3).bind fun q6 =>
 ((some q6.1).bind AV.asBool).bind fun b7 =>
 some (.bool (!b7), q6.2) := (ke _ h).trans (by kernel_rfl)
theorem kyu (a1 : Sl) (h : AH) : go (.fn F.kcn [a1.v]) h =
 (go (.fn F.kdo [a1.v]) h).bind fun q2 =>
 ((some q2.1).bind AV.asBool).bind fun b3 =>
 some (.bool (!b3), q2.2) := (ke _ h).trans (by kernel_rfl)
theorem kwt (a1 : Int) (a2 : Int) (a3 : Int) (a4 : Int) (a5 : Int) (a6 : Int) (a7 : Int) (a8 : Int) (a9 : Int) (h : AH) : go (.pt F.kbh Td.kgb [(2, .int .u64 a1), (8, .int .u64 a2), (9, .int .u64 a3), (10, .int .u64 a4), (11, .int .u64 a5), (13, .int .u64 a6), (14, .int .u64 a7), (15, .int .u64 a8), (16, .int .u64 a9)]) h =
 cond (decide (a8 ≥ 4294967296)) (
 cond (decide ((IntKind.wrap .u64 (a9 + a3)) ≥ 4294967296)) (
 cond (decide (a3 = 0)) none (
 go (.pt F.kbh Td.ker [(2, .int .u64 a1), (8, .int .u64 a2), (9, .int .u64 a3), (10, .int .u64 a4), (14, .int .u64 a7), (15, .int .u64 (IntKind.wrap .u64 (a8 - 1))), (16, .int .u64 (IntKind.wrap .u64 ((IntKind.wrap .u64 ((IntKind.wrap .u64 ((IntKind.wrap .u64 (a5 * 4294967296)) + a6)) - (IntKind.wrap .u64 ((IntKind.wrap .u64 (a8 - 1)) * a1)))) - (IntKind.wrap .u64 ((IntKind.wrap .u64 (Int.tdiv (IntKind.wrap .u64 ((IntKind.wrap .u64 ((IntKind.wrap .u64 (a5 * 4294967296)) + a6)) - (IntKind.wrap .u64 ((IntKind.wrap .u64 (a8 - 1)) * a1)))) a3)) * a3))))), (17, .int .u64 (IntKind.wrap .u64 ((IntKind.wrap .u64 ((IntKind.wrap .u64 (a5 * 4294967296)) + a6)) - (IntKind.wrap .u64 ((IntKind.wrap .u64 (a8 - 1)) * a1))))), (18, .int .u64 (IntKind.wrap .u64 (Int.tdiv (IntKind.wrap .u64 ((IntKind.wrap .u64 ((IntKind.wrap .u64 (a5 * 4294967296)) + a6)) - (IntKind.wrap .u64 ((IntKind.wrap .u64 (a8 - 1)) * a1)))) a3)))]) h)) (
 go (.pt F.kbh Td.kgb [(2, .int .u64 a1), (8, .int .u64 a2), (9, .int .u64 a3), (10, .int .u64 a4), (11, .int .u64 a5), (13, .int .u64 a6), (14, .int .u64 a7), (15, .int .u64 (IntKind.wrap .u64 (a8 - 1))), (16, .int .u64 (IntKind.wrap .u64 (a9 + a3)))]) h)) (
 cond (decide ((IntKind.wrap .u64 (a8 * a4)) > (IntKind.wrap .u64 ((IntKind.wrap .u64 (4294967296 * a9)) + a6)))) (
 cond (decide ((IntKind.wrap .u64 (a9 + a3)) ≥ 4294967296)) (
 cond (decide (a3 = 0)) none (
 go (.pt F.kbh Td.ker [(2, .int .u64 a1), (8, .int .u64 a2), (9, .int .u64 a3), (10, .int .u64 a4), (14, .int .u64 a7), (15, .int .u64 (IntKind.wrap .u64 (a8 - 1))), (16, .int .u64 (IntKind.wrap .u64 ((IntKind.wrap .u64 ((IntKind.wrap .u64 ((IntKind.wrap .u64 (a5 * 4294967296)) + a6)) - (IntKind.wrap .u64 ((IntKind.wrap .u64 (a8 - 1)) * a1)))) - (IntKind.wrap .u64 ((IntKind.wrap .u64 (Int.tdiv (IntKind.wrap .u64 ((IntKind.wrap .u64 ((IntKind.wrap .u64 (a5 * 4294967296)) + a6)) - (IntKind.wrap .u64 ((IntKind.wrap .u64 (a8 - 1)) * a1)))) a3)) * a3))))), (17, .int .u64 (IntKind.wrap .u64 ((IntKind.wrap .u64 ((IntKind.wrap .u64 (a5 * 4294967296)) + a6)) - (IntKind.wrap .u64 ((IntKind.wrap .u64 (a8 - 1)) * a1))))), (18, .int .u64 (IntKind.wrap .u64 (Int.tdiv (IntKind.wrap .u64 ((IntKind.wrap .u64 ((IntKind.wrap .u64 (a5 * 4294967296)) + a6)) - (IntKind.wrap .u64 ((IntKind.wrap .u64 (a8 - 1)) * a1)))) a3)))]) h)) (
 go (.pt F.kbh Td.kgb [(2, .int .u64 a1), (8, .int .u64 a2), (9, .int .u64 a3), (10, .int .u64 a4), (11, .int .u64 a5), (13, .int .u64 a6), (14, .int .u64 a7), (15, .int .u64 (IntKind.wrap .u64 (a8 - 1))), (16, .int .u64 (IntKind.wrap .u64 (a9 + a3)))]) h)) (
 cond (decide (a3 = 0)) none (
 go (.pt F.kbh Td.ker [(2, .int .u64 a1), (8, .int .u64 a2), (9, .int .u64 a3), (10, .int .u64 a4), (14, .int .u64 a7), (15, .int .u64 a8), (16, .int .u64 (IntKind.wrap .u64 ((IntKind.wrap .u64 ((IntKind.wrap .u64 ((IntKind.wrap .u64 (a5 * 4294967296)) + a6)) - (IntKind.wrap .u64 (a8 * a1)))) - (IntKind.wrap .u64 ((IntKind.wrap .u64 (Int.tdiv (IntKind.wrap .u64 ((IntKind.wrap .u64 ((IntKind.wrap .u64 (a5 * 4294967296)) + a6)) - (IntKind.wrap .u64 (a8 * a1)))) a3)) * a3))))), (17, .int .u64 (IntKind.wrap .u64 ((IntKind.wrap .u64 ((IntKind.wrap .u64 (a5 * 4294967296)) + a6)) - (IntKind.wrap .u64 (a8 * a1))))), (18, .int .u64 (IntKind.wrap .u64 (Int.tdiv (IntKind.wrap .u64 ((IntKind.wrap .u64 ((IntKind.wrap .u64 (a5 * 4294967296)) + a6)) - (IntKind.wrap .u64 (a8 * a1)))) a3)))]) h))) := (ke _ h).trans (by kernel_rfl)
theorem kpq (a1 : Sl) (a2 : Int) (a3 : Int) (h : AH) : go (.pt F.ke8 Td.kht [(0, a1.v), (1, .func (.func F.kcq) [] []), (7, .int .i64 a2), (8, .int .i64 a3)]) h =
 cond (decide (a3 < a2)) (
 (idx a1.ref a1.len a3 3).bind fun r4 =>
 ((h.cell (r4.add 0)).bind AV.asBool).bind fun b5 =>
 ((h.cell (r4.add 1)).bind AV.asSl).bind fun l6 =>
 ((h.cell (r4.add 2)).bind AV.asSl).bind fun l7 =>
 (go (.fn F.kcq [.agg [.bool b5, l6.v, l7.v]]) h).bind fun q8 =>
 ((some q8.1).bind AV.asBool).bind fun b9 =>
 cond b9 (
 some (.int .i64 a3, q8.2)) (
 go (.pt F.ke8 Td.kht [(0, a1.v), (1, .func (.func F.kcq) [] []), (7, .int .i64 a2), (8, .int .i64 (IntKind.wrap .i64 (a3 + 1)))]) q8.2)) (
 some (.int .i64 (-1), h)) := (ke _ h).trans (by kernel_rfl)
theorem kxa (a1 : Int) (a2 : Int) (a3 : Int) (a4 : Int) (a5 : Int) (a6 : Int) (a7 : Int) (a8 : Int) (a9 : Int) (h : AH) : go (.pt F.kbh Td.ker [(2, .int .u64 a1), (8, .int .u64 a2), (9, .int .u64 a3), (10, .int .u64 a4), (14, .int .u64 a5), (15, .int .u64 a6), (16, .int .u64 a7), (17, .int .u64 a8), (18, .int .u64 a9)]) h =
 cond (decide (a9 ≥ 4294967296)) (
 cond (decide ((IntKind.wrap .u64 (a7 + a3)) ≥ 4294967296)) (
 cond (decide (a2 < 0)) none (
 some (.tup [.int .u64 (IntKind.wrap .u64 ((IntKind.wrap .u64 (a6 * 4294967296)) + (IntKind.wrap .u64 (a9 - 1)))), .int .u64 (ishr .u64 (IntKind.wrap .u64 ((IntKind.wrap .u64 ((IntKind.wrap .u64 (a8 * 4294967296)) + a5)) - (IntKind.wrap .u64 ((IntKind.wrap .u64 (a9 - 1)) * a1)))) a2)], h))) (
 go (.pt F.kbh Td.ker [(2, .int .u64 a1), (8, .int .u64 a2), (9, .int .u64 a3), (10, .int .u64 a4), (14, .int .u64 a5), (15, .int .u64 a6), (16, .int .u64 (IntKind.wrap .u64 (a7 + a3))), (17, .int .u64 a8), (18, .int .u64 (IntKind.wrap .u64 (a9 - 1)))]) h)) (
 cond (decide ((IntKind.wrap .u64 (a9 * a4)) > (IntKind.wrap .u64 ((IntKind.wrap .u64 (4294967296 * a7)) + a5)))) (
 cond (decide ((IntKind.wrap .u64 (a7 + a3)) ≥ 4294967296)) (
 cond (decide (a2 < 0)) none (
 some (.tup [.int .u64 (IntKind.wrap .u64 ((IntKind.wrap .u64 (a6 * 4294967296)) + (IntKind.wrap .u64 (a9 - 1)))), .int .u64 (ishr .u64 (IntKind.wrap .u64 ((IntKind.wrap .u64 ((IntKind.wrap .u64 (a8 * 4294967296)) + a5)) - (IntKind.wrap .u64 ((IntKind.wrap .u64 (a9 - 1)) * a1)))) a2)], h))) (
 go (.pt F.kbh Td.ker [(2, .int .u64 a1), (8, .int .u64 a2), (9, .int .u64 a3), (10, .int .u64 a4), (14, .int .u64 a5), (15, .int .u64 a6), (16, .int .u64 (IntKind.wrap .u64 (a7 + a3))), (17, .int .u64 a8), (18, .int .u64 (IntKind.wrap .u64 (a9 - 1)))]) h)) (
 cond (decide (a2 < 0)) none (
 some (.tup [.int .u64 (IntKind.wrap .u64 ((IntKind.wrap .u64 (a6 * 4294967296)) + a9)), .int .u64 (ishr .u64 (IntKind.wrap .u64 ((IntKind.wrap .u64 ((IntKind.wrap .u64 (a8 * 4294967296)) + a5)) - (IntKind.wrap .u64 (a9 * a1)))) a2)], h)))) := (ke _ h).trans (by kernel_rfl)
theorem kty (a1 : Bool) (a2 : Sl) (a3 : Sl) (h : AH) : go (.fn F.kcq [.agg [.bool a1, a2.v, a3.v]]) h =
 newK h (.cells [.bool a1, a2.v, a3.v] T.kq) fun h4r h4 =>
 ((h4.cell (h4r.add 0)).bind AV.asBool).bind fun b5 =>
 ((h4.cell (h4r.add 1)).bind AV.asSl).bind fun l6 =>
 ((h4.cell (h4r.add 2)).bind AV.asSl).bind fun l7 =>
 (go (.fn F.kku [.agg [.bool b5, l6.v, l7.v]]) h4).bind fun q8 =>
 ((some q8.1).bind AV.asBool).bind fun b9 =>
 some (.bool (!b9), q8.2) := (ke _ h).trans (by kernel_rfl)
theorem kvo (a1 : Bool) (a2 : Sl) (a3 : Sl) (h : AH) : go (.fn F.kku [.agg [.bool a1, a2.v, a3.v]]) h =
 newK h (.cells [.bool a1, a2.v, a3.v] T.kq) fun h4r h4 =>
 ((h4.cell ((h4r.add 0).add 0)).bind AV.asBool).bind fun b5 =>
 ((h4.cell ((h4r.add 0).add 1)).bind AV.asSl).bind fun l6 =>
 (go (.fn F.kfp [.agg [.bool b5, l6.v]]) h4).bind fun q7 =>
 ((some q7.1).bind AV.asBool).bind fun b8 =>
 cond (!b8) (
 some (.bool false, q7.2)) (
 ((q7.2.cell (h4r.add 2)).bind AV.asSl).bind fun l9 =>
 (go (.fn F.kdo [l9.v]) q7.2).bind fun q10 =>
 ((some q10.1).bind AV.asBool).bind fun b11 =>
 cond (!b11) (
 some (.bool false, q10.2)) (
 ((q10.2.cell (h4r.add 2)).bind AV.asSl).bind fun l12 =>
 cond (decide ((l12.len : Int) = 0)) (
 some (.bool false, q10.2)) (
 ((q10.2.cell (h4r.add 2)).bind AV.asSl).bind fun l13 =>
 cond (decide ((l13.len : Int) > 16)) (
 some (.bool false, q10.2)) (
 ((q10.2.cell ((h4r.add 0).add 1)).bind AV.asSl).bind fun l14 =>
 cond (decide ((l14.len : Int) > 16)) (
 some (.bool false, q10.2)) (
 ((q10.2.cell ((h4r.add 0).add 1)).bind AV.asSl).bind fun l15 =>
 ((q10.2.cell (h4r.add 2)).bind AV.asSl).bind fun l16 =>
 (go (.fn F.kdr [l15.v, l16.v]) q10.2).bind fun q17 =>
 (AV.asTup2 q17.1).bind fun p18 =>
 ((some p18.1).bind AV.asSl).bind fun l19 =>
 ((some p18.2).bind (AV.asInt .i64)).bind fun n20 =>
 newK q17.2 (.cells [.int .u64 1] T.kg) fun h21r h21 =>
 (go (.fn F.kf1 [l19.v, (⟨some h21r, 1, .is 1⟩ : Sl).v]) h21).bind fun q22 =>
 ((some q22.1).bind (AV.asInt .i64)).bind fun n23 =>
 some (.bool (decide (n23 = 0)), q22.2)))))) := (ke _ h).trans (by kernel_rfl)
end Go.Ab

/- squeezed -/
set_option linter.unusedVariables false
set_option linter.unusedSimpArgs false
set_option maxRecDepth 10000
namespace Go.Ab
open Go.Proofs Go.Num
@[reducible] def B : Nat := 18446744073709551616
theorem B2 : 2 ≤ B := by decide
def rt (xs : List Nat) : Bool := decide (xs.length ≤ 64) && (decide (xs.length = 0) || !decide (xs.getD (xs.length - 1) 0 = 0))
theorem kb3 {xs : List Nat} {i : Nat} (h : i < xs.length) : xs.getD i 0 = xs[i] := by simp [List.getD, h]
theorem rt_iff {xs : List Nat} : rt xs = true ↔ xs.length ≤ 64 ∧ Trim xs := by
 unfold rt Trim
 simp only [Bool.and_eq_true, decide_eq_true_eq, Bool.or_eq_true, Bool.not_eq_true', decide_eq_false_iff_not, List.length_eq_zero_iff]
 refine and_congr_right fun _ => ?_
 constructor
 ·rintro (h | h) hne
  ·exact absurd h hne
  ·rwa [List.getLast_eq_getElem, ← kb3]
 ·intro h
  by_cases he : xs = []
  ·exact .inl he
  ·right
   have := h he
   rwa [List.getLast_eq_getElem, ← kb3] at this
theorem Nats.last {h : AH} {s : Sl} {xs : List Nat} (n : Nats h s xs) (hx : xs.length ≠ 0) : ∃ r, idx s.ref s.len (IntKind.wrap .i64 ((s.len : Int) - 1)) 1 = some r ∧ h.cell r = some (.int .u64 ((xs.getD (xs.length - 1) 0 : Nat) : Int)) := by
 obtain ⟨k, hk⟩ : ∃ k, xs.length = k + 1 := ⟨xs.length - 1, by omega⟩
 have hs := n.short
 obtain ⟨r, e1, e2⟩ := n.at (i := k) (by omega)
 rw [n.len, hk] at e1 ⊢
 rw [kks (by omega)]
 refine ⟨r, e1, ?_⟩
 rw [e2, show k + 1 - 1 = k from rfl, kb3 (by omega)]
theorem kev {h : AH} {s : Sl} {xs : List Nat} (n : Nats h s xs) : go (.fn F.kdo [s.v]) h = some (.bool (rt xs), h) := by
 rw [ksm]
 have hl := n.len
 refine kk6 (fun h1 => ?_) (fun h1 => ?_)
 ·have h1 : xs.length ≤ 64 := by rw [decide_eq_true_eq] at h1; omega
  refine kk6 (fun h2 => ?_) (fun h2 => ?_)
  ·have h2 : xs.length = 0 := by rw [decide_eq_true_eq] at h2; omega
   simp [rt, h2]
  ·have h2 : xs.length ≠ 0 := by rw [decide_eq_false_iff_not] at h2; omega
   obtain ⟨r, e1, e2⟩ := n.last h2
   simp [e1, e2, rt, h1]
   cases xs
   ·simp at h2
   ·simp
 ·have h1 : ¬ xs.length ≤ 64 := by rw [decide_eq_false_iff_not] at h1; omega
  simp [rt, h1]
theorem kp8 {h : AH} {s : Sl} {xs : List Nat} (n : Nats h s xs) : ∀ (k : Nat), k ≤ xs.length → (∀ i, k ≤ i → (hi : i < xs.length) → xs[i] = 0) →
  ∃ s', go (.pt F.kz Td.kgj [(0, s.v), (3, .int .i64 (k : Int))]) h = some (s'.v, h) ∧ Nats h s' (digs B (num B xs)) ∧ ∀ h0, Own h0 s → Own h0 s'
 | 0, hk, hz => by
  rw [kh1]
  obtain ⟨s', e1, e2, e3⟩ := n.cut (l := 0) (n := 0) (Nat.le_refl _) hk
  have := kl7 B2 n.lt hz hk (.inl rfl)
  simp at e1
  simp only [Int.natCast_zero, gt_iff_lt, Int.lt_irrefl, decide_false, cond_false, e1, Option.bind_some]
  refine ⟨s', rfl, ?_, e3⟩
  rw [← this]
  simpa using e2
 | k + 1, hk, hz => by
  rw [kh1]
  obtain ⟨r, e1, e2⟩ := n.at (i := k) (by omega)
  have hs := n.short
  rw [kks (by omega)]
  rw [show (decide (((k + 1 : Nat) : Int) > 0)) = true from by rw [decide_eq_true_eq]; omega]
  simp only [cond_true, e1, e2, Option.bind_some, kb]
  by_cases hx : xs[k] = 0
  ·rw [hx, show (decide (((0 : Nat) : Int) = 0)) = true from rfl, cond_true]
   refine kp8 n k (by omega) fun i hi hil => ?_
   rcases Nat.lt_or_ge k i with h1 | h1
   ·exact hz i (by omega) hil
   ·have : i = k := by omega
    subst this
    exact hx
  ·obtain ⟨s', e3, e4, e5⟩ := n.cut (l := 0) (n := k + 1) (by omega) hk
   have ht := kl7 B2 n.lt hz hk (.inr ⟨by omega, by simpa using hx⟩)
   rw [show (decide (((xs[k] : Nat) : Int) = 0)) = false from by rw [decide_eq_false_iff_not]; omega]
   simp only [cond_false]
   rw [show cutSl s 0 ((k + 1 : Nat) : Int) 1 = some s' from e3]
   refine ⟨s', rfl, ?_, e5⟩
   rw [← ht]
   simpa using e4
theorem kcf {h : AH} {s : Sl} {xs : List Nat} (n : Nats h s xs) : ∃ s', go (.fn F.kz [s.v]) h = some (s'.v, h) ∧ Nats h s' (digs B (num B xs)) ∧ ∀ h0, Own h0 s → Own h0 s' := by
 rw [klp, n.len]
 exact kp8 n xs.length (Nat.le_refl _) fun i h1 h2 => by omega
end Go.Ab

/- squeezed -/
set_option linter.unusedVariables false
set_option linter.unusedSimpArgs false
set_option maxRecDepth 10000
namespace Go.Ab
open Go.Proofs Go.Num
theorem kwo {n : Nat} (h : n ≤ 8796093022208) : growOk Pg n T.kg 1 = true := by
 unfold growOk
 rw [kzx, ked]
 have h1 : n * 8 ≤ kbc := by simp only [kbc]; omega
 have h2 : n ≤ kbc := by simp only [kbc]; omega
 simp [h1, h2]
theorem khg {h : AH} {s : Sl} {xs : List Nat} (n : Nats h s xs) (hl : xs.length ≤ 8796093022208) : ∃ s' h', go (.fn F.kez [s.v]) h = some (s'.v, h') ∧ Nats h' s' xs ∧ Grow h h' ∧ Own h s' := by
 rw [ksa]
 cases hr : s.ref with
 | none =>
  have : xs = [] := by
   cases xs with
   | nil => rfl
   | cons x xs =>
    obtain ⟨r, e1, _⟩ := n.cells.get 0 (u64 x) rfl
    rw [hr] at e1
    cases e1
  subst this
  exact ⟨_, _, rfl, Nats.nil h, Grow.refl h, Own.nil h⟩
 | some r =>
  simp only [Option.isNone_some, cond_false, kb4]
  have n1 := n.grow (Grow.push h (.cells [] T.kg))
  have c1 := n1.cells
  rw [← kw0] at c1
  rw [kh0 c1, n.len]
  simp only [Option.bind_some]
  have own : ∀ (m : Nat) (c : Cap), Own h ⟨some (.new h.blks.size 0), m, c⟩ := fun m c r hr => by cases hr; exact ⟨_, _, rfl, Nat.le_refl _⟩
  cases xs with
  | nil =>
   obtain ⟨s', e1, e2, e3⟩ := km1 (P := Pg) (elem := T.kg) (m := 1) (by omega) (Cells.of_has (n := 1) (m := 0) (AH.has_push h [] T.kg) rfl)
   simp only [List.map_nil, List.length_nil, e1, Option.bind_some, asSl_v]
   exact ⟨s', _, rfl, ⟨e2, by simp, by simp⟩, Grow.push _ _, e3 h (own 0 (.is 0))⟩
  | cons x xs =>
   rw [kfw (c := 0) rfl (by simp) (kwo (by simpa using hl)) (Cells.of_has (n := 1) (m := 0) (AH.has_push h [] T.kg) rfl)]
   simp only [Option.bind_some, asSl_v]
   refine ⟨_, _, rfl, ⟨⟨rfl, by simp, fun i v hv => ⟨_, rfl, by rw [Ref.add_new, Nat.zero_add, AH.cell_push]; exact hv⟩⟩, n.lt, n.short⟩, (Grow.push _ _).trans (Grow.push _ _), fun r hr => ?_⟩
   cases hr
   exact ⟨_, _, rfl, by simp⟩
def fromI (neg : Bool) (xs : List Nat) : Bool × List Nat := if rt xs = true ∧ xs ≠ [] then (neg, xs) else (false, [])
@[reducible] def nilI : List AV := [.bool false, (⟨none, 0, .is 0⟩ : Sl).v]
theorem kd3 {h : AH} {s : Sl} {xs : List Nat} (n : Nats h s xs) (neg : Bool) : ∃ (s' : Sl) (h' : AH), go (.fn F.kca [.bool neg, s.v]) h = some (.agg [.bool (fromI neg xs).1, s'.v], h') ∧ Nats h' s' (fromI neg xs).2 ∧ Grow h h' ∧ Own h s' := by
 rw [kum]
 simp only [kb4]
 have b0 := AH.has_push h nilI T.kf
 have g0 := Grow.push h (.cells nilI T.kf)
 have n0 := n.grow g0
 rw [kev n0]
 simp only [Option.bind_some, kbv, Ref.add_new, Nat.zero_add]
 generalize h.push (.cells nilI T.kf) = h0 at *
 cases hrt : rt xs with
 | false =>
  rw [show fromI neg xs = (false, []) from by simp [fromI, hrt]]
  refine ⟨⟨none, 0, .is 0⟩, h0.upd h.blks.size nilI T.kf, ?_, Nats.nil _, g0.upd (Nat.le_refl _) _ _, Own.nil h⟩
  simp [b0.puts_all, AH.cell_upd b0]
 | true =>
  by_cases hx : xs = []
  ·rw [show fromI neg xs = (false, []) from by simp [fromI, hx]]
   have : s.len = 0 := by rw [n.len, hx]; rfl
   refine ⟨⟨none, 0, .is 0⟩, h0.upd h.blks.size nilI T.kf, ?_, Nats.nil _, g0.upd (Nat.le_refl _) _ _, Own.nil h⟩
   simp [b0.puts_all, AH.cell_upd b0, this]
  ·rw [show fromI neg xs = (neg, xs) from by simp [fromI, hx, hrt]]
   have : s.len ≠ 0 := by rw [n.len]; simpa using hx
   have h64 := (rt_iff.1 hrt).1
   obtain ⟨s', h', e1, e2, e3, e4⟩ := khg n0 (by omega)
   have b1 := e3.has b0
   refine ⟨s', h'.upd h.blks.size [.bool neg, s'.v] T.kf, ?_, ?_, (g0.trans e3).upd (Nat.le_refl _) _ _, fun r hr => ?_⟩
   ·simp [e1, b1.puts_all, AH.cell_upd b1, this]
   ·exact e2.upd e4 b0.lt _ _
   ·exact e4.of_le g0 r hr
theorem kms {h : AH} {x : Nat} (hx : x < B) : ∃ (s' : Sl) (h' : AH), go (.fn F.kdl [.int .u64 (x : Int)]) h = some (s'.v, h') ∧ Nats h' s' (digs B x) ∧ Grow h h' ∧ Own h s' := by
 rw [kxy]
 simp only [kb4]
 have n0 : Nats (h.push (.cells [u64 x] T.kg)) ⟨some (.new h.blks.size 0), 1, .is 1⟩ [x] := ⟨Cells.of_has (AH.has_push h [u64 x] T.kg) rfl, by simpa using hx, by simp⟩
 obtain ⟨s', e1, e2, e3⟩ := kcf n0
 rw [e1]
 simp only [Option.bind_some, asSl_v]
 refine ⟨s', _, rfl, by simpa [num] using e2, Grow.push _ _, e3 h fun r hr => by cases hr; exact ⟨_, _, rfl, Nat.le_refl _⟩⟩
def ofI (n : Int) : Bool × List Nat := fromI (decide (n < 0)) (digs B n.natAbs)
theorem kte {h : AH} {n : Int} (h1 : -9223372036854775808 ≤ n) (h2 : n ≤ 9223372036854775807) : ∃ (s' : Sl) (h' : AH), go (.fn F.kg3 [.int .i64 n]) h = some (.agg [.bool (ofI n).1, s'.v], h') ∧ Nats h' s' (ofI n).2 ∧ Grow h h' ∧ Own h s' := by
 rw [kzc]
 simp only [kb4]
 have b0 := AH.has_push h nilI T.kf
 have g0 := Grow.push h (.cells nilI T.kf)
 generalize h.push (.cells nilI T.kf) = h0 at *
 have key : ∀ (neg : Bool) (x : Nat), x < B → fromI neg (digs B x) = ofI n → ∃ (s' : Sl) (h' : AH),
   ((go (.fn F.kdl [.int .u64 (x : Int)]) h0).bind fun q3 =>
    ((some q3.1).bind AV.asSl).bind fun l4 =>
    (go (.fn F.kca [.bool neg, l4.v]) q3.2).bind fun q5 =>
    (AV.asAgg q5.1).bind fun cs6 =>
    cond (Nat.beq cs6.length 2) (
    ((cs6[0]?).bind AV.asBool).bind fun b7 =>
    ((cs6[1]?).bind AV.asSl).bind fun l8 =>
    (q5.2.puts (.new h.blks.size 0) [.bool b7, l8.v]).bind fun h9 =>
    ((h9.cell ((Ref.new h.blks.size 0).add 0)).bind AV.asBool).bind fun b10 =>
    ((h9.cell ((Ref.new h.blks.size 0).add 1)).bind AV.asSl).bind fun l11 =>
    some (AV.agg [.bool b10, l11.v], h9)) none) = some (AV.agg [.bool (ofI n).1, s'.v], h') ∧ Nats h' s' (ofI n).2 ∧ Grow h h' ∧ Own h s' := by
  intro neg x hx he
  obtain ⟨s1, hh1, e1, n1, g1, o1⟩ := kms (h := h0) hx
  obtain ⟨s2, hh2, e2, n2, g2, o2⟩ := kd3 n1 neg
  rw [he] at e2 n2
  have b2 := (g1.trans g2).has b0
  refine ⟨s2, hh2.upd h.blks.size [.bool (ofI n).1, s2.v] T.kf, ?_, n2.upd o2 (g1.has b0).lt _ _, (g0.trans (g1.trans g2)).upd (Nat.le_refl _) _ _, o2.of_le (g0.trans g1)⟩
  simp [e1, e2, b2.puts_all, AH.cell_upd b2]
 by_cases hn : n < 0
 ·rw [show decide (n < 0) = true from decide_eq_true hn, cond_true]
  have hx : IntKind.wrap .u64 (0 - IntKind.wrap .u64 n) = ((n.natAbs : Nat) : Int) := by
   rw [wrapU, wrapU]
   omega
  rw [hx]
  exact key true n.natAbs (by show _ < 18446744073709551616; omega) (by simp [ofI, hn])
 ·rw [show decide (n < 0) = false from decide_eq_false hn, cond_false]
  have hx : IntKind.wrap .u64 n = ((n.natAbs : Nat) : Int) := by
   rw [wrapU]
   omega
  rw [hx]
  exact key false n.natAbs (by show _ < 18446744073709551616; omega) (by simp [ofI, hn])
end Go.Ab

/- squeezed -/
set_option linter.unusedVariables false
set_option linter.unusedSimpArgs false
set_option maxRecDepth 10000
namespace Go.Ab
open Go.Proofs Go.Num
def rtI (neg : Bool) (xs : List Nat) : Bool := rt xs && (!neg || decide (xs ≠ []))
theorem khx {h : AH} {s : Sl} {xs : List Nat} (n : Nats h s xs) (neg : Bool) : ∃ h', go (.fn F.kfp [.agg [.bool neg, s.v]]) h = some (.bool (rtI neg xs), h') ∧ Grow h h' := by
 rw [kwj]
 simp only [kb4]
 have b0 := AH.has_push h [.bool neg, s.v] T.kf
 have g0 := Grow.push h (.cells [.bool neg, s.v] T.kf)
 have n0 := n.grow g0
 have hl := n.len
 generalize h.push (.cells [.bool neg, s.v] T.kf) = h0 at *
 refine ⟨h0, ?_, g0⟩
 simp [b0.cell, kev n0, rtI]
 cases rt xs <;> cases neg <;> simp [hl]
 cases xs <;> simp
end Go.Ab

/- squeezed -/
set_option linter.unusedVariables false
set_option linter.unusedSimpArgs false
set_option maxRecDepth 10000
namespace Go.Ab
open Go.Proofs Go.Num
structure Rows (h : AH) (s : Sl) (rows : List (Sl × List Nat)) : Prop where
 cells : Cells h s 1 (rows.map fun p => p.1.v)
 each : ∀ p ∈ rows, Nats h p.1 p.2
 short : rows.length ≤ 9223372036854775807
theorem Rows.len {h : AH} {s : Sl} {rows : List (Sl × List Nat)} (n : Rows h s rows) : s.len = rows.length := by
 have := n.cells.len
 simpa using this
theorem Rows.at {h : AH} {s : Sl} {rows : List (Sl × List Nat)} (n : Rows h s rows) {i : Nat} (hi : i < rows.length) : ∃ r, idx s.ref s.len (i : Int) 1 = some r ∧ h.cell r = some (rows[i].1).v := by
 obtain ⟨r, e1, e2⟩ := n.cells.get i (rows[i].1).v (by simp [hi])
 refine ⟨r.add i, ?_, e2⟩
 rw [e1, kcp _ _ _ _ (by omega) (by rw [n.len]; omega)]
 simp
theorem Rows.two {h : AH} {a b : Sl} {xs ys : List Nat} (n : Nats h a xs) (m : Nats h b ys) : Rows (h.push (.cells [a.v, b.v] T.kbs)) ⟨some (.new h.blks.size 0), 2, .is 2⟩ [(a, xs), (b, ys)] := by
 refine ⟨Cells.of_has (AH.has_push _ _ _) rfl, fun p hp => ?_, by simp⟩
 have g := Grow.push h (.cells [a.v, b.v] T.kbs)
 simp at hp
 rcases hp with rfl | rfl
 ·exact n.grow g
 ·exact m.grow g
end Go.Ab

/- squeezed -/
set_option linter.unusedVariables false
set_option linter.unusedSimpArgs false
set_option maxRecDepth 10000
namespace Go.Ab
open Go.Proofs Go.Num
theorem kmr {b : Nat} (hb : 1 ≤ b) {xs : List Nat} (hx : ∀ x ∈ xs, x < b) {k : Nat} (hk : k ≤ xs.length) : num b (xs.take k) < b ^ k := by
 have := num_lt (b := b) hb (xs := xs.take k) fun x h => hx x (List.mem_of_mem_take h)
 rwa [List.length_take, Nat.min_eq_left hk] at this
theorem kx5 {b : Nat} (hb : 1 ≤ b) {xs ys : List Nat} (hx : ∀ x ∈ xs, x < b) (hy : ∀ x ∈ ys, x < b) {k : Nat} (h1 : k < xs.length) (h2 : k < ys.length) :
  cmp (num b (xs.take (k + 1))) (num b (ys.take (k + 1))) = if xs[k] < ys[k] then -1 else if xs[k] = ys[k] then cmp (num b (xs.take k)) (num b (ys.take k)) else 1 := by
 rw [kb6 b h1, kb6 b h2]
 exact kus (kmr hb hx (by omega)) (kmr hb hy (by omega))
theorem ky2 {b : Nat} (hb : 2 ≤ b) {xs ys : List Nat} (hx : ∀ x ∈ xs, x < b) (hy : ∀ x ∈ ys, x < b) (tx : Trim xs) (ty : Trim ys) (h : xs.length ≠ ys.length) : cmp (num b xs) (num b ys) = if xs.length < ys.length then -1 else 1 := by
 rcases Nat.lt_or_ge xs.length ys.length with h1 | h1
 ·have := klz hb hx hy ty h1
  simp [cmp, this, h1]
 ·have := klz hb hy hx tx (by omega)
  rw [if_neg (by omega)]
  unfold cmp
  rw [if_neg (by omega), if_neg (by omega)]
theorem kpv {h : AH} {s t : Sl} {xs ys : List Nat} (n : Nats h s xs) (m : Nats h t ys) (hl : xs.length = ys.length) : ∀ (k : Nat), k ≤ xs.length →
  go (.pt F.kc0 Td.ki6 [(0, s.v), (1, t.v), (5, .int .i64 ((k : Int) - 1))]) h = some (.int .i64 (cmp (num B (xs.take k)) (num B (ys.take k))), h)
 | 0, hk => by
  rw [kph]
  rfl
 | k + 1, hk => by
  have hs := n.short
  obtain ⟨r, e1, e2⟩ := n.at (i := k) (by omega)
  obtain ⟨q, e3, e4⟩ := m.at (i := k) (by omega)
  rw [kph, show (((k + 1 : Nat) : Int) - 1) = (k : Int) from by omega, show decide ((k : Int) ≥ 0) = true from by rw [decide_eq_true_eq]; omega]
  simp only [cond_true, e1, e3, e2, e4, Option.bind_some, kb]
  rw [kx5 (by decide) n.lt m.lt (by omega) (by omega), wrap64 (n := (k : Int) - 1) (by omega) (by omega), kpv n m hl k (by omega)]
  by_cases h1 : xs[k] = ys[k]'(by omega)
  ·rw [show decide (((xs[k] : Nat) : Int) = ((ys[k]'(by omega) : Nat) : Int)) = true from by rw [decide_eq_true_eq]; omega]
   simp [h1]
  ·rw [show decide (((xs[k] : Nat) : Int) = ((ys[k]'(by omega) : Nat) : Int)) = false from by rw [decide_eq_false_iff_not]; omega]
   by_cases h2 : xs[k] < ys[k]'(by omega)
   ·rw [show decide (((xs[k] : Nat) : Int) < ((ys[k]'(by omega) : Nat) : Int)) = true from by rw [decide_eq_true_eq]; omega]
    simp [h2]
   ·rw [show decide (((xs[k] : Nat) : Int) < ((ys[k]'(by omega) : Nat) : Int)) = false from by rw [decide_eq_false_iff_not]; omega]
    simp [h1, h2]
theorem kjs {h : AH} {s t : Sl} {xs ys : List Nat} (n : Nats h s xs) (m : Nats h t ys) (tx : Trim xs) (ty : Trim ys) : go (.fn F.kc0 [s.v, t.v]) h = some (.int .i64 (cmp (num B xs) (num B ys)), h) := by
 have hs := n.short
 have ht := m.short
 rw [kr6, n.len, m.len]
 by_cases hl : xs.length = ys.length
 ·rw [show decide ((xs.length : Int) = (ys.length : Int)) = true from by rw [decide_eq_true_eq]; omega]
  simp only [Bool.not_true, cond_false]
  rw [wrap64 (by omega) (by omega), kpv n m hl xs.length (Nat.le_refl _), List.take_length, hl, List.take_length]
 ·rw [show decide ((xs.length : Int) = (ys.length : Int)) = false from by rw [decide_eq_false_iff_not]; omega, ky2 B2 n.lt m.lt tx ty hl]
  by_cases h1 : xs.length < ys.length
  ·rw [show decide ((xs.length : Int) < (ys.length : Int)) = true from by rw [decide_eq_true_eq]; omega]
   simp [h1]
  ·rw [show decide ((xs.length : Int) < (ys.length : Int)) = false from by rw [decide_eq_false_iff_not]; omega]
   simp [h1]
@[reducible] def D : Nat := 65536
end Go.Ab

/- squeezed -/
set_option linter.unusedVariables false
set_option linter.unusedSimpArgs false
set_option maxRecDepth 10000
namespace Go.Ab
open Go.Proofs Go.Num
theorem Rows.grow {h h' : AH} (g : Grow h h') {s : Sl} {rows : List (Sl × List Nat)} (n : Rows h s rows) : Rows h' s rows := ⟨n.cells.grow g, fun p hp => (n.each p hp).grow g, n.short⟩
theorem kqp {h : AH} {s : Sl} {xs : List Nat} (n : Nats h s xs) : go (.fn F.kcn [s.v]) h = some (.bool (!rt xs), h) := by
 rw [kyu, kev n]
 rfl
theorem kqh {h : AH} {s : Sl} {rows : List (Sl × List Nat)} (n : Rows h s rows) : ∀ (k i : Nat), i + k = rows.length →
  ∃ j : Int, go (.pt F.kfa Td.kja [(0, s.v), (1, .func (.func F.kcn) [] []), (7, .int .i64 (rows.length : Int)), (8, .int .i64 (i : Int))]) h = some (.int .i64 j, h) ∧
   (j ≥ 0 ↔ (rows.drop i).all (fun p => rt p.2) = false)
 | 0, i, hi => by
  rw [kl8, show decide ((i : Int) < (rows.length : Int)) = false from by rw [decide_eq_false_iff_not]; omega, List.drop_of_length_le (by omega)]
  exact ⟨-1, rfl, by simp⟩
 | k + 1, i, hi => by
  have hs := n.short
  obtain ⟨r, e1, e2⟩ := n.at (i := i) (by omega)
  have hp := n.each rows[i] (List.getElem_mem _)
  rw [kl8, show decide ((i : Int) < (rows.length : Int)) = true from by rw [decide_eq_true_eq]; omega, cond_true, e1]
  simp only [Option.bind_some, e2, asSl_v, kqp hp, kbv]
  rw [List.drop_eq_getElem_cons (by omega), List.all_cons, kbi (by omega)]
  cases hr : rt (rows[i].2) with
  | false => exact ⟨(i : Int), rfl, by simp⟩
  | true =>
   obtain ⟨j, e3, e4⟩ := kqh n k (i + 1) (by omega)
   exact ⟨j, e3, by simpa using e4⟩
theorem kgs {h : AH} {s : Sl} {rows : List (Sl × List Nat)} (n : Rows h s rows) : go (.fn F.kdx [s.v]) h = some (.bool (rows.all fun p => rt p.2), h) := by
 obtain ⟨j, e1, e2⟩ := kqh n rows.length 0 (by omega)
 rw [krg, kq8, kuj, n.len]
 rw [show (0 : Int) = ((0 : Nat) : Int) from rfl, e1]
 simp only [Option.bind_some, kb, kbv]
 rw [List.drop_zero] at e2
 cases ha : rows.all fun p => rt p.2 with
 | false => rw [ha] at e2; simp at e2; simp; omega
 | true => rw [ha] at e2; simp at e2; simp; omega
def cmpN (xs ys : List Nat) : Int := if rt xs = true ∧ rt ys = true then cmp (num B xs) (num B ys) else 0
theorem kjj {h : AH} {s t : Sl} {xs ys : List Nat} (n : Nats h s xs) (m : Nats h t ys) : ∃ h', go (.fn F.kf1 [s.v, t.v]) h = some (.int .i64 (cmpN xs ys), h') ∧ Grow h h' := by
 rw [kss]
 simp only [kb4]
 have r := Rows.two n m
 have g := Grow.push h (.cells [s.v, t.v] T.kbs)
 generalize h.push (.cells [s.v, t.v] T.kbs) = h0 at *
 refine ⟨h0, ?_, g⟩
 rw [kgs r]
 simp only [Option.bind_some, kbv, List.all_cons, List.all_nil, Bool.and_true]
 cases hx : rt xs with
 | false => simp [cmpN, hx]
 | true =>
  cases hy : rt ys with
  | false => simp [cmpN, hy]
  | true =>
   simp only [Bool.and_self, Bool.not_true, cond_false]
   rw [kjs (n.grow g) (m.grow g) (rt_iff.1 hx).2 (rt_iff.1 hy).2]
   simp [cmpN, hx, hy]
structure IRows (h : AH) (s : Sl) (rows : List (Bool × Sl × List Nat)) : Prop where
 cells : Cells h s 2 (rows.flatMap fun p => [.bool p.1, p.2.1.v])
 each : ∀ p ∈ rows, Nats h p.2.1 p.2.2
 short : rows.length ≤ 9223372036854775807
theorem IRows.grow {h h' : AH} (g : Grow h h') {s : Sl} {rows : List (Bool × Sl × List Nat)} (n : IRows h s rows) : IRows h' s rows := ⟨n.cells.grow g, fun p hp => (n.each p hp).grow g, n.short⟩
theorem koi : ∀ (rows : List (Bool × Sl × List Nat)) (i : Nat) (hi : i < rows.length),
  (rows.flatMap fun p => [AV.bool p.1, p.2.1.v])[i * 2]? = some (AV.bool rows[i].1) ∧ (rows.flatMap fun p => [AV.bool p.1, p.2.1.v])[i * 2 + 1]? = some rows[i].2.1.v
 | [], i, hi => by simp at hi
 | p :: rows, 0, hi => by simp
 | p :: rows, i + 1, hi => by
  have := koi rows i (by simpa using hi)
  rw [show (i + 1) * 2 = i * 2 + 2 from by omega]
  simpa using this
theorem IRows.len {h : AH} {s : Sl} {rows : List (Bool × Sl × List Nat)} (n : IRows h s rows) : s.len = rows.length := by
 have := n.cells.len
 have hl : (rows.flatMap fun p => [AV.bool p.1, p.2.1.v]).length = rows.length * 2 := by
  generalize rows = l
  induction l with
  | nil => rfl
  | cons a l ih => rw [List.flatMap_cons, List.length_append, ih]; simp; omega
 omega
theorem IRows.at {h : AH} {s : Sl} {rows : List (Bool × Sl × List Nat)} (n : IRows h s rows) {i : Nat} (hi : i < rows.length) : ∃ r, idx s.ref s.len (i : Int) 2 = some r ∧ h.cell (r.add 0) = some (.bool rows[i].1) ∧ h.cell (r.add 1) = some rows[i].2.1.v := by
 obtain ⟨p1, p2⟩ := koi rows i hi
 obtain ⟨r, e1, e2⟩ := n.cells.get _ _ p1
 obtain ⟨r', e3, e4⟩ := n.cells.get _ _ p2
 rw [e1] at e3
 cases e3
 refine ⟨r.add (i * 2), ?_, by simpa using e2, by rw [Ref.add_add]; exact e4⟩
 rw [e1, kcp _ _ _ _ (by omega) (by rw [n.len]; omega)]
 simp
theorem kyp {h : AH} {s : Sl} {xs : List Nat} (n : Nats h s xs) (neg : Bool) : ∃ h', go (.fn F.kct [.agg [.bool neg, s.v]]) h = some (.bool (!rtI neg xs), h') ∧ Grow h h' := by
 rw [kt7]
 simp only [kb4]
 have b0 := AH.has_push h [.bool neg, s.v] T.kf
 have g0 := Grow.push h (.cells [.bool neg, s.v] T.kf)
 generalize h.push (.cells [.bool neg, s.v] T.kf) = h0 at *
 obtain ⟨h1, e1, g1⟩ := khx (n.grow g0) neg
 exact ⟨h1, by simp [b0.cell, e1], g0.trans g1⟩
theorem kn8 {s : Sl} {rows : List (Bool × Sl × List Nat)} : ∀ (k i : Nat), i + k = rows.length → ∀ {h : AH}, IRows h s rows →
  ∃ (j : Int) (h' : AH), go (.pt F.kfb Td.ki3 [(0, s.v), (1, .func (.func F.kct) [] []), (7, .int .i64 (rows.length : Int)), (8, .int .i64 (i : Int))]) h = some (.int .i64 j, h') ∧
   (j ≥ 0 ↔ (rows.drop i).all (fun p => rtI p.1 p.2.2) = false) ∧ Grow h h'
 | 0, i, hi, h, n => by
  rw [kpx, show decide ((i : Int) < (rows.length : Int)) = false from by rw [decide_eq_false_iff_not]; omega, List.drop_of_length_le (by omega)]
  exact ⟨-1, h, rfl, by simp, Grow.refl h⟩
 | k + 1, i, hi, h, n => by
  have hs := n.short
  obtain ⟨r, e1, e2, e3⟩ := n.at (i := i) (by omega)
  have hp := n.each rows[i] (List.getElem_mem _)
  obtain ⟨h1, e4, g1⟩ := kyp hp rows[i].1
  rw [kpx, show decide ((i : Int) < (rows.length : Int)) = true from by rw [decide_eq_true_eq]; omega, cond_true, e1]
  simp only [Option.bind_some, e2, e3, asSl_v, kbv, e4]
  rw [List.drop_eq_getElem_cons (by omega), List.all_cons, kbi (by omega)]
  cases hr : rtI rows[i].1 (rows[i].2.2) with
  | false => exact ⟨(i : Int), h1, rfl, by simp, g1⟩
  | true =>
   obtain ⟨j, h2, e5, e6, g2⟩ := kn8 k (i + 1) (by omega) (n.grow g1)
   exact ⟨j, h2, e5, by simpa using e6, g1.trans g2⟩
theorem knt {h : AH} {s : Sl} {rows : List (Bool × Sl × List Nat)} (n : IRows h s rows) : ∃ h', go (.fn F.ke7 [s.v]) h = some (.bool (rows.all fun p => rtI p.1 p.2.2), h') ∧ Grow h h' := by
 obtain ⟨j, h', e1, e2, g⟩ := kn8 rows.length 0 (by omega) n
 refine ⟨h', ?_, g⟩
 rw [kw6, kzl, kvb, n.len]
 rw [show (0 : Int) = ((0 : Nat) : Int) from rfl, e1]
 simp only [Option.bind_some, kb, kbv]
 rw [List.drop_zero] at e2
 cases ha : rows.all fun p => rtI p.1 p.2.2 with
 | false => rw [ha] at e2; simp at e2; simp; omega
 | true => rw [ha] at e2; simp at e2; simp; omega
theorem IRows.two {h : AH} {a b : Sl} {xs ys : List Nat} (n : Nats h a xs) (m : Nats h b ys) (p q : Bool) : IRows (h.push (.cells [.bool p, a.v, .bool q, b.v] T.kf)) ⟨some (.new h.blks.size 0), 2, .is 2⟩ [(p, a, xs), (q, b, ys)] := by
 refine ⟨Cells.of_has (AH.has_push _ _ _) rfl, fun r hr => ?_, by simp⟩
 have g := Grow.push h (.cells [.bool p, a.v, .bool q, b.v] T.kf)
 simp at hr
 rcases hr with rfl | rfl
 ·exact n.grow g
 ·exact m.grow g
def cmpI (p : Bool) (xs : List Nat) (q : Bool) (ys : List Nat) : Int :=
 if rtI p xs = true ∧ rtI q ys = true then (if p = q then (if p = true then cmpN ys xs else cmpN xs ys) else if p = true then -1 else 1) else 0
theorem kv7 {h : AH} {s t : Sl} {xs ys : List Nat} (n : Nats h s xs) (m : Nats h t ys) (p q : Bool) : ∃ h', go (.fn F.kkm [.agg [.bool p, s.v], .agg [.bool q, t.v]]) h = some (.int .i64 (cmpI p xs q ys), h') ∧ Grow h h' := by
 rw [kxw]
 simp only [kb4]
 have b0 := AH.has_push h [.bool p, s.v] T.kf
 have g0 := Grow.push h (.cells [.bool p, s.v] T.kf)
 generalize h.push (.cells [.bool p, s.v] T.kf) = h0 at *
 have c1 := AH.has_push h0 [.bool q, t.v] T.kf
 have g1 := Grow.push h0 (.cells [.bool q, t.v] T.kf)
 generalize h0.push (.cells [.bool q, t.v] T.kf) = h1 at *
 have b1 := g1.has b0
 simp only [Ref.add_new, Nat.zero_add, b1.cell, c1.cell, List.getElem?_cons_zero, List.getElem?_cons_succ, Option.bind_some, kbv, asSl_v]
 have n1 := n.grow (g0.trans g1)
 have m1 := m.grow (g0.trans g1)
 have r2 := IRows.two n1 m1 p q
 have g2 := Grow.push h1 (.cells [.bool p, s.v, .bool q, t.v] T.kf)
 generalize h1.push (.cells [.bool p, s.v, .bool q, t.v] T.kf) = h2 at *
 obtain ⟨h3, e3, g3⟩ := knt r2
 have g23 := g2.trans g3
 have b3 := g23.has b1
 have c3 := g23.has c1
 have n3 := n1.grow g23
 have m3 := m1.grow g23
 have gg := (g0.trans g1).trans g23
 obtain ⟨h4, e4, g4⟩ := kjj n3 m3
 obtain ⟨h5, e5, g5⟩ := kjj m3 n3
 rw [e3]
 simp only [Option.bind_some, kbv, List.all_cons, List.all_nil, Bool.and_true, b3.cell, c3.cell, List.getElem?_cons_zero, List.getElem?_cons_succ, asSl_v, e4, e5, kb]
 cases hx : rtI p xs with
 | false => exact ⟨h3, by simp [cmpI, hx], gg⟩
 | true =>
  cases hy : rtI q ys with
  | false => exact ⟨h3, by simp [cmpI, hy], gg⟩
  | true =>
   cases p <;> cases q
   ·exact ⟨h4, by simp [cmpI, hx, hy], gg.trans g4⟩
   ·exact ⟨h3, by simp [cmpI, hx, hy], gg⟩
   ·exact ⟨h3, by simp [cmpI, hx, hy], gg⟩
   ·exact ⟨h5, by simp [cmpI, hx, hy], gg.trans g5⟩
def negI (neg : Bool) (xs : List Nat) : Bool × List Nat := if rtI neg xs = true then fromI (!neg) xs else (false, [])
theorem kqz {h : AH} {s : Sl} {xs : List Nat} (n : Nats h s xs) (neg : Bool) : ∃ (s' : Sl) (h' : AH), go (.fn F.kkg [.agg [.bool neg, s.v]]) h = some (.agg [.bool (negI neg xs).1, s'.v], h') ∧ Nats h' s' (negI neg xs).2 ∧ Grow h h' ∧ Own h s' := by
 rw [kwx]
 simp only [kb4]
 have b0 := AH.has_push h [.bool neg, s.v] T.kf
 have g0 := Grow.push h (.cells [.bool neg, s.v] T.kf)
 generalize h.push (.cells [.bool neg, s.v] T.kf) = h0 at *
 have c1 := AH.has_push h0 nilI T.kf
 have g1 := Grow.push h0 (.cells nilI T.kf)
 generalize h0.push (.cells nilI T.kf) = h1 at *
 have b1 := g1.has b0
 have n1 := n.grow (g0.trans g1)
 obtain ⟨h2, e2, g2⟩ := khx n1 neg
 have c2 := g2.has c1
 have b2 := g2.has b1
 have g02 := (g0.trans g1).trans g2
 obtain ⟨s3, h3, e3, n3, g3, o3⟩ := kd3 (n1.grow g2) (!neg)
 have c3 := g3.has c2
 simp only [Ref.add_new, Nat.zero_add, b1.cell, b2.cell, List.getElem?_cons_zero, List.getElem?_cons_succ, Option.bind_some, kbv, asSl_v, e2]
 cases hr : rtI neg xs with
 | false =>
  rw [show negI neg xs = (false, []) from by simp [negI, hr]]
  refine ⟨⟨none, 0, .is 0⟩, h2.upd h0.blks.size nilI T.kf, ?_, Nats.nil _, g02.upd g0.size _ _, Own.nil h⟩
  simp [c2.puts_all, AH.cell_upd c2]
 | true =>
  rw [show negI neg xs = fromI (!neg) xs from by simp [negI, hr]]
  refine ⟨s3, h3.upd h0.blks.size [.bool (fromI (!neg) xs).1, s3.v] T.kf, ?_, n3.upd o3 c2.lt _ _, (g02.trans g3).upd g0.size _ _, o3.of_le g02⟩
  simp [e3, c3.puts_all, AH.cell_upd c3]
end Go.Ab
