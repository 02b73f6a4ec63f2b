/- Words and laws that the last text joins. -/
import Derived.Test.YtgfeahhgoiidiaaGreatDoorPAbsDra
import Derived.Test.YtgfeahhgoiidiaaGreatDoorProg
import Derived.Test.YtgfeahhgoiidiaaGreatDoorPU1
import Derived.Test.YtgfeahhgoiidiaaGreatDoorPAbsT
set_option linter.unusedVariables false
set_option linter.unusedSimpArgs false
set_option linter.unusedSectionVars false
set_option maxRecDepth 100000
namespace Go.Ab
open Go.Proofs
theorem kba5(a1:Int)(a2:Sl)(h:AH):go (.fn kf3 [.agg [.int .i64 a1,a2.v]]) h =
 newK h (.cells [.int .i64 a1,a2.v] ky) fun h3r h3 =>
 ((h3.cell (h3r.add 0)).bind (AV.asInt .i64)).bind fun n4 =>
 cond (decide (n4<0)) (
 some (.bool false,h3)) (
 ((h3.cell (h3r.add 0)).bind (AV.asInt .i64)).bind fun n5 =>
 cond (decide (n5>65536)) (
 some (.bool false,h3)) (
 ((h3.cell (h3r.add 1)).bind AV.asSl).bind fun l6 =>
 ((h3.cell (h3r.add 0)).bind (AV.asInt .i64)).bind fun n7 =>
 cond (!decide ((l6.len:Int)=(IntKind.wrap .i64 (Int.tdiv (IntKind.wrap .i64 ((IntKind.wrap .i64 (n7+64))-1)) 64)))) (
 some (.bool false,h3)) (
 ((h3.cell (h3r.add 0)).bind (AV.asInt .i64)).bind fun n8 =>
 cond (decide ((Int.tmod n8 64)=0)) (
 some (.bool true,h3)) (
 ((h3.cell (h3r.add 1)).bind AV.asSl).bind fun l9 =>
 ((h3.cell (h3r.add 1)).bind AV.asSl).bind fun l10 =>
 (idx l9.ref l9.len (IntKind.wrap .i64 ((l10.len:Int)-1)) 1).bind fun r11 =>
 ((h3.cell r11).bind (AV.asInt .u64)).bind fun n12 =>
 ((h3.cell (h3r.add 0)).bind (AV.asInt .i64)).bind fun n13 =>
 cond (decide ((Int.tmod n13 64)<0)) none (
 some (.bool (decide ((ishr .u64 n12 (Int.tmod n13 64))=0)),h3)))))):=(kf _ h).trans (by kernel_rfl)
theorem kbcz(a1:Int)(a2:Sl)(h:AH):go (.fn kpw [.agg [.int .i64 a1,a2.v]]) h =
 newK h (.cells [.int .i64 a1,a2.v] ky) fun h3r h3 =>
 some (.func (.func kb5) [] [.ptr (some h3r)],h3):=(kf _ h).trans (by kernel_rfl)
theorem k1d(a1:AV)(h:AH):go (.fn krh [a1]) h =
 (go (.fn kdy [(⟨none,0,.is 0⟩:Sl).v,a1]) h).bind fun q2 =>
 ((some q2.1).bind AV.asSl).bind fun l3 =>
 some (l3.v,q2.2):=(kf _ h).trans (by kernel_rfl)
theorem kx0(a1:Sl)(a2:Ref)(a3 a4:Sl)(a5:Int)(a6:Ref)(a7:Sl)(a8 a9:Int)(a10:Sl)(a11 a12:Int)(h:AH):go (.pt kcb kja [(1,a1.v),(5,.ptr (some a2)),(8,a3.v),(9,a4.v),(10,.int .i64 a5),(11,.ptr (some a6)),(17,a7.v),(18,.int .i64 a8),(19,.int .i64 a9),(25,a10.v),(26,.int .i64 a11),(27,.int .i64 a12)]) h =
 cond (decide (a12<a11)) (
 (idx a10.ref a10.len a12 1).bind fun r13 =>
 ((h.cell r13).bind (AV.asInt .i64)).bind fun n14 =>
 go (.pt kcb kme [(1,a1.v),(5,.ptr (some a2)),(8,a3.v),(9,a4.v),(10,.int .i64 a5),(11,.ptr (some a6)),(12,.int .i64 a12),(17,a7.v),(18,.int .i64 a8),(19,.int .i64 a9),(25,a10.v),(26,.int .i64 a11),(27,.int .i64 a12),(33,.int .i64 (IntKind.wrap .i64 (n14-1))),(34,.int .i64 0)]) h) (
 go (.pt kcb kiw [(1,a1.v),(5,.ptr (some a2)),(8,a3.v),(9,a4.v),(17,a7.v),(18,.int .i64 a8),(19,.int .i64 (IntKind.wrap .i64 (a9+1)))]) h):=(kf _ h).trans (by kernel_rfl)
theorem k79(a1:Int)(h:AH):go (.fn kea [.int .u64 a1]) h =
 newK h (.cells [.int .u64 a1] kq) fun h2r h2 =>
 (go (.fn kbo [(⟨some h2r,1,.is 1⟩:Sl).v]) h2).bind fun q3 =>
 ((some q3.1).bind AV.asSl).bind fun l4 =>
 some (l4.v,q3.2):=(kf _ h).trans (by kernel_rfl)
theorem kbcq(a1:Bool)(a2:Sl)(h:AH):go (.fn kb4 [.bool a1,a2.v]) h =
 newK h (.cells [.bool false,(⟨none,0,.is 0⟩:Sl).v] ki) fun h3r h3 =>
 (go (.fn kd0 [a2.v]) h3).bind fun q4 =>
 ((some q4.1).bind AV.asBool).bind fun b5 =>
 cond (!b5) (
 (q4.2.puts h3r [.bool false,(⟨none,0,.is 0⟩:Sl).v]).bind fun h6 =>
 ((h6.cell (h3r.add 0)).bind AV.asBool).bind fun b7 =>
 ((h6.cell (h3r.add 1)).bind AV.asSl).bind fun l8 =>
 some (.agg [.bool b7,l8.v],h6)) (
 cond (decide ((a2.len:Int)=0)) (
 (q4.2.puts h3r [.bool false,(⟨none,0,.is 0⟩:Sl).v]).bind fun h9 =>
 ((h9.cell (h3r.add 0)).bind AV.asBool).bind fun b10 =>
 ((h9.cell (h3r.add 1)).bind AV.asSl).bind fun l11 =>
 some (.agg [.bool b10,l11.v],h9)) (
 (go (.fn kg7 [a2.v]) q4.2).bind fun q12 =>
 ((some q12.1).bind AV.asSl).bind fun l13 =>
 (q12.2.puts h3r [.bool a1,l13.v]).bind fun h14 =>
 ((h14.cell (h3r.add 0)).bind AV.asBool).bind fun b15 =>
 ((h14.cell (h3r.add 1)).bind AV.asSl).bind fun l16 =>
 some (.agg [.bool b15,l16.v],h14))):=(kf _ h).trans (by kernel_rfl)
theorem k2h(a1:Bool)(a2:Sl)(h:AH):go (.fn kfr [.agg [.bool a1,a2.v]]) h =
 newK h (.cells [.bool a1,a2.v] ki) fun h3r h3 =>
 ((h3.cell (h3r.add 1)).bind AV.asSl).bind fun l4 =>
 (go (.fn kd0 [l4.v]) h3).bind fun q5 =>
 ((some q5.1).bind AV.asBool).bind fun b6 =>
 cond b6 (
 ((q5.2.cell (h3r.add 0)).bind AV.asBool).bind fun b7 =>
 cond (!b7) (
 some (.bool true,q5.2)) (
 ((q5.2.cell (h3r.add 1)).bind AV.asSl).bind fun l8 =>
 some (.bool (decide ((l8.len:Int)>0)),q5.2))) (
 some (.bool false,q5.2)):=(kf _ h).trans (by kernel_rfl)
theorem kbc9(a1:Sl)(h:AH):go (.fn kd0 [a1.v]) h =
 cond (decide ((a1.len:Int)≤64)) (
 cond (decide ((a1.len:Int)=0)) (
 some (.bool true,h)) (
 (idx a1.ref a1.len (IntKind.wrap .i64 ((a1.len:Int)-1)) 1).bind fun r2 =>
 ((h.cell r2).bind (AV.asInt .u64)).bind fun n3 =>
 some (.bool (!decide (n3=0)),h))) (
 some (.bool false,h)):=(kf _ h).trans (by kernel_rfl)
theorem kbcc(a1 a2:Sl)(h:AH):go (.fn kes [a1.v,a2.v]) h =
 (go (.fn kd0 [a1.v]) h).bind fun q3 =>
 ((some q3.1).bind AV.asBool).bind fun b4 =>
 cond (!b4) (
 some (.tup [(⟨none,0,.is 0⟩:Sl).v,.int .i64 1],q3.2)) (
 (go (.fn kd0 [a2.v]) q3.2).bind fun q5 =>
 ((some q5.1).bind AV.asBool).bind fun b6 =>
 cond (!b6) (
 some (.tup [(⟨none,0,.is 0⟩:Sl).v,.int .i64 1],q5.2)) (
 (go (.fn kg7 [a1.v]) q5.2).bind fun q7 =>
 ((some q7.1).bind AV.asSl).bind fun l8 =>
 (go (.fn kg7 [a2.v]) q7.2).bind fun q9 =>
 ((some q9.1).bind AV.asSl).bind fun l10 =>
 go (.pt kes knt [(0,l8.v),(1,l10.v)]) q9.2)):=(kf _ h).trans (by kernel_rfl)
theorem k8f(a1 a2:Sl)(h:AH):go (.fn kgp [a1.v,a2.v]) h =
 newK h (.cells [a1.v,a2.v] kch) fun h3r h3 =>
 (go (.fn kfw [(⟨some h3r,2,.is 2⟩:Sl).v]) h3).bind fun q4 =>
 ((some q4.1).bind AV.asBool).bind fun b5 =>
 cond (!b5) (
 some (.tup [(⟨none,0,.is 0⟩:Sl).v,(⟨none,0,.is 0⟩:Sl).v,.int .i64 1],q4.2)) (
 cond (decide ((a2.len:Int)=0)) (
 some (.tup [(⟨none,0,.is 0⟩:Sl).v,(⟨none,0,.is 0⟩:Sl).v,.int .i64 3],q4.2)) (
 (go (.fn keg [a1.v,a2.v]) q4.2).bind fun q6 =>
 ((some q6.1).bind (AV.asInt .i64)).bind fun n7 =>
 cond (decide (n7<0)) (
 (go (.fn kg7 [a1.v]) q6.2).bind fun q8 =>
 ((some q8.1).bind AV.asSl).bind fun l9 =>
 some (.tup [(⟨none,0,.is 0⟩:Sl).v,l9.v,.int .i64 0],q8.2)) (
 cond (decide ((a2.len:Int)=1)) (
 (idx a2.ref a2.len 0 1).bind fun r10 =>
 ((q6.2.cell r10).bind (AV.asInt .u64)).bind fun n11 =>
 (go (.fn kez [a1.v,.int .u64 n11]) q6.2).bind fun q12 =>
 (AV.asTup2 q12.1).bind fun p13 =>
 ((some p13.1).bind AV.asSl).bind fun l14 =>
 ((some p13.2).bind (AV.asInt .u64)).bind fun n15 =>
 (go (.fn kea [.int .u64 n15]) q12.2).bind fun q16 =>
 ((some q16.1).bind AV.asSl).bind fun l17 =>
 some (.tup [l14.v,l17.v,.int .i64 0],q16.2)) (
 (go (.fn kb6 [a1.v,a2.v]) q6.2).bind fun q18 =>
 (AV.asTup2 q18.1).bind fun p19 =>
 ((some p19.1).bind AV.asSl).bind fun l20 =>
 ((some p19.2).bind AV.asSl).bind fun l21 =>
 some (.tup [l20.v,l21.v,.int .i64 0],q18.2))))):=(kf _ h).trans (by kernel_rfl)
theorem kbcv(a1 a2 a3 a4 a5:Int)(h:AH):go (.fn kl2 [.int .i64 a1,.agg [.int .i64 a2,.int .i64 a3],.agg [.int .i64 a4,.int .i64 a5]]) h =
 newK h (.cells [.int .i64 a1] T.int) fun h6r h6 =>
 newK h6 (.cells [.int .i64 a2,.int .i64 a3] kbc) fun h7r h7 =>
 newK h7 (.cells [.int .i64 a4,.int .i64 a5] kbc) fun h8r h8 =>
 newK h8 (.cells [.bool false,(⟨none,0,.is 0⟩:Sl).v,(⟨none,0,.is 0⟩:Sl).v] kba) fun h9r h9 =>
 ((h9.cell (h7r.add 0)).bind (AV.asInt .i64)).bind fun n10 =>
 ((h9.cell (h7r.add 1)).bind (AV.asInt .i64)).bind fun n11 =>
 ((h9.cell (h8r.add 0)).bind (AV.asInt .i64)).bind fun n12 =>
 ((h9.cell (h8r.add 1)).bind (AV.asInt .i64)).bind fun n13 =>
 (go (.fn kqw [.agg [.int .i64 n10,.int .i64 n11],.agg [.int .i64 n12,.int .i64 n13]]) h9).bind fun q14 =>
 (AV.asTup2 q14.1).bind fun p15 =>
 (AV.asAgg p15.1).bind fun cs16 =>
 cond (Nat.beq cs16.length 2) (
 ((cs16[0]?).bind (AV.asInt .i64)).bind fun n17 =>
 ((cs16[1]?).bind (AV.asInt .i64)).bind fun n18 =>
 ((some p15.2).bind AV.asBool).bind fun b19 =>
 newK q14.2 (.cells [.int .i64 0,.int .i64 0] kbc) fun h20r h20 =>
 (h20.puts h20r [.int .i64 n17,.int .i64 n18]).bind fun h21 =>
 cond (!b19) (
 (h21.puts h9r [.bool false,(⟨none,0,.is 0⟩:Sl).v,(⟨none,0,.is 0⟩:Sl).v]).bind fun h22 =>
 ((h22.cell (h9r.add 0)).bind AV.asBool).bind fun b23 =>
 ((h22.cell (h9r.add 1)).bind AV.asSl).bind fun l24 =>
 ((h22.cell (h9r.add 2)).bind AV.asSl).bind fun l25 =>
 some (.tup [.agg [.bool b23,l24.v,l25.v],.int .i64 1],h22)) (
 ((h21.cell h6r).bind (AV.asInt .i64)).bind fun n26 =>
 (go (.fn kj6 [.int .i64 n26]) h21).bind fun q27 =>
 ((some q27.1).bind AV.asBool).bind fun b28 =>
 cond (!b28) (
 (q27.2.puts h9r [.bool false,(⟨none,0,.is 0⟩:Sl).v,(⟨none,0,.is 0⟩:Sl).v]).bind fun h29 =>
 ((h29.cell (h9r.add 0)).bind AV.asBool).bind fun b30 =>
 ((h29.cell (h9r.add 1)).bind AV.asSl).bind fun l31 =>
 ((h29.cell (h9r.add 2)).bind AV.asSl).bind fun l32 =>
 some (.tup [.agg [.bool b30,l31.v,l32.v],.int .i64 1],h29)) (
 newK q27.2 (.cells [.bool false,(⟨none,0,.is 0⟩:Sl).v,(⟨none,0,.is 0⟩:Sl).v] kba) fun h33r h33 =>
 ((h33.cell (h7r.add 0)).bind (AV.asInt .i64)).bind fun n34 =>
 ((h33.cell (h7r.add 1)).bind (AV.asInt .i64)).bind fun n35 =>
 ((h33.cell (h20r.add 0)).bind (AV.asInt .i64)).bind fun n36 =>
 ((h33.cell (h20r.add 1)).bind (AV.asInt .i64)).bind fun n37 =>
 (go (.fn kml [.agg [.int .i64 n34,.int .i64 n35],.ptr (some h6r)]) h33).bind fun q38 =>
 (AV.asAgg q38.1).bind fun cs39 =>
 cond (Nat.beq cs39.length 3) (
 ((cs39[0]?).bind AV.asBool).bind fun b40 =>
 ((cs39[1]?).bind AV.asSl).bind fun l41 =>
 ((cs39[2]?).bind AV.asSl).bind fun l42 =>
 whenK (SameAt h33 q38.2 h20r 2) (
 whenK (SameAt h33 q38.2 h33r 0) (
 (go (.fn kml [.agg [.int .i64 n36,.int .i64 n37],.ptr (some h6r)]) q38.2).bind fun q43 =>
 (AV.asAgg q43.1).bind fun cs44 =>
 cond (Nat.beq cs44.length 3) (
 ((cs44[0]?).bind AV.asBool).bind fun b45 =>
 ((cs44[1]?).bind AV.asSl).bind fun l46 =>
 ((cs44[2]?).bind AV.asSl).bind fun l47 =>
 whenK (SameAt q38.2 q43.2 h33r 0) (
 (go (.fn knk [.agg [.bool b40,l41.v,l42.v],.agg [.bool b45,l46.v,l47.v]]) q43.2).bind fun q48 =>
 (AV.asTup2 q48.1).bind fun p49 =>
 (AV.asAgg p49.1).bind fun cs50 =>
 cond (Nat.beq cs50.length 3) (
 ((cs50[0]?).bind AV.asBool).bind fun b51 =>
 ((cs50[1]?).bind AV.asSl).bind fun l52 =>
 ((cs50[2]?).bind AV.asSl).bind fun l53 =>
 ((some p49.2).bind (AV.asInt .i64)).bind fun n54 =>
 whenK (SameAt q43.2 q48.2 h33r 0) (
 (q48.2.puts h33r [.bool b51,l52.v,l53.v]).bind fun h55 =>
 ((h55.cell (h33r.add 0)).bind AV.asBool).bind fun b56 =>
 ((h55.cell (h33r.add 1)).bind AV.asSl).bind fun l57 =>
 ((h55.cell (h33r.add 2)).bind AV.asSl).bind fun l58 =>
 ((h55.cell (h8r.add 0)).bind (AV.asInt .i64)).bind fun n59 =>
 ((h55.cell (h8r.add 1)).bind (AV.asInt .i64)).bind fun n60 =>
 (go (.fn kml [.agg [.int .i64 n59,.int .i64 n60],.ptr (some h6r)]) h55).bind fun q61 =>
 (AV.asAgg q61.1).bind fun cs62 =>
 cond (Nat.beq cs62.length 3) (
 ((cs62[0]?).bind AV.asBool).bind fun b63 =>
 ((cs62[1]?).bind AV.asSl).bind fun l64 =>
 ((cs62[2]?).bind AV.asSl).bind fun l65 =>
 whenK (SameAt h55 q61.2 h33r 3) (
 (go (.fn kl7 [.agg [.bool b56,l57.v,l58.v],.agg [.bool b63,l64.v,l65.v]]) q61.2).bind fun q66 =>
 (AV.asTup2 q66.1).bind fun p67 =>
 (AV.asAgg p67.1).bind fun cs68 =>
 cond (Nat.beq cs68.length 3) (
 ((cs68[0]?).bind AV.asBool).bind fun b69 =>
 ((cs68[1]?).bind AV.asSl).bind fun l70 =>
 ((cs68[2]?).bind AV.asSl).bind fun l71 =>
 ((some p67.2).bind (AV.asInt .i64)).bind fun n72 =>
 (q66.2.puts h9r [.bool b69,l70.v,l71.v]).bind fun h73 =>
 ((h73.cell (h9r.add 0)).bind AV.asBool).bind fun b74 =>
 ((h73.cell (h9r.add 1)).bind AV.asSl).bind fun l75 =>
 ((h73.cell (h9r.add 2)).bind AV.asSl).bind fun l76 =>
 some (.tup [.agg [.bool b74,l75.v,l76.v],.int .i64 n72],h73)) none)) none)) none)) none))) none))) none:=(kf _ h).trans (by kernel_rfl)
theorem kzr(a1:Int)(a2:Bool)(a3 a4:Sl)(a5 a6:Ref)(h:AH):go (.fn keb [.int .i64 a1,.agg [.bool a2,a3.v,a4.v],.ptr (some a5),.ptr (some a6)]) h =
 newK h (.cells [.bool a2,a3.v,a4.v] kba) fun h7r h7 =>
 ((h7.cell (h7r.add 0)).bind AV.asBool).bind fun b8 =>
 ((h7.cell (h7r.add 1)).bind AV.asSl).bind fun l9 =>
 ((h7.cell (h7r.add 2)).bind AV.asSl).bind fun l10 =>
 ((h7.cell (a5.add 0)).bind AV.asBool).bind fun b11 =>
 ((h7.cell (a5.add 1)).bind AV.asSl).bind fun l12 =>
 ((h7.cell (a5.add 2)).bind AV.asSl).bind fun l13 =>
 (go (.fn kor [.agg [.bool b8,l9.v,l10.v],.agg [.bool b11,l12.v,l13.v]]) h7).bind fun q14 =>
 ((some q14.1).bind (AV.asInt .i64)).bind fun n15 =>
 cond (decide (n15>0)) (
 ((q14.2.cell (h7r.add 0)).bind AV.asBool).bind fun b16 =>
 ((q14.2.cell (h7r.add 1)).bind AV.asSl).bind fun l17 =>
 ((q14.2.cell (h7r.add 2)).bind AV.asSl).bind fun l18 =>
 newK q14.2 (.cells [.int .i64 a1] T.int) fun h19r h19 =>
 whenK (SameAt q14.2 h19 h7r 3) (
 (h19.puts a6 [(⟨some h19r,1,.is 1⟩:Sl).v]).bind fun h20 =>
 whenK (SameAt h19 h20 h7r 3) (
 (h20.puts a5 [.bool b16,l17.v,l18.v]).bind fun h21 =>
 some (.tup [],h21)))) (
 cond (decide (n15=0)) (
 ((q14.2.cell a6).bind AV.asSl).bind fun l22 =>
 cond (decide ((l22.len:Int)>0)) (
 ((q14.2.cell a6).bind AV.asSl).bind fun l23 =>
 newK q14.2 (.cells [.int .i64 a1] T.int) fun h24r h24 =>
 (kbd Pg T.int ((⟨some h24r,1,.is 1⟩:Sl).v) h24).bind fun p26 =>
 (kz Pg l23 p26.1 p26.2 T.int 1 h24).bind fun q25 =>
 (AV.asSl q25.1).bind fun l27 =>
 (q25.2.puts a6 [l27.v]).bind fun h28 =>
 some (.tup [],h28)) (
 some (.tup [],q14.2))) (
 some (.tup [],q14.2))):=(kf _ h).trans (by kernel_rfl)
theorem k99(a1 a2:Int)(h:AH):go (.fn kjo [.int .i64 a1,.int .i64 a2]) h =
 newK h (.cells [.bool false,(⟨none,0,.is 0⟩:Sl).v] ki) fun h3r h3 =>
 (go (.fn kg1 [.int .i64 a1]) h3).bind fun q4 =>
 (AV.asAgg q4.1).bind fun cs5 =>
 cond (Nat.beq cs5.length 2) (
 ((cs5[0]?).bind AV.asBool).bind fun b6 =>
 ((cs5[1]?).bind AV.asSl).bind fun l7 =>
 (go (.fn kg1 [.int .i64 a2]) q4.2).bind fun q8 =>
 (AV.asAgg q8.1).bind fun cs9 =>
 cond (Nat.beq cs9.length 2) (
 ((cs9[0]?).bind AV.asBool).bind fun b10 =>
 ((cs9[1]?).bind AV.asSl).bind fun l11 =>
 (go (.fn kjw [.agg [.bool b6,l7.v],.agg [.bool b10,l11.v]]) q8.2).bind fun q12 =>
 (AV.asTup2 q12.1).bind fun p13 =>
 (AV.asAgg p13.1).bind fun cs14 =>
 cond (Nat.beq cs14.length 2) (
 ((cs14[0]?).bind AV.asBool).bind fun b15 =>
 ((cs14[1]?).bind AV.asSl).bind fun l16 =>
 ((some p13.2).bind (AV.asInt .i64)).bind fun n17 =>
 newK q12.2 (.cells [.bool false,(⟨none,0,.is 0⟩:Sl).v] ki) fun h18r h18 =>
 (h18.puts h18r [.bool b15,l16.v]).bind fun h19 =>
 ((h19.cell (h18r.add 0)).bind AV.asBool).bind fun b20 =>
 ((h19.cell (h18r.add 1)).bind AV.asSl).bind fun l21 =>
 (h19.puts h3r [.bool b20,l21.v]).bind fun h22 =>
 ((h22.cell (h3r.add 0)).bind AV.asBool).bind fun b23 =>
 ((h22.cell (h3r.add 1)).bind AV.asSl).bind fun l24 =>
 some (.agg [.bool b23,l24.v],h22)) none) none) none:=(kf _ h).trans (by kernel_rfl)
theorem k85(a1:Bool)(a2:Sl)(a3:Bool)(a4:Sl)(h:AH):go (.fn klh [.agg [.bool a1,a2.v],.agg [.bool a3,a4.v]]) h =
 newK h (.cells [.bool a1,a2.v] ki) fun h5r h5 =>
 newK h5 (.cells [.bool a3,a4.v] ki) fun h6r h6 =>
 newK h6 (.cells [.bool false,(⟨none,0,.is 0⟩:Sl).v] ki) fun h7r h7 =>
 newK h7 (.cells [.bool false,(⟨none,0,.is 0⟩:Sl).v] ki) fun h8r h8 =>
 ((h8.cell (h5r.add 0)).bind AV.asBool).bind fun b9 =>
 ((h8.cell (h5r.add 1)).bind AV.asSl).bind fun l10 =>
 ((h8.cell (h6r.add 0)).bind AV.asBool).bind fun b11 =>
 ((h8.cell (h6r.add 1)).bind AV.asSl).bind fun l12 =>
 newK h8 (.cells [.bool b9,l10.v,.bool b11,l12.v] ki) fun h13r h13 =>
 (go (.fn kfm [(⟨some h13r,2,.is 2⟩:Sl).v]) h13).bind fun q14 =>
 ((some q14.1).bind AV.asBool).bind fun b15 =>
 cond (!b15) (
 (q14.2.puts h7r [.bool false,(⟨none,0,.is 0⟩:Sl).v]).bind fun h16 =>
 (h16.puts h8r [.bool false,(⟨none,0,.is 0⟩:Sl).v]).bind fun h17 =>
 ((h17.cell (h7r.add 0)).bind AV.asBool).bind fun b18 =>
 ((h17.cell (h7r.add 1)).bind AV.asSl).bind fun l19 =>
 ((h17.cell (h8r.add 0)).bind AV.asBool).bind fun b20 =>
 ((h17.cell (h8r.add 1)).bind AV.asSl).bind fun l21 =>
 some (.tup [.agg [.bool b18,l19.v],.agg [.bool b20,l21.v],.int .i64 1],h17)) (
 ((q14.2.cell (h6r.add 1)).bind AV.asSl).bind fun l22 =>
 cond (decide ((l22.len:Int)=0)) (
 (q14.2.puts h7r [.bool false,(⟨none,0,.is 0⟩:Sl).v]).bind fun h23 =>
 (h23.puts h8r [.bool false,(⟨none,0,.is 0⟩:Sl).v]).bind fun h24 =>
 ((h24.cell (h7r.add 0)).bind AV.asBool).bind fun b25 =>
 ((h24.cell (h7r.add 1)).bind AV.asSl).bind fun l26 =>
 ((h24.cell (h8r.add 0)).bind AV.asBool).bind fun b27 =>
 ((h24.cell (h8r.add 1)).bind AV.asSl).bind fun l28 =>
 some (.tup [.agg [.bool b25,l26.v],.agg [.bool b27,l28.v],.int .i64 3],h24)) (
 ((q14.2.cell (h6r.add 0)).bind AV.asBool).bind fun b29 =>
 cond b29 (
 (q14.2.puts h7r [.bool false,(⟨none,0,.is 0⟩:Sl).v]).bind fun h30 =>
 (h30.puts h8r [.bool false,(⟨none,0,.is 0⟩:Sl).v]).bind fun h31 =>
 ((h31.cell (h7r.add 0)).bind AV.asBool).bind fun b32 =>
 ((h31.cell (h7r.add 1)).bind AV.asSl).bind fun l33 =>
 ((h31.cell (h8r.add 0)).bind AV.asBool).bind fun b34 =>
 ((h31.cell (h8r.add 1)).bind AV.asSl).bind fun l35 =>
 some (.tup [.agg [.bool b32,l33.v],.agg [.bool b34,l35.v],.int .i64 1],h31)) (
 ((q14.2.cell (h5r.add 1)).bind AV.asSl).bind fun l36 =>
 ((q14.2.cell (h6r.add 1)).bind AV.asSl).bind fun l37 =>
 (go (.fn kgp [l36.v,l37.v]) q14.2).bind fun q38 =>
 (AV.asTup3 q38.1).bind fun p39 =>
 ((some p39.1).bind AV.asSl).bind fun l40 =>
 ((some p39.2.1).bind AV.asSl).bind fun l41 =>
 ((some p39.2.2).bind (AV.asInt .i64)).bind fun n42 =>
 ((q38.2.cell (h5r.add 0)).bind AV.asBool).bind fun b43 =>
 cond b43 (
 cond (decide ((l41.len:Int)>0)) (
 (go (.fn kea [.int .u64 1]) q38.2).bind fun q44 =>
 ((some q44.1).bind AV.asSl).bind fun l45 =>
 (go (.fn kkz [l40.v,l45.v]) q44.2).bind fun q46 =>
 (AV.asTup2 q46.1).bind fun p47 =>
 ((some p47.1).bind AV.asSl).bind fun l48 =>
 ((some p47.2).bind (AV.asInt .i64)).bind fun n49 =>
 cond (!decide (n49=0)) (
 (q46.2.puts h7r [.bool false,(⟨none,0,.is 0⟩:Sl).v]).bind fun h50 =>
 (h50.puts h8r [.bool false,(⟨none,0,.is 0⟩:Sl).v]).bind fun h51 =>
 ((h51.cell (h7r.add 0)).bind AV.asBool).bind fun b52 =>
 ((h51.cell (h7r.add 1)).bind AV.asSl).bind fun l53 =>
 ((h51.cell (h8r.add 0)).bind AV.asBool).bind fun b54 =>
 ((h51.cell (h8r.add 1)).bind AV.asSl).bind fun l55 =>
 some (.tup [.agg [.bool b52,l53.v],.agg [.bool b54,l55.v],.int .i64 n49],h51)) (
 ((q46.2.cell (h6r.add 1)).bind AV.asSl).bind fun l56 =>
 (go (.fn kjz [l56.v,l41.v]) q46.2).bind fun q57 =>
 (AV.asTup2 q57.1).bind fun p58 =>
 ((some p58.1).bind AV.asSl).bind fun l59 =>
 ((some p58.2).bind (AV.asInt .i64)).bind fun n60 =>
 ((q57.2.cell (h5r.add 0)).bind AV.asBool).bind fun b61 =>
 (go (.fn kb4 [.bool b61,l48.v]) q57.2).bind fun q62 =>
 (AV.asAgg q62.1).bind fun cs63 =>
 cond (Nat.beq cs63.length 2) (
 ((cs63[0]?).bind AV.asBool).bind fun b64 =>
 ((cs63[1]?).bind AV.asSl).bind fun l65 =>
 (go (.fn kb4 [.bool false,l59.v]) q62.2).bind fun q66 =>
 (AV.asAgg q66.1).bind fun cs67 =>
 cond (Nat.beq cs67.length 2) (
 ((cs67[0]?).bind AV.asBool).bind fun b68 =>
 ((cs67[1]?).bind AV.asSl).bind fun l69 =>
 (q66.2.puts h7r [.bool b64,l65.v]).bind fun h70 =>
 (h70.puts h8r [.bool b68,l69.v]).bind fun h71 =>
 ((h71.cell (h7r.add 0)).bind AV.asBool).bind fun b72 =>
 ((h71.cell (h7r.add 1)).bind AV.asSl).bind fun l73 =>
 ((h71.cell (h8r.add 0)).bind AV.asBool).bind fun b74 =>
 ((h71.cell (h8r.add 1)).bind AV.asSl).bind fun l75 =>
 some (.tup [.agg [.bool b72,l73.v],.agg [.bool b74,l75.v],.int .i64 0],h71)) none) none)) (
 ((q38.2.cell (h5r.add 0)).bind AV.asBool).bind fun b76 =>
 (go (.fn kb4 [.bool b76,l40.v]) q38.2).bind fun q77 =>
 (AV.asAgg q77.1).bind fun cs78 =>
 cond (Nat.beq cs78.length 2) (
 ((cs78[0]?).bind AV.asBool).bind fun b79 =>
 ((cs78[1]?).bind AV.asSl).bind fun l80 =>
 (go (.fn kb4 [.bool false,l41.v]) q77.2).bind fun q81 =>
 (AV.asAgg q81.1).bind fun cs82 =>
 cond (Nat.beq cs82.length 2) (
 ((cs82[0]?).bind AV.asBool).bind fun b83 =>
 ((cs82[1]?).bind AV.asSl).bind fun l84 =>
 (q81.2.puts h7r [.bool b79,l80.v]).bind fun h85 =>
 (h85.puts h8r [.bool b83,l84.v]).bind fun h86 =>
 ((h86.cell (h7r.add 0)).bind AV.asBool).bind fun b87 =>
 ((h86.cell (h7r.add 1)).bind AV.asSl).bind fun l88 =>
 ((h86.cell (h8r.add 0)).bind AV.asBool).bind fun b89 =>
 ((h86.cell (h8r.add 1)).bind AV.asSl).bind fun l90 =>
 some (.tup [.agg [.bool b87,l88.v],.agg [.bool b89,l90.v],.int .i64 0],h86)) none) none)) (
 ((q38.2.cell (h5r.add 0)).bind AV.asBool).bind fun b91 =>
 (go (.fn kb4 [.bool b91,l40.v]) q38.2).bind fun q92 =>
 (AV.asAgg q92.1).bind fun cs93 =>
 cond (Nat.beq cs93.length 2) (
 ((cs93[0]?).bind AV.asBool).bind fun b94 =>
 ((cs93[1]?).bind AV.asSl).bind fun l95 =>
 (go (.fn kb4 [.bool false,l41.v]) q92.2).bind fun q96 =>
 (AV.asAgg q96.1).bind fun cs97 =>
 cond (Nat.beq cs97.length 2) (
 ((cs97[0]?).bind AV.asBool).bind fun b98 =>
 ((cs97[1]?).bind AV.asSl).bind fun l99 =>
 (q96.2.puts h7r [.bool b94,l95.v]).bind fun h100 =>
 (h100.puts h8r [.bool b98,l99.v]).bind fun h101 =>
 ((h101.cell (h7r.add 0)).bind AV.asBool).bind fun b102 =>
 ((h101.cell (h7r.add 1)).bind AV.asSl).bind fun l103 =>
 ((h101.cell (h8r.add 0)).bind AV.asBool).bind fun b104 =>
 ((h101.cell (h8r.add 1)).bind AV.asSl).bind fun l105 =>
 some (.tup [.agg [.bool b102,l103.v],.agg [.bool b104,l105.v],.int .i64 0],h101)) none) none)))):=(kf _ h).trans (by kernel_rfl)
theorem k62(a1:Bool)(a2:Sl)(h:AH):go (.fn kob [.agg [.bool a1,a2.v]]) h =
 newK h (.cells [.bool a1,a2.v] ki) fun h3r h3 =>
 ((h3.cell (h3r.add 1)).bind AV.asSl).bind fun l4 =>
 (go (.fn kqz [l4.v]) h3).bind fun q5 =>
 (AV.asTup2 q5.1).bind fun p6 =>
 ((some p6.1).bind (AV.asInt .u64)).bind fun n7 =>
 ((some p6.2).bind AV.asBool).bind fun b8 =>
 ((q5.2.cell (h3r.add 0)).bind AV.asBool).bind fun b9 =>
 cond b9 (
 ((q5.2.cell (h3r.add 0)).bind AV.asBool).bind fun b10 =>
 ((q5.2.cell (h3r.add 1)).bind AV.asSl).bind fun l11 =>
 (go (.fn kfr [.agg [.bool b10,l11.v]]) q5.2).bind fun q12 =>
 ((some q12.1).bind AV.asBool).bind fun b13 =>
 cond (!b13) (
 some (.tup [.int .i64 0,.bool false],q12.2)) (
 cond (!b8) (
 some (.tup [.int .i64 0,.bool false],q12.2)) (
 cond (decide (n7>(IntKind.wrap .u64 (9223372036854775807+1)))) (
 some (.tup [.int .i64 0,.bool false],q12.2)) (
 ((q12.2.cell (h3r.add 0)).bind AV.asBool).bind fun b14 =>
 cond b14 (
 some (.tup [.int .i64 (IntKind.wrap .i64 (IntKind.wrap .u64 (0-n7))),.bool true],q12.2)) (
 some (.tup [.int .i64 (IntKind.wrap .i64 n7),.bool true],q12.2)))))) (
 ((q5.2.cell (h3r.add 0)).bind AV.asBool).bind fun b15 =>
 ((q5.2.cell (h3r.add 1)).bind AV.asSl).bind fun l16 =>
 (go (.fn kfr [.agg [.bool b15,l16.v]]) q5.2).bind fun q17 =>
 ((some q17.1).bind AV.asBool).bind fun b18 =>
 cond (!b18) (
 some (.tup [.int .i64 0,.bool false],q17.2)) (
 cond (!b8) (
 some (.tup [.int .i64 0,.bool false],q17.2)) (
 cond (decide (n7>9223372036854775807)) (
 some (.tup [.int .i64 0,.bool false],q17.2)) (
 ((q17.2.cell (h3r.add 0)).bind AV.asBool).bind fun b19 =>
 cond b19 (
 some (.tup [.int .i64 (IntKind.wrap .i64 (IntKind.wrap .u64 (0-n7))),.bool true],q17.2)) (
 some (.tup [.int .i64 (IntKind.wrap .i64 n7),.bool true],q17.2)))))):=(kf _ h).trans (by kernel_rfl)
theorem k71(a1:Int)(a2:Sl)(a3:Int)(a4:Sl)(h:AH):go (.fn kcn [.agg [.int .i64 a1,a2.v],.agg [.int .i64 a3,a4.v],.func (.func ke7) [] []]) h =
 newK h (.cells [.int .i64 a1,a2.v] ky) fun h5r h5 =>
 newK h5 (.cells [.int .i64 a3,a4.v] ky) fun h6r h6 =>
 newK h6 (.cells [.int .i64 0,(⟨none,0,.is 0⟩:Sl).v] ky) fun h7r h7 =>
 ((h7.cell (h5r.add 0)).bind (AV.asInt .i64)).bind fun n8 =>
 ((h7.cell (h5r.add 1)).bind AV.asSl).bind fun l9 =>
 (go (.fn kf3 [.agg [.int .i64 n8,l9.v]]) h7).bind fun q10 =>
 ((some q10.1).bind AV.asBool).bind fun b11 =>
 cond (!b11) (
 (q10.2.puts h7r [.int .i64 0,(⟨none,0,.is 0⟩:Sl).v]).bind fun h12 =>
 ((h12.cell (h7r.add 0)).bind (AV.asInt .i64)).bind fun n13 =>
 ((h12.cell (h7r.add 1)).bind AV.asSl).bind fun l14 =>
 some (.tup [.agg [.int .i64 n13,l14.v],.int .i64 1],h12)) (
 ((q10.2.cell (h6r.add 0)).bind (AV.asInt .i64)).bind fun n15 =>
 ((q10.2.cell (h6r.add 1)).bind AV.asSl).bind fun l16 =>
 (go (.fn kf3 [.agg [.int .i64 n15,l16.v]]) q10.2).bind fun q17 =>
 ((some q17.1).bind AV.asBool).bind fun b18 =>
 cond (!b18) (
 (q17.2.puts h7r [.int .i64 0,(⟨none,0,.is 0⟩:Sl).v]).bind fun h19 =>
 ((h19.cell (h7r.add 0)).bind (AV.asInt .i64)).bind fun n20 =>
 ((h19.cell (h7r.add 1)).bind AV.asSl).bind fun l21 =>
 some (.tup [.agg [.int .i64 n20,l21.v],.int .i64 1],h19)) (
 ((q17.2.cell (h5r.add 0)).bind (AV.asInt .i64)).bind fun n22 =>
 ((q17.2.cell (h6r.add 0)).bind (AV.asInt .i64)).bind fun n23 =>
 cond (!decide (n22=n23)) (
 (q17.2.puts h7r [.int .i64 0,(⟨none,0,.is 0⟩:Sl).v]).bind fun h24 =>
 ((h24.cell (h7r.add 0)).bind (AV.asInt .i64)).bind fun n25 =>
 ((h24.cell (h7r.add 1)).bind AV.asSl).bind fun l26 =>
 some (.tup [.agg [.int .i64 n25,l26.v],.int .i64 1],h24)) (
 ((q17.2.cell (h5r.add 0)).bind (AV.asInt .i64)).bind fun n27 =>
 (go (.fn khd [.int .i64 n27]) q17.2).bind fun q28 =>
 (AV.asTup2 q28.1).bind fun p29 =>
 (AV.asAgg p29.1).bind fun cs30 =>
 cond (Nat.beq cs30.length 2) (
 ((cs30[0]?).bind (AV.asInt .i64)).bind fun n31 =>
 ((cs30[1]?).bind AV.asSl).bind fun l32 =>
 ((some p29.2).bind (AV.asInt .i64)).bind fun n33 =>
 newK q28.2 (.cells [.int .i64 0,(⟨none,0,.is 0⟩:Sl).v] ky) fun h34r h34 =>
 (h34.puts h34r [.int .i64 n31,l32.v]).bind fun h35 =>
 ((h35.cell (h34r.add 1)).bind AV.asSl).bind fun l36 =>
 go (.pt kcn kfb [(2,.func (.func ke7) [] []),(3,.ptr (some h5r)),(4,.ptr (some h6r)),(6,.ptr (some h7r)),(8,.ptr (some h34r)),(9,.int .i64 n33),(35,.int .i64 (l36.len:Int)),(36,.int .i64 0)]) h35) none))):=(kf _ h).trans (by kernel_rfl)
theorem kbb2(a1:Option Ref)(a2 a3 a4:Int)(a5:Sl)(h:AH):go (.fn kru [.ptr a1,.iface kbf (.agg [.int .i64 a2,.int .i64 a3,.int .i64 a4,a5.v])]) h =
 a1.bind fun r6 =>
 ((h.cell r6).bind AV.asSl).bind fun l7 =>
 newK h (.cells [.int .i64 a2,.int .i64 a3,.int .i64 a4,a5.v] kbf) fun h8r h8 =>
 whenK (SameAt h h8 r6 1) (
 (kbd Pg kbf ((⟨some h8r,1,.is 1⟩:Sl).v) h8).bind fun p10 =>
 (kz Pg l7 p10.1 p10.2 kbf 4 h8).bind fun q9 =>
 (AV.asSl q9.1).bind fun l11 =>
 a1.bind fun r12 =>
 (q9.2.puts r12 [l11.v]).bind fun h13 =>
 some (.tup [],h13)):=(kf _ h).trans (by kernel_rfl)
theorem k70(a1:Ref)(a2:Int)(h:AH):go (.fn kh9 [.iface kbp (.ptr (some a1)),.int .i64 a2]) h =
 go (.pt kh9 krd [(0,.iface kbp (.ptr (some a1))),(1,.int .i64 a2)]) h:=(kf _ h).trans (by kernel_rfl)
theorem k0j(a1:Int)(h:AH):go (.fn kdc [.int .i64 a1]) h =
 cond (decide (a1<0)) (
 some (.bool true,h)) (
 some (.bool (decide (a1>1073741824)),h)):=(kf _ h).trans (by kernel_rfl)
theorem k8q(a1:Int)(a2:Option Ref)(h:AH):go (.fn kdl [.int .i64 a1,.ptr a2]) h =
 cond (decide (a1<0)) (
 some (.bool true,h)) (
 a2.bind fun r3 =>
 ((h.cell r3).bind (AV.asInt .i64)).bind fun n4 =>
 some (.bool (decide (a1≥n4)),h)):=(kf _ h).trans (by kernel_rfl)
theorem kbbh(a1:Sl)(a2 a3:Int)(h:AH):go (.fn kfy [a1.v,.int .i64 a2,.int .i64 a3]) h =
 (idx a1.ref a1.len a2 4).bind fun r4 =>
 ((h.cell (r4.add 0)).bind (AV.asInt .i64)).bind fun n5 =>
 (idx a1.ref a1.len a3 4).bind fun r6 =>
 ((h.cell (r6.add 0)).bind (AV.asInt .i64)).bind fun n7 =>
 some (.bool (decide (n5<n7)),h):=(kf _ h).trans (by kernel_rfl)
theorem kbbe(a1:Sl)(a2:AV)(h:AH):go (.fn kdy [a1.v,a2]) h =
 newK h (.cells [a1.v] kgr) fun h3r h3 =>
 go (.pt kdy kxy [(0,a1.v),(1,a2),(2,.ptr (some h3r)),(4,(⟨none,0,.is 0⟩:Sl).v),(6,a2)]) h3:=(kf _ h).trans (by kernel_rfl)
theorem ku2(a1:Sl)(a2:Ref)(a3 a4:Sl)(a5:Int)(a6:Ref)(a7:Int)(a8:Sl)(a9 a10:Int)(a11:Sl)(a12 a13 a14 a15:Int)(h:AH):go (.pt kcb kme [(1,a1.v),(5,.ptr (some a2)),(8,a3.v),(9,a4.v),(10,.int .i64 a5),(11,.ptr (some a6)),(12,.int .i64 a7),(17,a8.v),(18,.int .i64 a9),(19,.int .i64 a10),(25,a11.v),(26,.int .i64 a12),(27,.int .i64 a13),(33,.int .i64 a14),(34,.int .i64 a15)]) h =
 cond (decide (a15<a14)) (
 ((h.cell (a6.add 0)).bind AV.asSl).bind fun l16 =>
 ((h.cell (a6.add 1)).bind AV.asSl).bind fun l17 =>
 ((h.cell (a6.add 2)).bind AV.asSl).bind fun l18 =>
 (go (.fn kfl [.agg [l16.v,l17.v,l18.v],.int .i64 a7,.int .i64 a15]) h).bind fun q19 =>
 (AV.asTup2 q19.1).bind fun p20 =>
 (AV.asAgg p20.1).bind fun cs21 =>
 cond (Nat.beq cs21.length 2) (
 ((cs21[0]?).bind (AV.asInt .i64)).bind fun n22 =>
 ((cs21[1]?).bind AV.asSl).bind fun l23 =>
 ((some p20.2).bind (AV.asInt .i64)).bind fun n24 =>
 newK q19.2 (.cells [.int .i64 0,(⟨none,0,.is 0⟩:Sl).v] ky) fun h25r h25 =>
 (h25.puts h25r [.int .i64 n22,l23.v]).bind fun h26 =>
 ((h26.cell (h25r.add 0)).bind (AV.asInt .i64)).bind fun n27 =>
 ((h26.cell (h25r.add 1)).bind AV.asSl).bind fun l28 =>
 ((h26.cell (a2.add 0)).bind (AV.asInt .i64)).bind fun n29 =>
 ((h26.cell (a2.add 1)).bind AV.asSl).bind fun l30 =>
 (go (.fn kqt [.agg [.int .i64 n27,l28.v],.agg [.int .i64 n29,l30.v]]) h26).bind fun q31 =>
 (AV.asTup2 q31.1).bind fun p32 =>
 (AV.asAgg p32.1).bind fun cs33 =>
 cond (Nat.beq cs33.length 2) (
 ((cs33[0]?).bind (AV.asInt .i64)).bind fun n34 =>
 ((cs33[1]?).bind AV.asSl).bind fun l35 =>
 ((some p32.2).bind (AV.asInt .i64)).bind fun n36 =>
 (q31.2.puts h25r [.int .i64 n34,l35.v]).bind fun h37 =>
 ((h37.cell (h25r.add 0)).bind (AV.asInt .i64)).bind fun n38 =>
 ((h37.cell (h25r.add 1)).bind AV.asSl).bind fun l39 =>
 newK h37 (.cells [.bool false,.int .i64 0,.int .i64 a5,.int .i64 a7,.int .i64 a15,.int .i64 0,.int .i64 0,.int .i64 n38,l39.v] kec) fun h40r h40 =>
 (kbd Pg kec ((⟨some h40r,1,.is 1⟩:Sl).v) h40).bind fun p42 =>
 (kz Pg a3 p42.1 p42.2 kec 9 h40).bind fun q41 =>
 (AV.asSl q41.1).bind fun l43 =>
 ((q41.2.cell (h25r.add 0)).bind (AV.asInt .i64)).bind fun n44 =>
 ((q41.2.cell (h25r.add 1)).bind AV.asSl).bind fun l45 =>
 (go (.fn kfh [a1.v,.agg [.int .i64 n44,l45.v]]) q41.2).bind fun q46 =>
 (AV.asAgg q46.1).bind fun cs47 =>
 cond (Nat.beq cs47.length 2) (
 ((cs47[0]?).bind (AV.asInt .i64)).bind fun n48 =>
 ((cs47[1]?).bind (AV.asInt .i64)).bind fun n49 =>
 newK q46.2 (.cells [.int .i64 n48,.int .i64 n49] kbc) fun h50r h50 =>
 (kbd Pg kbc ((⟨some h50r,1,.is 1⟩:Sl).v) h50).bind fun p52 =>
 (kz Pg a4 p52.1 p52.2 kbc 2 h50).bind fun q51 =>
 (AV.asSl q51.1).bind fun l53 =>
 go (.pt kcb kme [(1,a1.v),(5,.ptr (some a2)),(8,l43.v),(9,l53.v),(10,.int .i64 a5),(11,.ptr (some a6)),(12,.int .i64 a7),(17,a8.v),(18,.int .i64 a9),(19,.int .i64 a10),(25,a11.v),(26,.int .i64 a12),(27,.int .i64 a13),(33,.int .i64 a14),(34,.int .i64 (IntKind.wrap .i64 (a15+1)))]) q51.2) none) none) none) (
 go (.pt kcb kja [(1,a1.v),(5,.ptr (some a2)),(8,a3.v),(9,a4.v),(10,.int .i64 a5),(11,.ptr (some a6)),(17,a8.v),(18,.int .i64 a9),(19,.int .i64 a10),(25,a11.v),(26,.int .i64 a12),(27,.int .i64 (IntKind.wrap .i64 (a13+1)))]) h):=(kf _ h).trans (by kernel_rfl)
theorem kbdh(a1:Sl)(h:AH):go (.fn kg7 [a1.v]) h =
 cond a1.ref.isNone (
 some ((⟨none,0,.is 0⟩:Sl).v,h)) (
 newK h (.cells [] kq) fun h2r h2 =>
 (kbd Pg kq a1.v h2).bind fun p4 =>
 (kz Pg (⟨some h2r,0,.is 0⟩:Sl) p4.1 p4.2 kq 1 h2).bind fun q3 =>
 (AV.asSl q3.1).bind fun l5 =>
 some (l5.v,q3.2)):=(kf _ h).trans (by kernel_rfl)
theorem kzu(a1 a2:Sl)(h:AH):go (.pt kes knt [(0,a1.v),(1,a2.v)]) h =
 cond (decide ((a2.len:Int)>0)) (
 (go (.fn kgp [a1.v,a2.v]) h).bind fun q3 =>
 (AV.asTup3 q3.1).bind fun p4 =>
 ((some p4.1).bind AV.asSl).bind fun l5 =>
 ((some p4.2.1).bind AV.asSl).bind fun l6 =>
 ((some p4.2.2).bind (AV.asInt .i64)).bind fun n7 =>
 go (.pt kes knt [(0,a2.v),(1,l6.v)]) q3.2) (
 some (.tup [a1.v,.int .i64 0],h)):=(kf _ h).trans (by kernel_rfl)
theorem k3z(a1:Sl)(h:AH):go (.fn kfw [a1.v]) h =
 (go (.fn ks1 [a1.v,.func (.func kdx) [] []]) h).bind fun q2 =>
 ((some q2.1).bind AV.asBool).bind fun b3 =>
 some (.bool (!b3),q2.2):=(kf _ h).trans (by kernel_rfl)
theorem k03(a1 a2:Sl)(h:AH):go (.fn keg [a1.v,a2.v]) h =
 cond (!decide ((a1.len:Int)=(a2.len:Int))) (
 cond (decide ((a1.len:Int)<(a2.len:Int))) (
 some (.int .i64 (-1),h)) (
 some (.int .i64 1,h))) (
 go (.pt keg klg [(0,a1.v),(1,a2.v),(5,.int .i64 (IntKind.wrap .i64 ((a1.len:Int)-1)))]) h):=(kf _ h).trans (by kernel_rfl)
theorem k7e(a1:Sl)(a2:Int)(h:AH):go (.fn kez [a1.v,.int .u64 a2]) h =
 (kbx (a1.len:Int) (a1.len:Int) kq (Pg.bytesOf kq) [.int .u64 0] h).bind fun q3 =>
 go (.pt kez kl3 [(0,a1.v),(1,.int .u64 a2),(6,q3.1.v),(7,.int .u64 0),(8,.int .i64 (IntKind.wrap .i64 ((a1.len:Int)-1)))]) q3.2:=(kf _ h).trans (by kernel_rfl)
theorem k9g(a1 a2:Sl)(h:AH):go (.fn kb6 [a1.v,a2.v]) h =
 (idx a2.ref a2.len (IntKind.wrap .i64 ((a2.len:Int)-1)) 1).bind fun r3 =>
 ((h.cell r3).bind (AV.asInt .u64)).bind fun n4 =>
 (go (.fn kmx [.int .u64 n4]) h).bind fun q5 =>
 ((some q5.1).bind (AV.asInt .i64)).bind fun n6 =>
 (go (.fn kd9 [a1.v,.int .u64 (IntKind.wrap .u64 n6)]) q5.2).bind fun q7 =>
 ((some q7.1).bind AV.asSl).bind fun l8 =>
 (go (.fn kd9 [a2.v,.int .u64 (IntKind.wrap .u64 n6)]) q7.2).bind fun q9 =>
 ((some q9.1).bind AV.asSl).bind fun l10 =>
 (go (.fn kbo [l10.v]) q9.2).bind fun q11 =>
 ((some q11.1).bind AV.asSl).bind fun l12 =>
 (kbx (IntKind.wrap .i64 ((l8.len:Int)-(l12.len:Int))) (IntKind.wrap .i64 ((l8.len:Int)-(l12.len:Int))) kq (Pg.bytesOf kq) [.int .u64 0] q11.2).bind fun q13 =>
 go (.pt kb6 kmr [(6,.int .u64 (IntKind.wrap .u64 n6)),(7,l8.v),(8,l12.v),(9,.int .i64 (l12.len:Int)),(10,q13.1.v),(11,.int .i64 (IntKind.wrap .i64 ((q13.1.len:Int)-1)))]) q13.2:=(kf _ h).trans (by kernel_rfl)
theorem k4l(a1 a2 a3 a4:Int)(h:AH):go (.fn kqw [.agg [.int .i64 a1,.int .i64 a2],.agg [.int .i64 a3,.int .i64 a4]]) h =
 newK h (.cells [.int .i64 a1,.int .i64 a2] kbc) fun h5r h5 =>
 newK h5 (.cells [.int .i64 a3,.int .i64 a4] kbc) fun h6r h6 =>
 newK h6 (.cells [.int .i64 0,.int .i64 0] kbc) fun h7r h7 =>
 ((h7.cell (h5r.add 0)).bind (AV.asInt .i64)).bind fun n8 =>
 ((h7.cell (h5r.add 1)).bind (AV.asInt .i64)).bind fun n9 =>
 (go (.fn kg4 [.agg [.int .i64 n8,.int .i64 n9]]) h7).bind fun q10 =>
 ((some q10.1).bind AV.asBool).bind fun b11 =>
 cond (!b11) (
 (q10.2.puts h7r [.int .i64 0,.int .i64 0]).bind fun h12 =>
 ((h12.cell (h7r.add 0)).bind (AV.asInt .i64)).bind fun n13 =>
 ((h12.cell (h7r.add 1)).bind (AV.asInt .i64)).bind fun n14 =>
 some (.tup [.agg [.int .i64 n13,.int .i64 n14],.bool false],h12)) (
 ((q10.2.cell (h6r.add 0)).bind (AV.asInt .i64)).bind fun n15 =>
 ((q10.2.cell (h6r.add 1)).bind (AV.asInt .i64)).bind fun n16 =>
 (go (.fn kg4 [.agg [.int .i64 n15,.int .i64 n16]]) q10.2).bind fun q17 =>
 ((some q17.1).bind AV.asBool).bind fun b18 =>
 cond (!b18) (
 (q17.2.puts h7r [.int .i64 0,.int .i64 0]).bind fun h19 =>
 ((h19.cell (h7r.add 0)).bind (AV.asInt .i64)).bind fun n20 =>
 ((h19.cell (h7r.add 1)).bind (AV.asInt .i64)).bind fun n21 =>
 some (.tup [.agg [.int .i64 n20,.int .i64 n21],.bool false],h19)) (
 ((q17.2.cell (h6r.add 0)).bind (AV.asInt .i64)).bind fun n22 =>
 ((q17.2.cell (h5r.add 0)).bind (AV.asInt .i64)).bind fun n23 =>
 ((q17.2.cell (h6r.add 1)).bind (AV.asInt .i64)).bind fun n24 =>
 ((q17.2.cell (h5r.add 1)).bind (AV.asInt .i64)).bind fun n25 =>
 newK q17.2 (.cells [.int .i64 0,.int .i64 0] kbc) fun h26r h26 =>
 (h26.puts h26r [.int .i64 (IntKind.wrap .i64 (n22-n23)),.int .i64 (IntKind.wrap .i64 (n24-n25))]).bind fun h27 =>
 ((h27.cell (h26r.add 0)).bind (AV.asInt .i64)).bind fun n28 =>
 ((h27.cell (h26r.add 1)).bind (AV.asInt .i64)).bind fun n29 =>
 ((h27.cell (h26r.add 0)).bind (AV.asInt .i64)).bind fun n30 =>
 ((h27.cell (h26r.add 1)).bind (AV.asInt .i64)).bind fun n31 =>
 (go (.fn kg4 [.agg [.int .i64 n30,.int .i64 n31]]) h27).bind fun q32 =>
 ((some q32.1).bind AV.asBool).bind fun b33 =>
 whenK (SameAt h27 q32.2 h26r 2) (
 (q32.2.puts h7r [.int .i64 n28,.int .i64 n29]).bind fun h34 =>
 ((h34.cell (h7r.add 0)).bind (AV.asInt .i64)).bind fun n35 =>
 ((h34.cell (h7r.add 1)).bind (AV.asInt .i64)).bind fun n36 =>
 some (.tup [.agg [.int .i64 n35,.int .i64 n36],.bool b33],h34)))):=(kf _ h).trans (by kernel_rfl)
theorem kn9(a1 a2:Int)(a3:Ref)(h:AH):go (.fn kml [.agg [.int .i64 a1,.int .i64 a2],.ptr (some a3)]) h =
 newK h (.cells [.int .i64 a1,.int .i64 a2] kbc) fun h4r h4 =>
 newK h4 (.cells [.bool false,(⟨none,0,.is 0⟩:Sl).v,(⟨none,0,.is 0⟩:Sl).v] kba) fun h5r h5 =>
 ((h5.cell a3).bind (AV.asInt .i64)).bind fun n6 =>
 ((h5.cell (h4r.add 0)).bind (AV.asInt .i64)).bind fun n7 =>
 ((h5.cell (h4r.add 1)).bind (AV.asInt .i64)).bind fun n8 =>
 (go (.fn km6 [.int .i64 n6,.agg [.int .i64 n7,.int .i64 n8]]) h5).bind fun q9 =>
 (AV.asTup2 q9.1).bind fun p10 =>
 (AV.asAgg p10.1).bind fun cs11 =>
 cond (Nat.beq cs11.length 3) (
 ((cs11[0]?).bind AV.asBool).bind fun b12 =>
 ((cs11[1]?).bind AV.asSl).bind fun l13 =>
 ((cs11[2]?).bind AV.asSl).bind fun l14 =>
 ((some p10.2).bind (AV.asInt .i64)).bind fun n15 =>
 newK q9.2 (.cells [.bool false,(⟨none,0,.is 0⟩:Sl).v,(⟨none,0,.is 0⟩:Sl).v] kba) fun h16r h16 =>
 (h16.puts h16r [.bool b12,l13.v,l14.v]).bind fun h17 =>
 ((h17.cell (h16r.add 0)).bind AV.asBool).bind fun b18 =>
 ((h17.cell (h16r.add 1)).bind AV.asSl).bind fun l19 =>
 ((h17.cell (h16r.add 2)).bind AV.asSl).bind fun l20 =>
 (h17.puts h5r [.bool b18,l19.v,l20.v]).bind fun h21 =>
 ((h21.cell (h5r.add 0)).bind AV.asBool).bind fun b22 =>
 ((h21.cell (h5r.add 1)).bind AV.asSl).bind fun l23 =>
 ((h21.cell (h5r.add 2)).bind AV.asSl).bind fun l24 =>
 some (.agg [.bool b22,l23.v,l24.v],h21)) none:=(kf _ h).trans (by kernel_rfl)
theorem k4n(a1:Bool)(a2 a3:Sl)(a4:Bool)(a5 a6:Sl)(h:AH):go (.fn knk [.agg [.bool a1,a2.v,a3.v],.agg [.bool a4,a5.v,a6.v]]) h =
 newK h (.cells [.bool a1,a2.v,a3.v] kba) fun h7r h7 =>
 newK h7 (.cells [.bool a4,a5.v,a6.v] kba) fun h8r h8 =>
 newK h8 (.cells [.bool false,(⟨none,0,.is 0⟩:Sl).v,(⟨none,0,.is 0⟩:Sl).v] kba) fun h9r h9 =>
 ((h9.cell (h7r.add 0)).bind AV.asBool).bind fun b10 =>
 ((h9.cell (h7r.add 1)).bind AV.asSl).bind fun l11 =>
 ((h9.cell (h7r.add 2)).bind AV.asSl).bind fun l12 =>
 ((h9.cell (h8r.add 0)).bind AV.asBool).bind fun b13 =>
 ((h9.cell (h8r.add 1)).bind AV.asSl).bind fun l14 =>
 ((h9.cell (h8r.add 2)).bind AV.asSl).bind fun l15 =>
 (go (.fn kh6 [.agg [.bool b10,l11.v,l12.v],.agg [.bool b13,l14.v,l15.v],.func (.func kf2) [] []]) h9).bind fun q16 =>
 (AV.asTup2 q16.1).bind fun p17 =>
 (AV.asAgg p17.1).bind fun cs18 =>
 cond (Nat.beq cs18.length 3) (
 ((cs18[0]?).bind AV.asBool).bind fun b19 =>
 ((cs18[1]?).bind AV.asSl).bind fun l20 =>
 ((cs18[2]?).bind AV.asSl).bind fun l21 =>
 ((some p17.2).bind (AV.asInt .i64)).bind fun n22 =>
 (q16.2.puts h9r [.bool b19,l20.v,l21.v]).bind fun h23 =>
 ((h23.cell (h9r.add 0)).bind AV.asBool).bind fun b24 =>
 ((h23.cell (h9r.add 1)).bind AV.asSl).bind fun l25 =>
 ((h23.cell (h9r.add 2)).bind AV.asSl).bind fun l26 =>
 some (.tup [.agg [.bool b24,l25.v,l26.v],.int .i64 n22],h23)) none:=(kf _ h).trans (by kernel_rfl)
theorem k1j(a1:Bool)(a2 a3:Sl)(a4:Bool)(a5 a6:Sl)(h:AH):go (.fn kl7 [.agg [.bool a1,a2.v,a3.v],.agg [.bool a4,a5.v,a6.v]]) h =
 newK h (.cells [.bool a1,a2.v,a3.v] kba) fun h7r h7 =>
 newK h7 (.cells [.bool a4,a5.v,a6.v] kba) fun h8r h8 =>
 newK h8 (.cells [.bool false,(⟨none,0,.is 0⟩:Sl).v,(⟨none,0,.is 0⟩:Sl).v] kba) fun h9r h9 =>
 ((h9.cell (h7r.add 0)).bind AV.asBool).bind fun b10 =>
 ((h9.cell (h7r.add 1)).bind AV.asSl).bind fun l11 =>
 ((h9.cell (h7r.add 2)).bind AV.asSl).bind fun l12 =>
 ((h9.cell (h8r.add 0)).bind AV.asBool).bind fun b13 =>
 ((h9.cell (h8r.add 1)).bind AV.asSl).bind fun l14 =>
 ((h9.cell (h8r.add 2)).bind AV.asSl).bind fun l15 =>
 (go (.fn kh6 [.agg [.bool b10,l11.v,l12.v],.agg [.bool b13,l14.v,l15.v],.func (.func khj) [] []]) h9).bind fun q16 =>
 (AV.asTup2 q16.1).bind fun p17 =>
 (AV.asAgg p17.1).bind fun cs18 =>
 cond (Nat.beq cs18.length 3) (
 ((cs18[0]?).bind AV.asBool).bind fun b19 =>
 ((cs18[1]?).bind AV.asSl).bind fun l20 =>
 ((cs18[2]?).bind AV.asSl).bind fun l21 =>
 ((some p17.2).bind (AV.asInt .i64)).bind fun n22 =>
 (q16.2.puts h9r [.bool b19,l20.v,l21.v]).bind fun h23 =>
 ((h23.cell (h9r.add 0)).bind AV.asBool).bind fun b24 =>
 ((h23.cell (h9r.add 1)).bind AV.asSl).bind fun l25 =>
 ((h23.cell (h9r.add 2)).bind AV.asSl).bind fun l26 =>
 some (.tup [.agg [.bool b24,l25.v,l26.v],.int .i64 n22],h23)) none:=(kf _ h).trans (by kernel_rfl)
theorem k8m(a1:Bool)(a2 a3:Sl)(a4:Bool)(a5 a6:Sl)(h:AH):go (.fn kor [.agg [.bool a1,a2.v,a3.v],.agg [.bool a4,a5.v,a6.v]]) h =
 newK h (.cells [.bool a1,a2.v,a3.v] kba) fun h7r h7 =>
 newK h7 (.cells [.bool a4,a5.v,a6.v] kba) fun h8r h8 =>
 ((h8.cell (h7r.add 0)).bind AV.asBool).bind fun b9 =>
 ((h8.cell (h7r.add 1)).bind AV.asSl).bind fun l10 =>
 ((h8.cell (h7r.add 2)).bind AV.asSl).bind fun l11 =>
 ((h8.cell (h8r.add 0)).bind AV.asBool).bind fun b12 =>
 ((h8.cell (h8r.add 1)).bind AV.asSl).bind fun l13 =>
 ((h8.cell (h8r.add 2)).bind AV.asSl).bind fun l14 =>
 newK h8 (.cells [.bool b9,l10.v,l11.v,.bool b12,l13.v,l14.v] kba) fun h15r h15 =>
 (go (.fn kj1 [(⟨some h15r,2,.is 2⟩:Sl).v]) h15).bind fun q16 =>
 ((some q16.1).bind AV.asBool).bind fun b17 =>
 cond (!b17) (
 some (.int .i64 0,q16.2)) (
 ((q16.2.cell (h7r.add 0)).bind AV.asBool).bind fun b18 =>
 ((q16.2.cell (h7r.add 1)).bind AV.asSl).bind fun l19 =>
 ((q16.2.cell (h7r.add 2)).bind AV.asSl).bind fun l20 =>
 ((q16.2.cell (h8r.add 0)).bind AV.asBool).bind fun b21 =>
 ((q16.2.cell (h8r.add 1)).bind AV.asSl).bind fun l22 =>
 ((q16.2.cell (h8r.add 2)).bind AV.asSl).bind fun l23 =>
 ((q16.2.cell (h8r.add 0)).bind AV.asBool).bind fun b24 =>
 ((q16.2.cell (h8r.add 1)).bind AV.asSl).bind fun l25 =>
 ((q16.2.cell (h8r.add 2)).bind AV.asSl).bind fun l26 =>
 ((q16.2.cell (h7r.add 0)).bind AV.asBool).bind fun b27 =>
 ((q16.2.cell (h7r.add 1)).bind AV.asSl).bind fun l28 =>
 ((q16.2.cell (h7r.add 2)).bind AV.asSl).bind fun l29 =>
 (go (.fn kio [.agg [.bool b18,l19.v,l20.v],.agg [.bool b21,l22.v,l23.v]]) q16.2).bind fun q30 =>
 (AV.asAgg q30.1).bind fun cs31 =>
 cond (Nat.beq cs31.length 2) (
 ((cs31[0]?).bind AV.asBool).bind fun b32 =>
 ((cs31[1]?).bind AV.asSl).bind fun l33 =>
 whenK (SameAt q16.2 q30.2 h7r 3) (
 whenK (SameAt q16.2 q30.2 h8r 3) (
 (go (.fn kio [.agg [.bool b24,l25.v,l26.v],.agg [.bool b27,l28.v,l29.v]]) q30.2).bind fun q34 =>
 (AV.asAgg q34.1).bind fun cs35 =>
 cond (Nat.beq cs35.length 2) (
 ((cs35[0]?).bind AV.asBool).bind fun b36 =>
 ((cs35[1]?).bind AV.asSl).bind fun l37 =>
 (go (.fn kof [.agg [.bool b32,l33.v],.agg [.bool b36,l37.v]]) q34.2).bind fun q38 =>
 ((some q38.1).bind (AV.asInt .i64)).bind fun n39 =>
 some (.int .i64 n39,q38.2)) none))) none):=(kf _ h).trans (by kernel_rfl)
theorem kbca(a1:Bool)(a2:Sl)(a3:Bool)(a4:Sl)(h:AH):go (.fn kjw [.agg [.bool a1,a2.v],.agg [.bool a3,a4.v]]) h =
 newK h (.cells [.bool a1,a2.v] ki) fun h5r h5 =>
 newK h5 (.cells [.bool a3,a4.v] ki) fun h6r h6 =>
 newK h6 (.cells [.bool false,(⟨none,0,.is 0⟩:Sl).v] ki) fun h7r h7 =>
 ((h7.cell (h5r.add 0)).bind AV.asBool).bind fun b8 =>
 ((h7.cell (h5r.add 1)).bind AV.asSl).bind fun l9 =>
 ((h7.cell (h6r.add 0)).bind AV.asBool).bind fun b10 =>
 ((h7.cell (h6r.add 1)).bind AV.asSl).bind fun l11 =>
 newK h7 (.cells [.bool b8,l9.v,.bool b10,l11.v] ki) fun h12r h12 =>
 (go (.fn kfm [(⟨some h12r,2,.is 2⟩:Sl).v]) h12).bind fun q13 =>
 ((some q13.1).bind AV.asBool).bind fun b14 =>
 cond (!b14) (
 (q13.2.puts h7r [.bool false,(⟨none,0,.is 0⟩:Sl).v]).bind fun h15 =>
 ((h15.cell (h7r.add 0)).bind AV.asBool).bind fun b16 =>
 ((h15.cell (h7r.add 1)).bind AV.asSl).bind fun l17 =>
 some (.tup [.agg [.bool b16,l17.v],.int .i64 1],h15)) (
 ((q13.2.cell (h5r.add 1)).bind AV.asSl).bind fun l18 =>
 ((q13.2.cell (h6r.add 1)).bind AV.asSl).bind fun l19 =>
 (go (.fn kl9 [l18.v,l19.v]) q13.2).bind fun q20 =>
 (AV.asTup2 q20.1).bind fun p21 =>
 ((some p21.1).bind AV.asSl).bind fun l22 =>
 ((some p21.2).bind (AV.asInt .i64)).bind fun n23 =>
 ((q20.2.cell (h5r.add 0)).bind AV.asBool).bind fun b24 =>
 ((q20.2.cell (h6r.add 0)).bind AV.asBool).bind fun b25 =>
 (go (.fn kb4 [.bool (!(b24==b25)),l22.v]) q20.2).bind fun q26 =>
 (AV.asAgg q26.1).bind fun cs27 =>
 cond (Nat.beq cs27.length 2) (
 ((cs27[0]?).bind AV.asBool).bind fun b28 =>
 ((cs27[1]?).bind AV.asSl).bind fun l29 =>
 (q26.2.puts h7r [.bool b28,l29.v]).bind fun h30 =>
 ((h30.cell (h7r.add 0)).bind AV.asBool).bind fun b31 =>
 ((h30.cell (h7r.add 1)).bind AV.asSl).bind fun l32 =>
 some (.tup [.agg [.bool b31,l32.v],.int .i64 n23],h30)) none):=(kf _ h).trans (by kernel_rfl)
theorem kbde(a1:Sl)(h:AH):go (.fn kfm [a1.v]) h =
 (go (.fn ksl [a1.v,.func (.func kdr) [] []]) h).bind fun q2 =>
 ((some q2.1).bind AV.asBool).bind fun b3 =>
 some (.bool (!b3),q2.2):=(kf _ h).trans (by kernel_rfl)
theorem kbc4(a1 a2:Sl)(h:AH):go (.fn kkz [a1.v,a2.v]) h =
 newK h (.cells [a1.v,a2.v] kch) fun h3r h3 =>
 (go (.fn kfw [(⟨some h3r,2,.is 2⟩:Sl).v]) h3).bind fun q4 =>
 ((some q4.1).bind AV.asBool).bind fun b5 =>
 cond (!b5) (
 some (.tup [(⟨none,0,.is 0⟩:Sl).v,.int .i64 1],q4.2)) (
 (go (.fn kcw [a1.v,a2.v]) q4.2).bind fun q6 =>
 ((some q6.1).bind AV.asSl).bind fun l7 =>
 (go (.fn kj8 [l7.v]) q6.2).bind fun q8 =>
 (AV.asTup2 q8.1).bind fun p9 =>
 ((some p9.1).bind AV.asSl).bind fun l10 =>
 ((some p9.2).bind (AV.asInt .i64)).bind fun n11 =>
 some (.tup [l10.v,.int .i64 n11],q8.2)):=(kf _ h).trans (by kernel_rfl)
theorem k2e(a1 a2:Sl)(h:AH):go (.fn kjz [a1.v,a2.v]) h =
 newK h (.cells [a1.v,a2.v] kch) fun h3r h3 =>
 (go (.fn kfw [(⟨some h3r,2,.is 2⟩:Sl).v]) h3).bind fun q4 =>
 ((some q4.1).bind AV.asBool).bind fun b5 =>
 cond (!b5) (
 some (.tup [(⟨none,0,.is 0⟩:Sl).v,.int .i64 1],q4.2)) (
 (go (.fn keg [a1.v,a2.v]) q4.2).bind fun q6 =>
 ((some q6.1).bind (AV.asInt .i64)).bind fun n7 =>
 cond (decide (n7<0)) (
 some (.tup [(⟨none,0,.is 0⟩:Sl).v,.int .i64 2],q6.2)) (
 (go (.fn kc2 [a1.v,a2.v]) q6.2).bind fun q8 =>
 ((some q8.1).bind AV.asSl).bind fun l9 =>
 (go (.fn kj8 [l9.v]) q8.2).bind fun q10 =>
 (AV.asTup2 q10.1).bind fun p11 =>
 ((some p11.1).bind AV.asSl).bind fun l12 =>
 ((some p11.2).bind (AV.asInt .i64)).bind fun n13 =>
 some (.tup [l12.v,.int .i64 n13],q10.2))):=(kf _ h).trans (by kernel_rfl)
theorem k7b(a1:Sl)(h:AH):go (.fn kqz [a1.v]) h =
 (go (.fn kd0 [a1.v]) h).bind fun q2 =>
 ((some q2.1).bind AV.asBool).bind fun b3 =>
 cond (!b3) (
 some (.tup [.int .u64 0,.bool false],q2.2)) (
 cond (decide ((a1.len:Int)>1)) (
 some (.tup [.int .u64 0,.bool false],q2.2)) (
 cond (decide ((a1.len:Int)=0)) (
 some (.tup [.int .u64 0,.bool true],q2.2)) (
 (idx a1.ref a1.len 0 1).bind fun r4 =>
 ((q2.2.cell r4).bind (AV.asInt .u64)).bind fun n5 =>
 some (.tup [.int .u64 n5,.bool true],q2.2)))):=(kf _ h).trans (by kernel_rfl)
theorem kxu(a1 a2 a3 a4:Ref)(a5 a6 a7:Int)(h:AH):go (.pt kcn kfb [(2,.func (.func ke7) [] []),(3,.ptr (some a1)),(4,.ptr (some a2)),(6,.ptr (some a3)),(8,.ptr (some a4)),(9,.int .i64 a5),(35,.int .i64 a6),(36,.int .i64 a7)]) h =
 cond (decide (a7<a6)) (
 ((h.cell (a4.add 1)).bind AV.asSl).bind fun l8 =>
 ((h.cell (a1.add 1)).bind AV.asSl).bind fun l9 =>
 (idx l9.ref l9.len a7 1).bind fun r10 =>
 ((h.cell r10).bind (AV.asInt .u64)).bind fun n11 =>
 ((h.cell (a2.add 1)).bind AV.asSl).bind fun l12 =>
 (idx l12.ref l12.len a7 1).bind fun r13 =>
 ((h.cell r13).bind (AV.asInt .u64)).bind fun n14 =>
 (go (.fn ke7 [.int .u64 n11,.int .u64 n14]) h).bind fun q15 =>
 ((some q15.1).bind (AV.asInt .u64)).bind fun n16 =>
 whenK (SameAt h q15.2 (a4.add 1) 1) (
 (idx l8.ref l8.len a7 1).bind fun r17 =>
 (q15.2.puts r17 [.int .u64 n16]).bind fun h18 =>
 go (.pt kcn kfb [(2,.func (.func ke7) [] []),(3,.ptr (some a1)),(4,.ptr (some a2)),(6,.ptr (some a3)),(8,.ptr (some a4)),(9,.int .i64 a5),(35,.int .i64 a6),(36,.int .i64 (IntKind.wrap .i64 (a7+1)))]) h18)) (
 ((h.cell (a4.add 0)).bind (AV.asInt .i64)).bind fun n19 =>
 ((h.cell (a4.add 1)).bind AV.asSl).bind fun l20 =>
 (h.puts a3 [.int .i64 n19,l20.v]).bind fun h21 =>
 ((h21.cell (a3.add 0)).bind (AV.asInt .i64)).bind fun n22 =>
 ((h21.cell (a3.add 1)).bind AV.asSl).bind fun l23 =>
 some (.tup [.agg [.int .i64 n22,l23.v],.int .i64 a5],h21)):=(kf _ h).trans (by kernel_rfl)
theorem k6k(a1:Ref)(a2:Int)(h:AH):go (.pt kh9 krd [(0,.iface kbp (.ptr (some a1))),(1,.int .i64 a2)]) h =
 cond (decide ((IntKind.wrap .i64 (Int.tdiv (IntKind.wrap .i64 (a2-1)) 2))=a2)) (
 some (.tup [],h)) (
 ((h.cell a1).bind AV.asSl).bind fun l3 =>
 (go (.fn kfy [l3.v,.int .i64 a2,.int .i64 (IntKind.wrap .i64 (Int.tdiv (IntKind.wrap .i64 (a2-1)) 2))]) h).bind fun q4 =>
 ((some q4.1).bind AV.asBool).bind fun b5 =>
 cond (!b5) (
 some (.tup [],q4.2)) (
 ((q4.2.cell a1).bind AV.asSl).bind fun l6 =>
 (go (.fn kfj [l6.v,.int .i64 (IntKind.wrap .i64 (Int.tdiv (IntKind.wrap .i64 (a2-1)) 2)),.int .i64 a2]) q4.2).bind fun q7 =>
 (AV.asTup0 q7.1).bind fun _ =>
 go (.pt kh9 krd [(0,.iface kbp (.ptr (some a1))),(1,.int .i64 (IntKind.wrap .i64 (Int.tdiv (IntKind.wrap .i64 (a2-1)) 2)))]) q7.2)):=(kf _ h).trans (by kernel_rfl)
theorem k0p(a1:Sl)(a2:AV)(a3:Ref)(a4:Sl)(a5:AV)(h:AH):go (.pt kdy kxy [(0,a1.v),(1,a2),(2,.ptr (some a3)),(4,a4.v),(6,a5)]) h =
 funcK a5 fun g10 f11 c12 =>
 newM h (kqo kp0 kdy 0 .ready none [(0,a1.v),(1,a2),(2,.ptr (some a3)),(4,a4.v),(6,a5)]) fun m6 h7 =>
 (callF Pg go g10 (f11++[.func (.yield m6) [] []]++c12) h7).bind fun q8 =>
 (kik m6 q8.2).bind fun p9 =>
 go (.pt kdy ((p9.1.map Item.code).toList++kxr) [(0,a1.v),(1,a2),(2,.ptr (some a3)),(4,a4.v),(6,a5)]) p9.2:=(kf _ h).trans (by kernel_rfl)
theorem k9t(a1 a2 a3:Sl)(a4 a5:Int)(h:AH):go (.fn kfl [.agg [a1.v,a2.v,a3.v],.int .i64 a4,.int .i64 a5]) h =
 newK h (.cells [a1.v,a2.v,a3.v] kds) fun h6r h6 =>
 newK h6 (.cells [.int .i64 0,(⟨none,0,.is 0⟩:Sl).v] ky) fun h7r h7 =>
 ((h7.cell (h6r.add 0)).bind AV.asSl).bind fun l8 =>
 ((h7.cell (h6r.add 1)).bind AV.asSl).bind fun l9 =>
 ((h7.cell (h6r.add 2)).bind AV.asSl).bind fun l10 =>
 (go (.fn kfn [.agg [l8.v,l9.v,l10.v]]) h7).bind fun q11 =>
 ((some q11.1).bind AV.asBool).bind fun b12 =>
 cond (!b12) (
 (q11.2.puts h7r [.int .i64 0,(⟨none,0,.is 0⟩:Sl).v]).bind fun h13 =>
 ((h13.cell (h7r.add 0)).bind (AV.asInt .i64)).bind fun n14 =>
 ((h13.cell (h7r.add 1)).bind AV.asSl).bind fun l15 =>
 some (.tup [.agg [.int .i64 n14,l15.v],.int .i64 20],h13)) (
 cond (decide (a4<0)) (
 (q11.2.puts h7r [.int .i64 0,(⟨none,0,.is 0⟩:Sl).v]).bind fun h16 =>
 ((h16.cell (h7r.add 0)).bind (AV.asInt .i64)).bind fun n17 =>
 ((h16.cell (h7r.add 1)).bind AV.asSl).bind fun l18 =>
 some (.tup [.agg [.int .i64 n17,l18.v],.int .i64 1],h16)) (
 ((q11.2.cell (h6r.add 2)).bind AV.asSl).bind fun l19 =>
 cond (decide (a4≥(l19.len:Int))) (
 (q11.2.puts h7r [.int .i64 0,(⟨none,0,.is 0⟩:Sl).v]).bind fun h20 =>
 ((h20.cell (h7r.add 0)).bind (AV.asInt .i64)).bind fun n21 =>
 ((h20.cell (h7r.add 1)).bind AV.asSl).bind fun l22 =>
 some (.tup [.agg [.int .i64 n21,l22.v],.int .i64 1],h20)) (
 cond (decide (a5<0)) (
 (q11.2.puts h7r [.int .i64 0,(⟨none,0,.is 0⟩:Sl).v]).bind fun h23 =>
 ((h23.cell (h7r.add 0)).bind (AV.asInt .i64)).bind fun n24 =>
 ((h23.cell (h7r.add 1)).bind AV.asSl).bind fun l25 =>
 some (.tup [.agg [.int .i64 n24,l25.v],.int .i64 1],h23)) (
 ((q11.2.cell (h6r.add 1)).bind AV.asSl).bind fun l26 =>
 (idx l26.ref l26.len a4 1).bind fun r27 =>
 ((q11.2.cell r27).bind (AV.asInt .i64)).bind fun n28 =>
 cond (decide (a5≥n28)) (
 (q11.2.puts h7r [.int .i64 0,(⟨none,0,.is 0⟩:Sl).v]).bind fun h29 =>
 ((h29.cell (h7r.add 0)).bind (AV.asInt .i64)).bind fun n30 =>
 ((h29.cell (h7r.add 1)).bind AV.asSl).bind fun l31 =>
 some (.tup [.agg [.int .i64 n30,l31.v],.int .i64 1],h29)) (
 ((q11.2.cell (h6r.add 2)).bind AV.asSl).bind fun l32 =>
 (idx l32.ref l32.len a4 1).bind fun r33 =>
 ((q11.2.cell r33).bind AV.asSl).bind fun l34 =>
 go (.pt kfl kkv [(2,.int .i64 a5),(3,.ptr (some h6r)),(6,.ptr (some h7r)),(8,(⟨none,0,.is 0⟩:Sl).v),(44,l34.v),(45,.int .i64 (l34.len:Int)),(46,.int .i64 0)]) q11.2))))):=(kf _ h).trans (by kernel_rfl)
theorem k4z(a1:Int)(a2:Sl)(a3:Int)(a4:Sl)(h:AH):go (.fn kqt [.agg [.int .i64 a1,a2.v],.agg [.int .i64 a3,a4.v]]) h =
 newK h (.cells [.int .i64 a1,a2.v] ky) fun h5r h5 =>
 newK h5 (.cells [.int .i64 a3,a4.v] ky) fun h6r h6 =>
 newK h6 (.cells [.int .i64 0,(⟨none,0,.is 0⟩:Sl).v] ky) fun h7r h7 =>
 ((h7.cell (h5r.add 0)).bind (AV.asInt .i64)).bind fun n8 =>
 ((h7.cell (h5r.add 1)).bind AV.asSl).bind fun l9 =>
 ((h7.cell (h6r.add 0)).bind (AV.asInt .i64)).bind fun n10 =>
 ((h7.cell (h6r.add 1)).bind AV.asSl).bind fun l11 =>
 (go (.fn kcn [.agg [.int .i64 n8,l9.v],.agg [.int .i64 n10,l11.v],.func (.func kew) [] []]) h7).bind fun q12 =>
 (AV.asTup2 q12.1).bind fun p13 =>
 (AV.asAgg p13.1).bind fun cs14 =>
 cond (Nat.beq cs14.length 2) (
 ((cs14[0]?).bind (AV.asInt .i64)).bind fun n15 =>
 ((cs14[1]?).bind AV.asSl).bind fun l16 =>
 ((some p13.2).bind (AV.asInt .i64)).bind fun n17 =>
 (q12.2.puts h7r [.int .i64 n15,l16.v]).bind fun h18 =>
 ((h18.cell (h7r.add 0)).bind (AV.asInt .i64)).bind fun n19 =>
 ((h18.cell (h7r.add 1)).bind AV.asSl).bind fun l20 =>
 some (.tup [.agg [.int .i64 n19,l20.v],.int .i64 n17],h18)) none:=(kf _ h).trans (by kernel_rfl)
theorem k54(a1:Sl)(h:AH):go (.fn ks1 [a1.v,.func (.func kdx) [] []]) h =
 (go (.fn khw [a1.v,.func (.func kdx) [] []]) h).bind fun q2 =>
 ((some q2.1).bind (AV.asInt .i64)).bind fun n3 =>
 some (.bool (decide (n3≥0)),q2.2):=(kf _ h).trans (by kernel_rfl)
theorem ksz(a1 a2:Sl)(a3:Int)(h:AH):go (.pt keg klg [(0,a1.v),(1,a2.v),(5,.int .i64 a3)]) h =
 cond (decide (a3≥0)) (
 (idx a1.ref a1.len a3 1).bind fun r4 =>
 ((h.cell r4).bind (AV.asInt .u64)).bind fun n5 =>
 (idx a2.ref a2.len a3 1).bind fun r6 =>
 ((h.cell r6).bind (AV.asInt .u64)).bind fun n7 =>
 cond (!decide (n5=n7)) (
 (idx a1.ref a1.len a3 1).bind fun r8 =>
 ((h.cell r8).bind (AV.asInt .u64)).bind fun n9 =>
 (idx a2.ref a2.len a3 1).bind fun r10 =>
 ((h.cell r10).bind (AV.asInt .u64)).bind fun n11 =>
 cond (decide (n9<n11)) (
 some (.int .i64 (-1),h)) (
 some (.int .i64 1,h))) (
 go (.pt keg klg [(0,a1.v),(1,a2.v),(5,.int .i64 (IntKind.wrap .i64 (a3-1)))]) h)) (
 some (.int .i64 0,h)):=(kf _ h).trans (by kernel_rfl)
theorem kbcn(a1:Sl)(a2:Int)(a3:Sl)(a4 a5:Int)(h:AH):go (.pt kez kl3 [(0,a1.v),(1,.int .u64 a2),(6,a3.v),(7,.int .u64 a4),(8,.int .i64 a5)]) h =
 cond (decide (a5≥0)) (
 (idx a1.ref a1.len a5 1).bind fun r6 =>
 ((h.cell r6).bind (AV.asInt .u64)).bind fun n7 =>
 (go (.fn kbu [.int .u64 a4,.int .u64 n7,.int .u64 a2]) h).bind fun q8 =>
 (AV.asTup2 q8.1).bind fun p9 =>
 ((some p9.1).bind (AV.asInt .u64)).bind fun n10 =>
 ((some p9.2).bind (AV.asInt .u64)).bind fun n11 =>
 (idx a3.ref a3.len a5 1).bind fun r12 =>
 (q8.2.puts r12 [.int .u64 n10]).bind fun h13 =>
 go (.pt kez kl3 [(0,a1.v),(1,.int .u64 a2),(6,a3.v),(7,.int .u64 n11),(8,.int .i64 (IntKind.wrap .i64 (a5-1)))]) h13) (
 (go (.fn kbo [a3.v]) h).bind fun q14 =>
 ((some q14.1).bind AV.asSl).bind fun l15 =>
 some (.tup [l15.v,.int .u64 a4],q14.2)):=(kf _ h).trans (by kernel_rfl)
theorem kzd(a1:Int)(h:AH):go (.fn kmx [.int .u64 a1]) h =
 (go (.fn klx [.int .u64 a1]) h).bind fun q2 =>
 ((some q2.1).bind (AV.asInt .i64)).bind fun n3 =>
 some (.int .i64 (IntKind.wrap .i64 (64-n3)),q2.2):=(kf _ h).trans (by kernel_rfl)
theorem k1b(a1:Sl)(a2:Int)(h:AH):go (.fn kd9 [a1.v,.int .u64 a2]) h =
 (kbx (IntKind.wrap .i64 ((a1.len:Int)+1)) (IntKind.wrap .i64 ((a1.len:Int)+1)) kq (Pg.bytesOf kq) [.int .u64 0] h).bind fun q3 =>
 go (.pt kd9 kjn [(1,.int .u64 a2),(5,q3.1.v),(12,a1.v),(13,.int .i64 (a1.len:Int)),(14,.int .i64 0)]) q3.2:=(kf _ h).trans (by kernel_rfl)
theorem k2c(a1:Int)(a2 a3:Sl)(a4:Int)(a5:Sl)(a6:Int)(h:AH):go (.pt kb6 kmr [(6,.int .u64 a1),(7,a2.v),(8,a3.v),(9,.int .i64 a4),(10,a5.v),(11,.int .i64 a6)]) h =
 cond (decide (a6≥0)) (
 (idx a2.ref a2.len (IntKind.wrap .i64 (a6+a4)) 1).bind fun r7 =>
 ((h.cell r7).bind (AV.asInt .u64)).bind fun n8 =>
 (idx a2.ref a2.len (IntKind.wrap .i64 ((IntKind.wrap .i64 (a6+a4))-1)) 1).bind fun r9 =>
 ((h.cell r9).bind (AV.asInt .u64)).bind fun n10 =>
 (idx a2.ref a2.len (IntKind.wrap .i64 ((IntKind.wrap .i64 (a6+a4))-2)) 1).bind fun r11 =>
 ((h.cell r11).bind (AV.asInt .u64)).bind fun n12 =>
 (idx a3.ref a3.len (IntKind.wrap .i64 (a4-1)) 1).bind fun r13 =>
 ((h.cell r13).bind (AV.asInt .u64)).bind fun n14 =>
 (idx a3.ref a3.len (IntKind.wrap .i64 (a4-2)) 1).bind fun r15 =>
 ((h.cell r15).bind (AV.asInt .u64)).bind fun n16 =>
 (go (.fn keo [.int .u64 n8,.int .u64 n10,.int .u64 n12,.int .u64 n14,.int .u64 n16]) h).bind fun q17 =>
 ((some q17.1).bind (AV.asInt .u64)).bind fun n18 =>
 (cutSl a2 a6 (IntKind.wrap .i64 ((IntKind.wrap .i64 (a6+a4))+1)) 1).bind fun l19 =>
 go (.pt kb6 kl0 [(6,.int .u64 a1),(7,a2.v),(8,a3.v),(9,.int .i64 a4),(10,a5.v),(11,.int .i64 a6),(12,.int .u64 n18),(13,l19.v)]) q17.2) (
 (go (.fn kbo [a2.v]) h).bind fun q20 =>
 ((some q20.1).bind AV.asSl).bind fun l21 =>
 (kbx (l21.len:Int) (l21.len:Int) kq (Pg.bytesOf kq) [.int .u64 0] q20.2).bind fun q22 =>
 go (.pt kb6 khn [(6,.int .u64 a1),(10,a5.v),(15,l21.v),(16,q22.1.v),(112,.int .i64 (l21.len:Int)),(113,.int .i64 0)]) q22.2):=(kf _ h).trans (by kernel_rfl)
theorem kbbc(a1 a2 a3:Int)(h:AH):go (.fn km6 [.int .i64 a1,.agg [.int .i64 a2,.int .i64 a3]]) h =
 newK h (.cells [.int .i64 a2,.int .i64 a3] kbc) fun h4r h4 =>
 newK h4 (.cells [.bool false,(⟨none,0,.is 0⟩:Sl).v,(⟨none,0,.is 0⟩:Sl).v] kba) fun h5r h5 =>
 ((h5.cell (h4r.add 0)).bind (AV.asInt .i64)).bind fun n6 =>
 ((h5.cell (h4r.add 1)).bind (AV.asInt .i64)).bind fun n7 =>
 (go (.fn kg4 [.agg [.int .i64 n6,.int .i64 n7]]) h5).bind fun q8 =>
 ((some q8.1).bind AV.asBool).bind fun b9 =>
 cond (!b9) (
 (q8.2.puts h5r [.bool false,(⟨none,0,.is 0⟩:Sl).v,(⟨none,0,.is 0⟩:Sl).v]).bind fun h10 =>
 ((h10.cell (h5r.add 0)).bind AV.asBool).bind fun b11 =>
 ((h10.cell (h5r.add 1)).bind AV.asSl).bind fun l12 =>
 ((h10.cell (h5r.add 2)).bind AV.asSl).bind fun l13 =>
 some (.tup [.agg [.bool b11,l12.v,l13.v],.int .i64 1],h10)) (
 (go (.fn kj6 [.int .i64 a1]) q8.2).bind fun q14 =>
 ((some q14.1).bind AV.asBool).bind fun b15 =>
 cond (!b15) (
 (q14.2.puts h5r [.bool false,(⟨none,0,.is 0⟩:Sl).v,(⟨none,0,.is 0⟩:Sl).v]).bind fun h16 =>
 ((h16.cell (h5r.add 0)).bind AV.asBool).bind fun b17 =>
 ((h16.cell (h5r.add 1)).bind AV.asSl).bind fun l18 =>
 ((h16.cell (h5r.add 2)).bind AV.asSl).bind fun l19 =>
 some (.tup [.agg [.bool b17,l18.v,l19.v],.int .i64 1],h16)) (
 ((q14.2.cell (h4r.add 0)).bind (AV.asInt .i64)).bind fun n20 =>
 (go (.fn kg1 [.int .i64 n20]) q14.2).bind fun q21 =>
 (AV.asAgg q21.1).bind fun cs22 =>
 cond (Nat.beq cs22.length 2) (
 ((cs22[0]?).bind AV.asBool).bind fun b23 =>
 ((cs22[1]?).bind AV.asSl).bind fun l24 =>
 newK q21.2 (.cells [.bool false,(⟨none,0,.is 0⟩:Sl).v] ki) fun h25r h25 =>
 (h25.puts h25r [.bool b23,l24.v]).bind fun h26 =>
 ((h26.cell (h25r.add 0)).bind AV.asBool).bind fun b27 =>
 ((h26.cell (h25r.add 1)).bind AV.asSl).bind fun l28 =>
 ((h26.cell (h25r.add 0)).bind AV.asBool).bind fun b29 =>
 ((h26.cell (h25r.add 1)).bind AV.asSl).bind fun l30 =>
 (go (.fn kjw [.agg [.bool b27,l28.v],.agg [.bool b29,l30.v]]) h26).bind fun q31 =>
 (AV.asTup2 q31.1).bind fun p32 =>
 (AV.asAgg p32.1).bind fun cs33 =>
 cond (Nat.beq cs33.length 2) (
 ((cs33[0]?).bind AV.asBool).bind fun b34 =>
 ((cs33[1]?).bind AV.asSl).bind fun l35 =>
 ((some p32.2).bind (AV.asInt .i64)).bind fun n36 =>
 newK q31.2 (.cells [.bool false,(⟨none,0,.is 0⟩:Sl).v] ki) fun h37r h37 =>
 (h37.puts h37r [.bool b34,l35.v]).bind fun h38 =>
 ((h38.cell (h37r.add 0)).bind AV.asBool).bind fun b39 =>
 ((h38.cell (h37r.add 1)).bind AV.asSl).bind fun l40 =>
 ((h38.cell (h4r.add 1)).bind (AV.asInt .i64)).bind fun n41 =>
 (go (.fn kea [.int .u64 (IntKind.wrap .u64 (IntKind.wrap .i64 (n41+a1)))]) h38).bind fun q42 =>
 ((some q42.1).bind AV.asSl).bind fun l43 =>
 whenK (SameAt h38 q42.2 h37r 2) (
 (go (.fn kj3 [.agg [.bool b39,l40.v],l43.v]) q42.2).bind fun q44 =>
 (AV.asTup2 q44.1).bind fun p45 =>
 (AV.asAgg p45.1).bind fun cs46 =>
 cond (Nat.beq cs46.length 3) (
 ((cs46[0]?).bind AV.asBool).bind fun b47 =>
 ((cs46[1]?).bind AV.asSl).bind fun l48 =>
 ((cs46[2]?).bind AV.asSl).bind fun l49 =>
 ((some p45.2).bind (AV.asInt .i64)).bind fun n50 =>
 (q44.2.puts h5r [.bool b47,l48.v,l49.v]).bind fun h51 =>
 ((h51.cell (h5r.add 0)).bind AV.asBool).bind fun b52 =>
 ((h51.cell (h5r.add 1)).bind AV.asSl).bind fun l53 =>
 ((h51.cell (h5r.add 2)).bind AV.asSl).bind fun l54 =>
 some (.tup [.agg [.bool b52,l53.v,l54.v],.int .i64 n50],h51)) none)) none) none)):=(kf _ h).trans (by kernel_rfl)
noncomputable def both_T(fu:FuncId)(a1:Bool)(a2 a3:Sl)(a4:Bool)(a5 a6:Sl)(h:AH):Option (AV×AH) :=
 newK h (.cells [.bool a1,a2.v,a3.v] kba) fun h7r h7 =>
 newK h7 (.cells [.bool a4,a5.v,a6.v] kba) fun h8r h8 =>
 newK h8 (.cells [.bool false,(⟨none,0,.is 0⟩:Sl).v,(⟨none,0,.is 0⟩:Sl).v] kba) fun h9r h9 =>
 ((h9.cell (h7r.add 0)).bind AV.asBool).bind fun b10 =>
 ((h9.cell (h7r.add 1)).bind AV.asSl).bind fun l11 =>
 ((h9.cell (h7r.add 2)).bind AV.asSl).bind fun l12 =>
 ((h9.cell (h8r.add 0)).bind AV.asBool).bind fun b13 =>
 ((h9.cell (h8r.add 1)).bind AV.asSl).bind fun l14 =>
 ((h9.cell (h8r.add 2)).bind AV.asSl).bind fun l15 =>
 newK h9 (.cells [.bool b10,l11.v,l12.v,.bool b13,l14.v,l15.v] kba) fun h16r h16 =>
 (go (.fn kj1 [(⟨some h16r,2,.is 2⟩:Sl).v]) h16).bind fun q17 =>
 ((some q17.1).bind AV.asBool).bind fun b18 =>
 cond (!b18) (
 (q17.2.puts h9r [.bool false,(⟨none,0,.is 0⟩:Sl).v,(⟨none,0,.is 0⟩:Sl).v]).bind fun h19 =>
 ((h19.cell (h9r.add 0)).bind AV.asBool).bind fun b20 =>
 ((h19.cell (h9r.add 1)).bind AV.asSl).bind fun l21 =>
 ((h19.cell (h9r.add 2)).bind AV.asSl).bind fun l22 =>
 some (.tup [.agg [.bool b20,l21.v,l22.v],.int .i64 1],h19)) (
 newK q17.2 (.cells [.bool false,(⟨none,0,.is 0⟩:Sl).v] ki) fun h23r h23 =>
 ((h23.cell (h7r.add 0)).bind AV.asBool).bind fun b24 =>
 ((h23.cell (h7r.add 1)).bind AV.asSl).bind fun l25 =>
 ((h23.cell (h7r.add 2)).bind AV.asSl).bind fun l26 =>
 ((h23.cell (h8r.add 0)).bind AV.asBool).bind fun b27 =>
 ((h23.cell (h8r.add 1)).bind AV.asSl).bind fun l28 =>
 ((h23.cell (h8r.add 2)).bind AV.asSl).bind fun l29 =>
 ((h23.cell (h8r.add 0)).bind AV.asBool).bind fun b30 =>
 ((h23.cell (h8r.add 1)).bind AV.asSl).bind fun l31 =>
 ((h23.cell (h8r.add 2)).bind AV.asSl).bind fun l32 =>
 ((h23.cell (h7r.add 0)).bind AV.asBool).bind fun b33 =>
 ((h23.cell (h7r.add 1)).bind AV.asSl).bind fun l34 =>
 ((h23.cell (h7r.add 2)).bind AV.asSl).bind fun l35 =>
 (go (.fn kio [.agg [.bool b24,l25.v,l26.v],.agg [.bool b27,l28.v,l29.v]]) h23).bind fun q36 =>
 (AV.asAgg q36.1).bind fun cs37 =>
 cond (Nat.beq cs37.length 2) (
 ((cs37[0]?).bind AV.asBool).bind fun b38 =>
 ((cs37[1]?).bind AV.asSl).bind fun l39 =>
 whenK (SameAt h23 q36.2 h7r 3) (
 whenK (SameAt h23 q36.2 h8r 3) (
 whenK (SameAt h23 q36.2 h23r 0) (
 (go (.fn kio [.agg [.bool b30,l31.v,l32.v],.agg [.bool b33,l34.v,l35.v]]) q36.2).bind fun q40 =>
 (AV.asAgg q40.1).bind fun cs41 =>
 cond (Nat.beq cs41.length 2) (
 ((cs41[0]?).bind AV.asBool).bind fun b42 =>
 ((cs41[1]?).bind AV.asSl).bind fun l43 =>
 whenK (SameAt q36.2 q40.2 h23r 0) (
 (go (.fn fu [.agg [.bool b38,l39.v],.agg [.bool b42,l43.v]]) q40.2).bind fun q44 =>
 (AV.asTup2 q44.1).bind fun p45 =>
 (AV.asAgg p45.1).bind fun cs46 =>
 cond (Nat.beq cs46.length 2) (
 ((cs46[0]?).bind AV.asBool).bind fun b47 =>
 ((cs46[1]?).bind AV.asSl).bind fun l48 =>
 ((some p45.2).bind (AV.asInt .i64)).bind fun n49 =>
 whenK (SameAt q40.2 q44.2 h23r 0) (
 (q44.2.puts h23r [.bool b47,l48.v]).bind fun h50 =>
 ((h50.cell (h7r.add 2)).bind AV.asSl).bind fun l51 =>
 ((h50.cell (h8r.add 2)).bind AV.asSl).bind fun l52 =>
 (go (.fn kl9 [l51.v,l52.v]) h50).bind fun q53 =>
 (AV.asTup2 q53.1).bind fun p54 =>
 ((some p54.1).bind AV.asSl).bind fun l55 =>
 ((some p54.2).bind (AV.asInt .i64)).bind fun n56 =>
 ((q53.2.cell (h23r.add 0)).bind AV.asBool).bind fun b57 =>
 ((q53.2.cell (h23r.add 1)).bind AV.asSl).bind fun l58 =>
 (go (.fn kj3 [.agg [.bool b57,l58.v],l55.v]) q53.2).bind fun q59 =>
 (AV.asTup2 q59.1).bind fun p60 =>
 (AV.asAgg p60.1).bind fun cs61 =>
 cond (Nat.beq cs61.length 3) (
 ((cs61[0]?).bind AV.asBool).bind fun b62 =>
 ((cs61[1]?).bind AV.asSl).bind fun l63 =>
 ((cs61[2]?).bind AV.asSl).bind fun l64 =>
 ((some p60.2).bind (AV.asInt .i64)).bind fun n65 =>
 (q59.2.puts h9r [.bool b62,l63.v,l64.v]).bind fun h66 =>
 ((h66.cell (h9r.add 0)).bind AV.asBool).bind fun b67 =>
 ((h66.cell (h9r.add 1)).bind AV.asSl).bind fun l68 =>
 ((h66.cell (h9r.add 2)).bind AV.asSl).bind fun l69 =>
 some (.tup [.agg [.bool b67,l68.v,l69.v],.int .i64 n65],h66)) none)) none)) none)))) none)
theorem k3c(a1:Bool)(a2 a3:Sl)(a4:Bool)(a5 a6:Sl)(h:AH):go (.fn kh6 [.agg [.bool a1,a2.v,a3.v],.agg [.bool a4,a5.v,a6.v],.func (.func kf2) [] []]) h=both_T kf2 a1 a2 a3 a4 a5 a6 h:=(kf _ h).trans (by kernel_rfl)
theorem kbdk(a1:Bool)(a2 a3:Sl)(a4:Bool)(a5 a6:Sl)(h:AH):go (.fn kh6 [.agg [.bool a1,a2.v,a3.v],.agg [.bool a4,a5.v,a6.v],.func (.func khj) [] []]) h=both_T khj a1 a2 a3 a4 a5 a6 h:=(kf _ h).trans (by kernel_rfl)
theorem kbdg(a1:Sl)(h:AH):go (.fn kj1 [a1.v]) h =
 (go (.fn ksg [a1.v,.func (.func kdp) [] []]) h).bind fun q2 =>
 ((some q2.1).bind AV.asBool).bind fun b3 =>
 some (.bool (!b3),q2.2):=(kf _ h).trans (by kernel_rfl)
theorem k0o(a1:Bool)(a2 a3:Sl)(a4:Bool)(a5 a6:Sl)(h:AH):go (.fn kio [.agg [.bool a1,a2.v,a3.v],.agg [.bool a4,a5.v,a6.v]]) h =
 newK h (.cells [.bool a1,a2.v,a3.v] kba) fun h7r h7 =>
 newK h7 (.cells [.bool a4,a5.v,a6.v] kba) fun h8r h8 =>
 newK h8 (.cells [.bool false,(⟨none,0,.is 0⟩:Sl).v] ki) fun h9r h9 =>
 newK h9 (.cells [.bool false,(⟨none,0,.is 0⟩:Sl).v] ki) fun h10r h10 =>
 ((h10.cell ((h7r.add 0).add 0)).bind AV.asBool).bind fun b11 =>
 ((h10.cell ((h7r.add 0).add 1)).bind AV.asSl).bind fun l12 =>
 ((h10.cell (h8r.add 2)).bind AV.asSl).bind fun l13 =>
 (go (.fn kb4 [.bool false,l13.v]) h10).bind fun q14 =>
 (AV.asAgg q14.1).bind fun cs15 =>
 cond (Nat.beq cs15.length 2) (
 ((cs15[0]?).bind AV.asBool).bind fun b16 =>
 ((cs15[1]?).bind AV.asSl).bind fun l17 =>
 whenK (SameAt h10 q14.2 (h7r.add 0) 2) (
 whenK (SameAt h10 q14.2 h10r 0) (
 (go (.fn kjw [.agg [.bool b11,l12.v],.agg [.bool b16,l17.v]]) q14.2).bind fun q18 =>
 (AV.asTup2 q18.1).bind fun p19 =>
 (AV.asAgg p19.1).bind fun cs20 =>
 cond (Nat.beq cs20.length 2) (
 ((cs20[0]?).bind AV.asBool).bind fun b21 =>
 ((cs20[1]?).bind AV.asSl).bind fun l22 =>
 ((some p19.2).bind (AV.asInt .i64)).bind fun n23 =>
 whenK (SameAt q14.2 q18.2 h10r 0) (
 (q18.2.puts h10r [.bool b21,l22.v]).bind fun h24 =>
 ((h24.cell (h10r.add 0)).bind AV.asBool).bind fun b25 =>
 ((h24.cell (h10r.add 1)).bind AV.asSl).bind fun l26 =>
 (h24.puts h9r [.bool b25,l26.v]).bind fun h27 =>
 ((h27.cell (h9r.add 0)).bind AV.asBool).bind fun b28 =>
 ((h27.cell (h9r.add 1)).bind AV.asSl).bind fun l29 =>
 some (.agg [.bool b28,l29.v],h27))) none))) none:=(kf _ h).trans (by kernel_rfl)
theorem k9k(a1:Bool)(a2:Sl)(a3:Bool)(a4:Sl)(h:AH):go (.fn kof [.agg [.bool a1,a2.v],.agg [.bool a3,a4.v]]) h =
 newK h (.cells [.bool a1,a2.v] ki) fun h5r h5 =>
 newK h5 (.cells [.bool a3,a4.v] ki) fun h6r h6 =>
 ((h6.cell (h5r.add 0)).bind AV.asBool).bind fun b7 =>
 ((h6.cell (h5r.add 1)).bind AV.asSl).bind fun l8 =>
 ((h6.cell (h6r.add 0)).bind AV.asBool).bind fun b9 =>
 ((h6.cell (h6r.add 1)).bind AV.asSl).bind fun l10 =>
 newK h6 (.cells [.bool b7,l8.v,.bool b9,l10.v] ki) fun h11r h11 =>
 (go (.fn kfm [(⟨some h11r,2,.is 2⟩:Sl).v]) h11).bind fun q12 =>
 ((some q12.1).bind AV.asBool).bind fun b13 =>
 cond (!b13) (
 some (.int .i64 0,q12.2)) (
 ((q12.2.cell (h5r.add 0)).bind AV.asBool).bind fun b14 =>
 ((q12.2.cell (h6r.add 0)).bind AV.asBool).bind fun b15 =>
 cond ((b14==true)&&((b15==false)&&true)) (
 some (.int .i64 (-1),q12.2)) (
 cond ((b14==false)&&((b15==true)&&true)) (
 some (.int .i64 1,q12.2)) (
 cond ((b14==true)&&((b15==true)&&true)) (
 ((q12.2.cell (h6r.add 1)).bind AV.asSl).bind fun l16 =>
 ((q12.2.cell (h5r.add 1)).bind AV.asSl).bind fun l17 =>
 (go (.fn khr [l16.v,l17.v]) q12.2).bind fun q18 =>
 ((some q18.1).bind (AV.asInt .i64)).bind fun n19 =>
 some (.int .i64 n19,q18.2)) (
 ((q12.2.cell (h5r.add 1)).bind AV.asSl).bind fun l20 =>
 ((q12.2.cell (h6r.add 1)).bind AV.asSl).bind fun l21 =>
 (go (.fn khr [l20.v,l21.v]) q12.2).bind fun q22 =>
 ((some q22.1).bind (AV.asInt .i64)).bind fun n23 =>
 some (.int .i64 n23,q22.2))))):=(kf _ h).trans (by kernel_rfl)
theorem k5g(a1 a2:Sl)(h:AH):go (.fn kl9 [a1.v,a2.v]) h =
 newK h (.cells [a1.v,a2.v] kch) fun h3r h3 =>
 (go (.fn kfw [(⟨some h3r,2,.is 2⟩:Sl).v]) h3).bind fun q4 =>
 ((some q4.1).bind AV.asBool).bind fun b5 =>
 cond (!b5) (
 some (.tup [(⟨none,0,.is 0⟩:Sl).v,.int .i64 1],q4.2)) (
 (go (.fn knn [a1.v,a2.v]) q4.2).bind fun q6 =>
 ((some q6.1).bind AV.asSl).bind fun l7 =>
 (go (.fn kj8 [l7.v]) q6.2).bind fun q8 =>
 (AV.asTup2 q8.1).bind fun p9 =>
 ((some p9.1).bind AV.asSl).bind fun l10 =>
 ((some p9.2).bind (AV.asInt .i64)).bind fun n11 =>
 some (.tup [l10.v,.int .i64 n11],q8.2)):=(kf _ h).trans (by kernel_rfl)
theorem k4t(a1:Sl)(h:AH):go (.fn ksl [a1.v,.func (.func kdr) [] []]) h =
 (go (.fn kin [a1.v,.func (.func kdr) [] []]) h).bind fun q2 =>
 ((some q2.1).bind (AV.asInt .i64)).bind fun n3 =>
 some (.bool (decide (n3≥0)),q2.2):=(kf _ h).trans (by kernel_rfl)
theorem kbb1(a1:Sl)(h:AH):go (.fn kj8 [a1.v]) h =
 (go (.fn kbo [a1.v]) h).bind fun q2 =>
 ((some q2.1).bind AV.asSl).bind fun l3 =>
 cond (decide ((l3.len:Int)>64)) (
 some (.tup [(⟨none,0,.is 0⟩:Sl).v,.int .i64 4],q2.2)) (
 some (.tup [l3.v,.int .i64 0],q2.2)):=(kf _ h).trans (by kernel_rfl)
theorem k45(a1 a2:Int)(h:AH):go (.fn ke7 [.int .u64 a1,.int .u64 a2]) h =
 some (.int .u64 (kih .u64 a1 a2),h):=(kf _ h).trans (by kernel_rfl)
theorem kbdw(l:Nat)(pe:Option Code)(a1:Sl)(a2:AV)(a3:Ref)(a4:Sl)(a5:AV)(a6:Int)(h:AH)(hb:h.blks[l]?=some (kqo kp0 kdy 0 .ready pe [(0,a1.v),(1,a2),(2,.ptr (some a3)),(4,a4.v),(6,a5)])):go (.round l [.int .i64 a6]) h =
 (beginA l h).bind fun h7 =>
 ((h7.cell a3).bind AV.asSl).bind fun l8 =>
 newK h7 (.cells [.int .i64 a6] T.int) fun h9r h9 =>
 (kbd Pg T.int ((⟨some h9r,1,.is 1⟩:Sl).v) h9).bind fun p11 =>
 (kz Pg l8 p11.1 p11.2 T.int 1 h9).bind fun q10 =>
 (AV.asSl q10.1).bind fun l12 =>
 (q10.2.puts a3 [l12.v]).bind fun h13 =>
 kgt l none h13:=(kf _ h).trans ((k6n hb).trans (by kernel_rfl))
theorem k7w(a1:Sl)(a2:AV)(a3:Ref)(a4:Sl)(a5:AV)(h:AH):go (.pt kdy ((Option.map Item.code none).toList++kxr) [(0,a1.v),(1,a2),(2,.ptr (some a3)),(4,a4.v),(6,a5)]) h =
 ((h.cell a3).bind AV.asSl).bind fun l6 =>
 some (l6.v,h):=(kf _ h).trans (by kernel_rfl)
theorem ktf(a1:Int)(a2 a3:Ref)(a4 a5:Sl)(a6 a7:Int)(h:AH):go (.pt kfl kkv [(2,.int .i64 a1),(3,.ptr (some a2)),(6,.ptr (some a3)),(8,a4.v),(44,a5.v),(45,.int .i64 a6),(46,.int .i64 a7)]) h =
 cond (decide (a7<a6)) (
 (idx a5.ref a5.len a7 1).bind fun r8 =>
 ((h.cell r8).bind (AV.asInt .i64)).bind fun n9 =>
 cond (decide (n9≤a1)) (
 newK h (.cells [.int .i64 a7] T.int) fun h10r h10 =>
 (kbd Pg T.int ((⟨some h10r,1,.is 1⟩:Sl).v) h10).bind fun p12 =>
 (kz Pg a4 p12.1 p12.2 T.int 1 h10).bind fun q11 =>
 (AV.asSl q11.1).bind fun l13 =>
 go (.pt kfl kkv [(2,.int .i64 a1),(3,.ptr (some a2)),(6,.ptr (some a3)),(8,l13.v),(44,a5.v),(45,.int .i64 a6),(46,.int .i64 (IntKind.wrap .i64 (a7+1)))]) q11.2) (
 go (.pt kfl kkv [(2,.int .i64 a1),(3,.ptr (some a2)),(6,.ptr (some a3)),(8,a4.v),(44,a5.v),(45,.int .i64 a6),(46,.int .i64 (IntKind.wrap .i64 (a7+1)))]) h)) (
 ((h.cell (a2.add 0)).bind AV.asSl).bind fun l14 =>
 (go (.fn kgv [.int .i64 (l14.len:Int),a4.v]) h).bind fun q15 =>
 (AV.asTup2 q15.1).bind fun p16 =>
 (AV.asAgg p16.1).bind fun cs17 =>
 cond (Nat.beq cs17.length 2) (
 ((cs17[0]?).bind (AV.asInt .i64)).bind fun n18 =>
 ((cs17[1]?).bind AV.asSl).bind fun l19 =>
 ((some p16.2).bind (AV.asInt .i64)).bind fun n20 =>
 (q15.2.puts a3 [.int .i64 n18,l19.v]).bind fun h21 =>
 ((h21.cell (a3.add 0)).bind (AV.asInt .i64)).bind fun n22 =>
 ((h21.cell (a3.add 1)).bind AV.asSl).bind fun l23 =>
 some (.tup [.agg [.int .i64 n22,l23.v],.int .i64 n20],h21)) none):=(kf _ h).trans (by kernel_rfl)
theorem kbdr(a1:Int)(a2:Sl)(a3:Int)(a4:Sl)(h:AH):go (.fn kcn [.agg [.int .i64 a1,a2.v],.agg [.int .i64 a3,a4.v],.func (.func kew) [] []]) h =
 newK h (.cells [.int .i64 a1,a2.v] ky) fun h5r h5 =>
 newK h5 (.cells [.int .i64 a3,a4.v] ky) fun h6r h6 =>
 newK h6 (.cells [.int .i64 0,(⟨none,0,.is 0⟩:Sl).v] ky) fun h7r h7 =>
 ((h7.cell (h5r.add 0)).bind (AV.asInt .i64)).bind fun n8 =>
 ((h7.cell (h5r.add 1)).bind AV.asSl).bind fun l9 =>
 (go (.fn kf3 [.agg [.int .i64 n8,l9.v]]) h7).bind fun q10 =>
 ((some q10.1).bind AV.asBool).bind fun b11 =>
 cond (!b11) (
 (q10.2.puts h7r [.int .i64 0,(⟨none,0,.is 0⟩:Sl).v]).bind fun h12 =>
 ((h12.cell (h7r.add 0)).bind (AV.asInt .i64)).bind fun n13 =>
 ((h12.cell (h7r.add 1)).bind AV.asSl).bind fun l14 =>
 some (.tup [.agg [.int .i64 n13,l14.v],.int .i64 1],h12)) (
 ((q10.2.cell (h6r.add 0)).bind (AV.asInt .i64)).bind fun n15 =>
 ((q10.2.cell (h6r.add 1)).bind AV.asSl).bind fun l16 =>
 (go (.fn kf3 [.agg [.int .i64 n15,l16.v]]) q10.2).bind fun q17 =>
 ((some q17.1).bind AV.asBool).bind fun b18 =>
 cond (!b18) (
 (q17.2.puts h7r [.int .i64 0,(⟨none,0,.is 0⟩:Sl).v]).bind fun h19 =>
 ((h19.cell (h7r.add 0)).bind (AV.asInt .i64)).bind fun n20 =>
 ((h19.cell (h7r.add 1)).bind AV.asSl).bind fun l21 =>
 some (.tup [.agg [.int .i64 n20,l21.v],.int .i64 1],h19)) (
 ((q17.2.cell (h5r.add 0)).bind (AV.asInt .i64)).bind fun n22 =>
 ((q17.2.cell (h6r.add 0)).bind (AV.asInt .i64)).bind fun n23 =>
 cond (!decide (n22=n23)) (
 (q17.2.puts h7r [.int .i64 0,(⟨none,0,.is 0⟩:Sl).v]).bind fun h24 =>
 ((h24.cell (h7r.add 0)).bind (AV.asInt .i64)).bind fun n25 =>
 ((h24.cell (h7r.add 1)).bind AV.asSl).bind fun l26 =>
 some (.tup [.agg [.int .i64 n25,l26.v],.int .i64 1],h24)) (
 ((q17.2.cell (h5r.add 0)).bind (AV.asInt .i64)).bind fun n27 =>
 (go (.fn khd [.int .i64 n27]) q17.2).bind fun q28 =>
 (AV.asTup2 q28.1).bind fun p29 =>
 (AV.asAgg p29.1).bind fun cs30 =>
 cond (Nat.beq cs30.length 2) (
 ((cs30[0]?).bind (AV.asInt .i64)).bind fun n31 =>
 ((cs30[1]?).bind AV.asSl).bind fun l32 =>
 ((some p29.2).bind (AV.asInt .i64)).bind fun n33 =>
 newK q28.2 (.cells [.int .i64 0,(⟨none,0,.is 0⟩:Sl).v] ky) fun h34r h34 =>
 (h34.puts h34r [.int .i64 n31,l32.v]).bind fun h35 =>
 ((h35.cell (h34r.add 1)).bind AV.asSl).bind fun l36 =>
 go (.pt kcn kfb [(2,.func (.func kew) [] []),(3,.ptr (some h5r)),(4,.ptr (some h6r)),(6,.ptr (some h7r)),(8,.ptr (some h34r)),(9,.int .i64 n33),(35,.int .i64 (l36.len:Int)),(36,.int .i64 0)]) h35) none))):=(kf _ h).trans (by kernel_rfl)
theorem k88(a1:Sl)(h:AH):go (.fn khw [a1.v,.func (.func kdx) [] []]) h =
 go (.pt khw kk8 [(0,a1.v),(1,.func (.func kdx) [] []),(7,.int .i64 (a1.len:Int)),(8,.int .i64 0)]) h:=(kf _ h).trans (by kernel_rfl)
theorem k9q(a1 a2 a3:Int)(h:AH):go (.fn kbu [.int .u64 a1,.int .u64 a2,.int .u64 a3]) h =
 cond (decide (a3=0)) (
 (h.cell (.old ⟨Gl.math_bits_divideError,0,none⟩)).bind fun v4 =>
 none) (
 go (.pt kbu kp6 [(0,.int .u64 a1),(1,.int .u64 a2),(2,.int .u64 a3)]) h):=(kf _ h).trans (by kernel_rfl)
theorem k0m(a1:Int)(h:AH):go (.fn klx [.int .u64 a1]) h =
 cond (decide (a1≥4294967296)) (
 cond (decide ((ishr .u64 a1 32)≥65536)) (
 cond (decide ((ishr .u64 (ishr .u64 a1 32) 16)≥256)) (
 cond (decide (0≤(IntKind.wrap .u8 (ishr .u64 (ishr .u64 (ishr .u64 a1 32) 16) 8)))) (
 (lit1[Int.toNat (IntKind.wrap .u8 (ishr .u64 (ishr .u64 (ishr .u64 a1 32) 16) 8))]?).bind fun b2 =>
 some (.int .i64 (IntKind.wrap .i64 ((IntKind.wrap .i64 ((IntKind.wrap .i64 (32+16))+8))+(IntKind.wrap .i64 (b2.toNat:Int)))),h)) none) (
 cond (decide (0≤(IntKind.wrap .u8 (ishr .u64 (ishr .u64 a1 32) 16)))) (
 (lit1[Int.toNat (IntKind.wrap .u8 (ishr .u64 (ishr .u64 a1 32) 16))]?).bind fun b3 =>
 some (.int .i64 (IntKind.wrap .i64 ((IntKind.wrap .i64 (32+16))+(IntKind.wrap .i64 (b3.toNat:Int)))),h)) none)) (
 cond (decide ((ishr .u64 a1 32)≥256)) (
 cond (decide (0≤(IntKind.wrap .u8 (ishr .u64 (ishr .u64 a1 32) 8)))) (
 (lit1[Int.toNat (IntKind.wrap .u8 (ishr .u64 (ishr .u64 a1 32) 8))]?).bind fun b4 =>
 some (.int .i64 (IntKind.wrap .i64 ((IntKind.wrap .i64 (32+8))+(IntKind.wrap .i64 (b4.toNat:Int)))),h)) none) (
 cond (decide (0≤(IntKind.wrap .u8 (ishr .u64 a1 32)))) (
 (lit1[Int.toNat (IntKind.wrap .u8 (ishr .u64 a1 32))]?).bind fun b5 =>
 some (.int .i64 (IntKind.wrap .i64 (32+(IntKind.wrap .i64 (b5.toNat:Int)))),h)) none))) (
 cond (decide (a1≥65536)) (
 cond (decide ((ishr .u64 a1 16)≥256)) (
 cond (decide (0≤(IntKind.wrap .u8 (ishr .u64 (ishr .u64 a1 16) 8)))) (
 (lit1[Int.toNat (IntKind.wrap .u8 (ishr .u64 (ishr .u64 a1 16) 8))]?).bind fun b6 =>
 some (.int .i64 (IntKind.wrap .i64 ((IntKind.wrap .i64 ((IntKind.wrap .i64 (0+16))+8))+(IntKind.wrap .i64 (b6.toNat:Int)))),h)) none) (
 cond (decide (0≤(IntKind.wrap .u8 (ishr .u64 a1 16)))) (
 (lit1[Int.toNat (IntKind.wrap .u8 (ishr .u64 a1 16))]?).bind fun b7 =>
 some (.int .i64 (IntKind.wrap .i64 ((IntKind.wrap .i64 (0+16))+(IntKind.wrap .i64 (b7.toNat:Int)))),h)) none)) (
 cond (decide (a1≥256)) (
 cond (decide (0≤(IntKind.wrap .u8 (ishr .u64 a1 8)))) (
 (lit1[Int.toNat (IntKind.wrap .u8 (ishr .u64 a1 8))]?).bind fun b8 =>
 some (.int .i64 (IntKind.wrap .i64 ((IntKind.wrap .i64 (0+8))+(IntKind.wrap .i64 (b8.toNat:Int)))),h)) none) (
 cond (decide (0≤(IntKind.wrap .u8 a1))) (
 (lit1[Int.toNat (IntKind.wrap .u8 a1)]?).bind fun b9 =>
 some (.int .i64 (IntKind.wrap .i64 (0+(IntKind.wrap .i64 (b9.toNat:Int)))),h)) none))):=(kf _ h).trans (by kernel_rfl)
theorem kbb8(a1:Int)(a2 a3:Sl)(a4 a5:Int)(h:AH):go (.pt kd9 kjn [(1,.int .u64 a1),(5,a2.v),(12,a3.v),(13,.int .i64 a4),(14,.int .i64 a5)]) h =
 cond (decide (a5<a4)) (
 (idx a3.ref a3.len a5 1).bind fun r6 =>
 ((h.cell r6).bind (AV.asInt .u64)).bind fun n7 =>
 (idx a2.ref a2.len a5 1).bind fun r8 =>
 ((h.cell r8).bind (AV.asInt .u64)).bind fun n9 =>
 cond (decide (a1<0)) none (
 (idx a2.ref a2.len a5 1).bind fun r10 =>
 (h.puts r10 [.int .u64 (ior .u64 n9 (ishl .u64 n7 a1))]).bind fun h11 =>
 cond (decide (a1>0)) (
 cond (decide ((IntKind.wrap .u64 (64-a1))<0)) none (
 (idx a2.ref a2.len (IntKind.wrap .i64 (a5+1)) 1).bind fun r12 =>
 (h11.puts r12 [.int .u64 (ishr .u64 n7 (IntKind.wrap .u64 (64-a1)))]).bind fun h13 =>
 go (.pt kd9 kjn [(1,.int .u64 a1),(5,a2.v),(12,a3.v),(13,.int .i64 a4),(14,.int .i64 (IntKind.wrap .i64 (a5+1)))]) h13)) (
 go (.pt kd9 kjn [(1,.int .u64 a1),(5,a2.v),(12,a3.v),(13,.int .i64 a4),(14,.int .i64 (IntKind.wrap .i64 (a5+1)))]) h11))) (
 some (a2.v,h)):=(kf _ h).trans (by kernel_rfl)
theorem k61(a1 a2 a3 a4 a5:Int)(h:AH):go (.fn keo [.int .u64 a1,.int .u64 a2,.int .u64 a3,.int .u64 a4,.int .u64 a5]) h =
 cond (decide (a1≥a4)) (
 some (.int .u64 18446744073709551615,h)) (
 (go (.fn kbu [.int .u64 a1,.int .u64 a2,.int .u64 a4]) h).bind fun q6 =>
 (AV.asTup2 q6.1).bind fun p7 =>
 ((some p7.1).bind (AV.asInt .u64)).bind fun n8 =>
 ((some p7.2).bind (AV.asInt .u64)).bind fun n9 =>
 go (.pt keo kkm [(2,.int .u64 a3),(3,.int .u64 a4),(4,.int .u64 a5),(11,.int .u64 n8),(12,.int .u64 n9)]) q6.2):=(kf _ h).trans (by kernel_rfl)
theorem k3y(a1:Int)(a2 a3:Sl)(a4:Int)(a5:Sl)(a6 a7:Int)(a8:Sl)(h:AH):go (.pt kb6 kl0 [(6,.int .u64 a1),(7,a2.v),(8,a3.v),(9,.int .i64 a4),(10,a5.v),(11,.int .i64 a6),(12,.int .u64 a7),(13,a8.v)]) h =
 (go (.fn kea [.int .u64 a7]) h).bind fun q9 =>
 ((some q9.1).bind AV.asSl).bind fun l10 =>
 (go (.fn kcr [a3.v,l10.v]) q9.2).bind fun q11 =>
 ((some q11.1).bind AV.asSl).bind fun l12 =>
 (go (.fn kg7 [a8.v]) q11.2).bind fun q13 =>
 ((some q13.1).bind AV.asSl).bind fun l14 =>
 (go (.fn kbo [l14.v]) q13.2).bind fun q15 =>
 ((some q15.1).bind AV.asSl).bind fun l16 =>
 (go (.fn keg [l16.v,l12.v]) q15.2).bind fun q17 =>
 ((some q17.1).bind (AV.asInt .i64)).bind fun n18 =>
 cond (decide (n18≥0)) (
 (go (.fn kc2 [a8.v,l12.v]) q17.2).bind fun q19 =>
 ((some q19.1).bind AV.asSl).bind fun l20 =>
 (copyH l20 a8 1 q19.2).bind fun h21 =>
 (idx a5.ref a5.len a6 1).bind fun r22 =>
 (h21.puts r22 [.int .u64 a7]).bind fun h23 =>
 go (.pt kb6 kmr [(6,.int .u64 a1),(7,a2.v),(8,a3.v),(9,.int .i64 a4),(10,a5.v),(11,.int .i64 (IntKind.wrap .i64 (a6-1)))]) h23) (
 go (.pt kb6 kl0 [(6,.int .u64 a1),(7,a2.v),(8,a3.v),(9,.int .i64 a4),(10,a5.v),(11,.int .i64 a6),(12,.int .u64 (IntKind.wrap .u64 (a7-1))),(13,a8.v)]) q17.2):=(kf _ h).trans (by kernel_rfl)
theorem kbb4(a1:Int)(a2 a3 a4:Sl)(a5 a6:Int)(h:AH):go (.pt kb6 khn [(6,.int .u64 a1),(10,a2.v),(15,a3.v),(16,a4.v),(112,.int .i64 a5),(113,.int .i64 a6)]) h =
 cond (decide (a6<a5)) (
 (idx a3.ref a3.len a6 1).bind fun r7 =>
 ((h.cell r7).bind (AV.asInt .u64)).bind fun n8 =>
 cond (decide (a1<0)) none (
 (idx a4.ref a4.len a6 1).bind fun r9 =>
 (h.puts r9 [.int .u64 (ishr .u64 n8 a1)]).bind fun h10 =>
 cond (decide (a1>0)) (
 cond (decide ((IntKind.wrap .i64 (a6+1))<(a3.len:Int))) (
 (idx a4.ref a4.len a6 1).bind fun r11 =>
 ((h10.cell r11).bind (AV.asInt .u64)).bind fun n12 =>
 (idx a3.ref a3.len (IntKind.wrap .i64 (a6+1)) 1).bind fun r13 =>
 ((h10.cell r13).bind (AV.asInt .u64)).bind fun n14 =>
 cond (decide ((IntKind.wrap .u64 (64-a1))<0)) none (
 (idx a4.ref a4.len a6 1).bind fun r15 =>
 (h10.puts r15 [.int .u64 (ior .u64 n12 (ishl .u64 n14 (IntKind.wrap .u64 (64-a1))))]).bind fun h16 =>
 go (.pt kb6 khn [(6,.int .u64 a1),(10,a2.v),(15,a3.v),(16,a4.v),(112,.int .i64 a5),(113,.int .i64 (IntKind.wrap .i64 (a6+1)))]) h16)) (
 go (.pt kb6 khn [(6,.int .u64 a1),(10,a2.v),(15,a3.v),(16,a4.v),(112,.int .i64 a5),(113,.int .i64 (IntKind.wrap .i64 (a6+1)))]) h10)) (
 go (.pt kb6 khn [(6,.int .u64 a1),(10,a2.v),(15,a3.v),(16,a4.v),(112,.int .i64 a5),(113,.int .i64 (IntKind.wrap .i64 (a6+1)))]) h10))) (
 (go (.fn kbo [a2.v]) h).bind fun q17 =>
 ((some q17.1).bind AV.asSl).bind fun l18 =>
 (go (.fn kbo [a4.v]) q17.2).bind fun q19 =>
 ((some q19.1).bind AV.asSl).bind fun l20 =>
 some (.tup [l18.v,l20.v],q19.2)):=(kf _ h).trans (by kernel_rfl)
theorem k2o(a1:Bool)(a2:Sl)(a3:Bool)(a4:Sl)(h:AH):go (.fn kf2 [.agg [.bool a1,a2.v],.agg [.bool a3,a4.v]]) h =
 newK h (.cells [.bool a1,a2.v] ki) fun h5r h5 =>
 newK h5 (.cells [.bool a3,a4.v] ki) fun h6r h6 =>
 newK h6 (.cells [.bool false,(⟨none,0,.is 0⟩:Sl).v] ki) fun h7r h7 =>
 ((h7.cell (h5r.add 0)).bind AV.asBool).bind fun b8 =>
 ((h7.cell (h5r.add 1)).bind AV.asSl).bind fun l9 =>
 ((h7.cell (h6r.add 0)).bind AV.asBool).bind fun b10 =>
 ((h7.cell (h6r.add 1)).bind AV.asSl).bind fun l11 =>
 newK h7 (.cells [.bool b8,l9.v,.bool b10,l11.v] ki) fun h12r h12 =>
 (go (.fn kfm [(⟨some h12r,2,.is 2⟩:Sl).v]) h12).bind fun q13 =>
 ((some q13.1).bind AV.asBool).bind fun b14 =>
 cond (!b14) (
 (q13.2.puts h7r [.bool false,(⟨none,0,.is 0⟩:Sl).v]).bind fun h15 =>
 ((h15.cell (h7r.add 0)).bind AV.asBool).bind fun b16 =>
 ((h15.cell (h7r.add 1)).bind AV.asSl).bind fun l17 =>
 some (.tup [.agg [.bool b16,l17.v],.int .i64 1],h15)) (
 ((q13.2.cell (h5r.add 0)).bind AV.asBool).bind fun b18 =>
 ((q13.2.cell (h6r.add 0)).bind AV.asBool).bind fun b19 =>
 cond (b18==b19) (
 ((q13.2.cell (h5r.add 1)).bind AV.asSl).bind fun l20 =>
 ((q13.2.cell (h6r.add 1)).bind AV.asSl).bind fun l21 =>
 (go (.fn kkz [l20.v,l21.v]) q13.2).bind fun q22 =>
 (AV.asTup2 q22.1).bind fun p23 =>
 ((some p23.1).bind AV.asSl).bind fun l24 =>
 ((some p23.2).bind (AV.asInt .i64)).bind fun n25 =>
 ((q22.2.cell (h5r.add 0)).bind AV.asBool).bind fun b26 =>
 (go (.fn kb4 [.bool b26,l24.v]) q22.2).bind fun q27 =>
 (AV.asAgg q27.1).bind fun cs28 =>
 cond (Nat.beq cs28.length 2) (
 ((cs28[0]?).bind AV.asBool).bind fun b29 =>
 ((cs28[1]?).bind AV.asSl).bind fun l30 =>
 (q27.2.puts h7r [.bool b29,l30.v]).bind fun h31 =>
 ((h31.cell (h7r.add 0)).bind AV.asBool).bind fun b32 =>
 ((h31.cell (h7r.add 1)).bind AV.asSl).bind fun l33 =>
 some (.tup [.agg [.bool b32,l33.v],.int .i64 n25],h31)) none) (
 ((q13.2.cell (h5r.add 1)).bind AV.asSl).bind fun l34 =>
 ((q13.2.cell (h6r.add 1)).bind AV.asSl).bind fun l35 =>
 (go (.fn khr [l34.v,l35.v]) q13.2).bind fun q36 =>
 ((some q36.1).bind (AV.asInt .i64)).bind fun n37 =>
 cond (decide (n37<0)) (
 ((q36.2.cell (h6r.add 0)).bind AV.asBool).bind fun b38 =>
 ((q36.2.cell (h6r.add 1)).bind AV.asSl).bind fun l39 =>
 ((q36.2.cell (h5r.add 0)).bind AV.asBool).bind fun b40 =>
 ((q36.2.cell (h5r.add 1)).bind AV.asSl).bind fun l41 =>
 (q36.2.puts h5r [.bool b38,l39.v]).bind fun h42 =>
 (h42.puts h6r [.bool b40,l41.v]).bind fun h43 =>
 ((h43.cell (h5r.add 1)).bind AV.asSl).bind fun l44 =>
 ((h43.cell (h6r.add 1)).bind AV.asSl).bind fun l45 =>
 (go (.fn kjz [l44.v,l45.v]) h43).bind fun q46 =>
 (AV.asTup2 q46.1).bind fun p47 =>
 ((some p47.1).bind AV.asSl).bind fun l48 =>
 ((some p47.2).bind (AV.asInt .i64)).bind fun n49 =>
 ((q46.2.cell (h5r.add 0)).bind AV.asBool).bind fun b50 =>
 (go (.fn kb4 [.bool b50,l48.v]) q46.2).bind fun q51 =>
 (AV.asAgg q51.1).bind fun cs52 =>
 cond (Nat.beq cs52.length 2) (
 ((cs52[0]?).bind AV.asBool).bind fun b53 =>
 ((cs52[1]?).bind AV.asSl).bind fun l54 =>
 (q51.2.puts h7r [.bool b53,l54.v]).bind fun h55 =>
 ((h55.cell (h7r.add 0)).bind AV.asBool).bind fun b56 =>
 ((h55.cell (h7r.add 1)).bind AV.asSl).bind fun l57 =>
 some (.tup [.agg [.bool b56,l57.v],.int .i64 n49],h55)) none) (
 ((q36.2.cell (h5r.add 1)).bind AV.asSl).bind fun l58 =>
 ((q36.2.cell (h6r.add 1)).bind AV.asSl).bind fun l59 =>
 (go (.fn kjz [l58.v,l59.v]) q36.2).bind fun q60 =>
 (AV.asTup2 q60.1).bind fun p61 =>
 ((some p61.1).bind AV.asSl).bind fun l62 =>
 ((some p61.2).bind (AV.asInt .i64)).bind fun n63 =>
 ((q60.2.cell (h5r.add 0)).bind AV.asBool).bind fun b64 =>
 (go (.fn kb4 [.bool b64,l62.v]) q60.2).bind fun q65 =>
 (AV.asAgg q65.1).bind fun cs66 =>
 cond (Nat.beq cs66.length 2) (
 ((cs66[0]?).bind AV.asBool).bind fun b67 =>
 ((cs66[1]?).bind AV.asSl).bind fun l68 =>
 (q65.2.puts h7r [.bool b67,l68.v]).bind fun h69 =>
 ((h69.cell (h7r.add 0)).bind AV.asBool).bind fun b70 =>
 ((h69.cell (h7r.add 1)).bind AV.asSl).bind fun l71 =>
 some (.tup [.agg [.bool b70,l71.v],.int .i64 n63],h69)) none))):=(kf _ h).trans (by kernel_rfl)
theorem k3r(a1:Bool)(a2:Sl)(a3:Bool)(a4:Sl)(h:AH):go (.fn khj [.agg [.bool a1,a2.v],.agg [.bool a3,a4.v]]) h =
 newK h (.cells [.bool a1,a2.v] ki) fun h5r h5 =>
 newK h5 (.cells [.bool a3,a4.v] ki) fun h6r h6 =>
 newK h6 (.cells [.bool false,(⟨none,0,.is 0⟩:Sl).v] ki) fun h7r h7 =>
 ((h7.cell (h5r.add 0)).bind AV.asBool).bind fun b8 =>
 ((h7.cell (h5r.add 1)).bind AV.asSl).bind fun l9 =>
 ((h7.cell (h6r.add 0)).bind AV.asBool).bind fun b10 =>
 ((h7.cell (h6r.add 1)).bind AV.asSl).bind fun l11 =>
 newK h7 (.cells [.bool b8,l9.v,.bool b10,l11.v] ki) fun h12r h12 =>
 (go (.fn kfm [(⟨some h12r,2,.is 2⟩:Sl).v]) h12).bind fun q13 =>
 ((some q13.1).bind AV.asBool).bind fun b14 =>
 cond (!b14) (
 (q13.2.puts h7r [.bool false,(⟨none,0,.is 0⟩:Sl).v]).bind fun h15 =>
 ((h15.cell (h7r.add 0)).bind AV.asBool).bind fun b16 =>
 ((h15.cell (h7r.add 1)).bind AV.asSl).bind fun l17 =>
 some (.tup [.agg [.bool b16,l17.v],.int .i64 1],h15)) (
 ((q13.2.cell (h5r.add 0)).bind AV.asBool).bind fun b18 =>
 ((q13.2.cell (h5r.add 1)).bind AV.asSl).bind fun l19 =>
 ((q13.2.cell (h6r.add 0)).bind AV.asBool).bind fun b20 =>
 ((q13.2.cell (h6r.add 1)).bind AV.asSl).bind fun l21 =>
 (go (.fn kq5 [.agg [.bool b20,l21.v]]) q13.2).bind fun q22 =>
 (AV.asAgg q22.1).bind fun cs23 =>
 cond (Nat.beq cs23.length 2) (
 ((cs23[0]?).bind AV.asBool).bind fun b24 =>
 ((cs23[1]?).bind AV.asSl).bind fun l25 =>
 whenK (SameAt q13.2 q22.2 h5r 2) (
 (go (.fn kf2 [.agg [.bool b18,l19.v],.agg [.bool b24,l25.v]]) q22.2).bind fun q26 =>
 (AV.asTup2 q26.1).bind fun p27 =>
 (AV.asAgg p27.1).bind fun cs28 =>
 cond (Nat.beq cs28.length 2) (
 ((cs28[0]?).bind AV.asBool).bind fun b29 =>
 ((cs28[1]?).bind AV.asSl).bind fun l30 =>
 ((some p27.2).bind (AV.asInt .i64)).bind fun n31 =>
 (q26.2.puts h7r [.bool b29,l30.v]).bind fun h32 =>
 ((h32.cell (h7r.add 0)).bind AV.asBool).bind fun b33 =>
 ((h32.cell (h7r.add 1)).bind AV.asSl).bind fun l34 =>
 some (.tup [.agg [.bool b33,l34.v],.int .i64 n31],h32)) none)) none):=(kf _ h).trans (by kernel_rfl)
theorem kyp(a1:Sl)(h:AH):go (.fn ksg [a1.v,.func (.func kdp) [] []]) h =
 (go (.fn khi [a1.v,.func (.func kdp) [] []]) h).bind fun q2 =>
 ((some q2.1).bind (AV.asInt .i64)).bind fun n3 =>
 some (.bool (decide (n3≥0)),q2.2):=(kf _ h).trans (by kernel_rfl)
theorem kbdo(a1 a2:Sl)(h:AH):go (.fn khr [a1.v,a2.v]) h =
 newK h (.cells [a1.v,a2.v] kch) fun h3r h3 =>
 (go (.fn kfw [(⟨some h3r,2,.is 2⟩:Sl).v]) h3).bind fun q4 =>
 ((some q4.1).bind AV.asBool).bind fun b5 =>
 cond (!b5) (
 some (.int .i64 0,q4.2)) (
 (go (.fn keg [a1.v,a2.v]) q4.2).bind fun q6 =>
 ((some q6.1).bind (AV.asInt .i64)).bind fun n7 =>
 some (.int .i64 n7,q6.2)):=(kf _ h).trans (by kernel_rfl)
theorem kbcb(a1 a2:Sl)(h:AH):go (.fn knn [a1.v,a2.v]) h =
 newK h (.cells [.nilFunc] k1e) fun h3r h3 =>
 (h3.puts h3r [.func (.func kj0) [] [.ptr (some h3r)]]).bind fun h4 =>
 (h4.cell h3r).bind fun v5 =>
 yieldK v5 [a1.v,a2.v] (fun y7 =>
 (go (.round y7.1 y7.2) h4).bind fun q6 =>
 ((some q6.1).bind AV.asSl).bind fun l9 =>
 some (l9.v,q6.2)) (
 (callV Pg go v5 [a1.v,a2.v] h4).bind fun q8 =>
 ((some q8.1).bind AV.asSl).bind fun l10 =>
 some (l10.v,q8.2)):=(kf _ h).trans (by kernel_rfl)
theorem k1f(a1:Sl)(h:AH):go (.fn kin [a1.v,.func (.func kdr) [] []]) h =
 go (.pt kin knb [(0,a1.v),(1,.func (.func kdr) [] []),(7,.int .i64 (a1.len:Int)),(8,.int .i64 0)]) h:=(kf _ h).trans (by kernel_rfl)
theorem kbcf(a1:Int)(a2:Sl)(h:AH):go (.fn kgv [.int .i64 a1,a2.v]) h =
 newK h (.cells [.int .i64 a1] T.int) fun h3r h3 =>
 newK h3 (.cells [.int .i64 0,(⟨none,0,.is 0⟩:Sl).v] ky) fun h4r h4 =>
 ((h4.cell h3r).bind (AV.asInt .i64)).bind fun n5 =>
 (go (.fn khd [.int .i64 n5]) h4).bind fun q6 =>
 (AV.asTup2 q6.1).bind fun p7 =>
 (AV.asAgg p7.1).bind fun cs8 =>
 cond (Nat.beq cs8.length 2) (
 ((cs8[0]?).bind (AV.asInt .i64)).bind fun n9 =>
 ((cs8[1]?).bind AV.asSl).bind fun l10 =>
 ((some p7.2).bind (AV.asInt .i64)).bind fun n11 =>
 newK q6.2 (.cells [.int .i64 0,(⟨none,0,.is 0⟩:Sl).v] ky) fun h12r h12 =>
 (h12.puts h12r [.int .i64 n9,l10.v]).bind fun h13 =>
 cond (!decide (n11=0)) (
 (h13.puts h4r [.int .i64 0,(⟨none,0,.is 0⟩:Sl).v]).bind fun h14 =>
 ((h14.cell (h4r.add 0)).bind (AV.asInt .i64)).bind fun n15 =>
 ((h14.cell (h4r.add 1)).bind AV.asSl).bind fun l16 =>
 some (.tup [.agg [.int .i64 n15,l16.v],.int .i64 1],h14)) (
 (go (.fn kdg [a2.v,.func (.func kdh) [] [.ptr (some h3r)]]) h13).bind fun q17 =>
 ((some q17.1).bind AV.asBool).bind fun b18 =>
 cond b18 (
 (q17.2.puts h4r [.int .i64 0,(⟨none,0,.is 0⟩:Sl).v]).bind fun h19 =>
 ((h19.cell (h4r.add 0)).bind (AV.asInt .i64)).bind fun n20 =>
 ((h19.cell (h4r.add 1)).bind AV.asSl).bind fun l21 =>
 some (.tup [.agg [.int .i64 n20,l21.v],.int .i64 1],h19)) (
 go (.pt kgv km7 [(4,.ptr (some h4r)),(6,.ptr (some h12r)),(23,a2.v),(24,.int .i64 (a2.len:Int)),(25,.int .i64 0)]) q17.2))) none:=(kf _ h).trans (by kernel_rfl)
theorem kw7(a1 a2 a3 a4:Ref)(a5 a6 a7:Int)(h:AH):go (.pt kcn kfb [(2,.func (.func kew) [] []),(3,.ptr (some a1)),(4,.ptr (some a2)),(6,.ptr (some a3)),(8,.ptr (some a4)),(9,.int .i64 a5),(35,.int .i64 a6),(36,.int .i64 a7)]) h =
 cond (decide (a7<a6)) (
 ((h.cell (a4.add 1)).bind AV.asSl).bind fun l8 =>
 ((h.cell (a1.add 1)).bind AV.asSl).bind fun l9 =>
 (idx l9.ref l9.len a7 1).bind fun r10 =>
 ((h.cell r10).bind (AV.asInt .u64)).bind fun n11 =>
 ((h.cell (a2.add 1)).bind AV.asSl).bind fun l12 =>
 (idx l12.ref l12.len a7 1).bind fun r13 =>
 ((h.cell r13).bind (AV.asInt .u64)).bind fun n14 =>
 (go (.fn kew [.int .u64 n11,.int .u64 n14]) h).bind fun q15 =>
 ((some q15.1).bind (AV.asInt .u64)).bind fun n16 =>
 whenK (SameAt h q15.2 (a4.add 1) 1) (
 (idx l8.ref l8.len a7 1).bind fun r17 =>
 (q15.2.puts r17 [.int .u64 n16]).bind fun h18 =>
 go (.pt kcn kfb [(2,.func (.func kew) [] []),(3,.ptr (some a1)),(4,.ptr (some a2)),(6,.ptr (some a3)),(8,.ptr (some a4)),(9,.int .i64 a5),(35,.int .i64 a6),(36,.int .i64 (IntKind.wrap .i64 (a7+1)))]) h18)) (
 ((h.cell (a4.add 0)).bind (AV.asInt .i64)).bind fun n19 =>
 ((h.cell (a4.add 1)).bind AV.asSl).bind fun l20 =>
 (h.puts a3 [.int .i64 n19,l20.v]).bind fun h21 =>
 ((h21.cell (a3.add 0)).bind (AV.asInt .i64)).bind fun n22 =>
 ((h21.cell (a3.add 1)).bind AV.asSl).bind fun l23 =>
 some (.tup [.agg [.int .i64 n22,l23.v],.int .i64 a5],h21)):=(kf _ h).trans (by kernel_rfl)
theorem kti(a1:Sl)(a2 a3:Int)(h:AH):go (.pt khw kk8 [(0,a1.v),(1,.func (.func kdx) [] []),(7,.int .i64 a2),(8,.int .i64 a3)]) h =
 cond (decide (a3<a2)) (
 (idx a1.ref a1.len a3 1).bind fun r4 =>
 ((h.cell r4).bind AV.asSl).bind fun l5 =>
 (go (.fn kdx [l5.v]) h).bind fun q6 =>
 ((some q6.1).bind AV.asBool).bind fun b7 =>
 cond b7 (
 some (.int .i64 a3,q6.2)) (
 go (.pt khw kk8 [(0,a1.v),(1,.func (.func kdx) [] []),(7,.int .i64 a2),(8,.int .i64 (IntKind.wrap .i64 (a3+1)))]) q6.2)) (
 some (.int .i64 (-1),h)):=(kf _ h).trans (by kernel_rfl)
theorem kbam(a1 a2 a3:Int)(h:AH):go (.pt kbu kp6 [(0,.int .u64 a1),(1,.int .u64 a2),(2,.int .u64 a3)]) h =
 cond (decide (a3≤a1)) (
 (h.cell (.old ⟨Gl.math_bits_overflowError,0,none⟩)).bind fun v4 =>
 none) (
 cond (decide (a1=0)) (
 cond (decide (a3=0)) none (
 cond (decide (a3=0)) none (
 some (.tup [.int .u64 (IntKind.wrap .u64 (Int.tdiv a2 a3)),.int .u64 (Int.tmod a2 a3)],h)))) (
 (go (.fn kmx [.int .u64 a3]) h).bind fun q5 =>
 ((some q5.1).bind (AV.asInt .i64)).bind fun n6 =>
 cond (decide ((IntKind.wrap .u64 n6)<0)) none (
 cond (decide ((IntKind.wrap .u64 n6)<0)) none (
 cond (decide ((IntKind.wrap .u64 (64-(IntKind.wrap .u64 n6)))<0)) none (
 cond (decide ((IntKind.wrap .u64 n6)<0)) none (
 cond (decide ((ishr .u64 (ishl .u64 a3 (IntKind.wrap .u64 n6)) 32)=0)) none (
 go (.pt kbu kkr [(2,.int .u64 (ishl .u64 a3 (IntKind.wrap .u64 n6))),(8,.int .u64 (IntKind.wrap .u64 n6)),(9,.int .u64 (ishr .u64 (ishl .u64 a3 (IntKind.wrap .u64 n6)) 32)),(10,.int .u64 (iand .u64 (ishl .u64 a3 (IntKind.wrap .u64 n6)) 4294967295)),(11,.int .u64 (ior .u64 (ishl .u64 a1 (IntKind.wrap .u64 n6)) (ishr .u64 a2 (IntKind.wrap .u64 (64-(IntKind.wrap .u64 n6)))))),(13,.int .u64 (ishr .u64 (ishl .u64 a2 (IntKind.wrap .u64 n6)) 32)),(14,.int .u64 (iand .u64 (ishl .u64 a2 (IntKind.wrap .u64 n6)) 4294967295)),(15,.int .u64 (IntKind.wrap .u64 (Int.tdiv (ior .u64 (ishl .u64 a1 (IntKind.wrap .u64 n6)) (ishr .u64 a2 (IntKind.wrap .u64 (64-(IntKind.wrap .u64 n6))))) (ishr .u64 (ishl .u64 a3 (IntKind.wrap .u64 n6)) 32)))),(16,.int .u64 (IntKind.wrap .u64 ((ior .u64 (ishl .u64 a1 (IntKind.wrap .u64 n6)) (ishr .u64 a2 (IntKind.wrap .u64 (64-(IntKind.wrap .u64 n6)))))-(IntKind.wrap .u64 ((IntKind.wrap .u64 (Int.tdiv (ior .u64 (ishl .u64 a1 (IntKind.wrap .u64 n6)) (ishr .u64 a2 (IntKind.wrap .u64 (64-(IntKind.wrap .u64 n6))))) (ishr .u64 (ishl .u64 a3 (IntKind.wrap .u64 n6)) 32)))*(ishr .u64 (ishl .u64 a3 (IntKind.wrap .u64 n6)) 32))))))]) q5.2))))))):=(kf _ h).trans (by kernel_rfl)
theorem k40(a1 a2 a3 a4 a5:Int)(h:AH):go (.pt keo kkm [(2,.int .u64 a1),(3,.int .u64 a2),(4,.int .u64 a3),(11,.int .u64 a4),(12,.int .u64 a5)]) h =
 (go (.fn klp [.int .u64 a4,.int .u64 a3]) h).bind fun q6 =>
 (AV.asTup2 q6.1).bind fun p7 =>
 ((some p7.1).bind (AV.asInt .u64)).bind fun n8 =>
 ((some p7.2).bind (AV.asInt .u64)).bind fun n9 =>
 cond (decide (n8<a5)) (
 some (.int .u64 a4,q6.2)) (
 cond (decide (n8=a5)) (
 cond (decide (n9≤a1)) (
 some (.int .u64 a4,q6.2)) (
 cond (decide ((IntKind.wrap .u64 (a5+a2))<a5)) (
 some (.int .u64 (IntKind.wrap .u64 (a4-1)),q6.2)) (
 go (.pt keo kkm [(2,.int .u64 a1),(3,.int .u64 a2),(4,.int .u64 a3),(11,.int .u64 (IntKind.wrap .u64 (a4-1))),(12,.int .u64 (IntKind.wrap .u64 (a5+a2)))]) q6.2))) (
 cond (decide ((IntKind.wrap .u64 (a5+a2))<a5)) (
 some (.int .u64 (IntKind.wrap .u64 (a4-1)),q6.2)) (
 go (.pt keo kkm [(2,.int .u64 a1),(3,.int .u64 a2),(4,.int .u64 a3),(11,.int .u64 (IntKind.wrap .u64 (a4-1))),(12,.int .u64 (IntKind.wrap .u64 (a5+a2)))]) q6.2))):=(kf _ h).trans (by kernel_rfl)
theorem k8i(a1:Bool)(a2:Sl)(h:AH):go (.fn kq5 [.agg [.bool a1,a2.v]]) h =
 newK h (.cells [.bool a1,a2.v] ki) fun h3r h3 =>
 newK h3 (.cells [.bool false,(⟨none,0,.is 0⟩:Sl).v] ki) fun h4r h4 =>
 ((h4.cell (h3r.add 0)).bind AV.asBool).bind fun b5 =>
 ((h4.cell (h3r.add 1)).bind AV.asSl).bind fun l6 =>
 (go (.fn kfr [.agg [.bool b5,l6.v]]) h4).bind fun q7 =>
 ((some q7.1).bind AV.asBool).bind fun b8 =>
 cond (!b8) (
 (q7.2.puts h4r [.bool false,(⟨none,0,.is 0⟩:Sl).v]).bind fun h9 =>
 ((h9.cell (h4r.add 0)).bind AV.asBool).bind fun b10 =>
 ((h9.cell (h4r.add 1)).bind AV.asSl).bind fun l11 =>
 some (.agg [.bool b10,l11.v],h9)) (
 ((q7.2.cell (h3r.add 0)).bind AV.asBool).bind fun b12 =>
 ((q7.2.cell (h3r.add 1)).bind AV.asSl).bind fun l13 =>
 (go (.fn kb4 [.bool (!b12),l13.v]) q7.2).bind fun q14 =>
 (AV.asAgg q14.1).bind fun cs15 =>
 cond (Nat.beq cs15.length 2) (
 ((cs15[0]?).bind AV.asBool).bind fun b16 =>
 ((cs15[1]?).bind AV.asSl).bind fun l17 =>
 (q14.2.puts h4r [.bool b16,l17.v]).bind fun h18 =>
 ((h18.cell (h4r.add 0)).bind AV.asBool).bind fun b19 =>
 ((h18.cell (h4r.add 1)).bind AV.asSl).bind fun l20 =>
 some (.agg [.bool b19,l20.v],h18)) none):=(kf _ h).trans (by kernel_rfl)
theorem k6c(a1:Sl)(h:AH):go (.fn khi [a1.v,.func (.func kdp) [] []]) h =
 go (.pt khi kmd [(0,a1.v),(1,.func (.func kdp) [] []),(7,.int .i64 (a1.len:Int)),(8,.int .i64 0)]) h:=(kf _ h).trans (by kernel_rfl)
theorem kwq(a1:Sl)(a2 a3:Int)(h:AH):go (.pt kin knb [(0,a1.v),(1,.func (.func kdr) [] []),(7,.int .i64 a2),(8,.int .i64 a3)]) h =
 cond (decide (a3<a2)) (
 (idx a1.ref a1.len a3 2).bind fun r4 =>
 ((h.cell (r4.add 0)).bind AV.asBool).bind fun b5 =>
 ((h.cell (r4.add 1)).bind AV.asSl).bind fun l6 =>
 (go (.fn kdr [.agg [.bool b5,l6.v]]) h).bind fun q7 =>
 ((some q7.1).bind AV.asBool).bind fun b8 =>
 cond b8 (
 some (.int .i64 a3,q7.2)) (
 go (.pt kin knb [(0,a1.v),(1,.func (.func kdr) [] []),(7,.int .i64 a2),(8,.int .i64 (IntKind.wrap .i64 (a3+1)))]) q7.2)) (
 some (.int .i64 (-1),h)):=(kf _ h).trans (by kernel_rfl)
theorem k9z(a1:Sl)(a2:Option Ref)(h:AH):go (.fn kdg [a1.v,.func (.func kdh) [] [.ptr a2]]) h =
 (go (.fn kbn [a1.v,.func (.func kdh) [] [.ptr a2]]) h).bind fun q3 =>
 ((some q3.1).bind (AV.asInt .i64)).bind fun n4 =>
 some (.bool (decide (n4≥0)),q3.2):=(kf _ h).trans (by kernel_rfl)
theorem kx9(a1 a2:Ref)(a3:Sl)(a4 a5:Int)(h:AH):go (.pt kgv km7 [(4,.ptr (some a1)),(6,.ptr (some a2)),(23,a3.v),(24,.int .i64 a4),(25,.int .i64 a5)]) h =
 cond (decide (a5<a4)) (
 (idx a3.ref a3.len a5 1).bind fun r6 =>
 ((h.cell r6).bind (AV.asInt .i64)).bind fun n7 =>
 ((h.cell (a2.add 1)).bind AV.asSl).bind fun l8 =>
 (idx l8.ref l8.len (IntKind.wrap .i64 (Int.tdiv n7 64)) 1).bind fun r9 =>
 ((h.cell r9).bind (AV.asInt .u64)).bind fun n10 =>
 cond (decide ((Int.tmod n7 64)<0)) none (
 (idx l8.ref l8.len (IntKind.wrap .i64 (Int.tdiv n7 64)) 1).bind fun r11 =>
 (h.puts r11 [.int .u64 (ior .u64 n10 (ishl .u64 1 (Int.tmod n7 64)))]).bind fun h12 =>
 go (.pt kgv km7 [(4,.ptr (some a1)),(6,.ptr (some a2)),(23,a3.v),(24,.int .i64 a4),(25,.int .i64 (IntKind.wrap .i64 (a5+1)))]) h12)) (
 ((h.cell (a2.add 0)).bind (AV.asInt .i64)).bind fun n13 =>
 ((h.cell (a2.add 1)).bind AV.asSl).bind fun l14 =>
 (h.puts a1 [.int .i64 n13,l14.v]).bind fun h15 =>
 ((h15.cell (a1.add 0)).bind (AV.asInt .i64)).bind fun n16 =>
 ((h15.cell (a1.add 1)).bind AV.asSl).bind fun l17 =>
 some (.tup [.agg [.int .i64 n16,l17.v],.int .i64 0],h15)):=(kf _ h).trans (by kernel_rfl)
theorem k30(a1 a2:Int)(h:AH):go (.fn kew [.int .u64 a1,.int .u64 a2]) h =
 some (.int .u64 (iand .u64 a1 a2),h):=(kf _ h).trans (by kernel_rfl)
theorem k3l(a1:Sl)(h:AH):go (.fn kdx [a1.v]) h =
 (go (.fn kd0 [a1.v]) h).bind fun q2 =>
 ((some q2.1).bind AV.asBool).bind fun b3 =>
 some (.bool (!b3),q2.2):=(kf _ h).trans (by kernel_rfl)
theorem k7u(a1 a2 a3 a4 a5 a6 a7 a8 a9:Int)(h:AH):go (.pt kbu kkr [(2,.int .u64 a1),(8,.int .u64 a2),(9,.int .u64 a3),(10,.int .u64 a4),(11,.int .u64 a5),(13,.int .u64 a6),(14,.int .u64 a7),(15,.int .u64 a8),(16,.int .u64 a9)]) h =
 cond (decide (a8≥4294967296)) (
 cond (decide ((IntKind.wrap .u64 (a9+a3))≥4294967296)) (
 cond (decide (a3=0)) none (
 go (.pt kbu kg2 [(2,.int .u64 a1),(8,.int .u64 a2),(9,.int .u64 a3),(10,.int .u64 a4),(14,.int .u64 a7),(15,.int .u64 (IntKind.wrap .u64 (a8-1))),(16,.int .u64 (IntKind.wrap .u64 ((IntKind.wrap .u64 ((IntKind.wrap .u64 ((IntKind.wrap .u64 (a5*4294967296))+a6))-(IntKind.wrap .u64 ((IntKind.wrap .u64 (a8-1))*a1))))-(IntKind.wrap .u64 ((IntKind.wrap .u64 (Int.tdiv (IntKind.wrap .u64 ((IntKind.wrap .u64 ((IntKind.wrap .u64 (a5*4294967296))+a6))-(IntKind.wrap .u64 ((IntKind.wrap .u64 (a8-1))*a1)))) a3))*a3))))),(17,.int .u64 (IntKind.wrap .u64 ((IntKind.wrap .u64 ((IntKind.wrap .u64 (a5*4294967296))+a6))-(IntKind.wrap .u64 ((IntKind.wrap .u64 (a8-1))*a1))))),(18,.int .u64 (IntKind.wrap .u64 (Int.tdiv (IntKind.wrap .u64 ((IntKind.wrap .u64 ((IntKind.wrap .u64 (a5*4294967296))+a6))-(IntKind.wrap .u64 ((IntKind.wrap .u64 (a8-1))*a1)))) a3)))]) h)) (
 go (.pt kbu kkr [(2,.int .u64 a1),(8,.int .u64 a2),(9,.int .u64 a3),(10,.int .u64 a4),(11,.int .u64 a5),(13,.int .u64 a6),(14,.int .u64 a7),(15,.int .u64 (IntKind.wrap .u64 (a8-1))),(16,.int .u64 (IntKind.wrap .u64 (a9+a3)))]) h)) (
 cond (decide ((IntKind.wrap .u64 (a8*a4))>(IntKind.wrap .u64 ((IntKind.wrap .u64 (4294967296*a9))+a6)))) (
 cond (decide ((IntKind.wrap .u64 (a9+a3))≥4294967296)) (
 cond (decide (a3=0)) none (
 go (.pt kbu kg2 [(2,.int .u64 a1),(8,.int .u64 a2),(9,.int .u64 a3),(10,.int .u64 a4),(14,.int .u64 a7),(15,.int .u64 (IntKind.wrap .u64 (a8-1))),(16,.int .u64 (IntKind.wrap .u64 ((IntKind.wrap .u64 ((IntKind.wrap .u64 ((IntKind.wrap .u64 (a5*4294967296))+a6))-(IntKind.wrap .u64 ((IntKind.wrap .u64 (a8-1))*a1))))-(IntKind.wrap .u64 ((IntKind.wrap .u64 (Int.tdiv (IntKind.wrap .u64 ((IntKind.wrap .u64 ((IntKind.wrap .u64 (a5*4294967296))+a6))-(IntKind.wrap .u64 ((IntKind.wrap .u64 (a8-1))*a1)))) a3))*a3))))),(17,.int .u64 (IntKind.wrap .u64 ((IntKind.wrap .u64 ((IntKind.wrap .u64 (a5*4294967296))+a6))-(IntKind.wrap .u64 ((IntKind.wrap .u64 (a8-1))*a1))))),(18,.int .u64 (IntKind.wrap .u64 (Int.tdiv (IntKind.wrap .u64 ((IntKind.wrap .u64 ((IntKind.wrap .u64 (a5*4294967296))+a6))-(IntKind.wrap .u64 ((IntKind.wrap .u64 (a8-1))*a1)))) a3)))]) h)) (
 go (.pt kbu kkr [(2,.int .u64 a1),(8,.int .u64 a2),(9,.int .u64 a3),(10,.int .u64 a4),(11,.int .u64 a5),(13,.int .u64 a6),(14,.int .u64 a7),(15,.int .u64 (IntKind.wrap .u64 (a8-1))),(16,.int .u64 (IntKind.wrap .u64 (a9+a3)))]) h)) (
 cond (decide (a3=0)) none (
 go (.pt kbu kg2 [(2,.int .u64 a1),(8,.int .u64 a2),(9,.int .u64 a3),(10,.int .u64 a4),(14,.int .u64 a7),(15,.int .u64 a8),(16,.int .u64 (IntKind.wrap .u64 ((IntKind.wrap .u64 ((IntKind.wrap .u64 ((IntKind.wrap .u64 (a5*4294967296))+a6))-(IntKind.wrap .u64 (a8*a1))))-(IntKind.wrap .u64 ((IntKind.wrap .u64 (Int.tdiv (IntKind.wrap .u64 ((IntKind.wrap .u64 ((IntKind.wrap .u64 (a5*4294967296))+a6))-(IntKind.wrap .u64 (a8*a1)))) a3))*a3))))),(17,.int .u64 (IntKind.wrap .u64 ((IntKind.wrap .u64 ((IntKind.wrap .u64 (a5*4294967296))+a6))-(IntKind.wrap .u64 (a8*a1))))),(18,.int .u64 (IntKind.wrap .u64 (Int.tdiv (IntKind.wrap .u64 ((IntKind.wrap .u64 ((IntKind.wrap .u64 (a5*4294967296))+a6))-(IntKind.wrap .u64 (a8*a1)))) a3)))]) h))):=(kf _ h).trans (by kernel_rfl)
theorem kwr(a1:Sl)(a2 a3:Int)(h:AH):go (.pt khi kmd [(0,a1.v),(1,.func (.func kdp) [] []),(7,.int .i64 a2),(8,.int .i64 a3)]) h =
 cond (decide (a3<a2)) (
 (idx a1.ref a1.len a3 3).bind fun r4 =>
 ((h.cell (r4.add 0)).bind AV.asBool).bind fun b5 =>
 ((h.cell (r4.add 1)).bind AV.asSl).bind fun l6 =>
 ((h.cell (r4.add 2)).bind AV.asSl).bind fun l7 =>
 (go (.fn kdp [.agg [.bool b5,l6.v,l7.v]]) h).bind fun q8 =>
 ((some q8.1).bind AV.asBool).bind fun b9 =>
 cond b9 (
 some (.int .i64 a3,q8.2)) (
 go (.pt khi kmd [(0,a1.v),(1,.func (.func kdp) [] []),(7,.int .i64 a2),(8,.int .i64 (IntKind.wrap .i64 (a3+1)))]) q8.2)) (
 some (.int .i64 (-1),h)):=(kf _ h).trans (by kernel_rfl)
theorem kbbf(a1:Bool)(a2:Sl)(h:AH):go (.fn kdr [.agg [.bool a1,a2.v]]) h =
 newK h (.cells [.bool a1,a2.v] ki) fun h3r h3 =>
 ((h3.cell (h3r.add 0)).bind AV.asBool).bind fun b4 =>
 ((h3.cell (h3r.add 1)).bind AV.asSl).bind fun l5 =>
 (go (.fn kfr [.agg [.bool b4,l5.v]]) h3).bind fun q6 =>
 ((some q6.1).bind AV.asBool).bind fun b7 =>
 some (.bool (!b7),q6.2):=(kf _ h).trans (by kernel_rfl)
theorem k9b(a1:Sl)(a2:Option Ref)(h:AH):go (.fn kbn [a1.v,.func (.func kdh) [] [.ptr a2]]) h =
 go (.pt kbn kcg [(0,a1.v),(1,.func (.func kdh) [] [.ptr a2]),(7,.int .i64 (a1.len:Int)),(8,.int .i64 0)]) h:=(kf _ h).trans (by kernel_rfl)
theorem kyx(a1 a2 a3 a4 a5 a6 a7 a8 a9:Int)(h:AH):go (.pt kbu kg2 [(2,.int .u64 a1),(8,.int .u64 a2),(9,.int .u64 a3),(10,.int .u64 a4),(14,.int .u64 a5),(15,.int .u64 a6),(16,.int .u64 a7),(17,.int .u64 a8),(18,.int .u64 a9)]) h =
 cond (decide (a9≥4294967296)) (
 cond (decide ((IntKind.wrap .u64 (a7+a3))≥4294967296)) (
 cond (decide (a2<0)) none (
 some (.tup [.int .u64 (IntKind.wrap .u64 ((IntKind.wrap .u64 (a6*4294967296))+(IntKind.wrap .u64 (a9-1)))),.int .u64 (ishr .u64 (IntKind.wrap .u64 ((IntKind.wrap .u64 ((IntKind.wrap .u64 (a8*4294967296))+a5))-(IntKind.wrap .u64 ((IntKind.wrap .u64 (a9-1))*a1)))) a2)],h))) (
 go (.pt kbu kg2 [(2,.int .u64 a1),(8,.int .u64 a2),(9,.int .u64 a3),(10,.int .u64 a4),(14,.int .u64 a5),(15,.int .u64 a6),(16,.int .u64 (IntKind.wrap .u64 (a7+a3))),(17,.int .u64 a8),(18,.int .u64 (IntKind.wrap .u64 (a9-1)))]) h)) (
 cond (decide ((IntKind.wrap .u64 (a9*a4))>(IntKind.wrap .u64 ((IntKind.wrap .u64 (4294967296*a7))+a5)))) (
 cond (decide ((IntKind.wrap .u64 (a7+a3))≥4294967296)) (
 cond (decide (a2<0)) none (
 some (.tup [.int .u64 (IntKind.wrap .u64 ((IntKind.wrap .u64 (a6*4294967296))+(IntKind.wrap .u64 (a9-1)))),.int .u64 (ishr .u64 (IntKind.wrap .u64 ((IntKind.wrap .u64 ((IntKind.wrap .u64 (a8*4294967296))+a5))-(IntKind.wrap .u64 ((IntKind.wrap .u64 (a9-1))*a1)))) a2)],h))) (
 go (.pt kbu kg2 [(2,.int .u64 a1),(8,.int .u64 a2),(9,.int .u64 a3),(10,.int .u64 a4),(14,.int .u64 a5),(15,.int .u64 a6),(16,.int .u64 (IntKind.wrap .u64 (a7+a3))),(17,.int .u64 a8),(18,.int .u64 (IntKind.wrap .u64 (a9-1)))]) h)) (
 cond (decide (a2<0)) none (
 some (.tup [.int .u64 (IntKind.wrap .u64 ((IntKind.wrap .u64 (a6*4294967296))+a9)),.int .u64 (ishr .u64 (IntKind.wrap .u64 ((IntKind.wrap .u64 ((IntKind.wrap .u64 (a8*4294967296))+a5))-(IntKind.wrap .u64 (a9*a1)))) a2)],h)))):=(kf _ h).trans (by kernel_rfl)
theorem kbd9(a1:Bool)(a2 a3:Sl)(h:AH):go (.fn kdp [.agg [.bool a1,a2.v,a3.v]]) h =
 newK h (.cells [.bool a1,a2.v,a3.v] kba) fun h4r h4 =>
 ((h4.cell (h4r.add 0)).bind AV.asBool).bind fun b5 =>
 ((h4.cell (h4r.add 1)).bind AV.asSl).bind fun l6 =>
 ((h4.cell (h4r.add 2)).bind AV.asSl).bind fun l7 =>
 (go (.fn ko5 [.agg [.bool b5,l6.v,l7.v]]) h4).bind fun q8 =>
 ((some q8.1).bind AV.asBool).bind fun b9 =>
 some (.bool (!b9),q8.2):=(kf _ h).trans (by kernel_rfl)
theorem kso(a1:Sl)(a2:Option Ref)(a3 a4:Int)(h:AH):go (.pt kbn kcg [(0,a1.v),(1,.func (.func kdh) [] [.ptr a2]),(7,.int .i64 a3),(8,.int .i64 a4)]) h =
 cond (decide (a4<a3)) (
 (idx a1.ref a1.len a4 1).bind fun r5 =>
 ((h.cell r5).bind (AV.asInt .i64)).bind fun n6 =>
 (go (.fn kdh [.int .i64 n6,.ptr a2]) h).bind fun q7 =>
 ((some q7.1).bind AV.asBool).bind fun b8 =>
 cond b8 (
 some (.int .i64 a4,q7.2)) (
 go (.pt kbn kcg [(0,a1.v),(1,.func (.func kdh) [] [.ptr a2]),(7,.int .i64 a3),(8,.int .i64 (IntKind.wrap .i64 (a4+1)))]) q7.2)) (
 some (.int .i64 (-1),h)):=(kf _ h).trans (by kernel_rfl)
theorem kba2(a1:Bool)(a2 a3:Sl)(h:AH):go (.fn ko5 [.agg [.bool a1,a2.v,a3.v]]) h =
 newK h (.cells [.bool a1,a2.v,a3.v] kba) fun h4r h4 =>
 ((h4.cell ((h4r.add 0).add 0)).bind AV.asBool).bind fun b5 =>
 ((h4.cell ((h4r.add 0).add 1)).bind AV.asSl).bind fun l6 =>
 (go (.fn kfr [.agg [.bool b5,l6.v]]) h4).bind fun q7 =>
 ((some q7.1).bind AV.asBool).bind fun b8 =>
 cond (!b8) (
 some (.bool false,q7.2)) (
 ((q7.2.cell (h4r.add 2)).bind AV.asSl).bind fun l9 =>
 (go (.fn kd0 [l9.v]) q7.2).bind fun q10 =>
 ((some q10.1).bind AV.asBool).bind fun b11 =>
 cond (!b11) (
 some (.bool false,q10.2)) (
 ((q10.2.cell (h4r.add 2)).bind AV.asSl).bind fun l12 =>
 cond (decide ((l12.len:Int)=0)) (
 some (.bool false,q10.2)) (
 ((q10.2.cell (h4r.add 2)).bind AV.asSl).bind fun l13 =>
 cond (decide ((l13.len:Int)>16)) (
 some (.bool false,q10.2)) (
 ((q10.2.cell ((h4r.add 0).add 1)).bind AV.asSl).bind fun l14 =>
 cond (decide ((l14.len:Int)>16)) (
 some (.bool false,q10.2)) (
 ((q10.2.cell ((h4r.add 0).add 1)).bind AV.asSl).bind fun l15 =>
 ((q10.2.cell (h4r.add 2)).bind AV.asSl).bind fun l16 =>
 (go (.fn kes [l15.v,l16.v]) q10.2).bind fun q17 =>
 (AV.asTup2 q17.1).bind fun p18 =>
 ((some p18.1).bind AV.asSl).bind fun l19 =>
 ((some p18.2).bind (AV.asInt .i64)).bind fun n20 =>
 newK q17.2 (.cells [.int .u64 1] kq) fun h21r h21 =>
 (go (.fn khr [l19.v,(⟨some h21r,1,.is 1⟩:Sl).v]) h21).bind fun q22 =>
 ((some q22.1).bind (AV.asInt .i64)).bind fun n23 =>
 some (.bool (decide (n23=0)),q22.2)))))):=(kf _ h).trans (by kernel_rfl)
theorem k7t(a1:Int)(a2:Option Ref)(h:AH):go (.fn kdh [.int .i64 a1,.ptr a2]) h =
 cond (decide (a1<0)) (
 some (.bool true,h)) (
 a2.bind fun r3 =>
 ((h.cell r3).bind (AV.asInt .i64)).bind fun n4 =>
 some (.bool (decide (a1≥n4)),h)):=(kf _ h).trans (by kernel_rfl)
end Go.Ab
set_option maxRecDepth 10000
namespace Go.Ab
open Go.Proofs Go.Num
@[reducible] def B:Nat:=18446744073709551616
theorem B2:2≤B:=by decide
def rt(xs:List Nat):Bool:=decide (xs.length≤64)&&(decide (xs.length=0)||!decide (xs.getD (xs.length-1) 0=0))
theorem kcj{xs:List Nat}{i:Nat}(h:i<xs.length):xs.getD i 0=xs[i]:=by simp[List.getD,h]
theorem rt_iff{xs:List Nat}:rt xs=true↔xs.length≤64∧Trim xs:=by
 unfold rt Trim;simp only[Bool.and_eq_true,decide_eq_true_eq,Bool.or_eq_true,Bool.not_eq_true',decide_eq_false_iff_not,List.length_eq_zero_iff];refine and_congr_right fun _=>?_;constructor
 ·rintro (h | h) hne
  ·exact absurd h hne
  ·rwa[List.getLast_eq_getElem,← kcj]
 ·intro h;by_cases he:xs=[]
  ·exact .inl he
  ·right
   have:=h he;rwa[List.getLast_eq_getElem,← kcj]at this
theorem Nats.last{h:AH}{s:Sl}{xs:List Nat}(n:Nats h s xs)(hx:xs.length≠0):∃r,idx s.ref s.len (IntKind.wrap .i64 ((s.len:Int)-1)) 1=some r∧h.cell r=some (.int .u64 ((xs.getD (xs.length-1) 0:Nat):Int)):=by
 obtain⟨k,hk⟩:∃k,xs.length=k+1:=⟨xs.length-1,by omega⟩;have hs:=n.short;obtain⟨r,e1,e2⟩:=n.at (i:=k) (by omega);rw[n.len,hk]at e1⊢;rw[kqq (by omega)];refine⟨r,e1,?_⟩;rw[e2,show k+1-1=k from rfl,kcj (by omega)]
theorem kfa{h:AH}{s:Sl}{xs:List Nat}(n:Nats h s xs):go (.fn kd0 [s.v]) h=some (.bool (rt xs),h):=by
 rw[kbc9];have hl:=n.len;refine kkw (fun h1=>?_) (fun h1=>?_)
 ·have h1:xs.length≤64:=by rw[decide_eq_true_eq]at h1;omega
  refine kkw (fun h2=>?_) (fun h2=>?_)
  ·have h2:xs.length=0:=by rw[decide_eq_true_eq]at h2;omega
   simp[rt,h2]
  ·have h2:xs.length≠0:=by rw[decide_eq_false_iff_not]at h2;omega
   obtain⟨r,e1,e2⟩:=n.last h2;simp[e1,e2,rt,h1];cases xs
   ·simp at h2
   ·simp
 ·have h1:¬xs.length≤64:=by rw[decide_eq_false_iff_not]at h1;omega
  simp[rt,h1]
theorem kvu{h:AH}{s:Sl}{xs:List Nat}(n:Nats h s xs):∀(k:Nat),k≤xs.length→(∀i,k≤i→(hi:i<xs.length)→xs[i]=0)→
  ∃s',go (.pt kbo kjj [(0,s.v),(3,.int .i64 (k:Int))]) h=some (s'.v,h)∧Nats h s' (digs B (num B xs))∧∀h0,Own h0 s→Own h0 s'
 | 0,hk,hz=>by
  rw[kly];obtain⟨s',e1,e2,e3⟩:=n.cut (l:=0) (n:=0) (Nat.le_refl _) hk;have:=kxz B2 n.lt hz hk (.inl rfl);simp at e1;simp only[Int.natCast_zero,gt_iff_lt,Int.lt_irrefl,decide_false,cond_false,e1,Option.bind_some];refine⟨s',rfl,?_,e3⟩;rw[← this]
  simpa using e2
 | k+1,hk,hz=>by
  rw[kly];obtain⟨r,e1,e2⟩:=n.at (i:=k) (by omega);have hs:=n.short;rw[kqq (by omega)];rw[show(decide (((k+1:Nat):Int)>0))=true from by rw[decide_eq_true_eq];omega];simp only[cond_true,e1,e2,Option.bind_some,ke];by_cases hx:xs[k]=0
  ·rw[hx,show(decide (((0:Nat):Int)=0))=true from rfl,cond_true];refine kvu n k (by omega) fun i hi hil=>?_;rcases Nat.lt_or_ge k i with h1 | h1
   ·exact hz i (by omega) hil
   ·have:i=k:=by omega
    subst this;exact hx
  ·obtain⟨s',e3,e4,e5⟩:=n.cut (l:=0) (n:=k+1) (by omega) hk;have ht:=kxz B2 n.lt hz hk (.inr ⟨by omega,by simpa using hx⟩);rw[show(decide (((xs[k]:Nat):Int)=0))=false from by rw[decide_eq_false_iff_not];omega];simp only[cond_false];rw[show cutSl s 0 ((k+1:Nat):Int) 1=some s' from e3];refine⟨s',rfl,?_,e5⟩;rw[← ht]
   simpa using e4
theorem kc9{h:AH}{s:Sl}{xs:List Nat}(n:Nats h s xs):∃s',go (.fn kbo [s.v]) h=some (s'.v,h)∧Nats h s' (digs B (num B xs))∧∀h0,Own h0 s→Own h0 s':=by
 rw[kpl,n.len];exact kvu n xs.length (Nat.le_refl _) fun i h1 h2=>by omega
theorem kzl{n:Nat}(h:n≤8796093022208):growOk Pg n kq 1=true:=by
 unfold growOk;rw[k25,ket];have h1:n*8≤ks:=by simp only[ks];omega
 have h2:n≤ks:=by simp only[ks];omega
 simp[h1,h2]
theorem kju{h:AH}{s:Sl}{xs:List Nat}(n:Nats h s xs)(hl:xs.length≤8796093022208):∃s' h',go (.fn kg7 [s.v]) h=some (s'.v,h')∧Nats h' s' xs∧Grow h h'∧Own h s':=by
 rw[kbdh];cases hr:s.ref with
 | none =>
  have:xs=[]:=by
   cases xs with
   | nil=>rfl
   | cons x xs =>
    obtain⟨r,e1,_⟩:=n.cells.get 0 (u64 x) rfl;rw[hr]at e1;cases e1
  subst this;exact⟨_,_,rfl,Nats.nil h,Grow.refl h,Own.nil h⟩
 | some r =>
  simp only[Option.isNone_some,cond_false,kcp];have n1:=n.grow (Grow.push h (.cells [] kq));have c1:=n1.cells;rw[← k8w]at c1;rw[kou c1,n.len];simp only[Option.bind_some];have own:∀(m:Nat)(c:Cap),Own h ⟨some (.new h.blks.size 0),m,c⟩:=fun m c r hr=>by cases hr;exact⟨_,_,rfl,Nat.le_refl _⟩
  cases xs with
  | nil =>
   obtain⟨s',e1,e2,e3⟩:=kbcl (P:=Pg) (elem:=kq) (m:=1) (by omega) (Cells.of_has (n:=1) (m:=0) (AH.has_push h [] kq) rfl);simp only[List.map_nil,List.length_nil,e1,Option.bind_some,asSl_v];exact⟨s',_,rfl,⟨e2,by simp,by simp⟩,Grow.push _ _,e3 h (own 0 (.is 0))⟩
  | cons x xs =>
   rw[kh8 (c:=0) rfl (by simp) (kzl (by simpa using hl)) (Cells.of_has (n:=1) (m:=0) (AH.has_push h [] kq) rfl)];simp only[Option.bind_some,asSl_v];refine⟨_,_,rfl,⟨⟨rfl,by simp,fun i v hv=>⟨_,rfl,by rw[Ref.add_new,Nat.zero_add,AH.cell_push];exact hv⟩⟩,n.lt,n.short⟩,(Grow.push _ _).trans (Grow.push _ _),fun r hr=>?_⟩;cases hr;exact⟨_,_,rfl,by simp⟩
def fromI(neg:Bool)(xs:List Nat):Bool×List Nat:=if rt xs=true∧xs≠[]then(neg,xs)else(false,[])
@[reducible] def nilI:List AV:=[.bool false,(⟨none,0,.is 0⟩:Sl).v]
theorem kco{h:AH}{s:Sl}{xs:List Nat}(n:Nats h s xs)(neg:Bool):∃(s':Sl)(h':AH),go (.fn kb4 [.bool neg,s.v]) h=some (.agg [.bool (fromI neg xs).1,s'.v],h')∧Nats h' s' (fromI neg xs).2∧Grow h h'∧Own h s':=by
 rw[kbcq];simp only[kcp];have b0:=AH.has_push h nilI ki;have g0:=Grow.push h (.cells nilI ki);have n0:=n.grow g0;rw[kfa n0];simp only[Option.bind_some,kcf,Ref.add_new,Nat.zero_add];generalize h.push (.cells nilI ki)=h0 at *
 cases hrt:rt xs with
 | false =>
  rw[show fromI neg xs=(false,[])from by simp[fromI,hrt]];refine⟨⟨none,0,.is 0⟩,h0.upd h.blks.size nilI ki,?_,Nats.nil _,g0.upd (Nat.le_refl _) _ _,Own.nil h⟩;simp[b0.puts_all,AH.cell_upd b0]
 | true =>
  by_cases hx:xs=[]
  ·rw[show fromI neg xs=(false,[])from by simp[fromI,hx]];have:s.len=0:=by rw[n.len,hx];rfl
   refine⟨⟨none,0,.is 0⟩,h0.upd h.blks.size nilI ki,?_,Nats.nil _,g0.upd (Nat.le_refl _) _ _,Own.nil h⟩;simp[b0.puts_all,AH.cell_upd b0,this]
  ·rw[show fromI neg xs=(neg,xs)from by simp[fromI,hx,hrt]];have:s.len≠0:=by rw[n.len];simpa using hx
   have h64:=(rt_iff.1 hrt).1;obtain⟨s',h',e1,e2,e3,e4⟩:=kju n0 (by omega);have b1:=e3.has b0;refine⟨s',h'.upd h.blks.size [.bool neg,s'.v] ki,?_,?_,(g0.trans e3).upd (Nat.le_refl _) _ _,fun r hr=>?_⟩
   ·simp[e1,b1.puts_all,AH.cell_upd b1,this]
   ·exact e2.upd e4 b0.lt _ _
   ·exact e4.of_le g0 r hr
theorem kyb{h:AH}{x:Nat}(hx:x<B):∃(s':Sl)(h':AH),go (.fn kea [.int .u64 (x:Int)]) h=some (s'.v,h')∧Nats h' s' (digs B x)∧Grow h h'∧Own h s':=by
 rw[k79];simp only[kcp];have n0:Nats (h.push (.cells [u64 x] kq)) ⟨some (.new h.blks.size 0),1,.is 1⟩ [x]:=⟨Cells.of_has (AH.has_push h [u64 x] kq) rfl,by simpa using hx,by simp⟩;obtain⟨s',e1,e2,e3⟩:=kc9 n0;rw[e1];simp only[Option.bind_some,asSl_v];refine⟨s',_,rfl,by simpa[num]using e2,Grow.push _ _,e3 h fun r hr=>by cases hr;exact⟨_,_,rfl,Nat.le_refl _⟩⟩
def ofI(n:Int):Bool×List Nat:=fromI (decide (n<0)) (digs B n.natAbs)
theorem k55{h:AH}{n:Int}(h1:-9223372036854775808≤n)(h2:n≤9223372036854775807):∃(s':Sl)(h':AH),go (.fn kg1 [.int .i64 n]) h=some (.agg [.bool (ofI n).1,s'.v],h')∧Nats h' s' (ofI n).2∧Grow h h'∧Own h s':=by
 rw[k9l];simp only[kcp];have b0:=AH.has_push h nilI ki;have g0:=Grow.push h (.cells nilI ki);generalize h.push (.cells nilI ki)=h0 at *
 have key:∀(neg:Bool)(x:Nat),x<B→fromI neg (digs B x)=ofI n→∃(s':Sl)(h':AH),
   ((go (.fn kea [.int .u64 (x:Int)]) h0).bind fun q3 =>
    ((some q3.1).bind AV.asSl).bind fun l4 =>
    (go (.fn kb4 [.bool neg,l4.v]) q3.2).bind fun q5 =>
    (AV.asAgg q5.1).bind fun cs6 =>
    cond (Nat.beq cs6.length 2) (
    ((cs6[0]?).bind AV.asBool).bind fun b7 =>
    ((cs6[1]?).bind AV.asSl).bind fun l8 =>
    (q5.2.puts (.new h.blks.size 0) [.bool b7,l8.v]).bind fun h9 =>
    ((h9.cell ((Ref.new h.blks.size 0).add 0)).bind AV.asBool).bind fun b10 =>
    ((h9.cell ((Ref.new h.blks.size 0).add 1)).bind AV.asSl).bind fun l11 =>
    some (AV.agg [.bool b10,l11.v],h9)) none)=some (AV.agg [.bool (ofI n).1,s'.v],h')∧Nats h' s' (ofI n).2∧Grow h h'∧Own h s':=by
  intro neg x hx he;obtain⟨s1,hh1,e1,n1,g1,o1⟩:=kyb (h:=h0) hx;obtain⟨s2,hh2,e2,n2,g2,o2⟩:=kco n1 neg;rw[he]at e2 n2;have b2:=(g1.trans g2).has b0;refine⟨s2,hh2.upd h.blks.size [.bool (ofI n).1,s2.v] ki,?_,n2.upd o2 (g1.has b0).lt _ _,(g0.trans (g1.trans g2)).upd (Nat.le_refl _) _ _,o2.of_le (g0.trans g1)⟩;simp[e1,e2,b2.puts_all,AH.cell_upd b2]
 by_cases hn:n<0
 ·rw[show decide (n<0)=true from decide_eq_true hn,cond_true]
  have hx:IntKind.wrap .u64 (0-IntKind.wrap .u64 n)=((n.natAbs:Nat):Int):=by
   rw[wrapU,wrapU];omega
  rw[hx];exact key true n.natAbs (by show _<18446744073709551616;omega) (by simp[ofI,hn])
 ·rw[show decide (n<0)=false from decide_eq_false hn,cond_false]
  have hx:IntKind.wrap .u64 n=((n.natAbs:Nat):Int):=by
   rw[wrapU];omega
  rw[hx];exact key false n.natAbs (by show _<18446744073709551616;omega) (by simp[ofI,hn])
def rtI(neg:Bool)(xs:List Nat):Bool:=rt xs&&(!neg||decide (xs≠[]))
theorem kkt{h:AH}{s:Sl}{xs:List Nat}(n:Nats h s xs)(neg:Bool):∃h',go (.fn kfr [.agg [.bool neg,s.v]]) h=some (.bool (rtI neg xs),h')∧Grow h h':=by
 rw[k2h];simp only[kcp];have b0:=AH.has_push h [.bool neg,s.v] ki;have g0:=Grow.push h (.cells [.bool neg,s.v] ki);have n0:=n.grow g0;have hl:=n.len;generalize h.push (.cells [.bool neg,s.v] ki)=h0 at *
 refine⟨h0,?_,g0⟩;simp[b0.cell,kfa n0,rtI];cases rt xs<;>cases neg<;>simp[hl];cases xs<;>simp
structure Rows(h:AH)(s:Sl)(rows:List (Sl×List Nat)):Prop where
 cells:Cells h s 1 (rows.map fun p=>p.1.v)
 each:∀p∈rows,Nats h p.1 p.2
 short:rows.length≤9223372036854775807
theorem Rows.len{h:AH}{s:Sl}{rows:List (Sl×List Nat)}(n:Rows h s rows):s.len=rows.length:=by
 have:=n.cells.len
 simpa using this
theorem Rows.at{h:AH}{s:Sl}{rows:List (Sl×List Nat)}(n:Rows h s rows){i:Nat}(hi:i<rows.length):∃r,idx s.ref s.len (i:Int) 1=some r∧h.cell r=some (rows[i].1).v:=by
 obtain⟨r,e1,e2⟩:=n.cells.get i (rows[i].1).v (by simp[hi]);refine⟨r.add i,?_,e2⟩;rw[e1,kcy _ _ _ _ (by omega) (by rw[n.len];omega)];simp
theorem Rows.two{h:AH}{a b:Sl}{xs ys:List Nat}(n:Nats h a xs)(m:Nats h b ys):Rows (h.push (.cells [a.v,b.v] kch)) ⟨some (.new h.blks.size 0),2,.is 2⟩ [(a,xs),(b,ys)]:=by
 refine⟨Cells.of_has (AH.has_push _ _ _) rfl,fun p hp=>?_,by simp⟩;have g:=Grow.push h (.cells [a.v,b.v] kch);simp at hp;rcases hp with rfl | rfl
 ·exact n.grow g
 ·exact m.grow g
theorem kt2{b:Nat}(hb:1≤b){xs:List Nat}(hx:∀x∈xs,x<b){k:Nat}(hk:k≤xs.length):num b (xs.take k)<b^k:=by
 have:=num_lt (b:=b) hb (xs:=xs.take k) fun x h=>hx x (List.mem_of_mem_take h);rwa[List.length_take,Nat.min_eq_left hk]at this
theorem k1l{b:Nat}(hb:1≤b){xs ys:List Nat}(hx:∀x∈xs,x<b)(hy:∀x∈ys,x<b){k:Nat}(h1:k<xs.length)(h2:k<ys.length) :
  cmp (num b (xs.take (k+1))) (num b (ys.take (k+1)))=if xs[k]<ys[k]then -1 else if xs[k]=ys[k]then cmp (num b (xs.take k)) (num b (ys.take k))else 1:=by
 rw[kcv b h1,kcv b h2];exact k0v (kt2 hb hx (by omega)) (kt2 hb hy (by omega))
theorem k47{b:Nat}(hb:2≤b){xs ys:List Nat}(hx:∀x∈xs,x<b)(hy:∀x∈ys,x<b)(tx:Trim xs)(ty:Trim ys)(h:xs.length≠ys.length):cmp (num b xs) (num b ys)=if xs.length<ys.length then -1 else 1:=by
 rcases Nat.lt_or_ge xs.length ys.length with h1 | h1
 ·have:=kpc hb hx hy ty h1;simp[cmp,this,h1]
 ·have:=kpc hb hy hx tx (by omega);rw[if_neg (by omega)];unfold cmp;rw[if_neg (by omega),if_neg (by omega)]
theorem ku4{h:AH}{s t:Sl}{xs ys:List Nat}(n:Nats h s xs)(m:Nats h t ys)(hl:xs.length=ys.length):∀(k:Nat),k≤xs.length→
  go (.pt keg klg [(0,s.v),(1,t.v),(5,.int .i64 ((k:Int)-1))]) h=some (.int .i64 (cmp (num B (xs.take k)) (num B (ys.take k))),h)
 | 0,hk=>by
  rw[ksz];rfl
 | k+1,hk=>by
  have hs:=n.short;obtain⟨r,e1,e2⟩:=n.at (i:=k) (by omega);obtain⟨q,e3,e4⟩:=m.at (i:=k) (by omega);rw[ksz,show(((k+1:Nat):Int)-1)=(k:Int)from by omega,show decide ((k:Int)≥0)=true from by rw[decide_eq_true_eq];omega];simp only[cond_true,e1,e3,e2,e4,Option.bind_some,ke];rw[k1l (by decide) n.lt m.lt (by omega) (by omega),wrap64 (n:=(k:Int)-1) (by omega) (by omega),ku4 n m hl k (by omega)];by_cases h1:xs[k]=ys[k]'(by omega)
  ·rw[show decide (((xs[k]:Nat):Int)=((ys[k]'(by omega):Nat):Int))=true from by rw[decide_eq_true_eq];omega];simp[h1]
  ·rw[show decide (((xs[k]:Nat):Int)=((ys[k]'(by omega):Nat):Int))=false from by rw[decide_eq_false_iff_not];omega];by_cases h2:xs[k]<ys[k]'(by omega)
   ·rw[show decide (((xs[k]:Nat):Int)<((ys[k]'(by omega):Nat):Int))=true from by rw[decide_eq_true_eq];omega];simp[h2]
   ·rw[show decide (((xs[k]:Nat):Int)<((ys[k]'(by omega):Nat):Int))=false from by rw[decide_eq_false_iff_not];omega];simp[h1,h2]
theorem kl1{h:AH}{s t:Sl}{xs ys:List Nat}(n:Nats h s xs)(m:Nats h t ys)(tx:Trim xs)(ty:Trim ys):go (.fn keg [s.v,t.v]) h=some (.int .i64 (cmp (num B xs) (num B ys)),h):=by
 have hs:=n.short;have ht:=m.short;rw[k03,n.len,m.len];by_cases hl:xs.length=ys.length
 ·rw[show decide ((xs.length:Int)=(ys.length:Int))=true from by rw[decide_eq_true_eq];omega];simp only[Bool.not_true,cond_false];rw[wrap64 (by omega) (by omega),ku4 n m hl xs.length (Nat.le_refl _),List.take_length,hl,List.take_length]
 ·rw[show decide ((xs.length:Int)=(ys.length:Int))=false from by rw[decide_eq_false_iff_not];omega,k47 B2 n.lt m.lt tx ty hl];by_cases h1:xs.length<ys.length
  ·rw[show decide ((xs.length:Int)<(ys.length:Int))=true from by rw[decide_eq_true_eq];omega];simp[h1]
  ·rw[show decide ((xs.length:Int)<(ys.length:Int))=false from by rw[decide_eq_false_iff_not];omega];simp[h1]
@[reducible] def D:Nat:=65536
theorem kbc6{h:AH}{s:Sl}{xs:List Nat}(n:Nats h s xs):go (.fn kdx [s.v]) h=some (.bool (!rt xs),h):=by
 rw[k3l,kfa n];rfl
theorem kup{h:AH}{s:Sl}{rows:List (Sl×List Nat)}(n:Rows h s rows):∀(k i:Nat),i+k=rows.length→
  ∃j:Int,go (.pt khw kk8 [(0,s.v),(1,.func (.func kdx) [] []),(7,.int .i64 (rows.length:Int)),(8,.int .i64 (i:Int))]) h=some (.int .i64 j,h)∧
   (j≥0↔(rows.drop i).all (fun p=>rt p.2)=false)
 | 0,i,hi=>by
  rw[kti,show decide ((i:Int)<(rows.length:Int))=false from by rw[decide_eq_false_iff_not];omega,List.drop_of_length_le (by omega)];exact⟨-1,rfl,by simp⟩
 | k+1,i,hi=>by
  have hs:=n.short;obtain⟨r,e1,e2⟩:=n.at (i:=i) (by omega);have hp:=n.each rows[i] (List.getElem_mem _);rw[kti,show decide ((i:Int)<(rows.length:Int))=true from by rw[decide_eq_true_eq];omega,cond_true,e1];simp only[Option.bind_some,e2,asSl_v,kbc6 hp,kcf];rw[List.drop_eq_getElem_cons (by omega),List.all_cons,ko (by omega)];cases hr:rt (rows[i].2)with
  | false=>exact⟨(i:Int),rfl,by simp⟩
  | true =>
   obtain⟨j,e3,e4⟩:=kup n k (i+1) (by omega);exact⟨j,e3,by simpa using e4⟩
theorem kkp{h:AH}{s:Sl}{rows:List (Sl×List Nat)}(n:Rows h s rows):go (.fn kfw [s.v]) h=some (.bool (rows.all fun p=>rt p.2),h):=by
 obtain⟨j,e1,e2⟩:=kup n rows.length 0 (by omega);rw[k3z,k54,k88,n.len];rw[show(0:Int)=((0:Nat):Int)from rfl,e1];simp only[Option.bind_some,ke,kcf];rw[List.drop_zero]at e2;cases ha:rows.all fun p=>rt p.2 with
 | false=>rw[ha]at e2;simp at e2;simp;omega
 | true=>rw[ha]at e2;simp at e2;simp;omega
def cmpN(xs ys:List Nat):Int:=if rt xs=true∧rt ys=true then cmp (num B xs) (num B ys)else 0
theorem kmc{h:AH}{s t:Sl}{xs ys:List Nat}(n:Nats h s xs)(m:Nats h t ys):∃h',go (.fn khr [s.v,t.v]) h=some (.int .i64 (cmpN xs ys),h')∧Grow h h':=by
 rw[kbdo];simp only[kcp];have r:=Rows.two n m;have g:=Grow.push h (.cells [s.v,t.v] kch);generalize h.push (.cells [s.v,t.v] kch)=h0 at *
 refine⟨h0,?_,g⟩;rw[kkp r];simp only[Option.bind_some,kcf,List.all_cons,List.all_nil,Bool.and_true];cases hx:rt xs with
 | false=>simp[cmpN,hx]
 | true =>
  cases hy:rt ys with
  | false=>simp[cmpN,hy]
  | true =>
   simp only[Bool.and_self,Bool.not_true,cond_false];rw[kl1 (n.grow g) (m.grow g) (rt_iff.1 hx).2 (rt_iff.1 hy).2];simp[cmpN,hx,hy]
structure IRows(h:AH)(s:Sl)(rows:List (Bool×Sl×List Nat)):Prop where
 cells:Cells h s 2 (rows.flatMap fun p=>[.bool p.1,p.2.1.v])
 each:∀p∈rows,Nats h p.2.1 p.2.2
 short:rows.length≤9223372036854775807
theorem IRows.grow{h h':AH}(g:Grow h h'){s:Sl}{rows:List (Bool×Sl×List Nat)}(n:IRows h s rows):IRows h' s rows:=⟨n.cells.grow g,fun p hp=>(n.each p hp).grow g,n.short⟩
theorem kw9:∀(rows:List (Bool×Sl×List Nat))(i:Nat)(hi:i<rows.length),
  (rows.flatMap fun p=>[AV.bool p.1,p.2.1.v])[i*2]?=some (AV.bool rows[i].1)∧(rows.flatMap fun p=>[AV.bool p.1,p.2.1.v])[i*2+1]?=some rows[i].2.1.v
 | [],i,hi=>by simp at hi
 | p::rows,0,hi=>by simp
 | p::rows,i+1,hi=>by
  have:=kw9 rows i (by simpa using hi);rw[show(i+1)*2=i*2+2 from by omega]
  simpa using this
theorem IRows.len{h:AH}{s:Sl}{rows:List (Bool×Sl×List Nat)}(n:IRows h s rows):s.len=rows.length:=by
 have:=n.cells.len
 have hl:(rows.flatMap fun p=>[AV.bool p.1,p.2.1.v]).length=rows.length*2:=by
  generalize rows=l
  induction l with
  | nil=>rfl
  | cons a l ih=>rw[List.flatMap_cons,List.length_append,ih];simp;omega
 omega
theorem IRows.at{h:AH}{s:Sl}{rows:List (Bool×Sl×List Nat)}(n:IRows h s rows){i:Nat}(hi:i<rows.length):∃r,idx s.ref s.len (i:Int) 2=some r∧h.cell (r.add 0)=some (.bool rows[i].1)∧h.cell (r.add 1)=some rows[i].2.1.v:=by
 obtain⟨p1,p2⟩:=kw9 rows i hi;obtain⟨r,e1,e2⟩:=n.cells.get _ _ p1;obtain⟨r',e3,e4⟩:=n.cells.get _ _ p2;rw[e1]at e3;cases e3;refine⟨r.add (i*2),?_,by simpa using e2,by rw[Ref.add_add];exact e4⟩;rw[e1,kcy _ _ _ _ (by omega) (by rw[n.len];omega)];simp
theorem k46{h:AH}{s:Sl}{xs:List Nat}(n:Nats h s xs)(neg:Bool):∃h',go (.fn kdr [.agg [.bool neg,s.v]]) h=some (.bool (!rtI neg xs),h')∧Grow h h':=by
 rw[kbbf];simp only[kcp];have b0:=AH.has_push h [.bool neg,s.v] ki;have g0:=Grow.push h (.cells [.bool neg,s.v] ki);generalize h.push (.cells [.bool neg,s.v] ki)=h0 at *
 obtain⟨h1,e1,g1⟩:=kkt (n.grow g0) neg;exact⟨h1,by simp[b0.cell,e1],g0.trans g1⟩
theorem kww{s:Sl}{rows:List (Bool×Sl×List Nat)}:∀(k i:Nat),i+k=rows.length→∀{h:AH},IRows h s rows→
  ∃(j:Int)(h':AH),go (.pt kin knb [(0,s.v),(1,.func (.func kdr) [] []),(7,.int .i64 (rows.length:Int)),(8,.int .i64 (i:Int))]) h=some (.int .i64 j,h')∧
   (j≥0↔(rows.drop i).all (fun p=>rtI p.1 p.2.2)=false)∧Grow h h'
 | 0,i,hi,h,n=>by
  rw[kwq,show decide ((i:Int)<(rows.length:Int))=false from by rw[decide_eq_false_iff_not];omega,List.drop_of_length_le (by omega)];exact⟨-1,h,rfl,by simp,Grow.refl h⟩
 | k+1,i,hi,h,n=>by
  have hs:=n.short;obtain⟨r,e1,e2,e3⟩:=n.at (i:=i) (by omega);have hp:=n.each rows[i] (List.getElem_mem _);obtain⟨h1,e4,g1⟩:=k46 hp rows[i].1;rw[kwq,show decide ((i:Int)<(rows.length:Int))=true from by rw[decide_eq_true_eq];omega,cond_true,e1];simp only[Option.bind_some,e2,e3,asSl_v,kcf,e4];rw[List.drop_eq_getElem_cons (by omega),List.all_cons,ko (by omega)];cases hr:rtI rows[i].1 (rows[i].2.2)with
  | false=>exact⟨(i:Int),h1,rfl,by simp,g1⟩
  | true =>
   obtain⟨j,h2,e5,e6,g2⟩:=kww k (i+1) (by omega) (n.grow g1);exact⟨j,h2,e5,by simpa using e6,g1.trans g2⟩
theorem kr8{h:AH}{s:Sl}{rows:List (Bool×Sl×List Nat)}(n:IRows h s rows):∃h',go (.fn kfm [s.v]) h=some (.bool (rows.all fun p=>rtI p.1 p.2.2),h')∧Grow h h':=by
 obtain⟨j,h',e1,e2,g⟩:=kww rows.length 0 (by omega) n;refine⟨h',?_,g⟩;rw[kbde,k4t,k1f,n.len];rw[show(0:Int)=((0:Nat):Int)from rfl,e1];simp only[Option.bind_some,ke,kcf];rw[List.drop_zero]at e2;cases ha:rows.all fun p=>rtI p.1 p.2.2 with
 | false=>rw[ha]at e2;simp at e2;simp;omega
 | true=>rw[ha]at e2;simp at e2;simp;omega
theorem IRows.two{h:AH}{a b:Sl}{xs ys:List Nat}(n:Nats h a xs)(m:Nats h b ys)(p q:Bool):IRows (h.push (.cells [.bool p,a.v,.bool q,b.v] ki)) ⟨some (.new h.blks.size 0),2,.is 2⟩ [(p,a,xs),(q,b,ys)]:=by
 refine⟨Cells.of_has (AH.has_push _ _ _) rfl,fun r hr=>?_,by simp⟩;have g:=Grow.push h (.cells [.bool p,a.v,.bool q,b.v] ki);simp at hr;rcases hr with rfl | rfl
 ·exact n.grow g
 ·exact m.grow g
def cmpI(p:Bool)(xs:List Nat)(q:Bool)(ys:List Nat):Int :=
 if rtI p xs=true∧rtI q ys=true then(if p=q then(if p=true then cmpN ys xs else cmpN xs ys)else if p=true then -1 else 1)else 0
theorem k8z{h:AH}{s t:Sl}{xs ys:List Nat}(n:Nats h s xs)(m:Nats h t ys)(p q:Bool):∃h',go (.fn kof [.agg [.bool p,s.v],.agg [.bool q,t.v]]) h=some (.int .i64 (cmpI p xs q ys),h')∧Grow h h':=by
 rw[k9k];simp only[kcp];have b0:=AH.has_push h [.bool p,s.v] ki;have g0:=Grow.push h (.cells [.bool p,s.v] ki);generalize h.push (.cells [.bool p,s.v] ki)=h0 at *
 have c1:=AH.has_push h0 [.bool q,t.v] ki;have g1:=Grow.push h0 (.cells [.bool q,t.v] ki);generalize h0.push (.cells [.bool q,t.v] ki)=h1 at *
 have b1:=g1.has b0;simp only[Ref.add_new,Nat.zero_add,b1.cell,c1.cell,List.getElem?_cons_zero,List.getElem?_cons_succ,Option.bind_some,kcf,asSl_v];have n1:=n.grow (g0.trans g1);have m1:=m.grow (g0.trans g1);have r2:=IRows.two n1 m1 p q;have g2:=Grow.push h1 (.cells [.bool p,s.v,.bool q,t.v] ki);generalize h1.push (.cells [.bool p,s.v,.bool q,t.v] ki)=h2 at *
 obtain⟨h3,e3,g3⟩:=kr8 r2;have g23:=g2.trans g3;have b3:=g23.has b1;have c3:=g23.has c1;have n3:=n1.grow g23;have m3:=m1.grow g23;have gg:=(g0.trans g1).trans g23;obtain⟨h4,e4,g4⟩:=kmc n3 m3;obtain⟨h5,e5,g5⟩:=kmc m3 n3;rw[e3];simp only[Option.bind_some,kcf,List.all_cons,List.all_nil,Bool.and_true,b3.cell,c3.cell,List.getElem?_cons_zero,List.getElem?_cons_succ,asSl_v,e4,e5,ke];cases hx:rtI p xs with
 | false=>exact⟨h3,by simp[cmpI,hx],gg⟩
 | true =>
  cases hy:rtI q ys with
  | false=>exact⟨h3,by simp[cmpI,hy],gg⟩
  | true =>
   cases p<;>cases q
   ·exact⟨h4,by simp[cmpI,hx,hy],gg.trans g4⟩
   ·exact⟨h3,by simp[cmpI,hx,hy],gg⟩
   ·exact⟨h3,by simp[cmpI,hx,hy],gg⟩
   ·exact⟨h5,by simp[cmpI,hx,hy],gg.trans g5⟩
def negI(neg:Bool)(xs:List Nat):Bool×List Nat:=if rtI neg xs=true then fromI (!neg) xs else(false,[])
theorem k63{h:AH}{s:Sl}{xs:List Nat}(n:Nats h s xs)(neg:Bool):∃(s':Sl)(h':AH),go (.fn kq5 [.agg [.bool neg,s.v]]) h=some (.agg [.bool (negI neg xs).1,s'.v],h')∧Nats h' s' (negI neg xs).2∧Grow h h'∧Own h s':=by
 rw[k8i];simp only[kcp];have b0:=AH.has_push h [.bool neg,s.v] ki;have g0:=Grow.push h (.cells [.bool neg,s.v] ki);generalize h.push (.cells [.bool neg,s.v] ki)=h0 at *
 have c1:=AH.has_push h0 nilI ki;have g1:=Grow.push h0 (.cells nilI ki);generalize h0.push (.cells nilI ki)=h1 at *
 have b1:=g1.has b0;have n1:=n.grow (g0.trans g1);obtain⟨h2,e2,g2⟩:=kkt n1 neg;have c2:=g2.has c1;have b2:=g2.has b1;have g02:=(g0.trans g1).trans g2;obtain⟨s3,h3,e3,n3,g3,o3⟩:=kco (n1.grow g2) (!neg);have c3:=g3.has c2;simp only[Ref.add_new,Nat.zero_add,b1.cell,b2.cell,List.getElem?_cons_zero,List.getElem?_cons_succ,Option.bind_some,kcf,asSl_v,e2];cases hr:rtI neg xs with
 | false =>
  rw[show negI neg xs=(false,[])from by simp[negI,hr]];refine⟨⟨none,0,.is 0⟩,h2.upd h0.blks.size nilI ki,?_,Nats.nil _,g02.upd g0.size _ _,Own.nil h⟩;simp[c2.puts_all,AH.cell_upd c2]
 | true =>
  rw[show negI neg xs=fromI (!neg) xs from by simp[negI,hr]];refine⟨s3,h3.upd h0.blks.size [.bool (fromI (!neg) xs).1,s3.v] ki,?_,n3.upd o3 c2.lt _ _,(g02.trans g3).upd g0.size _ _,o3.of_le g02⟩;simp[e3,c3.puts_all,AH.cell_upd c3]
theorem kjy(b:Nat)(ys:List Nat)(k:Nat):num b (ys.take (k+1))=num b (ys.take k)+b^k*ys.getD k 0:=by
 by_cases h:k<ys.length
 ·rw[kcv b h,kcj h]
 ·rw[List.take_of_length_le (by omega),List.take_of_length_le (by omega)];simp[List.getD,List.getElem?_eq_none (show ys.length≤k by omega)]
theorem ky7(zs:List Nat){i:Nat}(v:Nat)(h:i<zs.length):(zs.set i v).take (i+1)=zs.take i++[v]:=by
 apply List.ext_getElem?;intro j;rw[List.getElem?_take];by_cases hi:j<i
 ·rw[if_pos (by omega),List.getElem?_set_ne (by omega),List.getElem?_append_left (by simp;omega),List.getElem?_take,if_pos hi]
 ·by_cases hi2:j=i
  ·subst hi2;rw[if_pos (by omega),List.getElem?_set_self h,List.getElem?_append_right (by simp;omega)];simp[Nat.min_eq_left (show j≤zs.length by omega)]
  ·rw[if_neg (by omega),List.getElem?_eq_none (by simp;omega)]
theorem krb(b:Nat)(zs:List Nat){i:Nat}(v:Nat)(h:i<zs.length):num b ((zs.set i v).take (i+1))=num b (zs.take i)+b^i*v:=by
 rw[ky7 zs v h,kem];simp[num,Nat.min_eq_left (Nat.le_of_lt h)]
theorem kj5{h:AH}{j i:Nat}{zs:List Nat}(b:h.has j (zs.map u64) kq)(v:Nat)(hi:i<zs.length):h.puts (.new j i) [u64 v]=some (h.upd j ((zs.set i v).map u64) kq):=by
 simp only[AH.puts];rw[b.put (by simpa using hi)];simp[List.map_set]
theorem kt8{x y c:Nat}(hx:x<B)(hy:y<B)(hc:c≤1):prim "math/bits.Add64" [u64 x,u64 y,u64 c]=some (.tup [u64 ((x+y+c)%B),u64 ((x+y+c)/B)]):=by
 show cond (decide (0≤(x:Int)∧0≤(y:Int)∧0≤(c:Int)∧(c:Int)≤1)) (some (AV.tup [.int .u64 (((x:Int)+y+c)%18446744073709551616),.int .u64 (((x:Int)+y+c)/18446744073709551616)])) none=_;rw[show decide (0≤(x:Int)∧0≤(y:Int)∧0≤(c:Int)∧(c:Int)≤1)=true from by rw[decide_eq_true_eq];omega];rfl
theorem km5{xs:List Nat}(h:∀x∈xs,x<18446744073709551616)(i:Nat):xs.getD i 0<B:=by
 show _<18446744073709551616;by_cases hi:i<xs.length
 ·rw[kcj hi];exact h _ (List.getElem_mem _)
 ·simp[List.getD,List.getElem?_eq_none (show xs.length≤i by omega)]
theorem kv3{h:AH}{s t:Sl}{xs ys:List Nat}(n:Nats h s xs)(m:Nats h t ys)(hl:ys.length≤xs.length)(hs:xs.length<4611686018427387904){j:Nat}(hj:h.blks.size≤j) :
  ∀(k i:Nat),i+k=xs.length→∀{hi:AH}{zs:List Nat}{c:Nat},Grow h hi→hi.has j (zs.map u64) kq→zs.length=xs.length+1→(∀z∈zs,z<18446744073709551616)→c≤1→
   num B (zs.take i)+B^i*c=num B (xs.take i)+num B (ys.take i)→
   ∃(h':AH)(zs':List Nat),go (.pt kcw kfi [(0,s.v),(1,t.v),(5,Sl.v ⟨some (.new j 0),xs.length+1,.is (xs.length+1)⟩),(6,u64 c),(21,.int .i64 (xs.length:Int)),(22,.int .i64 (i:Int))]) hi =
    some (Sl.v ⟨some (.new j 0),xs.length+1,.is (xs.length+1)⟩,h')∧Grow h h'∧h'.has j (zs'.map u64) kq∧zs'.length=xs.length+1∧(∀z∈zs',z<18446744073709551616)∧num B zs'=num B xs+num B ys
 | 0,i,hik,hi,zs,c,g,b,hz,hlt,hc,inv=>by
  rw[kt5,show decide ((i:Int)<(xs.length:Int))=false from by rw[decide_eq_false_iff_not];omega,cond_false,n.len];rw[kcy _ _ _ _ (by omega) (by show(xs.length:Int)<((xs.length+1:Nat):Int);omega)];simp only[Option.bind_some,Int.toNat_natCast,Nat.mul_one,Ref.add_new,Nat.zero_add];rw[kj5 b c (by omega)];refine⟨_,zs.set xs.length c,rfl,g.upd hj _ _,AH.has_upd b _ _,by simpa using hz,fun z hzm=>?_,?_⟩
  ·rcases List.mem_or_eq_of_mem_set hzm with h1 | rfl
   ·exact hlt z h1
   ·omega
  ·have e:=krb B zs c (i:=xs.length) (by omega);rw[List.take_of_length_le (by simp;omega)]at e;have:i=xs.length:=by omega
   subst this;rw[e,inv,List.take_length,List.take_of_length_le hl]
 | k+1,i,hik,hi,zs,c,g,b,hz,hlt,hc,inv=>by
  have n':=n.grow g;have m':=m.grow g;obtain⟨r,e1,e2⟩:=n'.at (i:=i) (by omega);have hx:xs.getD i 0<B:=km5 n.lt i;have hy:ys.getD i 0<B:=km5 m.lt i
  have next:∃(h':AH)(zs':List Nat),go (.pt kcw kfi [(0,s.v),(1,t.v),(5,Sl.v ⟨some (.new j 0),xs.length+1,.is (xs.length+1)⟩),(6,u64 ((xs.getD i 0+ys.getD i 0+c)/B)),(21,.int .i64 (xs.length:Int)),(22,.int .i64 ((i+1:Nat):Int))]) (hi.upd j ((zs.set i ((xs.getD i 0+ys.getD i 0+c)%B)).map u64) kq) =
    some (Sl.v ⟨some (.new j 0),xs.length+1,.is (xs.length+1)⟩,h')∧Grow h h'∧h'.has j (zs'.map u64) kq∧zs'.length=xs.length+1∧(∀z∈zs',z<18446744073709551616)∧num B zs'=num B xs+num B ys:=by
   refine kv3 n m hl hs hj k (i+1) (by omega) (g.upd hj _ _) (AH.has_upd b _ _) (by simpa using hz) (fun z hzm=>?_) ?_ ?_
   ·rcases List.mem_or_eq_of_mem_set hzm with h1 | rfl
    ·exact hlt z h1
    ·exact Nat.mod_lt _ (by decide)
   ·have h1:xs.getD i 0<18446744073709551616:=hx;have h2:ys.getD i 0<18446744073709551616:=hy;show(xs.getD i 0+ys.getD i 0+c)/18446744073709551616≤1;omega
   ·rw[krb B zs _ (by omega),kjy B xs i,kjy B ys i];have e:=Nat.mod_add_div (xs.getD i 0+ys.getD i 0+c) B;generalize hq:(xs.getD i 0+ys.getD i 0+c)%B=q at *
    generalize hw:(xs.getD i 0+ys.getD i 0+c)/B=w at *
    rw[Nat.pow_succ,Nat.mul_assoc,Nat.add_assoc,← Nat.mul_add,e,Nat.mul_add,Nat.mul_add];omega
  rw[kt5,show decide ((i:Int)<(xs.length:Int))=true from by rw[decide_eq_true_eq];omega,cond_true,m.len,ko (by omega)]
  have put:idx (some (.new j 0)) (xs.length+1) (i:Int) 1=some (.new j i):=by
   rw[kcy _ _ _ _ (by omega) (by omega)];simp
  by_cases hi2:i<ys.length
  ·obtain⟨q,e3,e4⟩:=m'.at (i:=i) hi2;rw[show decide ((i:Int)<(ys.length:Int))=true from by rw[decide_eq_true_eq];omega,cond_true];rw[← m.len,e3,e1];simp only[Option.bind_some,e2,e4,ke];have ex:((xs[i]:Nat):Int)=((xs.getD i 0:Nat):Int):=by rw[kcj (by omega)]
   have ey:((ys[i]:Nat):Int)=((ys.getD i 0:Nat):Int):=by rw[kcj hi2]
   rw[ex,ey];have pa:=kt8 hx hy hc;simp only[u64]at pa⊢;rw[pa];simp only[Option.map_some,Option.bind_some,ke4,ke,put];rw[show hi.puts (.new j i) [AV.int .u64 (((xs.getD i 0+ys.getD i 0+c)%B:Nat):Int)]=_ from kj5 b _ (by omega)];exact next
  ·have hy0:ys.getD i 0=0:=by simp[List.getD,List.getElem?_eq_none (show ys.length≤i by omega)]
   rw[show decide ((i:Int)<(ys.length:Int))=false from by rw[decide_eq_false_iff_not];omega,cond_false,e1];simp only[Option.bind_some,e2,ke];have ex:((xs[i]:Nat):Int)=((xs.getD i 0:Nat):Int):=by rw[kcj (by omega)]
   rw[ex];have pa:=kt8 hx hy hc;simp only[u64]at pa⊢;rw[hy0]at pa;rw[show(AV.int .u64 0)=AV.int .u64 ((0:Nat):Int)from rfl,pa];simp only[Option.map_some,Option.bind_some,ke4,ke,put];rw[hy0]at next;rw[show hi.puts (.new j i) [AV.int .u64 (((xs.getD i 0+0+c)%B:Nat):Int)]=_ from kj5 b _ (by omega)];exact next
theorem kxf{h:AH}{l:Int}{n:Nat}(hl:l=(n:Int))(hn:n≤8796093022207):kbx l l kq (Pg.bytesOf kq) [.int .u64 0] h=some (⟨some (.new h.blks.size 0),n,.is n⟩,h.push (.cells ((List.replicate n 0).map u64) kq)):=by
 rw[ket,kqf hl hl (by omega) (by omega),kxd];simp;rfl
theorem krp{h:AH}{s t:Sl}{xs ys:List Nat}(n:Nats h s xs)(m:Nats h t ys)(hx:xs.length≤1073741824)(hy:ys.length≤1073741824) :
  ∃(s':Sl)(h':AH)(zs:List Nat),go (.fn kcw [s.v,t.v]) h=some (s'.v,h')∧Nats h' s' zs∧Grow h h'∧Own h s'∧num B zs=num B xs+num B ys∧zs.length=max xs.length ys.length+1:=by
 have key:∀{s t:Sl}{xs ys:List Nat},Nats h s xs→Nats h t ys→xs.length≤1073741824→ys.length≤xs.length→∃(s':Sl)(h':AH)(zs:List Nat),
   ((kbx (IntKind.wrap .i64 ((s.len:Int)+1)) (IntKind.wrap .i64 ((s.len:Int)+1)) kq (Pg.bytesOf kq) [.int .u64 0] h).bind fun q4 =>
   go (.pt kcw kfi [(0,s.v),(1,t.v),(5,q4.1.v),(6,.int .u64 0),(21,.int .i64 (s.len:Int)),(22,.int .i64 0)]) q4.2)=some (s'.v,h')∧Nats h' s' zs∧Grow h h'∧Own h s'∧num B zs=num B xs+num B ys∧zs.length=xs.length+1:=by
  intro s t xs ys n m hx hle;rw[n.len,ko (by omega),kxf rfl (by omega)];simp only[Option.bind_some];have g0:=Grow.push h (.cells ((List.replicate (xs.length+1) 0).map u64) kq);have b0:=AH.has_push h ((List.replicate (xs.length+1) 0).map u64) kq;obtain⟨h',zs,e1,g1,b1,l1,lt1,v1⟩:=kv3 n m hle (by omega) (Nat.le_refl h.blks.size) xs.length 0 (by omega) (c:=0) g0 b0 (by simp) (by simp) (by omega) (by simp[num]);refine⟨_,h',zs,e1,⟨Cells.of_has b1 (by simp[l1]),lt1,by omega⟩,g1,fun r hr=>?_,v1,l1⟩;cases hr;exact⟨_,_,rfl,Nat.le_refl _⟩
 rw[kbdj];by_cases hlt:xs.length<ys.length
 ·rw[show decide ((s.len:Int)<(t.len:Int))=true from by rw[decide_eq_true_eq,n.len,m.len];omega,cond_true];obtain⟨s',h',zs,e1,e2,e3,e4,e5,e6⟩:=key m n hy (by omega);exact⟨s',h',zs,e1,e2,e3,e4,by rw[e5];omega,by rw[e6];omega⟩
 ·rw[show decide ((s.len:Int)<(t.len:Int))=false from by rw[decide_eq_false_iff_not,n.len,m.len];omega,cond_false];obtain⟨s',h',zs,e1,e2,e3,e4,e5,e6⟩:=key n m hx (by omega);exact⟨s',h',zs,e1,e2,e3,e4,e5,by rw[e6];omega⟩
def told(n:Nat):List Nat×Int:=if n<B^64 then(digs B n,0)else([],4)
theorem kpz{h:AH}{s:Sl}{xs:List Nat}(n:Nats h s xs):∃s':Sl,go (.fn kj8 [s.v]) h=some (.tup [s'.v,.int .i64 (told (num B xs)).2],h)∧Nats h s' (told (num B xs)).1∧∀h0,Own h0 s→Own h0 s':=by
 obtain⟨s',e1,n1,o1⟩:=kc9 n;rw[kbb1,e1];simp only[Option.bind_some,asSl_v];unfold told;by_cases hn:num B xs<B^64
 ·have:=(kbs B2 (num B xs) 64).2 hn;rw[if_pos hn,show decide ((s'.len:Int)>64)=false from by rw[decide_eq_false_iff_not,n1.len];omega];exact⟨s',rfl,n1,o1⟩
 ·have:¬(digs B (num B xs)).length≤64:=fun h=>hn ((kbs B2 _ _).1 h);rw[if_neg hn,show decide ((s'.len:Int)>64)=true from by rw[decide_eq_true_eq,n1.len];omega];exact⟨⟨none,0,.is 0⟩,rfl,Nats.nil h,fun h0 _=>Own.nil h0⟩
def addN(xs ys:List Nat):List Nat×Int:=if rt xs=true∧rt ys=true then told (num B xs+num B ys)else([],1)
theorem kv2{h:AH}{s t:Sl}{xs ys:List Nat}(n:Nats h s xs)(m:Nats h t ys):∃(s':Sl)(h':AH),go (.fn kkz [s.v,t.v]) h=some (.tup [s'.v,.int .i64 (addN xs ys).2],h')∧Nats h' s' (addN xs ys).1∧Grow h h'∧Own h s':=by
 rw[kbc4];simp only[kcp];have r:=Rows.two n m;have g:=Grow.push h (.cells [s.v,t.v] kch);generalize h.push (.cells [s.v,t.v] kch)=h0 at *
 rw[kkp r];simp only[Option.bind_some,kcf,List.all_cons,List.all_nil,Bool.and_true];by_cases hb:rt xs=true∧rt ys=true
 ·rw[show addN xs ys=told (num B xs+num B ys)from by simp[addN,hb]];simp only[hb.1,hb.2,Bool.and_self,Bool.not_true,cond_false];have lx:=(rt_iff.1 hb.1).1;have ly:=(rt_iff.1 hb.2).1;obtain⟨s1,h1,zs,e1,n1,g1,o1,v1,_⟩:=krp (n.grow g) (m.grow g) (by omega) (by omega);obtain⟨s2,e2,n2,o2⟩:=kpz n1;rw[v1]at e2 n2;simp only[e1,e2,Option.bind_some,asSl_v,ke4,ke];exact⟨s2,h1,rfl,n2,g.trans g1,(o2 h0 o1).of_le g⟩
 ·rw[show addN xs ys=([],1)from by simp only[addN,if_neg hb]]
  have:(rt xs&&rt ys)=false:=by
   cases hx:rt xs<;>cases hy:rt ys<;>simp_all
  rw[this];exact⟨⟨none,0,.is 0⟩,h0,rfl,Nats.nil _,g,Own.nil h⟩
end Go.Ab
