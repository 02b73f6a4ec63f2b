/- Words and laws that the last text joins. -/
import Derived.Test.YtndomkpijjibiaaGreatDoorPAbsDra
import Derived.Test.YtndomkpijjibiaaGreatDoorProg
import Derived.Test.YtndomkpijjibiaaGreatDoorPU1
import Derived.Test.YtndomkpijjibiaaGreatDoorPAbsS
set_option linter.unusedVariables false
set_option linter.unusedSimpArgs false
set_option linter.unusedSectionVars false
set_option maxRecDepth 100000
namespace Go.Ab
open Go.Proofs
theorem kuk(a1:Sl)(a2:Int)(h:AH):go (.pt kg5 kkn [(0,a1.v),(3,.int .i64 a2)]) h =
 cond (decide (a2<(a1.len:Int))) (
 (idx a1.ref a1.len a2 1).bind fun r3 =>
 ((h.cell r3).bind (AV.asInt .i64)).bind fun n4 =>
 cond (decide (n4<0)) (
 some (.bool false,h)) (
 (idx a1.ref a1.len a2 1).bind fun r5 =>
 ((h.cell r5).bind (AV.asInt .i64)).bind fun n6 =>
 cond (decide (n6>1073741824)) (
 some (.bool false,h)) (
 (idx a1.ref a1.len a2 1).bind fun r7 =>
 ((h.cell r7).bind (AV.asInt .i64)).bind fun n8 =>
 (go (.fn kf4 [a1.v,.int .i64 n8]) h).bind fun q9 =>
 ((some q9.1).bind (AV.asInt .i64)).bind fun n10 =>
 cond (!decide (n10=a2)) (
 some (.bool false,q9.2)) (
 go (.pt kg5 kkn [(0,a1.v),(3,.int .i64 (IntKind.wrap .i64 (a2+1)))]) q9.2)))) (
 some (.bool true,h)):=(ke _ h).trans (by kernel_rfl)
theorem kux(a1:Ref)(a2 a3:Int)(h:AH):go (.pt kc7 km7 [(1,.ptr (some a1)),(4,.int .i64 a2),(5,.int .i64 a3)]) h =
 ((h.cell (a1.add 0)).bind AV.asSl).bind fun l4 =>
 cond (decide (a3<(l4.len:Int))) (
 ((h.cell (a1.add 2)).bind AV.asSl).bind fun l5 =>
 (idx l5.ref l5.len a2 1).bind fun r6 =>
 ((h.cell r6).bind AV.asSl).bind fun l7 =>
 (idx l7.ref l7.len a3 1).bind fun r8 =>
 ((h.cell r8).bind (AV.asInt .i64)).bind fun n9 =>
 cond (decide (n9<0)) (
 some (.bool false,h)) (
 ((h.cell (a1.add 2)).bind AV.asSl).bind fun l10 =>
 (idx l10.ref l10.len a2 1).bind fun r11 =>
 ((h.cell r11).bind AV.asSl).bind fun l12 =>
 (idx l12.ref l12.len a3 1).bind fun r13 =>
 ((h.cell r13).bind (AV.asInt .i64)).bind fun n14 =>
 ((h.cell (a1.add 1)).bind AV.asSl).bind fun l15 =>
 (idx l15.ref l15.len a2 1).bind fun r16 =>
 ((h.cell r16).bind (AV.asInt .i64)).bind fun n17 =>
 cond (decide (n14≥n17)) (
 some (.bool false,h)) (
 go (.pt kc7 km7 [(1,.ptr (some a1)),(4,.int .i64 a2),(5,.int .i64 (IntKind.wrap .i64 (a3+1)))]) h))) (
 go (.pt kc7 ki3 [(1,.ptr (some a1)),(4,.int .i64 (IntKind.wrap .i64 (a2+1)))]) h):=(ke _ h).trans (by kernel_rfl)
theorem k87(a1:Option Ref)(a2:Int)(h:AH):go (.fn klw [.ptr a1,.int .i64 a2]) h =
 newK h (.cells [.int .i64 0,.int .i64 0] kbp) fun h3r h3 =>
 a1.bind fun r4 =>
 ((h3.cell (r4.add 1)).bind AV.asPtr).bind fun p5 =>
 (go (.fn kpa [.ptr p5,.int .i64 a2]) h3).bind fun q6 =>
 (AV.asTup4 q6.1).bind fun p7 =>
 ((some p7.1).bind (AV.asInt .i64)).bind fun n8 =>
 ((some p7.2.1).bind (AV.asInt .i64)).bind fun n9 =>
 (AV.asAgg p7.2.2.1).bind fun cs10 =>
 cond (Nat.beq cs10.length 2) (
 ((cs10[0]?).bind (AV.asInt .i64)).bind fun n11 =>
 ((cs10[1]?).bind (AV.asInt .i64)).bind fun n12 =>
 ((some p7.2.2.2).bind AV.asBool).bind fun b13 =>
 newK q6.2 (.cells [.int .i64 0,.int .i64 0] kbp) fun h14r h14 =>
 (h14.puts h14r [.int .i64 n11,.int .i64 n12]).bind fun h15 =>
 ((h15.cell (h14r.add 0)).bind (AV.asInt .i64)).bind fun n16 =>
 ((h15.cell (h14r.add 1)).bind (AV.asInt .i64)).bind fun n17 =>
 (h15.puts h3r [.int .i64 n16,.int .i64 n17]).bind fun h18 =>
 ((h18.cell (h3r.add 0)).bind (AV.asInt .i64)).bind fun n19 =>
 ((h18.cell (h3r.add 1)).bind (AV.asInt .i64)).bind fun n20 =>
 some (.tup [.agg [.int .i64 n19,.int .i64 n20],.bool b13],h18)) none:=(ke _ h).trans (by kernel_rfl)
theorem kzy(a1:Option Ref)(h:AH):go (.fn kly [.ptr a1]) h =
 newK h (.cells [.int .i64 0,.int .i64 0,.int .i64 0,.int .i64 0,.int .i64 0,(⟨none,0,.is 0⟩:Sl).v,(⟨none,0,.is 0⟩:Sl).v,(⟨none,0,.is 0⟩:Sl).v] kqt) fun h2r h2 =>
 a1.bind fun r3 =>
 ((h2.cell ((r3.add 4).add 0)).bind (AV.asInt .i64)).bind fun n4 =>
 ((h2.cell ((r3.add 4).add 1)).bind (AV.asInt .i64)).bind fun n5 =>
 ((h2.cell ((r3.add 4).add 2)).bind (AV.asInt .i64)).bind fun n6 =>
 (go (.fn kiv [.ptr a1]) h2).bind fun q7 =>
 (AV.asAgg q7.1).bind fun cs8 =>
 cond (Nat.beq cs8.length 3) (
 ((cs8[0]?).bind (AV.asInt .i64)).bind fun n9 =>
 ((cs8[1]?).bind (AV.asInt .i64)).bind fun n10 =>
 ((cs8[2]?).bind (AV.asInt .i64)).bind fun n11 =>
 whenK (SameAt h2 q7.2 (r3.add 4) 3) (
 cond ((decide (n4=n9))&&((decide (n5=n10))&&((decide (n6=n11))&&true))) (
 (q7.2.puts h2r [.int .i64 0,.int .i64 0,.int .i64 0,.int .i64 0,.int .i64 0,(⟨none,0,.is 0⟩:Sl).v,(⟨none,0,.is 0⟩:Sl).v,(⟨none,0,.is 0⟩:Sl).v]).bind fun h12 =>
 ((h12.cell (h2r.add 0)).bind (AV.asInt .i64)).bind fun n13 =>
 ((h12.cell (h2r.add 1)).bind (AV.asInt .i64)).bind fun n14 =>
 ((h12.cell (h2r.add 2)).bind (AV.asInt .i64)).bind fun n15 =>
 ((h12.cell (h2r.add 3)).bind (AV.asInt .i64)).bind fun n16 =>
 ((h12.cell (h2r.add 4)).bind (AV.asInt .i64)).bind fun n17 =>
 ((h12.cell (h2r.add 5)).bind AV.asSl).bind fun l18 =>
 ((h12.cell (h2r.add 6)).bind AV.asSl).bind fun l19 =>
 ((h12.cell (h2r.add 7)).bind AV.asSl).bind fun l20 =>
 some (.tup [.agg [.int .i64 n13,.int .i64 n14,.int .i64 n15,.int .i64 n16,.int .i64 n17,l18.v,l19.v,l20.v],.bool false],h12)) (
 (go (.fn kii [.ptr a1]) q7.2).bind fun q21 =>
 (AV.asAgg q21.1).bind fun cs22 =>
 cond (Nat.beq cs22.length 7) (
 ((cs22[0]?).bind AV.asBool).bind fun b23 =>
 ((cs22[1]?).bind (AV.asInt .i64)).bind fun n24 =>
 ((cs22[2]?).bind (AV.asInt .i64)).bind fun n25 =>
 ((cs22[3]?).bind (AV.asInt .i64)).bind fun n26 =>
 ((cs22[4]?).bind (AV.asInt .i64)).bind fun n27 =>
 ((cs22[5]?).bind (AV.asInt .i64)).bind fun n28 =>
 ((cs22[6]?).bind (AV.asInt .i64)).bind fun n29 =>
 newK q21.2 (.cells [.bool false,.int .i64 0,.int .i64 0,.int .i64 0,.int .i64 0,.int .i64 0,.int .i64 0] kbc) fun h30r h30 =>
 (h30.puts h30r [.bool b23,.int .i64 n24,.int .i64 n25,.int .i64 n26,.int .i64 n27,.int .i64 n28,.int .i64 n29]).bind fun h31 =>
 ((h31.cell (h30r.add 2)).bind (AV.asInt .i64)).bind fun n32 =>
 ((h31.cell (h30r.add 3)).bind (AV.asInt .i64)).bind fun n33 =>
 a1.bind fun r34 =>
 (idx (some (r34.add 4)) 3 0 1).bind fun r35 =>
 ((h31.cell r35).bind (AV.asInt .i64)).bind fun n36 =>
 (h31.puts h2r [.int .i64 n32,.int .i64 8,.int .i64 n33,.int .i64 n36,.int .i64 0,(⟨none,0,.is 0⟩:Sl).v,(⟨none,0,.is 0⟩:Sl).v,(⟨none,0,.is 0⟩:Sl).v]).bind fun h37 =>
 ((h37.cell (h2r.add 0)).bind (AV.asInt .i64)).bind fun n38 =>
 ((h37.cell (h2r.add 1)).bind (AV.asInt .i64)).bind fun n39 =>
 ((h37.cell (h2r.add 2)).bind (AV.asInt .i64)).bind fun n40 =>
 ((h37.cell (h2r.add 3)).bind (AV.asInt .i64)).bind fun n41 =>
 ((h37.cell (h2r.add 4)).bind (AV.asInt .i64)).bind fun n42 =>
 ((h37.cell (h2r.add 5)).bind AV.asSl).bind fun l43 =>
 ((h37.cell (h2r.add 6)).bind AV.asSl).bind fun l44 =>
 ((h37.cell (h2r.add 7)).bind AV.asSl).bind fun l45 =>
 some (.tup [.agg [.int .i64 n38,.int .i64 n39,.int .i64 n40,.int .i64 n41,.int .i64 n42,l43.v,l44.v,l45.v],.bool true],h37)) none))) none:=(ke _ h).trans (by kernel_rfl)
theorem ks9(a1:Sl)(a2:Ref)(a3:Sl)(a4:Int)(h:AH):go (.pt kz kht [(10,a1.v),(17,.ptr (some a2)),(29,a3.v),(31,.int .i64 a4)]) h =
 cond (decide (a4<(a3.len:Int))) (
 ((h.cell (a2.add 0)).bind AV.asSl).bind fun l5 =>
 (go (.fn kc0 [a1.v,.int .i64 a4]) h).bind fun q6 =>
 ((some q6.1).bind AV.asSl).bind fun l7 =>
 whenK (SameAt h q6.2 a2 1) (
 (go (.fn kct [.agg [l5.v],l7.v]) q6.2).bind fun q8 =>
 (AV.asTup2 q8.1).bind fun p9 =>
 ((some p9.1).bind (AV.asInt .i64)).bind fun n10 =>
 ((some p9.2).bind (AV.asInt .i64)).bind fun n11 =>
 cond (!decide (n11=0)) (
 some (.bool false,q8.2)) (
 (idx a3.ref a3.len a4 1).bind fun r12 =>
 ((q8.2.cell r12).bind (AV.asInt .i64)).bind fun n13 =>
 cond (!decide (n13=n10)) (
 some (.bool false,q8.2)) (
 go (.pt kz kht [(10,a1.v),(17,.ptr (some a2)),(29,a3.v),(31,.int .i64 (IntKind.wrap .i64 (a4+1)))]) q8.2)))) (
 some (.bool true,h)):=(ke _ h).trans (by kernel_rfl)
theorem kben(a1:Option Ref)(a2 a3 a4:Sl)(a5 a6 a7 a8:Int)(a9 a10 a11:Sl)(h:AH):go (.fn ko6 [.ptr a1,.agg [a2.v,a3.v,a4.v],.agg [.int .i64 a5,.int .i64 a6,.int .i64 a7,.int .i64 a8,a9.v,a10.v,a11.v]]) h =
 newK h (.cells [a2.v,a3.v,a4.v] ku) fun h12r h12 =>
 newK h12 (.cells [.int .i64 a5,.int .i64 a6,.int .i64 a7,.int .i64 a8,a9.v,a10.v,a11.v] kbu) fun h13r h13 =>
 newK h13 (.cells [.int .i64 0,.int .i64 0,.int .i64 0,.int .i64 0,(⟨none,0,.is 0⟩:Sl).v,(⟨none,0,.is 0⟩:Sl).v,(⟨none,0,.is 0⟩:Sl).v] kbu) fun h14r h14 =>
 cond a1.isNone (
 (h14.puts h14r [.int .i64 0,.int .i64 0,.int .i64 0,.int .i64 0,(⟨none,0,.is 0⟩:Sl).v,(⟨none,0,.is 0⟩:Sl).v,(⟨none,0,.is 0⟩:Sl).v]).bind fun h15 =>
 ((h15.cell (h14r.add 0)).bind (AV.asInt .i64)).bind fun n16 =>
 ((h15.cell (h14r.add 1)).bind (AV.asInt .i64)).bind fun n17 =>
 ((h15.cell (h14r.add 2)).bind (AV.asInt .i64)).bind fun n18 =>
 ((h15.cell (h14r.add 3)).bind (AV.asInt .i64)).bind fun n19 =>
 ((h15.cell (h14r.add 4)).bind AV.asSl).bind fun l20 =>
 ((h15.cell (h14r.add 5)).bind AV.asSl).bind fun l21 =>
 ((h15.cell (h14r.add 6)).bind AV.asSl).bind fun l22 =>
 some (.tup [.agg [.int .i64 n16,.int .i64 n17,.int .i64 n18,.int .i64 n19,l20.v,l21.v,l22.v],.int .i64 1],h15)) (
 ((h14.cell (h12r.add 0)).bind AV.asSl).bind fun l23 =>
 ((h14.cell (h12r.add 1)).bind AV.asSl).bind fun l24 =>
 ((h14.cell (h12r.add 2)).bind AV.asSl).bind fun l25 =>
 (go (.fn kc5 [.agg [l23.v,l24.v,l25.v]]) h14).bind fun q26 =>
 ((some q26.1).bind AV.asBool).bind fun b27 =>
 cond (!b27) (
 (q26.2.puts h14r [.int .i64 0,.int .i64 0,.int .i64 0,.int .i64 0,(⟨none,0,.is 0⟩:Sl).v,(⟨none,0,.is 0⟩:Sl).v,(⟨none,0,.is 0⟩:Sl).v]).bind fun h28 =>
 ((h28.cell (h14r.add 0)).bind (AV.asInt .i64)).bind fun n29 =>
 ((h28.cell (h14r.add 1)).bind (AV.asInt .i64)).bind fun n30 =>
 ((h28.cell (h14r.add 2)).bind (AV.asInt .i64)).bind fun n31 =>
 ((h28.cell (h14r.add 3)).bind (AV.asInt .i64)).bind fun n32 =>
 ((h28.cell (h14r.add 4)).bind AV.asSl).bind fun l33 =>
 ((h28.cell (h14r.add 5)).bind AV.asSl).bind fun l34 =>
 ((h28.cell (h14r.add 6)).bind AV.asSl).bind fun l35 =>
 some (.tup [.agg [.int .i64 n29,.int .i64 n30,.int .i64 n31,.int .i64 n32,l33.v,l34.v,l35.v],.int .i64 20],h28)) (
 ((q26.2.cell (h13r.add 0)).bind (AV.asInt .i64)).bind fun n36 =>
 ((q26.2.cell (h13r.add 1)).bind (AV.asInt .i64)).bind fun n37 =>
 ((q26.2.cell (h13r.add 2)).bind (AV.asInt .i64)).bind fun n38 =>
 ((q26.2.cell (h13r.add 3)).bind (AV.asInt .i64)).bind fun n39 =>
 ((q26.2.cell (h13r.add 4)).bind AV.asSl).bind fun l40 =>
 ((q26.2.cell (h13r.add 5)).bind AV.asSl).bind fun l41 =>
 ((q26.2.cell (h13r.add 6)).bind AV.asSl).bind fun l42 =>
 (go (.fn kby [.agg [.int .i64 n36,.int .i64 n37,.int .i64 n38,.int .i64 n39,l40.v,l41.v,l42.v]]) q26.2).bind fun q43 =>
 ((some q43.1).bind AV.asBool).bind fun b44 =>
 cond (!b44) (
 (q43.2.puts h14r [.int .i64 0,.int .i64 0,.int .i64 0,.int .i64 0,(⟨none,0,.is 0⟩:Sl).v,(⟨none,0,.is 0⟩:Sl).v,(⟨none,0,.is 0⟩:Sl).v]).bind fun h45 =>
 ((h45.cell (h14r.add 0)).bind (AV.asInt .i64)).bind fun n46 =>
 ((h45.cell (h14r.add 1)).bind (AV.asInt .i64)).bind fun n47 =>
 ((h45.cell (h14r.add 2)).bind (AV.asInt .i64)).bind fun n48 =>
 ((h45.cell (h14r.add 3)).bind (AV.asInt .i64)).bind fun n49 =>
 ((h45.cell (h14r.add 4)).bind AV.asSl).bind fun l50 =>
 ((h45.cell (h14r.add 5)).bind AV.asSl).bind fun l51 =>
 ((h45.cell (h14r.add 6)).bind AV.asSl).bind fun l52 =>
 some (.tup [.agg [.int .i64 n46,.int .i64 n47,.int .i64 n48,.int .i64 n49,l50.v,l51.v,l52.v],.int .i64 16],h45)) (
 ((q43.2.cell (h13r.add 0)).bind (AV.asInt .i64)).bind fun n53 =>
 cond (!decide (n53=8)) (
 (q43.2.puts h14r [.int .i64 0,.int .i64 0,.int .i64 0,.int .i64 0,(⟨none,0,.is 0⟩:Sl).v,(⟨none,0,.is 0⟩:Sl).v,(⟨none,0,.is 0⟩:Sl).v]).bind fun h54 =>
 ((h54.cell (h14r.add 0)).bind (AV.asInt .i64)).bind fun n55 =>
 ((h54.cell (h14r.add 1)).bind (AV.asInt .i64)).bind fun n56 =>
 ((h54.cell (h14r.add 2)).bind (AV.asInt .i64)).bind fun n57 =>
 ((h54.cell (h14r.add 3)).bind (AV.asInt .i64)).bind fun n58 =>
 ((h54.cell (h14r.add 4)).bind AV.asSl).bind fun l59 =>
 ((h54.cell (h14r.add 5)).bind AV.asSl).bind fun l60 =>
 ((h54.cell (h14r.add 6)).bind AV.asSl).bind fun l61 =>
 some (.tup [.agg [.int .i64 n55,.int .i64 n56,.int .i64 n57,.int .i64 n58,l59.v,l60.v,l61.v],.int .i64 16],h54)) (
 ((q43.2.cell (h13r.add 1)).bind (AV.asInt .i64)).bind fun n62 =>
 (go (.fn klw [.ptr a1,.int .i64 n62]) q43.2).bind fun q63 =>
 (AV.asTup2 q63.1).bind fun p64 =>
 (AV.asAgg p64.1).bind fun cs65 =>
 cond (Nat.beq cs65.length 2) (
 ((cs65[0]?).bind (AV.asInt .i64)).bind fun n66 =>
 ((cs65[1]?).bind (AV.asInt .i64)).bind fun n67 =>
 ((some p64.2).bind AV.asBool).bind fun b68 =>
 newK q63.2 (.cells [.int .i64 0,.int .i64 0] kbp) fun h69r h69 =>
 (h69.puts h69r [.int .i64 n66,.int .i64 n67]).bind fun h70 =>
 cond (!b68) (
 (h70.puts h14r [.int .i64 0,.int .i64 0,.int .i64 0,.int .i64 0,(⟨none,0,.is 0⟩:Sl).v,(⟨none,0,.is 0⟩:Sl).v,(⟨none,0,.is 0⟩:Sl).v]).bind fun h71 =>
 ((h71.cell (h14r.add 0)).bind (AV.asInt .i64)).bind fun n72 =>
 ((h71.cell (h14r.add 1)).bind (AV.asInt .i64)).bind fun n73 =>
 ((h71.cell (h14r.add 2)).bind (AV.asInt .i64)).bind fun n74 =>
 ((h71.cell (h14r.add 3)).bind (AV.asInt .i64)).bind fun n75 =>
 ((h71.cell (h14r.add 4)).bind AV.asSl).bind fun l76 =>
 ((h71.cell (h14r.add 5)).bind AV.asSl).bind fun l77 =>
 ((h71.cell (h14r.add 6)).bind AV.asSl).bind fun l78 =>
 some (.tup [.agg [.int .i64 n72,.int .i64 n73,.int .i64 n74,.int .i64 n75,l76.v,l77.v,l78.v],.int .i64 21],h71)) (
 ((h70.cell (h13r.add 2)).bind (AV.asInt .i64)).bind fun n79 =>
 ((h70.cell (h12r.add 0)).bind AV.asSl).bind fun l80 =>
 cond (decide (n79≥(l80.len:Int))) (
 (h70.puts h14r [.int .i64 0,.int .i64 0,.int .i64 0,.int .i64 0,(⟨none,0,.is 0⟩:Sl).v,(⟨none,0,.is 0⟩:Sl).v,(⟨none,0,.is 0⟩:Sl).v]).bind fun h81 =>
 ((h81.cell (h14r.add 0)).bind (AV.asInt .i64)).bind fun n82 =>
 ((h81.cell (h14r.add 1)).bind (AV.asInt .i64)).bind fun n83 =>
 ((h81.cell (h14r.add 2)).bind (AV.asInt .i64)).bind fun n84 =>
 ((h81.cell (h14r.add 3)).bind (AV.asInt .i64)).bind fun n85 =>
 ((h81.cell (h14r.add 4)).bind AV.asSl).bind fun l86 =>
 ((h81.cell (h14r.add 5)).bind AV.asSl).bind fun l87 =>
 ((h81.cell (h14r.add 6)).bind AV.asSl).bind fun l88 =>
 some (.tup [.agg [.int .i64 n82,.int .i64 n83,.int .i64 n84,.int .i64 n85,l86.v,l87.v,l88.v],.int .i64 1],h81)) (
 ((h70.cell (h69r.add 0)).bind (AV.asInt .i64)).bind fun n89 =>
 ((h70.cell (h12r.add 2)).bind AV.asSl).bind fun l90 =>
 cond (decide (n89≥(l90.len:Int))) (
 (h70.puts h14r [.int .i64 0,.int .i64 0,.int .i64 0,.int .i64 0,(⟨none,0,.is 0⟩:Sl).v,(⟨none,0,.is 0⟩:Sl).v,(⟨none,0,.is 0⟩:Sl).v]).bind fun h91 =>
 ((h91.cell (h14r.add 0)).bind (AV.asInt .i64)).bind fun n92 =>
 ((h91.cell (h14r.add 1)).bind (AV.asInt .i64)).bind fun n93 =>
 ((h91.cell (h14r.add 2)).bind (AV.asInt .i64)).bind fun n94 =>
 ((h91.cell (h14r.add 3)).bind (AV.asInt .i64)).bind fun n95 =>
 ((h91.cell (h14r.add 4)).bind AV.asSl).bind fun l96 =>
 ((h91.cell (h14r.add 5)).bind AV.asSl).bind fun l97 =>
 ((h91.cell (h14r.add 6)).bind AV.asSl).bind fun l98 =>
 some (.tup [.agg [.int .i64 n92,.int .i64 n93,.int .i64 n94,.int .i64 n95,l96.v,l97.v,l98.v],.int .i64 1],h91)) (
 ((h70.cell (h13r.add 1)).bind (AV.asInt .i64)).bind fun n99 =>
 ((h70.cell (h13r.add 2)).bind (AV.asInt .i64)).bind fun n100 =>
 newK h70 (.cells [.int .i64 0,.int .i64 0,.int .i64 0,.int .i64 0,(⟨none,0,.is 0⟩:Sl).v,(⟨none,0,.is 0⟩:Sl).v,(⟨none,0,.is 0⟩:Sl).v] kbu) fun h101r h101 =>
 (h101.puts h101r [.int .i64 9,.int .i64 n99,.int .i64 n100,.int .i64 0,(⟨none,0,.is 0⟩:Sl).v,(⟨none,0,.is 0⟩:Sl).v,(⟨none,0,.is 0⟩:Sl).v]).bind fun h102 =>
 ((h102.cell (h12r.add 2)).bind AV.asSl).bind fun l103 =>
 ((h102.cell (h69r.add 0)).bind (AV.asInt .i64)).bind fun n104 =>
 (idx l103.ref l103.len n104 1).bind fun r105 =>
 ((h102.cell r105).bind AV.asSl).bind fun l106 =>
 ((h102.cell (h13r.add 2)).bind (AV.asInt .i64)).bind fun n107 =>
 (idx l106.ref l106.len n107 1).bind fun r108 =>
 ((h102.cell r108).bind (AV.asInt .i64)).bind fun n109 =>
 ((h102.cell (h69r.add 1)).bind (AV.asInt .i64)).bind fun n110 =>
 cond (decide (n109≤n110)) (
 (h102.puts (h101r.add 3) [.int .i64 1]).bind fun h111 =>
 ((h111.cell (h101r.add 0)).bind (AV.asInt .i64)).bind fun n112 =>
 ((h111.cell (h101r.add 1)).bind (AV.asInt .i64)).bind fun n113 =>
 ((h111.cell (h101r.add 2)).bind (AV.asInt .i64)).bind fun n114 =>
 ((h111.cell (h101r.add 3)).bind (AV.asInt .i64)).bind fun n115 =>
 ((h111.cell (h101r.add 4)).bind AV.asSl).bind fun l116 =>
 ((h111.cell (h101r.add 5)).bind AV.asSl).bind fun l117 =>
 ((h111.cell (h101r.add 6)).bind AV.asSl).bind fun l118 =>
 (h111.puts h14r [.int .i64 n112,.int .i64 n113,.int .i64 n114,.int .i64 n115,l116.v,l117.v,l118.v]).bind fun h119 =>
 ((h119.cell (h14r.add 0)).bind (AV.asInt .i64)).bind fun n120 =>
 ((h119.cell (h14r.add 1)).bind (AV.asInt .i64)).bind fun n121 =>
 ((h119.cell (h14r.add 2)).bind (AV.asInt .i64)).bind fun n122 =>
 ((h119.cell (h14r.add 3)).bind (AV.asInt .i64)).bind fun n123 =>
 ((h119.cell (h14r.add 4)).bind AV.asSl).bind fun l124 =>
 ((h119.cell (h14r.add 5)).bind AV.asSl).bind fun l125 =>
 ((h119.cell (h14r.add 6)).bind AV.asSl).bind fun l126 =>
 some (.tup [.agg [.int .i64 n120,.int .i64 n121,.int .i64 n122,.int .i64 n123,l124.v,l125.v,l126.v],.int .i64 0],h119)) (
 ((h102.cell (h101r.add 0)).bind (AV.asInt .i64)).bind fun n127 =>
 ((h102.cell (h101r.add 1)).bind (AV.asInt .i64)).bind fun n128 =>
 ((h102.cell (h101r.add 2)).bind (AV.asInt .i64)).bind fun n129 =>
 ((h102.cell (h101r.add 3)).bind (AV.asInt .i64)).bind fun n130 =>
 ((h102.cell (h101r.add 4)).bind AV.asSl).bind fun l131 =>
 ((h102.cell (h101r.add 5)).bind AV.asSl).bind fun l132 =>
 ((h102.cell (h101r.add 6)).bind AV.asSl).bind fun l133 =>
 (h102.puts h14r [.int .i64 n127,.int .i64 n128,.int .i64 n129,.int .i64 n130,l131.v,l132.v,l133.v]).bind fun h134 =>
 ((h134.cell (h14r.add 0)).bind (AV.asInt .i64)).bind fun n135 =>
 ((h134.cell (h14r.add 1)).bind (AV.asInt .i64)).bind fun n136 =>
 ((h134.cell (h14r.add 2)).bind (AV.asInt .i64)).bind fun n137 =>
 ((h134.cell (h14r.add 3)).bind (AV.asInt .i64)).bind fun n138 =>
 ((h134.cell (h14r.add 4)).bind AV.asSl).bind fun l139 =>
 ((h134.cell (h14r.add 5)).bind AV.asSl).bind fun l140 =>
 ((h134.cell (h14r.add 6)).bind AV.asSl).bind fun l141 =>
 some (.tup [.agg [.int .i64 n135,.int .i64 n136,.int .i64 n137,.int .i64 n138,l139.v,l140.v,l141.v],.int .i64 0],h134)))))) none)))):=(ke _ h).trans (by kernel_rfl)
theorem k4i(a1:Option Ref)(a2 a3 a4 a5 a6:Int)(a7 a8 a9:Sl)(h:AH):go (.fn kp3 [.ptr a1,.int .i64 a2,.agg [.int .i64 a3,.int .i64 a4,.int .i64 a5,.int .i64 a6,a7.v,a8.v,a9.v]]) h =
 newK h (.cells [.int .i64 a3,.int .i64 a4,.int .i64 a5,.int .i64 a6,a7.v,a8.v,a9.v] kbu) fun h10r h10 =>
 (go (.fn kly [.ptr a1]) h10).bind fun q11 =>
 (AV.asTup2 q11.1).bind fun p12 =>
 (AV.asAgg p12.1).bind fun cs13 =>
 cond (Nat.beq cs13.length 8) (
 ((cs13[0]?).bind (AV.asInt .i64)).bind fun n14 =>
 ((cs13[1]?).bind (AV.asInt .i64)).bind fun n15 =>
 ((cs13[2]?).bind (AV.asInt .i64)).bind fun n16 =>
 ((cs13[3]?).bind (AV.asInt .i64)).bind fun n17 =>
 ((cs13[4]?).bind (AV.asInt .i64)).bind fun n18 =>
 ((cs13[5]?).bind AV.asSl).bind fun l19 =>
 ((cs13[6]?).bind AV.asSl).bind fun l20 =>
 ((cs13[7]?).bind AV.asSl).bind fun l21 =>
 ((some p12.2).bind AV.asBool).bind fun b22 =>
 newK q11.2 (.cells [.int .i64 0,.int .i64 0,.int .i64 0,.int .i64 0,.int .i64 0,(⟨none,0,.is 0⟩:Sl).v,(⟨none,0,.is 0⟩:Sl).v,(⟨none,0,.is 0⟩:Sl).v] kqt) fun h23r h23 =>
 (h23.puts h23r [.int .i64 n14,.int .i64 n15,.int .i64 n16,.int .i64 n17,.int .i64 n18,l19.v,l20.v,l21.v]).bind fun h24 =>
 cond (!b22) (
 some (.int .i64 18,h24)) (
 ((h24.cell (h10r.add 0)).bind (AV.asInt .i64)).bind fun n25 =>
 ((h24.cell (h10r.add 1)).bind (AV.asInt .i64)).bind fun n26 =>
 ((h24.cell (h10r.add 2)).bind (AV.asInt .i64)).bind fun n27 =>
 ((h24.cell (h10r.add 3)).bind (AV.asInt .i64)).bind fun n28 =>
 ((h24.cell (h10r.add 4)).bind AV.asSl).bind fun l29 =>
 ((h24.cell (h10r.add 5)).bind AV.asSl).bind fun l30 =>
 ((h24.cell (h10r.add 6)).bind AV.asSl).bind fun l31 =>
 (go (.fn kby [.agg [.int .i64 n25,.int .i64 n26,.int .i64 n27,.int .i64 n28,l29.v,l30.v,l31.v]]) h24).bind fun q32 =>
 ((some q32.1).bind AV.asBool).bind fun b33 =>
 cond (!b33) (
 some (.int .i64 16,q32.2)) (
 ((q32.2.cell (h10r.add 0)).bind (AV.asInt .i64)).bind fun n34 =>
 cond (!decide (n34=9)) (
 some (.int .i64 16,q32.2)) (
 ((q32.2.cell (h23r.add 0)).bind (AV.asInt .i64)).bind fun n35 =>
 cond (!decide (a2=n35)) (
 some (.int .i64 18,q32.2)) (
 ((q32.2.cell (h10r.add 1)).bind (AV.asInt .i64)).bind fun n36 =>
 ((q32.2.cell ((h23r.add 1).add 1)).bind (AV.asInt .i64)).bind fun n37 =>
 cond (!decide (n36=n37)) (
 some (.int .i64 18,q32.2)) (
 ((q32.2.cell (h10r.add 2)).bind (AV.asInt .i64)).bind fun n38 =>
 ((q32.2.cell ((h23r.add 1).add 2)).bind (AV.asInt .i64)).bind fun n39 =>
 cond (!decide (n38=n39)) (
 some (.int .i64 18,q32.2)) (
 ((q32.2.cell (h10r.add 3)).bind (AV.asInt .i64)).bind fun n40 =>
 a1.bind fun r41 =>
 (go (.fn kii [.ptr a1]) q32.2).bind fun q42 =>
 (AV.asAgg q42.1).bind fun cs43 =>
 cond (Nat.beq cs43.length 7) (
 ((cs43[0]?).bind AV.asBool).bind fun b44 =>
 ((cs43[1]?).bind (AV.asInt .i64)).bind fun n45 =>
 ((cs43[2]?).bind (AV.asInt .i64)).bind fun n46 =>
 ((cs43[3]?).bind (AV.asInt .i64)).bind fun n47 =>
 ((cs43[4]?).bind (AV.asInt .i64)).bind fun n48 =>
 ((cs43[5]?).bind (AV.asInt .i64)).bind fun n49 =>
 ((cs43[6]?).bind (AV.asInt .i64)).bind fun n50 =>
 whenK (SameAt q32.2 q42.2 (h10r.add 3) 1) (
 (go (.fn kjt [.agg [.bool b44,.int .i64 n45,.int .i64 n46,.int .i64 n47,.int .i64 n48,.int .i64 n49,.int .i64 n50],.bool (decide (n40=1))]) q42.2).bind fun q51 =>
 ((some q51.1).bind (AV.asInt .i64)).bind fun n52 =>
 (idx (some (r41.add 4)) 3 2 1).bind fun r53 =>
 (q51.2.puts r53 [.int .i64 n52]).bind fun h54 =>
 (go (.fn kd1 [.ptr a1]) h54).bind fun q55 =>
 (AV.asTup0 q55.1).bind fun _ =>
 some (.int .i64 0,q55.2))) none))))))) none:=(ke _ h).trans (by kernel_rfl)
theorem kbdd(a1:Sl)(a2:Option Ref)(h:AH):go (.fn kcu [a1.v,.ptr a2]) h =
 a2.bind fun r3 =>
 ((h.cell r3).bind AV.asPtr).bind fun p4 =>
 p4.bind fun r5 =>
 ((h.cell (r5.add 6)).bind AV.asSl).bind fun l6 =>
 (go (.fn kmm [l6.v,a1.v]) h).bind fun q7 =>
 ((some q7.1).bind AV.asBool).bind fun b8 =>
 some (.bool (!b8),q7.2):=(ke _ h).trans (by kernel_rfl)
theorem kv5(a1:Sl)(a2:Option Ref)(a3 a4:Int)(h:AH):go (.pt kba kbo [(0,a1.v),(1,.func (.func kcx) [] [.ptr a2]),(7,.int .i64 a3),(8,.int .i64 a4)]) h =
 cond (decide (a4<a3)) (
 (idx a1.ref a1.len a4 1).bind fun r5 =>
 ((h.cell r5).bind (AV.asInt .i64)).bind fun n6 =>
 (go (.fn kcx [.int .i64 n6,.ptr a2]) h).bind fun q7 =>
 ((some q7.1).bind AV.asBool).bind fun b8 =>
 cond b8 (
 some (.int .i64 a4,q7.2)) (
 go (.pt kba kbo [(0,a1.v),(1,.func (.func kcx) [] [.ptr a2]),(7,.int .i64 a3),(8,.int .i64 (IntKind.wrap .i64 (a4+1)))]) q7.2)) (
 some (.int .i64 (-1),h)):=(ke _ h).trans (by kernel_rfl)
theorem kyv(a1:Sl)(h:AH):go (.fn kca [a1.v,.func (.func kcy) [] []]) h =
 (go (.fn kba [a1.v,.func (.func kcy) [] []]) h).bind fun q2 =>
 ((some q2.1).bind (AV.asInt .i64)).bind fun n3 =>
 some (.bool (decide (n3≥0)),q2.2):=(ke _ h).trans (by kernel_rfl)
theorem kyh(a1:Sl)(h:AH):go (.fn kgy [a1.v]) h =
 newM h (.map [] 0) fun h2m h2 =>
 go (.pt kgy kk5 [(3,.map (some h2m)),(7,a1.v),(8,.int .i64 (a1.len:Int)),(9,.int .i64 0)]) h2:=(ke _ h).trans (by kernel_rfl)
theorem k04(a1:Sl)(a2:Option Ref)(h:AH):go (.fn kca [a1.v,.func (.func kde) [] [.ptr a2]]) h =
 (go (.fn kba [a1.v,.func (.func kde) [] [.ptr a2]]) h).bind fun q3 =>
 ((some q3.1).bind (AV.asInt .i64)).bind fun n4 =>
 some (.bool (decide (n4≥0)),q3.2):=(ke _ h).trans (by kernel_rfl)
theorem kqm(a1:Sl)(a2:Option Ref)(a3:Int)(h:AH):go (.pt kdr klo [(6,a1.v),(8,.func (.func kg4) [.ptr a2] []),(9,.int .i64 a3)]) h =
 cond (decide (a3>0)) (
 (go (.fn kg4 [.ptr a2,.int .i64 (IntKind.wrap .i64 (a3+1))]) h).bind fun q4 =>
 (AV.asTup2 q4.1).bind fun p5 =>
 ((some p5.1).bind (AV.asInt .i64)).bind fun n6 =>
 ((some p5.2).bind (AV.asInt .i64)).bind fun n7 =>
 cond (!decide (n7=0)) (
 some (.tup [(⟨none,0,.is 0⟩:Sl).v,.int .i64 n7],q4.2)) (
 (idx a1.ref a1.len n6 1).bind fun r8 =>
 ((q4.2.cell r8).bind (AV.asInt .i64)).bind fun n9 =>
 (idx a1.ref a1.len a3 1).bind fun r10 =>
 ((q4.2.cell r10).bind (AV.asInt .i64)).bind fun n11 =>
 (idx a1.ref a1.len a3 1).bind fun r12 =>
 (q4.2.puts r12 [.int .i64 n9]).bind fun h13 =>
 (idx a1.ref a1.len n6 1).bind fun r14 =>
 (h13.puts r14 [.int .i64 n11]).bind fun h15 =>
 go (.pt kdr klo [(6,a1.v),(8,.func (.func kg4) [.ptr a2] []),(9,.int .i64 (IntKind.wrap .i64 (a3-1)))]) h15)) (
 some (.tup [a1.v,.int .i64 0],h)):=(ke _ h).trans (by kernel_rfl)
theorem ksj(a1:Sl)(a2:Option Ref)(a3 a4:Int)(h:AH):go (.pt kbe kb8 [(0,a1.v),(1,.func (.func kbv) [] [.ptr a2]),(7,.int .i64 a3),(8,.int .i64 a4)]) h =
 cond (decide (a4<a3)) (
 (idx a1.ref a1.len a4 1).bind fun r5 =>
 ((h.cell r5).bind AV.asSl).bind fun l6 =>
 (go (.fn kbv [l6.v,.ptr a2]) h).bind fun q7 =>
 ((some q7.1).bind AV.asBool).bind fun b8 =>
 cond b8 (
 some (.int .i64 a4,q7.2)) (
 go (.pt kbe kb8 [(0,a1.v),(1,.func (.func kbv) [] [.ptr a2]),(7,.int .i64 a3),(8,.int .i64 (IntKind.wrap .i64 (a4+1)))]) q7.2)) (
 some (.int .i64 (-1),h)):=(ke _ h).trans (by kernel_rfl)
theorem kvt(a1:Ref)(a2:Sl)(a3:Int)(a4 a5:Ref)(a6 a7:Sl)(a8 a9:Int)(l:Nat)(h:AH):go (.rpt l kcg kli [(7,.ptr (some a1)),(8,a2.v),(9,.int .i64 a3),(11,.ptr (some a4)),(12,.ptr (some a5)),(15,a6.v),(40,a7.v),(41,.int .i64 a8),(42,.int .i64 a9)]) h =
 cond (decide (a9<a8)) (
 (idx a7.ref a7.len a9 1).bind fun r10 =>
 ((h.cell r10).bind (AV.asInt .i64)).bind fun n11 =>
 (h.cell a4).bind fun v12 =>
 ((h.cell a1).bind AV.asSl).bind fun l13 =>
 (idx l13.ref l13.len n11 1).bind fun r14 =>
 ((h.cell r14).bind AV.asSl).bind fun l15 =>
 (callV Pg go v12 [a6.v,l15.v] h).bind fun q16 =>
 ((some q16.1).bind AV.asSl).bind fun l17 =>
 go (.rpt l kcg kli [(7,.ptr (some a1)),(8,a2.v),(9,.int .i64 a3),(11,.ptr (some a4)),(12,.ptr (some a5)),(15,l17.v),(40,a7.v),(41,.int .i64 a8),(42,.int .i64 (IntKind.wrap .i64 (a9+1)))]) q16.2) (
 ((h.cell a5).bind AV.asSl).bind fun l18 =>
 newK h (.cells [a6.v] kr) fun h19r h19 =>
 (kbb Pg kr ((⟨some h19r,1,.is 1⟩:Sl).v) h19).bind fun p21 =>
 (kw Pg l18 p21.1 p21.2 kr 1 h19).bind fun q20 =>
 (AV.asSl q20.1).bind fun l22 =>
 (q20.2.puts a5 [l22.v]).bind fun h23 =>
 kcj l none h23):=(ke _ h).trans (by kernel_rfl)
theorem ku8(a1:Int)(a2 a3:Ref)(a4 a5:Sl)(a6 a7:Int)(h:AH):go (.pt ker kjo [(2,.int .i64 a1),(3,.ptr (some a2)),(6,.ptr (some a3)),(8,a4.v),(44,a5.v),(45,.int .i64 a6),(46,.int .i64 a7)]) h =
 cond (decide (a7<a6)) (
 (idx a5.ref a5.len a7 1).bind fun r8 =>
 ((h.cell r8).bind (AV.asInt .i64)).bind fun n9 =>
 cond (decide (n9≤a1)) (
 newK h (.cells [.int .i64 a7] T.int) fun h10r h10 =>
 (kbb Pg T.int ((⟨some h10r,1,.is 1⟩:Sl).v) h10).bind fun p12 =>
 (kw Pg a4 p12.1 p12.2 T.int 1 h10).bind fun q11 =>
 (AV.asSl q11.1).bind fun l13 =>
 go (.pt ker kjo [(2,.int .i64 a1),(3,.ptr (some a2)),(6,.ptr (some a3)),(8,l13.v),(44,a5.v),(45,.int .i64 a6),(46,.int .i64 (IntKind.wrap .i64 (a7+1)))]) q11.2) (
 go (.pt ker kjo [(2,.int .i64 a1),(3,.ptr (some a2)),(6,.ptr (some a3)),(8,a4.v),(44,a5.v),(45,.int .i64 a6),(46,.int .i64 (IntKind.wrap .i64 (a7+1)))]) h)) (
 ((h.cell (a2.add 0)).bind AV.asSl).bind fun l14 =>
 (go (.fn kep [.int .i64 (l14.len:Int),a4.v]) h).bind fun q15 =>
 (AV.asTup2 q15.1).bind fun p16 =>
 (AV.asAgg p16.1).bind fun cs17 =>
 cond (Nat.beq cs17.length 2) (
 ((cs17[0]?).bind (AV.asInt .i64)).bind fun n18 =>
 ((cs17[1]?).bind AV.asSl).bind fun l19 =>
 ((some p16.2).bind (AV.asInt .i64)).bind fun n20 =>
 (q15.2.puts a3 [.int .i64 n18,l19.v]).bind fun h21 =>
 ((h21.cell (a3.add 0)).bind (AV.asInt .i64)).bind fun n22 =>
 ((h21.cell (a3.add 1)).bind AV.asSl).bind fun l23 =>
 some (.tup [.agg [.int .i64 n22,l23.v],.int .i64 n20],h21)) none):=(ke _ h).trans (by kernel_rfl)
theorem kbfa(a1:Int)(a2:Sl)(a3:Int)(a4:Sl)(h:AH):go (.fn kgz [.agg [.int .i64 a1,a2.v],.agg [.int .i64 a3,a4.v],.func (.func kev) [] []]) h =
 newK h (.cells [.int .i64 a1,a2.v] ky) fun h5r h5 =>
 newK h5 (.cells [.int .i64 a3,a4.v] ky) fun h6r h6 =>
 newK h6 (.cells [.int .i64 0,(⟨none,0,.is 0⟩:Sl).v] ky) fun h7r h7 =>
 ((h7.cell (h5r.add 0)).bind (AV.asInt .i64)).bind fun n8 =>
 ((h7.cell (h5r.add 1)).bind AV.asSl).bind fun l9 =>
 (go (.fn kho [.agg [.int .i64 n8,l9.v]]) h7).bind fun q10 =>
 ((some q10.1).bind AV.asBool).bind fun b11 =>
 cond (!b11) (
 (q10.2.puts h7r [.int .i64 0,(⟨none,0,.is 0⟩:Sl).v]).bind fun h12 =>
 ((h12.cell (h7r.add 0)).bind (AV.asInt .i64)).bind fun n13 =>
 ((h12.cell (h7r.add 1)).bind AV.asSl).bind fun l14 =>
 some (.tup [.agg [.int .i64 n13,l14.v],.int .i64 1],h12)) (
 ((q10.2.cell (h6r.add 0)).bind (AV.asInt .i64)).bind fun n15 =>
 ((q10.2.cell (h6r.add 1)).bind AV.asSl).bind fun l16 =>
 (go (.fn kho [.agg [.int .i64 n15,l16.v]]) q10.2).bind fun q17 =>
 ((some q17.1).bind AV.asBool).bind fun b18 =>
 cond (!b18) (
 (q17.2.puts h7r [.int .i64 0,(⟨none,0,.is 0⟩:Sl).v]).bind fun h19 =>
 ((h19.cell (h7r.add 0)).bind (AV.asInt .i64)).bind fun n20 =>
 ((h19.cell (h7r.add 1)).bind AV.asSl).bind fun l21 =>
 some (.tup [.agg [.int .i64 n20,l21.v],.int .i64 1],h19)) (
 ((q17.2.cell (h5r.add 0)).bind (AV.asInt .i64)).bind fun n22 =>
 ((q17.2.cell (h6r.add 0)).bind (AV.asInt .i64)).bind fun n23 =>
 cond (!decide (n22=n23)) (
 (q17.2.puts h7r [.int .i64 0,(⟨none,0,.is 0⟩:Sl).v]).bind fun h24 =>
 ((h24.cell (h7r.add 0)).bind (AV.asInt .i64)).bind fun n25 =>
 ((h24.cell (h7r.add 1)).bind AV.asSl).bind fun l26 =>
 some (.tup [.agg [.int .i64 n25,l26.v],.int .i64 1],h24)) (
 ((q17.2.cell (h5r.add 0)).bind (AV.asInt .i64)).bind fun n27 =>
 (go (.fn kmw [.int .i64 n27]) q17.2).bind fun q28 =>
 (AV.asTup2 q28.1).bind fun p29 =>
 (AV.asAgg p29.1).bind fun cs30 =>
 cond (Nat.beq cs30.length 2) (
 ((cs30[0]?).bind (AV.asInt .i64)).bind fun n31 =>
 ((cs30[1]?).bind AV.asSl).bind fun l32 =>
 ((some p29.2).bind (AV.asInt .i64)).bind fun n33 =>
 newK q28.2 (.cells [.int .i64 0,(⟨none,0,.is 0⟩:Sl).v] ky) fun h34r h34 =>
 (h34.puts h34r [.int .i64 n31,l32.v]).bind fun h35 =>
 ((h35.cell (h34r.add 1)).bind AV.asSl).bind fun l36 =>
 go (.pt kgz klz [(2,.func (.func kev) [] []),(3,.ptr (some h5r)),(4,.ptr (some h6r)),(6,.ptr (some h7r)),(8,.ptr (some h34r)),(9,.int .i64 n33),(35,.int .i64 (l36.len:Int)),(36,.int .i64 0)]) h35) none))):=(ke _ h).trans (by kernel_rfl)
theorem k55(a1:Int)(a2:Sl)(h:AH):go (.fn kn8 [.agg [.int .i64 a1,a2.v]]) h =
 newK h (.cells [.int .i64 a1,a2.v] ky) fun h3r h3 =>
 some (.func (.func kb5) [] [.ptr (some h3r)],h3):=(ke _ h).trans (by kernel_rfl)
theorem kbcs(a1:AV)(h:AH):go (.fn kph [a1]) h =
 (go (.fn kef [(⟨none,0,.is 0⟩:Sl).v,a1]) h).bind fun q2 =>
 ((some q2.1).bind AV.asSl).bind fun l3 =>
 some (l3.v,q2.2):=(ke _ h).trans (by kernel_rfl)
theorem kbay(a1:Sl)(h:AH):go (.fn kbe [a1.v,.func (.func kdq) [] []]) h =
 go (.pt kbe kb8 [(0,a1.v),(1,.func (.func kdq) [] []),(7,.int .i64 (a1.len:Int)),(8,.int .i64 0)]) h:=(ke _ h).trans (by kernel_rfl)
theorem k5r(a1 a2 a3:Int)(h:AH):go (.fn kbl [.int .u64 a1,.int .u64 a2,.int .u64 a3]) h =
 cond (decide (a3=0)) (
 (h.cell (.old ⟨Gl.math_bits_divideError,0,none⟩)).bind fun v4 =>
 none) (
 go (.pt kbl kpi [(0,.int .u64 a1),(1,.int .u64 a2),(2,.int .u64 a3)]) h):=(ke _ h).trans (by kernel_rfl)
theorem k02(a1:Int)(a2 a3:Sl)(a4 a5:Int)(h:AH):go (.pt kd4 ki5 [(1,.int .u64 a1),(5,a2.v),(12,a3.v),(13,.int .i64 a4),(14,.int .i64 a5)]) h =
 cond (decide (a5<a4)) (
 (idx a3.ref a3.len a5 1).bind fun r6 =>
 ((h.cell r6).bind (AV.asInt .u64)).bind fun n7 =>
 (idx a2.ref a2.len a5 1).bind fun r8 =>
 ((h.cell r8).bind (AV.asInt .u64)).bind fun n9 =>
 cond (decide (a1<0)) none (
 (idx a2.ref a2.len a5 1).bind fun r10 =>
 (h.puts r10 [.int .u64 (ior .u64 n9 (ishl .u64 n7 a1))]).bind fun h11 =>
 cond (decide (a1>0)) (
 cond (decide ((IntKind.wrap .u64 (64-a1))<0)) none (
 (idx a2.ref a2.len (IntKind.wrap .i64 (a5+1)) 1).bind fun r12 =>
 (h11.puts r12 [.int .u64 (ishr .u64 n7 (IntKind.wrap .u64 (64-a1)))]).bind fun h13 =>
 go (.pt kd4 ki5 [(1,.int .u64 a1),(5,a2.v),(12,a3.v),(13,.int .i64 a4),(14,.int .i64 (IntKind.wrap .i64 (a5+1)))]) h13)) (
 go (.pt kd4 ki5 [(1,.int .u64 a1),(5,a2.v),(12,a3.v),(13,.int .i64 a4),(14,.int .i64 (IntKind.wrap .i64 (a5+1)))]) h11))) (
 some (a2.v,h)):=(ke _ h).trans (by kernel_rfl)
theorem k0b(a1 a2 a3 a4 a5:Int)(h:AH):go (.fn kes [.int .u64 a1,.int .u64 a2,.int .u64 a3,.int .u64 a4,.int .u64 a5]) h =
 cond (decide (a1≥a4)) (
 some (.int .u64 18446744073709551615,h)) (
 (go (.fn kbl [.int .u64 a1,.int .u64 a2,.int .u64 a4]) h).bind fun q6 =>
 (AV.asTup2 q6.1).bind fun p7 =>
 ((some p7.1).bind (AV.asInt .u64)).bind fun n8 =>
 ((some p7.2).bind (AV.asInt .u64)).bind fun n9 =>
 go (.pt kes kka [(2,.int .u64 a3),(3,.int .u64 a4),(4,.int .u64 a5),(11,.int .u64 n8),(12,.int .u64 n9)]) q6.2):=(ke _ h).trans (by kernel_rfl)
theorem k0n(a1:Int)(a2 a3:Sl)(a4:Int)(a5:Sl)(a6 a7:Int)(a8:Sl)(h:AH):go (.pt kb1 kmk [(6,.int .u64 a1),(7,a2.v),(8,a3.v),(9,.int .i64 a4),(10,a5.v),(11,.int .i64 a6),(12,.int .u64 a7),(13,a8.v)]) h =
 (go (.fn kic [.int .u64 a7]) h).bind fun q9 =>
 ((some q9.1).bind AV.asSl).bind fun l10 =>
 (go (.fn kcl [a3.v,l10.v]) q9.2).bind fun q11 =>
 ((some q11.1).bind AV.asSl).bind fun l12 =>
 (go (.fn kft [a8.v]) q11.2).bind fun q13 =>
 ((some q13.1).bind AV.asSl).bind fun l14 =>
 (go (.fn kbf [l14.v]) q13.2).bind fun q15 =>
 ((some q15.1).bind AV.asSl).bind fun l16 =>
 (go (.fn keg [l16.v,l12.v]) q15.2).bind fun q17 =>
 ((some q17.1).bind (AV.asInt .i64)).bind fun n18 =>
 cond (decide (n18≥0)) (
 (go (.fn kcp [a8.v,l12.v]) q17.2).bind fun q19 =>
 ((some q19.1).bind AV.asSl).bind fun l20 =>
 (copyH l20 a8 1 q19.2).bind fun h21 =>
 (idx a5.ref a5.len a6 1).bind fun r22 =>
 (h21.puts r22 [.int .u64 a7]).bind fun h23 =>
 go (.pt kb1 klc [(6,.int .u64 a1),(7,a2.v),(8,a3.v),(9,.int .i64 a4),(10,a5.v),(11,.int .i64 (IntKind.wrap .i64 (a6-1)))]) h23) (
 go (.pt kb1 kmk [(6,.int .u64 a1),(7,a2.v),(8,a3.v),(9,.int .i64 a4),(10,a5.v),(11,.int .i64 a6),(12,.int .u64 (IntKind.wrap .u64 (a7-1))),(13,a8.v)]) q17.2):=(ke _ h).trans (by kernel_rfl)
theorem k4e(a1:Int)(a2 a3 a4:Sl)(a5 a6:Int)(h:AH):go (.pt kb1 khg [(6,.int .u64 a1),(10,a2.v),(15,a3.v),(16,a4.v),(112,.int .i64 a5),(113,.int .i64 a6)]) h =
 cond (decide (a6<a5)) (
 (idx a3.ref a3.len a6 1).bind fun r7 =>
 ((h.cell r7).bind (AV.asInt .u64)).bind fun n8 =>
 cond (decide (a1<0)) none (
 (idx a4.ref a4.len a6 1).bind fun r9 =>
 (h.puts r9 [.int .u64 (ishr .u64 n8 a1)]).bind fun h10 =>
 cond (decide (a1>0)) (
 cond (decide ((IntKind.wrap .i64 (a6+1))<(a3.len:Int))) (
 (idx a4.ref a4.len a6 1).bind fun r11 =>
 ((h10.cell r11).bind (AV.asInt .u64)).bind fun n12 =>
 (idx a3.ref a3.len (IntKind.wrap .i64 (a6+1)) 1).bind fun r13 =>
 ((h10.cell r13).bind (AV.asInt .u64)).bind fun n14 =>
 cond (decide ((IntKind.wrap .u64 (64-a1))<0)) none (
 (idx a4.ref a4.len a6 1).bind fun r15 =>
 (h10.puts r15 [.int .u64 (ior .u64 n12 (ishl .u64 n14 (IntKind.wrap .u64 (64-a1))))]).bind fun h16 =>
 go (.pt kb1 khg [(6,.int .u64 a1),(10,a2.v),(15,a3.v),(16,a4.v),(112,.int .i64 a5),(113,.int .i64 (IntKind.wrap .i64 (a6+1)))]) h16)) (
 go (.pt kb1 khg [(6,.int .u64 a1),(10,a2.v),(15,a3.v),(16,a4.v),(112,.int .i64 a5),(113,.int .i64 (IntKind.wrap .i64 (a6+1)))]) h10)) (
 go (.pt kb1 khg [(6,.int .u64 a1),(10,a2.v),(15,a3.v),(16,a4.v),(112,.int .i64 a5),(113,.int .i64 (IntKind.wrap .i64 (a6+1)))]) h10))) (
 (go (.fn kbf [a2.v]) h).bind fun q17 =>
 ((some q17.1).bind AV.asSl).bind fun l18 =>
 (go (.fn kbf [a4.v]) q17.2).bind fun q19 =>
 ((some q19.1).bind AV.asSl).bind fun l20 =>
 some (.tup [l18.v,l20.v],q19.2)):=(ke _ h).trans (by kernel_rfl)
theorem kbed(a1 a2:Int)(h:AH):go (.fn knk [.int .u64 a1,.int .u64 a2]) h =
 some (.tup [.int .u64 (IntKind.wrap .u64 ((IntKind.wrap .u64 ((IntKind.wrap .u64 ((ishr .u64 a1 32)*(ishr .u64 a2 32)))+(ishr .u64 (IntKind.wrap .u64 ((IntKind.wrap .u64 ((ishr .u64 a1 32)*(iand .u64 a2 4294967295)))+(ishr .u64 (IntKind.wrap .u64 ((iand .u64 a1 4294967295)*(iand .u64 a2 4294967295))) 32))) 32)))+(ishr .u64 (IntKind.wrap .u64 ((iand .u64 (IntKind.wrap .u64 ((IntKind.wrap .u64 ((ishr .u64 a1 32)*(iand .u64 a2 4294967295)))+(ishr .u64 (IntKind.wrap .u64 ((iand .u64 a1 4294967295)*(iand .u64 a2 4294967295))) 32))) 4294967295)+(IntKind.wrap .u64 ((iand .u64 a1 4294967295)*(ishr .u64 a2 32))))) 32))),.int .u64 (IntKind.wrap .u64 (a1*a2))],h):=(ke _ h).trans (by kernel_rfl)
theorem kx6(a1:Ref)(a2:Sl)(a3 a4:Int)(a5:Sl)(a6 a7:Int)(h:AH):go (.pt kc3 kk4 [(4,.ptr (some a1)),(12,a2.v),(13,.int .i64 a3),(14,.int .i64 a4),(29,a5.v),(30,.int .i64 a6),(31,.int .i64 a7)]) h =
 cond (decide (a7<a6)) (
 (idx a5.ref a5.len a7 7).bind fun r8 =>
 ((h.cell (r8.add 0)).bind AV.asBool).bind fun b9 =>
 ((h.cell (r8.add 1)).bind (AV.asInt .i64)).bind fun n10 =>
 ((h.cell (r8.add 2)).bind (AV.asInt .i64)).bind fun n11 =>
 ((h.cell (r8.add 3)).bind (AV.asInt .i64)).bind fun n12 =>
 ((h.cell (r8.add 4)).bind (AV.asInt .i64)).bind fun n13 =>
 ((h.cell (r8.add 5)).bind (AV.asInt .i64)).bind fun n14 =>
 ((h.cell (r8.add 6)).bind (AV.asInt .i64)).bind fun n15 =>
 newK h (.cells [.bool false,.int .i64 0,.int .i64 0,.int .i64 0,.int .i64 0,.int .i64 0,.int .i64 0] kbc) fun h16r h16 =>
 (h16.puts h16r [.bool b9,.int .i64 n10,.int .i64 n11,.int .i64 n12,.int .i64 n13,.int .i64 n14,.int .i64 n15]).bind fun h17 =>
 ((h17.cell (h16r.add 0)).bind AV.asBool).bind fun b18 =>
 ((h17.cell (h16r.add 1)).bind (AV.asInt .i64)).bind fun n19 =>
 ((h17.cell (h16r.add 2)).bind (AV.asInt .i64)).bind fun n20 =>
 ((h17.cell (h16r.add 3)).bind (AV.asInt .i64)).bind fun n21 =>
 ((h17.cell (h16r.add 4)).bind (AV.asInt .i64)).bind fun n22 =>
 ((h17.cell (h16r.add 5)).bind (AV.asInt .i64)).bind fun n23 =>
 ((h17.cell (h16r.add 6)).bind (AV.asInt .i64)).bind fun n24 =>
 ((h17.cell (a1.add 0)).bind AV.asSl).bind fun l25 =>
 (go (.fn kkx [.agg [.bool b18,.int .i64 n19,.int .i64 n20,.int .i64 n21,.int .i64 n22,.int .i64 n23,.int .i64 n24],.int .i64 a7,.int .i64 (l25.len:Int)]) h17).bind fun q26 =>
 ((some q26.1).bind AV.asBool).bind fun b27 =>
 cond (!b27) (
 some (.bool false,q26.2)) (
 go (.pt kc3 kk4 [(4,.ptr (some a1)),(12,a2.v),(13,.int .i64 a3),(14,.int .i64 a4),(29,a5.v),(30,.int .i64 a6),(31,.int .i64 (IntKind.wrap .i64 (a7+1)))]) q26.2)) (
 go (.pt kc3 kiu [(12,a2.v),(13,.int .i64 a3),(14,.int .i64 (IntKind.wrap .i64 (a4+1)))]) h):=(ke _ h).trans (by kernel_rfl)
theorem k5v(a1:Sl)(a2 a3:Option Ref)(h:AH):go (.fn khs [a1.v,.func (.func kb6) [] [.ptr a2,.ptr a3]]) h =
 go (.pt khs klt [(0,a1.v),(1,.func (.func kb6) [] [.ptr a2,.ptr a3]),(7,.int .i64 (a1.len:Int)),(8,.int .i64 0)]) h:=(ke _ h).trans (by kernel_rfl)
theorem k3e(a1:Option Ref)(h:AH):go (.pt kd1 kgo [(0,.ptr a1)]) h =
 a1.bind fun r2 =>
 ((h.cell ((r2.add 4).add 0)).bind (AV.asInt .i64)).bind fun n3 =>
 ((h.cell ((r2.add 4).add 1)).bind (AV.asInt .i64)).bind fun n4 =>
 ((h.cell ((r2.add 4).add 2)).bind (AV.asInt .i64)).bind fun n5 =>
 (go (.fn kiv [.ptr a1]) h).bind fun q6 =>
 (AV.asAgg q6.1).bind fun cs7 =>
 cond (Nat.beq cs7.length 3) (
 ((cs7[0]?).bind (AV.asInt .i64)).bind fun n8 =>
 ((cs7[1]?).bind (AV.asInt .i64)).bind fun n9 =>
 ((cs7[2]?).bind (AV.asInt .i64)).bind fun n10 =>
 whenK (SameAt h q6.2 (r2.add 4) 3) (
 cond (!((decide (n3=n8))&&((decide (n4=n9))&&((decide (n5=n10))&&true)))) (
 a1.bind fun r11 =>
 (idx (some (r11.add 4)) 3 1 1).bind fun r12 =>
 ((q6.2.cell r12).bind (AV.asInt .i64)).bind fun n13 =>
 a1.bind fun r14 =>
 ((q6.2.cell (r14.add 0)).bind AV.asSl).bind fun l15 =>
 cond (decide (n13=(l15.len:Int))) (
 a1.bind fun r16 =>
 (idx (some (r16.add 4)) 3 0 1).bind fun r17 =>
 ((q6.2.cell r17).bind (AV.asInt .i64)).bind fun n18 =>
 a1.bind fun r19 =>
 (q6.2.puts (r19.add 4) [.int .i64 (IntKind.wrap .i64 (n18+1)),.int .i64 0,.int .i64 0]).bind fun h20 =>
 go (.pt kd1 kgo [(0,.ptr a1)]) h20) (
 (go (.fn kii [.ptr a1]) q6.2).bind fun q21 =>
 (AV.asAgg q21.1).bind fun cs22 =>
 cond (Nat.beq cs22.length 7) (
 ((cs22[0]?).bind AV.asBool).bind fun b23 =>
 ((cs22[1]?).bind (AV.asInt .i64)).bind fun n24 =>
 ((cs22[2]?).bind (AV.asInt .i64)).bind fun n25 =>
 ((cs22[3]?).bind (AV.asInt .i64)).bind fun n26 =>
 ((cs22[4]?).bind (AV.asInt .i64)).bind fun n27 =>
 ((cs22[5]?).bind (AV.asInt .i64)).bind fun n28 =>
 ((cs22[6]?).bind (AV.asInt .i64)).bind fun n29 =>
 newK q21.2 (.cells [.bool false,.int .i64 0,.int .i64 0,.int .i64 0,.int .i64 0,.int .i64 0,.int .i64 0] kbc) fun h30r h30 =>
 (h30.puts h30r [.bool b23,.int .i64 n24,.int .i64 n25,.int .i64 n26,.int .i64 n27,.int .i64 n28,.int .i64 n29]).bind fun h31 =>
 ((h31.cell (h30r.add 0)).bind AV.asBool).bind fun b32 =>
 cond b32 (
 a1.bind fun r33 =>
 ((h31.cell (r33.add 7)).bind AV.asSl).bind fun l34 =>
 a1.bind fun r35 =>
 (idx (some (r35.add 4)) 3 0 1).bind fun r36 =>
 ((h31.cell r36).bind (AV.asInt .i64)).bind fun n37 =>
 (idx l34.ref l34.len n37 1).bind fun r38 =>
 ((h31.cell r38).bind (AV.asInt .i64)).bind fun n39 =>
 ((h31.cell (h30r.add 1)).bind (AV.asInt .i64)).bind fun n40 =>
 (idx l34.ref l34.len n37 1).bind fun r41 =>
 (h31.puts r41 [.int .i64 (IntKind.wrap .i64 (n39+n40))]).bind fun h42 =>
 a1.bind fun r43 =>
 (idx (some (r43.add 4)) 3 0 1).bind fun r44 =>
 ((h42.cell r44).bind (AV.asInt .i64)).bind fun n45 =>
 a1.bind fun r46 =>
 (idx (some (r46.add 4)) 3 1 1).bind fun r47 =>
 ((h42.cell r47).bind (AV.asInt .i64)).bind fun n48 =>
 a1.bind fun r49 =>
 (h42.puts (r49.add 4) [.int .i64 n45,.int .i64 (IntKind.wrap .i64 (n48+1)),.int .i64 0]).bind fun h50 =>
 go (.pt kd1 kgo [(0,.ptr a1)]) h50) (
 ((h31.cell (h30r.add 2)).bind (AV.asInt .i64)).bind fun n51 =>
 cond (!decide (n51=0)) (
 some (.tup [],h31)) (
 ((h31.cell (h30r.add 0)).bind AV.asBool).bind fun b52 =>
 ((h31.cell (h30r.add 1)).bind (AV.asInt .i64)).bind fun n53 =>
 ((h31.cell (h30r.add 2)).bind (AV.asInt .i64)).bind fun n54 =>
 ((h31.cell (h30r.add 3)).bind (AV.asInt .i64)).bind fun n55 =>
 ((h31.cell (h30r.add 4)).bind (AV.asInt .i64)).bind fun n56 =>
 ((h31.cell (h30r.add 5)).bind (AV.asInt .i64)).bind fun n57 =>
 ((h31.cell (h30r.add 6)).bind (AV.asInt .i64)).bind fun n58 =>
 a1.bind fun r59 =>
 ((h31.cell ((r59.add 1).add 2)).bind AV.asSl).bind fun l60 =>
 ((h31.cell (h30r.add 3)).bind (AV.asInt .i64)).bind fun n61 =>
 (idx l60.ref l60.len n61 1).bind fun r62 =>
 ((h31.cell r62).bind AV.asSl).bind fun l63 =>
 a1.bind fun r64 =>
 (idx (some (r64.add 4)) 3 0 1).bind fun r65 =>
 ((h31.cell r65).bind (AV.asInt .i64)).bind fun n66 =>
 (idx l63.ref l63.len n66 1).bind fun r67 =>
 ((h31.cell r67).bind (AV.asInt .i64)).bind fun n68 =>
 ((h31.cell (h30r.add 4)).bind (AV.asInt .i64)).bind fun n69 =>
 a1.bind fun r70 =>
 (go (.fn kjt [.agg [.bool b52,.int .i64 n53,.int .i64 n54,.int .i64 n55,.int .i64 n56,.int .i64 n57,.int .i64 n58],.bool (decide (n68≤n69))]) h31).bind fun q71 =>
 ((some q71.1).bind (AV.asInt .i64)).bind fun n72 =>
 (idx (some (r70.add 4)) 3 2 1).bind fun r73 =>
 (q71.2.puts r73 [.int .i64 n72]).bind fun h74 =>
 go (.pt kd1 kgo [(0,.ptr a1)]) h74))) none)) (
 some (.tup [],q6.2)))) none:=(ke _ h).trans (by kernel_rfl)
theorem k2b(a1:Option Ref)(a2:Int)(h:AH):go (.fn knd [.ptr a1,.int .i64 a2]) h =
 cond (decide (a2≥0)) (
 a1.bind fun r3 =>
 ((h.cell (r3.add 1)).bind (AV.asInt .i64)).bind fun n4 =>
 cond (decide (a2<n4)) (
 a1.bind fun r5 =>
 ((h.cell (r5.add 0)).bind (AV.asInt .i64)).bind fun n6 =>
 cond (!decide (a2=n6)) (
 a1.bind fun r7 =>
 ((h.cell (r7.add 0)).bind (AV.asInt .i64)).bind fun n8 =>
 cond (decide (n8=0)) (
 some (.bool true,h)) (
 some (.bool (decide (a2=0)),h))) (
 some (.bool false,h))) (
 some (.bool false,h))) (
 some (.bool false,h)):=(ke _ h).trans (by kernel_rfl)
theorem k27(a1:Sl)(h:AH):go (.fn kca [a1.v,.func (.func kda) [] []]) h =
 (go (.fn kba [a1.v,.func (.func kda) [] []]) h).bind fun q2 =>
 ((some q2.1).bind (AV.asInt .i64)).bind fun n3 =>
 some (.bool (decide (n3≥0)),q2.2):=(ke _ h).trans (by kernel_rfl)
theorem k4t(a1:Option Ref)(h:AH):go (.fn kng [.ptr a1]) h =
 a1.bind fun r2 =>
 ((h.cell (r2.add 0)).bind AV.asPtr).bind fun p3 =>
 (go (.fn knm [.ptr p3]) h).bind fun q4 =>
 (AV.asTup2 q4.1).bind fun p5 =>
 ((some p5.1).bind (AV.asInt .i64)).bind fun n6 =>
 ((some p5.2).bind (AV.asInt .i64)).bind fun n7 =>
 some (.bool (decide (n6=0)),q4.2):=(ke _ h).trans (by kernel_rfl)
theorem kbb5(a1 a2 a3 a4:Int)(a5 a6 a7:Sl)(h:AH):go (.fn kby [.agg [.int .i64 a1,.int .i64 a2,.int .i64 a3,.int .i64 a4,a5.v,a6.v,a7.v]]) h =
 newK h (.cells [.int .i64 a1,.int .i64 a2,.int .i64 a3,.int .i64 a4,a5.v,a6.v,a7.v] kbu) fun h8r h8 =>
 (go (.fn kn6 []) h8).bind fun q9 =>
 (AV.asAgg q9.1).bind fun cs10 =>
 cond (Nat.beq cs10.length 48) (
 ((cs10[0]?).bind (AV.asInt .i64)).bind fun n11 =>
 ((cs10[1]?).bind AV.asBool).bind fun b12 =>
 ((cs10[2]?).bind AV.asBool).bind fun b13 =>
 ((cs10[3]?).bind AV.asBool).bind fun b14 =>
 ((cs10[4]?).bind (AV.asInt .i64)).bind fun n15 =>
 ((cs10[5]?).bind AV.asBool).bind fun b16 =>
 ((cs10[6]?).bind AV.asBool).bind fun b17 =>
 ((cs10[7]?).bind AV.asBool).bind fun b18 =>
 ((cs10[8]?).bind (AV.asInt .i64)).bind fun n19 =>
 ((cs10[9]?).bind AV.asBool).bind fun b20 =>
 ((cs10[10]?).bind AV.asBool).bind fun b21 =>
 ((cs10[11]?).bind AV.asBool).bind fun b22 =>
 ((cs10[12]?).bind (AV.asInt .i64)).bind fun n23 =>
 ((cs10[13]?).bind AV.asBool).bind fun b24 =>
 ((cs10[14]?).bind AV.asBool).bind fun b25 =>
 ((cs10[15]?).bind AV.asBool).bind fun b26 =>
 ((cs10[16]?).bind (AV.asInt .i64)).bind fun n27 =>
 ((cs10[17]?).bind AV.asBool).bind fun b28 =>
 ((cs10[18]?).bind AV.asBool).bind fun b29 =>
 ((cs10[19]?).bind AV.asBool).bind fun b30 =>
 ((cs10[20]?).bind (AV.asInt .i64)).bind fun n31 =>
 ((cs10[21]?).bind AV.asBool).bind fun b32 =>
 ((cs10[22]?).bind AV.asBool).bind fun b33 =>
 ((cs10[23]?).bind AV.asBool).bind fun b34 =>
 ((cs10[24]?).bind (AV.asInt .i64)).bind fun n35 =>
 ((cs10[25]?).bind AV.asBool).bind fun b36 =>
 ((cs10[26]?).bind AV.asBool).bind fun b37 =>
 ((cs10[27]?).bind AV.asBool).bind fun b38 =>
 ((cs10[28]?).bind (AV.asInt .i64)).bind fun n39 =>
 ((cs10[29]?).bind AV.asBool).bind fun b40 =>
 ((cs10[30]?).bind AV.asBool).bind fun b41 =>
 ((cs10[31]?).bind AV.asBool).bind fun b42 =>
 ((cs10[32]?).bind (AV.asInt .i64)).bind fun n43 =>
 ((cs10[33]?).bind AV.asBool).bind fun b44 =>
 ((cs10[34]?).bind AV.asBool).bind fun b45 =>
 ((cs10[35]?).bind AV.asBool).bind fun b46 =>
 ((cs10[36]?).bind (AV.asInt .i64)).bind fun n47 =>
 ((cs10[37]?).bind AV.asBool).bind fun b48 =>
 ((cs10[38]?).bind AV.asBool).bind fun b49 =>
 ((cs10[39]?).bind AV.asBool).bind fun b50 =>
 ((cs10[40]?).bind (AV.asInt .i64)).bind fun n51 =>
 ((cs10[41]?).bind AV.asBool).bind fun b52 =>
 ((cs10[42]?).bind AV.asBool).bind fun b53 =>
 ((cs10[43]?).bind AV.asBool).bind fun b54 =>
 ((cs10[44]?).bind (AV.asInt .i64)).bind fun n55 =>
 ((cs10[45]?).bind AV.asBool).bind fun b56 =>
 ((cs10[46]?).bind AV.asBool).bind fun b57 =>
 ((cs10[47]?).bind AV.asBool).bind fun b58 =>
 newK q9.2 (.cells [.int .i64 0,.bool false,.bool false,.bool false,.int .i64 0,.bool false,.bool false,.bool false,.int .i64 0,.bool false,.bool false,.bool false,.int .i64 0,.bool false,.bool false,.bool false,.int .i64 0,.bool false,.bool false,.bool false,.int .i64 0,.bool false,.bool false,.bool false,.int .i64 0,.bool false,.bool false,.bool false,.int .i64 0,.bool false,.bool false,.bool false,.int .i64 0,.bool false,.bool false,.bool false,.int .i64 0,.bool false,.bool false,.bool false,.int .i64 0,.bool false,.bool false,.bool false,.int .i64 0,.bool false,.bool false,.bool false] kui) fun h59r h59 =>
 (h59.puts h59r [.int .i64 n11,.bool b12,.bool b13,.bool b14,.int .i64 n15,.bool b16,.bool b17,.bool b18,.int .i64 n19,.bool b20,.bool b21,.bool b22,.int .i64 n23,.bool b24,.bool b25,.bool b26,.int .i64 n27,.bool b28,.bool b29,.bool b30,.int .i64 n31,.bool b32,.bool b33,.bool b34,.int .i64 n35,.bool b36,.bool b37,.bool b38,.int .i64 n39,.bool b40,.bool b41,.bool b42,.int .i64 n43,.bool b44,.bool b45,.bool b46,.int .i64 n47,.bool b48,.bool b49,.bool b50,.int .i64 n51,.bool b52,.bool b53,.bool b54,.int .i64 n55,.bool b56,.bool b57,.bool b58]).bind fun h60 =>
 ((h60.cell (h8r.add 0)).bind (AV.asInt .i64)).bind fun n61 =>
 cond (decide (n61<1)) (
 some (.bool false,h60)) (
 ((h60.cell (h8r.add 0)).bind (AV.asInt .i64)).bind fun n62 =>
 cond (decide (n62≥12)) (
 some (.bool false,h60)) (
 ((h60.cell (h8r.add 1)).bind (AV.asInt .i64)).bind fun n63 =>
 (go (.fn kbq [.int .i64 n63]) h60).bind fun q64 =>
 ((some q64.1).bind AV.asBool).bind fun b65 =>
 cond b65 (
 some (.bool false,q64.2)) (
 ((q64.2.cell (h8r.add 2)).bind (AV.asInt .i64)).bind fun n66 =>
 (go (.fn kbq [.int .i64 n66]) q64.2).bind fun q67 =>
 ((some q67.1).bind AV.asBool).bind fun b68 =>
 cond b68 (
 some (.bool false,q67.2)) (
 ((q67.2.cell (h8r.add 3)).bind (AV.asInt .i64)).bind fun n69 =>
 (go (.fn kbq [.int .i64 n69]) q67.2).bind fun q70 =>
 ((some q70.1).bind AV.asBool).bind fun b71 =>
 cond b71 (
 some (.bool false,q70.2)) (
 ((q70.2.cell (h8r.add 0)).bind (AV.asInt .i64)).bind fun n72 =>
 (idx (some h59r) 12 n72 4).bind fun r73 =>
 ((q70.2.cell (r73.add 0)).bind (AV.asInt .i64)).bind fun n74 =>
 ((q70.2.cell (r73.add 1)).bind AV.asBool).bind fun b75 =>
 ((q70.2.cell (r73.add 2)).bind AV.asBool).bind fun b76 =>
 ((q70.2.cell (r73.add 3)).bind AV.asBool).bind fun b77 =>
 newK q70.2 (.cells [.int .i64 0,.bool false,.bool false,.bool false] koz) fun h78r h78 =>
 (h78.puts h78r [.int .i64 n74,.bool b75,.bool b76,.bool b77]).bind fun h79 =>
 ((h79.cell (h8r.add 1)).bind (AV.asInt .i64)).bind fun n80 =>
 ((h79.cell (h8r.add 2)).bind (AV.asInt .i64)).bind fun n81 =>
 ((h79.cell (h8r.add 3)).bind (AV.asInt .i64)).bind fun n82 =>
 newK h79 (.cells [.int .i64 n80,.int .i64 n81,.int .i64 n82] T.int) fun h83r h83 =>
 go (.pt kby kez [(1,.ptr (some h8r)),(4,.ptr (some h78r)),(43,(⟨some h83r,3,.is 3⟩:Sl).v),(44,.int .i64 3),(45,.int .i64 0)]) h83)))))) none:=(ke _ h).trans (by kernel_rfl)
theorem k5u(a1:Option Ref)(a2:Int)(h:AH):go (.fn kf8 [.ptr a1,.int .i64 a2]) h =
 a1.bind fun r3 =>
 ((h.cell (r3.add 0)).bind AV.asPtr).bind fun p4 =>
 (go (.fn krh [.ptr p4,.int .i64 a2]) h).bind fun q5 =>
 ((some q5.1).bind (AV.asInt .i64)).bind fun n6 =>
 newK q5.2 (.cells [.int .i64 11,.int .i64 a2,.int .i64 0,.int .i64 0,(⟨none,0,.is 0⟩:Sl).v,(⟨none,0,.is 0⟩:Sl).v,(⟨none,0,.is 0⟩:Sl).v] kbu) fun h7r h7 =>
 some ((⟨some h7r,1,.is 1⟩:Sl).v,h7):=(ke _ h).trans (by kernel_rfl)
theorem k7s(a1:Option Ref)(a2 a3 a4 a5 a6:Int)(a7 a8 a9:Sl)(h:AH):go (.fn knl [.ptr a1,.int .i64 a2,.agg [.int .i64 a3,.int .i64 a4,.int .i64 a5,.int .i64 a6,a7.v,a8.v,a9.v]]) h =
 newK h (.cells [.int .i64 a3,.int .i64 a4,.int .i64 a5,.int .i64 a6,a7.v,a8.v,a9.v] kbu) fun h10r h10 =>
 a1.bind fun r11 =>
 ((h10.cell (r11.add 4)).bind (AV.asInt .i64)).bind fun n12 =>
 cond (!decide (n12=0)) (
 some (.int .i64 17,h10)) (
 (go (.fn knd [.ptr a1,.int .i64 a2]) h10).bind fun q13 =>
 ((some q13.1).bind AV.asBool).bind fun b14 =>
 cond (!b14) (
 some (.int .i64 1,q13.2)) (
 ((q13.2.cell (h10r.add 0)).bind (AV.asInt .i64)).bind fun n15 =>
 cond (decide (n15=11)) (
 ((q13.2.cell (h10r.add 1)).bind (AV.asInt .i64)).bind fun n16 =>
 cond (decide (n16≥1)) (
 ((q13.2.cell (h10r.add 1)).bind (AV.asInt .i64)).bind fun n17 =>
 cond (decide (n17≤1000)) (
 ((q13.2.cell (h10r.add 1)).bind (AV.asInt .i64)).bind fun n18 =>
 (go (.fn kfb [.ptr a1,.int .i64 2,.int .i64 n18]) q13.2).bind fun q19 =>
 (AV.asTup0 q19.1).bind fun _ =>
 some (.int .i64 0,q19.2)) (
 (go (.fn kfb [.ptr a1,.int .i64 2,.int .i64 18]) q13.2).bind fun q20 =>
 (AV.asTup0 q20.1).bind fun _ =>
 some (.int .i64 0,q20.2))) (
 (go (.fn kfb [.ptr a1,.int .i64 2,.int .i64 18]) q13.2).bind fun q21 =>
 (AV.asTup0 q21.1).bind fun _ =>
 some (.int .i64 0,q21.2))) (
 a1.bind fun r22 =>
 ((q13.2.cell (r22.add 6)).bind AV.asMap).bind fun m23 =>
 ((q13.2.cell (h10r.add 0)).bind (AV.asInt .i64)).bind fun n24 =>
 (mapGet q13.2 m23 .i64 a2).bind fun q25 =>
 (AV.asAgg (q25.getD (.agg [.int .i64 0,(⟨none,0,.is 0⟩:Sl).v]))).bind fun cs26 =>
 cond (Nat.beq cs26.length 2) (
 ((cs26[0]?).bind (AV.asInt .i64)).bind fun n27 =>
 ((cs26[1]?).bind AV.asSl).bind fun l28 =>
 whenK (SameAt q13.2 q13.2 (h10r.add 0) 1) (
 (go (.fn koq [l28.v,.int .i64 n24]) q13.2).bind fun q29 =>
 ((some q29.1).bind AV.asBool).bind fun b30 =>
 cond (!b30) (
 (go (.fn kfb [.ptr a1,.int .i64 2,.int .i64 18]) q29.2).bind fun q31 =>
 (AV.asTup0 q31.1).bind fun _ =>
 some (.int .i64 18,q31.2)) (
 a1.bind fun r32 =>
 ((q29.2.cell (r32.add 6)).bind AV.asMap).bind fun m33 =>
 (mapDel q29.2 m33 .i64 a2).bind fun h34 =>
 some (.int .i64 0,h34)))) none))):=(ke _ h).trans (by kernel_rfl)
theorem ky5  (h:AH):go (.fn kov []) h =
 newM h (.map [] 0) fun h1m h1 =>
 newK h1 (.cells [.int .i64 3] T.int) fun h2r h2 =>
 (mapPut h2 h1m .i64 1 (.agg [.func (.func kgx) [] [],(⟨some h2r,1,.is 1⟩:Sl).v])).bind fun h3 =>
 newK h3 (.cells [.int .i64 3,.int .i64 4,.int .i64 10] T.int) fun h4r h4 =>
 (mapPut h4 h1m .i64 3 (.agg [.func (.func kdt) [] [],(⟨some h4r,3,.is 3⟩:Sl).v])).bind fun h5 =>
 newK h5 (.cells [.int .i64 3,.int .i64 4,.int .i64 6,.int .i64 10] T.int) fun h6r h6 =>
 (mapPut h6 h1m .i64 4 (.agg [.func (.func kdj) [] [],(⟨some h6r,4,.is 4⟩:Sl).v])).bind fun h7 =>
 newK h7 (.cells [.int .i64 3,.int .i64 4,.int .i64 6,.int .i64 10] T.int) fun h8r h8 =>
 (mapPut h8 h1m .i64 6 (.agg [.func (.func ko4) [] [],(⟨some h8r,4,.is 4⟩:Sl).v])).bind fun h9 =>
 (mapPut h9 h1m .i64 10 (.agg [.func (.func kow) [] [],(⟨none,0,.is 0⟩:Sl).v])).bind fun h10 =>
 some (.map (some h1m),h10):=(ke _ h).trans (by kernel_rfl)
theorem k68(a1:Sl)(a2:Int)(h:AH):go (.fn kf4 [a1.v,.int .i64 a2]) h =
 go (.pt kf4 kmf [(0,a1.v),(1,.int .i64 a2),(5,.int .i64 0)]) h:=(ke _ h).trans (by kernel_rfl)
theorem k94(a1:Option Ref)(a2:Int)(h:AH):go (.fn kpa [.ptr a1,.int .i64 a2]) h =
 newK h (.cells [.int .i64 0,.int .i64 0] kbp) fun h3r h3 =>
 cond (decide (a2<0)) (
 (h3.puts h3r [.int .i64 0,.int .i64 0]).bind fun h4 =>
 ((h4.cell (h3r.add 0)).bind (AV.asInt .i64)).bind fun n5 =>
 ((h4.cell (h3r.add 1)).bind (AV.asInt .i64)).bind fun n6 =>
 some (.tup [.int .i64 0,.int .i64 0,.agg [.int .i64 n5,.int .i64 n6],.bool false],h4)) (
 a1.bind fun r7 =>
 ((h3.cell (r7.add 0)).bind AV.asSl).bind fun l8 =>
 cond (decide (a2≥(l8.len:Int))) (
 (h3.puts h3r [.int .i64 0,.int .i64 0]).bind fun h9 =>
 ((h9.cell (h3r.add 0)).bind (AV.asInt .i64)).bind fun n10 =>
 ((h9.cell (h3r.add 1)).bind (AV.asInt .i64)).bind fun n11 =>
 some (.tup [.int .i64 0,.int .i64 0,.agg [.int .i64 n10,.int .i64 n11],.bool false],h9)) (
 a1.bind fun r12 =>
 ((h3.cell (r12.add 0)).bind AV.asSl).bind fun l13 =>
 (idx l13.ref l13.len a2 4).bind fun r14 =>
 ((h3.cell (r14.add 0)).bind (AV.asInt .i64)).bind fun n15 =>
 ((h3.cell (r14.add 1)).bind (AV.asInt .i64)).bind fun n16 =>
 ((h3.cell (r14.add 2)).bind (AV.asInt .i64)).bind fun n17 =>
 ((h3.cell (r14.add 3)).bind (AV.asInt .i64)).bind fun n18 =>
 newK h3 (.cells [.int .i64 0,.int .i64 0,.int .i64 0,.int .i64 0] kcr) fun h19r h19 =>
 (h19.puts h19r [.int .i64 n15,.int .i64 n16,.int .i64 n17,.int .i64 n18]).bind fun h20 =>
 (idx (some (h19r.add 2)) 2 0 1).bind fun r21 =>
 ((h20.cell r21).bind (AV.asInt .i64)).bind fun n22 =>
 (idx (some (h19r.add 2)) 2 1 1).bind fun r23 =>
 ((h20.cell r23).bind (AV.asInt .i64)).bind fun n24 =>
 ((h20.cell ((h19r.add 0).add 0)).bind (AV.asInt .i64)).bind fun n25 =>
 ((h20.cell ((h19r.add 0).add 1)).bind (AV.asInt .i64)).bind fun n26 =>
 (h20.puts h3r [.int .i64 n25,.int .i64 n26]).bind fun h27 =>
 ((h27.cell (h3r.add 0)).bind (AV.asInt .i64)).bind fun n28 =>
 ((h27.cell (h3r.add 1)).bind (AV.asInt .i64)).bind fun n29 =>
 some (.tup [.int .i64 n22,.int .i64 n24,.agg [.int .i64 n28,.int .i64 n29],.bool true],h27))):=(ke _ h).trans (by kernel_rfl)
theorem k23(a1:Option Ref)(h:AH):go (.fn kii [.ptr a1]) h =
 newK h (.cells [.bool false,.int .i64 0,.int .i64 0,.int .i64 0,.int .i64 0,.int .i64 0,.int .i64 0] kbc) fun h2r h2 =>
 a1.bind fun r3 =>
 ((h2.cell (r3.add 0)).bind AV.asSl).bind fun l4 =>
 a1.bind fun r5 =>
 (idx (some (r5.add 4)) 3 1 1).bind fun r6 =>
 ((h2.cell r6).bind (AV.asInt .i64)).bind fun n7 =>
 (idx l4.ref l4.len n7 1).bind fun r8 =>
 ((h2.cell (r8.add 0)).bind AV.asSl).bind fun l9 =>
 a1.bind fun r10 =>
 (idx (some (r10.add 4)) 3 2 1).bind fun r11 =>
 ((h2.cell r11).bind (AV.asInt .i64)).bind fun n12 =>
 (idx l9.ref l9.len n12 7).bind fun r13 =>
 ((h2.cell (r13.add 0)).bind AV.asBool).bind fun b14 =>
 ((h2.cell (r13.add 1)).bind (AV.asInt .i64)).bind fun n15 =>
 ((h2.cell (r13.add 2)).bind (AV.asInt .i64)).bind fun n16 =>
 ((h2.cell (r13.add 3)).bind (AV.asInt .i64)).bind fun n17 =>
 ((h2.cell (r13.add 4)).bind (AV.asInt .i64)).bind fun n18 =>
 ((h2.cell (r13.add 5)).bind (AV.asInt .i64)).bind fun n19 =>
 ((h2.cell (r13.add 6)).bind (AV.asInt .i64)).bind fun n20 =>
 (h2.puts h2r [.bool b14,.int .i64 n15,.int .i64 n16,.int .i64 n17,.int .i64 n18,.int .i64 n19,.int .i64 n20]).bind fun h21 =>
 ((h21.cell (h2r.add 0)).bind AV.asBool).bind fun b22 =>
 ((h21.cell (h2r.add 1)).bind (AV.asInt .i64)).bind fun n23 =>
 ((h21.cell (h2r.add 2)).bind (AV.asInt .i64)).bind fun n24 =>
 ((h21.cell (h2r.add 3)).bind (AV.asInt .i64)).bind fun n25 =>
 ((h21.cell (h2r.add 4)).bind (AV.asInt .i64)).bind fun n26 =>
 ((h21.cell (h2r.add 5)).bind (AV.asInt .i64)).bind fun n27 =>
 ((h21.cell (h2r.add 6)).bind (AV.asInt .i64)).bind fun n28 =>
 some (.agg [.bool b22,.int .i64 n23,.int .i64 n24,.int .i64 n25,.int .i64 n26,.int .i64 n27,.int .i64 n28],h21):=(ke _ h).trans (by kernel_rfl)
theorem k17(a1:Sl)(a2:Int)(h:AH):go (.fn kc0 [a1.v,.int .i64 a2]) h =
 go (.pt kc0 kjz [(0,a1.v),(1,.int .i64 a2),(5,(⟨none,0,.is 0⟩:Sl).v),(6,.int .i64 0)]) h:=(ke _ h).trans (by kernel_rfl)
theorem k5d(a1 a2:Sl)(h:AH):go (.fn kct [.agg [a1.v],a2.v]) h =
 newK h (.cells [a1.v] kbh) fun h3r h3 =>
 ((h3.cell (h3r.add 0)).bind AV.asSl).bind fun l4 =>
 (go (.fn kc4 [.agg [l4.v]]) h3).bind fun q5 =>
 ((some q5.1).bind AV.asBool).bind fun b6 =>
 cond (!b6) (
 some (.tup [.int .i64 0,.int .i64 1],q5.2)) (
 go (.pt kct kjk [(1,a2.v),(2,.ptr (some h3r)),(7,.int .i64 0),(8,.int .i64 0)]) q5.2):=(ke _ h).trans (by kernel_rfl)
theorem kbc4(a1:Bool)(a2 a3 a4 a5 a6 a7:Int)(a8:Bool)(h:AH):go (.fn kjt [.agg [.bool a1,.int .i64 a2,.int .i64 a3,.int .i64 a4,.int .i64 a5,.int .i64 a6,.int .i64 a7],.bool a8]) h =
 newK h (.cells [.bool a1,.int .i64 a2,.int .i64 a3,.int .i64 a4,.int .i64 a5,.int .i64 a6,.int .i64 a7] kbc) fun h9r h9 =>
 cond a8 (
 ((h9.cell (h9r.add 5)).bind (AV.asInt .i64)).bind fun n10 =>
 some (.int .i64 n10,h9)) (
 ((h9.cell (h9r.add 6)).bind (AV.asInt .i64)).bind fun n11 =>
 some (.int .i64 n11,h9)):=(ke _ h).trans (by kernel_rfl)
theorem kbb8(a1 a2:Sl)(h:AH):go (.fn kmm [a1.v,a2.v]) h =
 (go (.fn kih [a1.v]) h).bind fun q3 =>
 ((some q3.1).bind AV.asBool).bind fun b4 =>
 cond b4 (
 (go (.fn kqr [a1.v]) q3.2).bind fun q5 =>
 ((some q5.1).bind AV.asSl).bind fun l6 =>
 (go (.fn kox [a2.v,a1.v,l6.v]) q5.2).bind fun q7 =>
 ((some q7.1).bind AV.asBool).bind fun b8 =>
 some (.bool b8,q7.2)) (
 some (.bool false,q3.2)):=(ke _ h).trans (by kernel_rfl)
theorem k0q(a1:Int)(a2:Option Ref)(h:AH):go (.fn kcx [.int .i64 a1,.ptr a2]) h =
 cond (decide (a1<0)) (
 some (.bool true,h)) (
 a2.bind fun r3 =>
 ((h.cell r3).bind (AV.asInt .i64)).bind fun n4 =>
 some (.bool (decide (a1≥n4)),h)):=(ke _ h).trans (by kernel_rfl)
theorem k6a(a1:Sl)(h:AH):go (.fn kba [a1.v,.func (.func kcy) [] []]) h =
 go (.pt kba kbo [(0,a1.v),(1,.func (.func kcy) [] []),(7,.int .i64 (a1.len:Int)),(8,.int .i64 0)]) h:=(ke _ h).trans (by kernel_rfl)
theorem ksn(a1:Nat)(a2:Sl)(a3 a4:Int)(h:AH):go (.pt kgy kk5 [(3,.map (some a1)),(7,a2.v),(8,.int .i64 a3),(9,.int .i64 a4)]) h =
 cond (decide (a4<a3)) (
 (idx a2.ref a2.len a4 1).bind fun r5 =>
 ((h.cell r5).bind (AV.asInt .i64)).bind fun n6 =>
 (mapPut h a1 .i64 n6 (.int .i64 a4)).bind fun h7 =>
 go (.pt kgy kk5 [(3,.map (some a1)),(7,a2.v),(8,.int .i64 a3),(9,.int .i64 (IntKind.wrap .i64 (a4+1)))]) h7) (
 some (.map (some a1),h)):=(ke _ h).trans (by kernel_rfl)
theorem k2i(a1:Sl)(a2:Option Ref)(h:AH):go (.fn kba [a1.v,.func (.func kde) [] [.ptr a2]]) h =
 go (.pt kba kbo [(0,a1.v),(1,.func (.func kde) [] [.ptr a2]),(7,.int .i64 (a1.len:Int)),(8,.int .i64 0)]) h:=(ke _ h).trans (by kernel_rfl)
theorem kbey(a1:Option Ref)(a2:Int)(h:AH):go (.fn kg4 [.ptr a1,.int .i64 a2]) h =
 cond (decide (a2<1)) (
 some (.tup [.int .i64 0,.int .i64 1],h)) (
 (go (.fn kic [.int .u64 (IntKind.wrap .u64 a2)]) h).bind fun q3 =>
 ((some q3.1).bind AV.asSl).bind fun l4 =>
 (go (.fn kq4 [.ptr a1,l4.v]) q3.2).bind fun q5 =>
 (AV.asTup2 q5.1).bind fun p6 =>
 ((some p6.1).bind AV.asSl).bind fun l7 =>
 ((some p6.2).bind (AV.asInt .i64)).bind fun n8 =>
 (go (.fn kpo [l7.v]) q5.2).bind fun q9 =>
 (AV.asTup2 q9.1).bind fun p10 =>
 ((some p10.1).bind (AV.asInt .u64)).bind fun n11 =>
 ((some p10.2).bind AV.asBool).bind fun b12 =>
 some (.tup [.int .i64 (IntKind.wrap .i64 n11),.int .i64 n8],q9.2)):=(ke _ h).trans (by kernel_rfl)
theorem k0f(a1:Sl)(a2:Option Ref)(h:AH):go (.fn kbv [a1.v,.ptr a2]) h =
 a2.bind fun r3 =>
 ((h.cell r3).bind AV.asSl).bind fun l4 =>
 (go (.fn kmm [l4.v,a1.v]) h).bind fun q5 =>
 ((some q5.1).bind AV.asBool).bind fun b6 =>
 some (.bool (!b6),q5.2):=(ke _ h).trans (by kernel_rfl)
theorem kx0(a1 a2 a3 a4:Ref)(a5 a6 a7:Int)(h:AH):go (.pt kgz klz [(2,.func (.func kev) [] []),(3,.ptr (some a1)),(4,.ptr (some a2)),(6,.ptr (some a3)),(8,.ptr (some a4)),(9,.int .i64 a5),(35,.int .i64 a6),(36,.int .i64 a7)]) h =
 cond (decide (a7<a6)) (
 ((h.cell (a4.add 1)).bind AV.asSl).bind fun l8 =>
 ((h.cell (a1.add 1)).bind AV.asSl).bind fun l9 =>
 (idx l9.ref l9.len a7 1).bind fun r10 =>
 ((h.cell r10).bind (AV.asInt .u64)).bind fun n11 =>
 ((h.cell (a2.add 1)).bind AV.asSl).bind fun l12 =>
 (idx l12.ref l12.len a7 1).bind fun r13 =>
 ((h.cell r13).bind (AV.asInt .u64)).bind fun n14 =>
 (go (.fn kev [.int .u64 n11,.int .u64 n14]) h).bind fun q15 =>
 ((some q15.1).bind (AV.asInt .u64)).bind fun n16 =>
 whenK (SameAt h q15.2 (a4.add 1) 1) (
 (idx l8.ref l8.len a7 1).bind fun r17 =>
 (q15.2.puts r17 [.int .u64 n16]).bind fun h18 =>
 go (.pt kgz klz [(2,.func (.func kev) [] []),(3,.ptr (some a1)),(4,.ptr (some a2)),(6,.ptr (some a3)),(8,.ptr (some a4)),(9,.int .i64 a5),(35,.int .i64 a6),(36,.int .i64 (IntKind.wrap .i64 (a7+1)))]) h18)) (
 ((h.cell (a4.add 0)).bind (AV.asInt .i64)).bind fun n19 =>
 ((h.cell (a4.add 1)).bind AV.asSl).bind fun l20 =>
 (h.puts a3 [.int .i64 n19,l20.v]).bind fun h21 =>
 ((h21.cell (a3.add 0)).bind (AV.asInt .i64)).bind fun n22 =>
 ((h21.cell (a3.add 1)).bind AV.asSl).bind fun l23 =>
 some (.tup [.agg [.int .i64 n22,l23.v],.int .i64 a5],h21)):=(ke _ h).trans (by kernel_rfl)
theorem k3n(a1:Sl)(a2:AV)(h:AH):go (.fn kef [a1.v,a2]) h =
 newK h (.cells [a1.v] kbr) fun h3r h3 =>
 go (.pt kef kwz [(0,a1.v),(1,a2),(2,.ptr (some h3r)),(4,(⟨none,0,.is 0⟩:Sl).v),(6,a2)]) h3:=(ke _ h).trans (by kernel_rfl)
theorem kxv(a1:Sl)(a2 a3:Int)(h:AH):go (.pt kbe kb8 [(0,a1.v),(1,.func (.func kdq) [] []),(7,.int .i64 a2),(8,.int .i64 a3)]) h =
 cond (decide (a3<a2)) (
 (idx a1.ref a1.len a3 1).bind fun r4 =>
 ((h.cell r4).bind AV.asSl).bind fun l5 =>
 (go (.fn kdq [l5.v]) h).bind fun q6 =>
 ((some q6.1).bind AV.asBool).bind fun b7 =>
 cond b7 (
 some (.int .i64 a3,q6.2)) (
 go (.pt kbe kb8 [(0,a1.v),(1,.func (.func kdq) [] []),(7,.int .i64 a2),(8,.int .i64 (IntKind.wrap .i64 (a3+1)))]) q6.2)) (
 some (.int .i64 (-1),h)):=(ke _ h).trans (by kernel_rfl)
theorem k9s(a1 a2 a3:Int)(h:AH):go (.pt kbl kpi [(0,.int .u64 a1),(1,.int .u64 a2),(2,.int .u64 a3)]) h =
 cond (decide (a3≤a1)) (
 (h.cell (.old ⟨Gl.math_bits_overflowError,0,none⟩)).bind fun v4 =>
 none) (
 cond (decide (a1=0)) (
 cond (decide (a3=0)) none (
 cond (decide (a3=0)) none (
 some (.tup [.int .u64 (IntKind.wrap .u64 (Int.tdiv a2 a3)),.int .u64 (Int.tmod a2 a3)],h)))) (
 (go (.fn knj [.int .u64 a3]) h).bind fun q5 =>
 ((some q5.1).bind (AV.asInt .i64)).bind fun n6 =>
 cond (decide ((IntKind.wrap .u64 n6)<0)) none (
 cond (decide ((IntKind.wrap .u64 n6)<0)) none (
 cond (decide ((IntKind.wrap .u64 (64-(IntKind.wrap .u64 n6)))<0)) none (
 cond (decide ((IntKind.wrap .u64 n6)<0)) none (
 cond (decide ((ishr .u64 (ishl .u64 a3 (IntKind.wrap .u64 n6)) 32)=0)) none (
 go (.pt kbl kja [(2,.int .u64 (ishl .u64 a3 (IntKind.wrap .u64 n6))),(8,.int .u64 (IntKind.wrap .u64 n6)),(9,.int .u64 (ishr .u64 (ishl .u64 a3 (IntKind.wrap .u64 n6)) 32)),(10,.int .u64 (iand .u64 (ishl .u64 a3 (IntKind.wrap .u64 n6)) 4294967295)),(11,.int .u64 (ior .u64 (ishl .u64 a1 (IntKind.wrap .u64 n6)) (ishr .u64 a2 (IntKind.wrap .u64 (64-(IntKind.wrap .u64 n6)))))),(13,.int .u64 (ishr .u64 (ishl .u64 a2 (IntKind.wrap .u64 n6)) 32)),(14,.int .u64 (iand .u64 (ishl .u64 a2 (IntKind.wrap .u64 n6)) 4294967295)),(15,.int .u64 (IntKind.wrap .u64 (Int.tdiv (ior .u64 (ishl .u64 a1 (IntKind.wrap .u64 n6)) (ishr .u64 a2 (IntKind.wrap .u64 (64-(IntKind.wrap .u64 n6))))) (ishr .u64 (ishl .u64 a3 (IntKind.wrap .u64 n6)) 32)))),(16,.int .u64 (IntKind.wrap .u64 ((ior .u64 (ishl .u64 a1 (IntKind.wrap .u64 n6)) (ishr .u64 a2 (IntKind.wrap .u64 (64-(IntKind.wrap .u64 n6)))))-(IntKind.wrap .u64 ((IntKind.wrap .u64 (Int.tdiv (ior .u64 (ishl .u64 a1 (IntKind.wrap .u64 n6)) (ishr .u64 a2 (IntKind.wrap .u64 (64-(IntKind.wrap .u64 n6))))) (ishr .u64 (ishl .u64 a3 (IntKind.wrap .u64 n6)) 32)))*(ishr .u64 (ishl .u64 a3 (IntKind.wrap .u64 n6)) 32))))))]) q5.2))))))):=(ke _ h).trans (by kernel_rfl)
theorem k7z(a1 a2 a3 a4 a5:Int)(h:AH):go (.pt kes kka [(2,.int .u64 a1),(3,.int .u64 a2),(4,.int .u64 a3),(11,.int .u64 a4),(12,.int .u64 a5)]) h =
 (go (.fn knk [.int .u64 a4,.int .u64 a3]) h).bind fun q6 =>
 (AV.asTup2 q6.1).bind fun p7 =>
 ((some p7.1).bind (AV.asInt .u64)).bind fun n8 =>
 ((some p7.2).bind (AV.asInt .u64)).bind fun n9 =>
 cond (decide (n8<a5)) (
 some (.int .u64 a4,q6.2)) (
 cond (decide (n8=a5)) (
 cond (decide (n9≤a1)) (
 some (.int .u64 a4,q6.2)) (
 cond (decide ((IntKind.wrap .u64 (a5+a2))<a5)) (
 some (.int .u64 (IntKind.wrap .u64 (a4-1)),q6.2)) (
 go (.pt kes kka [(2,.int .u64 a1),(3,.int .u64 a2),(4,.int .u64 a3),(11,.int .u64 (IntKind.wrap .u64 (a4-1))),(12,.int .u64 (IntKind.wrap .u64 (a5+a2)))]) q6.2))) (
 cond (decide ((IntKind.wrap .u64 (a5+a2))<a5)) (
 some (.int .u64 (IntKind.wrap .u64 (a4-1)),q6.2)) (
 go (.pt kes kka [(2,.int .u64 a1),(3,.int .u64 a2),(4,.int .u64 a3),(11,.int .u64 (IntKind.wrap .u64 (a4-1))),(12,.int .u64 (IntKind.wrap .u64 (a5+a2)))]) q6.2))):=(ke _ h).trans (by kernel_rfl)
theorem kbeg(a1:Bool)(a2 a3 a4 a5 a6 a7 a8 a9:Int)(h:AH):go (.fn kkx [.agg [.bool a1,.int .i64 a2,.int .i64 a3,.int .i64 a4,.int .i64 a5,.int .i64 a6,.int .i64 a7],.int .i64 a8,.int .i64 a9]) h =
 newK h (.cells [.bool a1,.int .i64 a2,.int .i64 a3,.int .i64 a4,.int .i64 a5,.int .i64 a6,.int .i64 a7] kbc) fun h10r h10 =>
 newK h10 (.cells [.int .i64 a8] T.int) fun h11r h11 =>
 newK h11 (.cells [.int .i64 a9] T.int) fun h12r h12 =>
 newK h12 (.cells [.nilFunc] k4b) fun h13r h13 =>
 (h13.puts h13r [.func (.func kfd) [] []]).bind fun h14 =>
 ((h14.cell (h10r.add 0)).bind AV.asBool).bind fun b15 =>
 cond b15 (
 (h14.cell h13r).bind fun v16 =>
 ((h14.cell (h10r.add 1)).bind (AV.asInt .i64)).bind fun n17 =>
 yieldK v16 [.int .i64 n17,.int .i64 (-1099511627776),.int .i64 1099511627776] (fun y19 =>
 (go (.round y19.1 y19.2) h14).bind fun q18 =>
 ((some q18.1).bind AV.asBool).bind fun b21 =>
 cond b21 (
 ((q18.2.cell (h10r.add 0)).bind AV.asBool).bind fun b22 =>
 ((q18.2.cell (h10r.add 1)).bind (AV.asInt .i64)).bind fun n23 =>
 ((q18.2.cell (h10r.add 2)).bind (AV.asInt .i64)).bind fun n24 =>
 ((q18.2.cell (h10r.add 3)).bind (AV.asInt .i64)).bind fun n25 =>
 ((q18.2.cell (h10r.add 4)).bind (AV.asInt .i64)).bind fun n26 =>
 ((q18.2.cell (h10r.add 5)).bind (AV.asInt .i64)).bind fun n27 =>
 ((q18.2.cell (h10r.add 6)).bind (AV.asInt .i64)).bind fun n28 =>
 ((q18.2.cell (h10r.add 1)).bind (AV.asInt .i64)).bind fun n29 =>
 some (.bool ((b22==true)&&((decide (n23=n29))&&((decide (n24=0))&&((decide (n25=0))&&((decide (n26=0))&&((decide (n27=0))&&((decide (n28=0))&&true))))))),q18.2)) (
 some (.bool false,q18.2))) (
 (callV Pg go v16 [.int .i64 n17,.int .i64 (-1099511627776),.int .i64 1099511627776] h14).bind fun q20 =>
 ((some q20.1).bind AV.asBool).bind fun b30 =>
 cond b30 (
 ((q20.2.cell (h10r.add 0)).bind AV.asBool).bind fun b31 =>
 ((q20.2.cell (h10r.add 1)).bind (AV.asInt .i64)).bind fun n32 =>
 ((q20.2.cell (h10r.add 2)).bind (AV.asInt .i64)).bind fun n33 =>
 ((q20.2.cell (h10r.add 3)).bind (AV.asInt .i64)).bind fun n34 =>
 ((q20.2.cell (h10r.add 4)).bind (AV.asInt .i64)).bind fun n35 =>
 ((q20.2.cell (h10r.add 5)).bind (AV.asInt .i64)).bind fun n36 =>
 ((q20.2.cell (h10r.add 6)).bind (AV.asInt .i64)).bind fun n37 =>
 ((q20.2.cell (h10r.add 1)).bind (AV.asInt .i64)).bind fun n38 =>
 some (.bool ((b31==true)&&((decide (n32=n38))&&((decide (n33=0))&&((decide (n34=0))&&((decide (n35=0))&&((decide (n36=0))&&((decide (n37=0))&&true))))))),q20.2)) (
 some (.bool false,q20.2)))) (
 ((h14.cell (h10r.add 1)).bind (AV.asInt .i64)).bind fun n39 =>
 cond (decide (n39=0)) (
 (h14.cell h13r).bind fun v40 =>
 ((h14.cell (h10r.add 2)).bind (AV.asInt .i64)).bind fun n41 =>
 yieldK v40 [.int .i64 n41,.int .i64 0,.int .i64 15] (fun y43 =>
 (go (.round y43.1 y43.2) h14).bind fun q42 =>
 ((some q42.1).bind AV.asBool).bind fun b45 =>
 cond b45 (
 (q42.2.cell h13r).bind fun v46 =>
 ((q42.2.cell (h10r.add 3)).bind (AV.asInt .i64)).bind fun n47 =>
 yieldK v46 [.int .i64 n47,.int .i64 0,.int .i64 1073741824] (fun y49 =>
 (go (.round y49.1 y49.2) q42.2).bind fun q48 =>
 ((some q48.1).bind AV.asBool).bind fun b51 =>
 cond b51 (
 (q48.2.cell h13r).bind fun v52 =>
 ((q48.2.cell (h10r.add 4)).bind (AV.asInt .i64)).bind fun n53 =>
 yieldK v52 [.int .i64 n53,.int .i64 0,.int .i64 31] (fun y55 =>
 (go (.round y55.1 y55.2) q48.2).bind fun q54 =>
 ((some q54.1).bind AV.asBool).bind fun b57 =>
 cond b57 (
 ((q54.2.cell (h10r.add 5)).bind (AV.asInt .i64)).bind fun n58 =>
 (go (.fn kbx [.int .i64 n58,.ptr (some h13r),.ptr (some h11r),.ptr (some h12r)]) q54.2).bind fun q59 =>
 ((some q59.1).bind AV.asBool).bind fun b60 =>
 cond b60 (
 ((q59.2.cell (h10r.add 6)).bind (AV.asInt .i64)).bind fun n61 =>
 (go (.fn kbx [.int .i64 n61,.ptr (some h13r),.ptr (some h11r),.ptr (some h12r)]) q59.2).bind fun q62 =>
 ((some q62.1).bind AV.asBool).bind fun b63 =>
 cond b63 (
 ((q62.2.cell (h10r.add 5)).bind (AV.asInt .i64)).bind fun n64 =>
 ((q62.2.cell (h10r.add 6)).bind (AV.asInt .i64)).bind fun n65 =>
 some (.bool (!decide (n64=n65)),q62.2)) (
 some (.bool false,q62.2))) (
 some (.bool false,q59.2))) (
 some (.bool false,q54.2))) (
 (callV Pg go v52 [.int .i64 n53,.int .i64 0,.int .i64 31] q48.2).bind fun q56 =>
 ((some q56.1).bind AV.asBool).bind fun b66 =>
 cond b66 (
 ((q56.2.cell (h10r.add 5)).bind (AV.asInt .i64)).bind fun n67 =>
 (go (.fn kbx [.int .i64 n67,.ptr (some h13r),.ptr (some h11r),.ptr (some h12r)]) q56.2).bind fun q68 =>
 ((some q68.1).bind AV.asBool).bind fun b69 =>
 cond b69 (
 ((q68.2.cell (h10r.add 6)).bind (AV.asInt .i64)).bind fun n70 =>
 (go (.fn kbx [.int .i64 n70,.ptr (some h13r),.ptr (some h11r),.ptr (some h12r)]) q68.2).bind fun q71 =>
 ((some q71.1).bind AV.asBool).bind fun b72 =>
 cond b72 (
 ((q71.2.cell (h10r.add 5)).bind (AV.asInt .i64)).bind fun n73 =>
 ((q71.2.cell (h10r.add 6)).bind (AV.asInt .i64)).bind fun n74 =>
 some (.bool (!decide (n73=n74)),q71.2)) (
 some (.bool false,q71.2))) (
 some (.bool false,q68.2))) (
 some (.bool false,q56.2)))) (
 some (.bool false,q48.2))) (
 (callV Pg go v46 [.int .i64 n47,.int .i64 0,.int .i64 1073741824] q42.2).bind fun q50 =>
 ((some q50.1).bind AV.asBool).bind fun b75 =>
 cond b75 (
 (q50.2.cell h13r).bind fun v76 =>
 ((q50.2.cell (h10r.add 4)).bind (AV.asInt .i64)).bind fun n77 =>
 yieldK v76 [.int .i64 n77,.int .i64 0,.int .i64 31] (fun y79 =>
 (go (.round y79.1 y79.2) q50.2).bind fun q78 =>
 ((some q78.1).bind AV.asBool).bind fun b81 =>
 cond b81 (
 ((q78.2.cell (h10r.add 5)).bind (AV.asInt .i64)).bind fun n82 =>
 (go (.fn kbx [.int .i64 n82,.ptr (some h13r),.ptr (some h11r),.ptr (some h12r)]) q78.2).bind fun q83 =>
 ((some q83.1).bind AV.asBool).bind fun b84 =>
 cond b84 (
 ((q83.2.cell (h10r.add 6)).bind (AV.asInt .i64)).bind fun n85 =>
 (go (.fn kbx [.int .i64 n85,.ptr (some h13r),.ptr (some h11r),.ptr (some h12r)]) q83.2).bind fun q86 =>
 ((some q86.1).bind AV.asBool).bind fun b87 =>
 cond b87 (
 ((q86.2.cell (h10r.add 5)).bind (AV.asInt .i64)).bind fun n88 =>
 ((q86.2.cell (h10r.add 6)).bind (AV.asInt .i64)).bind fun n89 =>
 some (.bool (!decide (n88=n89)),q86.2)) (
 some (.bool false,q86.2))) (
 some (.bool false,q83.2))) (
 some (.bool false,q78.2))) (
 (callV Pg go v76 [.int .i64 n77,.int .i64 0,.int .i64 31] q50.2).bind fun q80 =>
 ((some q80.1).bind AV.asBool).bind fun b90 =>
 cond b90 (
 ((q80.2.cell (h10r.add 5)).bind (AV.asInt .i64)).bind fun n91 =>
 (go (.fn kbx [.int .i64 n91,.ptr (some h13r),.ptr (some h11r),.ptr (some h12r)]) q80.2).bind fun q92 =>
 ((some q92.1).bind AV.asBool).bind fun b93 =>
 cond b93 (
 ((q92.2.cell (h10r.add 6)).bind (AV.asInt .i64)).bind fun n94 =>
 (go (.fn kbx [.int .i64 n94,.ptr (some h13r),.ptr (some h11r),.ptr (some h12r)]) q92.2).bind fun q95 =>
 ((some q95.1).bind AV.asBool).bind fun b96 =>
 cond b96 (
 ((q95.2.cell (h10r.add 5)).bind (AV.asInt .i64)).bind fun n97 =>
 ((q95.2.cell (h10r.add 6)).bind (AV.asInt .i64)).bind fun n98 =>
 some (.bool (!decide (n97=n98)),q95.2)) (
 some (.bool false,q95.2))) (
 some (.bool false,q92.2))) (
 some (.bool false,q80.2)))) (
 some (.bool false,q50.2)))) (
 some (.bool false,q42.2))) (
 (callV Pg go v40 [.int .i64 n41,.int .i64 0,.int .i64 15] h14).bind fun q44 =>
 ((some q44.1).bind AV.asBool).bind fun b99 =>
 cond b99 (
 (q44.2.cell h13r).bind fun v100 =>
 ((q44.2.cell (h10r.add 3)).bind (AV.asInt .i64)).bind fun n101 =>
 yieldK v100 [.int .i64 n101,.int .i64 0,.int .i64 1073741824] (fun y103 =>
 (go (.round y103.1 y103.2) q44.2).bind fun q102 =>
 ((some q102.1).bind AV.asBool).bind fun b105 =>
 cond b105 (
 (q102.2.cell h13r).bind fun v106 =>
 ((q102.2.cell (h10r.add 4)).bind (AV.asInt .i64)).bind fun n107 =>
 yieldK v106 [.int .i64 n107,.int .i64 0,.int .i64 31] (fun y109 =>
 (go (.round y109.1 y109.2) q102.2).bind fun q108 =>
 ((some q108.1).bind AV.asBool).bind fun b111 =>
 cond b111 (
 ((q108.2.cell (h10r.add 5)).bind (AV.asInt .i64)).bind fun n112 =>
 (go (.fn kbx [.int .i64 n112,.ptr (some h13r),.ptr (some h11r),.ptr (some h12r)]) q108.2).bind fun q113 =>
 ((some q113.1).bind AV.asBool).bind fun b114 =>
 cond b114 (
 ((q113.2.cell (h10r.add 6)).bind (AV.asInt .i64)).bind fun n115 =>
 (go (.fn kbx [.int .i64 n115,.ptr (some h13r),.ptr (some h11r),.ptr (some h12r)]) q113.2).bind fun q116 =>
 ((some q116.1).bind AV.asBool).bind fun b117 =>
 cond b117 (
 ((q116.2.cell (h10r.add 5)).bind (AV.asInt .i64)).bind fun n118 =>
 ((q116.2.cell (h10r.add 6)).bind (AV.asInt .i64)).bind fun n119 =>
 some (.bool (!decide (n118=n119)),q116.2)) (
 some (.bool false,q116.2))) (
 some (.bool false,q113.2))) (
 some (.bool false,q108.2))) (
 (callV Pg go v106 [.int .i64 n107,.int .i64 0,.int .i64 31] q102.2).bind fun q110 =>
 ((some q110.1).bind AV.asBool).bind fun b120 =>
 cond b120 (
 ((q110.2.cell (h10r.add 5)).bind (AV.asInt .i64)).bind fun n121 =>
 (go (.fn kbx [.int .i64 n121,.ptr (some h13r),.ptr (some h11r),.ptr (some h12r)]) q110.2).bind fun q122 =>
 ((some q122.1).bind AV.asBool).bind fun b123 =>
 cond b123 (
 ((q122.2.cell (h10r.add 6)).bind (AV.asInt .i64)).bind fun n124 =>
 (go (.fn kbx [.int .i64 n124,.ptr (some h13r),.ptr (some h11r),.ptr (some h12r)]) q122.2).bind fun q125 =>
 ((some q125.1).bind AV.asBool).bind fun b126 =>
 cond b126 (
 ((q125.2.cell (h10r.add 5)).bind (AV.asInt .i64)).bind fun n127 =>
 ((q125.2.cell (h10r.add 6)).bind (AV.asInt .i64)).bind fun n128 =>
 some (.bool (!decide (n127=n128)),q125.2)) (
 some (.bool false,q125.2))) (
 some (.bool false,q122.2))) (
 some (.bool false,q110.2)))) (
 some (.bool false,q102.2))) (
 (callV Pg go v100 [.int .i64 n101,.int .i64 0,.int .i64 1073741824] q44.2).bind fun q104 =>
 ((some q104.1).bind AV.asBool).bind fun b129 =>
 cond b129 (
 (q104.2.cell h13r).bind fun v130 =>
 ((q104.2.cell (h10r.add 4)).bind (AV.asInt .i64)).bind fun n131 =>
 yieldK v130 [.int .i64 n131,.int .i64 0,.int .i64 31] (fun y133 =>
 (go (.round y133.1 y133.2) q104.2).bind fun q132 =>
 ((some q132.1).bind AV.asBool).bind fun b135 =>
 cond b135 (
 ((q132.2.cell (h10r.add 5)).bind (AV.asInt .i64)).bind fun n136 =>
 (go (.fn kbx [.int .i64 n136,.ptr (some h13r),.ptr (some h11r),.ptr (some h12r)]) q132.2).bind fun q137 =>
 ((some q137.1).bind AV.asBool).bind fun b138 =>
 cond b138 (
 ((q137.2.cell (h10r.add 6)).bind (AV.asInt .i64)).bind fun n139 =>
 (go (.fn kbx [.int .i64 n139,.ptr (some h13r),.ptr (some h11r),.ptr (some h12r)]) q137.2).bind fun q140 =>
 ((some q140.1).bind AV.asBool).bind fun b141 =>
 cond b141 (
 ((q140.2.cell (h10r.add 5)).bind (AV.asInt .i64)).bind fun n142 =>
 ((q140.2.cell (h10r.add 6)).bind (AV.asInt .i64)).bind fun n143 =>
 some (.bool (!decide (n142=n143)),q140.2)) (
 some (.bool false,q140.2))) (
 some (.bool false,q137.2))) (
 some (.bool false,q132.2))) (
 (callV Pg go v130 [.int .i64 n131,.int .i64 0,.int .i64 31] q104.2).bind fun q134 =>
 ((some q134.1).bind AV.asBool).bind fun b144 =>
 cond b144 (
 ((q134.2.cell (h10r.add 5)).bind (AV.asInt .i64)).bind fun n145 =>
 (go (.fn kbx [.int .i64 n145,.ptr (some h13r),.ptr (some h11r),.ptr (some h12r)]) q134.2).bind fun q146 =>
 ((some q146.1).bind AV.asBool).bind fun b147 =>
 cond b147 (
 ((q146.2.cell (h10r.add 6)).bind (AV.asInt .i64)).bind fun n148 =>
 (go (.fn kbx [.int .i64 n148,.ptr (some h13r),.ptr (some h11r),.ptr (some h12r)]) q146.2).bind fun q149 =>
 ((some q149.1).bind AV.asBool).bind fun b150 =>
 cond b150 (
 ((q149.2.cell (h10r.add 5)).bind (AV.asInt .i64)).bind fun n151 =>
 ((q149.2.cell (h10r.add 6)).bind (AV.asInt .i64)).bind fun n152 =>
 some (.bool (!decide (n151=n152)),q149.2)) (
 some (.bool false,q149.2))) (
 some (.bool false,q146.2))) (
 some (.bool false,q134.2)))) (
 some (.bool false,q104.2)))) (
 some (.bool false,q44.2)))) (
 some (.bool false,h14))):=(ke _ h).trans (by kernel_rfl)
theorem ksy(a1:Sl)(a2 a3:Option Ref)(a4 a5:Int)(h:AH):go (.pt khs klt [(0,a1.v),(1,.func (.func kb6) [] [.ptr a2,.ptr a3]),(7,.int .i64 a4),(8,.int .i64 a5)]) h =
 cond (decide (a5<a4)) (
 (idx a1.ref a1.len a5 7).bind fun r6 =>
 ((h.cell (r6.add 0)).bind AV.asBool).bind fun b7 =>
 ((h.cell (r6.add 1)).bind (AV.asInt .i64)).bind fun n8 =>
 ((h.cell (r6.add 2)).bind (AV.asInt .i64)).bind fun n9 =>
 ((h.cell (r6.add 3)).bind (AV.asInt .i64)).bind fun n10 =>
 ((h.cell (r6.add 4)).bind (AV.asInt .i64)).bind fun n11 =>
 ((h.cell (r6.add 5)).bind (AV.asInt .i64)).bind fun n12 =>
 ((h.cell (r6.add 6)).bind (AV.asInt .i64)).bind fun n13 =>
 (go (.fn kb6 [.agg [.bool b7,.int .i64 n8,.int .i64 n9,.int .i64 n10,.int .i64 n11,.int .i64 n12,.int .i64 n13],.ptr a2,.ptr a3]) h).bind fun q14 =>
 ((some q14.1).bind AV.asBool).bind fun b15 =>
 cond b15 (
 some (.int .i64 a5,q14.2)) (
 go (.pt khs klt [(0,a1.v),(1,.func (.func kb6) [] [.ptr a2,.ptr a3]),(7,.int .i64 a4),(8,.int .i64 (IntKind.wrap .i64 (a5+1)))]) q14.2)) (
 some (.int .i64 (-1),h)):=(ke _ h).trans (by kernel_rfl)
theorem ky3(a1:Sl)(h:AH):go (.fn kba [a1.v,.func (.func kda) [] []]) h =
 go (.pt kba kbo [(0,a1.v),(1,.func (.func kda) [] []),(7,.int .i64 (a1.len:Int)),(8,.int .i64 0)]) h:=(ke _ h).trans (by kernel_rfl)
theorem k7n(a1:Option Ref)(h:AH):go (.fn knm [.ptr a1]) h =
 a1.bind fun r2 =>
 ((h.cell (r2.add 4)).bind (AV.asInt .i64)).bind fun n3 =>
 a1.bind fun r4 =>
 ((h.cell (r4.add 5)).bind (AV.asInt .i64)).bind fun n5 =>
 some (.tup [.int .i64 n3,.int .i64 n5],h):=(ke _ h).trans (by kernel_rfl)
theorem ky8  (h:AH):go (.fn kn6 []) h =
 newK h (.cells [.int .i64 0,.bool false,.bool false,.bool false,.int .i64 0,.bool false,.bool false,.bool false,.int .i64 0,.bool false,.bool false,.bool false,.int .i64 0,.bool false,.bool false,.bool false,.int .i64 0,.bool false,.bool false,.bool false,.int .i64 0,.bool false,.bool false,.bool false,.int .i64 0,.bool false,.bool false,.bool false,.int .i64 0,.bool false,.bool false,.bool false,.int .i64 0,.bool false,.bool false,.bool false,.int .i64 0,.bool false,.bool false,.bool false,.int .i64 0,.bool false,.bool false,.bool false,.int .i64 0,.bool false,.bool false,.bool false] kui) fun h1r h1 =>
 (h1.puts h1r [.int .i64 0,.bool false,.bool false,.bool false,.int .i64 2,.bool false,.bool false,.bool true,.int .i64 2,.bool false,.bool false,.bool false,.int .i64 1,.bool false,.bool false,.bool true,.int .i64 2,.bool false,.bool true,.bool false,.int .i64 2,.bool true,.bool false,.bool true,.int .i64 2,.bool true,.bool false,.bool false,.int .i64 3,.bool false,.bool true,.bool false,.int .i64 2,.bool false,.bool false,.bool false,.int .i64 3,.bool false,.bool false,.bool false,.int .i64 1,.bool false,.bool false,.bool false,.int .i64 1,.bool false,.bool false,.bool false]).bind fun h2 =>
 ((h2.cell (h1r.add 0)).bind (AV.asInt .i64)).bind fun n3 =>
 ((h2.cell (h1r.add 1)).bind AV.asBool).bind fun b4 =>
 ((h2.cell (h1r.add 2)).bind AV.asBool).bind fun b5 =>
 ((h2.cell (h1r.add 3)).bind AV.asBool).bind fun b6 =>
 ((h2.cell (h1r.add 4)).bind (AV.asInt .i64)).bind fun n7 =>
 ((h2.cell (h1r.add 5)).bind AV.asBool).bind fun b8 =>
 ((h2.cell (h1r.add 6)).bind AV.asBool).bind fun b9 =>
 ((h2.cell (h1r.add 7)).bind AV.asBool).bind fun b10 =>
 ((h2.cell (h1r.add 8)).bind (AV.asInt .i64)).bind fun n11 =>
 ((h2.cell (h1r.add 9)).bind AV.asBool).bind fun b12 =>
 ((h2.cell (h1r.add 10)).bind AV.asBool).bind fun b13 =>
 ((h2.cell (h1r.add 11)).bind AV.asBool).bind fun b14 =>
 ((h2.cell (h1r.add 12)).bind (AV.asInt .i64)).bind fun n15 =>
 ((h2.cell (h1r.add 13)).bind AV.asBool).bind fun b16 =>
 ((h2.cell (h1r.add 14)).bind AV.asBool).bind fun b17 =>
 ((h2.cell (h1r.add 15)).bind AV.asBool).bind fun b18 =>
 ((h2.cell (h1r.add 16)).bind (AV.asInt .i64)).bind fun n19 =>
 ((h2.cell (h1r.add 17)).bind AV.asBool).bind fun b20 =>
 ((h2.cell (h1r.add 18)).bind AV.asBool).bind fun b21 =>
 ((h2.cell (h1r.add 19)).bind AV.asBool).bind fun b22 =>
 ((h2.cell (h1r.add 20)).bind (AV.asInt .i64)).bind fun n23 =>
 ((h2.cell (h1r.add 21)).bind AV.asBool).bind fun b24 =>
 ((h2.cell (h1r.add 22)).bind AV.asBool).bind fun b25 =>
 ((h2.cell (h1r.add 23)).bind AV.asBool).bind fun b26 =>
 ((h2.cell (h1r.add 24)).bind (AV.asInt .i64)).bind fun n27 =>
 ((h2.cell (h1r.add 25)).bind AV.asBool).bind fun b28 =>
 ((h2.cell (h1r.add 26)).bind AV.asBool).bind fun b29 =>
 ((h2.cell (h1r.add 27)).bind AV.asBool).bind fun b30 =>
 ((h2.cell (h1r.add 28)).bind (AV.asInt .i64)).bind fun n31 =>
 ((h2.cell (h1r.add 29)).bind AV.asBool).bind fun b32 =>
 ((h2.cell (h1r.add 30)).bind AV.asBool).bind fun b33 =>
 ((h2.cell (h1r.add 31)).bind AV.asBool).bind fun b34 =>
 ((h2.cell (h1r.add 32)).bind (AV.asInt .i64)).bind fun n35 =>
 ((h2.cell (h1r.add 33)).bind AV.asBool).bind fun b36 =>
 ((h2.cell (h1r.add 34)).bind AV.asBool).bind fun b37 =>
 ((h2.cell (h1r.add 35)).bind AV.asBool).bind fun b38 =>
 ((h2.cell (h1r.add 36)).bind (AV.asInt .i64)).bind fun n39 =>
 ((h2.cell (h1r.add 37)).bind AV.asBool).bind fun b40 =>
 ((h2.cell (h1r.add 38)).bind AV.asBool).bind fun b41 =>
 ((h2.cell (h1r.add 39)).bind AV.asBool).bind fun b42 =>
 ((h2.cell (h1r.add 40)).bind (AV.asInt .i64)).bind fun n43 =>
 ((h2.cell (h1r.add 41)).bind AV.asBool).bind fun b44 =>
 ((h2.cell (h1r.add 42)).bind AV.asBool).bind fun b45 =>
 ((h2.cell (h1r.add 43)).bind AV.asBool).bind fun b46 =>
 ((h2.cell (h1r.add 44)).bind (AV.asInt .i64)).bind fun n47 =>
 ((h2.cell (h1r.add 45)).bind AV.asBool).bind fun b48 =>
 ((h2.cell (h1r.add 46)).bind AV.asBool).bind fun b49 =>
 ((h2.cell (h1r.add 47)).bind AV.asBool).bind fun b50 =>
 some (.agg [.int .i64 n3,.bool b4,.bool b5,.bool b6,.int .i64 n7,.bool b8,.bool b9,.bool b10,.int .i64 n11,.bool b12,.bool b13,.bool b14,.int .i64 n15,.bool b16,.bool b17,.bool b18,.int .i64 n19,.bool b20,.bool b21,.bool b22,.int .i64 n23,.bool b24,.bool b25,.bool b26,.int .i64 n27,.bool b28,.bool b29,.bool b30,.int .i64 n31,.bool b32,.bool b33,.bool b34,.int .i64 n35,.bool b36,.bool b37,.bool b38,.int .i64 n39,.bool b40,.bool b41,.bool b42,.int .i64 n43,.bool b44,.bool b45,.bool b46,.int .i64 n47,.bool b48,.bool b49,.bool b50],h2):=(ke _ h).trans (by kernel_rfl)
theorem k62(a1:Int)(h:AH):go (.fn kbq [.int .i64 a1]) h =
 cond (decide (a1<0)) (
 some (.bool true,h)) (
 some (.bool (decide (a1>1073741824)),h)):=(ke _ h).trans (by kernel_rfl)
theorem kl4(a1 a2:Ref)(a3:Sl)(a4 a5:Int)(h:AH):go (.pt kby kez [(1,.ptr (some a1)),(4,.ptr (some a2)),(43,a3.v),(44,.int .i64 a4),(45,.int .i64 a5)]) h =
 cond (decide (a5<a4)) (
 (idx a3.ref a3.len a5 1).bind fun r6 =>
 ((h.cell r6).bind (AV.asInt .i64)).bind fun n7 =>
 ((h.cell (a2.add 0)).bind (AV.asInt .i64)).bind fun n8 =>
 cond (decide (a5≥n8)) (
 cond (!decide (n7=0)) (
 some (.bool false,h)) (
 go (.pt kby kez [(1,.ptr (some a1)),(4,.ptr (some a2)),(43,a3.v),(44,.int .i64 a4),(45,.int .i64 (IntKind.wrap .i64 (a5+1)))]) h)) (
 go (.pt kby kez [(1,.ptr (some a1)),(4,.ptr (some a2)),(43,a3.v),(44,.int .i64 a4),(45,.int .i64 (IntKind.wrap .i64 (a5+1)))]) h)) (
 ((h.cell (a1.add 4)).bind AV.asSl).bind fun l9 =>
 ((h.cell (a2.add 1)).bind AV.asBool).bind fun b10 =>
 (go (.fn km4 [l9.v,.bool b10,.func (.func kbq) [] []]) h).bind fun q11 =>
 ((some q11.1).bind AV.asBool).bind fun b12 =>
 cond (!b12) (
 some (.bool false,q11.2)) (
 ((q11.2.cell (a1.add 5)).bind AV.asSl).bind fun l13 =>
 ((q11.2.cell (a2.add 2)).bind AV.asBool).bind fun b14 =>
 (go (.fn km4 [l13.v,.bool b14,.func (.func kbq) [] []]) q11.2).bind fun q15 =>
 ((some q15.1).bind AV.asBool).bind fun b16 =>
 cond (!b16) (
 some (.bool false,q15.2)) (
 ((q15.2.cell (a1.add 6)).bind AV.asSl).bind fun l17 =>
 ((q15.2.cell (a2.add 3)).bind AV.asBool).bind fun b18 =>
 (go (.fn knp [l17.v,.bool b18,.func (.func kb9) [] []]) q15.2).bind fun q19 =>
 ((some q19.1).bind AV.asBool).bind fun b20 =>
 cond (!b20) (
 some (.bool false,q19.2)) (
 ((q19.2.cell (a1.add 5)).bind AV.asSl).bind fun l21 =>
 go (.pt kby kjg [(1,.ptr (some a1)),(84,.int .i64 (l21.len:Int)),(85,.int .i64 0)]) q19.2)))):=(ke _ h).trans (by kernel_rfl)
theorem k7o(a1:Option Ref)(a2:Int)(h:AH):go (.fn krh [.ptr a1,.int .i64 a2]) h =
 a1.bind fun r3 =>
 ((h.cell (r3.add 4)).bind (AV.asInt .i64)).bind fun n4 =>
 cond (!decide (n4=0)) (
 some (.int .i64 17,h)) (
 cond (decide (a2<1)) (
 some (.int .i64 1,h)) (
 cond (decide (a2>1000)) (
 some (.int .i64 1,h)) (
 (go (.fn kfb [.ptr a1,.int .i64 2,.int .i64 a2]) h).bind fun q5 =>
 (AV.asTup0 q5.1).bind fun _ =>
 some (.int .i64 0,q5.2)))):=(ke _ h).trans (by kernel_rfl)
theorem k0e(a1:Option Ref)(a2 a3:Int)(h:AH):go (.fn kfb [.ptr a1,.int .i64 a2,.int .i64 a3]) h =
 a1.bind fun r4 =>
 (h.puts (r4.add 4) [.int .i64 a2]).bind fun h5 =>
 a1.bind fun r6 =>
 (h5.puts (r6.add 5) [.int .i64 a3]).bind fun h7 =>
 a1.bind fun r8 =>
 ((h7.cell (r8.add 6)).bind AV.asMap).bind fun m9 =>
 (khv h7 m9).bind fun h10 =>
 some (.tup [],h10):=(ke _ h).trans (by kernel_rfl)
theorem k8c(a1:Sl)(a2:Int)(h:AH):go (.fn koq [a1.v,.int .i64 a2]) h =
 (go (.fn kh5 [a1.v,.int .i64 a2]) h).bind fun q3 =>
 ((some q3.1).bind (AV.asInt .i64)).bind fun n4 =>
 some (.bool (decide (n4≥0)),q3.2):=(ke _ h).trans (by kernel_rfl)
theorem kso(a1:Sl)(a2 a3:Int)(h:AH):go (.pt kf4 kmf [(0,a1.v),(1,.int .i64 a2),(5,.int .i64 a3)]) h =
 cond (decide (a3<(a1.len:Int))) (
 (idx a1.ref a1.len a3 1).bind fun r4 =>
 ((h.cell r4).bind (AV.asInt .i64)).bind fun n5 =>
 cond (decide (n5=a2)) (
 some (.int .i64 a3,h)) (
 go (.pt kf4 kmf [(0,a1.v),(1,.int .i64 a2),(5,.int .i64 (IntKind.wrap .i64 (a3+1)))]) h)) (
 some (.int .i64 (-1),h)):=(ke _ h).trans (by kernel_rfl)
theorem ktd(a1:Sl)(a2:Int)(a3:Sl)(a4:Int)(h:AH):go (.pt kc0 kjz [(0,a1.v),(1,.int .i64 a2),(5,a3.v),(6,.int .i64 a4)]) h =
 cond (decide (a4<(a1.len:Int))) (
 go (.pt kc0 kl2 [(0,a1.v),(1,.int .i64 a2),(5,a3.v),(6,.int .i64 a4),(7,(⟨none,0,.is 0⟩:Sl).v),(8,.int .i64 0)]) h) (
 some (a3.v,h)):=(ke _ h).trans (by kernel_rfl)
theorem kz7(a1:Sl)(h:AH):go (.fn kc4 [.agg [a1.v]]) h =
 newK h (.cells [a1.v] kbh) fun h2r h2 =>
 ((h2.cell (h2r.add 0)).bind AV.asSl).bind fun l3 =>
 cond (decide ((l3.len:Int)>16)) (
 some (.bool false,h2)) (
 go (.pt kc4 kiw [(1,.ptr (some h2r)),(3,.int .i64 0)]) h2):=(ke _ h).trans (by kernel_rfl)
theorem kt5(a1:Sl)(a2:Ref)(a3 a4:Int)(h:AH):go (.pt kct kjk [(1,a1.v),(2,.ptr (some a2)),(7,.int .i64 a3),(8,.int .i64 a4)]) h =
 ((h.cell (a2.add 0)).bind AV.asSl).bind fun l5 =>
 cond (decide (a4<(l5.len:Int))) (
 ((h.cell (a2.add 0)).bind AV.asSl).bind fun l6 =>
 (idx l6.ref l6.len a4 1).bind fun r7 =>
 ((h.cell (r7.add 0)).bind AV.asSl).bind fun l8 =>
 go (.pt kct kjj [(1,a1.v),(2,.ptr (some a2)),(7,.int .i64 a3),(8,.int .i64 a4),(9,l8.v),(10,.int .i64 0)]) h) (
 some (.tup [.int .i64 a3,.int .i64 0],h)):=(ke _ h).trans (by kernel_rfl)
theorem k84(a1:Sl)(h:AH):go (.fn kqr [a1.v]) h =
 (go (.fn kjx [a1.v,a1.v]) h).bind fun q2 =>
 (AV.asTup2 q2.1).bind fun p3 =>
 ((some p3.1).bind AV.asSl).bind fun l4 =>
 ((some p3.2).bind (AV.asInt .i64)).bind fun n5 =>
 some (l4.v,q2.2):=(ke _ h).trans (by kernel_rfl)
theorem kzs(a1 a2 a3:Sl)(h:AH):go (.fn kox [a1.v,a2.v,a3.v]) h =
 (go (.fn kc9 [a1.v]) h).bind fun q4 =>
 ((some q4.1).bind AV.asBool).bind fun b5 =>
 cond (!b5) (
 some (.bool false,q4.2)) (
 cond (decide ((a1.len:Int)=0)) (
 some (.bool false,q4.2)) (
 (go (.fn kfe [a1.v,a3.v]) q4.2).bind fun q6 =>
 ((some q6.1).bind (AV.asInt .i64)).bind fun n7 =>
 cond (decide (n7≥0)) (
 some (.bool false,q6.2)) (
 (go (.fn kfj [a1.v,a2.v]) q6.2).bind fun q8 =>
 (AV.asTup2 q8.1).bind fun p9 =>
 ((some p9.1).bind AV.asSl).bind fun l10 =>
 ((some p9.2).bind (AV.asInt .i64)).bind fun n11 =>
 newK q8.2 (.cells [.int .u64 1] kj) fun h12r h12 =>
 (go (.fn kfe [l10.v,(⟨some h12r,1,.is 1⟩:Sl).v]) h12).bind fun q13 =>
 ((some q13.1).bind (AV.asInt .i64)).bind fun n14 =>
 some (.bool (decide (n14=0)),q13.2)))):=(ke _ h).trans (by kernel_rfl)
theorem kx8(a1:Sl)(a2 a3:Int)(h:AH):go (.pt kba kbo [(0,a1.v),(1,.func (.func kcy) [] []),(7,.int .i64 a2),(8,.int .i64 a3)]) h =
 cond (decide (a3<a2)) (
 (idx a1.ref a1.len a3 1).bind fun r4 =>
 ((h.cell r4).bind (AV.asInt .i64)).bind fun n5 =>
 (go (.fn kcy [.int .i64 n5]) h).bind fun q6 =>
 ((some q6.1).bind AV.asBool).bind fun b7 =>
 cond b7 (
 some (.int .i64 a3,q6.2)) (
 go (.pt kba kbo [(0,a1.v),(1,.func (.func kcy) [] []),(7,.int .i64 a2),(8,.int .i64 (IntKind.wrap .i64 (a3+1)))]) q6.2)) (
 some (.int .i64 (-1),h)):=(ke _ h).trans (by kernel_rfl)
theorem kv7(a1:Sl)(a2:Option Ref)(a3 a4:Int)(h:AH):go (.pt kba kbo [(0,a1.v),(1,.func (.func kde) [] [.ptr a2]),(7,.int .i64 a3),(8,.int .i64 a4)]) h =
 cond (decide (a4<a3)) (
 (idx a1.ref a1.len a4 1).bind fun r5 =>
 ((h.cell r5).bind (AV.asInt .i64)).bind fun n6 =>
 (go (.fn kde [.int .i64 n6,.ptr a2]) h).bind fun q7 =>
 ((some q7.1).bind AV.asBool).bind fun b8 =>
 cond b8 (
 some (.int .i64 a4,q7.2)) (
 go (.pt kba kbo [(0,a1.v),(1,.func (.func kde) [] [.ptr a2]),(7,.int .i64 a3),(8,.int .i64 (IntKind.wrap .i64 (a4+1)))]) q7.2)) (
 some (.int .i64 (-1),h)):=(ke _ h).trans (by kernel_rfl)
theorem kbao(a1:Option Ref)(a2:Sl)(h:AH):go (.fn kq4 [.ptr a1,a2.v]) h =
 (go (.fn kc9 [a2.v]) h).bind fun q3 =>
 ((some q3.1).bind AV.asBool).bind fun b4 =>
 cond (!b4) (
 some (.tup [(⟨none,0,.is 0⟩:Sl).v,.int .i64 1],q3.2)) (
 cond (decide ((a2.len:Int)=0)) (
 some (.tup [(⟨none,0,.is 0⟩:Sl).v,.int .i64 1],q3.2)) (
 newK q3.2 (.cells [.int .u64 1] kj) fun h5r h5 =>
 (go (.fn kp8 [a2.v,(⟨some h5r,1,.is 1⟩:Sl).v]) h5).bind fun q6 =>
 (AV.asTup2 q6.1).bind fun p7 =>
 ((some p7.1).bind AV.asSl).bind fun l8 =>
 ((some p7.2).bind (AV.asInt .i64)).bind fun n9 =>
 cond (decide ((l8.len:Int)=0)) (
 some (.tup [(⟨none,0,.is 0⟩:Sl).v,.int .i64 0],q6.2)) (
 (go (.fn khi [l8.v]) q6.2).bind fun q10 =>
 ((some q10.1).bind (AV.asInt .i64)).bind fun n11 =>
 (go (.fn kej [.func (.func kc8) [.ptr a1] [],.int .i64 n11,a2.v]) q10.2).bind fun q12 =>
 (AV.asTup2 q12.1).bind fun p13 =>
 ((some p13.1).bind AV.asSl).bind fun l14 =>
 ((some p13.2).bind (AV.asInt .i64)).bind fun n15 =>
 some (.tup [l14.v,.int .i64 n15],q12.2)))):=(ke _ h).trans (by kernel_rfl)
theorem kbfe(a1:Sl)(h:AH):go (.fn kpo [a1.v]) h =
 (go (.fn kc9 [a1.v]) h).bind fun q2 =>
 ((some q2.1).bind AV.asBool).bind fun b3 =>
 cond (!b3) (
 some (.tup [.int .u64 0,.bool false],q2.2)) (
 cond (decide ((a1.len:Int)>1)) (
 some (.tup [.int .u64 0,.bool false],q2.2)) (
 cond (decide ((a1.len:Int)=0)) (
 some (.tup [.int .u64 0,.bool true],q2.2)) (
 (idx a1.ref a1.len 0 1).bind fun r4 =>
 ((q2.2.cell r4).bind (AV.asInt .u64)).bind fun n5 =>
 some (.tup [.int .u64 n5,.bool true],q2.2)))):=(ke _ h).trans (by kernel_rfl)
theorem k3s(a1 a2:Int)(h:AH):go (.fn kev [.int .u64 a1,.int .u64 a2]) h =
 some (.int .u64 (iand .u64 a1 a2),h):=(ke _ h).trans (by kernel_rfl)
theorem kbet(a1:Sl)(a2:AV)(a3:Ref)(a4:Sl)(a5:AV)(h:AH):go (.pt kef kwz [(0,a1.v),(1,a2),(2,.ptr (some a3)),(4,a4.v),(6,a5)]) h =
 funcK a5 fun g10 f11 c12 =>
 newM h (kec kqw kef 0 .ready none [(0,a1.v),(1,a2),(2,.ptr (some a3)),(4,a4.v),(6,a5)]) fun m6 h7 =>
 (callF Pg go g10 (f11++[.func (.yield m6) [] []]++c12) h7).bind fun q8 =>
 (kff m6 q8.2).bind fun p9 =>
 go (.pt kef ((p9.1.map Item.code).toList++kr6) [(0,a1.v),(1,a2),(2,.ptr (some a3)),(4,a4.v),(6,a5)]) p9.2:=(ke _ h).trans (by kernel_rfl)
theorem k0g(a1:Sl)(h:AH):go (.fn kdq [a1.v]) h =
 (go (.fn kc9 [a1.v]) h).bind fun q2 =>
 ((some q2.1).bind AV.asBool).bind fun b3 =>
 some (.bool (!b3),q2.2):=(ke _ h).trans (by kernel_rfl)
theorem k28(a1 a2 a3 a4 a5 a6 a7 a8 a9:Int)(h:AH):go (.pt kbl kja [(2,.int .u64 a1),(8,.int .u64 a2),(9,.int .u64 a3),(10,.int .u64 a4),(11,.int .u64 a5),(13,.int .u64 a6),(14,.int .u64 a7),(15,.int .u64 a8),(16,.int .u64 a9)]) h =
 cond (decide (a8≥4294967296)) (
 cond (decide ((IntKind.wrap .u64 (a9+a3))≥4294967296)) (
 cond (decide (a3=0)) none (
 go (.pt kbl kf9 [(2,.int .u64 a1),(8,.int .u64 a2),(9,.int .u64 a3),(10,.int .u64 a4),(14,.int .u64 a7),(15,.int .u64 (IntKind.wrap .u64 (a8-1))),(16,.int .u64 (IntKind.wrap .u64 ((IntKind.wrap .u64 ((IntKind.wrap .u64 ((IntKind.wrap .u64 (a5*4294967296))+a6))-(IntKind.wrap .u64 ((IntKind.wrap .u64 (a8-1))*a1))))-(IntKind.wrap .u64 ((IntKind.wrap .u64 (Int.tdiv (IntKind.wrap .u64 ((IntKind.wrap .u64 ((IntKind.wrap .u64 (a5*4294967296))+a6))-(IntKind.wrap .u64 ((IntKind.wrap .u64 (a8-1))*a1)))) a3))*a3))))),(17,.int .u64 (IntKind.wrap .u64 ((IntKind.wrap .u64 ((IntKind.wrap .u64 (a5*4294967296))+a6))-(IntKind.wrap .u64 ((IntKind.wrap .u64 (a8-1))*a1))))),(18,.int .u64 (IntKind.wrap .u64 (Int.tdiv (IntKind.wrap .u64 ((IntKind.wrap .u64 ((IntKind.wrap .u64 (a5*4294967296))+a6))-(IntKind.wrap .u64 ((IntKind.wrap .u64 (a8-1))*a1)))) a3)))]) h)) (
 go (.pt kbl kja [(2,.int .u64 a1),(8,.int .u64 a2),(9,.int .u64 a3),(10,.int .u64 a4),(11,.int .u64 a5),(13,.int .u64 a6),(14,.int .u64 a7),(15,.int .u64 (IntKind.wrap .u64 (a8-1))),(16,.int .u64 (IntKind.wrap .u64 (a9+a3)))]) h)) (
 cond (decide ((IntKind.wrap .u64 (a8*a4))>(IntKind.wrap .u64 ((IntKind.wrap .u64 (4294967296*a9))+a6)))) (
 cond (decide ((IntKind.wrap .u64 (a9+a3))≥4294967296)) (
 cond (decide (a3=0)) none (
 go (.pt kbl kf9 [(2,.int .u64 a1),(8,.int .u64 a2),(9,.int .u64 a3),(10,.int .u64 a4),(14,.int .u64 a7),(15,.int .u64 (IntKind.wrap .u64 (a8-1))),(16,.int .u64 (IntKind.wrap .u64 ((IntKind.wrap .u64 ((IntKind.wrap .u64 ((IntKind.wrap .u64 (a5*4294967296))+a6))-(IntKind.wrap .u64 ((IntKind.wrap .u64 (a8-1))*a1))))-(IntKind.wrap .u64 ((IntKind.wrap .u64 (Int.tdiv (IntKind.wrap .u64 ((IntKind.wrap .u64 ((IntKind.wrap .u64 (a5*4294967296))+a6))-(IntKind.wrap .u64 ((IntKind.wrap .u64 (a8-1))*a1)))) a3))*a3))))),(17,.int .u64 (IntKind.wrap .u64 ((IntKind.wrap .u64 ((IntKind.wrap .u64 (a5*4294967296))+a6))-(IntKind.wrap .u64 ((IntKind.wrap .u64 (a8-1))*a1))))),(18,.int .u64 (IntKind.wrap .u64 (Int.tdiv (IntKind.wrap .u64 ((IntKind.wrap .u64 ((IntKind.wrap .u64 (a5*4294967296))+a6))-(IntKind.wrap .u64 ((IntKind.wrap .u64 (a8-1))*a1)))) a3)))]) h)) (
 go (.pt kbl kja [(2,.int .u64 a1),(8,.int .u64 a2),(9,.int .u64 a3),(10,.int .u64 a4),(11,.int .u64 a5),(13,.int .u64 a6),(14,.int .u64 a7),(15,.int .u64 (IntKind.wrap .u64 (a8-1))),(16,.int .u64 (IntKind.wrap .u64 (a9+a3)))]) h)) (
 cond (decide (a3=0)) none (
 go (.pt kbl kf9 [(2,.int .u64 a1),(8,.int .u64 a2),(9,.int .u64 a3),(10,.int .u64 a4),(14,.int .u64 a7),(15,.int .u64 a8),(16,.int .u64 (IntKind.wrap .u64 ((IntKind.wrap .u64 ((IntKind.wrap .u64 ((IntKind.wrap .u64 (a5*4294967296))+a6))-(IntKind.wrap .u64 (a8*a1))))-(IntKind.wrap .u64 ((IntKind.wrap .u64 (Int.tdiv (IntKind.wrap .u64 ((IntKind.wrap .u64 ((IntKind.wrap .u64 (a5*4294967296))+a6))-(IntKind.wrap .u64 (a8*a1)))) a3))*a3))))),(17,.int .u64 (IntKind.wrap .u64 ((IntKind.wrap .u64 ((IntKind.wrap .u64 (a5*4294967296))+a6))-(IntKind.wrap .u64 (a8*a1))))),(18,.int .u64 (IntKind.wrap .u64 (Int.tdiv (IntKind.wrap .u64 ((IntKind.wrap .u64 ((IntKind.wrap .u64 (a5*4294967296))+a6))-(IntKind.wrap .u64 (a8*a1)))) a3)))]) h))):=(ke _ h).trans (by kernel_rfl)
theorem k0s(a1:Int)(a2 a3 a4:Ref)(h:AH):go (.fn kbx [.int .i64 a1,.ptr (some a2),.ptr (some a3),.ptr (some a4)]) h =
 (h.cell a2).bind fun v5 =>
 ((h.cell a3).bind (AV.asInt .i64)).bind fun n6 =>
 ((h.cell a4).bind (AV.asInt .i64)).bind fun n7 =>
 yieldK v5 [.int .i64 a1,.int .i64 (IntKind.wrap .i64 (n6+1)),.int .i64 (IntKind.wrap .i64 (n7-1))] (fun y9 =>
 (go (.round y9.1 y9.2) h).bind fun q8 =>
 ((some q8.1).bind AV.asBool).bind fun b11 =>
 some (.bool b11,q8.2)) (
 (callV Pg go v5 [.int .i64 a1,.int .i64 (IntKind.wrap .i64 (n6+1)),.int .i64 (IntKind.wrap .i64 (n7-1))] h).bind fun q10 =>
 ((some q10.1).bind AV.asBool).bind fun b12 =>
 some (.bool b12,q10.2)):=(ke _ h).trans (by kernel_rfl)
theorem kbfg(a1:Bool)(a2 a3 a4 a5 a6 a7:Int)(a8 a9:Option Ref)(h:AH):go (.fn kb6 [.agg [.bool a1,.int .i64 a2,.int .i64 a3,.int .i64 a4,.int .i64 a5,.int .i64 a6,.int .i64 a7],.ptr a8,.ptr a9]) h =
 newK h (.cells [.bool a1,.int .i64 a2,.int .i64 a3,.int .i64 a4,.int .i64 a5,.int .i64 a6,.int .i64 a7] kbc) fun h10r h10 =>
 ((h10.cell (h10r.add 0)).bind AV.asBool).bind fun b11 =>
 cond (!b11) (
 ((h10.cell (h10r.add 2)).bind (AV.asInt .i64)).bind fun n12 =>
 a8.bind fun r13 =>
 ((h10.cell r13).bind (AV.asInt .i64)).bind fun n14 =>
 cond (decide (n12≥n14)) (
 some (.bool true,h10)) (
 ((h10.cell (h10r.add 2)).bind (AV.asInt .i64)).bind fun n15 =>
 cond (decide (n15=0)) (
 ((h10.cell (h10r.add 3)).bind (AV.asInt .i64)).bind fun n16 =>
 a9.bind fun r17 =>
 ((h10.cell (r17.add 2)).bind AV.asSl).bind fun l18 =>
 some (.bool (decide (n16≥(l18.len:Int))),h10)) (
 some (.bool false,h10)))) (
 some (.bool false,h10)):=(ke _ h).trans (by kernel_rfl)
theorem ksl(a1:Sl)(a2 a3:Int)(h:AH):go (.pt kba kbo [(0,a1.v),(1,.func (.func kda) [] []),(7,.int .i64 a2),(8,.int .i64 a3)]) h =
 cond (decide (a3<a2)) (
 (idx a1.ref a1.len a3 1).bind fun r4 =>
 ((h.cell r4).bind (AV.asInt .i64)).bind fun n5 =>
 (go (.fn kda [.int .i64 n5]) h).bind fun q6 =>
 ((some q6.1).bind AV.asBool).bind fun b7 =>
 cond b7 (
 some (.int .i64 a3,q6.2)) (
 go (.pt kba kbo [(0,a1.v),(1,.func (.func kda) [] []),(7,.int .i64 a2),(8,.int .i64 (IntKind.wrap .i64 (a3+1)))]) q6.2)) (
 some (.int .i64 (-1),h)):=(ke _ h).trans (by kernel_rfl)
theorem k5s(a1:Sl)(a2:Bool)(h:AH):go (.fn km4 [a1.v,.bool a2,.func (.func kbq) [] []]) h =
 cond (decide ((a1.len:Int)≤16384)) (
 cond a2 (
 (go (.fn kca [a1.v,.func (.func kbq) [] []]) h).bind fun q3 =>
 ((some q3.1).bind AV.asBool).bind fun b4 =>
 some (.bool (!b4),q3.2)) (
 cond (decide ((a1.len:Int)=0)) (
 (go (.fn kca [a1.v,.func (.func kbq) [] []]) h).bind fun q5 =>
 ((some q5.1).bind AV.asBool).bind fun b6 =>
 some (.bool (!b6),q5.2)) (
 some (.bool false,h)))) (
 some (.bool false,h)):=(ke _ h).trans (by kernel_rfl)
theorem k26(a1:Sl)(a2:Bool)(h:AH):go (.fn knp [a1.v,.bool a2,.func (.func kb9) [] []]) h =
 cond (decide ((a1.len:Int)≤16384)) (
 cond a2 (
 (go (.fn kdg [a1.v,.func (.func kb9) [] []]) h).bind fun q3 =>
 ((some q3.1).bind AV.asBool).bind fun b4 =>
 some (.bool (!b4),q3.2)) (
 cond (decide ((a1.len:Int)=0)) (
 (go (.fn kdg [a1.v,.func (.func kb9) [] []]) h).bind fun q5 =>
 ((some q5.1).bind AV.asBool).bind fun b6 =>
 some (.bool (!b6),q5.2)) (
 some (.bool false,h)))) (
 some (.bool false,h)):=(ke _ h).trans (by kernel_rfl)
theorem kvn(a1:Ref)(a2 a3:Int)(h:AH):go (.pt kby kjg [(1,.ptr (some a1)),(84,.int .i64 a2),(85,.int .i64 a3)]) h =
 cond (decide (a3<a2)) (
 cond (decide (a3>0)) (
 ((h.cell (a1.add 5)).bind AV.asSl).bind fun l4 =>
 (idx l4.ref l4.len a3 1).bind fun r5 =>
 ((h.cell r5).bind (AV.asInt .i64)).bind fun n6 =>
 ((h.cell (a1.add 5)).bind AV.asSl).bind fun l7 =>
 (idx l7.ref l7.len (IntKind.wrap .i64 (a3-1)) 1).bind fun r8 =>
 ((h.cell r8).bind (AV.asInt .i64)).bind fun n9 =>
 cond (decide (n6≤n9)) (
 some (.bool false,h)) (
 go (.pt kby kjg [(1,.ptr (some a1)),(84,.int .i64 a2),(85,.int .i64 (IntKind.wrap .i64 (a3+1)))]) h)) (
 go (.pt kby kjg [(1,.ptr (some a1)),(84,.int .i64 a2),(85,.int .i64 (IntKind.wrap .i64 (a3+1)))]) h)) (
 ((h.cell (a1.add 0)).bind (AV.asInt .i64)).bind fun n10 =>
 cond (decide (n10=1)) (
 ((h.cell (a1.add 6)).bind AV.asSl).bind fun l11 =>
 some (.bool (decide ((l11.len:Int)=1)),h)) (
 cond (decide (n10=5)) (
 ((h.cell (a1.add 6)).bind AV.asSl).bind fun l12 =>
 ((h.cell (a1.add 4)).bind AV.asSl).bind fun l13 =>
 some (.bool (decide ((l12.len:Int)=(l13.len:Int))),h)) (
 cond (decide (n10=6)) (
 ((h.cell (a1.add 4)).bind AV.asSl).bind fun l14 =>
 some (.bool (decide ((l14.len:Int)>0)),h)) (
 cond (decide (n10=9)) (
 ((h.cell (a1.add 3)).bind (AV.asInt .i64)).bind fun n15 =>
 some (.bool (decide (n15≤1)),h)) (
 some (.bool true,h)))))):=(ke _ h).trans (by kernel_rfl)
theorem k5h(a1:Sl)(a2:Int)(h:AH):go (.fn kh5 [a1.v,.int .i64 a2]) h =
 go (.pt kh5 knc [(0,a1.v),(1,.int .i64 a2),(7,.int .i64 (a1.len:Int)),(8,.int .i64 0)]) h:=(ke _ h).trans (by kernel_rfl)
theorem ksz(a1:Sl)(a2:Int)(a3:Sl)(a4:Int)(a5:Sl)(a6:Int)(h:AH):go (.pt kc0 kl2 [(0,a1.v),(1,.int .i64 a2),(5,a3.v),(6,.int .i64 a4),(7,a5.v),(8,.int .i64 a6)]) h =
 (idx a1.ref a1.len a4 3).bind fun r7 =>
 ((h.cell (r7.add 2)).bind AV.asSl).bind fun l8 =>
 cond (decide (a6<(l8.len:Int))) (
 (idx a1.ref a1.len a4 3).bind fun r9 =>
 ((h.cell (r9.add 2)).bind AV.asSl).bind fun l10 =>
 (idx l10.ref l10.len a6 1).bind fun r11 =>
 ((h.cell r11).bind AV.asSl).bind fun l12 =>
 (idx l12.ref l12.len a2 1).bind fun r13 =>
 ((h.cell r13).bind (AV.asInt .i64)).bind fun n14 =>
 newK h (.cells [.int .i64 n14] T.int) fun h15r h15 =>
 (kbb Pg T.int ((⟨some h15r,1,.is 1⟩:Sl).v) h15).bind fun p17 =>
 (kw Pg a5 p17.1 p17.2 T.int 1 h15).bind fun q16 =>
 (AV.asSl q16.1).bind fun l18 =>
 go (.pt kc0 kl2 [(0,a1.v),(1,.int .i64 a2),(5,a3.v),(6,.int .i64 a4),(7,l18.v),(8,.int .i64 (IntKind.wrap .i64 (a6+1)))]) q16.2) (
 newK h (.cells [a5.v] kbr) fun h19r h19 =>
 (kbb Pg kbr ((⟨some h19r,1,.is 1⟩:Sl).v) h19).bind fun p21 =>
 (kw Pg a3 p21.1 p21.2 kbr 1 h19).bind fun q20 =>
 (AV.asSl q20.1).bind fun l22 =>
 go (.pt kc0 kjz [(0,a1.v),(1,.int .i64 a2),(5,l22.v),(6,.int .i64 (IntKind.wrap .i64 (a4+1)))]) q20.2):=(ke _ h).trans (by kernel_rfl)
theorem kru(a1:Ref)(a2:Int)(h:AH):go (.pt kc4 kiw [(1,.ptr (some a1)),(3,.int .i64 a2)]) h =
 ((h.cell (a1.add 0)).bind AV.asSl).bind fun l3 =>
 cond (decide (a2<(l3.len:Int))) (
 ((h.cell (a1.add 0)).bind AV.asSl).bind fun l4 =>
 (idx l4.ref l4.len a2 1).bind fun r5 =>
 ((h.cell (r5.add 0)).bind AV.asSl).bind fun l6 =>
 cond (decide ((l6.len:Int)<1)) (
 some (.bool false,h)) (
 cond (decide ((l6.len:Int)>63)) (
 some (.bool false,h)) (
 go (.pt kc4 knh [(1,.ptr (some a1)),(3,.int .i64 a2),(4,l6.v),(5,.int .i64 0)]) h))) (
 some (.bool true,h)):=(ke _ h).trans (by kernel_rfl)
theorem k9b(a1:Sl)(a2:Ref)(a3 a4:Int)(a5:Sl)(a6:Int)(h:AH):go (.pt kct kjj [(1,a1.v),(2,.ptr (some a2)),(7,.int .i64 a3),(8,.int .i64 a4),(9,a5.v),(10,.int .i64 a6)]) h =
 (idx a5.ref a5.len a6 7).bind fun r7 =>
 ((h.cell (r7.add 0)).bind AV.asBool).bind fun b8 =>
 cond (!b8) (
 (idx a5.ref a5.len a6 7).bind fun r9 =>
 ((h.cell (r9.add 0)).bind AV.asBool).bind fun b10 =>
 ((h.cell (r9.add 1)).bind (AV.asInt .i64)).bind fun n11 =>
 ((h.cell (r9.add 2)).bind (AV.asInt .i64)).bind fun n12 =>
 ((h.cell (r9.add 3)).bind (AV.asInt .i64)).bind fun n13 =>
 ((h.cell (r9.add 4)).bind (AV.asInt .i64)).bind fun n14 =>
 ((h.cell (r9.add 5)).bind (AV.asInt .i64)).bind fun n15 =>
 ((h.cell (r9.add 6)).bind (AV.asInt .i64)).bind fun n16 =>
 newK h (.cells [.bool false,.int .i64 0,.int .i64 0,.int .i64 0,.int .i64 0,.int .i64 0,.int .i64 0] kbc) fun h17r h17 =>
 (h17.puts h17r [.bool b10,.int .i64 n11,.int .i64 n12,.int .i64 n13,.int .i64 n14,.int .i64 n15,.int .i64 n16]).bind fun h18 =>
 ((h18.cell (h17r.add 2)).bind (AV.asInt .i64)).bind fun n19 =>
 cond (decide (n19≥(a1.len:Int))) (
 some (.tup [.int .i64 0,.int .i64 1],h18)) (
 ((h18.cell (h17r.add 3)).bind (AV.asInt .i64)).bind fun n20 =>
 ((h18.cell (h17r.add 2)).bind (AV.asInt .i64)).bind fun n21 =>
 (idx a1.ref a1.len n21 1).bind fun r22 =>
 ((h18.cell r22).bind AV.asSl).bind fun l23 =>
 cond (decide (n20≥(l23.len:Int))) (
 some (.tup [.int .i64 0,.int .i64 1],h18)) (
 ((h18.cell (h17r.add 6)).bind (AV.asInt .i64)).bind fun n24 =>
 ((h18.cell (h17r.add 2)).bind (AV.asInt .i64)).bind fun n25 =>
 (idx a1.ref a1.len n25 1).bind fun r26 =>
 ((h18.cell r26).bind AV.asSl).bind fun l27 =>
 ((h18.cell (h17r.add 3)).bind (AV.asInt .i64)).bind fun n28 =>
 (idx l27.ref l27.len n28 1).bind fun r29 =>
 ((h18.cell r29).bind (AV.asInt .i64)).bind fun n30 =>
 ((h18.cell (h17r.add 4)).bind (AV.asInt .i64)).bind fun n31 =>
 cond (decide (n30≤n31)) (
 ((h18.cell (h17r.add 5)).bind (AV.asInt .i64)).bind fun n32 =>
 go (.pt kct kjj [(1,a1.v),(2,.ptr (some a2)),(7,.int .i64 a3),(8,.int .i64 a4),(9,a5.v),(10,.int .i64 n32)]) h18) (
 go (.pt kct kjj [(1,a1.v),(2,.ptr (some a2)),(7,.int .i64 a3),(8,.int .i64 a4),(9,a5.v),(10,.int .i64 n24)]) h18)))) (
 (idx a5.ref a5.len a6 7).bind fun r33 =>
 ((h.cell (r33.add 1)).bind (AV.asInt .i64)).bind fun n34 =>
 go (.pt kct kjk [(1,a1.v),(2,.ptr (some a2)),(7,.int .i64 (IntKind.wrap .i64 (a3+n34))),(8,.int .i64 (IntKind.wrap .i64 (a4+1)))]) h):=(ke _ h).trans (by kernel_rfl)
theorem kbdu(a1 a2:Sl)(h:AH):go (.fn kfe [a1.v,a2.v]) h =
 newK h (.cells [a1.v,a2.v] kr) fun h3r h3 =>
 (go (.fn kg3 [(⟨some h3r,2,.is 2⟩:Sl).v]) h3).bind fun q4 =>
 ((some q4.1).bind AV.asBool).bind fun b5 =>
 cond (!b5) (
 some (.int .i64 0,q4.2)) (
 (go (.fn keg [a1.v,a2.v]) q4.2).bind fun q6 =>
 ((some q6.1).bind (AV.asInt .i64)).bind fun n7 =>
 some (.int .i64 n7,q6.2)):=(ke _ h).trans (by kernel_rfl)
theorem kbbg(a1 a2:Sl)(h:AH):go (.fn kfj [a1.v,a2.v]) h =
 (go (.fn kc9 [a1.v]) h).bind fun q3 =>
 ((some q3.1).bind AV.asBool).bind fun b4 =>
 cond (!b4) (
 some (.tup [(⟨none,0,.is 0⟩:Sl).v,.int .i64 1],q3.2)) (
 (go (.fn kc9 [a2.v]) q3.2).bind fun q5 =>
 ((some q5.1).bind AV.asBool).bind fun b6 =>
 cond (!b6) (
 some (.tup [(⟨none,0,.is 0⟩:Sl).v,.int .i64 1],q5.2)) (
 (go (.fn kft [a1.v]) q5.2).bind fun q7 =>
 ((some q7.1).bind AV.asSl).bind fun l8 =>
 (go (.fn kft [a2.v]) q7.2).bind fun q9 =>
 ((some q9.1).bind AV.asSl).bind fun l10 =>
 go (.pt kfj kmr [(0,l8.v),(1,l10.v)]) q9.2)):=(ke _ h).trans (by kernel_rfl)
theorem kzz(a1:Int)(h:AH):go (.fn kcy [.int .i64 a1]) h =
 cond (decide (a1<0)) (
 some (.bool true,h)) (
 some (.bool (decide (a1>1073741824)),h)):=(ke _ h).trans (by kernel_rfl)
theorem kbdr(a1:Int)(a2:Option Ref)(h:AH):go (.fn kde [.int .i64 a1,.ptr a2]) h =
 cond (decide (a1<0)) (
 some (.bool true,h)) (
 a2.bind fun r3 =>
 ((h.cell r3).bind (AV.asInt .i64)).bind fun n4 =>
 some (.bool (decide (a1≥n4)),h)):=(ke _ h).trans (by kernel_rfl)
theorem kbe0(a1 a2:Sl)(h:AH):go (.fn kp8 [a1.v,a2.v]) h =
 newK h (.cells [a1.v,a2.v] kr) fun h3r h3 =>
 (go (.fn kg3 [(⟨some h3r,2,.is 2⟩:Sl).v]) h3).bind fun q4 =>
 ((some q4.1).bind AV.asBool).bind fun b5 =>
 cond (!b5) (
 some (.tup [(⟨none,0,.is 0⟩:Sl).v,.int .i64 1],q4.2)) (
 (go (.fn keg [a1.v,a2.v]) q4.2).bind fun q6 =>
 ((some q6.1).bind (AV.asInt .i64)).bind fun n7 =>
 cond (decide (n7<0)) (
 some (.tup [(⟨none,0,.is 0⟩:Sl).v,.int .i64 2],q6.2)) (
 (go (.fn kcp [a1.v,a2.v]) q6.2).bind fun q8 =>
 ((some q8.1).bind AV.asSl).bind fun l9 =>
 (go (.fn kjb [l9.v]) q8.2).bind fun q10 =>
 (AV.asTup2 q10.1).bind fun p11 =>
 ((some p11.1).bind AV.asSl).bind fun l12 =>
 ((some p11.2).bind (AV.asInt .i64)).bind fun n13 =>
 some (.tup [l12.v,.int .i64 n13],q10.2))):=(ke _ h).trans (by kernel_rfl)
theorem kbbw(a1:Option Ref)(a2:Int)(a3:Sl)(h:AH):go (.fn kej [.func (.func kc8) [.ptr a1] [],.int .i64 a2,a3.v]) h =
 go (.pt kej kgk [(0,.func (.func kc8) [.ptr a1] []),(1,.int .i64 a2),(2,a3.v)]) h:=(ke _ h).trans (by kernel_rfl)
theorem kzx(l:Nat)(pe:Option Code)(a1:Sl)(a2:AV)(a3:Ref)(a4:Sl)(a5:AV)(a6:Int)(h:AH)(hb:h.blks[l]?=some (kec kqw kef 0 .ready pe [(0,a1.v),(1,a2),(2,.ptr (some a3)),(4,a4.v),(6,a5)])):go (.round l [.int .i64 a6]) h =
 (beginA l h).bind fun h7 =>
 ((h7.cell a3).bind AV.asSl).bind fun l8 =>
 newK h7 (.cells [.int .i64 a6] T.int) fun h9r h9 =>
 (kbb Pg T.int ((⟨some h9r,1,.is 1⟩:Sl).v) h9).bind fun p11 =>
 (kw Pg l8 p11.1 p11.2 T.int 1 h9).bind fun q10 =>
 (AV.asSl q10.1).bind fun l12 =>
 (q10.2.puts a3 [l12.v]).bind fun h13 =>
 kcj l none h13:=(ke _ h).trans ((kpz hb).trans (by kernel_rfl))
theorem k1i(a1:Sl)(a2:AV)(a3:Ref)(a4:Sl)(a5:AV)(h:AH):go (.pt kef ((Option.map Item.code none).toList++kr6) [(0,a1.v),(1,a2),(2,.ptr (some a3)),(4,a4.v),(6,a5)]) h =
 ((h.cell a3).bind AV.asSl).bind fun l6 =>
 some (l6.v,h):=(ke _ h).trans (by kernel_rfl)
theorem k3c(a1 a2 a3 a4 a5 a6 a7 a8 a9:Int)(h:AH):go (.pt kbl kf9 [(2,.int .u64 a1),(8,.int .u64 a2),(9,.int .u64 a3),(10,.int .u64 a4),(14,.int .u64 a5),(15,.int .u64 a6),(16,.int .u64 a7),(17,.int .u64 a8),(18,.int .u64 a9)]) h =
 cond (decide (a9≥4294967296)) (
 cond (decide ((IntKind.wrap .u64 (a7+a3))≥4294967296)) (
 cond (decide (a2<0)) none (
 some (.tup [.int .u64 (IntKind.wrap .u64 ((IntKind.wrap .u64 (a6*4294967296))+(IntKind.wrap .u64 (a9-1)))),.int .u64 (ishr .u64 (IntKind.wrap .u64 ((IntKind.wrap .u64 ((IntKind.wrap .u64 (a8*4294967296))+a5))-(IntKind.wrap .u64 ((IntKind.wrap .u64 (a9-1))*a1)))) a2)],h))) (
 go (.pt kbl kf9 [(2,.int .u64 a1),(8,.int .u64 a2),(9,.int .u64 a3),(10,.int .u64 a4),(14,.int .u64 a5),(15,.int .u64 a6),(16,.int .u64 (IntKind.wrap .u64 (a7+a3))),(17,.int .u64 a8),(18,.int .u64 (IntKind.wrap .u64 (a9-1)))]) h)) (
 cond (decide ((IntKind.wrap .u64 (a9*a4))>(IntKind.wrap .u64 ((IntKind.wrap .u64 (4294967296*a7))+a5)))) (
 cond (decide ((IntKind.wrap .u64 (a7+a3))≥4294967296)) (
 cond (decide (a2<0)) none (
 some (.tup [.int .u64 (IntKind.wrap .u64 ((IntKind.wrap .u64 (a6*4294967296))+(IntKind.wrap .u64 (a9-1)))),.int .u64 (ishr .u64 (IntKind.wrap .u64 ((IntKind.wrap .u64 ((IntKind.wrap .u64 (a8*4294967296))+a5))-(IntKind.wrap .u64 ((IntKind.wrap .u64 (a9-1))*a1)))) a2)],h))) (
 go (.pt kbl kf9 [(2,.int .u64 a1),(8,.int .u64 a2),(9,.int .u64 a3),(10,.int .u64 a4),(14,.int .u64 a5),(15,.int .u64 a6),(16,.int .u64 (IntKind.wrap .u64 (a7+a3))),(17,.int .u64 a8),(18,.int .u64 (IntKind.wrap .u64 (a9-1)))]) h)) (
 cond (decide (a2<0)) none (
 some (.tup [.int .u64 (IntKind.wrap .u64 ((IntKind.wrap .u64 (a6*4294967296))+a9)),.int .u64 (ishr .u64 (IntKind.wrap .u64 ((IntKind.wrap .u64 ((IntKind.wrap .u64 (a8*4294967296))+a5))-(IntKind.wrap .u64 (a9*a1)))) a2)],h)))):=(ke _ h).trans (by kernel_rfl)
theorem k6j(a1:Int)(h:AH):go (.fn kda [.int .i64 a1]) h =
 cond (decide (a1<1)) (
 some (.bool true,h)) (
 some (.bool (decide (a1>11)),h)):=(ke _ h).trans (by kernel_rfl)
theorem k6y(a1:Sl)(h:AH):go (.fn kca [a1.v,.func (.func kbq) [] []]) h =
 (go (.fn kba [a1.v,.func (.func kbq) [] []]) h).bind fun q2 =>
 ((some q2.1).bind (AV.asInt .i64)).bind fun n3 =>
 some (.bool (decide (n3≥0)),q2.2):=(ke _ h).trans (by kernel_rfl)
theorem k79(a1:Sl)(h:AH):go (.fn kdg [a1.v,.func (.func kb9) [] []]) h =
 (go (.fn kbe [a1.v,.func (.func kb9) [] []]) h).bind fun q2 =>
 ((some q2.1).bind (AV.asInt .i64)).bind fun n3 =>
 some (.bool (decide (n3≥0)),q2.2):=(ke _ h).trans (by kernel_rfl)
theorem kr7(a1:Sl)(a2 a3 a4:Int)(h:AH):go (.pt kh5 knc [(0,a1.v),(1,.int .i64 a2),(7,.int .i64 a3),(8,.int .i64 a4)]) h =
 cond (decide (a4<a3)) (
 (idx a1.ref a1.len a4 1).bind fun r5 =>
 ((h.cell r5).bind (AV.asInt .i64)).bind fun n6 =>
 cond (decide (a2=n6)) (
 some (.int .i64 a4,h)) (
 go (.pt kh5 knc [(0,a1.v),(1,.int .i64 a2),(7,.int .i64 a3),(8,.int .i64 (IntKind.wrap .i64 (a4+1)))]) h)) (
 some (.int .i64 (-1),h)):=(ke _ h).trans (by kernel_rfl)
theorem kxq(a1:Ref)(a2:Int)(a3:Sl)(a4:Int)(h:AH):go (.pt kc4 knh [(1,.ptr (some a1)),(3,.int .i64 a2),(4,a3.v),(5,.int .i64 a4)]) h =
 cond (decide (a4<(a3.len:Int))) (
 (idx a3.ref a3.len a4 7).bind fun r5 =>
 ((h.cell (r5.add 0)).bind AV.asBool).bind fun b6 =>
 ((h.cell (r5.add 1)).bind (AV.asInt .i64)).bind fun n7 =>
 ((h.cell (r5.add 2)).bind (AV.asInt .i64)).bind fun n8 =>
 ((h.cell (r5.add 3)).bind (AV.asInt .i64)).bind fun n9 =>
 ((h.cell (r5.add 4)).bind (AV.asInt .i64)).bind fun n10 =>
 ((h.cell (r5.add 5)).bind (AV.asInt .i64)).bind fun n11 =>
 ((h.cell (r5.add 6)).bind (AV.asInt .i64)).bind fun n12 =>
 (go (.fn klm [.agg [.bool b6,.int .i64 n7,.int .i64 n8,.int .i64 n9,.int .i64 n10,.int .i64 n11,.int .i64 n12],.int .i64 a4,.int .i64 (a3.len:Int)]) h).bind fun q13 =>
 ((some q13.1).bind AV.asBool).bind fun b14 =>
 cond (!b14) (
 some (.bool false,q13.2)) (
 go (.pt kc4 knh [(1,.ptr (some a1)),(3,.int .i64 a2),(4,a3.v),(5,.int .i64 (IntKind.wrap .i64 (a4+1)))]) q13.2)) (
 go (.pt kc4 kiw [(1,.ptr (some a1)),(3,.int .i64 (IntKind.wrap .i64 (a2+1)))]) h):=(ke _ h).trans (by kernel_rfl)
theorem k7j(a1 a2:Sl)(h:AH):go (.pt kfj kmr [(0,a1.v),(1,a2.v)]) h =
 cond (decide ((a2.len:Int)>0)) (
 (go (.fn kiq [a1.v,a2.v]) h).bind fun q3 =>
 (AV.asTup3 q3.1).bind fun p4 =>
 ((some p4.1).bind AV.asSl).bind fun l5 =>
 ((some p4.2.1).bind AV.asSl).bind fun l6 =>
 ((some p4.2.2).bind (AV.asInt .i64)).bind fun n7 =>
 go (.pt kfj kmr [(0,a2.v),(1,l6.v)]) q3.2) (
 some (.tup [a1.v,.int .i64 0],h)):=(ke _ h).trans (by kernel_rfl)
theorem kwx(a1:Option Ref)(a2:Int)(a3:Sl)(h:AH):go (.pt kej kgk [(0,.func (.func kc8) [.ptr a1] []),(1,.int .i64 a2),(2,a3.v)]) h =
 (go (.fn kc8 [.ptr a1,.int .i64 (IntKind.wrap .i64 (Int.tdiv (IntKind.wrap .i64 (a2+7)) 8))]) h).bind fun q4 =>
 (AV.asTup2 q4.1).bind fun p5 =>
 ((some p5.1).bind AV.asSl).bind fun l6 =>
 ((some p5.2).bind (AV.asInt .i64)).bind fun n7 =>
 cond (!decide (n7=0)) (
 some (.tup [(⟨none,0,.is 0⟩:Sl).v,.int .i64 n7],q4.2)) (
 cond (decide ((Int.tmod a2 8)>0)) (
 (idx l6.ref l6.len 0 1).bind fun r8 =>
 ((q4.2.cell r8).bind (AV.asInt .u8)).bind fun n9 =>
 cond (decide ((Int.tmod a2 8)<0)) none (
 (idx l6.ref l6.len 0 1).bind fun r10 =>
 (q4.2.puts r10 [.int .u8 (iand .u8 n9 (IntKind.wrap .u8 ((ishl .u8 1 (Int.tmod a2 8))-1)))]).bind fun h11 =>
 (go (.fn kex [l6.v]) h11).bind fun q12 =>
 (AV.asTup2 q12.1).bind fun p13 =>
 ((some p13.1).bind AV.asSl).bind fun l14 =>
 ((some p13.2).bind (AV.asInt .i64)).bind fun n15 =>
 (go (.fn kfe [l14.v,a3.v]) q12.2).bind fun q16 =>
 ((some q16.1).bind (AV.asInt .i64)).bind fun n17 =>
 cond (decide (n17<0)) (
 some (.tup [l14.v,.int .i64 0],q16.2)) (
 go (.pt kej kgk [(0,.func (.func kc8) [.ptr a1] []),(1,.int .i64 a2),(2,a3.v)]) q16.2))) (
 (go (.fn kex [l6.v]) q4.2).bind fun q18 =>
 (AV.asTup2 q18.1).bind fun p19 =>
 ((some p19.1).bind AV.asSl).bind fun l20 =>
 ((some p19.2).bind (AV.asInt .i64)).bind fun n21 =>
 (go (.fn kfe [l20.v,a3.v]) q18.2).bind fun q22 =>
 ((some q22.1).bind (AV.asInt .i64)).bind fun n23 =>
 cond (decide (n23<0)) (
 some (.tup [l20.v,.int .i64 0],q22.2)) (
 go (.pt kej kgk [(0,.func (.func kc8) [.ptr a1] []),(1,.int .i64 a2),(2,a3.v)]) q22.2))):=(ke _ h).trans (by kernel_rfl)
theorem k0r(a1:Sl)(h:AH):go (.fn kba [a1.v,.func (.func kbq) [] []]) h =
 go (.pt kba kbo [(0,a1.v),(1,.func (.func kbq) [] []),(7,.int .i64 (a1.len:Int)),(8,.int .i64 0)]) h:=(ke _ h).trans (by kernel_rfl)
theorem k9z(a1:Sl)(h:AH):go (.fn kbe [a1.v,.func (.func kb9) [] []]) h =
 go (.pt kbe kb8 [(0,a1.v),(1,.func (.func kb9) [] []),(7,.int .i64 (a1.len:Int)),(8,.int .i64 0)]) h:=(ke _ h).trans (by kernel_rfl)
theorem k2k(a1:Bool)(a2 a3 a4 a5 a6 a7 a8 a9:Int)(h:AH):go (.fn klm [.agg [.bool a1,.int .i64 a2,.int .i64 a3,.int .i64 a4,.int .i64 a5,.int .i64 a6,.int .i64 a7],.int .i64 a8,.int .i64 a9]) h =
 newK h (.cells [.bool a1,.int .i64 a2,.int .i64 a3,.int .i64 a4,.int .i64 a5,.int .i64 a6,.int .i64 a7] kbc) fun h10r h10 =>
 ((h10.cell (h10r.add 0)).bind AV.asBool).bind fun b11 =>
 cond b11 (
 ((h10.cell (h10r.add 1)).bind (AV.asInt .i64)).bind fun n12 =>
 cond (decide (n12≥(-1099511627776))) (
 ((h10.cell (h10r.add 1)).bind (AV.asInt .i64)).bind fun n13 =>
 cond (decide (n13≤1099511627776)) (
 ((h10.cell (h10r.add 0)).bind AV.asBool).bind fun b14 =>
 ((h10.cell (h10r.add 1)).bind (AV.asInt .i64)).bind fun n15 =>
 ((h10.cell (h10r.add 2)).bind (AV.asInt .i64)).bind fun n16 =>
 ((h10.cell (h10r.add 3)).bind (AV.asInt .i64)).bind fun n17 =>
 ((h10.cell (h10r.add 4)).bind (AV.asInt .i64)).bind fun n18 =>
 ((h10.cell (h10r.add 5)).bind (AV.asInt .i64)).bind fun n19 =>
 ((h10.cell (h10r.add 6)).bind (AV.asInt .i64)).bind fun n20 =>
 ((h10.cell (h10r.add 1)).bind (AV.asInt .i64)).bind fun n21 =>
 some (.bool ((b14==true)&&((decide (n15=n21))&&((decide (n16=0))&&((decide (n17=0))&&((decide (n18=0))&&((decide (n19=0))&&((decide (n20=0))&&true))))))),h10)) (
 some (.bool false,h10))) (
 some (.bool false,h10))) (
 ((h10.cell (h10r.add 1)).bind (AV.asInt .i64)).bind fun n22 =>
 cond (!decide (n22=0)) (
 some (.bool false,h10)) (
 ((h10.cell (h10r.add 2)).bind (AV.asInt .i64)).bind fun n23 =>
 cond (decide (n23<0)) (
 some (.bool false,h10)) (
 ((h10.cell (h10r.add 2)).bind (AV.asInt .i64)).bind fun n24 =>
 cond (decide (n24>15)) (
 some (.bool false,h10)) (
 ((h10.cell (h10r.add 3)).bind (AV.asInt .i64)).bind fun n25 =>
 cond (decide (n25<0)) (
 some (.bool false,h10)) (
 ((h10.cell (h10r.add 3)).bind (AV.asInt .i64)).bind fun n26 =>
 cond (decide (n26>1073741824)) (
 some (.bool false,h10)) (
 ((h10.cell (h10r.add 4)).bind (AV.asInt .i64)).bind fun n27 =>
 cond (decide (n27<0)) (
 some (.bool false,h10)) (
 ((h10.cell (h10r.add 4)).bind (AV.asInt .i64)).bind fun n28 =>
 cond (decide (n28>31)) (
 some (.bool false,h10)) (
 ((h10.cell (h10r.add 5)).bind (AV.asInt .i64)).bind fun n29 =>
 cond (decide (n29>a8)) (
 ((h10.cell (h10r.add 5)).bind (AV.asInt .i64)).bind fun n30 =>
 cond (decide (n30<a9)) (
 ((h10.cell (h10r.add 6)).bind (AV.asInt .i64)).bind fun n31 =>
 cond (decide (n31>a8)) (
 ((h10.cell (h10r.add 6)).bind (AV.asInt .i64)).bind fun n32 =>
 cond (decide (n32<a9)) (
 ((h10.cell (h10r.add 5)).bind (AV.asInt .i64)).bind fun n33 =>
 ((h10.cell (h10r.add 6)).bind (AV.asInt .i64)).bind fun n34 =>
 some (.bool (!decide (n33=n34)),h10)) (
 some (.bool false,h10))) (
 some (.bool false,h10))) (
 some (.bool false,h10))) (
 some (.bool false,h10)))))))))):=(ke _ h).trans (by kernel_rfl)
theorem k05(a1:Option Ref)(a2:Int)(h:AH):go (.fn kc8 [.ptr a1,.int .i64 a2]) h =
 cond (decide (a2<0)) (
 some (.tup [(⟨none,0,.is 0⟩:Sl).v,.int .i64 1],h)) (
 cond (decide (a2>65536)) (
 some (.tup [(⟨none,0,.is 0⟩:Sl).v,.int .i64 1],h)) (
 a1.bind fun r3 =>
 ((h.cell (r3.add 0)).bind AV.asSl).bind fun l4 =>
 cond (decide (a2>(l4.len:Int))) (
 some (.tup [(⟨none,0,.is 0⟩:Sl).v,.int .i64 7],h)) (
 a1.bind fun r5 =>
 ((h.cell (r5.add 0)).bind AV.asSl).bind fun l6 =>
 (cutSl l6 0 a2 1).bind fun l7 =>
 (go (.fn kkh [l7.v]) h).bind fun q8 =>
 ((some q8.1).bind AV.asSl).bind fun l9 =>
 a1.bind fun r10 =>
 ((q8.2.cell (r10.add 0)).bind AV.asSl).bind fun l11 =>
 (cutSl l11 a2 (l11.len:Int) 1).bind fun l12 =>
 a1.bind fun r13 =>
 (q8.2.puts (r13.add 0) [l12.v]).bind fun h14 =>
 some (.tup [l9.v,.int .i64 0],h14)))):=(ke _ h).trans (by kernel_rfl)
theorem k8o(a1:Sl)(h:AH):go (.fn kex [a1.v]) h =
 (go (.fn kfu [a1.v,.func (.func kd3) [] []]) h).bind fun q2 =>
 ((some q2.1).bind (AV.asInt .i64)).bind fun n3 =>
 cond (decide (n3<0)) (
 some (.tup [(⟨none,0,.is 0⟩:Sl).v,.int .i64 0],q2.2)) (
 (cutSl a1 n3 (a1.len:Int) 1).bind fun l4 =>
 cond (decide ((l4.len:Int)>512)) (
 some (.tup [(⟨none,0,.is 0⟩:Sl).v,.int .i64 4],q2.2)) (
 (kbg (IntKind.wrap .i64 (Int.tdiv (IntKind.wrap .i64 ((l4.len:Int)+7)) 8)) (IntKind.wrap .i64 (Int.tdiv (IntKind.wrap .i64 ((l4.len:Int)+7)) 8)) kj (Pg.bytesOf kj) [.int .u64 0] q2.2).bind fun q5 =>
 go (.pt kex kk6 [(0,l4.v),(5,q5.1.v),(23,.int .i64 (l4.len:Int)),(24,.int .i64 0)]) q5.2)):=(ke _ h).trans (by kernel_rfl)
theorem ksd(a1:Sl)(a2 a3:Int)(h:AH):go (.pt kba kbo [(0,a1.v),(1,.func (.func kbq) [] []),(7,.int .i64 a2),(8,.int .i64 a3)]) h =
 cond (decide (a3<a2)) (
 (idx a1.ref a1.len a3 1).bind fun r4 =>
 ((h.cell r4).bind (AV.asInt .i64)).bind fun n5 =>
 (go (.fn kbq [.int .i64 n5]) h).bind fun q6 =>
 ((some q6.1).bind AV.asBool).bind fun b7 =>
 cond b7 (
 some (.int .i64 a3,q6.2)) (
 go (.pt kba kbo [(0,a1.v),(1,.func (.func kbq) [] []),(7,.int .i64 a2),(8,.int .i64 (IntKind.wrap .i64 (a3+1)))]) q6.2)) (
 some (.int .i64 (-1),h)):=(ke _ h).trans (by kernel_rfl)
theorem ku2(a1:Sl)(a2 a3:Int)(h:AH):go (.pt kbe kb8 [(0,a1.v),(1,.func (.func kb9) [] []),(7,.int .i64 a2),(8,.int .i64 a3)]) h =
 cond (decide (a3<a2)) (
 (idx a1.ref a1.len a3 1).bind fun r4 =>
 ((h.cell r4).bind AV.asSl).bind fun l5 =>
 (go (.fn kb9 [l5.v]) h).bind fun q6 =>
 ((some q6.1).bind AV.asBool).bind fun b7 =>
 cond b7 (
 some (.int .i64 a3,q6.2)) (
 go (.pt kbe kb8 [(0,a1.v),(1,.func (.func kb9) [] []),(7,.int .i64 a2),(8,.int .i64 (IntKind.wrap .i64 (a3+1)))]) q6.2)) (
 some (.int .i64 (-1),h)):=(ke _ h).trans (by kernel_rfl)
theorem k70(a1:Sl)(h:AH):go (.fn kfu [a1.v,.func (.func kd3) [] []]) h =
 go (.pt kfu kib [(0,a1.v),(1,.func (.func kd3) [] []),(7,.int .i64 (a1.len:Int)),(8,.int .i64 0)]) h:=(ke _ h).trans (by kernel_rfl)
theorem kxg(a1 a2:Sl)(a3 a4:Int)(h:AH):go (.pt kex kk6 [(0,a1.v),(5,a2.v),(23,.int .i64 a3),(24,.int .i64 a4)]) h =
 cond (decide (a4<a3)) (
 (idx a2.ref a2.len (IntKind.wrap .i64 (Int.tdiv a4 8)) 1).bind fun r5 =>
 ((h.cell r5).bind (AV.asInt .u64)).bind fun n6 =>
 (idx a1.ref a1.len (IntKind.wrap .i64 ((IntKind.wrap .i64 ((a1.len:Int)-1))-a4)) 1).bind fun r7 =>
 ((h.cell r7).bind (AV.asInt .u8)).bind fun n8 =>
 cond (decide ((IntKind.wrap .i64 (8*(Int.tmod a4 8)))<0)) none (
 (idx a2.ref a2.len (IntKind.wrap .i64 (Int.tdiv a4 8)) 1).bind fun r9 =>
 (h.puts r9 [.int .u64 (ior .u64 n6 (ishl .u64 (IntKind.wrap .u64 n8) (IntKind.wrap .i64 (8*(Int.tmod a4 8)))))]).bind fun h10 =>
 go (.pt kex kk6 [(0,a1.v),(5,a2.v),(23,.int .i64 a3),(24,.int .i64 (IntKind.wrap .i64 (a4+1)))]) h10)) (
 (go (.fn kjb [a2.v]) h).bind fun q11 =>
 (AV.asTup2 q11.1).bind fun p12 =>
 ((some p12.1).bind AV.asSl).bind fun l13 =>
 ((some p12.2).bind (AV.asInt .i64)).bind fun n14 =>
 some (.tup [l13.v,.int .i64 n14],q11.2)):=(ke _ h).trans (by kernel_rfl)
theorem kbb6(a1:Sl)(h:AH):go (.fn kb9 [a1.v]) h =
 (go (.fn kc9 [a1.v]) h).bind fun q2 =>
 ((some q2.1).bind AV.asBool).bind fun b3 =>
 cond (!b3) (
 some (.bool true,q2.2)) (
 some (.bool (decide ((a1.len:Int)>4)),q2.2)):=(ke _ h).trans (by kernel_rfl)
theorem kvz(a1:Sl)(a2 a3:Int)(h:AH):go (.pt kfu kib [(0,a1.v),(1,.func (.func kd3) [] []),(7,.int .i64 a2),(8,.int .i64 a3)]) h =
 cond (decide (a3<a2)) (
 (idx a1.ref a1.len a3 1).bind fun r4 =>
 ((h.cell r4).bind (AV.asInt .u8)).bind fun n5 =>
 (go (.fn kd3 [.int .u8 n5]) h).bind fun q6 =>
 ((some q6.1).bind AV.asBool).bind fun b7 =>
 cond b7 (
 some (.int .i64 a3,q6.2)) (
 go (.pt kfu kib [(0,a1.v),(1,.func (.func kd3) [] []),(7,.int .i64 a2),(8,.int .i64 (IntKind.wrap .i64 (a3+1)))]) q6.2)) (
 some (.int .i64 (-1),h)):=(ke _ h).trans (by kernel_rfl)
theorem k9l(a1:Int)(h:AH):go (.fn kd3 [.int .u8 a1]) h =
 some (.bool (!decide (a1=0)),h):=(ke _ h).trans (by kernel_rfl)
end Go.Ab
set_option maxRecDepth 10000
namespace Go.Ab
open Go.Proofs Go.Num
@[reducible] def B:Nat:=18446744073709551616
theorem B2:2≤B:=by decide
def rt(xs:List Nat):Bool:=decide (xs.length≤64)&&(decide (xs.length=0)||!decide (xs.getD (xs.length-1) 0=0))
theorem kci{xs:List Nat}{i:Nat}(h:i<xs.length):xs.getD i 0=xs[i]:=by simp[List.getD,h]
theorem rt_iff{xs:List Nat}:rt xs=true↔xs.length≤64∧Trim xs:=by
 unfold rt Trim;simp only[Bool.and_eq_true,decide_eq_true_eq,Bool.or_eq_true,Bool.not_eq_true',decide_eq_false_iff_not,List.length_eq_zero_iff];refine and_congr_right fun _=>?_;constructor
 ·rintro (h | h) hne
  ·exact absurd h hne
  ·rwa[List.getLast_eq_getElem,← kci]
 ·intro h;by_cases he:xs=[]
  ·exact .inl he
  ·right
   have:=h he;rwa[List.getLast_eq_getElem,← kci]at this
theorem Nats.last{h:AH}{s:Sl}{xs:List Nat}(n:Nats h s xs)(hx:xs.length≠0):∃r,idx s.ref s.len (IntKind.wrap .i64 ((s.len:Int)-1)) 1=some r∧h.cell r=some (.int .u64 ((xs.getD (xs.length-1) 0:Nat):Int)):=by
 obtain⟨k,hk⟩:∃k,xs.length=k+1:=⟨xs.length-1,by omega⟩;have hs:=n.short;obtain⟨r,e1,e2⟩:=n.at (i:=k) (by omega);rw[n.len,hk]at e1⊢;rw[kqp (by omega)];refine⟨r,e1,?_⟩;rw[e2,show k+1-1=k from rfl,kci (by omega)]
theorem ked{h:AH}{s:Sl}{xs:List Nat}(n:Nats h s xs):go (.fn kc9 [s.v]) h=some (.bool (rt xs),h):=by
 rw[k01];have hl:=n.len;refine kq2 (fun h1=>?_) (fun h1=>?_)
 ·have h1:xs.length≤64:=by rw[decide_eq_true_eq]at h1;omega
  refine kq2 (fun h2=>?_) (fun h2=>?_)
  ·have h2:xs.length=0:=by rw[decide_eq_true_eq]at h2;omega
   simp[rt,h2]
  ·have h2:xs.length≠0:=by rw[decide_eq_false_iff_not]at h2;omega
   obtain⟨r,e1,e2⟩:=n.last h2;simp[e1,e2,rt,h1];cases xs
   ·simp at h2
   ·simp
 ·have h1:¬xs.length≤64:=by rw[decide_eq_false_iff_not]at h1;omega
  simp[rt,h1]
theorem kr9{h:AH}{s:Sl}{xs:List Nat}(n:Nats h s xs):∀(k:Nat),k≤xs.length→(∀i,k≤i→(hi:i<xs.length)→xs[i]=0)→
  ∃s',go (.pt kbf kin [(0,s.v),(3,.int .i64 (k:Int))]) h=some (s'.v,h)∧Nats h s' (digs B (num B xs))∧∀h0,Own h0 s→Own h0 s'
 | 0,hk,hz=>by
  rw[klf];obtain⟨s',e1,e2,e3⟩:=n.cut (l:=0) (n:=0) (Nat.le_refl _) hk;have:=krw B2 n.lt hz hk (.inl rfl);simp at e1;simp only[Int.natCast_zero,gt_iff_lt,Int.lt_irrefl,decide_false,cond_false,e1,Option.bind_some];refine⟨s',rfl,?_,e3⟩;rw[← this]
  simpa using e2
 | k+1,hk,hz=>by
  rw[klf];obtain⟨r,e1,e2⟩:=n.at (i:=k) (by omega);have hs:=n.short;rw[kqp (by omega)];rw[show(decide (((k+1:Nat):Int)>0))=true from by rw[decide_eq_true_eq];omega];simp only[cond_true,e1,e2,Option.bind_some,kc];by_cases hx:xs[k]=0
  ·rw[hx,show(decide (((0:Nat):Int)=0))=true from rfl,cond_true];refine kr9 n k (by omega) fun i hi hil=>?_;rcases Nat.lt_or_ge k i with h1 | h1
   ·exact hz i (by omega) hil
   ·have:i=k:=by omega
    subst this;exact hx
  ·obtain⟨s',e3,e4,e5⟩:=n.cut (l:=0) (n:=k+1) (by omega) hk;have ht:=krw B2 n.lt hz hk (.inr ⟨by omega,by simpa using hx⟩);rw[show(decide (((xs[k]:Nat):Int)=0))=false from by rw[decide_eq_false_iff_not];omega];simp only[cond_false];rw[show cutSl s 0 ((k+1:Nat):Int) 1=some s' from e3];refine⟨s',rfl,?_,e5⟩;rw[← ht]
   simpa using e4
theorem kdd{h:AH}{s:Sl}{xs:List Nat}(n:Nats h s xs):∃s',go (.fn kbf [s.v]) h=some (s'.v,h)∧Nats h s' (digs B (num B xs))∧∀h0,Own h0 s→Own h0 s':=by
 rw[koy,n.len];exact kr9 n xs.length (Nat.le_refl _) fun i h1 h2=>by omega
theorem k1y{n:Nat}(h:n≤8796093022208):growOk Pg n kj 1=true:=by
 unfold growOk;rw[k3i,kdw];have h1:n*8≤kg:=by simp only[kg];omega
 have h2:n≤kg:=by simp only[kg];omega
 simp[h1,h2]
theorem khr{h:AH}{s:Sl}{xs:List Nat}(n:Nats h s xs)(hl:xs.length≤8796093022208):∃s' h',go (.fn kft [s.v]) h=some (s'.v,h')∧Nats h' s' xs∧Grow h h'∧Own h s':=by
 rw[k6f];cases hr:s.ref with
 | none =>
  have:xs=[]:=by
   cases xs with
   | nil=>rfl
   | cons x xs =>
    obtain⟨r,e1,_⟩:=n.cells.get 0 (u64 x) rfl;rw[hr]at e1;cases e1
  subst this;exact⟨_,_,rfl,Nats.nil h,Grow.refl h,Own.nil h⟩
 | some r =>
  simp only[Option.isNone_some,cond_false,kkb];have n1:=n.grow (Grow.push h (.cells [] kj));have c1:=n1.cells;rw[← kbd6]at c1;rw[kmb c1,n.len];simp only[Option.bind_some];have own:∀(m:Nat)(c:Cap),Own h ⟨some (.new h.blks.size 0),m,c⟩:=fun m c r hr=>by cases hr;exact⟨_,_,rfl,Nat.le_refl _⟩
  cases xs with
  | nil =>
   obtain⟨s',e1,e2,e3⟩:=k33 (P:=Pg) (elem:=kj) (m:=1) (by omega) (Cells.of_has (n:=1) (m:=0) (AH.has_push h [] kj) rfl);simp only[List.map_nil,List.length_nil,e1,Option.bind_some,asSl_v];exact⟨s',_,rfl,⟨e2,by simp,by simp⟩,Grow.push _ _,e3 h (own 0 (.is 0))⟩
  | cons x xs =>
   rw[kmv (c:=0) rfl (by simp) (k1y (by simpa using hl)) (Cells.of_has (n:=1) (m:=0) (AH.has_push h [] kj) rfl)];simp only[Option.bind_some,asSl_v];refine⟨_,_,rfl,⟨⟨rfl,by simp,fun i v hv=>⟨_,rfl,by rw[Ref.add_new,Nat.zero_add,AH.cell_push];exact hv⟩⟩,n.lt,n.short⟩,(Grow.push _ _).trans (Grow.push _ _),fun r hr=>?_⟩;cases hr;exact⟨_,_,rfl,by simp⟩
theorem kx4{h:AH}{x:Nat}(hx:x<B):∃(s':Sl)(h':AH),go (.fn kic [.int .u64 (x:Int)]) h=some (s'.v,h')∧Nats h' s' (digs B x)∧Grow h h'∧Own h s':=by
 rw[k09];simp only[kkb];have n0:Nats (h.push (.cells [u64 x] kj)) ⟨some (.new h.blks.size 0),1,.is 1⟩ [x]:=⟨Cells.of_has (AH.has_push h [u64 x] kj) rfl,by simpa using hx,by simp⟩;obtain⟨s',e1,e2,e3⟩:=kdd n0;rw[e1];simp only[Option.bind_some,asSl_v];refine⟨s',_,rfl,by simpa[num]using e2,Grow.push _ _,e3 h fun r hr=>by cases hr;exact⟨_,_,rfl,Nat.le_refl _⟩⟩
structure Rows(h:AH)(s:Sl)(rows:List (Sl×List Nat)):Prop where
 cells:Cells h s 1 (rows.map fun p=>p.1.v)
 each:∀p∈rows,Nats h p.1 p.2
 short:rows.length≤9223372036854775807
theorem Rows.len{h:AH}{s:Sl}{rows:List (Sl×List Nat)}(n:Rows h s rows):s.len=rows.length:=by
 have:=n.cells.len
 simpa using this
theorem Rows.at{h:AH}{s:Sl}{rows:List (Sl×List Nat)}(n:Rows h s rows){i:Nat}(hi:i<rows.length):∃r,idx s.ref s.len (i:Int) 1=some r∧h.cell r=some (rows[i].1).v:=by
 obtain⟨r,e1,e2⟩:=n.cells.get i (rows[i].1).v (by simp[hi]);refine⟨r.add i,?_,e2⟩;rw[e1,kd8 _ _ _ _ (by omega) (by rw[n.len];omega)];simp
theorem Rows.two{h:AH}{a b:Sl}{xs ys:List Nat}(n:Nats h a xs)(m:Nats h b ys):Rows (h.push (.cells [a.v,b.v] kr)) ⟨some (.new h.blks.size 0),2,.is 2⟩ [(a,xs),(b,ys)]:=by
 refine⟨Cells.of_has (AH.has_push _ _ _) rfl,fun p hp=>?_,by simp⟩;have g:=Grow.push h (.cells [a.v,b.v] kr);simp at hp;rcases hp with rfl | rfl
 ·exact n.grow g
 ·exact m.grow g
theorem ks3{b:Nat}(hb:1≤b){xs:List Nat}(hx:∀x∈xs,x<b){k:Nat}(hk:k≤xs.length):num b (xs.take k)<b^k:=by
 have:=num_lt (b:=b) hb (xs:=xs.take k) fun x h=>hx x (List.mem_of_mem_take h);rwa[List.length_take,Nat.min_eq_left hk]at this
theorem k0u{b:Nat}(hb:1≤b){xs ys:List Nat}(hx:∀x∈xs,x<b)(hy:∀x∈ys,x<b){k:Nat}(h1:k<xs.length)(h2:k<ys.length) :
  cmp (num b (xs.take (k+1))) (num b (ys.take (k+1)))=if xs[k]<ys[k]then -1 else if xs[k]=ys[k]then cmp (num b (xs.take k)) (num b (ys.take k))else 1:=by
 rw[kck b h1,kck b h2];exact kzc (ks3 hb hx (by omega)) (ks3 hb hy (by omega))
theorem k99{b:Nat}(hb:2≤b){xs ys:List Nat}(hx:∀x∈xs,x<b)(hy:∀x∈ys,x<b)(tx:Trim xs)(ty:Trim ys)(h:xs.length≠ys.length):cmp (num b xs) (num b ys)=if xs.length<ys.length then -1 else 1:=by
 rcases Nat.lt_or_ge xs.length ys.length with h1 | h1
 ·have:=ko0 hb hx hy ty h1;simp[cmp,this,h1]
 ·have:=ko0 hb hy hx tx (by omega);rw[if_neg (by omega)];unfold cmp;rw[if_neg (by omega),if_neg (by omega)]
theorem kud{h:AH}{s t:Sl}{xs ys:List Nat}(n:Nats h s xs)(m:Nats h t ys)(hl:xs.length=ys.length):∀(k:Nat),k≤xs.length→
  go (.pt keg kl6 [(0,s.v),(1,t.v),(5,.int .i64 ((k:Int)-1))]) h=some (.int .i64 (cmp (num B (xs.take k)) (num B (ys.take k))),h)
 | 0,hk=>by
  rw[krr];rfl
 | k+1,hk=>by
  have hs:=n.short;obtain⟨r,e1,e2⟩:=n.at (i:=k) (by omega);obtain⟨q,e3,e4⟩:=m.at (i:=k) (by omega);rw[krr,show(((k+1:Nat):Int)-1)=(k:Int)from by omega,show decide ((k:Int)≥0)=true from by rw[decide_eq_true_eq];omega];simp only[cond_true,e1,e3,e2,e4,Option.bind_some,kc];rw[k0u (by decide) n.lt m.lt (by omega) (by omega),wrap64 (n:=(k:Int)-1) (by omega) (by omega),kud n m hl k (by omega)];by_cases h1:xs[k]=ys[k]'(by omega)
  ·rw[show decide (((xs[k]:Nat):Int)=((ys[k]'(by omega):Nat):Int))=true from by rw[decide_eq_true_eq];omega];simp[h1]
  ·rw[show decide (((xs[k]:Nat):Int)=((ys[k]'(by omega):Nat):Int))=false from by rw[decide_eq_false_iff_not];omega];by_cases h2:xs[k]<ys[k]'(by omega)
   ·rw[show decide (((xs[k]:Nat):Int)<((ys[k]'(by omega):Nat):Int))=true from by rw[decide_eq_true_eq];omega];simp[h2]
   ·rw[show decide (((xs[k]:Nat):Int)<((ys[k]'(by omega):Nat):Int))=false from by rw[decide_eq_false_iff_not];omega];simp[h1,h2]
theorem kkr{h:AH}{s t:Sl}{xs ys:List Nat}(n:Nats h s xs)(m:Nats h t ys)(tx:Trim xs)(ty:Trim ys):go (.fn keg [s.v,t.v]) h=some (.int .i64 (cmp (num B xs) (num B ys)),h):=by
 have hs:=n.short;have ht:=m.short;rw[kzf,n.len,m.len];by_cases hl:xs.length=ys.length
 ·rw[show decide ((xs.length:Int)=(ys.length:Int))=true from by rw[decide_eq_true_eq];omega];simp only[Bool.not_true,cond_false];rw[wrap64 (by omega) (by omega),kud n m hl xs.length (Nat.le_refl _),List.take_length,hl,List.take_length]
 ·rw[show decide ((xs.length:Int)=(ys.length:Int))=false from by rw[decide_eq_false_iff_not];omega,k99 B2 n.lt m.lt tx ty hl];by_cases h1:xs.length<ys.length
  ·rw[show decide ((xs.length:Int)<(ys.length:Int))=true from by rw[decide_eq_true_eq];omega];simp[h1]
  ·rw[show decide ((xs.length:Int)<(ys.length:Int))=false from by rw[decide_eq_false_iff_not];omega];simp[h1]
@[reducible] def D:Nat:=65536
theorem k9d{h:AH}{s:Sl}{xs:List Nat}(n:Nats h s xs):go (.fn kdq [s.v]) h=some (.bool (!rt xs),h):=by
 rw[k0g,ked n];rfl
theorem ku5{h:AH}{s:Sl}{rows:List (Sl×List Nat)}(n:Rows h s rows):∀(k i:Nat),i+k=rows.length→
  ∃j:Int,go (.pt kbe kb8 [(0,s.v),(1,.func (.func kdq) [] []),(7,.int .i64 (rows.length:Int)),(8,.int .i64 (i:Int))]) h=some (.int .i64 j,h)∧
   (j≥0↔(rows.drop i).all (fun p=>rt p.2)=false)
 | 0,i,hi=>by
  rw[kxv,show decide ((i:Int)<(rows.length:Int))=false from by rw[decide_eq_false_iff_not];omega,List.drop_of_length_le (by omega)];exact⟨-1,rfl,by simp⟩
 | k+1,i,hi=>by
  have hs:=n.short;obtain⟨r,e1,e2⟩:=n.at (i:=i) (by omega);have hp:=n.each rows[i] (List.getElem_mem _);rw[kxv,show decide ((i:Int)<(rows.length:Int))=true from by rw[decide_eq_true_eq];omega,cond_true,e1];simp only[Option.bind_some,e2,asSl_v,k9d hp,khz];rw[List.drop_eq_getElem_cons (by omega),List.all_cons,kf (by omega)];cases hr:rt (rows[i].2)with
  | false=>exact⟨(i:Int),rfl,by simp⟩
  | true =>
   obtain⟨j,e3,e4⟩:=ku5 n k (i+1) (by omega);exact⟨j,e3,by simpa using e4⟩
theorem kl7{h:AH}{s:Sl}{rows:List (Sl×List Nat)}(n:Rows h s rows):go (.fn kg3 [s.v]) h=some (.bool (rows.all fun p=>rt p.2),h):=by
 obtain⟨j,e1,e2⟩:=ku5 n rows.length 0 (by omega);rw[kbas,k03,kbay,n.len];rw[show(0:Int)=((0:Nat):Int)from rfl,e1];simp only[Option.bind_some,kc,khz];rw[List.drop_zero]at e2;cases ha:rows.all fun p=>rt p.2 with
 | false=>rw[ha]at e2;simp at e2;simp;omega
 | true=>rw[ha]at e2;simp at e2;simp;omega
def cmpN(xs ys:List Nat):Int:=if rt xs=true∧rt ys=true then cmp (num B xs) (num B ys)else 0
theorem kpb{h:AH}{s t:Sl}{xs ys:List Nat}(n:Nats h s xs)(m:Nats h t ys):∃h',go (.fn kfe [s.v,t.v]) h=some (.int .i64 (cmpN xs ys),h')∧Grow h h':=by
 rw[kbdu];simp only[kkb];have r:=Rows.two n m;have g:=Grow.push h (.cells [s.v,t.v] kr);generalize h.push (.cells [s.v,t.v] kr)=h0 at *
 refine⟨h0,?_,g⟩;rw[kl7 r];simp only[Option.bind_some,khz,List.all_cons,List.all_nil,Bool.and_true];cases hx:rt xs with
 | false=>simp[cmpN,hx]
 | true =>
  cases hy:rt ys with
  | false=>simp[cmpN,hy]
  | true =>
   simp only[Bool.and_self,Bool.not_true,cond_false];rw[kkr (n.grow g) (m.grow g) (rt_iff.1 hx).2 (rt_iff.1 hy).2];simp[cmpN,hx,hy]
theorem kj1(b:Nat)(ys:List Nat)(k:Nat):num b (ys.take (k+1))=num b (ys.take k)+b^k*ys.getD k 0:=by
 by_cases h:k<ys.length
 ·rw[kck b h,kci h]
 ·rw[List.take_of_length_le (by omega),List.take_of_length_le (by omega)];simp[List.getD,List.getElem?_eq_none (show ys.length≤k by omega)]
theorem kya(zs:List Nat){i:Nat}(v:Nat)(h:i<zs.length):(zs.set i v).take (i+1)=zs.take i++[v]:=by
 apply List.ext_getElem?;intro j;rw[List.getElem?_take];by_cases hi:j<i
 ·rw[if_pos (by omega),List.getElem?_set_ne (by omega),List.getElem?_append_left (by simp;omega),List.getElem?_take,if_pos hi]
 ·by_cases hi2:j=i
  ·subst hi2;rw[if_pos (by omega),List.getElem?_set_self h,List.getElem?_append_right (by simp;omega)];simp[Nat.min_eq_left (show j≤zs.length by omega)]
  ·rw[if_neg (by omega),List.getElem?_eq_none (by simp;omega)]
theorem kqo(b:Nat)(zs:List Nat){i:Nat}(v:Nat)(h:i<zs.length):num b ((zs.set i v).take (i+1))=num b (zs.take i)+b^i*v:=by
 rw[kya zs v h,kdu];simp[num,Nat.min_eq_left (Nat.le_of_lt h)]
theorem kiz{h:AH}{j i:Nat}{zs:List Nat}(b:h.has j (zs.map u64) kj)(v:Nat)(hi:i<zs.length):h.puts (.new j i) [u64 v]=some (h.upd j ((zs.set i v).map u64) kj):=by
 simp only[AH.puts];rw[b.put (by simpa using hi)];simp[List.map_set]
theorem kvk{x y c:Nat}(hx:x<B)(hy:y<B)(hc:c≤1):prim "math/bits.Add64" [u64 x,u64 y,u64 c]=some (.tup [u64 ((x+y+c)%B),u64 ((x+y+c)/B)]):=by
 show cond (decide (0≤(x:Int)∧0≤(y:Int)∧0≤(c:Int)∧(c:Int)≤1)) (some (AV.tup [.int .u64 (((x:Int)+y+c)%18446744073709551616),.int .u64 (((x:Int)+y+c)/18446744073709551616)])) none=_;rw[show decide (0≤(x:Int)∧0≤(y:Int)∧0≤(c:Int)∧(c:Int)≤1)=true from by rw[decide_eq_true_eq];omega];rfl
theorem kla{xs:List Nat}(h:∀x∈xs,x<18446744073709551616)(i:Nat):xs.getD i 0<B:=by
 show _<18446744073709551616;by_cases hi:i<xs.length
 ·rw[kci hi];exact h _ (List.getElem_mem _)
 ·simp[List.getD,List.getElem?_eq_none (show xs.length≤i by omega)]
theorem kut{h:AH}{s t:Sl}{xs ys:List Nat}(n:Nats h s xs)(m:Nats h t ys)(hl:ys.length≤xs.length)(hs:xs.length<4611686018427387904){j:Nat}(hj:h.blks.size≤j) :
  ∀(k i:Nat),i+k=xs.length→∀{hi:AH}{zs:List Nat}{c:Nat},Grow h hi→hi.has j (zs.map u64) kj→zs.length=xs.length+1→(∀z∈zs,z<18446744073709551616)→c≤1→
   num B (zs.take i)+B^i*c=num B (xs.take i)+num B (ys.take i)→
   ∃(h':AH)(zs':List Nat),go (.pt kcv kfc [(0,s.v),(1,t.v),(5,Sl.v ⟨some (.new j 0),xs.length+1,.is (xs.length+1)⟩),(6,u64 c),(21,.int .i64 (xs.length:Int)),(22,.int .i64 (i:Int))]) hi =
    some (Sl.v ⟨some (.new j 0),xs.length+1,.is (xs.length+1)⟩,h')∧Grow h h'∧h'.has j (zs'.map u64) kj∧zs'.length=xs.length+1∧(∀z∈zs',z<18446744073709551616)∧num B zs'=num B xs+num B ys
 | 0,i,hik,hi,zs,c,g,b,hz,hlt,hc,inv=>by
  rw[kt7,show decide ((i:Int)<(xs.length:Int))=false from by rw[decide_eq_false_iff_not];omega,cond_false,n.len];rw[kd8 _ _ _ _ (by omega) (by show(xs.length:Int)<((xs.length+1:Nat):Int);omega)];simp only[Option.bind_some,Int.toNat_natCast,Nat.mul_one,Ref.add_new,Nat.zero_add];rw[kiz b c (by omega)];refine⟨_,zs.set xs.length c,rfl,g.upd hj _ _,AH.has_upd b _ _,by simpa using hz,fun z hzm=>?_,?_⟩
  ·rcases List.mem_or_eq_of_mem_set hzm with h1 | rfl
   ·exact hlt z h1
   ·omega
  ·have e:=kqo B zs c (i:=xs.length) (by omega);rw[List.take_of_length_le (by simp;omega)]at e;have:i=xs.length:=by omega
   subst this;rw[e,inv,List.take_length,List.take_of_length_le hl]
 | k+1,i,hik,hi,zs,c,g,b,hz,hlt,hc,inv=>by
  have n':=n.grow g;have m':=m.grow g;obtain⟨r,e1,e2⟩:=n'.at (i:=i) (by omega);have hx:xs.getD i 0<B:=kla n.lt i;have hy:ys.getD i 0<B:=kla m.lt i
  have next:∃(h':AH)(zs':List Nat),go (.pt kcv kfc [(0,s.v),(1,t.v),(5,Sl.v ⟨some (.new j 0),xs.length+1,.is (xs.length+1)⟩),(6,u64 ((xs.getD i 0+ys.getD i 0+c)/B)),(21,.int .i64 (xs.length:Int)),(22,.int .i64 ((i+1:Nat):Int))]) (hi.upd j ((zs.set i ((xs.getD i 0+ys.getD i 0+c)%B)).map u64) kj) =
    some (Sl.v ⟨some (.new j 0),xs.length+1,.is (xs.length+1)⟩,h')∧Grow h h'∧h'.has j (zs'.map u64) kj∧zs'.length=xs.length+1∧(∀z∈zs',z<18446744073709551616)∧num B zs'=num B xs+num B ys:=by
   refine kut n m hl hs hj k (i+1) (by omega) (g.upd hj _ _) (AH.has_upd b _ _) (by simpa using hz) (fun z hzm=>?_) ?_ ?_
   ·rcases List.mem_or_eq_of_mem_set hzm with h1 | rfl
    ·exact hlt z h1
    ·exact Nat.mod_lt _ (by decide)
   ·have h1:xs.getD i 0<18446744073709551616:=hx;have h2:ys.getD i 0<18446744073709551616:=hy;show(xs.getD i 0+ys.getD i 0+c)/18446744073709551616≤1;omega
   ·rw[kqo B zs _ (by omega),kj1 B xs i,kj1 B ys i];have e:=Nat.mod_add_div (xs.getD i 0+ys.getD i 0+c) B;generalize hq:(xs.getD i 0+ys.getD i 0+c)%B=q at *
    generalize hw:(xs.getD i 0+ys.getD i 0+c)/B=w at *
    rw[Nat.pow_succ,Nat.mul_assoc,Nat.add_assoc,← Nat.mul_add,e,Nat.mul_add,Nat.mul_add];omega
  rw[kt7,show decide ((i:Int)<(xs.length:Int))=true from by rw[decide_eq_true_eq];omega,cond_true,m.len,kf (by omega)]
  have put:idx (some (.new j 0)) (xs.length+1) (i:Int) 1=some (.new j i):=by
   rw[kd8 _ _ _ _ (by omega) (by omega)];simp
  by_cases hi2:i<ys.length
  ·obtain⟨q,e3,e4⟩:=m'.at (i:=i) hi2;rw[show decide ((i:Int)<(ys.length:Int))=true from by rw[decide_eq_true_eq];omega,cond_true];rw[← m.len,e3,e1];simp only[Option.bind_some,e2,e4,kc];have ex:((xs[i]:Nat):Int)=((xs.getD i 0:Nat):Int):=by rw[kci (by omega)]
   have ey:((ys[i]:Nat):Int)=((ys.getD i 0:Nat):Int):=by rw[kci hi2]
   rw[ex,ey];have pa:=kvk hx hy hc;simp only[u64]at pa⊢;rw[pa];simp only[Option.map_some,Option.bind_some,khq,kc,put];rw[show hi.puts (.new j i) [AV.int .u64 (((xs.getD i 0+ys.getD i 0+c)%B:Nat):Int)]=_ from kiz b _ (by omega)];exact next
  ·have hy0:ys.getD i 0=0:=by simp[List.getD,List.getElem?_eq_none (show ys.length≤i by omega)]
   rw[show decide ((i:Int)<(ys.length:Int))=false from by rw[decide_eq_false_iff_not];omega,cond_false,e1];simp only[Option.bind_some,e2,kc];have ex:((xs[i]:Nat):Int)=((xs.getD i 0:Nat):Int):=by rw[kci (by omega)]
   rw[ex];have pa:=kvk hx hy hc;simp only[u64]at pa⊢;rw[hy0]at pa;rw[show(AV.int .u64 0)=AV.int .u64 ((0:Nat):Int)from rfl,pa];simp only[Option.map_some,Option.bind_some,khq,kc,put];rw[hy0]at next;rw[show hi.puts (.new j i) [AV.int .u64 (((xs.getD i 0+0+c)%B:Nat):Int)]=_ from kiz b _ (by omega)];exact next
theorem kve{h:AH}{l:Int}{n:Nat}(hl:l=(n:Int))(hn:n≤8796093022207):kbg l l kj (Pg.bytesOf kj) [.int .u64 0] h=some (⟨some (.new h.blks.size 0),n,.is n⟩,h.push (.cells ((List.replicate n 0).map u64) kj)):=by
 rw[kdw,kny hl hl (by omega) (by omega),kp4];simp;rfl
theorem k44(b n:Nat):num b (List.replicate n 0)=0:=by
 have:=kjs b [] n
 simpa[num]using this
theorem kw1{h:AH}{s t:Sl}{xs ys:List Nat}(n:Nats h s xs)(m:Nats h t ys)(hx:xs.length≤1073741824)(hy:ys.length≤1073741824) :
  ∃(s':Sl)(h':AH)(zs:List Nat),go (.fn kcv [s.v,t.v]) h=some (s'.v,h')∧Nats h' s' zs∧Grow h h'∧Own h s'∧num B zs=num B xs+num B ys∧zs.length=max xs.length ys.length+1:=by
 have key:∀{s t:Sl}{xs ys:List Nat},Nats h s xs→Nats h t ys→xs.length≤1073741824→ys.length≤xs.length→∃(s':Sl)(h':AH)(zs:List Nat),
   ((kbg (IntKind.wrap .i64 ((s.len:Int)+1)) (IntKind.wrap .i64 ((s.len:Int)+1)) kj (Pg.bytesOf kj) [.int .u64 0] h).bind fun q4 =>
   go (.pt kcv kfc [(0,s.v),(1,t.v),(5,q4.1.v),(6,.int .u64 0),(21,.int .i64 (s.len:Int)),(22,.int .i64 0)]) q4.2)=some (s'.v,h')∧Nats h' s' zs∧Grow h h'∧Own h s'∧num B zs=num B xs+num B ys∧zs.length=xs.length+1:=by
  intro s t xs ys n m hx hle;rw[n.len,kf (by omega),kve rfl (by omega)];simp only[Option.bind_some];have g0:=Grow.push h (.cells ((List.replicate (xs.length+1) 0).map u64) kj);have b0:=AH.has_push h ((List.replicate (xs.length+1) 0).map u64) kj;obtain⟨h',zs,e1,g1,b1,l1,lt1,v1⟩:=kut n m hle (by omega) (Nat.le_refl h.blks.size) xs.length 0 (by omega) (c:=0) g0 b0 (by simp) (by simp) (by omega) (by simp[num]);refine⟨_,h',zs,e1,⟨Cells.of_has b1 (by simp[l1]),lt1,by omega⟩,g1,fun r hr=>?_,v1,l1⟩;cases hr;exact⟨_,_,rfl,Nat.le_refl _⟩
 rw[kbbv];by_cases hlt:xs.length<ys.length
 ·rw[show decide ((s.len:Int)<(t.len:Int))=true from by rw[decide_eq_true_eq,n.len,m.len];omega,cond_true];obtain⟨s',h',zs,e1,e2,e3,e4,e5,e6⟩:=key m n hy (by omega);exact⟨s',h',zs,e1,e2,e3,e4,by rw[e5];omega,by rw[e6];omega⟩
 ·rw[show decide ((s.len:Int)<(t.len:Int))=false from by rw[decide_eq_false_iff_not,n.len,m.len];omega,cond_false];obtain⟨s',h',zs,e1,e2,e3,e4,e5,e6⟩:=key n m hx (by omega);exact⟨s',h',zs,e1,e2,e3,e4,e5,by rw[e6];omega⟩
def told(n:Nat):List Nat×Int:=if n<B^64 then(digs B n,0)else([],4)
theorem koj{h:AH}{s:Sl}{xs:List Nat}(n:Nats h s xs):∃s':Sl,go (.fn kjb [s.v]) h=some (.tup [s'.v,.int .i64 (told (num B xs)).2],h)∧Nats h s' (told (num B xs)).1∧∀h0,Own h0 s→Own h0 s':=by
 obtain⟨s',e1,n1,o1⟩:=kdd n;rw[k69,e1];simp only[Option.bind_some,asSl_v];unfold told;by_cases hn:num B xs<B^64
 ·have:=(kbi B2 (num B xs) 64).2 hn;rw[if_pos hn,show decide ((s'.len:Int)>64)=false from by rw[decide_eq_false_iff_not,n1.len];omega];exact⟨s',rfl,n1,o1⟩
 ·have:¬(digs B (num B xs)).length≤64:=fun h=>hn ((kbi B2 _ _).1 h);rw[if_neg hn,show decide ((s'.len:Int)>64)=true from by rw[decide_eq_true_eq,n1.len];omega];exact⟨⟨none,0,.is 0⟩,rfl,Nats.nil h,fun h0 _=>Own.nil h0⟩
end Go.Ab
