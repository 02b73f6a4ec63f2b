/- Words and laws that the last text joins. -/
import Derived.Test.YtgldlogiggpbgaaGreatDoorPAbsDra
import Derived.Test.YtgldlogiggpbgaaGreatDoorProg
import Derived.Test.YtgldlogiggpbgaaGreatDoorPU1
import Derived.Test.YtgldlogiggpbgaaGreatDoorPAbsS
set_option linter.unusedVariables false
set_option linter.unusedSimpArgs false
set_option linter.unusedSectionVars false
set_option maxRecDepth 100000
namespace Go.Ab
open Go.Proofs
theorem kri(a1:Option Ref)(a2:Int)(h:AH):go (.pt kdq kmk [(9,.ptr a1),(13,.int .i64 a2)]) h =
 cond (decide (a2<3)) (
 (go (.fn kir [.ptr a1,.agg [.int .i64 4,.int .i64 0,.int .i64 a2,.int .i64 0,(⟨none,0,.is 0⟩:Sl).v,(⟨none,0,.is 0⟩:Sl).v,(⟨none,0,.is 0⟩:Sl).v]]) h).bind fun q3 =>
 ((some q3.1).bind AV.asSl).bind fun l4 =>
 go (.pt kdq kmk [(9,.ptr a1),(13,.int .i64 (IntKind.wrap .i64 (a2+1)))]) q3.2) (
 some (.ptr a1,h)):=(kc _ h).trans (by kernel_rfl)
theorem kbdj(a1:Sl)(h:AH):go (.fn kpk [a1.v]) h =
 cond (decide ((a1.len:Int)≤256)) (
 (go (.fn kb6 [a1.v,.func (.func kcr) [] []]) h).bind fun q2 =>
 ((some q2.1).bind AV.asBool).bind fun b3 =>
 cond (!b3) (
 (go (.fn kgf [a1.v]) q2.2).bind fun q4 =>
 ((some q4.1).bind AV.asMap).bind fun m5 =>
 (mapLen q4.2 m5).bind fun n6 =>
 some (.bool (decide ((n6:Int)=(a1.len:Int))),q4.2)) (
 some (.bool false,q2.2))) (
 some (.bool false,h)):=(kc _ h).trans (by kernel_rfl)
theorem kst(a1:Ref)(a2:Sl)(a3 a4:Int)(h:AH):go (.pt kc4 kk6 [(1,.ptr (some a1)),(27,a2.v),(28,.int .i64 a3),(29,.int .i64 a4)]) h =
 cond (decide (a4<a3)) (
 (idx a2.ref a2.len a4 1).bind fun r5 =>
 ((h.cell r5).bind AV.asSl).bind fun l6 =>
 ((h.cell (a1.add 1)).bind AV.asSl).bind fun l7 =>
 (idx l7.ref l7.len a4 1).bind fun r8 =>
 ((h.cell r8).bind (AV.asInt .i64)).bind fun n9 =>
 newK h (.cells [.int .i64 0] T.int) fun h10r h10 =>
 (h10.puts h10r [.int .i64 n9]).bind fun h11 =>
 ((h11.cell h10r).bind (AV.asInt .i64)).bind fun n12 =>
 cond (decide (n12<2)) (
 some (.bool false,h11)) (
 ((h11.cell h10r).bind (AV.asInt .i64)).bind fun n13 =>
 cond (decide (n13>32)) (
 some (.bool false,h11)) (
 ((h11.cell (a1.add 0)).bind AV.asSl).bind fun l14 =>
 cond (!decide ((l6.len:Int)=(l14.len:Int))) (
 some (.bool false,h11)) (
 (go (.fn kb6 [l6.v,.func (.func kct) [] [.ptr (some h10r)]]) h11).bind fun q15 =>
 ((some q15.1).bind AV.asBool).bind fun b16 =>
 cond b16 (
 some (.bool false,q15.2)) (
 go (.pt kc4 kk6 [(1,.ptr (some a1)),(27,a2.v),(28,.int .i64 a3),(29,.int .i64 (IntKind.wrap .i64 (a4+1)))]) q15.2))))) (
 some (.bool true,h)):=(kc _ h).trans (by kernel_rfl)
theorem k58  (h:AH):go (.fn knk []) h =
 newK h (.cells [.int .i64 0,.bool false,.bool false,.bool false,.int .i64 0,.bool false,.bool false,.bool false,.int .i64 0,.bool false,.bool false,.bool false,.int .i64 0,.bool false,.bool false,.bool false,.int .i64 0,.bool false,.bool false,.bool false,.int .i64 0,.bool false,.bool false,.bool false,.int .i64 0,.bool false,.bool false,.bool false,.int .i64 0,.bool false,.bool false,.bool false,.int .i64 0,.bool false,.bool false,.bool false,.int .i64 0,.bool false,.bool false,.bool false,.int .i64 0,.bool false,.bool false,.bool false,.int .i64 0,.bool false,.bool false,.bool false] ksa) fun h1r h1 =>
 (h1.puts h1r [.int .i64 0,.bool false,.bool false,.bool false,.int .i64 2,.bool false,.bool false,.bool true,.int .i64 2,.bool false,.bool false,.bool false,.int .i64 1,.bool false,.bool false,.bool true,.int .i64 2,.bool false,.bool true,.bool false,.int .i64 2,.bool true,.bool false,.bool true,.int .i64 2,.bool true,.bool false,.bool false,.int .i64 3,.bool false,.bool true,.bool false,.int .i64 2,.bool false,.bool false,.bool false,.int .i64 3,.bool false,.bool false,.bool false,.int .i64 1,.bool false,.bool false,.bool false,.int .i64 1,.bool false,.bool false,.bool false]).bind fun h2 =>
 ((h2.cell (h1r.add 0)).bind (AV.asInt .i64)).bind fun n3 =>
 ((h2.cell (h1r.add 1)).bind AV.asBool).bind fun b4 =>
 ((h2.cell (h1r.add 2)).bind AV.asBool).bind fun b5 =>
 ((h2.cell (h1r.add 3)).bind AV.asBool).bind fun b6 =>
 ((h2.cell (h1r.add 4)).bind (AV.asInt .i64)).bind fun n7 =>
 ((h2.cell (h1r.add 5)).bind AV.asBool).bind fun b8 =>
 ((h2.cell (h1r.add 6)).bind AV.asBool).bind fun b9 =>
 ((h2.cell (h1r.add 7)).bind AV.asBool).bind fun b10 =>
 ((h2.cell (h1r.add 8)).bind (AV.asInt .i64)).bind fun n11 =>
 ((h2.cell (h1r.add 9)).bind AV.asBool).bind fun b12 =>
 ((h2.cell (h1r.add 10)).bind AV.asBool).bind fun b13 =>
 ((h2.cell (h1r.add 11)).bind AV.asBool).bind fun b14 =>
 ((h2.cell (h1r.add 12)).bind (AV.asInt .i64)).bind fun n15 =>
 ((h2.cell (h1r.add 13)).bind AV.asBool).bind fun b16 =>
 ((h2.cell (h1r.add 14)).bind AV.asBool).bind fun b17 =>
 ((h2.cell (h1r.add 15)).bind AV.asBool).bind fun b18 =>
 ((h2.cell (h1r.add 16)).bind (AV.asInt .i64)).bind fun n19 =>
 ((h2.cell (h1r.add 17)).bind AV.asBool).bind fun b20 =>
 ((h2.cell (h1r.add 18)).bind AV.asBool).bind fun b21 =>
 ((h2.cell (h1r.add 19)).bind AV.asBool).bind fun b22 =>
 ((h2.cell (h1r.add 20)).bind (AV.asInt .i64)).bind fun n23 =>
 ((h2.cell (h1r.add 21)).bind AV.asBool).bind fun b24 =>
 ((h2.cell (h1r.add 22)).bind AV.asBool).bind fun b25 =>
 ((h2.cell (h1r.add 23)).bind AV.asBool).bind fun b26 =>
 ((h2.cell (h1r.add 24)).bind (AV.asInt .i64)).bind fun n27 =>
 ((h2.cell (h1r.add 25)).bind AV.asBool).bind fun b28 =>
 ((h2.cell (h1r.add 26)).bind AV.asBool).bind fun b29 =>
 ((h2.cell (h1r.add 27)).bind AV.asBool).bind fun b30 =>
 ((h2.cell (h1r.add 28)).bind (AV.asInt .i64)).bind fun n31 =>
 ((h2.cell (h1r.add 29)).bind AV.asBool).bind fun b32 =>
 ((h2.cell (h1r.add 30)).bind AV.asBool).bind fun b33 =>
 ((h2.cell (h1r.add 31)).bind AV.asBool).bind fun b34 =>
 ((h2.cell (h1r.add 32)).bind (AV.asInt .i64)).bind fun n35 =>
 ((h2.cell (h1r.add 33)).bind AV.asBool).bind fun b36 =>
 ((h2.cell (h1r.add 34)).bind AV.asBool).bind fun b37 =>
 ((h2.cell (h1r.add 35)).bind AV.asBool).bind fun b38 =>
 ((h2.cell (h1r.add 36)).bind (AV.asInt .i64)).bind fun n39 =>
 ((h2.cell (h1r.add 37)).bind AV.asBool).bind fun b40 =>
 ((h2.cell (h1r.add 38)).bind AV.asBool).bind fun b41 =>
 ((h2.cell (h1r.add 39)).bind AV.asBool).bind fun b42 =>
 ((h2.cell (h1r.add 40)).bind (AV.asInt .i64)).bind fun n43 =>
 ((h2.cell (h1r.add 41)).bind AV.asBool).bind fun b44 =>
 ((h2.cell (h1r.add 42)).bind AV.asBool).bind fun b45 =>
 ((h2.cell (h1r.add 43)).bind AV.asBool).bind fun b46 =>
 ((h2.cell (h1r.add 44)).bind (AV.asInt .i64)).bind fun n47 =>
 ((h2.cell (h1r.add 45)).bind AV.asBool).bind fun b48 =>
 ((h2.cell (h1r.add 46)).bind AV.asBool).bind fun b49 =>
 ((h2.cell (h1r.add 47)).bind AV.asBool).bind fun b50 =>
 some (.agg [.int .i64 n3,.bool b4,.bool b5,.bool b6,.int .i64 n7,.bool b8,.bool b9,.bool b10,.int .i64 n11,.bool b12,.bool b13,.bool b14,.int .i64 n15,.bool b16,.bool b17,.bool b18,.int .i64 n19,.bool b20,.bool b21,.bool b22,.int .i64 n23,.bool b24,.bool b25,.bool b26,.int .i64 n27,.bool b28,.bool b29,.bool b30,.int .i64 n31,.bool b32,.bool b33,.bool b34,.int .i64 n35,.bool b36,.bool b37,.bool b38,.int .i64 n39,.bool b40,.bool b41,.bool b42,.int .i64 n43,.bool b44,.bool b45,.bool b46,.int .i64 n47,.bool b48,.bool b49,.bool b50],h2):=(kc _ h).trans (by kernel_rfl)
theorem kw0(a1:Int)(h:AH):go (.fn kbn [.int .i64 a1]) h =
 cond (decide (a1<0)) (
 some (.bool true,h)) (
 some (.bool (decide (a1>1073741824)),h)):=(kc _ h).trans (by kernel_rfl)
theorem kj9(a1 a2:Ref)(a3:Sl)(a4 a5:Int)(h:AH):go (.pt kbx keg [(1,.ptr (some a1)),(4,.ptr (some a2)),(43,a3.v),(44,.int .i64 a4),(45,.int .i64 a5)]) h =
 cond (decide (a5<a4)) (
 (idx a3.ref a3.len a5 1).bind fun r6 =>
 ((h.cell r6).bind (AV.asInt .i64)).bind fun n7 =>
 ((h.cell (a2.add 0)).bind (AV.asInt .i64)).bind fun n8 =>
 cond (decide (a5≥n8)) (
 cond (!decide (n7=0)) (
 some (.bool false,h)) (
 go (.pt kbx keg [(1,.ptr (some a1)),(4,.ptr (some a2)),(43,a3.v),(44,.int .i64 a4),(45,.int .i64 (IntKind.wrap .i64 (a5+1)))]) h)) (
 go (.pt kbx keg [(1,.ptr (some a1)),(4,.ptr (some a2)),(43,a3.v),(44,.int .i64 a4),(45,.int .i64 (IntKind.wrap .i64 (a5+1)))]) h)) (
 ((h.cell (a1.add 4)).bind AV.asSl).bind fun l9 =>
 ((h.cell (a2.add 1)).bind AV.asBool).bind fun b10 =>
 (go (.fn klf [l9.v,.bool b10,.func (.func kbn) [] []]) h).bind fun q11 =>
 ((some q11.1).bind AV.asBool).bind fun b12 =>
 cond (!b12) (
 some (.bool false,q11.2)) (
 ((q11.2.cell (a1.add 5)).bind AV.asSl).bind fun l13 =>
 ((q11.2.cell (a2.add 2)).bind AV.asBool).bind fun b14 =>
 (go (.fn klf [l13.v,.bool b14,.func (.func kbn) [] []]) q11.2).bind fun q15 =>
 ((some q15.1).bind AV.asBool).bind fun b16 =>
 cond (!b16) (
 some (.bool false,q15.2)) (
 ((q15.2.cell (a1.add 6)).bind AV.asSl).bind fun l17 =>
 ((q15.2.cell (a2.add 3)).bind AV.asBool).bind fun b18 =>
 (go (.fn knw [l17.v,.bool b18,.func (.func kb3) [] []]) q15.2).bind fun q19 =>
 ((some q19.1).bind AV.asBool).bind fun b20 =>
 cond (!b20) (
 some (.bool false,q19.2)) (
 ((q19.2.cell (a1.add 5)).bind AV.asSl).bind fun l21 =>
 go (.pt kbx kja [(1,.ptr (some a1)),(84,.int .i64 (l21.len:Int)),(85,.int .i64 0)]) q19.2)))):=(kc _ h).trans (by kernel_rfl)
theorem k7a(a1:Sl)(h:AH):go (.fn kgg [a1.v]) h =
 cond (decide ((a1.len:Int)>256)) (
 some (.bool false,h)) (
 go (.pt kgg kkd [(0,a1.v),(3,.int .i64 0)]) h):=(kc _ h).trans (by kernel_rfl)
theorem kt3(a1:Ref)(a2:Int)(h:AH):go (.pt kcw kjn [(1,.ptr (some a1)),(4,.int .i64 a2)]) h =
 ((h.cell (a1.add 2)).bind AV.asSl).bind fun l3 =>
 cond (decide (a2<(l3.len:Int))) (
 ((h.cell (a1.add 1)).bind AV.asSl).bind fun l4 =>
 (idx l4.ref l4.len a2 1).bind fun r5 =>
 ((h.cell r5).bind (AV.asInt .i64)).bind fun n6 =>
 cond (decide (n6<2)) (
 some (.bool false,h)) (
 ((h.cell (a1.add 1)).bind AV.asSl).bind fun l7 =>
 (idx l7.ref l7.len a2 1).bind fun r8 =>
 ((h.cell r8).bind (AV.asInt .i64)).bind fun n9 =>
 cond (decide (n9>32)) (
 some (.bool false,h)) (
 ((h.cell (a1.add 2)).bind AV.asSl).bind fun l10 =>
 (idx l10.ref l10.len a2 1).bind fun r11 =>
 ((h.cell r11).bind AV.asSl).bind fun l12 =>
 ((h.cell (a1.add 0)).bind AV.asSl).bind fun l13 =>
 cond (!decide ((l12.len:Int)=(l13.len:Int))) (
 some (.bool false,h)) (
 go (.pt kcw kl4 [(1,.ptr (some a1)),(4,.int .i64 a2),(5,.int .i64 0)]) h)))) (
 some (.bool true,h)):=(kc _ h).trans (by kernel_rfl)
theorem k8a(a1:Int)(h:AH):go (.fn khz [.int .i64 a1]) h =
 cond (decide (a1=3)) (
 some (.int .i64 1,h)) (
 cond (decide (a1=10)) (
 some (.int .i64 1,h)) (
 cond (decide (a1=11)) (
 some (.int .i64 1,h)) (
 go (.pt khz kqe [(3,.int .i64 a1)]) h))):=(kc _ h).trans (by kernel_rfl)
theorem k5j(a1:Ref)(h:AH):go (.pt kf kdf [(1,.ptr (some a1))]) h =
 ((h.cell (a1.add 0)).bind (AV.asInt .i64)).bind fun n2 =>
 cond (decide (n2=5)) (
 go (.pt kf kkh [(1,.ptr (some a1)),(4,.bool true)]) h) (
 ((h.cell (a1.add 0)).bind (AV.asInt .i64)).bind fun n3 =>
 go (.pt kf kkh [(1,.ptr (some a1)),(4,.bool (decide (n3=6)))]) h):=(kc _ h).trans (by kernel_rfl)
theorem kv9(a1 a2:Sl)(a3:Int)(h:AH):go (.pt ke3 kjt [(0,a1.v),(1,a2.v),(5,.int .i64 a3)]) h =
 cond (decide (a3<(a1.len:Int))) (
 (idx a1.ref a1.len a3 1).bind fun r4 =>
 ((h.cell r4).bind (AV.asInt .i64)).bind fun n5 =>
 (idx a2.ref a2.len a3 1).bind fun r6 =>
 ((h.cell r6).bind (AV.asInt .i64)).bind fun n7 =>
 cond (!decide (n5=n7)) (
 some (.bool false,h)) (
 go (.pt ke3 kjt [(0,a1.v),(1,a2.v),(5,.int .i64 (IntKind.wrap .i64 (a3+1)))]) h)) (
 some (.bool true,h)):=(kc _ h).trans (by kernel_rfl)
theorem k9o(a1 a2:Sl)(a3:Int)(h:AH):go (.pt kf4 kkc [(0,a1.v),(1,a2.v),(5,.int .i64 a3)]) h =
 cond (decide (a3<(a1.len:Int))) (
 (idx a1.ref a1.len a3 1).bind fun r4 =>
 ((h.cell r4).bind AV.asSl).bind fun l5 =>
 (idx a2.ref a2.len a3 1).bind fun r6 =>
 ((h.cell r6).bind AV.asSl).bind fun l7 =>
 (go (.fn kyl [l5.v,l7.v]) h).bind fun q8 =>
 ((some q8.1).bind AV.asBool).bind fun b9 =>
 cond (!b9) (
 some (.bool false,q8.2)) (
 go (.pt kf4 kkc [(0,a1.v),(1,a2.v),(5,.int .i64 (IntKind.wrap .i64 (a3+1)))]) q8.2)) (
 some (.bool true,h)):=(kc _ h).trans (by kernel_rfl)
theorem kw9(a1:Int)(h:AH):go (.fn khf [.int .u64 a1]) h =
 cond (decide (a1≥4294967296)) (
 cond (decide ((ishr .u64 a1 32)≥65536)) (
 cond (decide ((ishr .u64 (ishr .u64 a1 32) 16)≥256)) (
 cond (decide (0≤(IntKind.wrap .u8 (ishr .u64 (ishr .u64 (ishr .u64 a1 32) 16) 8)))) (
 (lit1[Int.toNat (IntKind.wrap .u8 (ishr .u64 (ishr .u64 (ishr .u64 a1 32) 16) 8))]?).bind fun b2 =>
 some (.int .i64 (IntKind.wrap .i64 ((IntKind.wrap .i64 ((IntKind.wrap .i64 (32+16))+8))+(IntKind.wrap .i64 (b2.toNat:Int)))),h)) none) (
 cond (decide (0≤(IntKind.wrap .u8 (ishr .u64 (ishr .u64 a1 32) 16)))) (
 (lit1[Int.toNat (IntKind.wrap .u8 (ishr .u64 (ishr .u64 a1 32) 16))]?).bind fun b3 =>
 some (.int .i64 (IntKind.wrap .i64 ((IntKind.wrap .i64 (32+16))+(IntKind.wrap .i64 (b3.toNat:Int)))),h)) none)) (
 cond (decide ((ishr .u64 a1 32)≥256)) (
 cond (decide (0≤(IntKind.wrap .u8 (ishr .u64 (ishr .u64 a1 32) 8)))) (
 (lit1[Int.toNat (IntKind.wrap .u8 (ishr .u64 (ishr .u64 a1 32) 8))]?).bind fun b4 =>
 some (.int .i64 (IntKind.wrap .i64 ((IntKind.wrap .i64 (32+8))+(IntKind.wrap .i64 (b4.toNat:Int)))),h)) none) (
 cond (decide (0≤(IntKind.wrap .u8 (ishr .u64 a1 32)))) (
 (lit1[Int.toNat (IntKind.wrap .u8 (ishr .u64 a1 32))]?).bind fun b5 =>
 some (.int .i64 (IntKind.wrap .i64 (32+(IntKind.wrap .i64 (b5.toNat:Int)))),h)) none))) (
 cond (decide (a1≥65536)) (
 cond (decide ((ishr .u64 a1 16)≥256)) (
 cond (decide (0≤(IntKind.wrap .u8 (ishr .u64 (ishr .u64 a1 16) 8)))) (
 (lit1[Int.toNat (IntKind.wrap .u8 (ishr .u64 (ishr .u64 a1 16) 8))]?).bind fun b6 =>
 some (.int .i64 (IntKind.wrap .i64 ((IntKind.wrap .i64 ((IntKind.wrap .i64 (0+16))+8))+(IntKind.wrap .i64 (b6.toNat:Int)))),h)) none) (
 cond (decide (0≤(IntKind.wrap .u8 (ishr .u64 a1 16)))) (
 (lit1[Int.toNat (IntKind.wrap .u8 (ishr .u64 a1 16))]?).bind fun b7 =>
 some (.int .i64 (IntKind.wrap .i64 ((IntKind.wrap .i64 (0+16))+(IntKind.wrap .i64 (b7.toNat:Int)))),h)) none)) (
 cond (decide (a1≥256)) (
 cond (decide (0≤(IntKind.wrap .u8 (ishr .u64 a1 8)))) (
 (lit1[Int.toNat (IntKind.wrap .u8 (ishr .u64 a1 8))]?).bind fun b8 =>
 some (.int .i64 (IntKind.wrap .i64 ((IntKind.wrap .i64 (0+8))+(IntKind.wrap .i64 (b8.toNat:Int)))),h)) none) (
 cond (decide (0≤(IntKind.wrap .u8 a1))) (
 (lit1[Int.toNat (IntKind.wrap .u8 a1)]?).bind fun b9 =>
 some (.int .i64 (IntKind.wrap .i64 (0+(IntKind.wrap .i64 (b9.toNat:Int)))),h)) none))):=(kc _ h).trans (by kernel_rfl)
theorem kro(a1:Sl)(a2:Option Ref)(a3 a4:Int)(h:AH):go (.pt kbc kb4 [(0,a1.v),(1,.func (.func kcy) [] [.ptr a2]),(7,.int .i64 a3),(8,.int .i64 a4)]) h =
 cond (decide (a4<a3)) (
 (idx a1.ref a1.len a4 1).bind fun r5 =>
 ((h.cell r5).bind AV.asSl).bind fun l6 =>
 (go (.fn kcy [l6.v,.ptr a2]) h).bind fun q7 =>
 ((some q7.1).bind AV.asBool).bind fun b8 =>
 cond b8 (
 some (.int .i64 a4,q7.2)) (
 go (.pt kbc kb4 [(0,a1.v),(1,.func (.func kcy) [] [.ptr a2]),(7,.int .i64 a3),(8,.int .i64 (IntKind.wrap .i64 (a4+1)))]) q7.2)) (
 some (.int .i64 (-1),h)):=(kc _ h).trans (by kernel_rfl)
theorem kz0(a1:Sl)(a2:Option Ref)(h:AH):go (.fn kx [a1.v,.func (.func kc5) [] [.ptr a2]]) h =
 go (.pt kx kbo [(0,a1.v),(1,.func (.func kc5) [] [.ptr a2]),(7,.int .i64 (a1.len:Int)),(8,.int .i64 0)]) h:=(kc _ h).trans (by kernel_rfl)
theorem kbb2(l:Nat)(pe:Option Code)(a1 a2 a3:Sl)(a4:Ref)(a5:Sl)(a6:Ref)(a7 a8 a9:Sl)(a10:Bool)(a11 a12 a13:Sl)(a14:Int)(a15:Sl)(a16:AV)(a17 a18:Int)(a19:AV)(h:AH)(hb:h.blks[l]?=some (kd5 kn0 kdy 0 .ready pe [(0,.agg [a1.v,a2.v,a3.v]),(1,.ptr (some a4)),(2,a5.v),(3,.ptr (some a6)),(5,.agg [a7.v,a8.v,a9.v]),(6,.bool a10),(7,.agg [a11.v,a12.v,a13.v]),(8,.agg [.int .i64 a14,a15.v]),(9,a16)])):go (.round l [.agg [.int .i64 a17,.int .i64 a18],a19]) h =
 newK h (.cells [.int .i64 0,.int .i64 0] kbh) fun h20r h20 =>
 (h20.puts h20r [.int .i64 a17,.int .i64 a18]).bind fun h21 =>
 (beginA l h21).bind fun h22 =>
 ((h22.cell a6).bind AV.asSl).bind fun l23 =>
 ((h22.cell (h20r.add 0)).bind (AV.asInt .i64)).bind fun n24 =>
 ((h22.cell (h20r.add 1)).bind (AV.asInt .i64)).bind fun n25 =>
 newK h22 (.cells [.int .i64 n24,.int .i64 n25] kbh) fun h26r h26 =>
 (kbe Pg kbh ((⟨some h26r,1,.is 1⟩:Sl).v) h26).bind fun p28 =>
 (kz Pg l23 p28.1 p28.2 kbh 2 h26).bind fun q27 =>
 (AV.asSl q27.1).bind fun l29 =>
 (q27.2.puts a6 [l29.v]).bind fun h30 =>
 kch l none h30:=(kc _ h).trans ((koa hb).trans (by kernel_rfl))
theorem k69(a1 a2 a3:Sl)(a4:Ref)(a5:Sl)(a6:Ref)(a7 a8 a9:Sl)(a10:Bool)(a11 a12 a13:Sl)(a14:Int)(a15:Sl)(a16:AV)(h:AH):go (.pt kdy ((Option.map Item.code none).toList++kwn) [(0,.agg [a1.v,a2.v,a3.v]),(1,.ptr (some a4)),(2,a5.v),(3,.ptr (some a6)),(5,.agg [a7.v,a8.v,a9.v]),(6,.bool a10),(7,.agg [a11.v,a12.v,a13.v]),(8,.agg [.int .i64 a14,a15.v]),(9,a16)]) h =
 ((h.cell a6).bind AV.asSl).bind fun l17 =>
 some (l17.v,h):=(kc _ h).trans (by kernel_rfl)
theorem kq3(a1:Option Ref)(a2:Int)(a3:Sl)(a4 a5:Int)(h:AH):go (.pt kdi kmr [(0,.ptr a1),(1,.int .i64 a2),(6,a3.v),(25,.int .i64 a4),(26,.int .i64 a5)]) h =
 cond (decide (a5<a4)) (
 (idx a3.ref a3.len a5 1).bind fun r6 =>
 (h.puts r6 [.int .i64 a5]).bind fun h7 =>
 go (.pt kdi kmr [(0,.ptr a1),(1,.int .i64 a2),(6,a3.v),(25,.int .i64 a4),(26,.int .i64 (IntKind.wrap .i64 (a5+1)))]) h7) (
 go (.pt kdi kl1 [(6,a3.v),(8,.func (.func kfs) [.ptr a1] []),(9,.int .i64 (IntKind.wrap .i64 (a2-1)))]) h):=(kc _ h).trans (by kernel_rfl)
theorem k6e(a1:Int)(a2:Sl)(h:AH):go (.fn kho [.agg [.int .i64 a1,a2.v]]) h =
 newK h (.cells [.int .i64 a1,a2.v] kw) fun h3r h3 =>
 ((h3.cell (h3r.add 0)).bind (AV.asInt .i64)).bind fun n4 =>
 cond (decide (n4<0)) (
 some (.bool false,h3)) (
 ((h3.cell (h3r.add 0)).bind (AV.asInt .i64)).bind fun n5 =>
 cond (decide (n5>65536)) (
 some (.bool false,h3)) (
 ((h3.cell (h3r.add 1)).bind AV.asSl).bind fun l6 =>
 ((h3.cell (h3r.add 0)).bind (AV.asInt .i64)).bind fun n7 =>
 cond (!decide ((l6.len:Int)=(IntKind.wrap .i64 (Int.tdiv (IntKind.wrap .i64 ((IntKind.wrap .i64 (n7+64))-1)) 64)))) (
 some (.bool false,h3)) (
 ((h3.cell (h3r.add 0)).bind (AV.asInt .i64)).bind fun n8 =>
 cond (decide ((Int.tmod n8 64)=0)) (
 some (.bool true,h3)) (
 ((h3.cell (h3r.add 1)).bind AV.asSl).bind fun l9 =>
 ((h3.cell (h3r.add 1)).bind AV.asSl).bind fun l10 =>
 (idx l9.ref l9.len (IntKind.wrap .i64 ((l10.len:Int)-1)) 1).bind fun r11 =>
 ((h3.cell r11).bind (AV.asInt .u64)).bind fun n12 =>
 ((h3.cell (h3r.add 0)).bind (AV.asInt .i64)).bind fun n13 =>
 cond (decide ((Int.tmod n13 64)<0)) none (
 some (.bool (decide ((ishr .u64 n12 (Int.tmod n13 64))=0)),h3)))))):=(kc _ h).trans (by kernel_rfl)
theorem k8g(a1:Sl)(a2:Option Ref)(h:AH):go (.fn kbc [a1.v,.func (.func kbq) [] [.ptr a2]]) h =
 go (.pt kbc kb4 [(0,a1.v),(1,.func (.func kbq) [] [.ptr a2]),(7,.int .i64 (a1.len:Int)),(8,.int .i64 0)]) h:=(kc _ h).trans (by kernel_rfl)
theorem kbdu(l:Nat)(pe:Option Code)(a1 a2 a3 a4:Sl)(a5:Int)(a6 a7:Sl)(a8 a9 a10 a11:Ref)(a12:Sl)(a13 a14:Int)(a15 a16:Ref)(a17:Sl)(a18 a19:Bool)(a20 a21 a22:Sl)(a23:Int)(a24 a25:Sl)(a26 a27 a28:Int)(a29:Bool)(a30:Sl)(a31:Ref)(a32:Bool)(a33:Sl)(a34:AV)(a35 a36 a37:Sl)(a38:Int)(a39:Sl)(a40 a41:AV)(a42:Sl)(h:AH)(hb:h.blks[l]?=some (kd5 knm kca 0 .ready pe [(0,a1.v),(1,.agg [a2.v,a3.v,a4.v]),(2,.agg [.int .i64 a5,a6.v]),(3,a7.v),(4,.ptr (some a8)),(5,.ptr (some a9)),(6,.ptr (some a10)),(7,.ptr (some a11)),(8,a12.v),(9,.int .i64 a13),(10,.int .i64 a14),(11,.ptr (some a15)),(12,.ptr (some a16)),(18,a17.v),(19,.bool a18),(20,.bool a19),(21,.agg [a20.v,a21.v,a22.v]),(22,.agg [.int .i64 a23,a24.v]),(23,a25.v),(24,.int .i64 a26),(25,.int .i64 a27),(26,.int .i64 a28),(27,.bool a29),(29,a30.v),(30,.func (.func kbq) [] [.ptr (some a31)]),(31,.bool a32),(32,a33.v),(33,a34),(34,.agg [a35.v,a36.v,a37.v]),(35,.agg [.int .i64 a38,a39.v]),(36,a40)])):go (.round l [a41,a42.v]) h =
 (beginA l h).bind fun h43 =>
 newK h43 (.cells [.int .u64 1] ke) fun h44r h44 =>
 go (.rpt l kca kk3 [(7,.ptr (some a11)),(8,a12.v),(9,.int .i64 a13),(11,.ptr (some a15)),(12,.ptr (some a16)),(15,(⟨some h44r,1,.is 1⟩:Sl).v),(40,a42.v),(41,.int .i64 (a42.len:Int)),(42,.int .i64 0)]) h44:=(kc _ h).trans ((koa hb).trans (by kernel_rfl))
theorem kw6(a1 a2 a3 a4:Sl)(a5:Int)(a6 a7:Sl)(a8 a9 a10 a11:Ref)(a12:Sl)(a13 a14:Int)(a15 a16:Ref)(a17:Sl)(a18 a19:Bool)(a20 a21 a22:Sl)(a23:Int)(a24 a25:Sl)(a26 a27 a28:Int)(a29:Bool)(a30:Sl)(a31:Ref)(a32:Bool)(a33:Sl)(a34:AV)(a35 a36 a37:Sl)(a38:Int)(a39:Sl)(a40:AV)(h:AH):go (.pt kca ((Option.map Item.code none).toList++kti) [(0,a1.v),(1,.agg [a2.v,a3.v,a4.v]),(2,.agg [.int .i64 a5,a6.v]),(3,a7.v),(4,.ptr (some a8)),(5,.ptr (some a9)),(6,.ptr (some a10)),(7,.ptr (some a11)),(8,a12.v),(9,.int .i64 a13),(10,.int .i64 a14),(11,.ptr (some a15)),(12,.ptr (some a16)),(18,a17.v),(19,.bool a18),(20,.bool a19),(21,.agg [a20.v,a21.v,a22.v]),(22,.agg [.int .i64 a23,a24.v]),(23,a25.v),(24,.int .i64 a26),(25,.int .i64 a27),(26,.int .i64 a28),(27,.bool a29),(29,a30.v),(30,.func (.func kbq) [] [.ptr (some a31)]),(31,.bool a32),(32,a33.v),(33,a34),(34,.agg [a35.v,a36.v,a37.v]),(35,.agg [.int .i64 a38,a39.v]),(36,a40)]) h =
 ((h.cell a16).bind AV.asSl).bind fun l41 =>
 some (.tup [l41.v,.int .i64 0],h):=(kc _ h).trans (by kernel_rfl)
theorem k3c(a1 a2 a3:Sl)(a4 a5:Int)(h:AH):go (.fn ke2 [.agg [a1.v,a2.v,a3.v],.int .i64 a4,.int .i64 a5]) h =
 newK h (.cells [a1.v,a2.v,a3.v] kbb) fun h6r h6 =>
 newK h6 (.cells [.int .i64 0,(⟨none,0,.is 0⟩:Sl).v] kw) fun h7r h7 =>
 ((h7.cell (h6r.add 0)).bind AV.asSl).bind fun l8 =>
 ((h7.cell (h6r.add 1)).bind AV.asSl).bind fun l9 =>
 ((h7.cell (h6r.add 2)).bind AV.asSl).bind fun l10 =>
 (go (.fn kc4 [.agg [l8.v,l9.v,l10.v]]) h7).bind fun q11 =>
 ((some q11.1).bind AV.asBool).bind fun b12 =>
 cond (!b12) (
 (q11.2.puts h7r [.int .i64 0,(⟨none,0,.is 0⟩:Sl).v]).bind fun h13 =>
 ((h13.cell (h7r.add 0)).bind (AV.asInt .i64)).bind fun n14 =>
 ((h13.cell (h7r.add 1)).bind AV.asSl).bind fun l15 =>
 some (.tup [.agg [.int .i64 n14,l15.v],.int .i64 20],h13)) (
 cond (decide (a4<0)) (
 (q11.2.puts h7r [.int .i64 0,(⟨none,0,.is 0⟩:Sl).v]).bind fun h16 =>
 ((h16.cell (h7r.add 0)).bind (AV.asInt .i64)).bind fun n17 =>
 ((h16.cell (h7r.add 1)).bind AV.asSl).bind fun l18 =>
 some (.tup [.agg [.int .i64 n17,l18.v],.int .i64 1],h16)) (
 ((q11.2.cell (h6r.add 2)).bind AV.asSl).bind fun l19 =>
 cond (decide (a4≥(l19.len:Int))) (
 (q11.2.puts h7r [.int .i64 0,(⟨none,0,.is 0⟩:Sl).v]).bind fun h20 =>
 ((h20.cell (h7r.add 0)).bind (AV.asInt .i64)).bind fun n21 =>
 ((h20.cell (h7r.add 1)).bind AV.asSl).bind fun l22 =>
 some (.tup [.agg [.int .i64 n21,l22.v],.int .i64 1],h20)) (
 cond (decide (a5<0)) (
 (q11.2.puts h7r [.int .i64 0,(⟨none,0,.is 0⟩:Sl).v]).bind fun h23 =>
 ((h23.cell (h7r.add 0)).bind (AV.asInt .i64)).bind fun n24 =>
 ((h23.cell (h7r.add 1)).bind AV.asSl).bind fun l25 =>
 some (.tup [.agg [.int .i64 n24,l25.v],.int .i64 1],h23)) (
 ((q11.2.cell (h6r.add 1)).bind AV.asSl).bind fun l26 =>
 (idx l26.ref l26.len a4 1).bind fun r27 =>
 ((q11.2.cell r27).bind (AV.asInt .i64)).bind fun n28 =>
 cond (decide (a5≥n28)) (
 (q11.2.puts h7r [.int .i64 0,(⟨none,0,.is 0⟩:Sl).v]).bind fun h29 =>
 ((h29.cell (h7r.add 0)).bind (AV.asInt .i64)).bind fun n30 =>
 ((h29.cell (h7r.add 1)).bind AV.asSl).bind fun l31 =>
 some (.tup [.agg [.int .i64 n30,l31.v],.int .i64 1],h29)) (
 ((q11.2.cell (h6r.add 2)).bind AV.asSl).bind fun l32 =>
 (idx l32.ref l32.len a4 1).bind fun r33 =>
 ((q11.2.cell r33).bind AV.asSl).bind fun l34 =>
 go (.pt ke2 ki2 [(2,.int .i64 a5),(3,.ptr (some h6r)),(6,.ptr (some h7r)),(8,(⟨none,0,.is 0⟩:Sl).v),(44,l34.v),(45,.int .i64 (l34.len:Int)),(46,.int .i64 0)]) q11.2))))):=(kc _ h).trans (by kernel_rfl)
theorem k70(a1:Int)(a2:Sl)(a3:Int)(a4:Sl)(h:AH):go (.fn kkq [.agg [.int .i64 a1,a2.v],.agg [.int .i64 a3,a4.v]]) h =
 newK h (.cells [.int .i64 a1,a2.v] kw) fun h5r h5 =>
 newK h5 (.cells [.int .i64 a3,a4.v] kw) fun h6r h6 =>
 newK h6 (.cells [.int .i64 0,(⟨none,0,.is 0⟩:Sl).v] kw) fun h7r h7 =>
 ((h7.cell (h5r.add 0)).bind (AV.asInt .i64)).bind fun n8 =>
 ((h7.cell (h5r.add 1)).bind AV.asSl).bind fun l9 =>
 ((h7.cell (h6r.add 0)).bind (AV.asInt .i64)).bind fun n10 =>
 ((h7.cell (h6r.add 1)).bind AV.asSl).bind fun l11 =>
 (go (.fn kgo [.agg [.int .i64 n8,l9.v],.agg [.int .i64 n10,l11.v],.func (.func kef) [] []]) h7).bind fun q12 =>
 (AV.asTup2 q12.1).bind fun p13 =>
 (AV.asAgg p13.1).bind fun cs14 =>
 cond (Nat.beq cs14.length 2) (
 ((cs14[0]?).bind (AV.asInt .i64)).bind fun n15 =>
 ((cs14[1]?).bind AV.asSl).bind fun l16 =>
 ((some p13.2).bind (AV.asInt .i64)).bind fun n17 =>
 (q12.2.puts h7r [.int .i64 n15,l16.v]).bind fun h18 =>
 ((h18.cell (h7r.add 0)).bind (AV.asInt .i64)).bind fun n19 =>
 ((h18.cell (h7r.add 1)).bind AV.asSl).bind fun l20 =>
 some (.tup [.agg [.int .i64 n19,l20.v],.int .i64 n17],h18)) none:=(kc _ h).trans (by kernel_rfl)
theorem k6p(a1:Int)(a2:Sl)(h:AH):go (.fn kkg [.agg [.int .i64 a1,a2.v]]) h =
 newK h (.cells [.int .i64 a1,a2.v] kw) fun h3r h3 =>
 ((h3.cell (h3r.add 0)).bind (AV.asInt .i64)).bind fun n4 =>
 ((h3.cell (h3r.add 1)).bind AV.asSl).bind fun l5 =>
 (go (.fn kho [.agg [.int .i64 n4,l5.v]]) h3).bind fun q6 =>
 ((some q6.1).bind AV.asBool).bind fun b7 =>
 cond (!b7) (
 some ((⟨none,0,.is 0⟩:Sl).v,q6.2)) (
 ((q6.2.cell (h3r.add 0)).bind (AV.asInt .i64)).bind fun n8 =>
 ((q6.2.cell (h3r.add 1)).bind AV.asSl).bind fun l9 =>
 (go (.fn knh [.agg [.int .i64 n8,l9.v]]) q6.2).bind fun q10 =>
 (go (.fn kpg [q10.1]) q10.2).bind fun q11 =>
 ((some q11.1).bind AV.asSl).bind fun l12 =>
 some (l12.v,q11.2)):=(kc _ h).trans (by kernel_rfl)
theorem kba4(a1:Int)(h:AH):go (.fn kqi [.int .u64 a1]) h =
 cond (decide (a1=0)) (
 some (.int .i64 64,h)) (
 (idx (some (.old ⟨Gl.math_bits_deBruijn64tab,0,none⟩)) 64 (ishr .u64 (IntKind.wrap .u64 ((iand .u64 a1 (IntKind.wrap .u64 (0-a1)))*285870213051353865)) 58) 1).bind fun r2 =>
 ((h.cell r2).bind (AV.asInt .u8)).bind fun n3 =>
 some (.int .i64 (IntKind.wrap .i64 n3),h)):=(kc _ h).trans (by kernel_rfl)
theorem kbbe(a1:Sl)(h:AH):go (.fn kda [a1.v,.func (.func kdm) [] []]) h =
 (go (.fn kbc [a1.v,.func (.func kdm) [] []]) h).bind fun q2 =>
 ((some q2.1).bind (AV.asInt .i64)).bind fun n3 =>
 some (.bool (decide (n3≥0)),q2.2):=(kc _ h).trans (by kernel_rfl)
theorem kwk(a1 a2:Sl)(a3:Int)(h:AH):go (.pt kd9 klu [(0,a1.v),(1,a2.v),(5,.int .i64 a3)]) h =
 cond (decide (a3≥0)) (
 (idx a1.ref a1.len a3 1).bind fun r4 =>
 ((h.cell r4).bind (AV.asInt .u64)).bind fun n5 =>
 (idx a2.ref a2.len a3 1).bind fun r6 =>
 ((h.cell r6).bind (AV.asInt .u64)).bind fun n7 =>
 cond (!decide (n5=n7)) (
 (idx a1.ref a1.len a3 1).bind fun r8 =>
 ((h.cell r8).bind (AV.asInt .u64)).bind fun n9 =>
 (idx a2.ref a2.len a3 1).bind fun r10 =>
 ((h.cell r10).bind (AV.asInt .u64)).bind fun n11 =>
 cond (decide (n9<n11)) (
 some (.int .i64 (-1),h)) (
 some (.int .i64 1,h))) (
 go (.pt kd9 klu [(0,a1.v),(1,a2.v),(5,.int .i64 (IntKind.wrap .i64 (a3-1)))]) h)) (
 some (.int .i64 0,h)):=(kc _ h).trans (by kernel_rfl)
theorem kyg(a1:Sl)(a2:Int)(a3:Sl)(a4 a5:Int)(h:AH):go (.pt ket kk0 [(0,a1.v),(1,.int .u64 a2),(6,a3.v),(7,.int .u64 a4),(8,.int .i64 a5)]) h =
 cond (decide (a5≥0)) (
 (idx a1.ref a1.len a5 1).bind fun r6 =>
 ((h.cell r6).bind (AV.asInt .u64)).bind fun n7 =>
 (go (.fn kbi [.int .u64 a4,.int .u64 n7,.int .u64 a2]) h).bind fun q8 =>
 (AV.asTup2 q8.1).bind fun p9 =>
 ((some p9.1).bind (AV.asInt .u64)).bind fun n10 =>
 ((some p9.2).bind (AV.asInt .u64)).bind fun n11 =>
 (idx a3.ref a3.len a5 1).bind fun r12 =>
 (q8.2.puts r12 [.int .u64 n10]).bind fun h13 =>
 go (.pt ket kk0 [(0,a1.v),(1,.int .u64 a2),(6,a3.v),(7,.int .u64 n11),(8,.int .i64 (IntKind.wrap .i64 (a5-1)))]) h13) (
 (go (.fn kbf [a3.v]) h).bind fun q14 =>
 ((some q14.1).bind AV.asSl).bind fun l15 =>
 some (.tup [l15.v,.int .u64 a4],q14.2)):=(kc _ h).trans (by kernel_rfl)
theorem k4s(a1:Int)(h:AH):go (.fn klt [.int .u64 a1]) h =
 (go (.fn khf [.int .u64 a1]) h).bind fun q2 =>
 ((some q2.1).bind (AV.asInt .i64)).bind fun n3 =>
 some (.int .i64 (IntKind.wrap .i64 (64-n3)),q2.2):=(kc _ h).trans (by kernel_rfl)
theorem k3b(a1:Sl)(a2:Int)(h:AH):go (.fn kea [a1.v,.int .u64 a2]) h =
 (kbd (IntKind.wrap .i64 ((a1.len:Int)+1)) (IntKind.wrap .i64 ((a1.len:Int)+1)) ke (Pg.bytesOf ke) [.int .u64 0] h).bind fun q3 =>
 go (.pt kea ki3 [(1,.int .u64 a2),(5,q3.1.v),(12,a1.v),(13,.int .i64 (a1.len:Int)),(14,.int .i64 0)]) q3.2:=(kc _ h).trans (by kernel_rfl)
theorem kbb7(a1:Int)(a2 a3:Sl)(a4:Int)(a5:Sl)(a6:Int)(h:AH):go (.pt kbs kkw [(6,.int .u64 a1),(7,a2.v),(8,a3.v),(9,.int .i64 a4),(10,a5.v),(11,.int .i64 a6)]) h =
 cond (decide (a6≥0)) (
 (idx a2.ref a2.len (IntKind.wrap .i64 (a6+a4)) 1).bind fun r7 =>
 ((h.cell r7).bind (AV.asInt .u64)).bind fun n8 =>
 (idx a2.ref a2.len (IntKind.wrap .i64 ((IntKind.wrap .i64 (a6+a4))-1)) 1).bind fun r9 =>
 ((h.cell r9).bind (AV.asInt .u64)).bind fun n10 =>
 (idx a2.ref a2.len (IntKind.wrap .i64 ((IntKind.wrap .i64 (a6+a4))-2)) 1).bind fun r11 =>
 ((h.cell r11).bind (AV.asInt .u64)).bind fun n12 =>
 (idx a3.ref a3.len (IntKind.wrap .i64 (a4-1)) 1).bind fun r13 =>
 ((h.cell r13).bind (AV.asInt .u64)).bind fun n14 =>
 (idx a3.ref a3.len (IntKind.wrap .i64 (a4-2)) 1).bind fun r15 =>
 ((h.cell r15).bind (AV.asInt .u64)).bind fun n16 =>
 (go (.fn kez [.int .u64 n8,.int .u64 n10,.int .u64 n12,.int .u64 n14,.int .u64 n16]) h).bind fun q17 =>
 ((some q17.1).bind (AV.asInt .u64)).bind fun n18 =>
 (cutSl a2 a6 (IntKind.wrap .i64 ((IntKind.wrap .i64 (a6+a4))+1)) 1).bind fun l19 =>
 go (.pt kbs kma [(6,.int .u64 a1),(7,a2.v),(8,a3.v),(9,.int .i64 a4),(10,a5.v),(11,.int .i64 a6),(12,.int .u64 n18),(13,l19.v)]) q17.2) (
 (go (.fn kbf [a2.v]) h).bind fun q20 =>
 ((some q20.1).bind AV.asSl).bind fun l21 =>
 (kbd (l21.len:Int) (l21.len:Int) ke (Pg.bytesOf ke) [.int .u64 0] q20.2).bind fun q22 =>
 go (.pt kbs khl [(6,.int .u64 a1),(10,a5.v),(15,l21.v),(16,q22.1.v),(112,.int .i64 (l21.len:Int)),(113,.int .i64 0)]) q22.2):=(kc _ h).trans (by kernel_rfl)
theorem kbbp(a1 a2:Sl)(a3 a4 a5:Int)(a6:Sl)(a7 a8:Int)(a9:Sl)(a10 a11:Int)(h:AH):go (.pt kci kks [(1,a1.v),(5,a2.v),(6,.int .i64 a3),(7,.int .u64 a4),(8,.int .u64 a5),(20,a6.v),(21,.int .i64 a7),(22,.int .i64 a8),(27,a9.v),(28,.int .i64 a10),(29,.int .i64 a11)]) h =
 cond (decide (a11<a10)) (
 (idx a9.ref a9.len a11 1).bind fun r12 =>
 ((h.cell r12).bind (AV.asInt .u64)).bind fun n13 =>
 (go (.fn kk4 [.int .u64 a4,.int .u64 n13]) h).bind fun q14 =>
 (AV.asTup2 q14.1).bind fun p15 =>
 ((some p15.1).bind (AV.asInt .u64)).bind fun n16 =>
 ((some p15.2).bind (AV.asInt .u64)).bind fun n17 =>
 (idx a2.ref a2.len (IntKind.wrap .i64 (a3+a11)) 1).bind fun r18 =>
 ((q14.2.cell r18).bind (AV.asInt .u64)).bind fun n19 =>
 ((prim "math/bits.Add64" [.int .u64 n17,.int .u64 n19,.int .u64 0]).map fun v=>(v,q14.2)).bind fun q20 =>
 (AV.asTup2 q20.1).bind fun p21 =>
 ((some p21.1).bind (AV.asInt .u64)).bind fun n22 =>
 ((some p21.2).bind (AV.asInt .u64)).bind fun n23 =>
 ((prim "math/bits.Add64" [.int .u64 n22,.int .u64 a5,.int .u64 0]).map fun v=>(v,q20.2)).bind fun q24 =>
 (AV.asTup2 q24.1).bind fun p25 =>
 ((some p25.1).bind (AV.asInt .u64)).bind fun n26 =>
 ((some p25.2).bind (AV.asInt .u64)).bind fun n27 =>
 (idx a2.ref a2.len (IntKind.wrap .i64 (a3+a11)) 1).bind fun r28 =>
 (q24.2.puts r28 [.int .u64 n26]).bind fun h29 =>
 go (.pt kci kks [(1,a1.v),(5,a2.v),(6,.int .i64 a3),(7,.int .u64 a4),(8,.int .u64 (IntKind.wrap .u64 ((IntKind.wrap .u64 (n16+n23))+n27))),(20,a6.v),(21,.int .i64 a7),(22,.int .i64 a8),(27,a9.v),(28,.int .i64 a10),(29,.int .i64 (IntKind.wrap .i64 (a11+1)))]) h29) (
 (idx a2.ref a2.len (IntKind.wrap .i64 (a3+(a1.len:Int))) 1).bind fun r30 =>
 (h.puts r30 [.int .u64 a5]).bind fun h31 =>
 go (.pt kci kju [(1,a1.v),(5,a2.v),(20,a6.v),(21,.int .i64 a7),(22,.int .i64 (IntKind.wrap .i64 (a8+1)))]) h31):=(kc _ h).trans (by kernel_rfl)
theorem kwd(a1:Sl)(a2 a3:Int)(h:AH):go (.pt kc2 kjp [(12,a1.v),(13,.int .i64 a2),(14,.int .i64 a3)]) h =
 cond (decide (a3<a2)) (
 (idx a1.ref a1.len a3 1).bind fun r4 =>
 ((h.cell (r4.add 0)).bind AV.asSl).bind fun l5 =>
 newK h (.cells [(⟨none,0,.is 0⟩:Sl).v] kcv) fun h6r h6 =>
 (h6.puts h6r [l5.v]).bind fun h7 =>
 ((h7.cell (h6r.add 0)).bind AV.asSl).bind fun l8 =>
 cond (decide ((l8.len:Int)<1)) (
 some (.bool false,h7)) (
 ((h7.cell (h6r.add 0)).bind AV.asSl).bind fun l9 =>
 cond (decide ((l9.len:Int)>63)) (
 some (.bool false,h7)) (
 ((h7.cell (h6r.add 0)).bind AV.asSl).bind fun l10 =>
 go (.pt kc2 kmf [(4,.ptr (some h6r)),(12,a1.v),(13,.int .i64 a2),(14,.int .i64 a3),(29,l10.v),(30,.int .i64 (l10.len:Int)),(31,.int .i64 0)]) h7))) (
 some (.bool true,h)):=(kc _ h).trans (by kernel_rfl)
theorem k0q(a1:Sl)(a2 a3:Option Ref)(h:AH):go (.fn kne [a1.v,.func (.func kb0) [] [.ptr a2,.ptr a3]]) h =
 (go (.fn khi [a1.v,.func (.func kb0) [] [.ptr a2,.ptr a3]]) h).bind fun q4 =>
 ((some q4.1).bind (AV.asInt .i64)).bind fun n5 =>
 some (.bool (decide (n5≥0)),q4.2):=(kc _ h).trans (by kernel_rfl)
theorem kbcv(a1:Sl)(h:AH):go (.fn kqm [a1.v]) h =
 cond a1.ref.isNone (
 some ((⟨none,0,.is 0⟩:Sl).v,h)) (
 newK h (.cells [] kb7) fun h2r h2 =>
 (kbe Pg kb7 a1.v h2).bind fun p4 =>
 (kz Pg (⟨some h2r,0,.is 0⟩:Sl) p4.1 p4.2 kb7 7 h2).bind fun q3 =>
 (AV.asSl q3.1).bind fun l5 =>
 some (l5.v,q3.2)):=(kc _ h).trans (by kernel_rfl)
theorem k78(a1:Option Ref)(h:AH):go (.fn kev [.ptr a1]) h =
 go (.pt kev kfz [(0,.ptr a1)]) h:=(kc _ h).trans (by kernel_rfl)
theorem kzo(a1:Option Ref)(a2:Int)(h:AH):go (.fn kmc [.ptr a1,.int .i64 a2]) h =
 cond (decide (a2≥0)) (
 a1.bind fun r3 =>
 ((h.cell (r3.add 1)).bind (AV.asInt .i64)).bind fun n4 =>
 cond (decide (a2<n4)) (
 a1.bind fun r5 =>
 ((h.cell (r5.add 0)).bind (AV.asInt .i64)).bind fun n6 =>
 cond (!decide (a2=n6)) (
 a1.bind fun r7 =>
 ((h.cell (r7.add 0)).bind (AV.asInt .i64)).bind fun n8 =>
 cond (decide (n8=0)) (
 some (.bool true,h)) (
 some (.bool (decide (a2=0)),h))) (
 some (.bool false,h))) (
 some (.bool false,h))) (
 some (.bool false,h)):=(kc _ h).trans (by kernel_rfl)
theorem k5e(a1:Sl)(h:AH):go (.fn kb6 [a1.v,.func (.func kcs) [] []]) h =
 (go (.fn kx [a1.v,.func (.func kcs) [] []]) h).bind fun q2 =>
 ((some q2.1).bind (AV.asInt .i64)).bind fun n3 =>
 some (.bool (decide (n3≥0)),q2.2):=(kc _ h).trans (by kernel_rfl)
theorem kbc7(a1:Option Ref)(h:AH):go (.fn kj8 [.ptr a1]) h =
 a1.bind fun r2 =>
 ((h.cell (r2.add 0)).bind AV.asPtr).bind fun p3 =>
 (go (.fn kp1 [.ptr p3]) h).bind fun q4 =>
 (AV.asTup2 q4.1).bind fun p5 =>
 ((some p5.1).bind (AV.asInt .i64)).bind fun n6 =>
 ((some p5.2).bind (AV.asInt .i64)).bind fun n7 =>
 some (.bool (decide (n6=0)),q4.2):=(kc _ h).trans (by kernel_rfl)
theorem kbar(a1:Option Ref)(a2:Int)(h:AH):go (.fn kf8 [.ptr a1,.int .i64 a2]) h =
 a1.bind fun r3 =>
 ((h.cell (r3.add 0)).bind AV.asPtr).bind fun p4 =>
 (go (.fn kpa [.ptr p4,.int .i64 a2]) h).bind fun q5 =>
 ((some q5.1).bind (AV.asInt .i64)).bind fun n6 =>
 newK q5.2 (.cells [.int .i64 11,.int .i64 a2,.int .i64 0,.int .i64 0,(⟨none,0,.is 0⟩:Sl).v,(⟨none,0,.is 0⟩:Sl).v,(⟨none,0,.is 0⟩:Sl).v] ku) fun h7r h7 =>
 some ((⟨some h7r,1,.is 1⟩:Sl).v,h7):=(kc _ h).trans (by kernel_rfl)
theorem kz6(a1:Option Ref)(a2 a3 a4 a5 a6:Int)(a7 a8 a9:Sl)(h:AH):go (.fn kpx [.ptr a1,.int .i64 a2,.agg [.int .i64 a3,.int .i64 a4,.int .i64 a5,.int .i64 a6,a7.v,a8.v,a9.v]]) h =
 newK h (.cells [.int .i64 a3,.int .i64 a4,.int .i64 a5,.int .i64 a6,a7.v,a8.v,a9.v] ku) fun h10r h10 =>
 a1.bind fun r11 =>
 ((h10.cell (r11.add 4)).bind (AV.asInt .i64)).bind fun n12 =>
 cond (!decide (n12=0)) (
 some (.int .i64 17,h10)) (
 (go (.fn kmc [.ptr a1,.int .i64 a2]) h10).bind fun q13 =>
 ((some q13.1).bind AV.asBool).bind fun b14 =>
 cond (!b14) (
 some (.int .i64 1,q13.2)) (
 ((q13.2.cell (h10r.add 0)).bind (AV.asInt .i64)).bind fun n15 =>
 cond (decide (n15=11)) (
 ((q13.2.cell (h10r.add 1)).bind (AV.asInt .i64)).bind fun n16 =>
 cond (decide (n16≥1)) (
 ((q13.2.cell (h10r.add 1)).bind (AV.asInt .i64)).bind fun n17 =>
 cond (decide (n17≤1000)) (
 ((q13.2.cell (h10r.add 1)).bind (AV.asInt .i64)).bind fun n18 =>
 (go (.fn kfh [.ptr a1,.int .i64 2,.int .i64 n18]) q13.2).bind fun q19 =>
 (AV.asTup0 q19.1).bind fun _ =>
 some (.int .i64 0,q19.2)) (
 (go (.fn kfh [.ptr a1,.int .i64 2,.int .i64 18]) q13.2).bind fun q20 =>
 (AV.asTup0 q20.1).bind fun _ =>
 some (.int .i64 0,q20.2))) (
 (go (.fn kfh [.ptr a1,.int .i64 2,.int .i64 18]) q13.2).bind fun q21 =>
 (AV.asTup0 q21.1).bind fun _ =>
 some (.int .i64 0,q21.2))) (
 a1.bind fun r22 =>
 ((q13.2.cell (r22.add 6)).bind AV.asMap).bind fun m23 =>
 ((q13.2.cell (h10r.add 0)).bind (AV.asInt .i64)).bind fun n24 =>
 (mapGet q13.2 m23 .i64 a2).bind fun q25 =>
 (AV.asAgg (q25.getD (.agg [.int .i64 0,(⟨none,0,.is 0⟩:Sl).v]))).bind fun cs26 =>
 cond (Nat.beq cs26.length 2) (
 ((cs26[0]?).bind (AV.asInt .i64)).bind fun n27 =>
 ((cs26[1]?).bind AV.asSl).bind fun l28 =>
 whenK (SameAt q13.2 q13.2 (h10r.add 0) 1) (
 (go (.fn kqf [l28.v,.int .i64 n24]) q13.2).bind fun q29 =>
 ((some q29.1).bind AV.asBool).bind fun b30 =>
 cond (!b30) (
 (go (.fn kfh [.ptr a1,.int .i64 2,.int .i64 18]) q29.2).bind fun q31 =>
 (AV.asTup0 q31.1).bind fun _ =>
 some (.int .i64 18,q31.2)) (
 a1.bind fun r32 =>
 ((q29.2.cell (r32.add 6)).bind AV.asMap).bind fun m33 =>
 (mapDel q29.2 m33 .i64 a2).bind fun h34 =>
 some (.int .i64 0,h34)))) none))):=(kc _ h).trans (by kernel_rfl)
theorem k5l  (h:AH):go (.fn km9 []) h =
 newM h (.map [] 0) fun h1m h1 =>
 newK h1 (.cells [.int .i64 3] T.int) fun h2r h2 =>
 (mapPut h2 h1m .i64 1 (.agg [.func (.func kgm) [] [],(⟨some h2r,1,.is 1⟩:Sl).v])).bind fun h3 =>
 newK h3 (.cells [.int .i64 3,.int .i64 4,.int .i64 10] T.int) fun h4r h4 =>
 (mapPut h4 h1m .i64 3 (.agg [.func (.func kdg) [] [],(⟨some h4r,3,.is 3⟩:Sl).v])).bind fun h5 =>
 newK h5 (.cells [.int .i64 3,.int .i64 4,.int .i64 6,.int .i64 10] T.int) fun h6r h6 =>
 (mapPut h6 h1m .i64 4 (.agg [.func (.func kde) [] [],(⟨some h6r,4,.is 4⟩:Sl).v])).bind fun h7 =>
 newK h7 (.cells [.int .i64 3,.int .i64 4,.int .i64 6,.int .i64 10] T.int) fun h8r h8 =>
 (mapPut h8 h1m .i64 6 (.agg [.func (.func kqh) [] [],(⟨some h8r,4,.is 4⟩:Sl).v])).bind fun h9 =>
 (mapPut h9 h1m .i64 10 (.agg [.func (.func koi) [] [],(⟨none,0,.is 0⟩:Sl).v])).bind fun h10 =>
 some (.map (some h1m),h10):=(kc _ h).trans (by kernel_rfl)
theorem kbax(a1:Sl)(h:AH):go (.fn kb6 [a1.v,.func (.func kcr) [] []]) h =
 (go (.fn kx [a1.v,.func (.func kcr) [] []]) h).bind fun q2 =>
 ((some q2.1).bind (AV.asInt .i64)).bind fun n3 =>
 some (.bool (decide (n3≥0)),q2.2):=(kc _ h).trans (by kernel_rfl)
theorem k67(a1:Sl)(h:AH):go (.fn kgf [a1.v]) h =
 newM h (.map [] 0) fun h2m h2 =>
 go (.pt kgf kmo [(3,.map (some h2m)),(7,a1.v),(8,.int .i64 (a1.len:Int)),(9,.int .i64 0)]) h2:=(kc _ h).trans (by kernel_rfl)
theorem k8x(a1:Sl)(a2:Option Ref)(h:AH):go (.fn kb6 [a1.v,.func (.func kct) [] [.ptr a2]]) h =
 (go (.fn kx [a1.v,.func (.func kct) [] [.ptr a2]]) h).bind fun q3 =>
 ((some q3.1).bind (AV.asInt .i64)).bind fun n4 =>
 some (.bool (decide (n4≥0)),q3.2):=(kc _ h).trans (by kernel_rfl)
theorem k17(a1:Sl)(a2:Bool)(h:AH):go (.fn klf [a1.v,.bool a2,.func (.func kbn) [] []]) h =
 cond (decide ((a1.len:Int)≤16384)) (
 cond a2 (
 (go (.fn kb6 [a1.v,.func (.func kbn) [] []]) h).bind fun q3 =>
 ((some q3.1).bind AV.asBool).bind fun b4 =>
 some (.bool (!b4),q3.2)) (
 cond (decide ((a1.len:Int)=0)) (
 (go (.fn kb6 [a1.v,.func (.func kbn) [] []]) h).bind fun q5 =>
 ((some q5.1).bind AV.asBool).bind fun b6 =>
 some (.bool (!b6),q5.2)) (
 some (.bool false,h)))) (
 some (.bool false,h)):=(kc _ h).trans (by kernel_rfl)
theorem k9x(a1:Sl)(a2:Bool)(h:AH):go (.fn knw [a1.v,.bool a2,.func (.func kb3) [] []]) h =
 cond (decide ((a1.len:Int)≤16384)) (
 cond a2 (
 (go (.fn kda [a1.v,.func (.func kb3) [] []]) h).bind fun q3 =>
 ((some q3.1).bind AV.asBool).bind fun b4 =>
 some (.bool (!b4),q3.2)) (
 cond (decide ((a1.len:Int)=0)) (
 (go (.fn kda [a1.v,.func (.func kb3) [] []]) h).bind fun q5 =>
 ((some q5.1).bind AV.asBool).bind fun b6 =>
 some (.bool (!b6),q5.2)) (
 some (.bool false,h)))) (
 some (.bool false,h)):=(kc _ h).trans (by kernel_rfl)
theorem kvg(a1:Ref)(a2 a3:Int)(h:AH):go (.pt kbx kja [(1,.ptr (some a1)),(84,.int .i64 a2),(85,.int .i64 a3)]) h =
 cond (decide (a3<a2)) (
 cond (decide (a3>0)) (
 ((h.cell (a1.add 5)).bind AV.asSl).bind fun l4 =>
 (idx l4.ref l4.len a3 1).bind fun r5 =>
 ((h.cell r5).bind (AV.asInt .i64)).bind fun n6 =>
 ((h.cell (a1.add 5)).bind AV.asSl).bind fun l7 =>
 (idx l7.ref l7.len (IntKind.wrap .i64 (a3-1)) 1).bind fun r8 =>
 ((h.cell r8).bind (AV.asInt .i64)).bind fun n9 =>
 cond (decide (n6≤n9)) (
 some (.bool false,h)) (
 go (.pt kbx kja [(1,.ptr (some a1)),(84,.int .i64 a2),(85,.int .i64 (IntKind.wrap .i64 (a3+1)))]) h)) (
 go (.pt kbx kja [(1,.ptr (some a1)),(84,.int .i64 a2),(85,.int .i64 (IntKind.wrap .i64 (a3+1)))]) h)) (
 ((h.cell (a1.add 0)).bind (AV.asInt .i64)).bind fun n10 =>
 cond (decide (n10=1)) (
 ((h.cell (a1.add 6)).bind AV.asSl).bind fun l11 =>
 some (.bool (decide ((l11.len:Int)=1)),h)) (
 cond (decide (n10=5)) (
 ((h.cell (a1.add 6)).bind AV.asSl).bind fun l12 =>
 ((h.cell (a1.add 4)).bind AV.asSl).bind fun l13 =>
 some (.bool (decide ((l12.len:Int)=(l13.len:Int))),h)) (
 cond (decide (n10=6)) (
 ((h.cell (a1.add 4)).bind AV.asSl).bind fun l14 =>
 some (.bool (decide ((l14.len:Int)>0)),h)) (
 cond (decide (n10=9)) (
 ((h.cell (a1.add 3)).bind (AV.asInt .i64)).bind fun n15 =>
 some (.bool (decide (n15≤1)),h)) (
 some (.bool true,h)))))):=(kc _ h).trans (by kernel_rfl)
theorem ksc(a1:Sl)(a2:Int)(h:AH):go (.pt kgg kkd [(0,a1.v),(3,.int .i64 a2)]) h =
 cond (decide (a2<(a1.len:Int))) (
 (idx a1.ref a1.len a2 1).bind fun r3 =>
 ((h.cell r3).bind (AV.asInt .i64)).bind fun n4 =>
 cond (decide (n4<0)) (
 some (.bool false,h)) (
 (idx a1.ref a1.len a2 1).bind fun r5 =>
 ((h.cell r5).bind (AV.asInt .i64)).bind fun n6 =>
 cond (decide (n6>1073741824)) (
 some (.bool false,h)) (
 (idx a1.ref a1.len a2 1).bind fun r7 =>
 ((h.cell r7).bind (AV.asInt .i64)).bind fun n8 =>
 (go (.fn kf1 [a1.v,.int .i64 n8]) h).bind fun q9 =>
 ((some q9.1).bind (AV.asInt .i64)).bind fun n10 =>
 cond (!decide (n10=a2)) (
 some (.bool false,q9.2)) (
 go (.pt kgg kkd [(0,a1.v),(3,.int .i64 (IntKind.wrap .i64 (a2+1)))]) q9.2)))) (
 some (.bool true,h)):=(kc _ h).trans (by kernel_rfl)
theorem ksr(a1:Ref)(a2 a3:Int)(h:AH):go (.pt kcw kl4 [(1,.ptr (some a1)),(4,.int .i64 a2),(5,.int .i64 a3)]) h =
 ((h.cell (a1.add 0)).bind AV.asSl).bind fun l4 =>
 cond (decide (a3<(l4.len:Int))) (
 ((h.cell (a1.add 2)).bind AV.asSl).bind fun l5 =>
 (idx l5.ref l5.len a2 1).bind fun r6 =>
 ((h.cell r6).bind AV.asSl).bind fun l7 =>
 (idx l7.ref l7.len a3 1).bind fun r8 =>
 ((h.cell r8).bind (AV.asInt .i64)).bind fun n9 =>
 cond (decide (n9<0)) (
 some (.bool false,h)) (
 ((h.cell (a1.add 2)).bind AV.asSl).bind fun l10 =>
 (idx l10.ref l10.len a2 1).bind fun r11 =>
 ((h.cell r11).bind AV.asSl).bind fun l12 =>
 (idx l12.ref l12.len a3 1).bind fun r13 =>
 ((h.cell r13).bind (AV.asInt .i64)).bind fun n14 =>
 ((h.cell (a1.add 1)).bind AV.asSl).bind fun l15 =>
 (idx l15.ref l15.len a2 1).bind fun r16 =>
 ((h.cell r16).bind (AV.asInt .i64)).bind fun n17 =>
 cond (decide (n14≥n17)) (
 some (.bool false,h)) (
 go (.pt kcw kl4 [(1,.ptr (some a1)),(4,.int .i64 a2),(5,.int .i64 (IntKind.wrap .i64 (a3+1)))]) h))) (
 go (.pt kcw kjn [(1,.ptr (some a1)),(4,.int .i64 (IntKind.wrap .i64 (a2+1)))]) h):=(kc _ h).trans (by kernel_rfl)
theorem k8j(a1:Int)(h:AH):go (.pt khz kqe [(3,.int .i64 a1)]) h =
 cond (decide (a1=1)) (
 some (.int .i64 2,h)) (
 cond (decide (a1=2)) (
 some (.int .i64 2,h)) (
 cond (decide (a1=4)) (
 some (.int .i64 2,h)) (
 cond (decide (a1=5)) (
 some (.int .i64 2,h)) (
 cond (decide (a1=6)) (
 some (.int .i64 2,h)) (
 cond (decide (a1=8)) (
 some (.int .i64 2,h)) (
 cond (decide (a1=7)) (
 some (.int .i64 3,h)) (
 cond (decide (a1=9)) (
 some (.int .i64 3,h)) (
 some (.int .i64 0,h))))))))):=(kc _ h).trans (by kernel_rfl)
theorem kxe(a1:Ref)(a2:Bool)(h:AH):go (.pt kf kkh [(1,.ptr (some a1)),(4,.bool a2)]) h =
 ((h.cell (a1.add 0)).bind (AV.asInt .i64)).bind fun n3 =>
 cond (decide (n3=4)) (
 go (.pt kf kj5 [(1,.ptr (some a1)),(4,.bool a2),(5,.bool true)]) h) (
 ((h.cell (a1.add 0)).bind (AV.asInt .i64)).bind fun n4 =>
 go (.pt kf kj5 [(1,.ptr (some a1)),(4,.bool a2),(5,.bool (decide (n4=7)))]) h):=(kc _ h).trans (by kernel_rfl)
theorem k0v(a1:Sl)(a2:Option Ref)(h:AH):go (.fn kcy [a1.v,.ptr a2]) h =
 a2.bind fun r3 =>
 ((h.cell r3).bind AV.asPtr).bind fun p4 =>
 p4.bind fun r5 =>
 ((h.cell (r5.add 6)).bind AV.asSl).bind fun l6 =>
 (go (.fn kll [l6.v,a1.v]) h).bind fun q7 =>
 ((some q7.1).bind AV.asBool).bind fun b8 =>
 some (.bool (!b8),q7.2):=(kc _ h).trans (by kernel_rfl)
theorem kq4(a1:Sl)(a2:Option Ref)(a3 a4:Int)(h:AH):go (.pt kx kbo [(0,a1.v),(1,.func (.func kc5) [] [.ptr a2]),(7,.int .i64 a3),(8,.int .i64 a4)]) h =
 cond (decide (a4<a3)) (
 (idx a1.ref a1.len a4 1).bind fun r5 =>
 ((h.cell r5).bind (AV.asInt .i64)).bind fun n6 =>
 (go (.fn kc5 [.int .i64 n6,.ptr a2]) h).bind fun q7 =>
 ((some q7.1).bind AV.asBool).bind fun b8 =>
 cond b8 (
 some (.int .i64 a4,q7.2)) (
 go (.pt kx kbo [(0,a1.v),(1,.func (.func kc5) [] [.ptr a2]),(7,.int .i64 a3),(8,.int .i64 (IntKind.wrap .i64 (a4+1)))]) q7.2)) (
 some (.int .i64 (-1),h)):=(kc _ h).trans (by kernel_rfl)
theorem kps(a1:Sl)(a2:Option Ref)(a3:Int)(h:AH):go (.pt kdi kl1 [(6,a1.v),(8,.func (.func kfs) [.ptr a2] []),(9,.int .i64 a3)]) h =
 cond (decide (a3>0)) (
 (go (.fn kfs [.ptr a2,.int .i64 (IntKind.wrap .i64 (a3+1))]) h).bind fun q4 =>
 (AV.asTup2 q4.1).bind fun p5 =>
 ((some p5.1).bind (AV.asInt .i64)).bind fun n6 =>
 ((some p5.2).bind (AV.asInt .i64)).bind fun n7 =>
 cond (!decide (n7=0)) (
 some (.tup [(⟨none,0,.is 0⟩:Sl).v,.int .i64 n7],q4.2)) (
 (idx a1.ref a1.len n6 1).bind fun r8 =>
 ((q4.2.cell r8).bind (AV.asInt .i64)).bind fun n9 =>
 (idx a1.ref a1.len a3 1).bind fun r10 =>
 ((q4.2.cell r10).bind (AV.asInt .i64)).bind fun n11 =>
 (idx a1.ref a1.len a3 1).bind fun r12 =>
 (q4.2.puts r12 [.int .i64 n9]).bind fun h13 =>
 (idx a1.ref a1.len n6 1).bind fun r14 =>
 (h13.puts r14 [.int .i64 n11]).bind fun h15 =>
 go (.pt kdi kl1 [(6,a1.v),(8,.func (.func kfs) [.ptr a2] []),(9,.int .i64 (IntKind.wrap .i64 (a3-1)))]) h15)) (
 some (.tup [a1.v,.int .i64 0],h)):=(kc _ h).trans (by kernel_rfl)
theorem krp(a1:Sl)(a2:Option Ref)(a3 a4:Int)(h:AH):go (.pt kbc kb4 [(0,a1.v),(1,.func (.func kbq) [] [.ptr a2]),(7,.int .i64 a3),(8,.int .i64 a4)]) h =
 cond (decide (a4<a3)) (
 (idx a1.ref a1.len a4 1).bind fun r5 =>
 ((h.cell r5).bind AV.asSl).bind fun l6 =>
 (go (.fn kbq [l6.v,.ptr a2]) h).bind fun q7 =>
 ((some q7.1).bind AV.asBool).bind fun b8 =>
 cond b8 (
 some (.int .i64 a4,q7.2)) (
 go (.pt kbc kb4 [(0,a1.v),(1,.func (.func kbq) [] [.ptr a2]),(7,.int .i64 a3),(8,.int .i64 (IntKind.wrap .i64 (a4+1)))]) q7.2)) (
 some (.int .i64 (-1),h)):=(kc _ h).trans (by kernel_rfl)
theorem kur(a1:Ref)(a2:Sl)(a3:Int)(a4 a5:Ref)(a6 a7:Sl)(a8 a9:Int)(l:Nat)(h:AH):go (.rpt l kca kk3 [(7,.ptr (some a1)),(8,a2.v),(9,.int .i64 a3),(11,.ptr (some a4)),(12,.ptr (some a5)),(15,a6.v),(40,a7.v),(41,.int .i64 a8),(42,.int .i64 a9)]) h =
 cond (decide (a9<a8)) (
 (idx a7.ref a7.len a9 1).bind fun r10 =>
 ((h.cell r10).bind (AV.asInt .i64)).bind fun n11 =>
 (h.cell a4).bind fun v12 =>
 ((h.cell a1).bind AV.asSl).bind fun l13 =>
 (idx l13.ref l13.len n11 1).bind fun r14 =>
 ((h.cell r14).bind AV.asSl).bind fun l15 =>
 (callV Pg go v12 [a6.v,l15.v] h).bind fun q16 =>
 ((some q16.1).bind AV.asSl).bind fun l17 =>
 go (.rpt l kca kk3 [(7,.ptr (some a1)),(8,a2.v),(9,.int .i64 a3),(11,.ptr (some a4)),(12,.ptr (some a5)),(15,l17.v),(40,a7.v),(41,.int .i64 a8),(42,.int .i64 (IntKind.wrap .i64 (a9+1)))]) q16.2) (
 ((h.cell a5).bind AV.asSl).bind fun l18 =>
 newK h (.cells [a6.v] kr) fun h19r h19 =>
 (kbe Pg kr ((⟨some h19r,1,.is 1⟩:Sl).v) h19).bind fun p21 =>
 (kz Pg l18 p21.1 p21.2 kr 1 h19).bind fun q20 =>
 (AV.asSl q20.1).bind fun l22 =>
 (q20.2.puts a5 [l22.v]).bind fun h23 =>
 kch l none h23):=(kc _ h).trans (by kernel_rfl)
theorem kuq(a1:Int)(a2 a3:Ref)(a4 a5:Sl)(a6 a7:Int)(h:AH):go (.pt ke2 ki2 [(2,.int .i64 a1),(3,.ptr (some a2)),(6,.ptr (some a3)),(8,a4.v),(44,a5.v),(45,.int .i64 a6),(46,.int .i64 a7)]) h =
 cond (decide (a7<a6)) (
 (idx a5.ref a5.len a7 1).bind fun r8 =>
 ((h.cell r8).bind (AV.asInt .i64)).bind fun n9 =>
 cond (decide (n9≤a1)) (
 newK h (.cells [.int .i64 a7] T.int) fun h10r h10 =>
 (kbe Pg T.int ((⟨some h10r,1,.is 1⟩:Sl).v) h10).bind fun p12 =>
 (kz Pg a4 p12.1 p12.2 T.int 1 h10).bind fun q11 =>
 (AV.asSl q11.1).bind fun l13 =>
 go (.pt ke2 ki2 [(2,.int .i64 a1),(3,.ptr (some a2)),(6,.ptr (some a3)),(8,l13.v),(44,a5.v),(45,.int .i64 a6),(46,.int .i64 (IntKind.wrap .i64 (a7+1)))]) q11.2) (
 go (.pt ke2 ki2 [(2,.int .i64 a1),(3,.ptr (some a2)),(6,.ptr (some a3)),(8,a4.v),(44,a5.v),(45,.int .i64 a6),(46,.int .i64 (IntKind.wrap .i64 (a7+1)))]) h)) (
 ((h.cell (a2.add 0)).bind AV.asSl).bind fun l14 =>
 (go (.fn kes [.int .i64 (l14.len:Int),a4.v]) h).bind fun q15 =>
 (AV.asTup2 q15.1).bind fun p16 =>
 (AV.asAgg p16.1).bind fun cs17 =>
 cond (Nat.beq cs17.length 2) (
 ((cs17[0]?).bind (AV.asInt .i64)).bind fun n18 =>
 ((cs17[1]?).bind AV.asSl).bind fun l19 =>
 ((some p16.2).bind (AV.asInt .i64)).bind fun n20 =>
 (q15.2.puts a3 [.int .i64 n18,l19.v]).bind fun h21 =>
 ((h21.cell (a3.add 0)).bind (AV.asInt .i64)).bind fun n22 =>
 ((h21.cell (a3.add 1)).bind AV.asSl).bind fun l23 =>
 some (.tup [.agg [.int .i64 n22,l23.v],.int .i64 n20],h21)) none):=(kc _ h).trans (by kernel_rfl)
theorem k3y(a1:Int)(a2:Sl)(a3:Int)(a4:Sl)(h:AH):go (.fn kgo [.agg [.int .i64 a1,a2.v],.agg [.int .i64 a3,a4.v],.func (.func kef) [] []]) h =
 newK h (.cells [.int .i64 a1,a2.v] kw) fun h5r h5 =>
 newK h5 (.cells [.int .i64 a3,a4.v] kw) fun h6r h6 =>
 newK h6 (.cells [.int .i64 0,(⟨none,0,.is 0⟩:Sl).v] kw) fun h7r h7 =>
 ((h7.cell (h5r.add 0)).bind (AV.asInt .i64)).bind fun n8 =>
 ((h7.cell (h5r.add 1)).bind AV.asSl).bind fun l9 =>
 (go (.fn kho [.agg [.int .i64 n8,l9.v]]) h7).bind fun q10 =>
 ((some q10.1).bind AV.asBool).bind fun b11 =>
 cond (!b11) (
 (q10.2.puts h7r [.int .i64 0,(⟨none,0,.is 0⟩:Sl).v]).bind fun h12 =>
 ((h12.cell (h7r.add 0)).bind (AV.asInt .i64)).bind fun n13 =>
 ((h12.cell (h7r.add 1)).bind AV.asSl).bind fun l14 =>
 some (.tup [.agg [.int .i64 n13,l14.v],.int .i64 1],h12)) (
 ((q10.2.cell (h6r.add 0)).bind (AV.asInt .i64)).bind fun n15 =>
 ((q10.2.cell (h6r.add 1)).bind AV.asSl).bind fun l16 =>
 (go (.fn kho [.agg [.int .i64 n15,l16.v]]) q10.2).bind fun q17 =>
 ((some q17.1).bind AV.asBool).bind fun b18 =>
 cond (!b18) (
 (q17.2.puts h7r [.int .i64 0,(⟨none,0,.is 0⟩:Sl).v]).bind fun h19 =>
 ((h19.cell (h7r.add 0)).bind (AV.asInt .i64)).bind fun n20 =>
 ((h19.cell (h7r.add 1)).bind AV.asSl).bind fun l21 =>
 some (.tup [.agg [.int .i64 n20,l21.v],.int .i64 1],h19)) (
 ((q17.2.cell (h5r.add 0)).bind (AV.asInt .i64)).bind fun n22 =>
 ((q17.2.cell (h6r.add 0)).bind (AV.asInt .i64)).bind fun n23 =>
 cond (!decide (n22=n23)) (
 (q17.2.puts h7r [.int .i64 0,(⟨none,0,.is 0⟩:Sl).v]).bind fun h24 =>
 ((h24.cell (h7r.add 0)).bind (AV.asInt .i64)).bind fun n25 =>
 ((h24.cell (h7r.add 1)).bind AV.asSl).bind fun l26 =>
 some (.tup [.agg [.int .i64 n25,l26.v],.int .i64 1],h24)) (
 ((q17.2.cell (h5r.add 0)).bind (AV.asInt .i64)).bind fun n27 =>
 (go (.fn kjv [.int .i64 n27]) q17.2).bind fun q28 =>
 (AV.asTup2 q28.1).bind fun p29 =>
 (AV.asAgg p29.1).bind fun cs30 =>
 cond (Nat.beq cs30.length 2) (
 ((cs30[0]?).bind (AV.asInt .i64)).bind fun n31 =>
 ((cs30[1]?).bind AV.asSl).bind fun l32 =>
 ((some p29.2).bind (AV.asInt .i64)).bind fun n33 =>
 newK q28.2 (.cells [.int .i64 0,(⟨none,0,.is 0⟩:Sl).v] kw) fun h34r h34 =>
 (h34.puts h34r [.int .i64 n31,l32.v]).bind fun h35 =>
 ((h35.cell (h34r.add 1)).bind AV.asSl).bind fun l36 =>
 go (.pt kgo kmq [(2,.func (.func kef) [] []),(3,.ptr (some h5r)),(4,.ptr (some h6r)),(6,.ptr (some h7r)),(8,.ptr (some h34r)),(9,.int .i64 n33),(35,.int .i64 (l36.len:Int)),(36,.int .i64 0)]) h35) none))):=(kc _ h).trans (by kernel_rfl)
theorem kbdd(a1:Int)(a2:Sl)(h:AH):go (.fn knh [.agg [.int .i64 a1,a2.v]]) h =
 newK h (.cells [.int .i64 a1,a2.v] kw) fun h3r h3 =>
 some (.func (.func kbt) [] [.ptr (some h3r)],h3):=(kc _ h).trans (by kernel_rfl)
theorem k5o(a1:AV)(h:AH):go (.fn kpg [a1]) h =
 (go (.fn kdx [(⟨none,0,.is 0⟩:Sl).v,a1]) h).bind fun q2 =>
 ((some q2.1).bind AV.asSl).bind fun l3 =>
 some (l3.v,q2.2):=(kc _ h).trans (by kernel_rfl)
theorem k63(a1:Sl)(h:AH):go (.fn kbc [a1.v,.func (.func kdm) [] []]) h =
 go (.pt kbc kb4 [(0,a1.v),(1,.func (.func kdm) [] []),(7,.int .i64 (a1.len:Int)),(8,.int .i64 0)]) h:=(kc _ h).trans (by kernel_rfl)
theorem k2e(a1 a2 a3:Int)(h:AH):go (.fn kbi [.int .u64 a1,.int .u64 a2,.int .u64 a3]) h =
 cond (decide (a3=0)) (
 (h.cell (.old ⟨Gl.math_bits_divideError,0,none⟩)).bind fun v4 =>
 none) (
 go (.pt kbi kmx [(0,.int .u64 a1),(1,.int .u64 a2),(2,.int .u64 a3)]) h):=(kc _ h).trans (by kernel_rfl)
theorem k1x(a1:Int)(a2 a3:Sl)(a4 a5:Int)(h:AH):go (.pt kea ki3 [(1,.int .u64 a1),(5,a2.v),(12,a3.v),(13,.int .i64 a4),(14,.int .i64 a5)]) h =
 cond (decide (a5<a4)) (
 (idx a3.ref a3.len a5 1).bind fun r6 =>
 ((h.cell r6).bind (AV.asInt .u64)).bind fun n7 =>
 (idx a2.ref a2.len a5 1).bind fun r8 =>
 ((h.cell r8).bind (AV.asInt .u64)).bind fun n9 =>
 cond (decide (a1<0)) none (
 (idx a2.ref a2.len a5 1).bind fun r10 =>
 (h.puts r10 [.int .u64 (ior .u64 n9 (ishl .u64 n7 a1))]).bind fun h11 =>
 cond (decide (a1>0)) (
 cond (decide ((IntKind.wrap .u64 (64-a1))<0)) none (
 (idx a2.ref a2.len (IntKind.wrap .i64 (a5+1)) 1).bind fun r12 =>
 (h11.puts r12 [.int .u64 (ishr .u64 n7 (IntKind.wrap .u64 (64-a1)))]).bind fun h13 =>
 go (.pt kea ki3 [(1,.int .u64 a1),(5,a2.v),(12,a3.v),(13,.int .i64 a4),(14,.int .i64 (IntKind.wrap .i64 (a5+1)))]) h13)) (
 go (.pt kea ki3 [(1,.int .u64 a1),(5,a2.v),(12,a3.v),(13,.int .i64 a4),(14,.int .i64 (IntKind.wrap .i64 (a5+1)))]) h11))) (
 some (a2.v,h)):=(kc _ h).trans (by kernel_rfl)
theorem k6r(a1 a2 a3 a4 a5:Int)(h:AH):go (.fn kez [.int .u64 a1,.int .u64 a2,.int .u64 a3,.int .u64 a4,.int .u64 a5]) h =
 cond (decide (a1≥a4)) (
 some (.int .u64 18446744073709551615,h)) (
 (go (.fn kbi [.int .u64 a1,.int .u64 a2,.int .u64 a4]) h).bind fun q6 =>
 (AV.asTup2 q6.1).bind fun p7 =>
 ((some p7.1).bind (AV.asInt .u64)).bind fun n8 =>
 ((some p7.2).bind (AV.asInt .u64)).bind fun n9 =>
 go (.pt kez kh1 [(2,.int .u64 a3),(3,.int .u64 a4),(4,.int .u64 a5),(11,.int .u64 n8),(12,.int .u64 n9)]) q6.2):=(kc _ h).trans (by kernel_rfl)
theorem k4i(a1:Int)(a2 a3:Sl)(a4:Int)(a5:Sl)(a6 a7:Int)(a8:Sl)(h:AH):go (.pt kbs kma [(6,.int .u64 a1),(7,a2.v),(8,a3.v),(9,.int .i64 a4),(10,a5.v),(11,.int .i64 a6),(12,.int .u64 a7),(13,a8.v)]) h =
 (go (.fn khc [.int .u64 a7]) h).bind fun q9 =>
 ((some q9.1).bind AV.asSl).bind fun l10 =>
 (go (.fn kci [a3.v,l10.v]) q9.2).bind fun q11 =>
 ((some q11.1).bind AV.asSl).bind fun l12 =>
 (go (.fn kfn [a8.v]) q11.2).bind fun q13 =>
 ((some q13.1).bind AV.asSl).bind fun l14 =>
 (go (.fn kbf [l14.v]) q13.2).bind fun q15 =>
 ((some q15.1).bind AV.asSl).bind fun l16 =>
 (go (.fn kd9 [l16.v,l12.v]) q15.2).bind fun q17 =>
 ((some q17.1).bind (AV.asInt .i64)).bind fun n18 =>
 cond (decide (n18≥0)) (
 (go (.fn kcl [a8.v,l12.v]) q17.2).bind fun q19 =>
 ((some q19.1).bind AV.asSl).bind fun l20 =>
 (copyH l20 a8 1 q19.2).bind fun h21 =>
 (idx a5.ref a5.len a6 1).bind fun r22 =>
 (h21.puts r22 [.int .u64 a7]).bind fun h23 =>
 go (.pt kbs kkw [(6,.int .u64 a1),(7,a2.v),(8,a3.v),(9,.int .i64 a4),(10,a5.v),(11,.int .i64 (IntKind.wrap .i64 (a6-1)))]) h23) (
 go (.pt kbs kma [(6,.int .u64 a1),(7,a2.v),(8,a3.v),(9,.int .i64 a4),(10,a5.v),(11,.int .i64 a6),(12,.int .u64 (IntKind.wrap .u64 (a7-1))),(13,a8.v)]) q17.2):=(kc _ h).trans (by kernel_rfl)
theorem k0z(a1:Int)(a2 a3 a4:Sl)(a5 a6:Int)(h:AH):go (.pt kbs khl [(6,.int .u64 a1),(10,a2.v),(15,a3.v),(16,a4.v),(112,.int .i64 a5),(113,.int .i64 a6)]) h =
 cond (decide (a6<a5)) (
 (idx a3.ref a3.len a6 1).bind fun r7 =>
 ((h.cell r7).bind (AV.asInt .u64)).bind fun n8 =>
 cond (decide (a1<0)) none (
 (idx a4.ref a4.len a6 1).bind fun r9 =>
 (h.puts r9 [.int .u64 (ishr .u64 n8 a1)]).bind fun h10 =>
 cond (decide (a1>0)) (
 cond (decide ((IntKind.wrap .i64 (a6+1))<(a3.len:Int))) (
 (idx a4.ref a4.len a6 1).bind fun r11 =>
 ((h10.cell r11).bind (AV.asInt .u64)).bind fun n12 =>
 (idx a3.ref a3.len (IntKind.wrap .i64 (a6+1)) 1).bind fun r13 =>
 ((h10.cell r13).bind (AV.asInt .u64)).bind fun n14 =>
 cond (decide ((IntKind.wrap .u64 (64-a1))<0)) none (
 (idx a4.ref a4.len a6 1).bind fun r15 =>
 (h10.puts r15 [.int .u64 (ior .u64 n12 (ishl .u64 n14 (IntKind.wrap .u64 (64-a1))))]).bind fun h16 =>
 go (.pt kbs khl [(6,.int .u64 a1),(10,a2.v),(15,a3.v),(16,a4.v),(112,.int .i64 a5),(113,.int .i64 (IntKind.wrap .i64 (a6+1)))]) h16)) (
 go (.pt kbs khl [(6,.int .u64 a1),(10,a2.v),(15,a3.v),(16,a4.v),(112,.int .i64 a5),(113,.int .i64 (IntKind.wrap .i64 (a6+1)))]) h10)) (
 go (.pt kbs khl [(6,.int .u64 a1),(10,a2.v),(15,a3.v),(16,a4.v),(112,.int .i64 a5),(113,.int .i64 (IntKind.wrap .i64 (a6+1)))]) h10))) (
 (go (.fn kbf [a2.v]) h).bind fun q17 =>
 ((some q17.1).bind AV.asSl).bind fun l18 =>
 (go (.fn kbf [a4.v]) q17.2).bind fun q19 =>
 ((some q19.1).bind AV.asSl).bind fun l20 =>
 some (.tup [l18.v,l20.v],q19.2)):=(kc _ h).trans (by kernel_rfl)
theorem kx8(a1 a2:Int)(h:AH):go (.fn kk4 [.int .u64 a1,.int .u64 a2]) h =
 some (.tup [.int .u64 (IntKind.wrap .u64 ((IntKind.wrap .u64 ((IntKind.wrap .u64 ((ishr .u64 a1 32)*(ishr .u64 a2 32)))+(ishr .u64 (IntKind.wrap .u64 ((IntKind.wrap .u64 ((ishr .u64 a1 32)*(iand .u64 a2 4294967295)))+(ishr .u64 (IntKind.wrap .u64 ((iand .u64 a1 4294967295)*(iand .u64 a2 4294967295))) 32))) 32)))+(ishr .u64 (IntKind.wrap .u64 ((iand .u64 (IntKind.wrap .u64 ((IntKind.wrap .u64 ((ishr .u64 a1 32)*(iand .u64 a2 4294967295)))+(ishr .u64 (IntKind.wrap .u64 ((iand .u64 a1 4294967295)*(iand .u64 a2 4294967295))) 32))) 4294967295)+(IntKind.wrap .u64 ((iand .u64 a1 4294967295)*(ishr .u64 a2 32))))) 32))),.int .u64 (IntKind.wrap .u64 (a1*a2))],h):=(kc _ h).trans (by kernel_rfl)
theorem kv6(a1:Ref)(a2:Sl)(a3 a4:Int)(a5:Sl)(a6 a7:Int)(h:AH):go (.pt kc2 kmf [(4,.ptr (some a1)),(12,a2.v),(13,.int .i64 a3),(14,.int .i64 a4),(29,a5.v),(30,.int .i64 a6),(31,.int .i64 a7)]) h =
 cond (decide (a7<a6)) (
 (idx a5.ref a5.len a7 7).bind fun r8 =>
 ((h.cell (r8.add 0)).bind AV.asBool).bind fun b9 =>
 ((h.cell (r8.add 1)).bind (AV.asInt .i64)).bind fun n10 =>
 ((h.cell (r8.add 2)).bind (AV.asInt .i64)).bind fun n11 =>
 ((h.cell (r8.add 3)).bind (AV.asInt .i64)).bind fun n12 =>
 ((h.cell (r8.add 4)).bind (AV.asInt .i64)).bind fun n13 =>
 ((h.cell (r8.add 5)).bind (AV.asInt .i64)).bind fun n14 =>
 ((h.cell (r8.add 6)).bind (AV.asInt .i64)).bind fun n15 =>
 newK h (.cells [.bool false,.int .i64 0,.int .i64 0,.int .i64 0,.int .i64 0,.int .i64 0,.int .i64 0] kb7) fun h16r h16 =>
 (h16.puts h16r [.bool b9,.int .i64 n10,.int .i64 n11,.int .i64 n12,.int .i64 n13,.int .i64 n14,.int .i64 n15]).bind fun h17 =>
 ((h17.cell (h16r.add 0)).bind AV.asBool).bind fun b18 =>
 ((h17.cell (h16r.add 1)).bind (AV.asInt .i64)).bind fun n19 =>
 ((h17.cell (h16r.add 2)).bind (AV.asInt .i64)).bind fun n20 =>
 ((h17.cell (h16r.add 3)).bind (AV.asInt .i64)).bind fun n21 =>
 ((h17.cell (h16r.add 4)).bind (AV.asInt .i64)).bind fun n22 =>
 ((h17.cell (h16r.add 5)).bind (AV.asInt .i64)).bind fun n23 =>
 ((h17.cell (h16r.add 6)).bind (AV.asInt .i64)).bind fun n24 =>
 ((h17.cell (a1.add 0)).bind AV.asSl).bind fun l25 =>
 (go (.fn kmu [.agg [.bool b18,.int .i64 n19,.int .i64 n20,.int .i64 n21,.int .i64 n22,.int .i64 n23,.int .i64 n24],.int .i64 a7,.int .i64 (l25.len:Int)]) h17).bind fun q26 =>
 ((some q26.1).bind AV.asBool).bind fun b27 =>
 cond (!b27) (
 some (.bool false,q26.2)) (
 go (.pt kc2 kmf [(4,.ptr (some a1)),(12,a2.v),(13,.int .i64 a3),(14,.int .i64 a4),(29,a5.v),(30,.int .i64 a6),(31,.int .i64 (IntKind.wrap .i64 (a7+1)))]) q26.2)) (
 go (.pt kc2 kjp [(12,a2.v),(13,.int .i64 a3),(14,.int .i64 (IntKind.wrap .i64 (a4+1)))]) h):=(kc _ h).trans (by kernel_rfl)
theorem k7k(a1:Sl)(a2 a3:Option Ref)(h:AH):go (.fn khi [a1.v,.func (.func kb0) [] [.ptr a2,.ptr a3]]) h =
 go (.pt khi klw [(0,a1.v),(1,.func (.func kb0) [] [.ptr a2,.ptr a3]),(7,.int .i64 (a1.len:Int)),(8,.int .i64 0)]) h:=(kc _ h).trans (by kernel_rfl)
theorem k5n(a1:Option Ref)(h:AH):go (.pt kev kfz [(0,.ptr a1)]) h =
 a1.bind fun r2 =>
 ((h.cell ((r2.add 4).add 0)).bind (AV.asInt .i64)).bind fun n3 =>
 ((h.cell ((r2.add 4).add 1)).bind (AV.asInt .i64)).bind fun n4 =>
 ((h.cell ((r2.add 4).add 2)).bind (AV.asInt .i64)).bind fun n5 =>
 (go (.fn kk5 [.ptr a1]) h).bind fun q6 =>
 (AV.asAgg q6.1).bind fun cs7 =>
 cond (Nat.beq cs7.length 3) (
 ((cs7[0]?).bind (AV.asInt .i64)).bind fun n8 =>
 ((cs7[1]?).bind (AV.asInt .i64)).bind fun n9 =>
 ((cs7[2]?).bind (AV.asInt .i64)).bind fun n10 =>
 whenK (SameAt h q6.2 (r2.add 4) 3) (
 cond (!((decide (n3=n8))&&((decide (n4=n9))&&((decide (n5=n10))&&true)))) (
 a1.bind fun r11 =>
 (idx (some (r11.add 4)) 3 1 1).bind fun r12 =>
 ((q6.2.cell r12).bind (AV.asInt .i64)).bind fun n13 =>
 a1.bind fun r14 =>
 ((q6.2.cell (r14.add 0)).bind AV.asSl).bind fun l15 =>
 cond (decide (n13=(l15.len:Int))) (
 a1.bind fun r16 =>
 (idx (some (r16.add 4)) 3 0 1).bind fun r17 =>
 ((q6.2.cell r17).bind (AV.asInt .i64)).bind fun n18 =>
 a1.bind fun r19 =>
 (q6.2.puts (r19.add 4) [.int .i64 (IntKind.wrap .i64 (n18+1)),.int .i64 0,.int .i64 0]).bind fun h20 =>
 go (.pt kev kfz [(0,.ptr a1)]) h20) (
 (go (.fn knn [.ptr a1]) q6.2).bind fun q21 =>
 (AV.asAgg q21.1).bind fun cs22 =>
 cond (Nat.beq cs22.length 7) (
 ((cs22[0]?).bind AV.asBool).bind fun b23 =>
 ((cs22[1]?).bind (AV.asInt .i64)).bind fun n24 =>
 ((cs22[2]?).bind (AV.asInt .i64)).bind fun n25 =>
 ((cs22[3]?).bind (AV.asInt .i64)).bind fun n26 =>
 ((cs22[4]?).bind (AV.asInt .i64)).bind fun n27 =>
 ((cs22[5]?).bind (AV.asInt .i64)).bind fun n28 =>
 ((cs22[6]?).bind (AV.asInt .i64)).bind fun n29 =>
 newK q21.2 (.cells [.bool false,.int .i64 0,.int .i64 0,.int .i64 0,.int .i64 0,.int .i64 0,.int .i64 0] kb7) fun h30r h30 =>
 (h30.puts h30r [.bool b23,.int .i64 n24,.int .i64 n25,.int .i64 n26,.int .i64 n27,.int .i64 n28,.int .i64 n29]).bind fun h31 =>
 ((h31.cell (h30r.add 0)).bind AV.asBool).bind fun b32 =>
 cond b32 (
 a1.bind fun r33 =>
 ((h31.cell (r33.add 7)).bind AV.asSl).bind fun l34 =>
 a1.bind fun r35 =>
 (idx (some (r35.add 4)) 3 0 1).bind fun r36 =>
 ((h31.cell r36).bind (AV.asInt .i64)).bind fun n37 =>
 (idx l34.ref l34.len n37 1).bind fun r38 =>
 ((h31.cell r38).bind (AV.asInt .i64)).bind fun n39 =>
 ((h31.cell (h30r.add 1)).bind (AV.asInt .i64)).bind fun n40 =>
 (idx l34.ref l34.len n37 1).bind fun r41 =>
 (h31.puts r41 [.int .i64 (IntKind.wrap .i64 (n39+n40))]).bind fun h42 =>
 a1.bind fun r43 =>
 (idx (some (r43.add 4)) 3 0 1).bind fun r44 =>
 ((h42.cell r44).bind (AV.asInt .i64)).bind fun n45 =>
 a1.bind fun r46 =>
 (idx (some (r46.add 4)) 3 1 1).bind fun r47 =>
 ((h42.cell r47).bind (AV.asInt .i64)).bind fun n48 =>
 a1.bind fun r49 =>
 (h42.puts (r49.add 4) [.int .i64 n45,.int .i64 (IntKind.wrap .i64 (n48+1)),.int .i64 0]).bind fun h50 =>
 go (.pt kev kfz [(0,.ptr a1)]) h50) (
 ((h31.cell (h30r.add 2)).bind (AV.asInt .i64)).bind fun n51 =>
 cond (!decide (n51=0)) (
 some (.tup [],h31)) (
 ((h31.cell (h30r.add 0)).bind AV.asBool).bind fun b52 =>
 ((h31.cell (h30r.add 1)).bind (AV.asInt .i64)).bind fun n53 =>
 ((h31.cell (h30r.add 2)).bind (AV.asInt .i64)).bind fun n54 =>
 ((h31.cell (h30r.add 3)).bind (AV.asInt .i64)).bind fun n55 =>
 ((h31.cell (h30r.add 4)).bind (AV.asInt .i64)).bind fun n56 =>
 ((h31.cell (h30r.add 5)).bind (AV.asInt .i64)).bind fun n57 =>
 ((h31.cell (h30r.add 6)).bind (AV.asInt .i64)).bind fun n58 =>
 a1.bind fun r59 =>
 ((h31.cell ((r59.add 1).add 2)).bind AV.asSl).bind fun l60 =>
 ((h31.cell (h30r.add 3)).bind (AV.asInt .i64)).bind fun n61 =>
 (idx l60.ref l60.len n61 1).bind fun r62 =>
 ((h31.cell r62).bind AV.asSl).bind fun l63 =>
 a1.bind fun r64 =>
 (idx (some (r64.add 4)) 3 0 1).bind fun r65 =>
 ((h31.cell r65).bind (AV.asInt .i64)).bind fun n66 =>
 (idx l63.ref l63.len n66 1).bind fun r67 =>
 ((h31.cell r67).bind (AV.asInt .i64)).bind fun n68 =>
 ((h31.cell (h30r.add 4)).bind (AV.asInt .i64)).bind fun n69 =>
 a1.bind fun r70 =>
 (go (.fn klc [.agg [.bool b52,.int .i64 n53,.int .i64 n54,.int .i64 n55,.int .i64 n56,.int .i64 n57,.int .i64 n58],.bool (decide (n68≤n69))]) h31).bind fun q71 =>
 ((some q71.1).bind (AV.asInt .i64)).bind fun n72 =>
 (idx (some (r70.add 4)) 3 2 1).bind fun r73 =>
 (q71.2.puts r73 [.int .i64 n72]).bind fun h74 =>
 go (.pt kev kfz [(0,.ptr a1)]) h74))) none)) (
 some (.tup [],q6.2)))) none:=(kc _ h).trans (by kernel_rfl)
theorem k8w(a1:Sl)(h:AH):go (.fn kx [a1.v,.func (.func kcs) [] []]) h =
 go (.pt kx kbo [(0,a1.v),(1,.func (.func kcs) [] []),(7,.int .i64 (a1.len:Int)),(8,.int .i64 0)]) h:=(kc _ h).trans (by kernel_rfl)
theorem k9f(a1:Option Ref)(h:AH):go (.fn kp1 [.ptr a1]) h =
 a1.bind fun r2 =>
 ((h.cell (r2.add 4)).bind (AV.asInt .i64)).bind fun n3 =>
 a1.bind fun r4 =>
 ((h.cell (r4.add 5)).bind (AV.asInt .i64)).bind fun n5 =>
 some (.tup [.int .i64 n3,.int .i64 n5],h):=(kc _ h).trans (by kernel_rfl)
theorem k6d(a1:Option Ref)(a2:Int)(h:AH):go (.fn kpa [.ptr a1,.int .i64 a2]) h =
 a1.bind fun r3 =>
 ((h.cell (r3.add 4)).bind (AV.asInt .i64)).bind fun n4 =>
 cond (!decide (n4=0)) (
 some (.int .i64 17,h)) (
 cond (decide (a2<1)) (
 some (.int .i64 1,h)) (
 cond (decide (a2>1000)) (
 some (.int .i64 1,h)) (
 (go (.fn kfh [.ptr a1,.int .i64 2,.int .i64 a2]) h).bind fun q5 =>
 (AV.asTup0 q5.1).bind fun _ =>
 some (.int .i64 0,q5.2)))):=(kc _ h).trans (by kernel_rfl)
theorem k8p(a1:Option Ref)(a2 a3:Int)(h:AH):go (.fn kfh [.ptr a1,.int .i64 a2,.int .i64 a3]) h =
 a1.bind fun r4 =>
 (h.puts (r4.add 4) [.int .i64 a2]).bind fun h5 =>
 a1.bind fun r6 =>
 (h5.puts (r6.add 5) [.int .i64 a3]).bind fun h7 =>
 a1.bind fun r8 =>
 ((h7.cell (r8.add 6)).bind AV.asMap).bind fun m9 =>
 (kgw h7 m9).bind fun h10 =>
 some (.tup [],h10):=(kc _ h).trans (by kernel_rfl)
theorem kzy(a1:Sl)(a2:Int)(h:AH):go (.fn kqf [a1.v,.int .i64 a2]) h =
 (go (.fn khj [a1.v,.int .i64 a2]) h).bind fun q3 =>
 ((some q3.1).bind (AV.asInt .i64)).bind fun n4 =>
 some (.bool (decide (n4≥0)),q3.2):=(kc _ h).trans (by kernel_rfl)
theorem k4o(a1:Sl)(h:AH):go (.fn kx [a1.v,.func (.func kcr) [] []]) h =
 go (.pt kx kbo [(0,a1.v),(1,.func (.func kcr) [] []),(7,.int .i64 (a1.len:Int)),(8,.int .i64 0)]) h:=(kc _ h).trans (by kernel_rfl)
theorem kr3(a1:Nat)(a2:Sl)(a3 a4:Int)(h:AH):go (.pt kgf kmo [(3,.map (some a1)),(7,a2.v),(8,.int .i64 a3),(9,.int .i64 a4)]) h =
 cond (decide (a4<a3)) (
 (idx a2.ref a2.len a4 1).bind fun r5 =>
 ((h.cell r5).bind (AV.asInt .i64)).bind fun n6 =>
 (mapPut h a1 .i64 n6 (.int .i64 a4)).bind fun h7 =>
 go (.pt kgf kmo [(3,.map (some a1)),(7,a2.v),(8,.int .i64 a3),(9,.int .i64 (IntKind.wrap .i64 (a4+1)))]) h7) (
 some (.map (some a1),h)):=(kc _ h).trans (by kernel_rfl)
theorem k4k(a1:Sl)(a2:Option Ref)(h:AH):go (.fn kx [a1.v,.func (.func kct) [] [.ptr a2]]) h =
 go (.pt kx kbo [(0,a1.v),(1,.func (.func kct) [] [.ptr a2]),(7,.int .i64 (a1.len:Int)),(8,.int .i64 0)]) h:=(kc _ h).trans (by kernel_rfl)
theorem kbag(a1:Sl)(h:AH):go (.fn kb6 [a1.v,.func (.func kbn) [] []]) h =
 (go (.fn kx [a1.v,.func (.func kbn) [] []]) h).bind fun q2 =>
 ((some q2.1).bind (AV.asInt .i64)).bind fun n3 =>
 some (.bool (decide (n3≥0)),q2.2):=(kc _ h).trans (by kernel_rfl)
theorem k2n(a1:Sl)(h:AH):go (.fn kda [a1.v,.func (.func kb3) [] []]) h =
 (go (.fn kbc [a1.v,.func (.func kb3) [] []]) h).bind fun q2 =>
 ((some q2.1).bind (AV.asInt .i64)).bind fun n3 =>
 some (.bool (decide (n3≥0)),q2.2):=(kc _ h).trans (by kernel_rfl)
theorem k5d(a1:Sl)(a2:Int)(h:AH):go (.fn kf1 [a1.v,.int .i64 a2]) h =
 go (.pt kf1 kj4 [(0,a1.v),(1,.int .i64 a2),(5,.int .i64 0)]) h:=(kc _ h).trans (by kernel_rfl)
theorem kbdv(a1:Ref)(a2 a3:Bool)(h:AH):go (.pt kf kj5 [(1,.ptr (some a1)),(4,.bool a2),(5,.bool a3)]) h =
 ((h.cell (a1.add 0)).bind (AV.asInt .i64)).bind fun n4 =>
 cond (decide (n4=1)) (
 go (.pt kf kjb [(1,.ptr (some a1)),(4,.bool a2),(5,.bool a3),(6,.bool true)]) h) (
 ((h.cell (a1.add 0)).bind (AV.asInt .i64)).bind fun n5 =>
 cond (decide (n5=3)) (
 go (.pt kf kjb [(1,.ptr (some a1)),(4,.bool a2),(5,.bool a3),(6,.bool true)]) h) (
 ((h.cell (a1.add 0)).bind (AV.asInt .i64)).bind fun n6 =>
 go (.pt kf kjb [(1,.ptr (some a1)),(4,.bool a2),(5,.bool a3),(6,.bool (decide (n6=5)))]) h)):=(kc _ h).trans (by kernel_rfl)
theorem kz3(a1 a2:Sl)(h:AH):go (.fn kll [a1.v,a2.v]) h =
 (go (.fn kif [a1.v]) h).bind fun q3 =>
 ((some q3.1).bind AV.asBool).bind fun b4 =>
 cond b4 (
 (go (.fn kni [a1.v]) q3.2).bind fun q5 =>
 ((some q5.1).bind AV.asSl).bind fun l6 =>
 (go (.fn km6 [a2.v,a1.v,l6.v]) q5.2).bind fun q7 =>
 ((some q7.1).bind AV.asBool).bind fun b8 =>
 some (.bool b8,q7.2)) (
 some (.bool false,q3.2)):=(kc _ h).trans (by kernel_rfl)
theorem k24(a1:Int)(a2:Option Ref)(h:AH):go (.fn kc5 [.int .i64 a1,.ptr a2]) h =
 cond (decide (a1<0)) (
 some (.bool true,h)) (
 a2.bind fun r3 =>
 ((h.cell r3).bind (AV.asInt .i64)).bind fun n4 =>
 some (.bool (decide (a1≥n4)),h)):=(kc _ h).trans (by kernel_rfl)
theorem kz8(a1:Option Ref)(a2:Int)(h:AH):go (.fn kfs [.ptr a1,.int .i64 a2]) h =
 cond (decide (a2<1)) (
 some (.tup [.int .i64 0,.int .i64 1],h)) (
 (go (.fn khc [.int .u64 (IntKind.wrap .u64 a2)]) h).bind fun q3 =>
 ((some q3.1).bind AV.asSl).bind fun l4 =>
 (go (.fn kqk [.ptr a1,l4.v]) q3.2).bind fun q5 =>
 (AV.asTup2 q5.1).bind fun p6 =>
 ((some p6.1).bind AV.asSl).bind fun l7 =>
 ((some p6.2).bind (AV.asInt .i64)).bind fun n8 =>
 (go (.fn ko6 [l7.v]) q5.2).bind fun q9 =>
 (AV.asTup2 q9.1).bind fun p10 =>
 ((some p10.1).bind (AV.asInt .u64)).bind fun n11 =>
 ((some p10.2).bind AV.asBool).bind fun b12 =>
 some (.tup [.int .i64 (IntKind.wrap .i64 n11),.int .i64 n8],q9.2)):=(kc _ h).trans (by kernel_rfl)
theorem kzf(a1:Sl)(a2:Option Ref)(h:AH):go (.fn kbq [a1.v,.ptr a2]) h =
 a2.bind fun r3 =>
 ((h.cell r3).bind AV.asSl).bind fun l4 =>
 (go (.fn kll [l4.v,a1.v]) h).bind fun q5 =>
 ((some q5.1).bind AV.asBool).bind fun b6 =>
 some (.bool (!b6),q5.2):=(kc _ h).trans (by kernel_rfl)
theorem kqq(a1 a2 a3 a4:Ref)(a5 a6 a7:Int)(h:AH):go (.pt kgo kmq [(2,.func (.func kef) [] []),(3,.ptr (some a1)),(4,.ptr (some a2)),(6,.ptr (some a3)),(8,.ptr (some a4)),(9,.int .i64 a5),(35,.int .i64 a6),(36,.int .i64 a7)]) h =
 cond (decide (a7<a6)) (
 ((h.cell (a4.add 1)).bind AV.asSl).bind fun l8 =>
 ((h.cell (a1.add 1)).bind AV.asSl).bind fun l9 =>
 (idx l9.ref l9.len a7 1).bind fun r10 =>
 ((h.cell r10).bind (AV.asInt .u64)).bind fun n11 =>
 ((h.cell (a2.add 1)).bind AV.asSl).bind fun l12 =>
 (idx l12.ref l12.len a7 1).bind fun r13 =>
 ((h.cell r13).bind (AV.asInt .u64)).bind fun n14 =>
 (go (.fn kef [.int .u64 n11,.int .u64 n14]) h).bind fun q15 =>
 ((some q15.1).bind (AV.asInt .u64)).bind fun n16 =>
 whenK (SameAt h q15.2 (a4.add 1) 1) (
 (idx l8.ref l8.len a7 1).bind fun r17 =>
 (q15.2.puts r17 [.int .u64 n16]).bind fun h18 =>
 go (.pt kgo kmq [(2,.func (.func kef) [] []),(3,.ptr (some a1)),(4,.ptr (some a2)),(6,.ptr (some a3)),(8,.ptr (some a4)),(9,.int .i64 a5),(35,.int .i64 a6),(36,.int .i64 (IntKind.wrap .i64 (a7+1)))]) h18)) (
 ((h.cell (a4.add 0)).bind (AV.asInt .i64)).bind fun n19 =>
 ((h.cell (a4.add 1)).bind AV.asSl).bind fun l20 =>
 (h.puts a3 [.int .i64 n19,l20.v]).bind fun h21 =>
 ((h21.cell (a3.add 0)).bind (AV.asInt .i64)).bind fun n22 =>
 ((h21.cell (a3.add 1)).bind AV.asSl).bind fun l23 =>
 some (.tup [.agg [.int .i64 n22,l23.v],.int .i64 a5],h21)):=(kc _ h).trans (by kernel_rfl)
theorem kbb8(a1:Sl)(a2:AV)(h:AH):go (.fn kdx [a1.v,a2]) h =
 newK h (.cells [a1.v] kco) fun h3r h3 =>
 go (.pt kdx ktz [(0,a1.v),(1,a2),(2,.ptr (some h3r)),(4,(⟨none,0,.is 0⟩:Sl).v),(6,a2)]) h3:=(kc _ h).trans (by kernel_rfl)
theorem ksm(a1:Sl)(a2 a3:Int)(h:AH):go (.pt kbc kb4 [(0,a1.v),(1,.func (.func kdm) [] []),(7,.int .i64 a2),(8,.int .i64 a3)]) h =
 cond (decide (a3<a2)) (
 (idx a1.ref a1.len a3 1).bind fun r4 =>
 ((h.cell r4).bind AV.asSl).bind fun l5 =>
 (go (.fn kdm [l5.v]) h).bind fun q6 =>
 ((some q6.1).bind AV.asBool).bind fun b7 =>
 cond b7 (
 some (.int .i64 a3,q6.2)) (
 go (.pt kbc kb4 [(0,a1.v),(1,.func (.func kdm) [] []),(7,.int .i64 a2),(8,.int .i64 (IntKind.wrap .i64 (a3+1)))]) q6.2)) (
 some (.int .i64 (-1),h)):=(kc _ h).trans (by kernel_rfl)
theorem k82(a1 a2 a3:Int)(h:AH):go (.pt kbi kmx [(0,.int .u64 a1),(1,.int .u64 a2),(2,.int .u64 a3)]) h =
 cond (decide (a3≤a1)) (
 (h.cell (.old ⟨Gl.math_bits_overflowError,0,none⟩)).bind fun v4 =>
 none) (
 cond (decide (a1=0)) (
 cond (decide (a3=0)) none (
 cond (decide (a3=0)) none (
 some (.tup [.int .u64 (IntKind.wrap .u64 (Int.tdiv a2 a3)),.int .u64 (Int.tmod a2 a3)],h)))) (
 (go (.fn klt [.int .u64 a3]) h).bind fun q5 =>
 ((some q5.1).bind (AV.asInt .i64)).bind fun n6 =>
 cond (decide ((IntKind.wrap .u64 n6)<0)) none (
 cond (decide ((IntKind.wrap .u64 n6)<0)) none (
 cond (decide ((IntKind.wrap .u64 (64-(IntKind.wrap .u64 n6)))<0)) none (
 cond (decide ((IntKind.wrap .u64 n6)<0)) none (
 cond (decide ((ishr .u64 (ishl .u64 a3 (IntKind.wrap .u64 n6)) 32)=0)) none (
 go (.pt kbi kiz [(2,.int .u64 (ishl .u64 a3 (IntKind.wrap .u64 n6))),(8,.int .u64 (IntKind.wrap .u64 n6)),(9,.int .u64 (ishr .u64 (ishl .u64 a3 (IntKind.wrap .u64 n6)) 32)),(10,.int .u64 (iand .u64 (ishl .u64 a3 (IntKind.wrap .u64 n6)) 4294967295)),(11,.int .u64 (ior .u64 (ishl .u64 a1 (IntKind.wrap .u64 n6)) (ishr .u64 a2 (IntKind.wrap .u64 (64-(IntKind.wrap .u64 n6)))))),(13,.int .u64 (ishr .u64 (ishl .u64 a2 (IntKind.wrap .u64 n6)) 32)),(14,.int .u64 (iand .u64 (ishl .u64 a2 (IntKind.wrap .u64 n6)) 4294967295)),(15,.int .u64 (IntKind.wrap .u64 (Int.tdiv (ior .u64 (ishl .u64 a1 (IntKind.wrap .u64 n6)) (ishr .u64 a2 (IntKind.wrap .u64 (64-(IntKind.wrap .u64 n6))))) (ishr .u64 (ishl .u64 a3 (IntKind.wrap .u64 n6)) 32)))),(16,.int .u64 (IntKind.wrap .u64 ((ior .u64 (ishl .u64 a1 (IntKind.wrap .u64 n6)) (ishr .u64 a2 (IntKind.wrap .u64 (64-(IntKind.wrap .u64 n6)))))-(IntKind.wrap .u64 ((IntKind.wrap .u64 (Int.tdiv (ior .u64 (ishl .u64 a1 (IntKind.wrap .u64 n6)) (ishr .u64 a2 (IntKind.wrap .u64 (64-(IntKind.wrap .u64 n6))))) (ishr .u64 (ishl .u64 a3 (IntKind.wrap .u64 n6)) 32)))*(ishr .u64 (ishl .u64 a3 (IntKind.wrap .u64 n6)) 32))))))]) q5.2))))))):=(kc _ h).trans (by kernel_rfl)
theorem kbbv(a1 a2 a3 a4 a5:Int)(h:AH):go (.pt kez kh1 [(2,.int .u64 a1),(3,.int .u64 a2),(4,.int .u64 a3),(11,.int .u64 a4),(12,.int .u64 a5)]) h =
 (go (.fn kk4 [.int .u64 a4,.int .u64 a3]) h).bind fun q6 =>
 (AV.asTup2 q6.1).bind fun p7 =>
 ((some p7.1).bind (AV.asInt .u64)).bind fun n8 =>
 ((some p7.2).bind (AV.asInt .u64)).bind fun n9 =>
 cond (decide (n8<a5)) (
 some (.int .u64 a4,q6.2)) (
 cond (decide (n8=a5)) (
 cond (decide (n9≤a1)) (
 some (.int .u64 a4,q6.2)) (
 cond (decide ((IntKind.wrap .u64 (a5+a2))<a5)) (
 some (.int .u64 (IntKind.wrap .u64 (a4-1)),q6.2)) (
 go (.pt kez kh1 [(2,.int .u64 a1),(3,.int .u64 a2),(4,.int .u64 a3),(11,.int .u64 (IntKind.wrap .u64 (a4-1))),(12,.int .u64 (IntKind.wrap .u64 (a5+a2)))]) q6.2))) (
 cond (decide ((IntKind.wrap .u64 (a5+a2))<a5)) (
 some (.int .u64 (IntKind.wrap .u64 (a4-1)),q6.2)) (
 go (.pt kez kh1 [(2,.int .u64 a1),(3,.int .u64 a2),(4,.int .u64 a3),(11,.int .u64 (IntKind.wrap .u64 (a4-1))),(12,.int .u64 (IntKind.wrap .u64 (a5+a2)))]) q6.2))):=(kc _ h).trans (by kernel_rfl)
theorem k3k(a1:Bool)(a2 a3 a4 a5 a6 a7 a8 a9:Int)(h:AH):go (.fn kmu [.agg [.bool a1,.int .i64 a2,.int .i64 a3,.int .i64 a4,.int .i64 a5,.int .i64 a6,.int .i64 a7],.int .i64 a8,.int .i64 a9]) h =
 newK h (.cells [.bool a1,.int .i64 a2,.int .i64 a3,.int .i64 a4,.int .i64 a5,.int .i64 a6,.int .i64 a7] kb7) fun h10r h10 =>
 newK h10 (.cells [.int .i64 a8] T.int) fun h11r h11 =>
 newK h11 (.cells [.int .i64 a9] T.int) fun h12r h12 =>
 newK h12 (.cells [.nilFunc] kbbn) fun h13r h13 =>
 (h13.puts h13r [.func (.func kfd) [] []]).bind fun h14 =>
 ((h14.cell (h10r.add 0)).bind AV.asBool).bind fun b15 =>
 cond b15 (
 (h14.cell h13r).bind fun v16 =>
 ((h14.cell (h10r.add 1)).bind (AV.asInt .i64)).bind fun n17 =>
 yieldK v16 [.int .i64 n17,.int .i64 (-1099511627776),.int .i64 1099511627776] (fun y19 =>
 (go (.round y19.1 y19.2) h14).bind fun q18 =>
 ((some q18.1).bind AV.asBool).bind fun b21 =>
 cond b21 (
 ((q18.2.cell (h10r.add 0)).bind AV.asBool).bind fun b22 =>
 ((q18.2.cell (h10r.add 1)).bind (AV.asInt .i64)).bind fun n23 =>
 ((q18.2.cell (h10r.add 2)).bind (AV.asInt .i64)).bind fun n24 =>
 ((q18.2.cell (h10r.add 3)).bind (AV.asInt .i64)).bind fun n25 =>
 ((q18.2.cell (h10r.add 4)).bind (AV.asInt .i64)).bind fun n26 =>
 ((q18.2.cell (h10r.add 5)).bind (AV.asInt .i64)).bind fun n27 =>
 ((q18.2.cell (h10r.add 6)).bind (AV.asInt .i64)).bind fun n28 =>
 ((q18.2.cell (h10r.add 1)).bind (AV.asInt .i64)).bind fun n29 =>
 some (.bool ((b22==true)&&((decide (n23=n29))&&((decide (n24=0))&&((decide (n25=0))&&((decide (n26=0))&&((decide (n27=0))&&((decide (n28=0))&&true))))))),q18.2)) (
 some (.bool false,q18.2))) (
 (callV Pg go v16 [.int .i64 n17,.int .i64 (-1099511627776),.int .i64 1099511627776] h14).bind fun q20 =>
 ((some q20.1).bind AV.asBool).bind fun b30 =>
 cond b30 (
 ((q20.2.cell (h10r.add 0)).bind AV.asBool).bind fun b31 =>
 ((q20.2.cell (h10r.add 1)).bind (AV.asInt .i64)).bind fun n32 =>
 ((q20.2.cell (h10r.add 2)).bind (AV.asInt .i64)).bind fun n33 =>
 ((q20.2.cell (h10r.add 3)).bind (AV.asInt .i64)).bind fun n34 =>
 ((q20.2.cell (h10r.add 4)).bind (AV.asInt .i64)).bind fun n35 =>
 ((q20.2.cell (h10r.add 5)).bind (AV.asInt .i64)).bind fun n36 =>
 ((q20.2.cell (h10r.add 6)).bind (AV.asInt .i64)).bind fun n37 =>
 ((q20.2.cell (h10r.add 1)).bind (AV.asInt .i64)).bind fun n38 =>
 some (.bool ((b31==true)&&((decide (n32=n38))&&((decide (n33=0))&&((decide (n34=0))&&((decide (n35=0))&&((decide (n36=0))&&((decide (n37=0))&&true))))))),q20.2)) (
 some (.bool false,q20.2)))) (
 ((h14.cell (h10r.add 1)).bind (AV.asInt .i64)).bind fun n39 =>
 cond (decide (n39=0)) (
 (h14.cell h13r).bind fun v40 =>
 ((h14.cell (h10r.add 2)).bind (AV.asInt .i64)).bind fun n41 =>
 yieldK v40 [.int .i64 n41,.int .i64 0,.int .i64 15] (fun y43 =>
 (go (.round y43.1 y43.2) h14).bind fun q42 =>
 ((some q42.1).bind AV.asBool).bind fun b45 =>
 cond b45 (
 (q42.2.cell h13r).bind fun v46 =>
 ((q42.2.cell (h10r.add 3)).bind (AV.asInt .i64)).bind fun n47 =>
 yieldK v46 [.int .i64 n47,.int .i64 0,.int .i64 1073741824] (fun y49 =>
 (go (.round y49.1 y49.2) q42.2).bind fun q48 =>
 ((some q48.1).bind AV.asBool).bind fun b51 =>
 cond b51 (
 (q48.2.cell h13r).bind fun v52 =>
 ((q48.2.cell (h10r.add 4)).bind (AV.asInt .i64)).bind fun n53 =>
 yieldK v52 [.int .i64 n53,.int .i64 0,.int .i64 31] (fun y55 =>
 (go (.round y55.1 y55.2) q48.2).bind fun q54 =>
 ((some q54.1).bind AV.asBool).bind fun b57 =>
 cond b57 (
 ((q54.2.cell (h10r.add 5)).bind (AV.asInt .i64)).bind fun n58 =>
 (go (.fn kbp [.int .i64 n58,.ptr (some h13r),.ptr (some h11r),.ptr (some h12r)]) q54.2).bind fun q59 =>
 ((some q59.1).bind AV.asBool).bind fun b60 =>
 cond b60 (
 ((q59.2.cell (h10r.add 6)).bind (AV.asInt .i64)).bind fun n61 =>
 (go (.fn kbp [.int .i64 n61,.ptr (some h13r),.ptr (some h11r),.ptr (some h12r)]) q59.2).bind fun q62 =>
 ((some q62.1).bind AV.asBool).bind fun b63 =>
 cond b63 (
 ((q62.2.cell (h10r.add 5)).bind (AV.asInt .i64)).bind fun n64 =>
 ((q62.2.cell (h10r.add 6)).bind (AV.asInt .i64)).bind fun n65 =>
 some (.bool (!decide (n64=n65)),q62.2)) (
 some (.bool false,q62.2))) (
 some (.bool false,q59.2))) (
 some (.bool false,q54.2))) (
 (callV Pg go v52 [.int .i64 n53,.int .i64 0,.int .i64 31] q48.2).bind fun q56 =>
 ((some q56.1).bind AV.asBool).bind fun b66 =>
 cond b66 (
 ((q56.2.cell (h10r.add 5)).bind (AV.asInt .i64)).bind fun n67 =>
 (go (.fn kbp [.int .i64 n67,.ptr (some h13r),.ptr (some h11r),.ptr (some h12r)]) q56.2).bind fun q68 =>
 ((some q68.1).bind AV.asBool).bind fun b69 =>
 cond b69 (
 ((q68.2.cell (h10r.add 6)).bind (AV.asInt .i64)).bind fun n70 =>
 (go (.fn kbp [.int .i64 n70,.ptr (some h13r),.ptr (some h11r),.ptr (some h12r)]) q68.2).bind fun q71 =>
 ((some q71.1).bind AV.asBool).bind fun b72 =>
 cond b72 (
 ((q71.2.cell (h10r.add 5)).bind (AV.asInt .i64)).bind fun n73 =>
 ((q71.2.cell (h10r.add 6)).bind (AV.asInt .i64)).bind fun n74 =>
 some (.bool (!decide (n73=n74)),q71.2)) (
 some (.bool false,q71.2))) (
 some (.bool false,q68.2))) (
 some (.bool false,q56.2)))) (
 some (.bool false,q48.2))) (
 (callV Pg go v46 [.int .i64 n47,.int .i64 0,.int .i64 1073741824] q42.2).bind fun q50 =>
 ((some q50.1).bind AV.asBool).bind fun b75 =>
 cond b75 (
 (q50.2.cell h13r).bind fun v76 =>
 ((q50.2.cell (h10r.add 4)).bind (AV.asInt .i64)).bind fun n77 =>
 yieldK v76 [.int .i64 n77,.int .i64 0,.int .i64 31] (fun y79 =>
 (go (.round y79.1 y79.2) q50.2).bind fun q78 =>
 ((some q78.1).bind AV.asBool).bind fun b81 =>
 cond b81 (
 ((q78.2.cell (h10r.add 5)).bind (AV.asInt .i64)).bind fun n82 =>
 (go (.fn kbp [.int .i64 n82,.ptr (some h13r),.ptr (some h11r),.ptr (some h12r)]) q78.2).bind fun q83 =>
 ((some q83.1).bind AV.asBool).bind fun b84 =>
 cond b84 (
 ((q83.2.cell (h10r.add 6)).bind (AV.asInt .i64)).bind fun n85 =>
 (go (.fn kbp [.int .i64 n85,.ptr (some h13r),.ptr (some h11r),.ptr (some h12r)]) q83.2).bind fun q86 =>
 ((some q86.1).bind AV.asBool).bind fun b87 =>
 cond b87 (
 ((q86.2.cell (h10r.add 5)).bind (AV.asInt .i64)).bind fun n88 =>
 ((q86.2.cell (h10r.add 6)).bind (AV.asInt .i64)).bind fun n89 =>
 some (.bool (!decide (n88=n89)),q86.2)) (
 some (.bool false,q86.2))) (
 some (.bool false,q83.2))) (
 some (.bool false,q78.2))) (
 (callV Pg go v76 [.int .i64 n77,.int .i64 0,.int .i64 31] q50.2).bind fun q80 =>
 ((some q80.1).bind AV.asBool).bind fun b90 =>
 cond b90 (
 ((q80.2.cell (h10r.add 5)).bind (AV.asInt .i64)).bind fun n91 =>
 (go (.fn kbp [.int .i64 n91,.ptr (some h13r),.ptr (some h11r),.ptr (some h12r)]) q80.2).bind fun q92 =>
 ((some q92.1).bind AV.asBool).bind fun b93 =>
 cond b93 (
 ((q92.2.cell (h10r.add 6)).bind (AV.asInt .i64)).bind fun n94 =>
 (go (.fn kbp [.int .i64 n94,.ptr (some h13r),.ptr (some h11r),.ptr (some h12r)]) q92.2).bind fun q95 =>
 ((some q95.1).bind AV.asBool).bind fun b96 =>
 cond b96 (
 ((q95.2.cell (h10r.add 5)).bind (AV.asInt .i64)).bind fun n97 =>
 ((q95.2.cell (h10r.add 6)).bind (AV.asInt .i64)).bind fun n98 =>
 some (.bool (!decide (n97=n98)),q95.2)) (
 some (.bool false,q95.2))) (
 some (.bool false,q92.2))) (
 some (.bool false,q80.2)))) (
 some (.bool false,q50.2)))) (
 some (.bool false,q42.2))) (
 (callV Pg go v40 [.int .i64 n41,.int .i64 0,.int .i64 15] h14).bind fun q44 =>
 ((some q44.1).bind AV.asBool).bind fun b99 =>
 cond b99 (
 (q44.2.cell h13r).bind fun v100 =>
 ((q44.2.cell (h10r.add 3)).bind (AV.asInt .i64)).bind fun n101 =>
 yieldK v100 [.int .i64 n101,.int .i64 0,.int .i64 1073741824] (fun y103 =>
 (go (.round y103.1 y103.2) q44.2).bind fun q102 =>
 ((some q102.1).bind AV.asBool).bind fun b105 =>
 cond b105 (
 (q102.2.cell h13r).bind fun v106 =>
 ((q102.2.cell (h10r.add 4)).bind (AV.asInt .i64)).bind fun n107 =>
 yieldK v106 [.int .i64 n107,.int .i64 0,.int .i64 31] (fun y109 =>
 (go (.round y109.1 y109.2) q102.2).bind fun q108 =>
 ((some q108.1).bind AV.asBool).bind fun b111 =>
 cond b111 (
 ((q108.2.cell (h10r.add 5)).bind (AV.asInt .i64)).bind fun n112 =>
 (go (.fn kbp [.int .i64 n112,.ptr (some h13r),.ptr (some h11r),.ptr (some h12r)]) q108.2).bind fun q113 =>
 ((some q113.1).bind AV.asBool).bind fun b114 =>
 cond b114 (
 ((q113.2.cell (h10r.add 6)).bind (AV.asInt .i64)).bind fun n115 =>
 (go (.fn kbp [.int .i64 n115,.ptr (some h13r),.ptr (some h11r),.ptr (some h12r)]) q113.2).bind fun q116 =>
 ((some q116.1).bind AV.asBool).bind fun b117 =>
 cond b117 (
 ((q116.2.cell (h10r.add 5)).bind (AV.asInt .i64)).bind fun n118 =>
 ((q116.2.cell (h10r.add 6)).bind (AV.asInt .i64)).bind fun n119 =>
 some (.bool (!decide (n118=n119)),q116.2)) (
 some (.bool false,q116.2))) (
 some (.bool false,q113.2))) (
 some (.bool false,q108.2))) (
 (callV Pg go v106 [.int .i64 n107,.int .i64 0,.int .i64 31] q102.2).bind fun q110 =>
 ((some q110.1).bind AV.asBool).bind fun b120 =>
 cond b120 (
 ((q110.2.cell (h10r.add 5)).bind (AV.asInt .i64)).bind fun n121 =>
 (go (.fn kbp [.int .i64 n121,.ptr (some h13r),.ptr (some h11r),.ptr (some h12r)]) q110.2).bind fun q122 =>
 ((some q122.1).bind AV.asBool).bind fun b123 =>
 cond b123 (
 ((q122.2.cell (h10r.add 6)).bind (AV.asInt .i64)).bind fun n124 =>
 (go (.fn kbp [.int .i64 n124,.ptr (some h13r),.ptr (some h11r),.ptr (some h12r)]) q122.2).bind fun q125 =>
 ((some q125.1).bind AV.asBool).bind fun b126 =>
 cond b126 (
 ((q125.2.cell (h10r.add 5)).bind (AV.asInt .i64)).bind fun n127 =>
 ((q125.2.cell (h10r.add 6)).bind (AV.asInt .i64)).bind fun n128 =>
 some (.bool (!decide (n127=n128)),q125.2)) (
 some (.bool false,q125.2))) (
 some (.bool false,q122.2))) (
 some (.bool false,q110.2)))) (
 some (.bool false,q102.2))) (
 (callV Pg go v100 [.int .i64 n101,.int .i64 0,.int .i64 1073741824] q44.2).bind fun q104 =>
 ((some q104.1).bind AV.asBool).bind fun b129 =>
 cond b129 (
 (q104.2.cell h13r).bind fun v130 =>
 ((q104.2.cell (h10r.add 4)).bind (AV.asInt .i64)).bind fun n131 =>
 yieldK v130 [.int .i64 n131,.int .i64 0,.int .i64 31] (fun y133 =>
 (go (.round y133.1 y133.2) q104.2).bind fun q132 =>
 ((some q132.1).bind AV.asBool).bind fun b135 =>
 cond b135 (
 ((q132.2.cell (h10r.add 5)).bind (AV.asInt .i64)).bind fun n136 =>
 (go (.fn kbp [.int .i64 n136,.ptr (some h13r),.ptr (some h11r),.ptr (some h12r)]) q132.2).bind fun q137 =>
 ((some q137.1).bind AV.asBool).bind fun b138 =>
 cond b138 (
 ((q137.2.cell (h10r.add 6)).bind (AV.asInt .i64)).bind fun n139 =>
 (go (.fn kbp [.int .i64 n139,.ptr (some h13r),.ptr (some h11r),.ptr (some h12r)]) q137.2).bind fun q140 =>
 ((some q140.1).bind AV.asBool).bind fun b141 =>
 cond b141 (
 ((q140.2.cell (h10r.add 5)).bind (AV.asInt .i64)).bind fun n142 =>
 ((q140.2.cell (h10r.add 6)).bind (AV.asInt .i64)).bind fun n143 =>
 some (.bool (!decide (n142=n143)),q140.2)) (
 some (.bool false,q140.2))) (
 some (.bool false,q137.2))) (
 some (.bool false,q132.2))) (
 (callV Pg go v130 [.int .i64 n131,.int .i64 0,.int .i64 31] q104.2).bind fun q134 =>
 ((some q134.1).bind AV.asBool).bind fun b144 =>
 cond b144 (
 ((q134.2.cell (h10r.add 5)).bind (AV.asInt .i64)).bind fun n145 =>
 (go (.fn kbp [.int .i64 n145,.ptr (some h13r),.ptr (some h11r),.ptr (some h12r)]) q134.2).bind fun q146 =>
 ((some q146.1).bind AV.asBool).bind fun b147 =>
 cond b147 (
 ((q146.2.cell (h10r.add 6)).bind (AV.asInt .i64)).bind fun n148 =>
 (go (.fn kbp [.int .i64 n148,.ptr (some h13r),.ptr (some h11r),.ptr (some h12r)]) q146.2).bind fun q149 =>
 ((some q149.1).bind AV.asBool).bind fun b150 =>
 cond b150 (
 ((q149.2.cell (h10r.add 5)).bind (AV.asInt .i64)).bind fun n151 =>
 ((q149.2.cell (h10r.add 6)).bind (AV.asInt .i64)).bind fun n152 =>
 some (.bool (!decide (n151=n152)),q149.2)) (
 some (.bool false,q149.2))) (
 some (.bool false,q146.2))) (
 some (.bool false,q134.2)))) (
 some (.bool false,q104.2)))) (
 some (.bool false,q44.2)))) (
 some (.bool false,h14))):=(kc _ h).trans (by kernel_rfl)
theorem ktl(a1:Sl)(a2 a3:Option Ref)(a4 a5:Int)(h:AH):go (.pt khi klw [(0,a1.v),(1,.func (.func kb0) [] [.ptr a2,.ptr a3]),(7,.int .i64 a4),(8,.int .i64 a5)]) h =
 cond (decide (a5<a4)) (
 (idx a1.ref a1.len a5 7).bind fun r6 =>
 ((h.cell (r6.add 0)).bind AV.asBool).bind fun b7 =>
 ((h.cell (r6.add 1)).bind (AV.asInt .i64)).bind fun n8 =>
 ((h.cell (r6.add 2)).bind (AV.asInt .i64)).bind fun n9 =>
 ((h.cell (r6.add 3)).bind (AV.asInt .i64)).bind fun n10 =>
 ((h.cell (r6.add 4)).bind (AV.asInt .i64)).bind fun n11 =>
 ((h.cell (r6.add 5)).bind (AV.asInt .i64)).bind fun n12 =>
 ((h.cell (r6.add 6)).bind (AV.asInt .i64)).bind fun n13 =>
 (go (.fn kb0 [.agg [.bool b7,.int .i64 n8,.int .i64 n9,.int .i64 n10,.int .i64 n11,.int .i64 n12,.int .i64 n13],.ptr a2,.ptr a3]) h).bind fun q14 =>
 ((some q14.1).bind AV.asBool).bind fun b15 =>
 cond b15 (
 some (.int .i64 a5,q14.2)) (
 go (.pt khi klw [(0,a1.v),(1,.func (.func kb0) [] [.ptr a2,.ptr a3]),(7,.int .i64 a4),(8,.int .i64 (IntKind.wrap .i64 (a5+1)))]) q14.2)) (
 some (.int .i64 (-1),h)):=(kc _ h).trans (by kernel_rfl)
theorem k7y(a1:Option Ref)(h:AH):go (.fn knn [.ptr a1]) h =
 newK h (.cells [.bool false,.int .i64 0,.int .i64 0,.int .i64 0,.int .i64 0,.int .i64 0,.int .i64 0] kb7) fun h2r h2 =>
 a1.bind fun r3 =>
 ((h2.cell (r3.add 0)).bind AV.asSl).bind fun l4 =>
 a1.bind fun r5 =>
 (idx (some (r5.add 4)) 3 1 1).bind fun r6 =>
 ((h2.cell r6).bind (AV.asInt .i64)).bind fun n7 =>
 (idx l4.ref l4.len n7 1).bind fun r8 =>
 ((h2.cell (r8.add 0)).bind AV.asSl).bind fun l9 =>
 a1.bind fun r10 =>
 (idx (some (r10.add 4)) 3 2 1).bind fun r11 =>
 ((h2.cell r11).bind (AV.asInt .i64)).bind fun n12 =>
 (idx l9.ref l9.len n12 7).bind fun r13 =>
 ((h2.cell (r13.add 0)).bind AV.asBool).bind fun b14 =>
 ((h2.cell (r13.add 1)).bind (AV.asInt .i64)).bind fun n15 =>
 ((h2.cell (r13.add 2)).bind (AV.asInt .i64)).bind fun n16 =>
 ((h2.cell (r13.add 3)).bind (AV.asInt .i64)).bind fun n17 =>
 ((h2.cell (r13.add 4)).bind (AV.asInt .i64)).bind fun n18 =>
 ((h2.cell (r13.add 5)).bind (AV.asInt .i64)).bind fun n19 =>
 ((h2.cell (r13.add 6)).bind (AV.asInt .i64)).bind fun n20 =>
 (h2.puts h2r [.bool b14,.int .i64 n15,.int .i64 n16,.int .i64 n17,.int .i64 n18,.int .i64 n19,.int .i64 n20]).bind fun h21 =>
 ((h21.cell (h2r.add 0)).bind AV.asBool).bind fun b22 =>
 ((h21.cell (h2r.add 1)).bind (AV.asInt .i64)).bind fun n23 =>
 ((h21.cell (h2r.add 2)).bind (AV.asInt .i64)).bind fun n24 =>
 ((h21.cell (h2r.add 3)).bind (AV.asInt .i64)).bind fun n25 =>
 ((h21.cell (h2r.add 4)).bind (AV.asInt .i64)).bind fun n26 =>
 ((h21.cell (h2r.add 5)).bind (AV.asInt .i64)).bind fun n27 =>
 ((h21.cell (h2r.add 6)).bind (AV.asInt .i64)).bind fun n28 =>
 some (.agg [.bool b22,.int .i64 n23,.int .i64 n24,.int .i64 n25,.int .i64 n26,.int .i64 n27,.int .i64 n28],h21):=(kc _ h).trans (by kernel_rfl)
theorem k1t(a1:Bool)(a2 a3 a4 a5 a6 a7:Int)(a8:Bool)(h:AH):go (.fn klc [.agg [.bool a1,.int .i64 a2,.int .i64 a3,.int .i64 a4,.int .i64 a5,.int .i64 a6,.int .i64 a7],.bool a8]) h =
 newK h (.cells [.bool a1,.int .i64 a2,.int .i64 a3,.int .i64 a4,.int .i64 a5,.int .i64 a6,.int .i64 a7] kb7) fun h9r h9 =>
 cond a8 (
 ((h9.cell (h9r.add 5)).bind (AV.asInt .i64)).bind fun n10 =>
 some (.int .i64 n10,h9)) (
 ((h9.cell (h9r.add 6)).bind (AV.asInt .i64)).bind fun n11 =>
 some (.int .i64 n11,h9)):=(kc _ h).trans (by kernel_rfl)
theorem kv4(a1:Sl)(a2 a3:Int)(h:AH):go (.pt kx kbo [(0,a1.v),(1,.func (.func kcs) [] []),(7,.int .i64 a2),(8,.int .i64 a3)]) h =
 cond (decide (a3<a2)) (
 (idx a1.ref a1.len a3 1).bind fun r4 =>
 ((h.cell r4).bind (AV.asInt .i64)).bind fun n5 =>
 (go (.fn kcs [.int .i64 n5]) h).bind fun q6 =>
 ((some q6.1).bind AV.asBool).bind fun b7 =>
 cond b7 (
 some (.int .i64 a3,q6.2)) (
 go (.pt kx kbo [(0,a1.v),(1,.func (.func kcs) [] []),(7,.int .i64 a2),(8,.int .i64 (IntKind.wrap .i64 (a3+1)))]) q6.2)) (
 some (.int .i64 (-1),h)):=(kc _ h).trans (by kernel_rfl)
theorem kyu(a1:Sl)(a2:Int)(h:AH):go (.fn khj [a1.v,.int .i64 a2]) h =
 go (.pt khj kkb [(0,a1.v),(1,.int .i64 a2),(7,.int .i64 (a1.len:Int)),(8,.int .i64 0)]) h:=(kc _ h).trans (by kernel_rfl)
theorem kr8(a1:Sl)(a2 a3:Int)(h:AH):go (.pt kx kbo [(0,a1.v),(1,.func (.func kcr) [] []),(7,.int .i64 a2),(8,.int .i64 a3)]) h =
 cond (decide (a3<a2)) (
 (idx a1.ref a1.len a3 1).bind fun r4 =>
 ((h.cell r4).bind (AV.asInt .i64)).bind fun n5 =>
 (go (.fn kcr [.int .i64 n5]) h).bind fun q6 =>
 ((some q6.1).bind AV.asBool).bind fun b7 =>
 cond b7 (
 some (.int .i64 a3,q6.2)) (
 go (.pt kx kbo [(0,a1.v),(1,.func (.func kcr) [] []),(7,.int .i64 a2),(8,.int .i64 (IntKind.wrap .i64 (a3+1)))]) q6.2)) (
 some (.int .i64 (-1),h)):=(kc _ h).trans (by kernel_rfl)
theorem krd(a1:Sl)(a2:Option Ref)(a3 a4:Int)(h:AH):go (.pt kx kbo [(0,a1.v),(1,.func (.func kct) [] [.ptr a2]),(7,.int .i64 a3),(8,.int .i64 a4)]) h =
 cond (decide (a4<a3)) (
 (idx a1.ref a1.len a4 1).bind fun r5 =>
 ((h.cell r5).bind (AV.asInt .i64)).bind fun n6 =>
 (go (.fn kct [.int .i64 n6,.ptr a2]) h).bind fun q7 =>
 ((some q7.1).bind AV.asBool).bind fun b8 =>
 cond b8 (
 some (.int .i64 a4,q7.2)) (
 go (.pt kx kbo [(0,a1.v),(1,.func (.func kct) [] [.ptr a2]),(7,.int .i64 a3),(8,.int .i64 (IntKind.wrap .i64 (a4+1)))]) q7.2)) (
 some (.int .i64 (-1),h)):=(kc _ h).trans (by kernel_rfl)
theorem kxv(a1:Sl)(h:AH):go (.fn kx [a1.v,.func (.func kbn) [] []]) h =
 go (.pt kx kbo [(0,a1.v),(1,.func (.func kbn) [] []),(7,.int .i64 (a1.len:Int)),(8,.int .i64 0)]) h:=(kc _ h).trans (by kernel_rfl)
theorem kyb(a1:Sl)(h:AH):go (.fn kbc [a1.v,.func (.func kb3) [] []]) h =
 go (.pt kbc kb4 [(0,a1.v),(1,.func (.func kb3) [] []),(7,.int .i64 (a1.len:Int)),(8,.int .i64 0)]) h:=(kc _ h).trans (by kernel_rfl)
theorem kt9(a1:Sl)(a2 a3:Int)(h:AH):go (.pt kf1 kj4 [(0,a1.v),(1,.int .i64 a2),(5,.int .i64 a3)]) h =
 cond (decide (a3<(a1.len:Int))) (
 (idx a1.ref a1.len a3 1).bind fun r4 =>
 ((h.cell r4).bind (AV.asInt .i64)).bind fun n5 =>
 cond (decide (n5=a2)) (
 some (.int .i64 a3,h)) (
 go (.pt kf1 kj4 [(0,a1.v),(1,.int .i64 a2),(5,.int .i64 (IntKind.wrap .i64 (a3+1)))]) h)) (
 some (.int .i64 (-1),h)):=(kc _ h).trans (by kernel_rfl)
theorem k9m(a1:Ref)(a2 a3 a4:Bool)(h:AH):go (.pt kf kjb [(1,.ptr (some a1)),(4,.bool a2),(5,.bool a3),(6,.bool a4)]) h =
 cond (!a2) (
 ((h.cell (a1.add 4)).bind AV.asSl).bind fun l5 =>
 cond (decide ((l5.len:Int)>0)) (
 some (.bool false,h)) (
 cond (!a3) (
 ((h.cell (a1.add 5)).bind AV.asSl).bind fun l6 =>
 cond (decide ((l6.len:Int)>0)) (
 some (.bool false,h)) (
 cond (!a4) (
 ((h.cell (a1.add 6)).bind AV.asSl).bind fun l7 =>
 cond (decide ((l7.len:Int)>0)) (
 some (.bool false,h)) (
 go (.pt kf kdl [(1,.ptr (some a1))]) h)) (
 go (.pt kf kdl [(1,.ptr (some a1))]) h))) (
 cond (!a4) (
 ((h.cell (a1.add 6)).bind AV.asSl).bind fun l8 =>
 cond (decide ((l8.len:Int)>0)) (
 some (.bool false,h)) (
 go (.pt kf kdl [(1,.ptr (some a1))]) h)) (
 go (.pt kf kdl [(1,.ptr (some a1))]) h)))) (
 cond (!a3) (
 ((h.cell (a1.add 5)).bind AV.asSl).bind fun l9 =>
 cond (decide ((l9.len:Int)>0)) (
 some (.bool false,h)) (
 cond (!a4) (
 ((h.cell (a1.add 6)).bind AV.asSl).bind fun l10 =>
 cond (decide ((l10.len:Int)>0)) (
 some (.bool false,h)) (
 go (.pt kf kdl [(1,.ptr (some a1))]) h)) (
 go (.pt kf kdl [(1,.ptr (some a1))]) h))) (
 cond (!a4) (
 ((h.cell (a1.add 6)).bind AV.asSl).bind fun l11 =>
 cond (decide ((l11.len:Int)>0)) (
 some (.bool false,h)) (
 go (.pt kf kdl [(1,.ptr (some a1))]) h)) (
 go (.pt kf kdl [(1,.ptr (some a1))]) h))):=(kc _ h).trans (by kernel_rfl)
theorem k9d(a1:Sl)(h:AH):go (.fn kni [a1.v]) h =
 (go (.fn kib [a1.v,a1.v]) h).bind fun q2 =>
 (AV.asTup2 q2.1).bind fun p3 =>
 ((some p3.1).bind AV.asSl).bind fun l4 =>
 ((some p3.2).bind (AV.asInt .i64)).bind fun n5 =>
 some (l4.v,q2.2):=(kc _ h).trans (by kernel_rfl)
theorem k0x(a1 a2 a3:Sl)(h:AH):go (.fn km6 [a1.v,a2.v,a3.v]) h =
 (go (.fn kc7 [a1.v]) h).bind fun q4 =>
 ((some q4.1).bind AV.asBool).bind fun b5 =>
 cond (!b5) (
 some (.bool false,q4.2)) (
 cond (decide ((a1.len:Int)=0)) (
 some (.bool false,q4.2)) (
 (go (.fn kfa [a1.v,a3.v]) q4.2).bind fun q6 =>
 ((some q6.1).bind (AV.asInt .i64)).bind fun n7 =>
 cond (decide (n7≥0)) (
 some (.bool false,q6.2)) (
 (go (.fn kff [a1.v,a2.v]) q6.2).bind fun q8 =>
 (AV.asTup2 q8.1).bind fun p9 =>
 ((some p9.1).bind AV.asSl).bind fun l10 =>
 ((some p9.2).bind (AV.asInt .i64)).bind fun n11 =>
 newK q8.2 (.cells [.int .u64 1] ke) fun h12r h12 =>
 (go (.fn kfa [l10.v,(⟨some h12r,1,.is 1⟩:Sl).v]) h12).bind fun q13 =>
 ((some q13.1).bind (AV.asInt .i64)).bind fun n14 =>
 some (.bool (decide (n14=0)),q13.2)))):=(kc _ h).trans (by kernel_rfl)
theorem k3g(a1:Option Ref)(a2:Sl)(h:AH):go (.fn kqk [.ptr a1,a2.v]) h =
 (go (.fn kc7 [a2.v]) h).bind fun q3 =>
 ((some q3.1).bind AV.asBool).bind fun b4 =>
 cond (!b4) (
 some (.tup [(⟨none,0,.is 0⟩:Sl).v,.int .i64 1],q3.2)) (
 cond (decide ((a2.len:Int)=0)) (
 some (.tup [(⟨none,0,.is 0⟩:Sl).v,.int .i64 1],q3.2)) (
 newK q3.2 (.cells [.int .u64 1] ke) fun h5r h5 =>
 (go (.fn kqg [a2.v,(⟨some h5r,1,.is 1⟩:Sl).v]) h5).bind fun q6 =>
 (AV.asTup2 q6.1).bind fun p7 =>
 ((some p7.1).bind AV.asSl).bind fun l8 =>
 ((some p7.2).bind (AV.asInt .i64)).bind fun n9 =>
 cond (decide ((l8.len:Int)=0)) (
 some (.tup [(⟨none,0,.is 0⟩:Sl).v,.int .i64 0],q6.2)) (
 (go (.fn kg9 [l8.v]) q6.2).bind fun q10 =>
 ((some q10.1).bind (AV.asInt .i64)).bind fun n11 =>
 (go (.fn kee [.func (.func kcq) [.ptr a1] [],.int .i64 n11,a2.v]) q10.2).bind fun q12 =>
 (AV.asTup2 q12.1).bind fun p13 =>
 ((some p13.1).bind AV.asSl).bind fun l14 =>
 ((some p13.2).bind (AV.asInt .i64)).bind fun n15 =>
 some (.tup [l14.v,.int .i64 n15],q12.2)))):=(kc _ h).trans (by kernel_rfl)
theorem kxx(a1:Sl)(h:AH):go (.fn ko6 [a1.v]) h =
 (go (.fn kc7 [a1.v]) h).bind fun q2 =>
 ((some q2.1).bind AV.asBool).bind fun b3 =>
 cond (!b3) (
 some (.tup [.int .u64 0,.bool false],q2.2)) (
 cond (decide ((a1.len:Int)>1)) (
 some (.tup [.int .u64 0,.bool false],q2.2)) (
 cond (decide ((a1.len:Int)=0)) (
 some (.tup [.int .u64 0,.bool true],q2.2)) (
 (idx a1.ref a1.len 0 1).bind fun r4 =>
 ((q2.2.cell r4).bind (AV.asInt .u64)).bind fun n5 =>
 some (.tup [.int .u64 n5,.bool true],q2.2)))):=(kc _ h).trans (by kernel_rfl)
theorem k0y(a1 a2:Int)(h:AH):go (.fn kef [.int .u64 a1,.int .u64 a2]) h =
 some (.int .u64 (iand .u64 a1 a2),h):=(kc _ h).trans (by kernel_rfl)
theorem k02(a1:Sl)(a2:AV)(a3:Ref)(a4:Sl)(a5:AV)(h:AH):go (.pt kdx ktz [(0,a1.v),(1,a2),(2,.ptr (some a3)),(4,a4.v),(6,a5)]) h =
 funcK a5 fun g10 f11 c12 =>
 newM h (kd5 kox kdx 0 .ready none [(0,a1.v),(1,a2),(2,.ptr (some a3)),(4,a4.v),(6,a5)]) fun m6 h7 =>
 (callF Pg go g10 (f11++[.func (.yield m6) [] []]++c12) h7).bind fun q8 =>
 (ke5 m6 q8.2).bind fun p9 =>
 go (.pt kdx ((p9.1.map Item.code).toList++ku8) [(0,a1.v),(1,a2),(2,.ptr (some a3)),(4,a4.v),(6,a5)]) p9.2:=(kc _ h).trans (by kernel_rfl)
theorem kbc5(a1:Sl)(h:AH):go (.fn kdm [a1.v]) h =
 (go (.fn kc7 [a1.v]) h).bind fun q2 =>
 ((some q2.1).bind AV.asBool).bind fun b3 =>
 some (.bool (!b3),q2.2):=(kc _ h).trans (by kernel_rfl)
theorem kbcy(a1 a2 a3 a4 a5 a6 a7 a8 a9:Int)(h:AH):go (.pt kbi kiz [(2,.int .u64 a1),(8,.int .u64 a2),(9,.int .u64 a3),(10,.int .u64 a4),(11,.int .u64 a5),(13,.int .u64 a6),(14,.int .u64 a7),(15,.int .u64 a8),(16,.int .u64 a9)]) h =
 cond (decide (a8≥4294967296)) (
 cond (decide ((IntKind.wrap .u64 (a9+a3))≥4294967296)) (
 cond (decide (a3=0)) none (
 go (.pt kbi kga [(2,.int .u64 a1),(8,.int .u64 a2),(9,.int .u64 a3),(10,.int .u64 a4),(14,.int .u64 a7),(15,.int .u64 (IntKind.wrap .u64 (a8-1))),(16,.int .u64 (IntKind.wrap .u64 ((IntKind.wrap .u64 ((IntKind.wrap .u64 ((IntKind.wrap .u64 (a5*4294967296))+a6))-(IntKind.wrap .u64 ((IntKind.wrap .u64 (a8-1))*a1))))-(IntKind.wrap .u64 ((IntKind.wrap .u64 (Int.tdiv (IntKind.wrap .u64 ((IntKind.wrap .u64 ((IntKind.wrap .u64 (a5*4294967296))+a6))-(IntKind.wrap .u64 ((IntKind.wrap .u64 (a8-1))*a1)))) a3))*a3))))),(17,.int .u64 (IntKind.wrap .u64 ((IntKind.wrap .u64 ((IntKind.wrap .u64 (a5*4294967296))+a6))-(IntKind.wrap .u64 ((IntKind.wrap .u64 (a8-1))*a1))))),(18,.int .u64 (IntKind.wrap .u64 (Int.tdiv (IntKind.wrap .u64 ((IntKind.wrap .u64 ((IntKind.wrap .u64 (a5*4294967296))+a6))-(IntKind.wrap .u64 ((IntKind.wrap .u64 (a8-1))*a1)))) a3)))]) h)) (
 go (.pt kbi kiz [(2,.int .u64 a1),(8,.int .u64 a2),(9,.int .u64 a3),(10,.int .u64 a4),(11,.int .u64 a5),(13,.int .u64 a6),(14,.int .u64 a7),(15,.int .u64 (IntKind.wrap .u64 (a8-1))),(16,.int .u64 (IntKind.wrap .u64 (a9+a3)))]) h)) (
 cond (decide ((IntKind.wrap .u64 (a8*a4))>(IntKind.wrap .u64 ((IntKind.wrap .u64 (4294967296*a9))+a6)))) (
 cond (decide ((IntKind.wrap .u64 (a9+a3))≥4294967296)) (
 cond (decide (a3=0)) none (
 go (.pt kbi kga [(2,.int .u64 a1),(8,.int .u64 a2),(9,.int .u64 a3),(10,.int .u64 a4),(14,.int .u64 a7),(15,.int .u64 (IntKind.wrap .u64 (a8-1))),(16,.int .u64 (IntKind.wrap .u64 ((IntKind.wrap .u64 ((IntKind.wrap .u64 ((IntKind.wrap .u64 (a5*4294967296))+a6))-(IntKind.wrap .u64 ((IntKind.wrap .u64 (a8-1))*a1))))-(IntKind.wrap .u64 ((IntKind.wrap .u64 (Int.tdiv (IntKind.wrap .u64 ((IntKind.wrap .u64 ((IntKind.wrap .u64 (a5*4294967296))+a6))-(IntKind.wrap .u64 ((IntKind.wrap .u64 (a8-1))*a1)))) a3))*a3))))),(17,.int .u64 (IntKind.wrap .u64 ((IntKind.wrap .u64 ((IntKind.wrap .u64 (a5*4294967296))+a6))-(IntKind.wrap .u64 ((IntKind.wrap .u64 (a8-1))*a1))))),(18,.int .u64 (IntKind.wrap .u64 (Int.tdiv (IntKind.wrap .u64 ((IntKind.wrap .u64 ((IntKind.wrap .u64 (a5*4294967296))+a6))-(IntKind.wrap .u64 ((IntKind.wrap .u64 (a8-1))*a1)))) a3)))]) h)) (
 go (.pt kbi kiz [(2,.int .u64 a1),(8,.int .u64 a2),(9,.int .u64 a3),(10,.int .u64 a4),(11,.int .u64 a5),(13,.int .u64 a6),(14,.int .u64 a7),(15,.int .u64 (IntKind.wrap .u64 (a8-1))),(16,.int .u64 (IntKind.wrap .u64 (a9+a3)))]) h)) (
 cond (decide (a3=0)) none (
 go (.pt kbi kga [(2,.int .u64 a1),(8,.int .u64 a2),(9,.int .u64 a3),(10,.int .u64 a4),(14,.int .u64 a7),(15,.int .u64 a8),(16,.int .u64 (IntKind.wrap .u64 ((IntKind.wrap .u64 ((IntKind.wrap .u64 ((IntKind.wrap .u64 (a5*4294967296))+a6))-(IntKind.wrap .u64 (a8*a1))))-(IntKind.wrap .u64 ((IntKind.wrap .u64 (Int.tdiv (IntKind.wrap .u64 ((IntKind.wrap .u64 ((IntKind.wrap .u64 (a5*4294967296))+a6))-(IntKind.wrap .u64 (a8*a1)))) a3))*a3))))),(17,.int .u64 (IntKind.wrap .u64 ((IntKind.wrap .u64 ((IntKind.wrap .u64 (a5*4294967296))+a6))-(IntKind.wrap .u64 (a8*a1))))),(18,.int .u64 (IntKind.wrap .u64 (Int.tdiv (IntKind.wrap .u64 ((IntKind.wrap .u64 ((IntKind.wrap .u64 (a5*4294967296))+a6))-(IntKind.wrap .u64 (a8*a1)))) a3)))]) h))):=(kc _ h).trans (by kernel_rfl)
theorem kbbk(a1:Int)(a2 a3 a4:Ref)(h:AH):go (.fn kbp [.int .i64 a1,.ptr (some a2),.ptr (some a3),.ptr (some a4)]) h =
 (h.cell a2).bind fun v5 =>
 ((h.cell a3).bind (AV.asInt .i64)).bind fun n6 =>
 ((h.cell a4).bind (AV.asInt .i64)).bind fun n7 =>
 yieldK v5 [.int .i64 a1,.int .i64 (IntKind.wrap .i64 (n6+1)),.int .i64 (IntKind.wrap .i64 (n7-1))] (fun y9 =>
 (go (.round y9.1 y9.2) h).bind fun q8 =>
 ((some q8.1).bind AV.asBool).bind fun b11 =>
 some (.bool b11,q8.2)) (
 (callV Pg go v5 [.int .i64 a1,.int .i64 (IntKind.wrap .i64 (n6+1)),.int .i64 (IntKind.wrap .i64 (n7-1))] h).bind fun q10 =>
 ((some q10.1).bind AV.asBool).bind fun b12 =>
 some (.bool b12,q10.2)):=(kc _ h).trans (by kernel_rfl)
theorem kxa(a1:Bool)(a2 a3 a4 a5 a6 a7:Int)(a8 a9:Option Ref)(h:AH):go (.fn kb0 [.agg [.bool a1,.int .i64 a2,.int .i64 a3,.int .i64 a4,.int .i64 a5,.int .i64 a6,.int .i64 a7],.ptr a8,.ptr a9]) h =
 newK h (.cells [.bool a1,.int .i64 a2,.int .i64 a3,.int .i64 a4,.int .i64 a5,.int .i64 a6,.int .i64 a7] kb7) fun h10r h10 =>
 ((h10.cell (h10r.add 0)).bind AV.asBool).bind fun b11 =>
 cond (!b11) (
 ((h10.cell (h10r.add 2)).bind (AV.asInt .i64)).bind fun n12 =>
 a8.bind fun r13 =>
 ((h10.cell r13).bind (AV.asInt .i64)).bind fun n14 =>
 cond (decide (n12≥n14)) (
 some (.bool true,h10)) (
 ((h10.cell (h10r.add 2)).bind (AV.asInt .i64)).bind fun n15 =>
 cond (decide (n15=0)) (
 ((h10.cell (h10r.add 3)).bind (AV.asInt .i64)).bind fun n16 =>
 a9.bind fun r17 =>
 ((h10.cell (r17.add 2)).bind AV.asSl).bind fun l18 =>
 some (.bool (decide (n16≥(l18.len:Int))),h10)) (
 some (.bool false,h10)))) (
 some (.bool false,h10)):=(kc _ h).trans (by kernel_rfl)
theorem kzu(a1:Int)(h:AH):go (.fn kcs [.int .i64 a1]) h =
 cond (decide (a1<1)) (
 some (.bool true,h)) (
 some (.bool (decide (a1>11)),h)):=(kc _ h).trans (by kernel_rfl)
theorem kvd(a1:Sl)(a2 a3 a4:Int)(h:AH):go (.pt khj kkb [(0,a1.v),(1,.int .i64 a2),(7,.int .i64 a3),(8,.int .i64 a4)]) h =
 cond (decide (a4<a3)) (
 (idx a1.ref a1.len a4 1).bind fun r5 =>
 ((h.cell r5).bind (AV.asInt .i64)).bind fun n6 =>
 cond (decide (a2=n6)) (
 some (.int .i64 a4,h)) (
 go (.pt khj kkb [(0,a1.v),(1,.int .i64 a2),(7,.int .i64 a3),(8,.int .i64 (IntKind.wrap .i64 (a4+1)))]) h)) (
 some (.int .i64 (-1),h)):=(kc _ h).trans (by kernel_rfl)
theorem k6m(a1:Int)(h:AH):go (.fn kcr [.int .i64 a1]) h =
 cond (decide (a1<0)) (
 some (.bool true,h)) (
 some (.bool (decide (a1>1073741824)),h)):=(kc _ h).trans (by kernel_rfl)
theorem k4t(a1:Int)(a2:Option Ref)(h:AH):go (.fn kct [.int .i64 a1,.ptr a2]) h =
 cond (decide (a1<0)) (
 some (.bool true,h)) (
 a2.bind fun r3 =>
 ((h.cell r3).bind (AV.asInt .i64)).bind fun n4 =>
 some (.bool (decide (a1≥n4)),h)):=(kc _ h).trans (by kernel_rfl)
theorem kra(a1:Sl)(a2 a3:Int)(h:AH):go (.pt kx kbo [(0,a1.v),(1,.func (.func kbn) [] []),(7,.int .i64 a2),(8,.int .i64 a3)]) h =
 cond (decide (a3<a2)) (
 (idx a1.ref a1.len a3 1).bind fun r4 =>
 ((h.cell r4).bind (AV.asInt .i64)).bind fun n5 =>
 (go (.fn kbn [.int .i64 n5]) h).bind fun q6 =>
 ((some q6.1).bind AV.asBool).bind fun b7 =>
 cond b7 (
 some (.int .i64 a3,q6.2)) (
 go (.pt kx kbo [(0,a1.v),(1,.func (.func kbn) [] []),(7,.int .i64 a2),(8,.int .i64 (IntKind.wrap .i64 (a3+1)))]) q6.2)) (
 some (.int .i64 (-1),h)):=(kc _ h).trans (by kernel_rfl)
theorem kv3(a1:Sl)(a2 a3:Int)(h:AH):go (.pt kbc kb4 [(0,a1.v),(1,.func (.func kb3) [] []),(7,.int .i64 a2),(8,.int .i64 a3)]) h =
 cond (decide (a3<a2)) (
 (idx a1.ref a1.len a3 1).bind fun r4 =>
 ((h.cell r4).bind AV.asSl).bind fun l5 =>
 (go (.fn kb3 [l5.v]) h).bind fun q6 =>
 ((some q6.1).bind AV.asBool).bind fun b7 =>
 cond b7 (
 some (.int .i64 a3,q6.2)) (
 go (.pt kbc kb4 [(0,a1.v),(1,.func (.func kb3) [] []),(7,.int .i64 a2),(8,.int .i64 (IntKind.wrap .i64 (a3+1)))]) q6.2)) (
 some (.int .i64 (-1),h)):=(kc _ h).trans (by kernel_rfl)
theorem ky0(a1:Ref)(h:AH):go (.pt kf kdl [(1,.ptr (some a1))]) h =
 ((h.cell (a1.add 4)).bind AV.asSl).bind fun l2 =>
 cond (decide ((l2.len:Int)>16384)) (
 some (.bool false,h)) (
 ((h.cell (a1.add 5)).bind AV.asSl).bind fun l3 =>
 cond (decide ((l3.len:Int)>16384)) (
 some (.bool false,h)) (
 ((h.cell (a1.add 6)).bind AV.asSl).bind fun l4 =>
 cond (decide ((l4.len:Int)>16384)) (
 some (.bool false,h)) (
 go (.pt kf kol [(1,.ptr (some a1))]) h))):=(kc _ h).trans (by kernel_rfl)
theorem k76(a1 a2:Sl)(h:AH):go (.fn kfa [a1.v,a2.v]) h =
 newK h (.cells [a1.v,a2.v] kr) fun h3r h3 =>
 (go (.fn kgj [(⟨some h3r,2,.is 2⟩:Sl).v]) h3).bind fun q4 =>
 ((some q4.1).bind AV.asBool).bind fun b5 =>
 cond (!b5) (
 some (.int .i64 0,q4.2)) (
 (go (.fn kd9 [a1.v,a2.v]) q4.2).bind fun q6 =>
 ((some q6.1).bind (AV.asInt .i64)).bind fun n7 =>
 some (.int .i64 n7,q6.2)):=(kc _ h).trans (by kernel_rfl)
theorem k3s(a1 a2:Sl)(h:AH):go (.fn kff [a1.v,a2.v]) h =
 (go (.fn kc7 [a1.v]) h).bind fun q3 =>
 ((some q3.1).bind AV.asBool).bind fun b4 =>
 cond (!b4) (
 some (.tup [(⟨none,0,.is 0⟩:Sl).v,.int .i64 1],q3.2)) (
 (go (.fn kc7 [a2.v]) q3.2).bind fun q5 =>
 ((some q5.1).bind AV.asBool).bind fun b6 =>
 cond (!b6) (
 some (.tup [(⟨none,0,.is 0⟩:Sl).v,.int .i64 1],q5.2)) (
 (go (.fn kfn [a1.v]) q5.2).bind fun q7 =>
 ((some q7.1).bind AV.asSl).bind fun l8 =>
 (go (.fn kfn [a2.v]) q7.2).bind fun q9 =>
 ((some q9.1).bind AV.asSl).bind fun l10 =>
 go (.pt kff kjw [(0,l8.v),(1,l10.v)]) q9.2)):=(kc _ h).trans (by kernel_rfl)
theorem kw4(a1 a2:Sl)(h:AH):go (.fn kqg [a1.v,a2.v]) h =
 newK h (.cells [a1.v,a2.v] kr) fun h3r h3 =>
 (go (.fn kgj [(⟨some h3r,2,.is 2⟩:Sl).v]) h3).bind fun q4 =>
 ((some q4.1).bind AV.asBool).bind fun b5 =>
 cond (!b5) (
 some (.tup [(⟨none,0,.is 0⟩:Sl).v,.int .i64 1],q4.2)) (
 (go (.fn kd9 [a1.v,a2.v]) q4.2).bind fun q6 =>
 ((some q6.1).bind (AV.asInt .i64)).bind fun n7 =>
 cond (decide (n7<0)) (
 some (.tup [(⟨none,0,.is 0⟩:Sl).v,.int .i64 2],q6.2)) (
 (go (.fn kcl [a1.v,a2.v]) q6.2).bind fun q8 =>
 ((some q8.1).bind AV.asSl).bind fun l9 =>
 (go (.fn kix [l9.v]) q8.2).bind fun q10 =>
 (AV.asTup2 q10.1).bind fun p11 =>
 ((some p11.1).bind AV.asSl).bind fun l12 =>
 ((some p11.2).bind (AV.asInt .i64)).bind fun n13 =>
 some (.tup [l12.v,.int .i64 n13],q10.2))):=(kc _ h).trans (by kernel_rfl)
theorem kya(a1:Option Ref)(a2:Int)(a3:Sl)(h:AH):go (.fn kee [.func (.func kcq) [.ptr a1] [],.int .i64 a2,a3.v]) h =
 go (.pt kee kgs [(0,.func (.func kcq) [.ptr a1] []),(1,.int .i64 a2),(2,a3.v)]) h:=(kc _ h).trans (by kernel_rfl)
theorem kxb(l:Nat)(pe:Option Code)(a1:Sl)(a2:AV)(a3:Ref)(a4:Sl)(a5:AV)(a6:Int)(h:AH)(hb:h.blks[l]?=some (kd5 kox kdx 0 .ready pe [(0,a1.v),(1,a2),(2,.ptr (some a3)),(4,a4.v),(6,a5)])):go (.round l [.int .i64 a6]) h =
 (beginA l h).bind fun h7 =>
 ((h7.cell a3).bind AV.asSl).bind fun l8 =>
 newK h7 (.cells [.int .i64 a6] T.int) fun h9r h9 =>
 (kbe Pg T.int ((⟨some h9r,1,.is 1⟩:Sl).v) h9).bind fun p11 =>
 (kz Pg l8 p11.1 p11.2 T.int 1 h9).bind fun q10 =>
 (AV.asSl q10.1).bind fun l12 =>
 (q10.2.puts a3 [l12.v]).bind fun h13 =>
 kch l none h13:=(kc _ h).trans ((koa hb).trans (by kernel_rfl))
theorem kbb3(a1:Sl)(a2:AV)(a3:Ref)(a4:Sl)(a5:AV)(h:AH):go (.pt kdx ((Option.map Item.code none).toList++ku8) [(0,a1.v),(1,a2),(2,.ptr (some a3)),(4,a4.v),(6,a5)]) h =
 ((h.cell a3).bind AV.asSl).bind fun l6 =>
 some (l6.v,h):=(kc _ h).trans (by kernel_rfl)
theorem kbb5(a1 a2 a3 a4 a5 a6 a7 a8 a9:Int)(h:AH):go (.pt kbi kga [(2,.int .u64 a1),(8,.int .u64 a2),(9,.int .u64 a3),(10,.int .u64 a4),(14,.int .u64 a5),(15,.int .u64 a6),(16,.int .u64 a7),(17,.int .u64 a8),(18,.int .u64 a9)]) h =
 cond (decide (a9≥4294967296)) (
 cond (decide ((IntKind.wrap .u64 (a7+a3))≥4294967296)) (
 cond (decide (a2<0)) none (
 some (.tup [.int .u64 (IntKind.wrap .u64 ((IntKind.wrap .u64 (a6*4294967296))+(IntKind.wrap .u64 (a9-1)))),.int .u64 (ishr .u64 (IntKind.wrap .u64 ((IntKind.wrap .u64 ((IntKind.wrap .u64 (a8*4294967296))+a5))-(IntKind.wrap .u64 ((IntKind.wrap .u64 (a9-1))*a1)))) a2)],h))) (
 go (.pt kbi kga [(2,.int .u64 a1),(8,.int .u64 a2),(9,.int .u64 a3),(10,.int .u64 a4),(14,.int .u64 a5),(15,.int .u64 a6),(16,.int .u64 (IntKind.wrap .u64 (a7+a3))),(17,.int .u64 a8),(18,.int .u64 (IntKind.wrap .u64 (a9-1)))]) h)) (
 cond (decide ((IntKind.wrap .u64 (a9*a4))>(IntKind.wrap .u64 ((IntKind.wrap .u64 (4294967296*a7))+a5)))) (
 cond (decide ((IntKind.wrap .u64 (a7+a3))≥4294967296)) (
 cond (decide (a2<0)) none (
 some (.tup [.int .u64 (IntKind.wrap .u64 ((IntKind.wrap .u64 (a6*4294967296))+(IntKind.wrap .u64 (a9-1)))),.int .u64 (ishr .u64 (IntKind.wrap .u64 ((IntKind.wrap .u64 ((IntKind.wrap .u64 (a8*4294967296))+a5))-(IntKind.wrap .u64 ((IntKind.wrap .u64 (a9-1))*a1)))) a2)],h))) (
 go (.pt kbi kga [(2,.int .u64 a1),(8,.int .u64 a2),(9,.int .u64 a3),(10,.int .u64 a4),(14,.int .u64 a5),(15,.int .u64 a6),(16,.int .u64 (IntKind.wrap .u64 (a7+a3))),(17,.int .u64 a8),(18,.int .u64 (IntKind.wrap .u64 (a9-1)))]) h)) (
 cond (decide (a2<0)) none (
 some (.tup [.int .u64 (IntKind.wrap .u64 ((IntKind.wrap .u64 (a6*4294967296))+a9)),.int .u64 (ishr .u64 (IntKind.wrap .u64 ((IntKind.wrap .u64 ((IntKind.wrap .u64 (a8*4294967296))+a5))-(IntKind.wrap .u64 (a9*a1)))) a2)],h)))):=(kc _ h).trans (by kernel_rfl)
theorem kba5(a1:Sl)(h:AH):go (.fn kb3 [a1.v]) h =
 (go (.fn kc7 [a1.v]) h).bind fun q2 =>
 ((some q2.1).bind AV.asBool).bind fun b3 =>
 cond (!b3) (
 some (.bool true,q2.2)) (
 some (.bool (decide ((a1.len:Int)>4)),q2.2)):=(kc _ h).trans (by kernel_rfl)
theorem kbdt(a1:Ref)(h:AH):go (.pt kf kol [(1,.ptr (some a1))]) h =
 ((h.cell (a1.add 0)).bind (AV.asInt .i64)).bind fun n2 =>
 cond (decide (n2=1)) (
 ((h.cell (a1.add 6)).bind AV.asSl).bind fun l3 =>
 cond (!decide ((l3.len:Int)=1)) (
 some (.bool false,h)) (
 ((h.cell (a1.add 0)).bind (AV.asInt .i64)).bind fun n4 =>
 cond (decide (n4=5)) (
 ((h.cell (a1.add 6)).bind AV.asSl).bind fun l5 =>
 ((h.cell (a1.add 4)).bind AV.asSl).bind fun l6 =>
 cond (!decide ((l5.len:Int)=(l6.len:Int))) (
 some (.bool false,h)) (
 ((h.cell (a1.add 0)).bind (AV.asInt .i64)).bind fun n7 =>
 cond (decide (n7=6)) (
 ((h.cell (a1.add 4)).bind AV.asSl).bind fun l8 =>
 cond (decide ((l8.len:Int)=0)) (
 some (.bool false,h)) (
 go (.pt kf kcz [(1,.ptr (some a1)),(7,.int .i64 0)]) h)) (
 go (.pt kf kcz [(1,.ptr (some a1)),(7,.int .i64 0)]) h))) (
 ((h.cell (a1.add 0)).bind (AV.asInt .i64)).bind fun n9 =>
 cond (decide (n9=6)) (
 ((h.cell (a1.add 4)).bind AV.asSl).bind fun l10 =>
 cond (decide ((l10.len:Int)=0)) (
 some (.bool false,h)) (
 go (.pt kf kcz [(1,.ptr (some a1)),(7,.int .i64 0)]) h)) (
 go (.pt kf kcz [(1,.ptr (some a1)),(7,.int .i64 0)]) h)))) (
 ((h.cell (a1.add 0)).bind (AV.asInt .i64)).bind fun n11 =>
 cond (decide (n11=5)) (
 ((h.cell (a1.add 6)).bind AV.asSl).bind fun l12 =>
 ((h.cell (a1.add 4)).bind AV.asSl).bind fun l13 =>
 cond (!decide ((l12.len:Int)=(l13.len:Int))) (
 some (.bool false,h)) (
 ((h.cell (a1.add 0)).bind (AV.asInt .i64)).bind fun n14 =>
 cond (decide (n14=6)) (
 ((h.cell (a1.add 4)).bind AV.asSl).bind fun l15 =>
 cond (decide ((l15.len:Int)=0)) (
 some (.bool false,h)) (
 go (.pt kf kcz [(1,.ptr (some a1)),(7,.int .i64 0)]) h)) (
 go (.pt kf kcz [(1,.ptr (some a1)),(7,.int .i64 0)]) h))) (
 ((h.cell (a1.add 0)).bind (AV.asInt .i64)).bind fun n16 =>
 cond (decide (n16=6)) (
 ((h.cell (a1.add 4)).bind AV.asSl).bind fun l17 =>
 cond (decide ((l17.len:Int)=0)) (
 some (.bool false,h)) (
 go (.pt kf kcz [(1,.ptr (some a1)),(7,.int .i64 0)]) h)) (
 go (.pt kf kcz [(1,.ptr (some a1)),(7,.int .i64 0)]) h))):=(kc _ h).trans (by kernel_rfl)
theorem k42(a1 a2:Sl)(h:AH):go (.pt kff kjw [(0,a1.v),(1,a2.v)]) h =
 cond (decide ((a2.len:Int)>0)) (
 (go (.fn kjc [a1.v,a2.v]) h).bind fun q3 =>
 (AV.asTup3 q3.1).bind fun p4 =>
 ((some p4.1).bind AV.asSl).bind fun l5 =>
 ((some p4.2.1).bind AV.asSl).bind fun l6 =>
 ((some p4.2.2).bind (AV.asInt .i64)).bind fun n7 =>
 go (.pt kff kjw [(0,a2.v),(1,l6.v)]) q3.2) (
 some (.tup [a1.v,.int .i64 0],h)):=(kc _ h).trans (by kernel_rfl)
theorem kwt(a1:Option Ref)(a2:Int)(a3:Sl)(h:AH):go (.pt kee kgs [(0,.func (.func kcq) [.ptr a1] []),(1,.int .i64 a2),(2,a3.v)]) h =
 (go (.fn kcq [.ptr a1,.int .i64 (IntKind.wrap .i64 (Int.tdiv (IntKind.wrap .i64 (a2+7)) 8))]) h).bind fun q4 =>
 (AV.asTup2 q4.1).bind fun p5 =>
 ((some p5.1).bind AV.asSl).bind fun l6 =>
 ((some p5.2).bind (AV.asInt .i64)).bind fun n7 =>
 cond (!decide (n7=0)) (
 some (.tup [(⟨none,0,.is 0⟩:Sl).v,.int .i64 n7],q4.2)) (
 cond (decide ((Int.tmod a2 8)>0)) (
 (idx l6.ref l6.len 0 1).bind fun r8 =>
 ((q4.2.cell r8).bind (AV.asInt .u8)).bind fun n9 =>
 cond (decide ((Int.tmod a2 8)<0)) none (
 (idx l6.ref l6.len 0 1).bind fun r10 =>
 (q4.2.puts r10 [.int .u8 (iand .u8 n9 (IntKind.wrap .u8 ((ishl .u8 1 (Int.tmod a2 8))-1)))]).bind fun h11 =>
 (go (.fn kek [l6.v]) h11).bind fun q12 =>
 (AV.asTup2 q12.1).bind fun p13 =>
 ((some p13.1).bind AV.asSl).bind fun l14 =>
 ((some p13.2).bind (AV.asInt .i64)).bind fun n15 =>
 (go (.fn kfa [l14.v,a3.v]) q12.2).bind fun q16 =>
 ((some q16.1).bind (AV.asInt .i64)).bind fun n17 =>
 cond (decide (n17<0)) (
 some (.tup [l14.v,.int .i64 0],q16.2)) (
 go (.pt kee kgs [(0,.func (.func kcq) [.ptr a1] []),(1,.int .i64 a2),(2,a3.v)]) q16.2))) (
 (go (.fn kek [l6.v]) q4.2).bind fun q18 =>
 (AV.asTup2 q18.1).bind fun p19 =>
 ((some p19.1).bind AV.asSl).bind fun l20 =>
 ((some p19.2).bind (AV.asInt .i64)).bind fun n21 =>
 (go (.fn kfa [l20.v,a3.v]) q18.2).bind fun q22 =>
 ((some q22.1).bind (AV.asInt .i64)).bind fun n23 =>
 cond (decide (n23<0)) (
 some (.tup [l20.v,.int .i64 0],q22.2)) (
 go (.pt kee kgs [(0,.func (.func kcq) [.ptr a1] []),(1,.int .i64 a2),(2,a3.v)]) q22.2))):=(kc _ h).trans (by kernel_rfl)
theorem ks7(a1:Ref)(a2:Int)(h:AH):go (.pt kf kcz [(1,.ptr (some a1)),(7,.int .i64 a2)]) h =
 ((h.cell (a1.add 4)).bind AV.asSl).bind fun l3 =>
 cond (decide (a2<(l3.len:Int))) (
 ((h.cell (a1.add 4)).bind AV.asSl).bind fun l4 =>
 (idx l4.ref l4.len a2 1).bind fun r5 =>
 ((h.cell r5).bind (AV.asInt .i64)).bind fun n6 =>
 cond (decide (n6<0)) (
 some (.bool false,h)) (
 ((h.cell (a1.add 4)).bind AV.asSl).bind fun l7 =>
 (idx l7.ref l7.len a2 1).bind fun r8 =>
 ((h.cell r8).bind (AV.asInt .i64)).bind fun n9 =>
 cond (decide (n9>1073741824)) (
 some (.bool false,h)) (
 go (.pt kf kcz [(1,.ptr (some a1)),(7,.int .i64 (IntKind.wrap .i64 (a2+1)))]) h))) (
 go (.pt kf kjd [(1,.ptr (some a1)),(8,.int .i64 0)]) h):=(kc _ h).trans (by kernel_rfl)
theorem k2q(a1:Option Ref)(a2:Int)(h:AH):go (.fn kcq [.ptr a1,.int .i64 a2]) h =
 cond (decide (a2<0)) (
 some (.tup [(⟨none,0,.is 0⟩:Sl).v,.int .i64 1],h)) (
 cond (decide (a2>65536)) (
 some (.tup [(⟨none,0,.is 0⟩:Sl).v,.int .i64 1],h)) (
 a1.bind fun r3 =>
 ((h.cell (r3.add 0)).bind AV.asSl).bind fun l4 =>
 cond (decide (a2>(l4.len:Int))) (
 some (.tup [(⟨none,0,.is 0⟩:Sl).v,.int .i64 7],h)) (
 a1.bind fun r5 =>
 ((h.cell (r5.add 0)).bind AV.asSl).bind fun l6 =>
 (cutSl l6 0 a2 1).bind fun l7 =>
 (go (.fn kkm [l7.v]) h).bind fun q8 =>
 ((some q8.1).bind AV.asSl).bind fun l9 =>
 a1.bind fun r10 =>
 ((q8.2.cell (r10.add 0)).bind AV.asSl).bind fun l11 =>
 (cutSl l11 a2 (l11.len:Int) 1).bind fun l12 =>
 a1.bind fun r13 =>
 (q8.2.puts (r13.add 0) [l12.v]).bind fun h14 =>
 some (.tup [l9.v,.int .i64 0],h14)))):=(kc _ h).trans (by kernel_rfl)
theorem k4a(a1:Sl)(h:AH):go (.fn kek [a1.v]) h =
 (go (.fn ke8 [a1.v,.func (.func kdv) [] []]) h).bind fun q2 =>
 ((some q2.1).bind (AV.asInt .i64)).bind fun n3 =>
 cond (decide (n3<0)) (
 some (.tup [(⟨none,0,.is 0⟩:Sl).v,.int .i64 0],q2.2)) (
 (cutSl a1 n3 (a1.len:Int) 1).bind fun l4 =>
 cond (decide ((l4.len:Int)>512)) (
 some (.tup [(⟨none,0,.is 0⟩:Sl).v,.int .i64 4],q2.2)) (
 (kbd (IntKind.wrap .i64 (Int.tdiv (IntKind.wrap .i64 ((l4.len:Int)+7)) 8)) (IntKind.wrap .i64 (Int.tdiv (IntKind.wrap .i64 ((l4.len:Int)+7)) 8)) ke (Pg.bytesOf ke) [.int .u64 0] q2.2).bind fun q5 =>
 go (.pt kek kle [(0,l4.v),(5,q5.1.v),(23,.int .i64 (l4.len:Int)),(24,.int .i64 0)]) q5.2)):=(kc _ h).trans (by kernel_rfl)
theorem kry(a1:Ref)(a2:Int)(h:AH):go (.pt kf kjd [(1,.ptr (some a1)),(8,.int .i64 a2)]) h =
 ((h.cell (a1.add 5)).bind AV.asSl).bind fun l3 =>
 cond (decide (a2<(l3.len:Int))) (
 ((h.cell (a1.add 5)).bind AV.asSl).bind fun l4 =>
 (idx l4.ref l4.len a2 1).bind fun r5 =>
 ((h.cell r5).bind (AV.asInt .i64)).bind fun n6 =>
 cond (decide (n6<0)) (
 some (.bool false,h)) (
 ((h.cell (a1.add 5)).bind AV.asSl).bind fun l7 =>
 (idx l7.ref l7.len a2 1).bind fun r8 =>
 ((h.cell r8).bind (AV.asInt .i64)).bind fun n9 =>
 cond (decide (n9>1073741824)) (
 some (.bool false,h)) (
 cond (decide (a2>0)) (
 ((h.cell (a1.add 5)).bind AV.asSl).bind fun l10 =>
 (idx l10.ref l10.len a2 1).bind fun r11 =>
 ((h.cell r11).bind (AV.asInt .i64)).bind fun n12 =>
 ((h.cell (a1.add 5)).bind AV.asSl).bind fun l13 =>
 (idx l13.ref l13.len (IntKind.wrap .i64 (a2-1)) 1).bind fun r14 =>
 ((h.cell r14).bind (AV.asInt .i64)).bind fun n15 =>
 cond (decide (n12≤n15)) (
 some (.bool false,h)) (
 go (.pt kf kjd [(1,.ptr (some a1)),(8,.int .i64 (IntKind.wrap .i64 (a2+1)))]) h)) (
 go (.pt kf kjd [(1,.ptr (some a1)),(8,.int .i64 (IntKind.wrap .i64 (a2+1)))]) h)))) (
 go (.pt kf kkj [(1,.ptr (some a1)),(9,.int .i64 0)]) h):=(kc _ h).trans (by kernel_rfl)
theorem kbcw(a1:Sl)(h:AH):go (.fn ke8 [a1.v,.func (.func kdv) [] []]) h =
 go (.pt ke8 khn [(0,a1.v),(1,.func (.func kdv) [] []),(7,.int .i64 (a1.len:Int)),(8,.int .i64 0)]) h:=(kc _ h).trans (by kernel_rfl)
theorem kvw(a1 a2:Sl)(a3 a4:Int)(h:AH):go (.pt kek kle [(0,a1.v),(5,a2.v),(23,.int .i64 a3),(24,.int .i64 a4)]) h =
 cond (decide (a4<a3)) (
 (idx a2.ref a2.len (IntKind.wrap .i64 (Int.tdiv a4 8)) 1).bind fun r5 =>
 ((h.cell r5).bind (AV.asInt .u64)).bind fun n6 =>
 (idx a1.ref a1.len (IntKind.wrap .i64 ((IntKind.wrap .i64 ((a1.len:Int)-1))-a4)) 1).bind fun r7 =>
 ((h.cell r7).bind (AV.asInt .u8)).bind fun n8 =>
 cond (decide ((IntKind.wrap .i64 (8*(Int.tmod a4 8)))<0)) none (
 (idx a2.ref a2.len (IntKind.wrap .i64 (Int.tdiv a4 8)) 1).bind fun r9 =>
 (h.puts r9 [.int .u64 (ior .u64 n6 (ishl .u64 (IntKind.wrap .u64 n8) (IntKind.wrap .i64 (8*(Int.tmod a4 8)))))]).bind fun h10 =>
 go (.pt kek kle [(0,a1.v),(5,a2.v),(23,.int .i64 a3),(24,.int .i64 (IntKind.wrap .i64 (a4+1)))]) h10)) (
 (go (.fn kix [a2.v]) h).bind fun q11 =>
 (AV.asTup2 q11.1).bind fun p12 =>
 ((some p12.1).bind AV.asSl).bind fun l13 =>
 ((some p12.2).bind (AV.asInt .i64)).bind fun n14 =>
 some (.tup [l13.v,.int .i64 n14],q11.2)):=(kc _ h).trans (by kernel_rfl)
theorem kr4(a1:Ref)(a2:Int)(h:AH):go (.pt kf kkj [(1,.ptr (some a1)),(9,.int .i64 a2)]) h =
 ((h.cell (a1.add 6)).bind AV.asSl).bind fun l3 =>
 cond (decide (a2<(l3.len:Int))) (
 ((h.cell (a1.add 6)).bind AV.asSl).bind fun l4 =>
 (idx l4.ref l4.len a2 1).bind fun r5 =>
 ((h.cell r5).bind AV.asSl).bind fun l6 =>
 (go (.fn knp [l6.v]) h).bind fun q7 =>
 ((some q7.1).bind AV.asBool).bind fun b8 =>
 cond (!b8) (
 some (.bool false,q7.2)) (
 ((q7.2.cell (a1.add 6)).bind AV.asSl).bind fun l9 =>
 (idx l9.ref l9.len a2 1).bind fun r10 =>
 ((q7.2.cell r10).bind AV.asSl).bind fun l11 =>
 cond (decide ((l11.len:Int)>4)) (
 some (.bool false,q7.2)) (
 go (.pt kf kkj [(1,.ptr (some a1)),(9,.int .i64 (IntKind.wrap .i64 (a2+1)))]) q7.2))) (
 some (.bool true,h)):=(kc _ h).trans (by kernel_rfl)
theorem ksb(a1:Sl)(a2 a3:Int)(h:AH):go (.pt ke8 khn [(0,a1.v),(1,.func (.func kdv) [] []),(7,.int .i64 a2),(8,.int .i64 a3)]) h =
 cond (decide (a3<a2)) (
 (idx a1.ref a1.len a3 1).bind fun r4 =>
 ((h.cell r4).bind (AV.asInt .u8)).bind fun n5 =>
 (go (.fn kdv [.int .u8 n5]) h).bind fun q6 =>
 ((some q6.1).bind AV.asBool).bind fun b7 =>
 cond b7 (
 some (.int .i64 a3,q6.2)) (
 go (.pt ke8 khn [(0,a1.v),(1,.func (.func kdv) [] []),(7,.int .i64 a2),(8,.int .i64 (IntKind.wrap .i64 (a3+1)))]) q6.2)) (
 some (.int .i64 (-1),h)):=(kc _ h).trans (by kernel_rfl)
theorem k1w(a1:Sl)(h:AH):go (.fn knp [a1.v]) h =
 cond (decide ((a1.len:Int)≤64)) (
 cond (decide ((a1.len:Int)=0)) (
 some (.bool true,h)) (
 (idx a1.ref a1.len (IntKind.wrap .i64 ((a1.len:Int)-1)) 1).bind fun r2 =>
 ((h.cell r2).bind (AV.asInt .u64)).bind fun n3 =>
 some (.bool (!decide (n3=0)),h))) (
 some (.bool false,h)):=(kc _ h).trans (by kernel_rfl)
theorem k7m(a1:Int)(h:AH):go (.fn kdv [.int .u8 a1]) h =
 some (.bool (!decide (a1=0)),h):=(kc _ h).trans (by kernel_rfl)
end Go.Ab
set_option maxRecDepth 10000
namespace Go.Ab
open Go.Proofs Go.Num
@[reducible] def B:Nat:=18446744073709551616
theorem B2:2≤B:=by decide
def rt(xs:List Nat):Bool:=decide (xs.length≤64)&&(decide (xs.length=0)||!decide (xs.getD (xs.length-1) 0=0))
theorem kcb{xs:List Nat}{i:Nat}(h:i<xs.length):xs.getD i 0=xs[i]:=by simp[List.getD,h]
theorem rt_iff{xs:List Nat}:rt xs=true↔xs.length≤64∧Trim xs:=by
 unfold rt Trim;simp only[Bool.and_eq_true,decide_eq_true_eq,Bool.or_eq_true,Bool.not_eq_true',decide_eq_false_iff_not,List.length_eq_zero_iff];refine and_congr_right fun _=>?_;constructor
 ·rintro (h | h) hne
  ·exact absurd h hne
  ·rwa[List.getLast_eq_getElem,← kcb]
 ·intro h;by_cases he:xs=[]
  ·exact .inl he
  ·right
   have:=h he;rwa[List.getLast_eq_getElem,← kcb]at this
theorem Nats.last{h:AH}{s:Sl}{xs:List Nat}(n:Nats h s xs)(hx:xs.length≠0):∃r,idx s.ref s.len (IntKind.wrap .i64 ((s.len:Int)-1)) 1=some r∧h.cell r=some (.int .u64 ((xs.getD (xs.length-1) 0:Nat):Int)):=by
 obtain⟨k,hk⟩:∃k,xs.length=k+1:=⟨xs.length-1,by omega⟩;have hs:=n.short;obtain⟨r,e1,e2⟩:=n.at (i:=k) (by omega);rw[n.len,hk]at e1⊢;rw[knx (by omega)];refine⟨r,e1,?_⟩;rw[e2,show k+1-1=k from rfl,kcb (by omega)]
theorem kd8{h:AH}{s:Sl}{xs:List Nat}(n:Nats h s xs):go (.fn kc7 [s.v]) h=some (.bool (rt xs),h):=by
 rw[k0a];have hl:=n.len;refine ki1 (fun h1=>?_) (fun h1=>?_)
 ·have h1:xs.length≤64:=by rw[decide_eq_true_eq]at h1;omega
  refine ki1 (fun h2=>?_) (fun h2=>?_)
  ·have h2:xs.length=0:=by rw[decide_eq_true_eq]at h2;omega
   simp[rt,h2]
  ·have h2:xs.length≠0:=by rw[decide_eq_false_iff_not]at h2;omega
   obtain⟨r,e1,e2⟩:=n.last h2;simp[e1,e2,rt,h1];cases xs
   ·simp at h2
   ·simp
 ·have h1:¬xs.length≤64:=by rw[decide_eq_false_iff_not]at h1;omega
  simp[rt,h1]
theorem kba7{h:AH}{s:Sl}{xs:List Nat}(n:Nats h s xs):go (.fn knp [s.v]) h=some (.bool (rt xs),h):=by
 rw[k1w];have hl:=n.len;refine ki1 (fun h1=>?_) (fun h1=>?_)
 ·have h1:xs.length≤64:=by rw[decide_eq_true_eq]at h1;omega
  refine ki1 (fun h2=>?_) (fun h2=>?_)
  ·have h2:xs.length=0:=by rw[decide_eq_true_eq]at h2;omega
   simp[rt,h2]
  ·have h2:xs.length≠0:=by rw[decide_eq_false_iff_not]at h2;omega
   obtain⟨r,e1,e2⟩:=n.last h2;simp[e1,e2,rt,h1];cases xs
   ·simp at h2
   ·simp
 ·have h1:¬xs.length≤64:=by rw[decide_eq_false_iff_not]at h1;omega
  simp[rt,h1]
theorem kwy{h:AH}{s:Sl}{xs:List Nat}(n:Nats h s xs):∀(k:Nat),k≤xs.length→(∀i,k≤i→(hi:i<xs.length)→xs[i]=0)→
  ∃s',go (.pt kbf kjl [(0,s.v),(3,.int .i64 (k:Int))]) h=some (s'.v,h)∧Nats h s' (digs B (num B xs))∧∀h0,Own h0 s→Own h0 s'
 | 0,hk,hz=>by
  rw[klp];obtain⟨s',e1,e2,e3⟩:=n.cut (l:=0) (n:=0) (Nat.le_refl _) hk;have:=ktc B2 n.lt hz hk (.inl rfl);simp at e1;simp only[Int.natCast_zero,gt_iff_lt,Int.lt_irrefl,decide_false,cond_false,e1,Option.bind_some];refine⟨s',rfl,?_,e3⟩;rw[← this]
  simpa using e2
 | k+1,hk,hz=>by
  rw[klp];obtain⟨r,e1,e2⟩:=n.at (i:=k) (by omega);have hs:=n.short;rw[knx (by omega)];rw[show(decide (((k+1:Nat):Int)>0))=true from by rw[decide_eq_true_eq];omega];simp only[cond_true,e1,e2,Option.bind_some,kb];by_cases hx:xs[k]=0
  ·rw[hx,show(decide (((0:Nat):Int)=0))=true from rfl,cond_true];refine kwy n k (by omega) fun i hi hil=>?_;rcases Nat.lt_or_ge k i with h1 | h1
   ·exact hz i (by omega) hil
   ·have:i=k:=by omega
    subst this;exact hx
  ·obtain⟨s',e3,e4,e5⟩:=n.cut (l:=0) (n:=k+1) (by omega) hk;have ht:=ktc B2 n.lt hz hk (.inr ⟨by omega,by simpa using hx⟩);rw[show(decide (((xs[k]:Nat):Int)=0))=false from by rw[decide_eq_false_iff_not];omega];simp only[cond_false];rw[show cutSl s 0 ((k+1:Nat):Int) 1=some s' from e3];refine⟨s',rfl,?_,e5⟩;rw[← ht]
   simpa using e4
theorem kcx{h:AH}{s:Sl}{xs:List Nat}(n:Nats h s xs):∃s',go (.fn kbf [s.v]) h=some (s'.v,h)∧Nats h s' (digs B (num B xs))∧∀h0,Own h0 s→Own h0 s':=by
 rw[kpb,n.len];exact kwy n xs.length (Nat.le_refl _) fun i h1 h2=>by omega
theorem kba8{n:Nat}(h:n≤8796093022208):growOk Pg n ke 1=true:=by
 unfold growOk;rw[k7v,kd3];have h1:n*8≤kp:=by simp only[kp];omega
 have h2:n≤kp:=by simp only[kp];omega
 simp[h1,h2]
theorem kgv{h:AH}{s:Sl}{xs:List Nat}(n:Nats h s xs)(hl:xs.length≤8796093022208):∃s' h',go (.fn kfn [s.v]) h=some (s'.v,h')∧Nats h' s' xs∧Grow h h'∧Own h s':=by
 rw[k4p];cases hr:s.ref with
 | none =>
  have:xs=[]:=by
   cases xs with
   | nil=>rfl
   | cons x xs =>
    obtain⟨r,e1,_⟩:=n.cells.get 0 (u64 x) rfl;rw[hr]at e1;cases e1
  subst this;exact⟨_,_,rfl,Nats.nil h,Grow.refl h,Own.nil h⟩
 | some r =>
  simp only[Option.isNone_some,cond_false,kjh];have n1:=n.grow (Grow.push h (.cells [] ke));have c1:=n1.cells;rw[← ktu]at c1;rw[klq c1,n.len];simp only[Option.bind_some];have own:∀(m:Nat)(c:Cap),Own h ⟨some (.new h.blks.size 0),m,c⟩:=fun m c r hr=>by cases hr;exact⟨_,_,rfl,Nat.le_refl _⟩
  cases xs with
  | nil =>
   obtain⟨s',e1,e2,e3⟩:=k54 (P:=Pg) (elem:=ke) (m:=1) (by omega) (Cells.of_has (n:=1) (m:=0) (AH.has_push h [] ke) rfl);simp only[List.map_nil,List.length_nil,e1,Option.bind_some,asSl_v];exact⟨s',_,rfl,⟨e2,by simp,by simp⟩,Grow.push _ _,e3 h (own 0 (.is 0))⟩
  | cons x xs =>
   rw[kke (c:=0) rfl (by simp) (kba8 (by simpa using hl)) (Cells.of_has (n:=1) (m:=0) (AH.has_push h [] ke) rfl)];simp only[Option.bind_some,asSl_v];refine⟨_,_,rfl,⟨⟨rfl,by simp,fun i v hv=>⟨_,rfl,by rw[Ref.add_new,Nat.zero_add,AH.cell_push];exact hv⟩⟩,n.lt,n.short⟩,(Grow.push _ _).trans (Grow.push _ _),fun r hr=>?_⟩;cases hr;exact⟨_,_,rfl,by simp⟩
theorem kqx{h:AH}{x:Nat}(hx:x<B):∃(s':Sl)(h':AH),go (.fn khc [.int .u64 (x:Int)]) h=some (s'.v,h')∧Nats h' s' (digs B x)∧Grow h h'∧Own h s':=by
 rw[k27];simp only[kjh];have n0:Nats (h.push (.cells [u64 x] ke)) ⟨some (.new h.blks.size 0),1,.is 1⟩ [x]:=⟨Cells.of_has (AH.has_push h [u64 x] ke) rfl,by simpa using hx,by simp⟩;obtain⟨s',e1,e2,e3⟩:=kcx n0;rw[e1];simp only[Option.bind_some,asSl_v];refine⟨s',_,rfl,by simpa[num]using e2,Grow.push _ _,e3 h fun r hr=>by cases hr;exact⟨_,_,rfl,Nat.le_refl _⟩⟩
structure Rows(h:AH)(s:Sl)(rows:List (Sl×List Nat)):Prop where
 cells:Cells h s 1 (rows.map fun p=>p.1.v)
 each:∀p∈rows,Nats h p.1 p.2
 short:rows.length≤9223372036854775807
theorem Rows.len{h:AH}{s:Sl}{rows:List (Sl×List Nat)}(n:Rows h s rows):s.len=rows.length:=by
 have:=n.cells.len
 simpa using this
theorem Rows.at{h:AH}{s:Sl}{rows:List (Sl×List Nat)}(n:Rows h s rows){i:Nat}(hi:i<rows.length):∃r,idx s.ref s.len (i:Int) 1=some r∧h.cell r=some (rows[i].1).v:=by
 obtain⟨r,e1,e2⟩:=n.cells.get i (rows[i].1).v (by simp[hi]);refine⟨r.add i,?_,e2⟩;rw[e1,ker _ _ _ _ (by omega) (by rw[n.len];omega)];simp
theorem Rows.two{h:AH}{a b:Sl}{xs ys:List Nat}(n:Nats h a xs)(m:Nats h b ys):Rows (h.push (.cells [a.v,b.v] kr)) ⟨some (.new h.blks.size 0),2,.is 2⟩ [(a,xs),(b,ys)]:=by
 refine⟨Cells.of_has (AH.has_push _ _ _) rfl,fun p hp=>?_,by simp⟩;have g:=Grow.push h (.cells [a.v,b.v] kr);simp at hp;rcases hp with rfl | rfl
 ·exact n.grow g
 ·exact m.grow g
theorem k71{h:AH}{cs:List AV}(a:ArgT Pg h kr cs):∃(s:Sl)(xs:List Nat),cs=[s.v]∧Nats h s xs:=by
 rcases a.slice ksi with rfl | ⟨ad,len,cap,rfl,h1,h2,h3⟩
 ·exact⟨⟨none,0,.is 0⟩,[],rfl,Nats.nil h⟩
 ·rw[ktu]at h3
  have key:∀i,i<len→∃x:Nat,h.cell (.old (ad.add i))=some (u64 x)∧x<18446744073709551616:=by
   intro i hi;obtain⟨es,e1,e2⟩:=h3 i hi;obtain⟨x,rfl,hw⟩:=e2.int k9k;rw[Nat.mul_one]at e1
   have hx:0≤x∧x<18446744073709551616:=by
    have:0≤x∧x≤18446744073709551615:=by simpa[Lit.wf,IntKind.has,IntKind.min,IntKind.max,IntKind.bits,IntKind.signed]using hw
    omega
   refine⟨x.toNat,?_,by omega⟩;show _=some (AV.int .u64 ((x.toNat:Nat):Int));rw[show((x.toNat:Nat):Int)=x from by omega];simp only[AH.gets,Option.bind_eq_some_iff,Option.map_eq_some_iff]at e1;obtain⟨v,e3,l,e4,e5⟩:=e1;simp only[List.cons.injEq]at e5;rw[e3,e5.1]
  have mk:∀n,n≤len→∃xs:List Nat,xs.length=n∧∀(i:Nat)(hi:i<xs.length),h.cell (.old (ad.add i))=some (u64 xs[i])∧xs[i]<18446744073709551616:=by
   intro n
   induction n with
   | zero=>exact fun _=>⟨[],rfl,fun i hi=>by simp at hi⟩
   | succ n ih =>
    intro hn;obtain⟨xs,hl,hx⟩:=ih (by omega);obtain⟨x,k1,k2⟩:=key n (by omega);refine⟨xs++[x],by simp[hl],fun i hi=>?_⟩;simp only[List.length_append,List.length_singleton]at hi;by_cases hin:i<xs.length
    ·rw[List.getElem_append_left hin];exact hx i hin
    ·have:i=n:=by omega
     subst this;rw[List.getElem_append_right (by omega)];simp only[hl,Nat.sub_self,List.getElem_singleton];exact⟨k1,k2⟩
  obtain⟨xs,hl,hx⟩:=mk len (Nat.le_refl _);refine⟨⟨some (.old ad),len,.is cap⟩,xs,rfl,⟨⟨h1,by simp[hl],fun i v hv=>?_⟩,fun x hx'=>?_,?_⟩⟩
  ·rw[List.getElem?_map,Option.map_eq_some_iff]at hv;obtain⟨x,e1,rfl⟩:=hv;obtain⟨hi,rfl⟩:=List.getElem?_eq_some_iff.1 e1;exact⟨_,rfl,(hx i hi).1⟩
  ·obtain⟨i,hi,rfl⟩:=List.getElem_of_mem hx';exact(hx i hi).2
  ·have:maxLen=9223372036854775807:=by decide
   omega
theorem kvz{b:Nat}(hb:1≤b){xs:List Nat}(hx:∀x∈xs,x<b){k:Nat}(hk:k≤xs.length):num b (xs.take k)<b^k:=by
 have:=num_lt (b:=b) hb (xs:=xs.take k) fun x h=>hx x (List.mem_of_mem_take h);rwa[List.length_take,Nat.min_eq_left hk]at this
theorem k3n{b:Nat}(hb:1≤b){xs ys:List Nat}(hx:∀x∈xs,x<b)(hy:∀x∈ys,x<b){k:Nat}(h1:k<xs.length)(h2:k<ys.length) :
  cmp (num b (xs.take (k+1))) (num b (ys.take (k+1)))=if xs[k]<ys[k]then -1 else if xs[k]=ys[k]then cmp (num b (xs.take k)) (num b (ys.take k))else 1:=by
 rw[kcg b h1,kcg b h2];exact k0w (kvz hb hx (by omega)) (kvz hb hy (by omega))
theorem k0l{b:Nat}(hb:2≤b){xs ys:List Nat}(hx:∀x∈xs,x<b)(hy:∀x∈ys,x<b)(tx:Trim xs)(ty:Trim ys)(h:xs.length≠ys.length):cmp (num b xs) (num b ys)=if xs.length<ys.length then -1 else 1:=by
 rcases Nat.lt_or_ge xs.length ys.length with h1 | h1
 ·have:=kor hb hx hy ty h1;simp[cmp,this,h1]
 ·have:=kor hb hy hx tx (by omega);rw[if_neg (by omega)];unfold cmp;rw[if_neg (by omega),if_neg (by omega)]
theorem kwr{h:AH}{s t:Sl}{xs ys:List Nat}(n:Nats h s xs)(m:Nats h t ys)(hl:xs.length=ys.length):∀(k:Nat),k≤xs.length→
  go (.pt kd9 klu [(0,s.v),(1,t.v),(5,.int .i64 ((k:Int)-1))]) h=some (.int .i64 (cmp (num B (xs.take k)) (num B (ys.take k))),h)
 | 0,hk=>by
  rw[kwk];rfl
 | k+1,hk=>by
  have hs:=n.short;obtain⟨r,e1,e2⟩:=n.at (i:=k) (by omega);obtain⟨q,e3,e4⟩:=m.at (i:=k) (by omega);rw[kwk,show(((k+1:Nat):Int)-1)=(k:Int)from by omega,show decide ((k:Int)≥0)=true from by rw[decide_eq_true_eq];omega];simp only[cond_true,e1,e3,e2,e4,Option.bind_some,kb];rw[k3n (by decide) n.lt m.lt (by omega) (by omega),wrap64 (n:=(k:Int)-1) (by omega) (by omega),kwr n m hl k (by omega)];by_cases h1:xs[k]=ys[k]'(by omega)
  ·rw[show decide (((xs[k]:Nat):Int)=((ys[k]'(by omega):Nat):Int))=true from by rw[decide_eq_true_eq];omega];simp[h1]
  ·rw[show decide (((xs[k]:Nat):Int)=((ys[k]'(by omega):Nat):Int))=false from by rw[decide_eq_false_iff_not];omega];by_cases h2:xs[k]<ys[k]'(by omega)
   ·rw[show decide (((xs[k]:Nat):Int)<((ys[k]'(by omega):Nat):Int))=true from by rw[decide_eq_true_eq];omega];simp[h2]
   ·rw[show decide (((xs[k]:Nat):Int)<((ys[k]'(by omega):Nat):Int))=false from by rw[decide_eq_false_iff_not];omega];simp[h1,h2]
theorem klh{h:AH}{s t:Sl}{xs ys:List Nat}(n:Nats h s xs)(m:Nats h t ys)(tx:Trim xs)(ty:Trim ys):go (.fn kd9 [s.v,t.v]) h=some (.int .i64 (cmp (num B xs) (num B ys)),h):=by
 have hs:=n.short;have ht:=m.short;rw[kxq,n.len,m.len];by_cases hl:xs.length=ys.length
 ·rw[show decide ((xs.length:Int)=(ys.length:Int))=true from by rw[decide_eq_true_eq];omega];simp only[Bool.not_true,cond_false];rw[wrap64 (by omega) (by omega),kwr n m hl xs.length (Nat.le_refl _),List.take_length,hl,List.take_length]
 ·rw[show decide ((xs.length:Int)=(ys.length:Int))=false from by rw[decide_eq_false_iff_not];omega,k0l B2 n.lt m.lt tx ty hl];by_cases h1:xs.length<ys.length
  ·rw[show decide ((xs.length:Int)<(ys.length:Int))=true from by rw[decide_eq_true_eq];omega];simp[h1]
  ·rw[show decide ((xs.length:Int)<(ys.length:Int))=false from by rw[decide_eq_false_iff_not];omega];simp[h1]
@[reducible] def D:Nat:=65536
theorem k72{h:AH}{s:Sl}{xs:List Nat}(n:Nats h s xs):go (.fn kdm [s.v]) h=some (.bool (!rt xs),h):=by
 rw[kbc5,kd8 n];rfl
theorem kuo{h:AH}{s:Sl}{rows:List (Sl×List Nat)}(n:Rows h s rows):∀(k i:Nat),i+k=rows.length→
  ∃j:Int,go (.pt kbc kb4 [(0,s.v),(1,.func (.func kdm) [] []),(7,.int .i64 (rows.length:Int)),(8,.int .i64 (i:Int))]) h=some (.int .i64 j,h)∧
   (j≥0↔(rows.drop i).all (fun p=>rt p.2)=false)
 | 0,i,hi=>by
  rw[ksm,show decide ((i:Int)<(rows.length:Int))=false from by rw[decide_eq_false_iff_not];omega,List.drop_of_length_le (by omega)];exact⟨-1,rfl,by simp⟩
 | k+1,i,hi=>by
  have hs:=n.short;obtain⟨r,e1,e2⟩:=n.at (i:=i) (by omega);have hp:=n.each rows[i] (List.getElem_mem _);rw[ksm,show decide ((i:Int)<(rows.length:Int))=true from by rw[decide_eq_true_eq];omega,cond_true,e1];simp only[Option.bind_some,e2,asSl_v,k72 hp,kgt];rw[List.drop_eq_getElem_cons (by omega),List.all_cons,ki (by omega)];cases hr:rt (rows[i].2)with
  | false=>exact⟨(i:Int),rfl,by simp⟩
  | true =>
   obtain⟨j,e3,e4⟩:=kuo n k (i+1) (by omega);exact⟨j,e3,by simpa using e4⟩
theorem kjs{h:AH}{s:Sl}{rows:List (Sl×List Nat)}(n:Rows h s rows):go (.fn kgj [s.v]) h=some (.bool (rows.all fun p=>rt p.2),h):=by
 obtain⟨j,e1,e2⟩:=kuo n rows.length 0 (by omega);rw[kxk,kbbe,k63,n.len];rw[show(0:Int)=((0:Nat):Int)from rfl,e1];simp only[Option.bind_some,kb,kgt];rw[List.drop_zero]at e2;cases ha:rows.all fun p=>rt p.2 with
 | false=>rw[ha]at e2;simp at e2;simp;omega
 | true=>rw[ha]at e2;simp at e2;simp;omega
def cmpN(xs ys:List Nat):Int:=if rt xs=true∧rt ys=true then cmp (num B xs) (num B ys)else 0
theorem kpj{h:AH}{s t:Sl}{xs ys:List Nat}(n:Nats h s xs)(m:Nats h t ys):∃h',go (.fn kfa [s.v,t.v]) h=some (.int .i64 (cmpN xs ys),h')∧Grow h h':=by
 rw[k76];simp only[kjh];have r:=Rows.two n m;have g:=Grow.push h (.cells [s.v,t.v] kr);generalize h.push (.cells [s.v,t.v] kr)=h0 at *
 refine⟨h0,?_,g⟩;rw[kjs r];simp only[Option.bind_some,kgt,List.all_cons,List.all_nil,Bool.and_true];cases hx:rt xs with
 | false=>simp[cmpN,hx]
 | true =>
  cases hy:rt ys with
  | false=>simp[cmpN,hy]
  | true =>
   simp only[Bool.and_self,Bool.not_true,cond_false];rw[klh (n.grow g) (m.grow g) (rt_iff.1 hx).2 (rt_iff.1 hy).2];simp[cmpN,hx,hy]
theorem kie(b:Nat)(ys:List Nat)(k:Nat):num b (ys.take (k+1))=num b (ys.take k)+b^k*ys.getD k 0:=by
 by_cases h:k<ys.length
 ·rw[kcg b h,kcb h]
 ·rw[List.take_of_length_le (by omega),List.take_of_length_le (by omega)];simp[List.getD,List.getElem?_eq_none (show ys.length≤k by omega)]
theorem k7r(zs:List Nat){i:Nat}(v:Nat)(h:i<zs.length):(zs.set i v).take (i+1)=zs.take i++[v]:=by
 apply List.ext_getElem?;intro j;rw[List.getElem?_take];by_cases hi:j<i
 ·rw[if_pos (by omega),List.getElem?_set_ne (by omega),List.getElem?_append_left (by simp;omega),List.getElem?_take,if_pos hi]
 ·by_cases hi2:j=i
  ·subst hi2;rw[if_pos (by omega),List.getElem?_set_self h,List.getElem?_append_right (by simp;omega)];simp[Nat.min_eq_left (show j≤zs.length by omega)]
  ·rw[if_neg (by omega),List.getElem?_eq_none (by simp;omega)]
theorem ko4(b:Nat)(zs:List Nat){i:Nat}(v:Nat)(h:i<zs.length):num b ((zs.set i v).take (i+1))=num b (zs.take i)+b^i*v:=by
 rw[k7r zs v h,kdp];simp[num,Nat.min_eq_left (Nat.le_of_lt h)]
theorem kic{h:AH}{j i:Nat}{zs:List Nat}(b:h.has j (zs.map u64) ke)(v:Nat)(hi:i<zs.length):h.puts (.new j i) [u64 v]=some (h.upd j ((zs.set i v).map u64) ke):=by
 simp only[AH.puts];rw[b.put (by simpa using hi)];simp[List.map_set]
theorem ktn{x y c:Nat}(hx:x<B)(hy:y<B)(hc:c≤1):prim "math/bits.Add64" [u64 x,u64 y,u64 c]=some (.tup [u64 ((x+y+c)%B),u64 ((x+y+c)/B)]):=by
 show cond (decide (0≤(x:Int)∧0≤(y:Int)∧0≤(c:Int)∧(c:Int)≤1)) (some (AV.tup [.int .u64 (((x:Int)+y+c)%18446744073709551616),.int .u64 (((x:Int)+y+c)/18446744073709551616)])) none=_;rw[show decide (0≤(x:Int)∧0≤(y:Int)∧0≤(c:Int)∧(c:Int)≤1)=true from by rw[decide_eq_true_eq];omega];rfl
theorem kkz{xs:List Nat}(h:∀x∈xs,x<18446744073709551616)(i:Nat):xs.getD i 0<B:=by
 show _<18446744073709551616;by_cases hi:i<xs.length
 ·rw[kcb hi];exact h _ (List.getElem_mem _)
 ·simp[List.getD,List.getElem?_eq_none (show xs.length≤i by omega)]
theorem kq0{h:AH}{s t:Sl}{xs ys:List Nat}(n:Nats h s xs)(m:Nats h t ys)(hl:ys.length≤xs.length)(hs:xs.length<4611686018427387904){j:Nat}(hj:h.blks.size≤j) :
  ∀(k i:Nat),i+k=xs.length→∀{hi:AH}{zs:List Nat}{c:Nat},Grow h hi→hi.has j (zs.map u64) ke→zs.length=xs.length+1→(∀z∈zs,z<18446744073709551616)→c≤1→
   num B (zs.take i)+B^i*c=num B (xs.take i)+num B (ys.take i)→
   ∃(h':AH)(zs':List Nat),go (.pt kcu ke7 [(0,s.v),(1,t.v),(5,Sl.v ⟨some (.new j 0),xs.length+1,.is (xs.length+1)⟩),(6,u64 c),(21,.int .i64 (xs.length:Int)),(22,.int .i64 (i:Int))]) hi =
    some (Sl.v ⟨some (.new j 0),xs.length+1,.is (xs.length+1)⟩,h')∧Grow h h'∧h'.has j (zs'.map u64) ke∧zs'.length=xs.length+1∧(∀z∈zs',z<18446744073709551616)∧num B zs'=num B xs+num B ys
 | 0,i,hik,hi,zs,c,g,b,hz,hlt,hc,inv=>by
  rw[ksv,show decide ((i:Int)<(xs.length:Int))=false from by rw[decide_eq_false_iff_not];omega,cond_false,n.len];rw[ker _ _ _ _ (by omega) (by show(xs.length:Int)<((xs.length+1:Nat):Int);omega)];simp only[Option.bind_some,Int.toNat_natCast,Nat.mul_one,Ref.add_new,Nat.zero_add];rw[kic b c (by omega)];refine⟨_,zs.set xs.length c,rfl,g.upd hj _ _,AH.has_upd b _ _,by simpa using hz,fun z hzm=>?_,?_⟩
  ·rcases List.mem_or_eq_of_mem_set hzm with h1 | rfl
   ·exact hlt z h1
   ·omega
  ·have e:=ko4 B zs c (i:=xs.length) (by omega);rw[List.take_of_length_le (by simp;omega)]at e;have:i=xs.length:=by omega
   subst this;rw[e,inv,List.take_length,List.take_of_length_le hl]
 | k+1,i,hik,hi,zs,c,g,b,hz,hlt,hc,inv=>by
  have n':=n.grow g;have m':=m.grow g;obtain⟨r,e1,e2⟩:=n'.at (i:=i) (by omega);have hx:xs.getD i 0<B:=kkz n.lt i;have hy:ys.getD i 0<B:=kkz m.lt i
  have next:∃(h':AH)(zs':List Nat),go (.pt kcu ke7 [(0,s.v),(1,t.v),(5,Sl.v ⟨some (.new j 0),xs.length+1,.is (xs.length+1)⟩),(6,u64 ((xs.getD i 0+ys.getD i 0+c)/B)),(21,.int .i64 (xs.length:Int)),(22,.int .i64 ((i+1:Nat):Int))]) (hi.upd j ((zs.set i ((xs.getD i 0+ys.getD i 0+c)%B)).map u64) ke) =
    some (Sl.v ⟨some (.new j 0),xs.length+1,.is (xs.length+1)⟩,h')∧Grow h h'∧h'.has j (zs'.map u64) ke∧zs'.length=xs.length+1∧(∀z∈zs',z<18446744073709551616)∧num B zs'=num B xs+num B ys:=by
   refine kq0 n m hl hs hj k (i+1) (by omega) (g.upd hj _ _) (AH.has_upd b _ _) (by simpa using hz) (fun z hzm=>?_) ?_ ?_
   ·rcases List.mem_or_eq_of_mem_set hzm with h1 | rfl
    ·exact hlt z h1
    ·exact Nat.mod_lt _ (by decide)
   ·have h1:xs.getD i 0<18446744073709551616:=hx;have h2:ys.getD i 0<18446744073709551616:=hy;show(xs.getD i 0+ys.getD i 0+c)/18446744073709551616≤1;omega
   ·rw[ko4 B zs _ (by omega),kie B xs i,kie B ys i];have e:=Nat.mod_add_div (xs.getD i 0+ys.getD i 0+c) B;generalize hq:(xs.getD i 0+ys.getD i 0+c)%B=q at *
    generalize hw:(xs.getD i 0+ys.getD i 0+c)/B=w at *
    rw[Nat.pow_succ,Nat.mul_assoc,Nat.add_assoc,← Nat.mul_add,e,Nat.mul_add,Nat.mul_add];omega
  rw[ksv,show decide ((i:Int)<(xs.length:Int))=true from by rw[decide_eq_true_eq];omega,cond_true,m.len,ki (by omega)]
  have put:idx (some (.new j 0)) (xs.length+1) (i:Int) 1=some (.new j i):=by
   rw[ker _ _ _ _ (by omega) (by omega)];simp
  by_cases hi2:i<ys.length
  ·obtain⟨q,e3,e4⟩:=m'.at (i:=i) hi2;rw[show decide ((i:Int)<(ys.length:Int))=true from by rw[decide_eq_true_eq];omega,cond_true];rw[← m.len,e3,e1];simp only[Option.bind_some,e2,e4,kb];have ex:((xs[i]:Nat):Int)=((xs.getD i 0:Nat):Int):=by rw[kcb (by omega)]
   have ey:((ys[i]:Nat):Int)=((ys.getD i 0:Nat):Int):=by rw[kcb hi2]
   rw[ex,ey];have pa:=ktn hx hy hc;simp only[u64]at pa⊢;rw[pa];simp only[Option.map_some,Option.bind_some,khq,kb,put];rw[show hi.puts (.new j i) [AV.int .u64 (((xs.getD i 0+ys.getD i 0+c)%B:Nat):Int)]=_ from kic b _ (by omega)];exact next
  ·have hy0:ys.getD i 0=0:=by simp[List.getD,List.getElem?_eq_none (show ys.length≤i by omega)]
   rw[show decide ((i:Int)<(ys.length:Int))=false from by rw[decide_eq_false_iff_not];omega,cond_false,e1];simp only[Option.bind_some,e2,kb];have ex:((xs[i]:Nat):Int)=((xs.getD i 0:Nat):Int):=by rw[kcb (by omega)]
   rw[ex];have pa:=ktn hx hy hc;simp only[u64]at pa⊢;rw[hy0]at pa;rw[show(AV.int .u64 0)=AV.int .u64 ((0:Nat):Int)from rfl,pa];simp only[Option.map_some,Option.bind_some,khq,kb,put];rw[hy0]at next;rw[show hi.puts (.new j i) [AV.int .u64 (((xs.getD i 0+0+c)%B:Nat):Int)]=_ from kic b _ (by omega)];exact next
theorem kwl{h:AH}{l:Int}{n:Nat}(hl:l=(n:Int))(hn:n≤8796093022207):kbd l l ke (Pg.bytesOf ke) [.int .u64 0] h=some (⟨some (.new h.blks.size 0),n,.is n⟩,h.push (.cells ((List.replicate n 0).map u64) ke)):=by
 rw[kd3,kqb hl hl (by omega) (by omega),ko5];simp;rfl
theorem k4e(b n:Nat):num b (List.replicate n 0)=0:=by
 have:=kiq b [] n
 simpa[num]using this
theorem kwm{h:AH}{s t:Sl}{xs ys:List Nat}(n:Nats h s xs)(m:Nats h t ys)(hx:xs.length≤1073741824)(hy:ys.length≤1073741824) :
  ∃(s':Sl)(h':AH)(zs:List Nat),go (.fn kcu [s.v,t.v]) h=some (s'.v,h')∧Nats h' s' zs∧Grow h h'∧Own h s'∧num B zs=num B xs+num B ys∧zs.length=max xs.length ys.length+1:=by
 have key:∀{s t:Sl}{xs ys:List Nat},Nats h s xs→Nats h t ys→xs.length≤1073741824→ys.length≤xs.length→∃(s':Sl)(h':AH)(zs:List Nat),
   ((kbd (IntKind.wrap .i64 ((s.len:Int)+1)) (IntKind.wrap .i64 ((s.len:Int)+1)) ke (Pg.bytesOf ke) [.int .u64 0] h).bind fun q4 =>
   go (.pt kcu ke7 [(0,s.v),(1,t.v),(5,q4.1.v),(6,.int .u64 0),(21,.int .i64 (s.len:Int)),(22,.int .i64 0)]) q4.2)=some (s'.v,h')∧Nats h' s' zs∧Grow h h'∧Own h s'∧num B zs=num B xs+num B ys∧zs.length=xs.length+1:=by
  intro s t xs ys n m hx hle;rw[n.len,ki (by omega),kwl rfl (by omega)];simp only[Option.bind_some];have g0:=Grow.push h (.cells ((List.replicate (xs.length+1) 0).map u64) ke);have b0:=AH.has_push h ((List.replicate (xs.length+1) 0).map u64) ke;obtain⟨h',zs,e1,g1,b1,l1,lt1,v1⟩:=kq0 n m hle (by omega) (Nat.le_refl h.blks.size) xs.length 0 (by omega) (c:=0) g0 b0 (by simp) (by simp) (by omega) (by simp[num]);refine⟨_,h',zs,e1,⟨Cells.of_has b1 (by simp[l1]),lt1,by omega⟩,g1,fun r hr=>?_,v1,l1⟩;cases hr;exact⟨_,_,rfl,Nat.le_refl _⟩
 rw[kbc8];by_cases hlt:xs.length<ys.length
 ·rw[show decide ((s.len:Int)<(t.len:Int))=true from by rw[decide_eq_true_eq,n.len,m.len];omega,cond_true];obtain⟨s',h',zs,e1,e2,e3,e4,e5,e6⟩:=key m n hy (by omega);exact⟨s',h',zs,e1,e2,e3,e4,by rw[e5];omega,by rw[e6];omega⟩
 ·rw[show decide ((s.len:Int)<(t.len:Int))=false from by rw[decide_eq_false_iff_not,n.len,m.len];omega,cond_false];obtain⟨s',h',zs,e1,e2,e3,e4,e5,e6⟩:=key n m hx (by omega);exact⟨s',h',zs,e1,e2,e3,e4,e5,by rw[e6];omega⟩
def told(n:Nat):List Nat×Int:=if n<B^64 then(digs B n,0)else([],4)
theorem kn8{h:AH}{s:Sl}{xs:List Nat}(n:Nats h s xs):∃s':Sl,go (.fn kix [s.v]) h=some (.tup [s'.v,.int .i64 (told (num B xs)).2],h)∧Nats h s' (told (num B xs)).1∧∀h0,Own h0 s→Own h0 s':=by
 obtain⟨s',e1,n1,o1⟩:=kcx n;rw[k3f,e1];simp only[Option.bind_some,asSl_v];unfold told;by_cases hn:num B xs<B^64
 ·have:=(kbg B2 (num B xs) 64).2 hn;rw[if_pos hn,show decide ((s'.len:Int)>64)=false from by rw[decide_eq_false_iff_not,n1.len];omega];exact⟨s',rfl,n1,o1⟩
 ·have:¬(digs B (num B xs)).length≤64:=fun h=>hn ((kbg B2 _ _).1 h);rw[if_neg hn,show decide ((s'.len:Int)>64)=true from by rw[decide_eq_true_eq,n1.len];omega];exact⟨⟨none,0,.is 0⟩,rfl,Nats.nil h,fun h0 _=>Own.nil h0⟩
end Go.Ab
