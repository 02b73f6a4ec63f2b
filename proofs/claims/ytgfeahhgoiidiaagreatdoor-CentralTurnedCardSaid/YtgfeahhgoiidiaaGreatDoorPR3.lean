/- squeezed -/
import Derived.Test.YtgfeahhgoiidiaaGreatDoorPS31
import Derived.Test.YtgfeahhgoiidiaaGreatDoorPAbsS
set_option linter.unusedVariables false
set_option linter.unusedSimpArgs false
set_option linter.unusedSectionVars false

set_option maxRecDepth 10000
namespace Go.Ab
open Go.Proofs Go.Num
def kcc(a1:Bool)(x2 x3:List Nat)(a4:Bool)(x5 x6:List Nat):Bool×List Nat×List Nat×Int :=
 cond (!((kbb a1 x2 x3&&kbb a4 x5 x6))) ((false,[],[],1)) (((((kba (((kz ((kf a1 x2 x3 a4 x5 x6).1) ((kf a1 x2 x3 a4 x5 x6).2) ((kf a4 x5 x6 a1 x2 x3).1) ((kf a4 x5 x6 a1 x2 x3).2)).1)) ((kz ((kf a1 x2 x3 a4 x5 x6).1) ((kf a1 x2 x3 a4 x5 x6).2) ((kf a4 x5 x6 a1 x2 x3).1) ((kf a4 x5 x6 a1 x2 x3).2)).2.1) ((mulN x3 x6).1)).1)),(kba (((kz ((kf a1 x2 x3 a4 x5 x6).1) ((kf a1 x2 x3 a4 x5 x6).2) ((kf a4 x5 x6 a1 x2 x3).1) ((kf a4 x5 x6 a1 x2 x3).2)).1)) ((kz ((kf a1 x2 x3 a4 x5 x6).1) ((kf a1 x2 x3 a4 x5 x6).2) ((kf a4 x5 x6 a1 x2 x3).1) ((kf a4 x5 x6 a1 x2 x3).2)).2.1) ((mulN x3 x6).1)).2.1,(kba (((kz ((kf a1 x2 x3 a4 x5 x6).1) ((kf a1 x2 x3 a4 x5 x6).2) ((kf a4 x5 x6 a1 x2 x3).1) ((kf a4 x5 x6 a1 x2 x3).2)).1)) ((kz ((kf a1 x2 x3 a4 x5 x6).1) ((kf a1 x2 x3 a4 x5 x6).2) ((kf a4 x5 x6 a1 x2 x3).1) ((kf a4 x5 x6 a1 x2 x3).2)).2.1) ((mulN x3 x6).1)).2.2.1,((kba (((kz ((kf a1 x2 x3 a4 x5 x6).1) ((kf a1 x2 x3 a4 x5 x6).2) ((kf a4 x5 x6 a1 x2 x3).1) ((kf a4 x5 x6 a1 x2 x3).2)).1)) ((kz ((kf a1 x2 x3 a4 x5 x6).1) ((kf a1 x2 x3 a4 x5 x6).2) ((kf a4 x5 x6 a1 x2 x3).1) ((kf a4 x5 x6 a1 x2 x3).2)).2.1) ((mulN x3 x6).1)).2.2.2)))
theorem kxw{h:AH}{a2:Sl}{x2:List Nat}{a3:Sl}{x3:List Nat}{a5:Sl}{x5:List Nat}{a6:Sl}{x6:List Nat}(n2:Nats h a2 x2)(n3:Nats h a3 x3)(n5:Nats h a5 x5)(n6:Nats h a6 x6)(a1 a4:Bool):Runs (go (.fn F.kid [.agg [.bool a1,a2.v,a3.v],.agg [.bool a4,a5.v,a6.v],.func (.func F.kgk) [] []]) h) fun v h'=>∃s1:Sl,∃s2:Sl,v=.tup [.agg [.bool (kcc a1 x2 x3 a4 x5 x6).1,s1.v,s2.v],.int .i64 (kcc a1 x2 x3 a4 x5 x6).2.2.2]∧Nats h' s1 ((kcc a1 x2 x3 a4 x5 x6).2.1)∧Nats h' s2 ((kcc a1 x2 x3 a4 x5 x6).2.2.1)∧Grow h h'∧Own h s1∧Own h s2:=by
 rw[kbbz];refine Runs.new fun H7 b7 g7=>?_;refine Runs.new fun H8 b8 g8=>?_;refine Runs.new fun H9 b9 g9=>?_;refine Runs.step (AH.has.rd ((g8.trans g9).has b7) 0 rfl rfl) ?_;refine Runs.step (AH.has.rd ((g8.trans g9).has b7) 1 rfl (asSl_v _)) ?_;refine Runs.step (AH.has.rd ((g8.trans g9).has b7) 2 rfl (asSl_v _)) ?_;refine Runs.step (AH.has.rd (g9.has b8) 0 rfl rfl) ?_;refine Runs.step (AH.has.rd (g9.has b8) 1 rfl (asSl_v _)) ?_;refine Runs.step (AH.has.rd (g9.has b8) 2 rfl (asSl_v _)) ?_;refine Runs.new fun H10 b10 g10=>?_;have G11:=(((g7.trans g8).trans g9).trans g10);have n2_12:=n2.grow G11;have n3_13:=n3.grow G11;have n5_14:=n5.grow G11;have n6_15:=n6.grow G11;obtain⟨H16,e16,g16⟩:=kn9 b10 n2_12 n3_13 n5_14 n6_15;refine Runs.step e16 ?_;refine Runs.step (seen rfl) ?_;refine Runs.cond (fun k17=>?_) (fun k17=>?_)
 ·refine Runs.puts ((g10.trans g16).has b9) rfl fun H18 b18 u18=>?_;have n2_18:=(n2_12.grow g16).upda (Av.of_base n2 (Nat.le_trans ((g7.trans g8)).size (Nat.le_refl _))) u18;have n3_18:=(n3_13.grow g16).upda (Av.of_base n3 (Nat.le_trans ((g7.trans g8)).size (Nat.le_refl _))) u18;have n5_18:=(n5_14.grow g16).upda (Av.of_base n5 (Nat.le_trans ((g7.trans g8)).size (Nat.le_refl _))) u18;have n6_18:=(n6_15.grow g16).upda (Av.of_base n6 (Nat.le_trans ((g7.trans g8)).size (Nat.le_refl _))) u18;have b10_18:=AH.has.updr (g16.has b10) (Nat.ne_of_gt (Nat.lt_of_lt_of_le (b9).lt (Nat.le_refl _))) u18;refine Runs.step (AH.has.rd b18 0 rfl rfl) ?_;refine Runs.step (AH.has.rd b18 1 rfl (asSl_v _)) ?_;refine Runs.step (AH.has.rd b18 2 rfl (asSl_v _)) ?_;have z:kcc a1 x2 x3 a4 x5 x6=(false,[],[],1):=by unfold kcc;exact(condT k17).trans rfl
  rw[z];have G19:=((G11.trans g16).updr (Nat.le_trans ((g7.trans g8)).size (Nat.le_refl _)) u18);exact Runs.ret ⟨(⟨none,0,.is 0⟩:Sl),(⟨none,0,.is 0⟩:Sl),rfl,(Nats.nil _),(Nats.nil _),G19,(Own.nil _),(Own.nil _)⟩
 ·refine Runs.new fun H18 b18 g18=>?_;have G19:=((((g8.trans g9).trans g10).trans g16).trans g18);have b7_20:=G19.has b7;refine Runs.step (AH.has.rd b7_20 0 rfl rfl) ?_;refine Runs.step (AH.has.rd b7_20 1 rfl (asSl_v _)) ?_;refine Runs.step (AH.has.rd b7_20 2 rfl (asSl_v _)) ?_;have G21:=(((g9.trans g10).trans g16).trans g18);have b8_22:=G21.has b8;refine Runs.step (AH.has.rd b8_22 0 rfl rfl) ?_;refine Runs.step (AH.has.rd b8_22 1 rfl (asSl_v _)) ?_;refine Runs.step (AH.has.rd b8_22 2 rfl (asSl_v _)) ?_;refine Runs.step (AH.has.rd b8_22 0 rfl rfl) ?_;refine Runs.step (AH.has.rd b8_22 1 rfl (asSl_v _)) ?_;refine Runs.step (AH.has.rd b8_22 2 rfl (asSl_v _)) ?_;refine Runs.step (AH.has.rd b7_20 0 rfl rfl) ?_;refine Runs.step (AH.has.rd b7_20 1 rfl (asSl_v _)) ?_;refine Runs.step (AH.has.rd b7_20 2 rfl (asSl_v _)) ?_;obtain⟨_,H23,e23,s23,rfl,n23,g23,o23⟩:=kho (n2_12.grow (g16.trans g18)) (n3_13.grow (g16.trans g18)) (n5_14.grow (g16.trans g18)) (n6_15.grow (g16.trans g18)) a1 a4;refine Runs.step e23 ?_;refine Runs.step rfl ?_;refine Runs.ifT rfl ?_;refine Runs.step (seenAt rfl rfl) ?_;refine Runs.step (seenAt rfl (asSl_v _)) ?_;refine Runs.when (g23.same b7_20 0 3) ?_;refine Runs.when (g23.same b8_22 0 3) ?_;refine Runs.when (g23.same b18 0 0) ?_;have G24:=((g16.trans g18).trans g23);have n5_25:=n5_14.grow G24;have n6_26:=n6_15.grow G24;have n2_27:=n2_12.grow G24;have n3_28:=n3_13.grow G24;obtain⟨_,H29,e29,s29,rfl,n29,g29,o29⟩:=kho n5_25 n6_26 n2_27 n3_28 a4 a1;refine Runs.step e29 ?_;refine Runs.step rfl ?_;refine Runs.ifT rfl ?_;refine Runs.step (seenAt rfl rfl) ?_;refine Runs.step (seenAt rfl (asSl_v _)) ?_;refine Runs.when (g29.same (g23.has b18) 0 0) ?_;obtain⟨_,H30,e30,s30,rfl,n30,g30,o30⟩:=ksx (n23.grow g29) n29 ((kf a1 x2 x3 a4 x5 x6).1) ((kf a4 x5 x6 a1 x2 x3).1);refine Runs.step e30 ?_;refine Runs.step rfl ?_;refine Runs.step rfl ?_;refine Runs.ifT rfl ?_;refine Runs.step (seenAt rfl rfl) ?_;refine Runs.step (seenAt rfl (asSl_v _)) ?_;refine Runs.step (seen (kb _ _)) ?_;refine Runs.when (g30.same ((g23.trans g29).has b18) 0 0) ?_;have G32:=((g23.trans g29).trans g30);have b18_33:=G32.has b18;refine Runs.puts b18_33 rfl fun H31 b31 u31=>?_;have G34:=(G11.trans g16);have n2_31:=(n2_27.grow (g29.trans g30)).upda (Av.of_base n2 (Nat.le_trans (G34).size (Nat.le_refl _))) u31;have n3_31:=(n3_28.grow (g29.trans g30)).upda (Av.of_base n3 (Nat.le_trans (G34).size (Nat.le_refl _))) u31;have n5_31:=(n5_25.grow (g29.trans g30)).upda (Av.of_base n5 (Nat.le_trans (G34).size (Nat.le_refl _))) u31;have n6_31:=(n6_26.grow (g29.trans g30)).upda (Av.of_base n6 (Nat.le_trans (G34).size (Nat.le_refl _))) u31;have n23_31:=(n23.grow (g29.trans g30)).upda (Av.of_own o23 (b18).lt) u31;have n29_31:=(n29.grow g30).upda (Av.of_own o29 (g23.has b18).lt) u31;have n30_31:=n30.upda (Av.of_own o30 ((g23.trans g29).has b18).lt) u31;have b7_35:=G32.has b7_20;have G36:=(((g8.trans g9).trans g10).trans g16);have b7_31:=AH.has.updr b7_35 (Nat.ne_of_lt (Nat.lt_of_lt_of_le (G36.has b7).lt (Nat.le_refl _))) u31;have b8_37:=G32.has b8_22;have G38:=((g9.trans g10).trans g16);have b8_31:=AH.has.updr b8_37 (Nat.ne_of_lt (Nat.lt_of_lt_of_le (G38.has b8).lt (Nat.le_refl _))) u31;refine Runs.step (AH.has.rd b7_31 2 rfl (asSl_v _)) ?_;refine Runs.step (AH.has.rd b8_31 2 rfl (asSl_v _)) ?_;obtain⟨s39,H39,e39,n39,g39,o39⟩:=ko2 n3_31 n6_31;refine Runs.step e39 ?_;refine Runs.step rfl ?_;refine Runs.step (seen (asSl_v _)) ?_;refine Runs.step (seen (kb _ _)) ?_;refine Runs.step (AH.has.rd (g39.has b31) 0 rfl rfl) ?_;refine Runs.step (AH.has.rd (g39.has b31) 1 rfl (asSl_v _)) ?_;obtain⟨_,H40,e40,s40,s40b,rfl,n40,n40b,g40,o40,o40b⟩:=kl2 (n30_31.grow g39) n39 (((kz ((kf a1 x2 x3 a4 x5 x6).1) ((kf a1 x2 x3 a4 x5 x6).2) ((kf a4 x5 x6 a1 x2 x3).1) ((kf a4 x5 x6 a1 x2 x3).2)).1));refine Runs.step e40 ?_;refine Runs.step rfl ?_;refine Runs.step rfl ?_;refine Runs.ifT rfl ?_;refine Runs.step (seenAt rfl rfl) ?_;refine Runs.step (seenAt rfl (asSl_v _)) ?_;refine Runs.step (seenAt rfl (asSl_v _)) ?_;refine Runs.step (seen (kb _ _)) ?_;have G42:=((((((((g10.trans g16).trans g18).trans g23).trans g29).trans g30).updr (Nat.le_trans ((g10.trans g16)).size (Nat.le_refl _)) u31).trans g39).trans g40);have b9_43:=G42.has b9;refine Runs.puts b9_43 rfl fun H41 b41 u41=>?_;have n2_41:=(n2_31.grow (g39.trans g40)).upda (Av.of_base n2 (Nat.le_trans ((g7.trans g8)).size (Nat.le_refl _))) u41;have n3_41:=(n3_31.grow (g39.trans g40)).upda (Av.of_base n3 (Nat.le_trans ((g7.trans g8)).size (Nat.le_refl _))) u41;have n5_41:=(n5_31.grow (g39.trans g40)).upda (Av.of_base n5 (Nat.le_trans ((g7.trans g8)).size (Nat.le_refl _))) u41;have n6_41:=(n6_31.grow (g39.trans g40)).upda (Av.of_base n6 (Nat.le_trans ((g7.trans g8)).size (Nat.le_refl _))) u41;have G44:=((g10.trans g16).trans g18);have n23_41:=(n23_31.grow (g39.trans g40)).upda (Av.of_own o23 (G44.has b9).lt) u41;have G45:=(G44.trans g23);have n29_41:=(n29_31.grow (g39.trans g40)).upda (Av.of_own o29 (G45.has b9).lt) u41;have G46:=(G45.trans g29);have n30_41:=(n30_31.grow (g39.trans g40)).upda (Av.of_own o30 (G46.has b9).lt) u41;have G47:=((G46.trans g30).updr (Nat.le_trans ((g10.trans g16)).size (Nat.le_refl _)) u31);have n39_41:=(n39.grow g40).upda (Av.of_own o39 (G47.has b9).lt) u41;have G48:=(G47.trans g39);have n40_41:=n40.upda (Av.of_own o40 (G48.has b9).lt) u41;have n40b_41:=n40b.upda (Av.of_own o40b (G48.has b9).lt) u41;have b7_41:=AH.has.updr ((g39.trans g40).has b7_31) (Nat.ne_of_lt (Nat.lt_of_lt_of_le (g8.has b7).lt (Nat.le_refl _))) u41;have b8_41:=AH.has.updr ((g39.trans g40).has b8_31) (Nat.ne_of_lt (Nat.lt_of_lt_of_le (b8).lt (Nat.le_refl _))) u41;have G49:=(((((G24.trans g29).trans g30).updr (Nat.le_trans (g16).size (Nat.le_refl _)) u31).trans g39).trans g40);have b10_50:=G49.has b10;have b10_41:=AH.has.updr b10_50 (Nat.ne_of_gt (Nat.lt_of_lt_of_le (b9).lt (Nat.le_refl _))) u41;have b31_41:=AH.has.updr ((g39.trans g40).has b31) (Nat.ne_of_gt (Nat.lt_of_lt_of_le ((g10.trans g16).has b9).lt (Nat.le_refl _))) u41;refine Runs.step (AH.has.rd b41 0 rfl rfl) ?_;refine Runs.step (AH.has.rd b41 1 rfl (asSl_v _)) ?_;refine Runs.step (AH.has.rd b41 2 rfl (asSl_v _)) ?_;have z:kcc a1 x2 x3 a4 x5 x6=((((kba (((kz ((kf a1 x2 x3 a4 x5 x6).1) ((kf a1 x2 x3 a4 x5 x6).2) ((kf a4 x5 x6 a1 x2 x3).1) ((kf a4 x5 x6 a1 x2 x3).2)).1)) ((kz ((kf a1 x2 x3 a4 x5 x6).1) ((kf a1 x2 x3 a4 x5 x6).2) ((kf a4 x5 x6 a1 x2 x3).1) ((kf a4 x5 x6 a1 x2 x3).2)).2.1) ((mulN x3 x6).1)).1)),(kba (((kz ((kf a1 x2 x3 a4 x5 x6).1) ((kf a1 x2 x3 a4 x5 x6).2) ((kf a4 x5 x6 a1 x2 x3).1) ((kf a4 x5 x6 a1 x2 x3).2)).1)) ((kz ((kf a1 x2 x3 a4 x5 x6).1) ((kf a1 x2 x3 a4 x5 x6).2) ((kf a4 x5 x6 a1 x2 x3).1) ((kf a4 x5 x6 a1 x2 x3).2)).2.1) ((mulN x3 x6).1)).2.1,(kba (((kz ((kf a1 x2 x3 a4 x5 x6).1) ((kf a1 x2 x3 a4 x5 x6).2) ((kf a4 x5 x6 a1 x2 x3).1) ((kf a4 x5 x6 a1 x2 x3).2)).1)) ((kz ((kf a1 x2 x3 a4 x5 x6).1) ((kf a1 x2 x3 a4 x5 x6).2) ((kf a4 x5 x6 a1 x2 x3).1) ((kf a4 x5 x6 a1 x2 x3).2)).2.1) ((mulN x3 x6).1)).2.2.1,((kba (((kz ((kf a1 x2 x3 a4 x5 x6).1) ((kf a1 x2 x3 a4 x5 x6).2) ((kf a4 x5 x6 a1 x2 x3).1) ((kf a4 x5 x6 a1 x2 x3).2)).1)) ((kz ((kf a1 x2 x3 a4 x5 x6).1) ((kf a1 x2 x3 a4 x5 x6).2) ((kf a4 x5 x6 a1 x2 x3).1) ((kf a4 x5 x6 a1 x2 x3).2)).2.1) ((mulN x3 x6).1)).2.2.2)):=by unfold kcc;exact(condF k17).trans rfl
  rw[z];have G51:=((((((G34.trans g18).trans g23).trans g29).trans g30).updr (Nat.le_trans (G34).size (Nat.le_refl _)) u31).trans g39);have G52:=((G51.trans g40).updr (Nat.le_trans ((g7.trans g8)).size (Nat.le_refl _)) u41);exact Runs.ret ⟨s40,s40b,rfl,n40_41,n40b_41,G52,(o40.of_le G51),(o40b.of_le G51)⟩
def kdr(a1:Bool)(x2 x3:List Nat)(a4:Bool)(x5 x6:List Nat):Bool×List Nat×List Nat×Int :=
 ((((kcc a1 x2 x3 a4 x5 x6).1)),(kcc a1 x2 x3 a4 x5 x6).2.1,(kcc a1 x2 x3 a4 x5 x6).2.2.1,((kcc a1 x2 x3 a4 x5 x6).2.2.2))
theorem k57{h:AH}{a2:Sl}{x2:List Nat}{a3:Sl}{x3:List Nat}{a5:Sl}{x5:List Nat}{a6:Sl}{x6:List Nat}(n2:Nats h a2 x2)(n3:Nats h a3 x3)(n5:Nats h a5 x5)(n6:Nats h a6 x6)(a1 a4:Bool):Runs (go (.fn F.klg [.agg [.bool a1,a2.v,a3.v],.agg [.bool a4,a5.v,a6.v]]) h) fun v h'=>∃s1:Sl,∃s2:Sl,v=.tup [.agg [.bool (kdr a1 x2 x3 a4 x5 x6).1,s1.v,s2.v],.int .i64 (kdr a1 x2 x3 a4 x5 x6).2.2.2]∧Nats h' s1 ((kdr a1 x2 x3 a4 x5 x6).2.1)∧Nats h' s2 ((kdr a1 x2 x3 a4 x5 x6).2.2.1)∧Grow h h'∧Own h s1∧Own h s2:=by
 rw[k8f];refine Runs.new fun H7 b7 g7=>?_;refine Runs.new fun H8 b8 g8=>?_;refine Runs.new fun H9 b9 g9=>?_;refine Runs.step (AH.has.rd ((g8.trans g9).has b7) 0 rfl rfl) ?_;refine Runs.step (AH.has.rd ((g8.trans g9).has b7) 1 rfl (asSl_v _)) ?_;refine Runs.step (AH.has.rd ((g8.trans g9).has b7) 2 rfl (asSl_v _)) ?_;refine Runs.step (AH.has.rd (g9.has b8) 0 rfl rfl) ?_;refine Runs.step (AH.has.rd (g9.has b8) 1 rfl (asSl_v _)) ?_;refine Runs.step (AH.has.rd (g9.has b8) 2 rfl (asSl_v _)) ?_;have G10:=((g7.trans g8).trans g9);have n2_11:=n2.grow G10;have n3_12:=n3.grow G10;have n5_13:=n5.grow G10;have n6_14:=n6.grow G10;obtain⟨_,H15,e15,s15,s15b,rfl,n15,n15b,g15,o15,o15b⟩:=kxw n2_11 n3_12 n5_13 n6_14 a1 a4;refine Runs.step e15 ?_;refine Runs.step rfl ?_;refine Runs.step rfl ?_;refine Runs.ifT rfl ?_;refine Runs.step (seenAt rfl rfl) ?_;refine Runs.step (seenAt rfl (asSl_v _)) ?_;refine Runs.step (seenAt rfl (asSl_v _)) ?_;refine Runs.step (seen (kb _ _)) ?_;refine Runs.puts (g15.has b9) rfl fun H16 b16 u16=>?_;have n2_16:=(n2_11.grow g15).upda (Av.of_base n2 (Nat.le_trans ((g7.trans g8)).size (Nat.le_refl _))) u16;have n3_16:=(n3_12.grow g15).upda (Av.of_base n3 (Nat.le_trans ((g7.trans g8)).size (Nat.le_refl _))) u16;have n5_16:=(n5_13.grow g15).upda (Av.of_base n5 (Nat.le_trans ((g7.trans g8)).size (Nat.le_refl _))) u16;have n6_16:=(n6_14.grow g15).upda (Av.of_base n6 (Nat.le_trans ((g7.trans g8)).size (Nat.le_refl _))) u16;have n15_16:=n15.upda (Av.of_own o15 (b9).lt) u16;have n15b_16:=n15b.upda (Av.of_own o15b (b9).lt) u16;refine Runs.step (AH.has.rd b16 0 rfl rfl) ?_;refine Runs.step (AH.has.rd b16 1 rfl (asSl_v _)) ?_;refine Runs.step (AH.has.rd b16 2 rfl (asSl_v _)) ?_;have z:kdr a1 x2 x3 a4 x5 x6=((((kcc a1 x2 x3 a4 x5 x6).1)),(kcc a1 x2 x3 a4 x5 x6).2.1,(kcc a1 x2 x3 a4 x5 x6).2.2.1,((kcc a1 x2 x3 a4 x5 x6).2.2.2)):=by unfold kdr;exact rfl
 rw[z];have G17:=((G10.trans g15).updr (Nat.le_trans ((g7.trans g8)).size (Nat.le_refl _)) u16);exact Runs.ret ⟨s15,s15b,rfl,n15_16,n15b_16,G17,(o15.of_le G10),(o15b.of_le G10)⟩
theorem k6o{h:AH}{a2:Sl}{x2:List Nat}{a3:Sl}{x3:List Nat}{a5:Sl}{x5:List Nat}{a6:Sl}{x6:List Nat}(n2:Nats h a2 x2)(n3:Nats h a3 x3)(n5:Nats h a5 x5)(n6:Nats h a6 x6){a1 a4:Bool}{r:_}(q:kdr a1 x2 x3 a4 x5 x6=r):Runs (go (.fn F.klg [.agg [.bool a1,a2.v,a3.v],.agg [.bool a4,a5.v,a6.v]]) h) fun v h'=>∃s1:Sl,∃s2:Sl,v=.tup [.agg [.bool r.1,s1.v,s2.v],.int .i64 r.2.2.2]∧Nats h' s1 (r.2.1)∧Nats h' s2 (r.2.2.1)∧Grow h h'∧Own h s1∧Own h s2:=by
 subst q;exact k57 n2 n3 n5 n6 a1 a4
def kcb(a1:Bool)(x2 x3:List Nat)(a4:Bool)(x5 x6:List Nat):Bool×List Nat×List Nat×Int :=
 cond (!((kbb a1 x2 x3&&kbb a4 x5 x6))) ((false,[],[],1)) (((((kba (((kbj ((kf a1 x2 x3 a4 x5 x6).1) ((kf a1 x2 x3 a4 x5 x6).2) ((kf a4 x5 x6 a1 x2 x3).1) ((kf a4 x5 x6 a1 x2 x3).2)).1)) ((kbj ((kf a1 x2 x3 a4 x5 x6).1) ((kf a1 x2 x3 a4 x5 x6).2) ((kf a4 x5 x6 a1 x2 x3).1) ((kf a4 x5 x6 a1 x2 x3).2)).2.1) ((mulN x3 x6).1)).1)),(kba (((kbj ((kf a1 x2 x3 a4 x5 x6).1) ((kf a1 x2 x3 a4 x5 x6).2) ((kf a4 x5 x6 a1 x2 x3).1) ((kf a4 x5 x6 a1 x2 x3).2)).1)) ((kbj ((kf a1 x2 x3 a4 x5 x6).1) ((kf a1 x2 x3 a4 x5 x6).2) ((kf a4 x5 x6 a1 x2 x3).1) ((kf a4 x5 x6 a1 x2 x3).2)).2.1) ((mulN x3 x6).1)).2.1,(kba (((kbj ((kf a1 x2 x3 a4 x5 x6).1) ((kf a1 x2 x3 a4 x5 x6).2) ((kf a4 x5 x6 a1 x2 x3).1) ((kf a4 x5 x6 a1 x2 x3).2)).1)) ((kbj ((kf a1 x2 x3 a4 x5 x6).1) ((kf a1 x2 x3 a4 x5 x6).2) ((kf a4 x5 x6 a1 x2 x3).1) ((kf a4 x5 x6 a1 x2 x3).2)).2.1) ((mulN x3 x6).1)).2.2.1,((kba (((kbj ((kf a1 x2 x3 a4 x5 x6).1) ((kf a1 x2 x3 a4 x5 x6).2) ((kf a4 x5 x6 a1 x2 x3).1) ((kf a4 x5 x6 a1 x2 x3).2)).1)) ((kbj ((kf a1 x2 x3 a4 x5 x6).1) ((kf a1 x2 x3 a4 x5 x6).2) ((kf a4 x5 x6 a1 x2 x3).1) ((kf a4 x5 x6 a1 x2 x3).2)).2.1) ((mulN x3 x6).1)).2.2.2)))
theorem k6h{h:AH}{a2:Sl}{x2:List Nat}{a3:Sl}{x3:List Nat}{a5:Sl}{x5:List Nat}{a6:Sl}{x6:List Nat}(n2:Nats h a2 x2)(n3:Nats h a3 x3)(n5:Nats h a5 x5)(n6:Nats h a6 x6)(a1 a4:Bool):Runs (go (.fn F.kid [.agg [.bool a1,a2.v,a3.v],.agg [.bool a4,a5.v,a6.v],.func (.func F.khk) [] []]) h) fun v h'=>∃s1:Sl,∃s2:Sl,v=.tup [.agg [.bool (kcb a1 x2 x3 a4 x5 x6).1,s1.v,s2.v],.int .i64 (kcb a1 x2 x3 a4 x5 x6).2.2.2]∧Nats h' s1 ((kcb a1 x2 x3 a4 x5 x6).2.1)∧Nats h' s2 ((kcb a1 x2 x3 a4 x5 x6).2.2.1)∧Grow h h'∧Own h s1∧Own h s2:=by
 rw[k9o];refine Runs.new fun H7 b7 g7=>?_;refine Runs.new fun H8 b8 g8=>?_;refine Runs.new fun H9 b9 g9=>?_;refine Runs.step (AH.has.rd ((g8.trans g9).has b7) 0 rfl rfl) ?_;refine Runs.step (AH.has.rd ((g8.trans g9).has b7) 1 rfl (asSl_v _)) ?_;refine Runs.step (AH.has.rd ((g8.trans g9).has b7) 2 rfl (asSl_v _)) ?_;refine Runs.step (AH.has.rd (g9.has b8) 0 rfl rfl) ?_;refine Runs.step (AH.has.rd (g9.has b8) 1 rfl (asSl_v _)) ?_;refine Runs.step (AH.has.rd (g9.has b8) 2 rfl (asSl_v _)) ?_;refine Runs.new fun H10 b10 g10=>?_;have G11:=(((g7.trans g8).trans g9).trans g10);have n2_12:=n2.grow G11;have n3_13:=n3.grow G11;have n5_14:=n5.grow G11;have n6_15:=n6.grow G11;obtain⟨H16,e16,g16⟩:=kn9 b10 n2_12 n3_13 n5_14 n6_15;refine Runs.step e16 ?_;refine Runs.step (seen rfl) ?_;refine Runs.cond (fun k17=>?_) (fun k17=>?_)
 ·refine Runs.puts ((g10.trans g16).has b9) rfl fun H18 b18 u18=>?_;have n2_18:=(n2_12.grow g16).upda (Av.of_base n2 (Nat.le_trans ((g7.trans g8)).size (Nat.le_refl _))) u18;have n3_18:=(n3_13.grow g16).upda (Av.of_base n3 (Nat.le_trans ((g7.trans g8)).size (Nat.le_refl _))) u18;have n5_18:=(n5_14.grow g16).upda (Av.of_base n5 (Nat.le_trans ((g7.trans g8)).size (Nat.le_refl _))) u18;have n6_18:=(n6_15.grow g16).upda (Av.of_base n6 (Nat.le_trans ((g7.trans g8)).size (Nat.le_refl _))) u18;have b10_18:=AH.has.updr (g16.has b10) (Nat.ne_of_gt (Nat.lt_of_lt_of_le (b9).lt (Nat.le_refl _))) u18;refine Runs.step (AH.has.rd b18 0 rfl rfl) ?_;refine Runs.step (AH.has.rd b18 1 rfl (asSl_v _)) ?_;refine Runs.step (AH.has.rd b18 2 rfl (asSl_v _)) ?_;have z:kcb a1 x2 x3 a4 x5 x6=(false,[],[],1):=by unfold kcb;exact(condT k17).trans rfl
  rw[z];have G19:=((G11.trans g16).updr (Nat.le_trans ((g7.trans g8)).size (Nat.le_refl _)) u18);exact Runs.ret ⟨(⟨none,0,.is 0⟩:Sl),(⟨none,0,.is 0⟩:Sl),rfl,(Nats.nil _),(Nats.nil _),G19,(Own.nil _),(Own.nil _)⟩
 ·refine Runs.new fun H18 b18 g18=>?_;have G19:=((((g8.trans g9).trans g10).trans g16).trans g18);have b7_20:=G19.has b7;refine Runs.step (AH.has.rd b7_20 0 rfl rfl) ?_;refine Runs.step (AH.has.rd b7_20 1 rfl (asSl_v _)) ?_;refine Runs.step (AH.has.rd b7_20 2 rfl (asSl_v _)) ?_;have G21:=(((g9.trans g10).trans g16).trans g18);have b8_22:=G21.has b8;refine Runs.step (AH.has.rd b8_22 0 rfl rfl) ?_;refine Runs.step (AH.has.rd b8_22 1 rfl (asSl_v _)) ?_;refine Runs.step (AH.has.rd b8_22 2 rfl (asSl_v _)) ?_;refine Runs.step (AH.has.rd b8_22 0 rfl rfl) ?_;refine Runs.step (AH.has.rd b8_22 1 rfl (asSl_v _)) ?_;refine Runs.step (AH.has.rd b8_22 2 rfl (asSl_v _)) ?_;refine Runs.step (AH.has.rd b7_20 0 rfl rfl) ?_;refine Runs.step (AH.has.rd b7_20 1 rfl (asSl_v _)) ?_;refine Runs.step (AH.has.rd b7_20 2 rfl (asSl_v _)) ?_;obtain⟨_,H23,e23,s23,rfl,n23,g23,o23⟩:=kho (n2_12.grow (g16.trans g18)) (n3_13.grow (g16.trans g18)) (n5_14.grow (g16.trans g18)) (n6_15.grow (g16.trans g18)) a1 a4;refine Runs.step e23 ?_;refine Runs.step rfl ?_;refine Runs.ifT rfl ?_;refine Runs.step (seenAt rfl rfl) ?_;refine Runs.step (seenAt rfl (asSl_v _)) ?_;refine Runs.when (g23.same b7_20 0 3) ?_;refine Runs.when (g23.same b8_22 0 3) ?_;refine Runs.when (g23.same b18 0 0) ?_;have G24:=((g16.trans g18).trans g23);have n5_25:=n5_14.grow G24;have n6_26:=n6_15.grow G24;have n2_27:=n2_12.grow G24;have n3_28:=n3_13.grow G24;obtain⟨_,H29,e29,s29,rfl,n29,g29,o29⟩:=kho n5_25 n6_26 n2_27 n3_28 a4 a1;refine Runs.step e29 ?_;refine Runs.step rfl ?_;refine Runs.ifT rfl ?_;refine Runs.step (seenAt rfl rfl) ?_;refine Runs.step (seenAt rfl (asSl_v _)) ?_;refine Runs.when (g29.same (g23.has b18) 0 0) ?_;obtain⟨_,H30,e30,s30,rfl,n30,g30,o30⟩:=k91 (n23.grow g29) n29 ((kf a1 x2 x3 a4 x5 x6).1) ((kf a4 x5 x6 a1 x2 x3).1);refine Runs.step e30 ?_;refine Runs.step rfl ?_;refine Runs.step rfl ?_;refine Runs.ifT rfl ?_;refine Runs.step (seenAt rfl rfl) ?_;refine Runs.step (seenAt rfl (asSl_v _)) ?_;refine Runs.step (seen (kb _ _)) ?_;refine Runs.when (g30.same ((g23.trans g29).has b18) 0 0) ?_;have G32:=((g23.trans g29).trans g30);have b18_33:=G32.has b18;refine Runs.puts b18_33 rfl fun H31 b31 u31=>?_;have G34:=(G11.trans g16);have n2_31:=(n2_27.grow (g29.trans g30)).upda (Av.of_base n2 (Nat.le_trans (G34).size (Nat.le_refl _))) u31;have n3_31:=(n3_28.grow (g29.trans g30)).upda (Av.of_base n3 (Nat.le_trans (G34).size (Nat.le_refl _))) u31;have n5_31:=(n5_25.grow (g29.trans g30)).upda (Av.of_base n5 (Nat.le_trans (G34).size (Nat.le_refl _))) u31;have n6_31:=(n6_26.grow (g29.trans g30)).upda (Av.of_base n6 (Nat.le_trans (G34).size (Nat.le_refl _))) u31;have n23_31:=(n23.grow (g29.trans g30)).upda (Av.of_own o23 (b18).lt) u31;have n29_31:=(n29.grow g30).upda (Av.of_own o29 (g23.has b18).lt) u31;have n30_31:=n30.upda (Av.of_own o30 ((g23.trans g29).has b18).lt) u31;have b7_35:=G32.has b7_20;have G36:=(((g8.trans g9).trans g10).trans g16);have b7_31:=AH.has.updr b7_35 (Nat.ne_of_lt (Nat.lt_of_lt_of_le (G36.has b7).lt (Nat.le_refl _))) u31;have b8_37:=G32.has b8_22;have G38:=((g9.trans g10).trans g16);have b8_31:=AH.has.updr b8_37 (Nat.ne_of_lt (Nat.lt_of_lt_of_le (G38.has b8).lt (Nat.le_refl _))) u31;refine Runs.step (AH.has.rd b7_31 2 rfl (asSl_v _)) ?_;refine Runs.step (AH.has.rd b8_31 2 rfl (asSl_v _)) ?_;obtain⟨s39,H39,e39,n39,g39,o39⟩:=ko2 n3_31 n6_31;refine Runs.step e39 ?_;refine Runs.step rfl ?_;refine Runs.step (seen (asSl_v _)) ?_;refine Runs.step (seen (kb _ _)) ?_;refine Runs.step (AH.has.rd (g39.has b31) 0 rfl rfl) ?_;refine Runs.step (AH.has.rd (g39.has b31) 1 rfl (asSl_v _)) ?_;obtain⟨_,H40,e40,s40,s40b,rfl,n40,n40b,g40,o40,o40b⟩:=kl2 (n30_31.grow g39) n39 (((kbj ((kf a1 x2 x3 a4 x5 x6).1) ((kf a1 x2 x3 a4 x5 x6).2) ((kf a4 x5 x6 a1 x2 x3).1) ((kf a4 x5 x6 a1 x2 x3).2)).1));refine Runs.step e40 ?_;refine Runs.step rfl ?_;refine Runs.step rfl ?_;refine Runs.ifT rfl ?_;refine Runs.step (seenAt rfl rfl) ?_;refine Runs.step (seenAt rfl (asSl_v _)) ?_;refine Runs.step (seenAt rfl (asSl_v _)) ?_;refine Runs.step (seen (kb _ _)) ?_;have G42:=((((((((g10.trans g16).trans g18).trans g23).trans g29).trans g30).updr (Nat.le_trans ((g10.trans g16)).size (Nat.le_refl _)) u31).trans g39).trans g40);have b9_43:=G42.has b9;refine Runs.puts b9_43 rfl fun H41 b41 u41=>?_;have n2_41:=(n2_31.grow (g39.trans g40)).upda (Av.of_base n2 (Nat.le_trans ((g7.trans g8)).size (Nat.le_refl _))) u41;have n3_41:=(n3_31.grow (g39.trans g40)).upda (Av.of_base n3 (Nat.le_trans ((g7.trans g8)).size (Nat.le_refl _))) u41;have n5_41:=(n5_31.grow (g39.trans g40)).upda (Av.of_base n5 (Nat.le_trans ((g7.trans g8)).size (Nat.le_refl _))) u41;have n6_41:=(n6_31.grow (g39.trans g40)).upda (Av.of_base n6 (Nat.le_trans ((g7.trans g8)).size (Nat.le_refl _))) u41;have G44:=((g10.trans g16).trans g18);have n23_41:=(n23_31.grow (g39.trans g40)).upda (Av.of_own o23 (G44.has b9).lt) u41;have G45:=(G44.trans g23);have n29_41:=(n29_31.grow (g39.trans g40)).upda (Av.of_own o29 (G45.has b9).lt) u41;have G46:=(G45.trans g29);have n30_41:=(n30_31.grow (g39.trans g40)).upda (Av.of_own o30 (G46.has b9).lt) u41;have G47:=((G46.trans g30).updr (Nat.le_trans ((g10.trans g16)).size (Nat.le_refl _)) u31);have n39_41:=(n39.grow g40).upda (Av.of_own o39 (G47.has b9).lt) u41;have G48:=(G47.trans g39);have n40_41:=n40.upda (Av.of_own o40 (G48.has b9).lt) u41;have n40b_41:=n40b.upda (Av.of_own o40b (G48.has b9).lt) u41;have b7_41:=AH.has.updr ((g39.trans g40).has b7_31) (Nat.ne_of_lt (Nat.lt_of_lt_of_le (g8.has b7).lt (Nat.le_refl _))) u41;have b8_41:=AH.has.updr ((g39.trans g40).has b8_31) (Nat.ne_of_lt (Nat.lt_of_lt_of_le (b8).lt (Nat.le_refl _))) u41;have G49:=(((((G24.trans g29).trans g30).updr (Nat.le_trans (g16).size (Nat.le_refl _)) u31).trans g39).trans g40);have b10_50:=G49.has b10;have b10_41:=AH.has.updr b10_50 (Nat.ne_of_gt (Nat.lt_of_lt_of_le (b9).lt (Nat.le_refl _))) u41;have b31_41:=AH.has.updr ((g39.trans g40).has b31) (Nat.ne_of_gt (Nat.lt_of_lt_of_le ((g10.trans g16).has b9).lt (Nat.le_refl _))) u41;refine Runs.step (AH.has.rd b41 0 rfl rfl) ?_;refine Runs.step (AH.has.rd b41 1 rfl (asSl_v _)) ?_;refine Runs.step (AH.has.rd b41 2 rfl (asSl_v _)) ?_;have z:kcb a1 x2 x3 a4 x5 x6=((((kba (((kbj ((kf a1 x2 x3 a4 x5 x6).1) ((kf a1 x2 x3 a4 x5 x6).2) ((kf a4 x5 x6 a1 x2 x3).1) ((kf a4 x5 x6 a1 x2 x3).2)).1)) ((kbj ((kf a1 x2 x3 a4 x5 x6).1) ((kf a1 x2 x3 a4 x5 x6).2) ((kf a4 x5 x6 a1 x2 x3).1) ((kf a4 x5 x6 a1 x2 x3).2)).2.1) ((mulN x3 x6).1)).1)),(kba (((kbj ((kf a1 x2 x3 a4 x5 x6).1) ((kf a1 x2 x3 a4 x5 x6).2) ((kf a4 x5 x6 a1 x2 x3).1) ((kf a4 x5 x6 a1 x2 x3).2)).1)) ((kbj ((kf a1 x2 x3 a4 x5 x6).1) ((kf a1 x2 x3 a4 x5 x6).2) ((kf a4 x5 x6 a1 x2 x3).1) ((kf a4 x5 x6 a1 x2 x3).2)).2.1) ((mulN x3 x6).1)).2.1,(kba (((kbj ((kf a1 x2 x3 a4 x5 x6).1) ((kf a1 x2 x3 a4 x5 x6).2) ((kf a4 x5 x6 a1 x2 x3).1) ((kf a4 x5 x6 a1 x2 x3).2)).1)) ((kbj ((kf a1 x2 x3 a4 x5 x6).1) ((kf a1 x2 x3 a4 x5 x6).2) ((kf a4 x5 x6 a1 x2 x3).1) ((kf a4 x5 x6 a1 x2 x3).2)).2.1) ((mulN x3 x6).1)).2.2.1,((kba (((kbj ((kf a1 x2 x3 a4 x5 x6).1) ((kf a1 x2 x3 a4 x5 x6).2) ((kf a4 x5 x6 a1 x2 x3).1) ((kf a4 x5 x6 a1 x2 x3).2)).1)) ((kbj ((kf a1 x2 x3 a4 x5 x6).1) ((kf a1 x2 x3 a4 x5 x6).2) ((kf a4 x5 x6 a1 x2 x3).1) ((kf a4 x5 x6 a1 x2 x3).2)).2.1) ((mulN x3 x6).1)).2.2.2)):=by unfold kcb;exact(condF k17).trans rfl
  rw[z];have G51:=((((((G34.trans g18).trans g23).trans g29).trans g30).updr (Nat.le_trans (G34).size (Nat.le_refl _)) u31).trans g39);have G52:=((G51.trans g40).updr (Nat.le_trans ((g7.trans g8)).size (Nat.le_refl _)) u41);exact Runs.ret ⟨s40,s40b,rfl,n40_41,n40b_41,G52,(o40.of_le G51),(o40b.of_le G51)⟩
def kdq(a1:Bool)(x2 x3:List Nat)(a4:Bool)(x5 x6:List Nat):Bool×List Nat×List Nat×Int :=
 ((((kcb a1 x2 x3 a4 x5 x6).1)),(kcb a1 x2 x3 a4 x5 x6).2.1,(kcb a1 x2 x3 a4 x5 x6).2.2.1,((kcb a1 x2 x3 a4 x5 x6).2.2.2))
theorem k2b{h:AH}{a2:Sl}{x2:List Nat}{a3:Sl}{x3:List Nat}{a5:Sl}{x5:List Nat}{a6:Sl}{x6:List Nat}(n2:Nats h a2 x2)(n3:Nats h a3 x3)(n5:Nats h a5 x5)(n6:Nats h a6 x6)(a1 a4:Bool):Runs (go (.fn F.km0 [.agg [.bool a1,a2.v,a3.v],.agg [.bool a4,a5.v,a6.v]]) h) fun v h'=>∃s1:Sl,∃s2:Sl,v=.tup [.agg [.bool (kdq a1 x2 x3 a4 x5 x6).1,s1.v,s2.v],.int .i64 (kdq a1 x2 x3 a4 x5 x6).2.2.2]∧Nats h' s1 ((kdq a1 x2 x3 a4 x5 x6).2.1)∧Nats h' s2 ((kdq a1 x2 x3 a4 x5 x6).2.2.1)∧Grow h h'∧Own h s1∧Own h s2:=by
 rw[k2m];refine Runs.new fun H7 b7 g7=>?_;refine Runs.new fun H8 b8 g8=>?_;refine Runs.new fun H9 b9 g9=>?_;refine Runs.step (AH.has.rd ((g8.trans g9).has b7) 0 rfl rfl) ?_;refine Runs.step (AH.has.rd ((g8.trans g9).has b7) 1 rfl (asSl_v _)) ?_;refine Runs.step (AH.has.rd ((g8.trans g9).has b7) 2 rfl (asSl_v _)) ?_;refine Runs.step (AH.has.rd (g9.has b8) 0 rfl rfl) ?_;refine Runs.step (AH.has.rd (g9.has b8) 1 rfl (asSl_v _)) ?_;refine Runs.step (AH.has.rd (g9.has b8) 2 rfl (asSl_v _)) ?_;have G10:=((g7.trans g8).trans g9);have n2_11:=n2.grow G10;have n3_12:=n3.grow G10;have n5_13:=n5.grow G10;have n6_14:=n6.grow G10;obtain⟨_,H15,e15,s15,s15b,rfl,n15,n15b,g15,o15,o15b⟩:=k6h n2_11 n3_12 n5_13 n6_14 a1 a4;refine Runs.step e15 ?_;refine Runs.step rfl ?_;refine Runs.step rfl ?_;refine Runs.ifT rfl ?_;refine Runs.step (seenAt rfl rfl) ?_;refine Runs.step (seenAt rfl (asSl_v _)) ?_;refine Runs.step (seenAt rfl (asSl_v _)) ?_;refine Runs.step (seen (kb _ _)) ?_;refine Runs.puts (g15.has b9) rfl fun H16 b16 u16=>?_;have n2_16:=(n2_11.grow g15).upda (Av.of_base n2 (Nat.le_trans ((g7.trans g8)).size (Nat.le_refl _))) u16;have n3_16:=(n3_12.grow g15).upda (Av.of_base n3 (Nat.le_trans ((g7.trans g8)).size (Nat.le_refl _))) u16;have n5_16:=(n5_13.grow g15).upda (Av.of_base n5 (Nat.le_trans ((g7.trans g8)).size (Nat.le_refl _))) u16;have n6_16:=(n6_14.grow g15).upda (Av.of_base n6 (Nat.le_trans ((g7.trans g8)).size (Nat.le_refl _))) u16;have n15_16:=n15.upda (Av.of_own o15 (b9).lt) u16;have n15b_16:=n15b.upda (Av.of_own o15b (b9).lt) u16;refine Runs.step (AH.has.rd b16 0 rfl rfl) ?_;refine Runs.step (AH.has.rd b16 1 rfl (asSl_v _)) ?_;refine Runs.step (AH.has.rd b16 2 rfl (asSl_v _)) ?_;have z:kdq a1 x2 x3 a4 x5 x6=((((kcb a1 x2 x3 a4 x5 x6).1)),(kcb a1 x2 x3 a4 x5 x6).2.1,(kcb a1 x2 x3 a4 x5 x6).2.2.1,((kcb a1 x2 x3 a4 x5 x6).2.2.2)):=by unfold kdq;exact rfl
 rw[z];have G17:=((G10.trans g15).updr (Nat.le_trans ((g7.trans g8)).size (Nat.le_refl _)) u16);exact Runs.ret ⟨s15,s15b,rfl,n15_16,n15b_16,G17,(o15.of_le G10),(o15b.of_le G10)⟩
theorem kyu{h:AH}{a2:Sl}{x2:List Nat}{a3:Sl}{x3:List Nat}{a5:Sl}{x5:List Nat}{a6:Sl}{x6:List Nat}(n2:Nats h a2 x2)(n3:Nats h a3 x3)(n5:Nats h a5 x5)(n6:Nats h a6 x6){a1 a4:Bool}{r:_}(q:kdq a1 x2 x3 a4 x5 x6=r):Runs (go (.fn F.km0 [.agg [.bool a1,a2.v,a3.v],.agg [.bool a4,a5.v,a6.v]]) h) fun v h'=>∃s1:Sl,∃s2:Sl,v=.tup [.agg [.bool r.1,s1.v,s2.v],.int .i64 r.2.2.2]∧Nats h' s1 (r.2.1)∧Nats h' s2 (r.2.2.1)∧Grow h h'∧Own h s1∧Own h s2:=by
 subst q;exact k2b n2 n3 n5 n6 a1 a4
def kgy(a1:Bool)(x2 x3:List Nat)(a4:Bool)(x5 x6:List Nat):Int :=
 cond (!((kbb a1 x2 x3&&kbb a4 x5 x6))) (0) ((cmpI ((kf a1 x2 x3 a4 x5 x6).1) ((kf a1 x2 x3 a4 x5 x6).2) ((kf a4 x5 x6 a1 x2 x3).1) ((kf a4 x5 x6 a1 x2 x3).2)))
theorem k9y{h:AH}{a2:Sl}{x2:List Nat}{a3:Sl}{x3:List Nat}{a5:Sl}{x5:List Nat}{a6:Sl}{x6:List Nat}(n2:Nats h a2 x2)(n3:Nats h a3 x3)(n5:Nats h a5 x5)(n6:Nats h a6 x6)(a1 a4:Bool):Runs (go (.fn F.koh [.agg [.bool a1,a2.v,a3.v],.agg [.bool a4,a5.v,a6.v]]) h) fun v h'=>v=.int .i64 (kgy a1 x2 x3 a4 x5 x6)∧Grow h h':=by
 rw[kz1];refine Runs.new fun H7 b7 g7=>?_;refine Runs.new fun H8 b8 g8=>?_;refine Runs.step (AH.has.rd (g8.has b7) 0 rfl rfl) ?_;refine Runs.step (AH.has.rd (g8.has b7) 1 rfl (asSl_v _)) ?_;refine Runs.step (AH.has.rd (g8.has b7) 2 rfl (asSl_v _)) ?_;refine Runs.step (AH.has.rd b8 0 rfl rfl) ?_;refine Runs.step (AH.has.rd b8 1 rfl (asSl_v _)) ?_;refine Runs.step (AH.has.rd b8 2 rfl (asSl_v _)) ?_;refine Runs.new fun H9 b9 g9=>?_;have G10:=((g7.trans g8).trans g9);have n2_11:=n2.grow G10;have n3_12:=n3.grow G10;have n5_13:=n5.grow G10;have n6_14:=n6.grow G10;obtain⟨H15,e15,g15⟩:=kn9 b9 n2_11 n3_12 n5_13 n6_14;refine Runs.step e15 ?_;refine Runs.step (seen rfl) ?_;refine Runs.cond (fun k16=>?_) (fun k16=>?_)
 ·have z:kgy a1 x2 x3 a4 x5 x6=0:=by unfold kgy;exact(condT k16).trans rfl
  rw[z];have G17:=(G10.trans g15);exact Runs.ret ⟨rfl,G17⟩
 ·have G17:=((g8.trans g9).trans g15);have b7_18:=G17.has b7;refine Runs.step (AH.has.rd b7_18 0 rfl rfl) ?_;refine Runs.step (AH.has.rd b7_18 1 rfl (asSl_v _)) ?_;refine Runs.step (AH.has.rd b7_18 2 rfl (asSl_v _)) ?_;refine Runs.step (AH.has.rd ((g9.trans g15).has b8) 0 rfl rfl) ?_;refine Runs.step (AH.has.rd ((g9.trans g15).has b8) 1 rfl (asSl_v _)) ?_;refine Runs.step (AH.has.rd ((g9.trans g15).has b8) 2 rfl (asSl_v _)) ?_;refine Runs.step (AH.has.rd ((g9.trans g15).has b8) 0 rfl rfl) ?_;refine Runs.step (AH.has.rd ((g9.trans g15).has b8) 1 rfl (asSl_v _)) ?_;refine Runs.step (AH.has.rd ((g9.trans g15).has b8) 2 rfl (asSl_v _)) ?_;refine Runs.step (AH.has.rd b7_18 0 rfl rfl) ?_;refine Runs.step (AH.has.rd b7_18 1 rfl (asSl_v _)) ?_;refine Runs.step (AH.has.rd b7_18 2 rfl (asSl_v _)) ?_;obtain⟨_,H19,e19,s19,rfl,n19,g19,o19⟩:=kho (n2_11.grow g15) (n3_12.grow g15) (n5_13.grow g15) (n6_14.grow g15) a1 a4;refine Runs.step e19 ?_;refine Runs.step rfl ?_;refine Runs.ifT rfl ?_;refine Runs.step (seenAt rfl rfl) ?_;refine Runs.step (seenAt rfl (asSl_v _)) ?_;refine Runs.when (g19.same b7_18 0 3) ?_;refine Runs.when (g19.same ((g9.trans g15).has b8) 0 3) ?_;obtain⟨_,H20,e20,s20,rfl,n20,g20,o20⟩:=kho (n5_13.grow (g15.trans g19)) (n6_14.grow (g15.trans g19)) (n2_11.grow (g15.trans g19)) (n3_12.grow (g15.trans g19)) a4 a1;refine Runs.step e20 ?_;refine Runs.step rfl ?_;refine Runs.ifT rfl ?_;refine Runs.step (seenAt rfl rfl) ?_;refine Runs.step (seenAt rfl (asSl_v _)) ?_;obtain⟨H21,e21,g21⟩:=kbb2 (n19.grow g20) n20 ((kf a1 x2 x3 a4 x5 x6).1) ((kf a4 x5 x6 a1 x2 x3).1);refine Runs.step e21 ?_;refine Runs.step (seen (kb _ _)) ?_;have z:kgy a1 x2 x3 a4 x5 x6=(cmpI ((kf a1 x2 x3 a4 x5 x6).1) ((kf a1 x2 x3 a4 x5 x6).2) ((kf a4 x5 x6 a1 x2 x3).1) ((kf a4 x5 x6 a1 x2 x3).2)):=by unfold kgy;exact(condF k16).trans rfl
  rw[z];have G22:=((((G10.trans g15).trans g19).trans g20).trans g21);exact Runs.ret ⟨rfl,G22⟩
end Go.Ab

/- squeezed -/
set_option maxRecDepth 10000
namespace Go.Ab
open Go.Proofs Go.Num
def fracM(z:Int)(d:Nat):Bool×List Nat×List Nat×Int :=
 if z.natAbs/Nat.gcd z.natAbs d<B^16∧d/Nat.gcd z.natAbs d<B^16 then((intD (z/(Nat.gcd z.natAbs d:Int))).1,(intD (z/(Nat.gcd z.natAbs d:Int))).2,digs B (d/Nat.gcd z.natAbs d),0)else(false,[],[],4)
theorem kkq(m:Nat):decide ((List.length (digs B m):Int)>16)=!decide (m<B^16):=by
 have h:=kbv B2 m 16;by_cases k:m<B^16
 ·have:=h.2 k;rw[decide_eq_true k,decide_eq_false_iff_not.2 (by omega)];rfl
 ·have:¬(digs B m).length≤16:=fun e=>k (h.1 e);rw[decide_eq_false k,decide_eq_true_iff.2 (by omega)];rfl
theorem kvo{a b:Nat}(ha:a<B^64)(hb:b<B^64):gcdN (digs B a) (digs B b)=(digs B (Nat.gcd a b),0):=by
 unfold gcdN;rw[if_pos ⟨kbl ha,kbl hb⟩,ks B2,ks B2]
theorem ksh{a b:Nat}(ha:a<B^64)(hb:b<B^64)(h0:b≠0):divN (digs B a) (digs B b)=(digs B (a/b),digs B (a%b),0):=by
 unfold divN;rw[if_pos ⟨kbl ha,kbl hb⟩,if_neg (fun e=>h0 ((ke9 B2).1 e)),ks B2,ks B2]
theorem k0i{z:Int}{g:Nat}(h0:0<g)(h:g∣z.natAbs):z/(g:Int)=if z<0 then -((z.natAbs/g:Nat):Int)else((z.natAbs/g:Nat):Int):=by
 obtain⟨k,hk⟩:=h;rw[hk,Nat.mul_div_cancel_left _ h0];have hg:(g:Int)≠0:=by omega
 by_cases hz:z<0
 ·rw[if_pos hz]
  have:z=(g:Int)*(-(k:Int)):=by
   rw[Int.mul_neg,← Int.natCast_mul,← hk];omega
  rw[this,Int.mul_ediv_cancel_left _ hg]
 ·rw[if_neg hz]
  have:z=(g:Int)*(k:Int):=by
   rw[← Int.natCast_mul,← hk];omega
  rw[this,Int.mul_ediv_cancel_left _ hg]
theorem knt{z:Int}{d:Nat}(hz:z.natAbs<B^64)(hd:d<B^64)(h0:d≠0):kba (intD z).1 (intD z).2 (digs B d)=fracM z d:=by
 unfold kba fracM;have hg0:0<Nat.gcd z.natAbs d:=Nat.gcd_pos_of_pos_right _ (by omega);have hgd:Nat.gcd z.natAbs d≤d:=Nat.gcd_le_right _ (by omega);rw[kct hz,kbl hd];have e2:(intD z).2=digs B z.natAbs:=rfl;have hq1:z.natAbs/Nat.gcd z.natAbs d<B^64:=Nat.lt_of_le_of_lt (Nat.div_le_self _ _) hz;have hq2:d/Nat.gcd z.natAbs d<B^64:=Nat.lt_of_le_of_lt (Nat.div_le_self _ _) hd;rw[e2,kvo hz hd];have hgb:Nat.gcd z.natAbs d<B^64:=by omega
 simp only[Bool.not_true,cond_false];rw[ksh hz hgb (by omega),ksh hd hgb (by omega),kny,decide_eq_false (fun e=>h0 ((ke9 B2).1 e)),cond_false];dsimp only
 have k:∀u v:Int,decide (imax u v>16)=(decide (u>16)||decide (v>16)):=by
  intro u v;rw[kln,Bool.eq_iff_iff];simp only[Bool.or_eq_true,decide_eq_true_eq];omega
 rw[k,kkq,kkq,kda hq1,k0i hg0 (Nat.gcd_dvd_left _ _)];have s:(intD z).1=decide (z<0):=rfl;rw[s];simp only[decide_eq_true_eq];generalize (if z<0 then -((z.natAbs/Nat.gcd z.natAbs d:Nat):Int)else((z.natAbs/Nat.gcd z.natAbs d:Nat):Int))=y;by_cases c1:z.natAbs/Nat.gcd z.natAbs d<B^16
 ·by_cases c2:d/Nat.gcd z.natAbs d<B^16
  ·rw[if_pos ⟨c1,c2⟩,decide_eq_true c1,decide_eq_true c2];rfl
  ·rw[if_neg (fun h=>c2 h.2),decide_eq_false c2,decide_eq_true c1];rfl
 ·rw[if_neg (fun h=>c1 h.1),decide_eq_false c1];rfl
structure IsFrac(p:Bool)(xs ys:List Nat)(z:Int)(d:Nat):Prop where
 p:p=(intD z).1
 xs:xs=(intD z).2
 ys:ys=digs B d
 pos:0<d
 zlt:z.natAbs<B^16
 dlt:d<B^16
 co:Nat.gcd z.natAbs d=1
theorem kui{z:Int}{d:Nat}(hz:z.natAbs<B^64)(hd:d<B^64):kbb (intD z).1 (intD z).2 (digs B d)=decide (0<d∧z.natAbs<B^16∧d<B^16∧Nat.gcd z.natAbs d=1):=by
 unfold kbb;rw[kct hz,kbl hd];have e2:(intD z).2=digs B z.natAbs:=rfl;rw[e2,kvo hz hd,kny,kkq,kkq];simp only[Bool.not_true,cond_false];by_cases c0:d=0
 ·subst c0;rw[kc4];simp
 ·rw[decide_eq_false (fun e=>c0 ((ke9 B2).1 e)),cond_false];by_cases c2:d<B^16
  ·rw[decide_eq_true c2];by_cases c1:z.natAbs<B^16
   ·rw[decide_eq_true c1];simp only[Bool.not_true,cond_false]
    have hg:Nat.gcd z.natAbs d<B^64:=by
     have:=Nat.gcd_le_right z.natAbs (n:=d) (by omega);omega
    unfold cmpN;rw[if_pos ⟨kbl hg,by decide +kernel⟩,ks B2];rw[show num B [1]=1 from by decide +kernel];unfold cmp;by_cases h1:Nat.gcd z.natAbs d<1
    ·rw[if_pos h1,decide_eq_false (by decide),decide_eq_false];intro h;omega
    ·rw[if_neg h1];by_cases h2:Nat.gcd z.natAbs d=1
     ·rw[if_pos h2,decide_eq_true rfl,decide_eq_true];exact⟨by omega,c1,c2,h2⟩
     ·rw[if_neg h2,decide_eq_false (by decide),decide_eq_false];exact fun h=>h2 h.2.2.2
   ·rw[decide_eq_false c1];simp only[Bool.not_true,cond_false,Bool.not_false,cond_true];symm;rw[decide_eq_false_iff_not];exact fun h=>c1 h.2.1
  ·rw[decide_eq_false c2];simp only[Bool.not_false,cond_true];symm;rw[decide_eq_false_iff_not];exact fun h=>c2 h.2.2.1
theorem ke5{n:Nat}(h:n<B^16):n<B^64:=Nat.lt_of_lt_of_le h (Nat.pow_le_pow_right (by decide) (by decide))
theorem IsFrac.right{p:Bool}{xs ys:List Nat}{z:Int}{d:Nat}(f:IsFrac p xs ys z d):kbb p xs ys=true:=by
 obtain⟨rfl,rfl,rfl,h0,h1,h2,h3⟩:=f;rw[kui (ke5 h1) (ke5 h2),decide_eq_true_eq];exact⟨h0,h1,h2,h3⟩
theorem IsFrac.of{p:Bool}{xs ys:List Nat}(lx:∀x∈xs,x<B)(ly:∀x∈ys,x<B)(h:kbb p xs ys=true):∃(z:Int)(d:Nat),IsFrac p xs ys z d:=by
 have h1:rtI p xs=true:=by
  cases e:rtI p xs with
  | true=>rfl
  | false =>
   unfold kbb at h;rw[e]at h;cases h
 have h2:rt ys=true:=by
  cases e:rt ys with
  | true=>rfl
  | false =>
   unfold kbb at h;rw[e,h1]at h;cases h
 obtain⟨z,rfl,rfl,hz⟩:=of_rtI lx h1;have hd:=klr ly h2;have e:ys=digs B (num B ys):=(kff B2 ly (rt_iff.1 h2).2).symm;rw[e,kui hz hd,decide_eq_true_eq]at h;exact⟨z,num B ys,rfl,rfl,e,h.1,h.2.1,h.2.2.1,h.2.2.2⟩
theorem mul16{a b:Nat}(ha:a<B^16)(hb:b<B^16):a*b<B^16*B^16:=Nat.mul_lt_mul'' ha hb
theorem B32_64:B^16*B^16*2≤B^64:=by decide +kernel
theorem kmn{p q:Bool}{xs ys us vs:List Nat}{z w:Int}{d e:Nat}(f:IsFrac p xs ys z d)(k:IsFrac q us vs w e):kf p xs ys q us vs=intD (z*(e:Int))∧(z*(e:Int)).natAbs<B^16*B^16:=by
 have hb:(z*(e:Int)).natAbs<B^16*B^16:=by
  rw[Int.natAbs_mul,Int.natAbs_natCast];exact mul16 f.zlt k.dlt
 refine⟨?_,hb⟩;unfold kf;rw[k.ys,kda (ke5 k.dlt),f.p,f.xs];simp only[Bool.false_eq_true,if_false];have h64:=B32_64;rw[ko6 (ke5 f.zlt) (by simpa using ke5 k.dlt),if_pos (by omega)]
theorem kt8{d e:Nat}(hd:d<B^16)(he:e<B^16):mulN (digs B d) (digs B e)=(digs B (d*e),0):=by
 unfold mulN;rw[if_pos ⟨kbl (ke5 hd),kbl (ke5 he)⟩,ks B2,ks B2,kl4];have:=mul16 hd he;have:=B32_64;omega
theorem Add_of{p q:Bool}{xs ys us vs:List Nat}{z w:Int}{d e:Nat}(f:IsFrac p xs ys z d)(k:IsFrac q us vs w e):kdr p xs ys q us vs=fracM (z*(e:Int)+w*(d:Int)) (d*e):=by
 unfold kdr kcc;rw[f.right,k.right];obtain⟨o1,b1⟩:=kmn f k;obtain⟨o2,b2⟩:=kmn k f;have h64:=B32_64;rw[o1,o2,ksc (by omega) (by omega),if_pos (by omega)];dsimp only[Bool.and_self,Bool.not_true,cond_false];have hb:=mul16 f.dlt k.dlt;have hp:=Nat.mul_pos f.pos k.pos;rw[f.ys,k.ys,kt8 f.dlt k.dlt];dsimp only;rw[knt (by omega) (by omega) (by omega)];generalize fracM _ _=r;obtain⟨r1,r2,r3,r4⟩:=r;rfl
theorem Sub_of{p q:Bool}{xs ys us vs:List Nat}{z w:Int}{d e:Nat}(f:IsFrac p xs ys z d)(k:IsFrac q us vs w e):kdq p xs ys q us vs=fracM (z*(e:Int)-w*(d:Int)) (d*e):=by
 unfold kdq kcb;rw[f.right,k.right];obtain⟨o1,b1⟩:=kmn f k;obtain⟨o2,b2⟩:=kmn k f;have h64:=B32_64;rw[o1,o2,kbab (by omega) (by omega),if_pos (by omega)];dsimp only[Bool.and_self,Bool.not_true,cond_false];have hb:=mul16 f.dlt k.dlt;have hp:=Nat.mul_pos f.pos k.pos;rw[f.ys,k.ys,kt8 f.dlt k.dlt];dsimp only;rw[knt (by omega) (by omega) (by omega)];generalize fracM _ _=r;obtain⟨r1,r2,r3,r4⟩:=r;rfl
theorem IsFrac.neg{q:Bool}{us vs:List Nat}{w:Int}{e:Nat}(k:IsFrac q us vs w e):IsFrac (negI q us).1 (negI q us).2 vs (-w) e:=by
 have:=kth (ke5 k.zlt);rw[k.p,k.xs,this];exact⟨rfl,rfl,k.ys,k.pos,by rw[Int.natAbs_neg];exact k.zlt,k.dlt,by rw[Int.natAbs_neg];exact k.co⟩
end Go.Ab

/- squeezed -/
set_option maxRecDepth 10000
namespace Go.Ab
open Go.Proofs Go.Num
theorem kyn{z:Int}{d:Nat}(hd:0<d)(h:(fracM z d).2.2.2=0):∃(w:Int)(e:Nat),fracM z d=((intD w).1,(intD w).2,digs B e,0)∧IsFrac (fracM z d).1 (fracM z d).2.1 (fracM z d).2.2.1 w e∧w*(d:Int)=z*(e:Int)∧∃g:Nat,0<g∧z=w*(g:Int)∧d=g*e:=by
 unfold fracM at h⊢;have hg0:0<Nat.gcd z.natAbs d:=Nat.gcd_pos_of_pos_right _ hd;by_cases c:z.natAbs/Nat.gcd z.natAbs d<B^16∧d/Nat.gcd z.natAbs d<B^16
 ·rw[if_pos c];obtain⟨a,ha⟩:=Nat.gcd_dvd_left z.natAbs d;obtain⟨b,hb⟩:=Nat.gcd_dvd_right z.natAbs d;have hz:z/(Nat.gcd z.natAbs d:Int)*(Nat.gcd z.natAbs d:Int)=z:=Int.ediv_mul_cancel (Int.ofNat_dvd_left.2 (Nat.gcd_dvd_left _ _))
  have hq1:z.natAbs/Nat.gcd z.natAbs d=a:=by
   have:=Nat.mul_div_cancel_left a hg0;rwa[← ha]at this
  have hq2:d/Nat.gcd z.natAbs d=b:=by
   have:=Nat.mul_div_cancel_left b hg0;rwa[← hb]at this
  rw[hq1,hq2]at c;rw[hq2]
  have hw:(z/(Nat.gcd z.natAbs d:Int)).natAbs=a:=by
   have h5:(z/(Nat.gcd z.natAbs d:Int)).natAbs*Nat.gcd z.natAbs d=Nat.gcd z.natAbs d*a:=by
    have:=congrArg Int.natAbs hz;rw[Int.natAbs_mul,Int.natAbs_natCast]at this;rw[this];exact ha
   rw[Nat.mul_comm]at h5;exact Nat.eq_of_mul_eq_mul_left hg0 h5
  generalize z/(Nat.gcd z.natAbs d:Int)=w at *
  have hb0:0<b:=by
   rcases Nat.eq_zero_or_pos b with e | e
   ·subst e;omega
   ·exact e
  have co:Nat.gcd a b=1:=by
   have h6:Nat.gcd z.natAbs d=Nat.gcd a b*Nat.gcd z.natAbs d:=by
    have:=Nat.gcd_mul_left (Nat.gcd z.natAbs d) a b;rw[← ha,← hb]at this;rw[Nat.mul_comm];exact this
   have:1*Nat.gcd z.natAbs d=Nat.gcd a b*Nat.gcd z.natAbs d:=by rw[Nat.one_mul];exact h6
   exact(Nat.eq_of_mul_eq_mul_right hg0 this).symm
  refine⟨w,b,rfl,⟨rfl,rfl,rfl,hb0,by rw[hw];exact c.1,c.2,by rw[hw];exact co⟩,?_,Nat.gcd z.natAbs d,hg0,hz.symm,hb⟩;have e1:(d:Int)=(Nat.gcd z.natAbs d:Int)*(b:Int):=by rw[← Int.natCast_mul,← hb]
  rw[e1,← Int.mul_assoc,hz]
 ·rw[if_neg c]at h;cases h
end Go.Ab

/- squeezed -/
set_option maxRecDepth 10000
namespace Go.Ab
open Go.Proofs Go.Num
end Go.Ab

/- squeezed -/
set_option maxRecDepth 10000
namespace Go.Ab
open Go.Proofs Go.Num
end Go.Ab

/- squeezed -/
set_option maxRecDepth 10000
namespace Go.Ab
open Go.Proofs Go.Num
end Go.Ab

/- squeezed -/
set_option maxRecDepth 10000
namespace Go.Ab
open Go.Proofs Go.Num
end Go.Ab

/- squeezed -/
set_option maxRecDepth 10000
namespace Go.Ab
open Go.Proofs Go.Num
end Go.Ab

/- squeezed -/
set_option maxRecDepth 10000
namespace Go.Ab
open Go.Proofs Go.Num
def kbe(a1 a2:Int):Bool :=
 cond (decide (a1≥(-1099511627776))) (cond (decide (a1≤1099511627776)) (cond (decide (a2≥0)) (decide (a2≤1048576)) (false)) (false)) (false)
theorem kiu{h:AH}   (a1 a2:Int):Runs (go (.fn F.kgl [.agg [.int .i64 a1,.int .i64 a2]]) h) fun v h'=>v=.bool (kbe a1 a2)∧Grow h h':=by
 rw[kban];refine Runs.new fun H3 b3 g3=>?_;refine Runs.step (AH.has.rd b3 0 rfl (kb _ _)) ?_;refine Runs.cond (fun k4=>?_) (fun k4=>?_)
 ·refine Runs.step (AH.has.rd b3 0 rfl (kb _ _)) ?_;refine Runs.cond (fun k5=>?_) (fun k5=>?_)
  ·refine Runs.step (AH.has.rd b3 1 rfl (kb _ _)) ?_;refine Runs.cond (fun k6=>?_) (fun k6=>?_)
   ·refine Runs.step (AH.has.rd b3 1 rfl (kb _ _)) ?_;have z:kbe a1 a2=decide (a2≤1048576):=by unfold kbe;exact(condT k4).trans ((condT k5).trans ((condT k6).trans rfl))
    rw[z];exact Runs.ret ⟨rfl,g3⟩
   ·have z:kbe a1 a2=false:=by unfold kbe;exact(condT k4).trans ((condT k5).trans ((condF k6).trans rfl))
    rw[z];exact Runs.ret ⟨rfl,g3⟩
  ·have z:kbe a1 a2=false:=by unfold kbe;exact(condT k4).trans ((condF k5).trans rfl)
   rw[z];exact Runs.ret ⟨rfl,g3⟩
 ·have z:kbe a1 a2=false:=by unfold kbe;exact(condF k4).trans rfl
  rw[z];exact Runs.ret ⟨rfl,g3⟩
def kb4(a1:Int):Bool :=
 cond (decide (a1≥1)) (decide (a1≤1048576)) (false)
theorem ko4{h:AH}   (a1:Int):Runs (go (.fn F.kjm [.int .i64 a1]) h) fun v h'=>v=.bool (kb4 a1)∧Grow h h':=by
 rw[k9j];refine Runs.cond (fun k2=>?_) (fun k2=>?_)
 ·have z:kb4 a1=decide (a1≤1048576):=by unfold kb4;exact(condT k2).trans rfl
  rw[z];exact Runs.ret ⟨rfl,(Grow.refl _)⟩
 ·have z:kb4 a1=false:=by unfold kb4;exact(condF k2).trans rfl
  rw[z];exact Runs.ret ⟨rfl,(Grow.refl _)⟩
def kbk(a1 a2 a3 a4:Int):Int×Int×Bool :=
 cond (!((kbe a1 a2))) ((0,0,false)) (cond (!((kbe a3 a4))) ((0,0,false)) ((((IntKind.wrap .i64 (a3-a1))),((IntKind.wrap .i64 (a4-a2))),((kbe (IntKind.wrap .i64 (a3-a1)) (IntKind.wrap .i64 (a4-a2)))))))
theorem kyi{h:AH}   (a1 a2 a3 a4:Int):Runs (go (.fn F.ko1 [.agg [.int .i64 a1,.int .i64 a2],.agg [.int .i64 a3,.int .i64 a4]]) h) fun v h'=>v=.tup [.agg [.int .i64 (kbk a1 a2 a3 a4).1,.int .i64 (kbk a1 a2 a3 a4).2.1],.bool (kbk a1 a2 a3 a4).2.2]∧Grow h h':=by
 rw[kyl];refine Runs.new fun H5 b5 g5=>?_;refine Runs.new fun H6 b6 g6=>?_;refine Runs.new fun H7 b7 g7=>?_;refine Runs.step (AH.has.rd ((g6.trans g7).has b5) 0 rfl (kb _ _)) ?_;refine Runs.step (AH.has.rd ((g6.trans g7).has b5) 1 rfl (kb _ _)) ?_;obtain⟨_,H8,e8,rfl,g8⟩:=kiu a1 a2;refine Runs.step e8 ?_;refine Runs.step (seen rfl) ?_;refine Runs.cond (fun k9=>?_) (fun k9=>?_)
 ·refine Runs.puts (g8.has b7) rfl fun H10 b10 u10=>?_;refine Runs.step (AH.has.rd b10 0 rfl (kb _ _)) ?_;refine Runs.step (AH.has.rd b10 1 rfl (kb _ _)) ?_;have z:kbk a1 a2 a3 a4=(0,0,false):=by unfold kbk;exact(condT k9).trans rfl
  rw[z];have G11:=((((g5.trans g6).trans g7).trans g8).updr (Nat.le_trans ((g5.trans g6)).size (Nat.le_refl _)) u10);exact Runs.ret ⟨rfl,G11⟩
 ·refine Runs.step (AH.has.rd ((g7.trans g8).has b6) 0 rfl (kb _ _)) ?_;refine Runs.step (AH.has.rd ((g7.trans g8).has b6) 1 rfl (kb _ _)) ?_;obtain⟨_,H10,e10,rfl,g10⟩:=kiu a3 a4;refine Runs.step e10 ?_;refine Runs.step (seen rfl) ?_;refine Runs.cond (fun k11=>?_) (fun k11=>?_)
  ·refine Runs.puts ((g8.trans g10).has b7) rfl fun H12 b12 u12=>?_;refine Runs.step (AH.has.rd b12 0 rfl (kb _ _)) ?_;refine Runs.step (AH.has.rd b12 1 rfl (kb _ _)) ?_;have z:kbk a1 a2 a3 a4=(0,0,false):=by unfold kbk;exact(condF k9).trans ((condT k11).trans rfl)
   rw[z];have G13:=(((((g5.trans g6).trans g7).trans g8).trans g10).updr (Nat.le_trans ((g5.trans g6)).size (Nat.le_refl _)) u12);exact Runs.ret ⟨rfl,G13⟩
  ·have G12:=((g7.trans g8).trans g10);have b6_13:=G12.has b6;refine Runs.step (AH.has.rd b6_13 0 rfl (kb _ _)) ?_;have G14:=(((g6.trans g7).trans g8).trans g10);have b5_15:=G14.has b5;refine Runs.step (AH.has.rd b5_15 0 rfl (kb _ _)) ?_;refine Runs.step (AH.has.rd b6_13 1 rfl (kb _ _)) ?_;refine Runs.step (AH.has.rd b5_15 1 rfl (kb _ _)) ?_;refine Runs.new fun H16 b16 g16=>?_;refine Runs.puts b16 rfl fun H17 b17 u17=>?_;refine Runs.step (AH.has.rd b17 0 rfl (kb _ _)) ?_;refine Runs.step (AH.has.rd b17 1 rfl (kb _ _)) ?_;refine Runs.step (AH.has.rd b17 0 rfl (kb _ _)) ?_;refine Runs.step (AH.has.rd b17 1 rfl (kb _ _)) ?_;obtain⟨_,H18,e18,rfl,g18⟩:=kiu (IntKind.wrap .i64 (a3-a1)) (IntKind.wrap .i64 (a4-a2));refine Runs.step e18 ?_;refine Runs.step (seen rfl) ?_;refine Runs.when (g18.same b17 0 2) ?_;have G20:=((((g8.trans g10).trans g16).updr (Nat.le_trans ((g8.trans g10)).size (Nat.le_refl _)) u17).trans g18);have b7_21:=G20.has b7;refine Runs.puts b7_21 rfl fun H19 b19 u19=>?_;have G22:=((g16.updr (Nat.le_refl _) u17).trans g18);have b5_23:=G22.has b5_15;have b5_19:=AH.has.updr b5_23 (Nat.ne_of_lt (Nat.lt_of_lt_of_le (g6.has b5).lt (Nat.le_refl _))) u19;have b6_24:=G22.has b6_13;have b6_19:=AH.has.updr b6_24 (Nat.ne_of_lt (Nat.lt_of_lt_of_le (b6).lt (Nat.le_refl _))) u19;have b17_19:=AH.has.updr (g18.has b17) (Nat.ne_of_gt (Nat.lt_of_lt_of_le ((g8.trans g10).has b7).lt (Nat.le_refl _))) u19;refine Runs.step (AH.has.rd b19 0 rfl (kb _ _)) ?_;refine Runs.step (AH.has.rd b19 1 rfl (kb _ _)) ?_;have z:kbk a1 a2 a3 a4=(((IntKind.wrap .i64 (a3-a1))),((IntKind.wrap .i64 (a4-a2))),((kbe (IntKind.wrap .i64 (a3-a1)) (IntKind.wrap .i64 (a4-a2))))):=by unfold kbk;exact(condF k9).trans ((condF k11).trans rfl)
   rw[z];have G25:=((((g5.trans g6).trans g7).trans g8).trans g10);have G26:=((((((((g5.trans g6).trans g7).trans g8).trans g10).trans g16).updr (Nat.le_trans (G25).size (Nat.le_refl _)) u17).trans g18).updr (Nat.le_trans ((g5.trans g6)).size (Nat.le_refl _)) u19);exact Runs.ret ⟨rfl,G26⟩
inductive khc
 | fn (a1:Int) (a2:Int) (a3:Int)
 | no
abbrev kf1:=Bool×List Nat×List Nat×Int
noncomputable def kiw(a1 a2 a3:Int):Option (khc⊕kf1) :=
 cond (!((kbe a2 a3))) (some (.inr (false,[],[],1))) (cond (!((kb4 a1))) (some (.inr (false,[],[],1))) ((need (-9223372036854775808≤(a2:Int)∧(a2:Int)≤9223372036854775807)).bind fun c12_0=>(u64P (IntKind.wrap .u64 (IntKind.wrap .i64 (a3+a1)))).bind fun p21=>some (.inr ((((kba (((kbn (((ofI a2).1)) ((ofI a2).2) (((ofI a2).1)) ((ofI a2).2)).1)) ((kbn (((ofI a2).1)) ((ofI a2).2) (((ofI a2).1)) ((ofI a2).2)).2.1) (digs B p21)).1)),(kba (((kbn (((ofI a2).1)) ((ofI a2).2) (((ofI a2).1)) ((ofI a2).2)).1)) ((kbn (((ofI a2).1)) ((ofI a2).2) (((ofI a2).1)) ((ofI a2).2)).2.1) (digs B p21)).2.1,(kba (((kbn (((ofI a2).1)) ((ofI a2).2) (((ofI a2).1)) ((ofI a2).2)).1)) ((kbn (((ofI a2).1)) ((ofI a2).2) (((ofI a2).1)) ((ofI a2).2)).2.1) (digs B p21)).2.2.1,((kba (((kbn (((ofI a2).1)) ((ofI a2).2) (((ofI a2).1)) ((ofI a2).2)).1)) ((kbn (((ofI a2).1)) ((ofI a2).2) (((ofI a2).1)) ((ofI a2).2)).2.1) (digs B p21)).2.2.2)))))
noncomputable def kv3:khc→Option (khc⊕kf1)
 | .fn a1 a2 a3=>kiw a1 a2 a3
 | .no=>none
@[reducible] def kuj(h0:AH)(r:kf1)(v:AV)(h':AH):Prop:=∃s1:Sl,∃s2:Sl,v=.tup [.agg [.bool r.1,s1.v,s2.v],.int .i64 r.2.2.2]∧Nats h' s1 r.2.1∧Nats h' s2 r.2.2.1∧Grow h0 h'∧Own h0 s1∧Own h0 s2
def kpz(r:kf1):khc→Prop
 | .fn a1 a2 a3=>∀{h:AH},Runs (go (.fn F.kl5 [.int .i64 a1,.agg [.int .i64 a2,.int .i64 a3]]) h) (kuj h r)
 | .no=>True
theorem k6d{r:kf1}{o:khc⊕kf1}{a1 a2 a3:Int}(e:kiw a1 a2 a3=some o)(good:GoodS (kpz r) r o):kpz r (.fn a1 a2 a3):=by
 intro h;rw[kyg];unfold kiw at e;refine Runs.new fun H4 b4 g4=>?_;refine Runs.new fun H5 b5 g5=>?_;refine Runs.step (AH.has.rd (g5.has b4) 0 rfl (kb _ _)) ?_;refine Runs.step (AH.has.rd (g5.has b4) 1 rfl (kb _ _)) ?_;obtain⟨_,H6,e6,rfl,g6⟩:=kiu a2 a3;refine Runs.step e6 ?_;refine Runs.step (seen rfl) ?_;refine Runs.cond (fun k7=>?_) (fun k7=>?_)
 ·replace e:=(condT k7).symm.trans e;refine Runs.puts (g6.has b5) rfl fun H8 b8 u8=>?_;refine Runs.step (AH.has.rd b8 0 rfl rfl) ?_;refine Runs.step (AH.has.rd b8 1 rfl (asSl_v _)) ?_;refine Runs.step (AH.has.rd b8 2 rfl (asSl_v _)) ?_;cases e;cases good;have G9:=(((g4.trans g5).trans g6).updr (Nat.le_trans (g4).size (Nat.le_refl _)) u8);exact Runs.ret ⟨(⟨none,0,.is 0⟩:Sl),(⟨none,0,.is 0⟩:Sl),rfl,(Nats.nil _),(Nats.nil _),G9,(Own.nil _),(Own.nil _)⟩
 ·replace e:=(condF k7).symm.trans e;obtain⟨_,H8,e8,rfl,g8⟩:=ko4 a1;refine Runs.step e8 ?_;refine Runs.step (seen rfl) ?_;refine Runs.cond (fun k9=>?_) (fun k9=>?_)
  ·replace e:=(condT k9).symm.trans e;refine Runs.puts ((g6.trans g8).has b5) rfl fun H10 b10 u10=>?_;refine Runs.step (AH.has.rd b10 0 rfl rfl) ?_;refine Runs.step (AH.has.rd b10 1 rfl (asSl_v _)) ?_;refine Runs.step (AH.has.rd b10 2 rfl (asSl_v _)) ?_;cases e;cases good;have G11:=((((g4.trans g5).trans g6).trans g8).updr (Nat.le_trans (g4).size (Nat.le_refl _)) u10);exact Runs.ret ⟨(⟨none,0,.is 0⟩:Sl),(⟨none,0,.is 0⟩:Sl),rfl,(Nats.nil _),(Nats.nil _),G11,(Own.nil _),(Own.nil _)⟩
  ·replace e:=(condF k9).symm.trans e;have G10:=((g5.trans g6).trans g8);have b4_11:=G10.has b4;refine Runs.step (AH.has.rd b4_11 0 rfl (kb _ _)) ?_;obtain⟨c12_0,q12_0,e⟩:=Option.bind_eq_some_iff.1 e;obtain⟨s12,H12,e12,n12,g12,o12⟩:=kk3 a2  c12_0.down;refine Runs.step e12 ?_;refine Runs.step rfl ?_;refine Runs.ifT rfl ?_;refine Runs.step (seenAt rfl rfl) ?_;refine Runs.step (seenAt rfl (asSl_v _)) ?_;refine Runs.new fun H13 b13 g13=>?_;refine Runs.puts b13 rfl fun H14 b14 u14=>?_;refine Runs.step (AH.has.rd b14 0 rfl rfl) ?_;refine Runs.step (AH.has.rd b14 1 rfl (asSl_v _)) ?_;refine Runs.step (AH.has.rd b14 0 rfl rfl) ?_;refine Runs.step (AH.has.rd b14 1 rfl (asSl_v _)) ?_;obtain⟨_,H15,e15,s15,rfl,n15,g15,o15⟩:=kpw (n12.grow (g13.updr (Nat.le_refl _) u14)) (n12.grow (g13.updr (Nat.le_refl _) u14)) (((ofI a2).1)) (((ofI a2).1));refine Runs.step e15 ?_;refine Runs.step rfl ?_;refine Runs.step rfl ?_;refine Runs.ifT rfl ?_;refine Runs.step (seenAt rfl rfl) ?_;refine Runs.step (seenAt rfl (asSl_v _)) ?_;refine Runs.step (seen (kb _ _)) ?_;refine Runs.new fun H16 b16 g16=>?_;refine Runs.puts b16 rfl fun H17 b17 u17=>?_;refine Runs.step (AH.has.rd b17 0 rfl rfl) ?_;refine Runs.step (AH.has.rd b17 1 rfl (asSl_v _)) ?_;have G18:=(((g12.trans g13).updr (Nat.le_trans (g12).size (Nat.le_refl _)) u14).trans g15);have G19:=(((((g12.trans g13).updr (Nat.le_trans (g12).size (Nat.le_refl _)) u14).trans g15).trans g16).updr (Nat.le_trans (G18).size (Nat.le_refl _)) u17);have b4_20:=G19.has b4_11;refine Runs.step (AH.has.rd b4_20 1 rfl (kb _ _)) ?_;obtain⟨p21,q21,e⟩:=Option.bind_eq_some_iff.1 e;obtain⟨s21,H21,e21,n21,g21,o21⟩:=kmc q21;refine Runs.step e21 ?_;refine Runs.step (seen (asSl_v _)) ?_;refine Runs.when (g21.same b17 0 2) ?_;have G22:=((g16.updr (Nat.le_refl _) u17).trans g21);have n15_23:=n15.grow G22;obtain⟨_,H24,e24,s24,s24b,rfl,n24,n24b,g24,o24,o24b⟩:=kl2 n15_23 n21 (((kbn (((ofI a2).1)) ((ofI a2).2) (((ofI a2).1)) ((ofI a2).2)).1));refine Runs.step e24 ?_;refine Runs.step rfl ?_;refine Runs.step rfl ?_;refine Runs.ifT rfl ?_;refine Runs.step (seenAt rfl rfl) ?_;refine Runs.step (seenAt rfl (asSl_v _)) ?_;refine Runs.step (seenAt rfl (asSl_v _)) ?_;refine Runs.step (seen (kb _ _)) ?_;have G26:=((g6.trans g8).trans g12);have G27:=(((G26.trans g13).updr (Nat.le_trans (G26).size (Nat.le_refl _)) u14).trans g15);have G28:=(((((((((g6.trans g8).trans g12).trans g13).updr (Nat.le_trans (G26).size (Nat.le_refl _)) u14).trans g15).trans g16).updr (Nat.le_trans (G27).size (Nat.le_refl _)) u17).trans g21).trans g24);have b5_29:=G28.has b5;refine Runs.puts b5_29 rfl fun H25 b25 u25=>?_;have G30:=((g13.updr (Nat.le_refl _) u14).trans g15);have G31:=((((((g13.updr (Nat.le_refl _) u14).trans g15).trans g16).updr (Nat.le_trans (G30).size (Nat.le_refl _)) u17).trans g21).trans g24);have n12_32:=n12.grow G31;have n12_25:=n12_32.upda (Av.of_own o12 ((g6.trans g8).has b5).lt) u25;have G33:=((G26.trans g13).updr (Nat.le_trans (G26).size (Nat.le_refl _)) u14);have n15_25:=(n15_23.grow g24).upda (Av.of_own o15 (G33.has b5).lt) u25;have G34:=((G27.trans g16).updr (Nat.le_trans (G27).size (Nat.le_refl _)) u17);have n21_25:=(n21.grow g24).upda (Av.of_own o21 (G34.has b5).lt) u25;have G35:=(G34.trans g21);have n24_25:=n24.upda (Av.of_own o24 (G35.has b5).lt) u25;have n24b_25:=n24b.upda (Av.of_own o24b (G35.has b5).lt) u25;have b4_25:=AH.has.updr ((g21.trans g24).has b4_20) (Nat.ne_of_lt (Nat.lt_of_lt_of_le (b4).lt (Nat.le_refl _))) u25;have G36:=((((g15.trans g16).updr (Nat.le_trans (g15).size (Nat.le_refl _)) u17).trans g21).trans g24);have b14_37:=G36.has b14;have b14_25:=AH.has.updr b14_37 (Nat.ne_of_gt (Nat.lt_of_lt_of_le (G26.has b5).lt (Nat.le_refl _))) u25;have b17_25:=AH.has.updr ((g21.trans g24).has b17) (Nat.ne_of_gt (Nat.lt_of_lt_of_le (G27.has b5).lt (Nat.le_refl _))) u25;refine Runs.step (AH.has.rd b25 0 rfl rfl) ?_;refine Runs.step (AH.has.rd b25 1 rfl (asSl_v _)) ?_;refine Runs.step (AH.has.rd b25 2 rfl (asSl_v _)) ?_;cases e;cases good;have G38:=((((g4.trans g5).trans g6).trans g8).trans g12);have G39:=(((G38.trans g13).updr (Nat.le_trans (G38).size (Nat.le_refl _)) u14).trans g15);have G40:=((((((((((g4.trans g5).trans g6).trans g8).trans g12).trans g13).updr (Nat.le_trans (G38).size (Nat.le_refl _)) u14).trans g15).trans g16).updr (Nat.le_trans (G39).size (Nat.le_refl _)) u17).trans g21);have G41:=((G40.trans g24).updr (Nat.le_trans (g4).size (Nat.le_refl _)) u25);exact Runs.ret ⟨s24,s24b,rfl,n24_25,n24b_25,G41,(o24.of_le G40),(o24b.of_le G40)⟩
theorem k3v{s:khc}{r:kf1}(it:Iter kv3 s r):kpz r s:=Iter.ind (fun s o e good=>by
 cases s with
 | fn a1 a2 a3=>exact @k6d _ _ a1 a2 a3 e good
 | no=>exact True.intro
 ) it
end Go.Ab

/- squeezed -/
set_option maxRecDepth 10000
namespace Go.Ab
open Go.Proofs Go.Num
theorem kk6{g n:Int}:kbe g n=true↔-1099511627776≤g∧g≤1099511627776∧0≤n∧n≤1048576:=by
 unfold kbe;by_cases h1:g≥-1099511627776<;>by_cases h2:g≤1099511627776<;>by_cases h3:n≥0<;>by_cases h4:n≤1048576<;>simp[h1,h2,h3,h4]
theorem kuu{l:Int}:kb4 l=true↔1≤l∧l≤1048576:=by
 unfold kb4;by_cases h1:l≥1<;>by_cases h2:l≤1048576<;>simp[h1,h2]
def scoreF(l g n:Int):Bool×List Nat×List Nat×Int:=if kbe g n=true∧kb4 l=true then fracM (g*g) (n+l).toNat else(false,[],[],1)
theorem sq_lt{g:Int}(h1:-1099511627776≤g)(h2:g≤1099511627776):(g*g).natAbs≤1099511627776*1099511627776:=by
 rw[Int.natAbs_mul];exact Nat.mul_le_mul (by omega) (by omega)
theorem k5d(l g n:Int):Iter kv3 (.fn l g n) (scoreF l g n):=.done (by
 show kiw _ _ _=_;unfold kiw scoreF;cases h1:kbe g n with
 | false=>rfl
 | true =>
  cases h2:kb4 l with
  | false=>rfl
  | true =>
   obtain⟨a1,a2,a3,a4⟩:=kk6.1 h1;obtain⟨b1,b2⟩:=kuu.1 h2;have h64:=kh3;have hs:=sq_lt a1 a2;rw[if_pos ⟨rfl,rfl⟩,kbq ⟨by omega,by omega⟩,kph (by omega),ko6 (by omega) (by omega),if_pos (by omega),wrap64 (by omega) (by omega),wrapU,Int.emod_eq_of_lt (by omega) (by omega)];have e:n+l=(((n+l).toNat:Nat):Int):=by omega
   rw[show u64P (n+l)=some (n+l).toNat from by rw[e];exact kbt (by omega)];simp only[Bool.not_true,cond_false,Option.bind_some];rw[knt (by omega) (by omega) (by omega)])
theorem kqd{h:AH}(l g n:Int):Runs (go (.fn F.kl5 [.int .i64 l,.agg [.int .i64 g,.int .i64 n]]) h) (kuj h (scoreF l g n)):=k3v (k5d l g n)
end Go.Ab

/- squeezed -/
set_option maxRecDepth 10000
namespace Go.Ab
open Go.Proofs Go.Num
inductive kib
 | fn (a1:Int) (a2:Int) (a3:Int) (a4:Int) (a5:Int)
 | no
abbrev kgt:=Bool×List Nat×List Nat×Int
noncomputable def ki8(a1 a2 a3 a4 a5:Int):Option (kib⊕kgt) :=
 cond (!((kbk a2 a3 a4 a5).2.2)) (some (.inr (false,[],[],1))) (cond (!((kb4 a1))) (some (.inr (false,[],[],1))) ((some (kdr (((((scoreF a1 a2 a3).1)))) ((scoreF a1 a2 a3).2.1) ((scoreF a1 a2 a3).2.2.1) (((((scoreF a1 (((((kbk a2 a3 a4 a5).1)))) (((((kbk a2 a3 a4 a5).2.1))))).1)))) ((scoreF a1 (((((kbk a2 a3 a4 a5).1)))) (((((kbk a2 a3 a4 a5).2.1))))).2.1) ((scoreF a1 (((((kbk a2 a3 a4 a5).1)))) (((((kbk a2 a3 a4 a5).2.1))))).2.2.1))).bind fun p50=>(some (kdq ((p50.1)) p50.2.1 p50.2.2.1 (((((scoreF a1 a4 a5).1)))) ((scoreF a1 a4 a5).2.1) ((scoreF a1 a4 a5).2.2.1))).bind fun p87=>some (.inr (((p87.1)),p87.2.1,p87.2.2.1,(p87.2.2.2)))))
noncomputable def kq7:kib→Option (kib⊕kgt)
 | .fn a1 a2 a3 a4 a5=>ki8 a1 a2 a3 a4 a5
 | .no=>none
@[reducible] def kwe(h0:AH)(r:kgt)(v:AV)(h':AH):Prop:=∃s1:Sl,∃s2:Sl,v=.tup [.agg [.bool r.1,s1.v,s2.v],.int .i64 r.2.2.2]∧Nats h' s1 r.2.1∧Nats h' s2 r.2.2.1∧Grow h0 h'∧Own h0 s1∧Own h0 s2
def kox(r:kgt):kib→Prop
 | .fn a1 a2 a3 a4 a5=>∀{h:AH},Runs (go (.fn F.knj [.int .i64 a1,.agg [.int .i64 a2,.int .i64 a3],.agg [.int .i64 a4,.int .i64 a5]]) h) (kwe h r)
 | .no=>True
theorem k4a{r:kgt}{o:kib⊕kgt}{a1 a2 a3 a4 a5:Int}(e:ki8 a1 a2 a3 a4 a5=some o)(good:GoodS (kox r) r o):kox r (.fn a1 a2 a3 a4 a5):=by
 intro h;rw[k4z];unfold ki8 at e;refine Runs.new fun H6 b6 g6=>?_;refine Runs.new fun H7 b7 g7=>?_;refine Runs.new fun H8 b8 g8=>?_;refine Runs.new fun H9 b9 g9=>?_;refine Runs.step (AH.has.rd ((g8.trans g9).has b7) 0 rfl (kb _ _)) ?_;refine Runs.step (AH.has.rd ((g8.trans g9).has b7) 1 rfl (kb _ _)) ?_;refine Runs.step (AH.has.rd (g9.has b8) 0 rfl (kb _ _)) ?_;refine Runs.step (AH.has.rd (g9.has b8) 1 rfl (kb _ _)) ?_;obtain⟨_,H10,e10,rfl,g10⟩:=kyi a2 a3 a4 a5;refine Runs.step e10 ?_;refine Runs.step rfl ?_;refine Runs.step rfl ?_;refine Runs.ifT rfl ?_;refine Runs.step (seenAt rfl (kb _ _)) ?_;refine Runs.step (seenAt rfl (kb _ _)) ?_;refine Runs.step (seen rfl) ?_;refine Runs.new fun H11 b11 g11=>?_;refine Runs.puts b11 rfl fun H12 b12 u12=>?_;refine Runs.cond (fun k13=>?_) (fun k13=>?_)
 ·replace e:=(condT k13).symm.trans e;have G15:=((g10.trans g11).updr (Nat.le_trans (g10).size (Nat.le_refl _)) u12);have b9_16:=G15.has b9;refine Runs.puts b9_16 rfl fun H14 b14 u14=>?_;have b12_14:=AH.has.updr b12 (Nat.ne_of_gt (Nat.lt_of_lt_of_le (g10.has b9).lt (Nat.le_refl _))) u14;refine Runs.step (AH.has.rd b14 0 rfl rfl) ?_;refine Runs.step (AH.has.rd b14 1 rfl (asSl_v _)) ?_;refine Runs.step (AH.has.rd b14 2 rfl (asSl_v _)) ?_;cases e;cases good;have G17:=((((g6.trans g7).trans g8).trans g9).trans g10);have G18:=((g6.trans g7).trans g8);have G19:=(((((((g6.trans g7).trans g8).trans g9).trans g10).trans g11).updr (Nat.le_trans (G17).size (Nat.le_refl _)) u12).updr (Nat.le_trans (G18).size (Nat.le_refl _)) u14);exact Runs.ret ⟨(⟨none,0,.is 0⟩:Sl),(⟨none,0,.is 0⟩:Sl),rfl,(Nats.nil _),(Nats.nil _),G19,(Own.nil _),(Own.nil _)⟩
 ·replace e:=(condF k13).symm.trans e;have G14:=(((g7.trans g8).trans g9).trans g10);have G15:=(((((g7.trans g8).trans g9).trans g10).trans g11).updr (Nat.le_trans (G14).size (Nat.le_refl _)) u12);have b6_16:=G15.has b6;refine Runs.step (AH.has.rd0 b6_16 rfl (kb _ _)) ?_;obtain⟨_,H17,e17,rfl,g17⟩:=ko4 a1;refine Runs.step e17 ?_;refine Runs.step (seen rfl) ?_;refine Runs.cond (fun k18=>?_) (fun k18=>?_)
  ·replace e:=(condT k18).symm.trans e;have G20:=(((g10.trans g11).updr (Nat.le_trans (g10).size (Nat.le_refl _)) u12).trans g17);have b9_21:=G20.has b9;refine Runs.puts b9_21 rfl fun H19 b19 u19=>?_;have b6_19:=AH.has.updr (g17.has b6_16) (Nat.ne_of_lt (Nat.lt_of_lt_of_le ((g7.trans g8).has b6).lt (Nat.le_refl _))) u19;have b12_19:=AH.has.updr (g17.has b12) (Nat.ne_of_gt (Nat.lt_of_lt_of_le (g10.has b9).lt (Nat.le_refl _))) u19;refine Runs.step (AH.has.rd b19 0 rfl rfl) ?_;refine Runs.step (AH.has.rd b19 1 rfl (asSl_v _)) ?_;refine Runs.step (AH.has.rd b19 2 rfl (asSl_v _)) ?_;cases e;cases good;have G22:=((((g6.trans g7).trans g8).trans g9).trans g10);have G23:=((g6.trans g7).trans g8);have G24:=((((((((g6.trans g7).trans g8).trans g9).trans g10).trans g11).updr (Nat.le_trans (G22).size (Nat.le_refl _)) u12).trans g17).updr (Nat.le_trans (G23).size (Nat.le_refl _)) u19);exact Runs.ret ⟨(⟨none,0,.is 0⟩:Sl),(⟨none,0,.is 0⟩:Sl),rfl,(Nats.nil _),(Nats.nil _),G24,(Own.nil _),(Own.nil _)⟩
  ·replace e:=(condF k18).symm.trans e;refine Runs.new fun H19 b19 g19=>?_;have G20:=((g8.trans g9).trans g10);have G21:=((((((g8.trans g9).trans g10).trans g11).updr (Nat.le_trans (G20).size (Nat.le_refl _)) u12).trans g17).trans g19);have b7_22:=G21.has b7;refine Runs.step (AH.has.rd b7_22 0 rfl (kb _ _)) ?_;refine Runs.step (AH.has.rd b7_22 1 rfl (kb _ _)) ?_;refine Runs.step (AH.has.rd ((g17.trans g19).has b12) 0 rfl (kb _ _)) ?_;refine Runs.step (AH.has.rd ((g17.trans g19).has b12) 1 rfl (kb _ _)) ?_;rw[knu];refine Runs.newB fun H23 b23 g23=>?_;refine Runs.newB fun H24 b24 g24=>?_;have G25:=(((g17.trans g19).trans g23).trans g24);have b6_26:=G25.has b6_16;refine Runs.stepB (AH.has.rd0 b6_26 rfl (kb _ _)) ?_;refine Runs.stepB (AH.has.rd (g24.has b23) 0 rfl (kb _ _)) ?_;refine Runs.stepB (AH.has.rd (g24.has b23) 1 rfl (kb _ _)) ?_;obtain⟨_,H27,e27,s27,s27b,rfl,n27,n27b,g27,o27,o27b⟩:=kqd a1 a2 a3;refine Runs.stepB e27 ?_;refine Runs.stepB rfl ?_;refine Runs.stepB rfl ?_;refine Runs.ifTB rfl ?_;refine Runs.stepB (seenAt rfl rfl) ?_;refine Runs.stepB (seenAt rfl (asSl_v _)) ?_;refine Runs.stepB (seenAt rfl (asSl_v _)) ?_;refine Runs.stepB (seen (kb _ _)) ?_;refine Runs.newB fun H28 b28 g28=>?_;refine Runs.putsB b28 rfl fun H29 b29 u29=>?_;refine Runs.stepB (AH.has.rd b29 0 rfl rfl) ?_;refine Runs.stepB (AH.has.rd b29 1 rfl (asSl_v _)) ?_;refine Runs.stepB (AH.has.rd b29 2 rfl (asSl_v _)) ?_;have G31:=((g27.trans g28).updr (Nat.le_trans (g27).size (Nat.le_refl _)) u29);have b24_32:=G31.has b24;refine Runs.putsB b24_32 rfl fun H30 b30 u30=>?_;have n27_30:=(n27.grow (g28.updr (Nat.le_refl _) u29)).upda (Av.of_own o27 (b24).lt) u30;have n27b_30:=(n27b.grow (g28.updr (Nat.le_refl _) u29)).upda (Av.of_own o27b (b24).lt) u30;have b6_33:=G31.has b6_26;have G34:=((g17.trans g19).trans g23);have b6_30:=AH.has.updr b6_33 (Nat.ne_of_lt (Nat.lt_of_lt_of_le (G34.has b6_16).lt (Nat.le_refl _))) u30;have b29_30:=AH.has.updr b29 (Nat.ne_of_gt (Nat.lt_of_lt_of_le (g27.has b24).lt (Nat.le_refl _))) u30;refine Runs.stepB (AH.has.rd b30 0 rfl rfl) ?_;refine Runs.stepB (AH.has.rd b30 1 rfl (asSl_v _)) ?_;refine Runs.stepB (AH.has.rd b30 2 rfl (asSl_v _)) ?_;refine Runs.retB ?_;refine Runs.step rfl ?_;refine Runs.ifT rfl ?_;refine Runs.step (seenAt rfl rfl) ?_;refine Runs.step (seenAt rfl (asSl_v _)) ?_;refine Runs.step (seenAt rfl (asSl_v _)) ?_;have G35:=((g23.trans g24).trans g27);have G36:=(((((g23.trans g24).trans g27).trans g28).updr (Nat.le_trans (G35).size (Nat.le_refl _)) u29).updr (Nat.le_trans (g23).size (Nat.le_refl _)) u30);refine Runs.when (G36.same ((g17.trans g19).has b12) 0 2) ?_;refine Runs.when (G36.same b19 0 0) ?_;rw[knu];refine Runs.newB fun H37 b37 g37=>?_;refine Runs.newB fun H38 b38 g38=>?_;refine Runs.stepB (AH.has.rd0 ((g37.trans g38).has b6_30) rfl (kb _ _)) ?_;refine Runs.stepB (AH.has.rd (g38.has b37) 0 rfl (kb _ _)) ?_;refine Runs.stepB (AH.has.rd (g38.has b37) 1 rfl (kb _ _)) ?_;obtain⟨_,H39,e39,s39,s39b,rfl,n39,n39b,g39,o39,o39b⟩:=kqd a1 (((((kbk a2 a3 a4 a5).1)))) (((((kbk a2 a3 a4 a5).2.1))));refine Runs.stepB e39 ?_;refine Runs.stepB rfl ?_;refine Runs.stepB rfl ?_;refine Runs.ifTB rfl ?_;refine Runs.stepB (seenAt rfl rfl) ?_;refine Runs.stepB (seenAt rfl (asSl_v _)) ?_;refine Runs.stepB (seenAt rfl (asSl_v _)) ?_;refine Runs.stepB (seen (kb _ _)) ?_;refine Runs.newB fun H40 b40 g40=>?_;refine Runs.putsB b40 rfl fun H41 b41 u41=>?_;refine Runs.stepB (AH.has.rd b41 0 rfl rfl) ?_;refine Runs.stepB (AH.has.rd b41 1 rfl (asSl_v _)) ?_;refine Runs.stepB (AH.has.rd b41 2 rfl (asSl_v _)) ?_;have G43:=((g39.trans g40).updr (Nat.le_trans (g39).size (Nat.le_refl _)) u41);have b38_44:=G43.has b38;refine Runs.putsB b38_44 rfl fun H42 b42 u42=>?_;have n39_42:=(n39.grow (g40.updr (Nat.le_refl _) u41)).upda (Av.of_own o39 (b38).lt) u42;have n39b_42:=(n39b.grow (g40.updr (Nat.le_refl _) u41)).upda (Av.of_own o39b (b38).lt) u42;have b41_42:=AH.has.updr b41 (Nat.ne_of_gt (Nat.lt_of_lt_of_le (g39.has b38).lt (Nat.le_refl _))) u42;refine Runs.stepB (AH.has.rd b42 0 rfl rfl) ?_;refine Runs.stepB (AH.has.rd b42 1 rfl (asSl_v _)) ?_;refine Runs.stepB (AH.has.rd b42 2 rfl (asSl_v _)) ?_;refine Runs.retB ?_;refine Runs.step rfl ?_;refine Runs.ifT rfl ?_;refine Runs.step (seenAt rfl rfl) ?_;refine Runs.step (seenAt rfl (asSl_v _)) ?_;refine Runs.step (seenAt rfl (asSl_v _)) ?_;have b19_45:=G36.has b19;have G46:=((g37.trans g38).trans g39);have G47:=(((((g37.trans g38).trans g39).trans g40).updr (Nat.le_trans (G46).size (Nat.le_refl _)) u41).updr (Nat.le_trans (g37).size (Nat.le_refl _)) u42);refine Runs.when (G47.same b19_45 0 0) ?_;have n27_48:=n27_30.grow G47;have n27b_49:=n27b_30.grow G47;obtain⟨p50,q50,e⟩:=Option.bind_eq_some_iff.1 e;obtain⟨_,H50,e50,s50,s50b,rfl,n50,n50b,g50,o50,o50b⟩:=k6o n27_48 n27b_49 n39_42 n39b_42 (Option.some.inj q50);refine Runs.step e50 ?_;refine Runs.step rfl ?_;refine Runs.step rfl ?_;refine Runs.ifT rfl ?_;refine Runs.step (seenAt rfl rfl) ?_;refine Runs.step (seenAt rfl (asSl_v _)) ?_;refine Runs.step (seenAt rfl (asSl_v _)) ?_;refine Runs.step (seen (kb _ _)) ?_;have b19_51:=G47.has b19_45;refine Runs.when (g50.same b19_51 0 0) ?_;refine Runs.puts (g50.has b19_51) rfl fun H52 b52 u52=>?_;have n27_52:=(n27_48.grow g50).upda (Av.of_own o27 ((g23.trans g24).has b19).lt) u52;have n27b_52:=(n27b_49.grow g50).upda (Av.of_own o27b ((g23.trans g24).has b19).lt) u52;have n39_52:=(n39_42.grow g50).upda (Av.of_own o39 ((g37.trans g38).has b19_45).lt) u52;have n39b_52:=(n39b_42.grow g50).upda (Av.of_own o39b ((g37.trans g38).has b19_45).lt) u52;have n50_52:=n50.upda (Av.of_own o50 (b19_51).lt) u52;have n50b_52:=n50b.upda (Av.of_own o50b (b19_51).lt) u52;have G53:=(G47.trans g50);have b6_54:=G53.has b6_30;have b6_52:=AH.has.updr b6_54 (Nat.ne_of_lt (Nat.lt_of_lt_of_le (g17.has b6_16).lt (Nat.le_refl _))) u52;have G55:=(((G36.trans g37).trans g38).trans g39);have G56:=(G36.trans g37);have G57:=(((((((G36.trans g37).trans g38).trans g39).trans g40).updr (Nat.le_trans (G55).size (Nat.le_refl _)) u41).updr (Nat.le_trans (G56).size (Nat.le_refl _)) u42).trans g50);have b7_58:=G57.has b7_22;have G59:=(((G20.trans g11).updr (Nat.le_trans (G20).size (Nat.le_refl _)) u12).trans g17);have b7_52:=AH.has.updr b7_58 (Nat.ne_of_lt (Nat.lt_of_lt_of_le (G59.has b7).lt (Nat.le_refl _))) u52;have G60:=(((((((g24.trans g27).trans g28).updr (Nat.le_trans ((g24.trans g27)).size (Nat.le_refl _)) u29).updr (Nat.le_refl _) u30).trans g37).trans g38).trans g39);have G61:=(((((g24.trans g27).trans g28).updr (Nat.le_trans ((g24.trans g27)).size (Nat.le_refl _)) u29).updr (Nat.le_refl _) u30).trans g37);have G62:=(((((((((((g24.trans g27).trans g28).updr (Nat.le_trans ((g24.trans g27)).size (Nat.le_refl _)) u29).updr (Nat.le_refl _) u30).trans g37).trans g38).trans g39).trans g40).updr (Nat.le_trans (G60).size (Nat.le_refl _)) u41).updr (Nat.le_trans (G61).size (Nat.le_refl _)) u42).trans g50);have b23_63:=G62.has b23;have b23_52:=AH.has.updr b23_63 (Nat.ne_of_gt (Nat.lt_of_lt_of_le (b19).lt (Nat.le_refl _))) u52;have b30_64:=G53.has b30;have b30_52:=AH.has.updr b30_64 (Nat.ne_of_gt (Nat.lt_of_lt_of_le (g23.has b19).lt (Nat.le_refl _))) u52;have b29_65:=G53.has b29_30;have b29_52:=AH.has.updr b29_65 (Nat.ne_of_gt (Nat.lt_of_lt_of_le (G35.has b19).lt (Nat.le_refl _))) u52;have G66:=(((((g38.trans g39).trans g40).updr (Nat.le_trans ((g38.trans g39)).size (Nat.le_refl _)) u41).updr (Nat.le_refl _) u42).trans g50);have b37_67:=G66.has b37;have b37_52:=AH.has.updr b37_67 (Nat.ne_of_gt (Nat.lt_of_lt_of_le (b19_45).lt (Nat.le_refl _))) u52;have b42_52:=AH.has.updr (g50.has b42) (Nat.ne_of_gt (Nat.lt_of_lt_of_le (g37.has b19_45).lt (Nat.le_refl _))) u52;have b41_52:=AH.has.updr (g50.has b41_42) (Nat.ne_of_gt (Nat.lt_of_lt_of_le (G46.has b19_45).lt (Nat.le_refl _))) u52;refine Runs.step (AH.has.rd b52 0 rfl rfl) ?_;refine Runs.step (AH.has.rd b52 1 rfl (asSl_v _)) ?_;refine Runs.step (AH.has.rd b52 2 rfl (asSl_v _)) ?_;have G68:=((((((((g9.trans g10).trans g11).updr (Nat.le_trans ((g9.trans g10)).size (Nat.le_refl _)) u12).trans g17).trans g19).trans g23).trans g24).trans g27);have G69:=((((((g9.trans g10).trans g11).updr (Nat.le_trans ((g9.trans g10)).size (Nat.le_refl _)) u12).trans g17).trans g19).trans g23);have G70:=((((((G68.trans g28).updr (Nat.le_trans (G68).size (Nat.le_refl _)) u29).updr (Nat.le_trans (G69).size (Nat.le_refl _)) u30).trans g37).trans g38).trans g39);have G71:=((((G68.trans g28).updr (Nat.le_trans (G68).size (Nat.le_refl _)) u29).updr (Nat.le_trans (G69).size (Nat.le_refl _)) u30).trans g37);have G72:=((((g9.trans g10).trans g11).updr (Nat.le_trans ((g9.trans g10)).size (Nat.le_refl _)) u12).trans g17);have G73:=(((((((((((((((((((g9.trans g10).trans g11).updr (Nat.le_trans ((g9.trans g10)).size (Nat.le_refl _)) u12).trans g17).trans g19).trans g23).trans g24).trans g27).trans g28).updr (Nat.le_trans (G68).size (Nat.le_refl _)) u29).updr (Nat.le_trans (G69).size (Nat.le_refl _)) u30).trans g37).trans g38).trans g39).trans g40).updr (Nat.le_trans (G70).size (Nat.le_refl _)) u41).updr (Nat.le_trans (G71).size (Nat.le_refl _)) u42).trans g50).updr (Nat.le_trans (G72).size (Nat.le_refl _)) u52);have b8_74:=G73.has b8;refine Runs.step (AH.has.rd b8_74 0 rfl (kb _ _)) ?_;refine Runs.step (AH.has.rd b8_74 1 rfl (kb _ _)) ?_;rw[knu];refine Runs.newB fun H75 b75 g75=>?_;refine Runs.newB fun H76 b76 g76=>?_;refine Runs.stepB (AH.has.rd0 ((g75.trans g76).has b6_52) rfl (kb _ _)) ?_;refine Runs.stepB (AH.has.rd (g76.has b75) 0 rfl (kb _ _)) ?_;refine Runs.stepB (AH.has.rd (g76.has b75) 1 rfl (kb _ _)) ?_;obtain⟨_,H77,e77,s77,s77b,rfl,n77,n77b,g77,o77,o77b⟩:=kqd a1 a4 a5;refine Runs.stepB e77 ?_;refine Runs.stepB rfl ?_;refine Runs.stepB rfl ?_;refine Runs.ifTB rfl ?_;refine Runs.stepB (seenAt rfl rfl) ?_;refine Runs.stepB (seenAt rfl (asSl_v _)) ?_;refine Runs.stepB (seenAt rfl (asSl_v _)) ?_;refine Runs.stepB (seen (kb _ _)) ?_;refine Runs.newB fun H78 b78 g78=>?_;refine Runs.putsB b78 rfl fun H79 b79 u79=>?_;refine Runs.stepB (AH.has.rd b79 0 rfl rfl) ?_;refine Runs.stepB (AH.has.rd b79 1 rfl (asSl_v _)) ?_;refine Runs.stepB (AH.has.rd b79 2 rfl (asSl_v _)) ?_;have G81:=((g77.trans g78).updr (Nat.le_trans (g77).size (Nat.le_refl _)) u79);have b76_82:=G81.has b76;refine Runs.putsB b76_82 rfl fun H80 b80 u80=>?_;have n77_80:=(n77.grow (g78.updr (Nat.le_refl _) u79)).upda (Av.of_own o77 (b76).lt) u80;have n77b_80:=(n77b.grow (g78.updr (Nat.le_refl _) u79)).upda (Av.of_own o77b (b76).lt) u80;have b79_80:=AH.has.updr b79 (Nat.ne_of_gt (Nat.lt_of_lt_of_le (g77.has b76).lt (Nat.le_refl _))) u80;refine Runs.stepB (AH.has.rd b80 0 rfl rfl) ?_;refine Runs.stepB (AH.has.rd b80 1 rfl (asSl_v _)) ?_;refine Runs.stepB (AH.has.rd b80 2 rfl (asSl_v _)) ?_;refine Runs.retB ?_;refine Runs.step rfl ?_;refine Runs.ifT rfl ?_;refine Runs.step (seenAt rfl rfl) ?_;refine Runs.step (seenAt rfl (asSl_v _)) ?_;refine Runs.step (seenAt rfl (asSl_v _)) ?_;have G83:=((g75.trans g76).trans g77);have G84:=(((((g75.trans g76).trans g77).trans g78).updr (Nat.le_trans (G83).size (Nat.le_refl _)) u79).updr (Nat.le_trans (g75).size (Nat.le_refl _)) u80);refine Runs.when (G84.same b52 0 3) ?_;have n50_85:=n50_52.grow G84;have n50b_86:=n50b_52.grow G84;obtain⟨p87,q87,e⟩:=Option.bind_eq_some_iff.1 e;obtain⟨_,H87,e87,s87,s87b,rfl,n87,n87b,g87,o87,o87b⟩:=kyu n50_85 n50b_86 n77_80 n77b_80 (Option.some.inj q87);refine Runs.step e87 ?_;refine Runs.step rfl ?_;refine Runs.step rfl ?_;refine Runs.ifT rfl ?_;refine Runs.step (seenAt rfl rfl) ?_;refine Runs.step (seenAt rfl (asSl_v _)) ?_;refine Runs.step (seenAt rfl (asSl_v _)) ?_;refine Runs.step (seen (kb _ _)) ?_;have G89:=(((((((g10.trans g11).updr (Nat.le_trans (g10).size (Nat.le_refl _)) u12).trans g17).trans g19).trans g23).trans g24).trans g27);have G90:=(((((g10.trans g11).updr (Nat.le_trans (g10).size (Nat.le_refl _)) u12).trans g17).trans g19).trans g23);have G91:=((((((G89.trans g28).updr (Nat.le_trans (G89).size (Nat.le_refl _)) u29).updr (Nat.le_trans (G90).size (Nat.le_refl _)) u30).trans g37).trans g38).trans g39);have G92:=((((G89.trans g28).updr (Nat.le_trans (G89).size (Nat.le_refl _)) u29).updr (Nat.le_trans (G90).size (Nat.le_refl _)) u30).trans g37);have G93:=(((g10.trans g11).updr (Nat.le_trans (g10).size (Nat.le_refl _)) u12).trans g17);have G94:=((((((((G91.trans g40).updr (Nat.le_trans (G91).size (Nat.le_refl _)) u41).updr (Nat.le_trans (G92).size (Nat.le_refl _)) u42).trans g50).updr (Nat.le_trans (G93).size (Nat.le_refl _)) u52).trans g75).trans g76).trans g77);have G95:=((((((G91.trans g40).updr (Nat.le_trans (G91).size (Nat.le_refl _)) u41).updr (Nat.le_trans (G92).size (Nat.le_refl _)) u42).trans g50).updr (Nat.le_trans (G93).size (Nat.le_refl _)) u52).trans g75);have G96:=(((((((((((((((((((((((((g10.trans g11).updr (Nat.le_trans (g10).size (Nat.le_refl _)) u12).trans g17).trans g19).trans g23).trans g24).trans g27).trans g28).updr (Nat.le_trans (G89).size (Nat.le_refl _)) u29).updr (Nat.le_trans (G90).size (Nat.le_refl _)) u30).trans g37).trans g38).trans g39).trans g40).updr (Nat.le_trans (G91).size (Nat.le_refl _)) u41).updr (Nat.le_trans (G92).size (Nat.le_refl _)) u42).trans g50).updr (Nat.le_trans (G93).size (Nat.le_refl _)) u52).trans g75).trans g76).trans g77).trans g78).updr (Nat.le_trans (G94).size (Nat.le_refl _)) u79).updr (Nat.le_trans (G95).size (Nat.le_refl _)) u80).trans g87);have b9_97:=G96.has b9;refine Runs.puts b9_97 rfl fun H88 b88 u88=>?_;have G98:=(G90.trans g24);have G99:=(G84.trans g87);have n27_100:=n27_52.grow G99;have n27_88:=n27_100.upda (Av.of_own o27 (G98.has b9).lt) u88;have n27b_101:=n27b_52.grow G99;have n27b_88:=n27b_101.upda (Av.of_own o27b (G98.has b9).lt) u88;have G102:=(G92.trans g38);have n39_103:=n39_52.grow G99;have n39_88:=n39_103.upda (Av.of_own o39 (G102.has b9).lt) u88;have n39b_104:=n39b_52.grow G99;have n39b_88:=n39b_104.upda (Av.of_own o39b (G102.has b9).lt) u88;have G105:=(((G91.trans g40).updr (Nat.le_trans (G91).size (Nat.le_refl _)) u41).updr (Nat.le_trans (G92).size (Nat.le_refl _)) u42);have n50_88:=(n50_85.grow g87).upda (Av.of_own o50 (G105.has b9).lt) u88;have n50b_88:=(n50b_86.grow g87).upda (Av.of_own o50b (G105.has b9).lt) u88;have G106:=(G95.trans g76);have n77_88:=(n77_80.grow g87).upda (Av.of_own o77 (G106.has b9).lt) u88;have n77b_88:=(n77b_80.grow g87).upda (Av.of_own o77b (G106.has b9).lt) u88;have G107:=(((G94.trans g78).updr (Nat.le_trans (G94).size (Nat.le_refl _)) u79).updr (Nat.le_trans (G95).size (Nat.le_refl _)) u80);have n87_88:=n87.upda (Av.of_own o87 (G107.has b9).lt) u88;have n87b_88:=n87b.upda (Av.of_own o87b (G107.has b9).lt) u88;have b6_108:=G99.has b6_52;have b6_88:=AH.has.updr b6_108 (Nat.ne_of_lt (Nat.lt_of_lt_of_le ((g7.trans g8).has b6).lt (Nat.le_refl _))) u88;have b7_109:=G99.has b7_52;have b7_88:=AH.has.updr b7_109 (Nat.ne_of_lt (Nat.lt_of_lt_of_le (g8.has b7).lt (Nat.le_refl _))) u88;have b8_110:=G99.has b8_74;have b8_88:=AH.has.updr b8_110 (Nat.ne_of_lt (Nat.lt_of_lt_of_le (b8).lt (Nat.le_refl _))) u88;have G111:=(G25.trans g27);have G112:=((((((G111.trans g28).updr (Nat.le_trans (G111).size (Nat.le_refl _)) u29).updr (Nat.le_trans (G34).size (Nat.le_refl _)) u30).trans g37).trans g38).trans g39);have G113:=((((G111.trans g28).updr (Nat.le_trans (G111).size (Nat.le_refl _)) u29).updr (Nat.le_trans (G34).size (Nat.le_refl _)) u30).trans g37);have G114:=((((((((G112.trans g40).updr (Nat.le_trans (G112).size (Nat.le_refl _)) u41).updr (Nat.le_trans (G113).size (Nat.le_refl _)) u42).trans g50).updr (Nat.le_trans (g17).size (Nat.le_refl _)) u52).trans g75).trans g76).trans g77);have G115:=((((((G112.trans g40).updr (Nat.le_trans (G112).size (Nat.le_refl _)) u41).updr (Nat.le_trans (G113).size (Nat.le_refl _)) u42).trans g50).updr (Nat.le_trans (g17).size (Nat.le_refl _)) u52).trans g75);have G116:=(((((((((((((((((((G25.trans g27).trans g28).updr (Nat.le_trans (G111).size (Nat.le_refl _)) u29).updr (Nat.le_trans (G34).size (Nat.le_refl _)) u30).trans g37).trans g38).trans g39).trans g40).updr (Nat.le_trans (G112).size (Nat.le_refl _)) u41).updr (Nat.le_trans (G113).size (Nat.le_refl _)) u42).trans g50).updr (Nat.le_trans (g17).size (Nat.le_refl _)) u52).trans g75).trans g76).trans g77).trans g78).updr (Nat.le_trans (G114).size (Nat.le_refl _)) u79).updr (Nat.le_trans (G115).size (Nat.le_refl _)) u80).trans g87);have b12_117:=G116.has b12;have b12_88:=AH.has.updr b12_117 (Nat.ne_of_gt (Nat.lt_of_lt_of_le (g10.has b9).lt (Nat.le_refl _))) u88;have b52_118:=G99.has b52;have b52_88:=AH.has.updr b52_118 (Nat.ne_of_gt (Nat.lt_of_lt_of_le (G93.has b9).lt (Nat.le_refl _))) u88;have b23_119:=G99.has b23_52;have G120:=(G93.trans g19);have b23_88:=AH.has.updr b23_119 (Nat.ne_of_gt (Nat.lt_of_lt_of_le (G120.has b9).lt (Nat.le_refl _))) u88;have b30_121:=G99.has b30_52;have b30_88:=AH.has.updr b30_121 (Nat.ne_of_gt (Nat.lt_of_lt_of_le (G90.has b9).lt (Nat.le_refl _))) u88;have b29_122:=G99.has b29_52;have b29_88:=AH.has.updr b29_122 (Nat.ne_of_gt (Nat.lt_of_lt_of_le (G89.has b9).lt (Nat.le_refl _))) u88;have b37_123:=G99.has b37_52;have G124:=(((G89.trans g28).updr (Nat.le_trans (G89).size (Nat.le_refl _)) u29).updr (Nat.le_trans (G90).size (Nat.le_refl _)) u30);have b37_88:=AH.has.updr b37_123 (Nat.ne_of_gt (Nat.lt_of_lt_of_le (G124.has b9).lt (Nat.le_refl _))) u88;have b42_125:=G99.has b42_52;have b42_88:=AH.has.updr b42_125 (Nat.ne_of_gt (Nat.lt_of_lt_of_le (G92.has b9).lt (Nat.le_refl _))) u88;have b41_126:=G99.has b41_52;have b41_88:=AH.has.updr b41_126 (Nat.ne_of_gt (Nat.lt_of_lt_of_le (G91.has b9).lt (Nat.le_refl _))) u88;have G127:=(((((g76.trans g77).trans g78).updr (Nat.le_trans ((g76.trans g77)).size (Nat.le_refl _)) u79).updr (Nat.le_refl _) u80).trans g87);have b75_128:=G127.has b75;have G129:=((G105.trans g50).updr (Nat.le_trans (G93).size (Nat.le_refl _)) u52);have b75_88:=AH.has.updr b75_128 (Nat.ne_of_gt (Nat.lt_of_lt_of_le (G129.has b9).lt (Nat.le_refl _))) u88;have b80_88:=AH.has.updr (g87.has b80) (Nat.ne_of_gt (Nat.lt_of_lt_of_le (G95.has b9).lt (Nat.le_refl _))) u88;have b79_88:=AH.has.updr (g87.has b79_80) (Nat.ne_of_gt (Nat.lt_of_lt_of_le (G94.has b9).lt (Nat.le_refl _))) u88;refine Runs.step (AH.has.rd b88 0 rfl rfl) ?_;refine Runs.step (AH.has.rd b88 1 rfl (asSl_v _)) ?_;refine Runs.step (AH.has.rd b88 2 rfl (asSl_v _)) ?_;cases e;cases good;have G130:=((((g6.trans g7).trans g8).trans g9).trans g10);have G131:=(((((((G130.trans g11).updr (Nat.le_trans (G130).size (Nat.le_refl _)) u12).trans g17).trans g19).trans g23).trans g24).trans g27);have G132:=(((((G130.trans g11).updr (Nat.le_trans (G130).size (Nat.le_refl _)) u12).trans g17).trans g19).trans g23);have G133:=((((((G131.trans g28).updr (Nat.le_trans (G131).size (Nat.le_refl _)) u29).updr (Nat.le_trans (G132).size (Nat.le_refl _)) u30).trans g37).trans g38).trans g39);have G134:=((((G131.trans g28).updr (Nat.le_trans (G131).size (Nat.le_refl _)) u29).updr (Nat.le_trans (G132).size (Nat.le_refl _)) u30).trans g37);have G135:=(((G130.trans g11).updr (Nat.le_trans (G130).size (Nat.le_refl _)) u12).trans g17);have G136:=((((((((G133.trans g40).updr (Nat.le_trans (G133).size (Nat.le_refl _)) u41).updr (Nat.le_trans (G134).size (Nat.le_refl _)) u42).trans g50).updr (Nat.le_trans (G135).size (Nat.le_refl _)) u52).trans g75).trans g76).trans g77);have G137:=((((((G133.trans g40).updr (Nat.le_trans (G133).size (Nat.le_refl _)) u41).updr (Nat.le_trans (G134).size (Nat.le_refl _)) u42).trans g50).updr (Nat.le_trans (G135).size (Nat.le_refl _)) u52).trans g75);have G138:=((((((((((((((((((((((((((((g6.trans g7).trans g8).trans g9).trans g10).trans g11).updr (Nat.le_trans (G130).size (Nat.le_refl _)) u12).trans g17).trans g19).trans g23).trans g24).trans g27).trans g28).updr (Nat.le_trans (G131).size (Nat.le_refl _)) u29).updr (Nat.le_trans (G132).size (Nat.le_refl _)) u30).trans g37).trans g38).trans g39).trans g40).updr (Nat.le_trans (G133).size (Nat.le_refl _)) u41).updr (Nat.le_trans (G134).size (Nat.le_refl _)) u42).trans g50).updr (Nat.le_trans (G135).size (Nat.le_refl _)) u52).trans g75).trans g76).trans g77).trans g78).updr (Nat.le_trans (G136).size (Nat.le_refl _)) u79).updr (Nat.le_trans (G137).size (Nat.le_refl _)) u80);have G139:=((g6.trans g7).trans g8);have G140:=((G138.trans g87).updr (Nat.le_trans (G139).size (Nat.le_refl _)) u88);exact Runs.ret ⟨s87,s87b,rfl,n87_88,n87b_88,G140,(o87.of_le G138),(o87b.of_le G138)⟩
theorem k39{s:kib}{r:kgt}(it:Iter kq7 s r):kox r s:=Iter.ind (fun s o e good=>by
 cases s with
 | fn a1 a2 a3 a4 a5=>exact @k4a _ _ a1 a2 a3 a4 a5 e good
 | no=>exact True.intro
 ) it
end Go.Ab

/- squeezed -/
set_option maxRecDepth 10000
namespace Go.Ab
open Go.Proofs Go.Num
abbrev Frc:=Bool×List Nat×List Nat×Int
theorem eta4(x:Frc):(x.1,x.2.1,x.2.2.1,x.2.2.2)=x:=rfl
def addQ(a b:Frc):Frc:=kdr a.1 a.2.1 a.2.2.1 b.1 b.2.1 b.2.2.1
def subQ(a b:Frc):Frc:=kdq a.1 a.2.1 a.2.2.1 b.1 b.2.1 b.2.2.1
def gainF(l g n G N:Int):Frc :=
 cond (!(kbk g n G N).2.2) (false,[],[],1) (cond (!kb4 l) (false,[],[],1) (subQ (addQ (scoreF l g n) (scoreF l (kbk g n G N).1 (kbk g n G N).2.1)) (scoreF l G N)))
theorem k28(l g n G N:Int):Iter kq7 (.fn l g n G N) (gainF l g n G N):=.done (by
 show ki8 _ _ _ _ _=_;unfold ki8 gainF;cases(kbk g n G N).2.2 with
 | false=>rfl
 | true =>
  cases kb4 l with
  | false=>rfl
  | true =>
   simp only[Bool.not_true,cond_false];unfold subQ addQ;exact congrArg (fun r=>some (Sum.inr r)) (eta4 _))
theorem kzp{h:AH}(l g n G N:Int):Runs (go (.fn F.knj [.int .i64 l,.agg [.int .i64 g,.int .i64 n],.agg [.int .i64 G,.int .i64 N]]) h) (kwe h (gainF l g n G N)):=k39 (k28 l g n G N)
theorem kod{z:Int}{d:Nat}(hd:0<d)(hz:z.natAbs<B^16)(hd':d<B^16):∃(w:Int)(e:Nat),fracM z d=((intD w).1,(intD w).2,digs B e,0)∧IsFrac (fracM z d).1 (fracM z d).2.1 (fracM z d).2.2.1 w e∧w.natAbs≤z.natAbs∧e≤d:=by
 have h0:(fracM z d).2.2.2=0:=by
  unfold fracM;rw[if_pos ⟨Nat.lt_of_le_of_lt (Nat.div_le_self _ _) hz,Nat.lt_of_le_of_lt (Nat.div_le_self _ _) hd'⟩]
 obtain⟨w,e,e1,f,_,g,hg,e2,e3⟩:=kyn hd h0;refine⟨w,e,e1,f,?_,?_⟩
 ·rw[e2,Int.natAbs_mul,Int.natAbs_natCast];exact Nat.le_mul_of_pos_right _ hg
 ·rw[e3];exact Nat.le_mul_of_pos_left _ hg
theorem kbau{g n G N:Int}(h:(kbk g n G N).2.2=true):kbe g n=true∧kbe G N=true∧kbe (G-g) (N-n)=true∧kbk g n G N=(G-g,N-n,true):=by
 unfold kbk at h⊢;cases h1:kbe g n with
 | false=>rw[h1]at h;cases h
 | true =>
  cases h2:kbe G N with
  | false=>rw[h1,h2]at h;cases h
  | true =>
   obtain⟨a1,a2,a3,a4⟩:=kk6.1 h1;obtain⟨b1,b2,b3,b4⟩:=kk6.1 h2;rw[h1,h2,wrap64 (by omega) (by omega),wrap64 (by omega) (by omega)]at h;have h:kbe (G-g) (N-n)=true:=h;rw[wrap64 (by omega) (by omega),wrap64 (by omega) (by omega),h];exact⟨rfl,rfl,rfl,rfl⟩
theorem ksr:1099511627776*1099511627776*2097152*8<B^16:=by decide +kernel
theorem kpu{l g n:Int}(h1:kbe g n=true)(h2:kb4 l=true):∃(w:Int)(e:Nat),scoreF l g n=((intD w).1,(intD w).2,digs B e,0)∧IsFrac (scoreF l g n).1 (scoreF l g n).2.1 (scoreF l g n).2.2.1 w e∧w.natAbs≤1099511627776*1099511627776∧e≤2097152:=by
 obtain⟨a1,a2,a3,a4⟩:=kk6.1 h1;obtain⟨b1,b2⟩:=kuu.1 h2;have hs:=sq_lt a1 a2;have hb:=ksr;unfold scoreF;rw[if_pos ⟨h1,h2⟩];obtain⟨w,e,e1,f,l1,l2⟩:=kod (z:=g*g) (d:=(n+l).toNat) (by omega) (by omega) (by omega);exact⟨w,e,e1,f,by omega,by omega⟩
theorem kh6{a b c d:Nat}(h1:a≤c)(h2:b≤d):a*b≤c*d:=Nat.mul_le_mul h1 h2
theorem kbah{l g n g' n':Int}(h1:kbe g n=true)(h1':kbe g' n'=true)(h2:kb4 l=true):∃(w:Int)(e:Nat),addQ (scoreF l g n) (scoreF l g' n')=((intD w).1,(intD w).2,digs B e,0)∧IsFrac (addQ (scoreF l g n) (scoreF l g' n')).1 (addQ (scoreF l g n) (scoreF l g' n')).2.1 (addQ (scoreF l g n) (scoreF l g' n')).2.2.1 w e∧w.natAbs≤1099511627776*1099511627776*2097152*2∧e≤2097152*2097152:=by
 obtain⟨w,e,_,f,l1,l2⟩:=kpu h1 h2;obtain⟨w',e',_,f',l1',l2'⟩:=kpu h1' h2;have hb:=ksr;unfold addQ;rw[Add_of f f'];have p1:(w*(e':Int)).natAbs≤1099511627776*1099511627776*2097152:=by rw[Int.natAbs_mul,Int.natAbs_natCast];exact kh6 l1 l2'
 have p2:(w'*(e:Int)).natAbs≤1099511627776*1099511627776*2097152:=by rw[Int.natAbs_mul,Int.natAbs_natCast];exact kh6 l1' l2
 have p3:e*e'≤2097152*2097152:=kh6 l2 l2';have p4:0<e*e':=Nat.mul_pos f.pos f'.pos;obtain⟨x,c,e1,fx,m1,m2⟩:=kod (z:=w*(e':Int)+w'*(e:Int)) (d:=e*e') p4 (by omega) (by omega);exact⟨x,c,e1,fx,by omega,by omega⟩
theorem k8i:1099511627776*1099511627776*2097152*2*2097152+1099511627776*1099511627776*(2097152*2097152)<B^16:=by decide +kernel
theorem k3q{l g n G N:Int}(h1:(kbk g n G N).2.2=true)(h2:kb4 l=true):(gainF l g n G N).2.2.2=0:=by
 obtain⟨m1,m2,m3,e⟩:=kbau h1;unfold gainF;rw[h1,h2,e];obtain⟨w,c,_,f,l1,l2⟩:=kbah m1 m3 h2;obtain⟨w',c',_,f',l1',l2'⟩:=kpu m2 h2;have hb:=k8i;simp only[Bool.not_true,cond_false];unfold subQ;rw[Sub_of f f'];have p1:(w*(c':Int)).natAbs≤1099511627776*1099511627776*2097152*2*2097152:=by rw[Int.natAbs_mul,Int.natAbs_natCast];exact kh6 l1 l2'
 have p2:(w'*(c:Int)).natAbs≤1099511627776*1099511627776*(2097152*2097152):=by rw[Int.natAbs_mul,Int.natAbs_natCast];exact kh6 l1' l2
 have p3:c*c'≤2097152*2097152*2097152:=kh6 l2 l2';have p4:0<c*c':=Nat.mul_pos f.pos f'.pos;obtain⟨x,y,e1,fx,m1,m2⟩:=kod (z:=w*(c':Int)-w'*(c:Int)) (d:=c*c') p4 (by omega) (by omega);rw[e1]
theorem k5g(l g n G N:Int):(gainF l g n G N).2.2.2=0∨(gainF l g n G N).2.2.2=1:=by
 cases h1:(kbk g n G N).2.2 with
 | false=>right;unfold gainF;rw[h1];rfl
 | true =>
  cases h2:kb4 l with
  | false=>right;unfold gainF;rw[h1,h2];rfl
  | true=>exact Or.inl (k3q h1 h2)
end Go.Ab

/- squeezed -/
set_option maxRecDepth 10000
namespace Go.Ab
open Go.Proofs Go.Num
end Go.Ab

/- squeezed -/
set_option maxRecDepth 10000
namespace Go.Ab
open Go.Proofs Go.Num
theorem k70{m:Nat}(h:m<18446744073709551616):smallN (digs B m)=(m,true):=by
 have hb:m<B^64:=by have:=kh3;omega
 unfold smallN
 have hl:(digs B m).length≤1:=by
  rw[kbv B2,Nat.pow_one];exact h
 rw[if_pos ⟨kbl hb,hl⟩];by_cases h0:m=0
 ·subst h0;rw[kc4];rfl
 ·rw[kfl B2 h0,Nat.mod_eq_of_lt h];rfl
theorem k3b{z:Int}(h1:-9223372036854775808≤z)(h2:z≤9223372036854775807):smallI (intD z).1 (intD z).2=(z,true):=by
 have hz:z.natAbs<18446744073709551616:=by omega
 have hb:z.natAbs<B^64:=by have:=kh3;omega
 unfold smallI;have e:smallN (intD z).2=(z.natAbs,true):=k70 hz;rw[e,kct hb];have s:(intD z).1=decide (z<0):=rfl;rw[s];by_cases hn:z<0
 ·simp only[hn,decide_true,if_true,true_and];rw[if_pos (by omega)];congr 1;omega
 ·simp only[hn,decide_false,Bool.false_eq_true,if_false,true_and];rw[if_pos (by omega)];congr 1;omega
end Go.Ab

/- squeezed -/
set_option maxRecDepth 10000
namespace Go.Ab
open Go.Proofs Go.Num
theorem kvd(n a b:Int){h:AH}:go (.fn F.kcr [.int .i64 n,.int .i64 a,.int .i64 b]) h=some (.bool (decide (a≤n∧n≤b)),h):=kpb n a b h
theorem k74(a1 a2 a3 a4 a5 a6 a7 a8:Int){h:AH}:∃h',go (.fn F.kif [.agg [.int .i64 a1,.int .i64 a2,.int .i64 a3,.int .i64 a4,.int .i64 a5,.int .i64 a6,.int .i64 a7,.int .i64 a8]]) h=some (.bool (Cfg.right ⟨a1,a2,a3,a4,a5,a6,a7,a8⟩),h')∧Grow h h':=kp7 ⟨a1,a2,a3,a4,a5,a6,a7,a8⟩ h
end Go.Ab

/- squeezed -/
set_option maxRecDepth 10000
namespace Go.Ab
open Go.Proofs Go.Num
inductive kh4
 | fn (a1:Int) (a2:Int)
 | no
abbrev kfj:=Bool×List Nat
noncomputable def kj5(a1 a2:Int):Option (kh4⊕kfj) :=
 (need (-9223372036854775808≤(a1:Int)∧(a1:Int)≤9223372036854775807)).bind fun c4_0=>(need (-9223372036854775808≤(a2:Int)∧(a2:Int)≤9223372036854775807)).bind fun c5_0=>some (.inr (((((kbn ((ofI a1).1) ((ofI a1).2) ((ofI a2).1) ((ofI a2).2)).1))),(kbn ((ofI a1).1) ((ofI a1).2) ((ofI a2).1) ((ofI a2).2)).2.1))
noncomputable def kje:kh4→Option (kh4⊕kfj)
 | .fn a1 a2=>kj5 a1 a2
 | .no=>none
@[reducible] def kuk(h0:AH)(r:kfj)(v:AV)(h':AH):Prop:=∃s1:Sl,v=.agg [.bool r.1,s1.v]∧Nats h' s1 r.2∧Grow h0 h'∧Own h0 s1
def kp4(r:kfj):kh4→Prop
 | .fn a1 a2=>∀{h:AH},Runs (go (.fn F.kj7 [.int .i64 a1,.int .i64 a2]) h) (kuk h r)
 | .no=>True
theorem k1i{r:kfj}{o:kh4⊕kfj}{a1 a2:Int}(e:kj5 a1 a2=some o)(good:GoodS (kp4 r) r o):kp4 r (.fn a1 a2):=by
 intro h;rw[kx3];unfold kj5 at e;refine Runs.new fun H3 b3 g3=>?_;obtain⟨c4_0,q4_0,e⟩:=Option.bind_eq_some_iff.1 e;obtain⟨s4,H4,e4,n4,g4,o4⟩:=kk3 a1  c4_0.down;refine Runs.step e4 ?_;refine Runs.step rfl ?_;refine Runs.ifT rfl ?_;refine Runs.step (seenAt rfl rfl) ?_;refine Runs.step (seenAt rfl (asSl_v _)) ?_;obtain⟨c5_0,q5_0,e⟩:=Option.bind_eq_some_iff.1 e;obtain⟨s5,H5,e5,n5,g5,o5⟩:=kk3 a2  c5_0.down;refine Runs.step e5 ?_;refine Runs.step rfl ?_;refine Runs.ifT rfl ?_;refine Runs.step (seenAt rfl rfl) ?_;refine Runs.step (seenAt rfl (asSl_v _)) ?_;obtain⟨_,H6,e6,s6,rfl,n6,g6,o6⟩:=kpw (n4.grow g5) n5 ((ofI a1).1) ((ofI a2).1);refine Runs.step e6 ?_;refine Runs.step rfl ?_;refine Runs.step rfl ?_;refine Runs.ifT rfl ?_;refine Runs.step (seenAt rfl rfl) ?_;refine Runs.step (seenAt rfl (asSl_v _)) ?_;refine Runs.step (seen (kb _ _)) ?_;refine Runs.new fun H7 b7 g7=>?_;refine Runs.puts b7 rfl fun H8 b8 u8=>?_;refine Runs.step (AH.has.rd b8 0 rfl rfl) ?_;refine Runs.step (AH.has.rd b8 1 rfl (asSl_v _)) ?_;refine Runs.puts (((((g4.trans g5).trans g6).trans g7).updr (Nat.le_trans (((g4.trans g5).trans g6)).size (Nat.le_refl _)) u8).has b3) rfl fun H9 b9 u9=>?_;have n4_9:=(n4.grow (((g5.trans g6).trans g7).updr (Nat.le_trans ((g5.trans g6)).size (Nat.le_refl _)) u8)).upda (Av.of_own o4 (b3).lt) u9;have n5_9:=(n5.grow ((g6.trans g7).updr (Nat.le_trans (g6).size (Nat.le_refl _)) u8)).upda (Av.of_own o5 (g4.has b3).lt) u9;have n6_9:=(n6.grow (g7.updr (Nat.le_refl _) u8)).upda (Av.of_own o6 ((g4.trans g5).has b3).lt) u9;have b8_9:=AH.has.updr b8 (Nat.ne_of_gt (Nat.lt_of_lt_of_le (((g4.trans g5).trans g6).has b3).lt (Nat.le_refl _))) u9;refine Runs.step (AH.has.rd b9 0 rfl rfl) ?_;refine Runs.step (AH.has.rd b9 1 rfl (asSl_v _)) ?_;cases e;cases good;exact Runs.ret ⟨s6,rfl,n6_9,((((((g3.trans g4).trans g5).trans g6).trans g7).updr (Nat.le_trans ((((g3.trans g4).trans g5).trans g6)).size (Nat.le_refl _)) u8).updr (Nat.le_refl _) u9),(o6.of_le ((g3.trans g4).trans g5))⟩
theorem k96{s:kh4}{r:kfj}(it:Iter kje s r):kp4 r s:=Iter.ind (fun s o e good=>by
 cases s with
 | fn a1 a2=>exact @k1i _ _ a1 a2 e good
 | no=>exact True.intro
 ) it
theorem ksn{h:AH}  {a1 a2:Int}  {r:kfj}(q:runP kje (.fn a1 a2)=some r):Runs (go (.fn F.kj7 [.int .i64 a1,.int .i64 a2]) h) (kuk h r):=k96 (kp0 q)
inductive kht
 | fn (a1:Int) (a2:Int) (a3:Int) (a4:Int) (a5:Int) (a6:Int) (a7:Int) (a8:Int) (a9:Int) (a10:Int)
 | no
abbrev kgr:=Int×Int
noncomputable def kka(a1 a2 a3 a4 a5 a6 a7 a8 a9 a10:Int):Option (kht⊕kgr) :=
 cond (!((Cfg.right ⟨a1,a2,a3,a4,a5,a6,a7,a8⟩))) (some (.inr (0,1))) (cond (!((decide ((-1099511627776)≤a9∧a9≤1099511627776)))) (some (.inr (0,1))) (cond (!((decide (0≤a10∧a10≤1048576)))) (some (.inr (0,1))) ((runP kje (.fn (IntKind.wrap .i64 (0-a9)) a5)).bind fun p21=>(runP kje (.fn (IntKind.wrap .i64 (a10+a3)) a6)).bind fun p22=>some (.inr (((smallI (((floorI (p21.1) p21.2 (p22.1) p22.2).1)) ((floorI (p21.1) p21.2 (p22.1) p22.2).2.1)).1),((floorI (p21.1) p21.2 (p22.1) p22.2).2.2.2.2))))))
noncomputable def kvj:kht→Option (kht⊕kgr)
 | .fn a1 a2 a3 a4 a5 a6 a7 a8 a9 a10=>kka a1 a2 a3 a4 a5 a6 a7 a8 a9 a10
 | .no=>none
@[reducible] def krj(h0:AH)(r:kgr)(v:AV)(h':AH):Prop:=v=.tup [.int .i64 r.1,.int .i64 r.2]∧Grow h0 h'
def kqz(r:kgr):kht→Prop
 | .fn a1 a2 a3 a4 a5 a6 a7 a8 a9 a10=>∀{h:AH},Runs (go (.fn F.ki3 [.agg [.int .i64 a1,.int .i64 a2,.int .i64 a3,.int .i64 a4,.int .i64 a5,.int .i64 a6,.int .i64 a7,.int .i64 a8],.agg [.int .i64 a9,.int .i64 a10]]) h) (krj h r)
 | .no=>True
theorem k25{r:kgr}{o:kht⊕kgr}{a1 a2 a3 a4 a5 a6 a7 a8 a9 a10:Int}(e:kka a1 a2 a3 a4 a5 a6 a7 a8 a9 a10=some o)(good:GoodS (kqz r) r o):kqz r (.fn a1 a2 a3 a4 a5 a6 a7 a8 a9 a10):=by
 intro h;rw[kba7];unfold kka at e;refine Runs.new fun H11 b11 g11=>?_;refine Runs.new fun H12 b12 g12=>?_;refine Runs.step (AH.has.rd (g12.has b11) 0 rfl (kb _ _)) ?_;refine Runs.step (AH.has.rd (g12.has b11) 1 rfl (kb _ _)) ?_;refine Runs.step (AH.has.rd (g12.has b11) 2 rfl (kb _ _)) ?_;refine Runs.step (AH.has.rd (g12.has b11) 3 rfl (kb _ _)) ?_;refine Runs.step (AH.has.rd (g12.has b11) 4 rfl (kb _ _)) ?_;refine Runs.step (AH.has.rd (g12.has b11) 5 rfl (kb _ _)) ?_;refine Runs.step (AH.has.rd (g12.has b11) 6 rfl (kb _ _)) ?_;refine Runs.step (AH.has.rd (g12.has b11) 7 rfl (kb _ _)) ?_;obtain⟨H13,e13,g13⟩:=k74 a1 a2 a3 a4 a5 a6 a7 a8;refine Runs.step e13 ?_;refine Runs.step (seen rfl) ?_;refine Runs.cond (fun k14=>?_) (fun k14=>?_)
 ·replace e:=(condT k14).symm.trans e;cases e;cases good;exact Runs.ret ⟨rfl,((g11.trans g12).trans g13)⟩
 ·replace e:=(condF k14).symm.trans e;refine Runs.step (AH.has.rd (g13.has b12) 0 rfl (kb _ _)) ?_;refine Runs.step (kvd a9 (-1099511627776) 1099511627776) ?_;refine Runs.step (seen rfl) ?_;refine Runs.cond (fun k16=>?_) (fun k16=>?_)
  ·replace e:=(condT k16).symm.trans e;cases e;cases good;exact Runs.ret ⟨rfl,((g11.trans g12).trans g13)⟩
  ·replace e:=(condF k16).symm.trans e;refine Runs.step (AH.has.rd (g13.has b12) 1 rfl (kb _ _)) ?_;refine Runs.step (kvd a10 0 1048576) ?_;refine Runs.step (seen rfl) ?_;refine Runs.cond (fun k18=>?_) (fun k18=>?_)
   ·replace e:=(condT k18).symm.trans e;cases e;cases good;exact Runs.ret ⟨rfl,((g11.trans g12).trans g13)⟩
   ·replace e:=(condF k18).symm.trans e;refine Runs.new fun H19 b19 g19=>?_;refine Runs.new fun H20 b20 g20=>?_;refine Runs.step (AH.has.rd (((g13.trans g19).trans g20).has b12) 0 rfl (kb _ _)) ?_;refine Runs.step (AH.has.rd ((((g12.trans g13).trans g19).trans g20).has b11) 4 rfl (kb _ _)) ?_;refine Runs.step (AH.has.rd (((g13.trans g19).trans g20).has b12) 1 rfl (kb _ _)) ?_;refine Runs.step (AH.has.rd ((((g12.trans g13).trans g19).trans g20).has b11) 2 rfl (kb _ _)) ?_;refine Runs.step (AH.has.rd ((((g12.trans g13).trans g19).trans g20).has b11) 5 rfl (kb _ _)) ?_;obtain⟨p21,q21,e⟩:=Option.bind_eq_some_iff.1 e;obtain⟨_,H21,e21,s21,rfl,n21,g21,o21⟩:=ksn q21;refine Runs.step e21 ?_;refine Runs.step rfl ?_;refine Runs.ifT rfl ?_;refine Runs.step (seenAt rfl rfl) ?_;refine Runs.step (seenAt rfl (asSl_v _)) ?_;refine Runs.when (g21.same ((((g12.trans g13).trans g19).trans g20).has b11) 5 1) ?_;refine Runs.when (g21.same ((((g12.trans g13).trans g19).trans g20).has b11) 2 1) ?_;refine Runs.when (g21.same (((g13.trans g19).trans g20).has b12) 1 1) ?_;refine Runs.when (g21.same b20 0 0) ?_;refine Runs.when (g21.same (g20.has b19) 0 0) ?_;obtain⟨p22,q22,e⟩:=Option.bind_eq_some_iff.1 e;obtain⟨_,H22,e22,s22,rfl,n22,g22,o22⟩:=ksn q22;refine Runs.step e22 ?_;refine Runs.step rfl ?_;refine Runs.ifT rfl ?_;refine Runs.step (seenAt rfl rfl) ?_;refine Runs.step (seenAt rfl (asSl_v _)) ?_;refine Runs.when (g22.same (g21.has b20) 0 0) ?_;refine Runs.when (g22.same ((g20.trans g21).has b19) 0 0) ?_;obtain⟨_,H23,e23,s23,s23b,rfl,n23,n23b,g23,o23,o23b⟩:=k4d (n21.grow g22) n22 (p21.1) (p22.1);refine Runs.step e23 ?_;refine Runs.step rfl ?_;refine Runs.step rfl ?_;refine Runs.ifT rfl ?_;refine Runs.step (seenAt rfl rfl) ?_;refine Runs.step (seenAt rfl (asSl_v _)) ?_;refine Runs.step rfl ?_;refine Runs.ifT rfl ?_;refine Runs.step (seenAt rfl rfl) ?_;refine Runs.step (seenAt rfl (asSl_v _)) ?_;refine Runs.step (seen (kb _ _)) ?_;refine Runs.when (g23.same ((g21.trans g22).has b20) 0 0) ?_;refine Runs.when (g23.same (((g20.trans g21).trans g22).has b19) 0 0) ?_;refine Runs.puts ((((g20.trans g21).trans g22).trans g23).has b19) rfl fun H24 b24 u24=>?_;have n21_24:=(n21.grow (g22.trans g23)).upda (Av.of_own o21 (g20.has b19).lt) u24;have n22_24:=(n22.grow g23).upda (Av.of_own o22 ((g20.trans g21).has b19).lt) u24;have n23_24:=n23.upda (Av.of_own o23 (((g20.trans g21).trans g22).has b19).lt) u24;have n23b_24:=n23b.upda (Av.of_own o23b (((g20.trans g21).trans g22).has b19).lt) u24;have b20_24:=AH.has.updr (((g21.trans g22).trans g23).has b20) (Nat.ne_of_gt (Nat.lt_of_lt_of_le (b19).lt (Nat.le_refl _))) u24;refine Runs.puts b20_24 rfl fun H25 b25 u25=>?_;have n21_25:=n21_24.upda (Av.of_own o21 (b20).lt) u25;have n22_25:=n22_24.upda (Av.of_own o22 (g21.has b20).lt) u25;have n23_25:=n23_24.upda (Av.of_own o23 ((g21.trans g22).has b20).lt) u25;have n23b_25:=n23b_24.upda (Av.of_own o23b ((g21.trans g22).has b20).lt) u25;have b24_25:=AH.has.updr b24 (Nat.ne_of_lt (Nat.lt_of_lt_of_le (b19).lt (Nat.le_refl _))) u25;refine Runs.step (AH.has.rd b24_25 0 rfl rfl) ?_;refine Runs.step (AH.has.rd b24_25 1 rfl (asSl_v _)) ?_;obtain⟨H26,e26,g26⟩:=k46 n23_25 (((floorI (p21.1) p21.2 (p22.1) p22.2).1));refine Runs.step e26 ?_;refine Runs.step rfl ?_;refine Runs.step (seen (kb _ _)) ?_;refine Runs.step (seen rfl) ?_;cases e;cases good;exact Runs.ret ⟨rfl,((((((((((g11.trans g12).trans g13).trans g19).trans g20).trans g21).trans g22).trans g23).updr (Nat.le_trans (((g11.trans g12).trans g13)).size (Nat.le_refl _)) u24).updr (Nat.le_trans ((((g11.trans g12).trans g13).trans g19)).size (Nat.le_refl _)) u25).trans g26)⟩
theorem k4h{s:kht}{r:kgr}(it:Iter kvj s r):kqz r s:=Iter.ind (fun s o e good=>by
 cases s with
 | fn a1 a2 a3 a4 a5 a6 a7 a8 a9 a10=>exact @k25 _ _ a1 a2 a3 a4 a5 a6 a7 a8 a9 a10 e good
 | no=>exact True.intro
 ) it
end Go.Ab

/- squeezed -/
set_option maxRecDepth 10000
namespace Go.Ab
open Go.Proofs Go.Num
theorem ksi{a b:Int}(ha:-9223372036854775808≤a∧a≤9223372036854775807)(hb:-9223372036854775808≤b∧b≤9223372036854775807):Iter kje (.fn a b) (intD (a*b)):=by
 refine .done ?_;show kj5 _ _=_;unfold kj5;have h64:=kh3
 have hm:(a*b).natAbs<B^64:=by
  rw[Int.natAbs_mul];have:a.natAbs*b.natAbs≤9223372036854775808*9223372036854775808:=Nat.mul_le_mul (by omega) (by omega);omega
 rw[kbq ha,Option.bind_some,kbq hb,Option.bind_some,kph (by omega),kph (by omega),ko6 (by omega) (by omega),if_pos hm]
def klh(a1 a2 a3 a4 a5 a6 a7 a8 a9 a10:Int):Int×Int :=
 cond (Cfg.right ⟨a1,a2,a3,a4,a5,a6,a7,a8⟩&&decide (-1099511627776≤a9∧a9≤1099511627776∧0≤a10∧a10≤1048576)) ((-a9*a5)/((a10+a3)*a6),0) (0,1)
theorem Cfg.right_parts{c:Cfg}(h:c.right=true):1≤c.lambda∧c.lambda≤1048576∧1≤c.den∧c.den≤1048576∧1≤c.num∧c.num≤c.den:=by
 unfold Cfg.right at h;rw[decide_eq_true_eq]at h;omega
theorem k85{a3 a5 a6 a9 a10:Int}(l1:1≤a3)(l2:a3≤1048576)(d1:1≤a6)(d2:a6≤1048576)(n1:1≤a5)(n2:a5≤a6)(g1:-1099511627776≤a9)(g2:a9≤1099511627776)(h1:0≤a10)(h2:a10≤1048576) :
  (-a9*a5).natAbs≤1152921504606846976∧0<(a10+a3)*a6∧((a10+a3)*a6).natAbs≤2199023255552:=by
 refine⟨?_,Int.mul_pos (by omega) (by omega),?_⟩
 ·rw[Int.natAbs_mul];have:(-a9).natAbs*a5.natAbs≤1099511627776*1048576:=Nat.mul_le_mul (by omega) (by omega);omega
 ·rw[Int.natAbs_mul];have:(a10+a3).natAbs*a6.natAbs≤2097152*1048576:=Nat.mul_le_mul (by omega) (by omega);omega
theorem k63(a1 a2 a3 a4 a5 a6 a7 a8 a9 a10:Int):Iter kvj (.fn a1 a2 a3 a4 a5 a6 a7 a8 a9 a10) (klh a1 a2 a3 a4 a5 a6 a7 a8 a9 a10):=by
 refine .done ?_;show kka _ _ _ _ _ _ _ _ _ _=_;unfold kka klh;cases hr:Cfg.right ⟨a1,a2,a3,a4,a5,a6,a7,a8⟩with
 | false=>rfl
 | true =>
  obtain⟨l1,l2,d1,d2,n1,n2⟩:=Cfg.right_parts hr;dsimp only at l1 l2 d1 d2 n1 n2;by_cases hc:-1099511627776≤a9∧a9≤1099511627776∧0≤a10∧a10≤1048576
  ·obtain⟨g1,g2,h1,h2⟩:=hc;obtain⟨s1,s2,s3⟩:=k85 l1 l2 d1 d2 n1 n2 g1 g2 h1 h2;have h64:=kh3;obtain⟨f1,f2⟩:=k6n (u:=-a9*a5) (v:=(a10+a3)*a6) (by omega) s2;rw[show decide (-1099511627776≤a9∧a9≤1099511627776∧0≤a10∧a10≤1048576)=true from decide_eq_true ⟨g1,g2,h1,h2⟩,show decide (-1099511627776≤a9∧a9≤1099511627776)=true from decide_eq_true ⟨g1,g2⟩,show decide (0≤a10∧a10≤1048576)=true from decide_eq_true ⟨h1,h2⟩];rw[show IntKind.wrap .i64 (0-a9)=-a9 from by rw[wrap64 (by omega) (by omega)];omega,wrap64 (n:=a10+a3) (by omega) (by omega)];rw[kj1 (ksi (a:=-a9) (b:=a5) ⟨by omega,by omega⟩ ⟨by omega,by omega⟩),kj1 (ksi (a:=a10+a3) (b:=a6) ⟨by omega,by omega⟩ ⟨by omega,by omega⟩),Option.bind_some,Option.bind_some,kx0 (by omega) (by omega) s2];dsimp only;rw[k3b (by omega) (by omega)];rfl
  ·rw[show decide (-1099511627776≤a9∧a9≤1099511627776∧0≤a10∧a10≤1048576)=false from decide_eq_false hc];simp only[Bool.not_true,cond_false,Bool.true_and];refine kkj (fun _=>rfl) fun k1=>?_;refine kkj (fun _=>rfl) fun k2=>?_;exfalso;simp only[Bool.not_eq_false',decide_eq_true_eq]at k1 k2;omega
theorem k1w(a1 a2 a3 a4 a5 a6 a7 a8 a9 a10:Int){h:AH}:Runs (go (.fn F.ki3 [.agg [.int .i64 a1,.int .i64 a2,.int .i64 a3,.int .i64 a4,.int .i64 a5,.int .i64 a6,.int .i64 a7,.int .i64 a8],.agg [.int .i64 a9,.int .i64 a10]]) h) (krj h (klh a1 a2 a3 a4 a5 a6 a7 a8 a9 a10)):=k4h (k63 a1 a2 a3 a4 a5 a6 a7 a8 a9 a10)
end Go.Ab

/- squeezed -/
namespace Go.Ab
variable{P:Program}
inductive All2{α β:Type}(R:α→β→Prop):List α→List β→Prop
 | nil:All2 R [] []
 | cons {a:α} {b:β} {ls:List α} {bs:List β}:R a b→All2 R ls bs→All2 R (a::ls) (b::bs)
section
variable{α β:Type}{R S:α→β→Prop}
theorem All2.imp(f:∀a b,R a b→S a b){ls:List α}{bs:List β}(a:All2 R ls bs):All2 S ls bs:=by
 induction a with
 | nil=>exact .nil
 | cons h _ ih=>exact .cons (f _ _ h) ih
theorem All2.length{ls:List α}{bs:List β}(a:All2 R ls bs):ls.length=bs.length:=by
 induction a with
 | nil=>rfl
 | cons h _ ih=>simp[ih]
theorem All2.get{ls:List α}{bs:List β}(a:All2 R ls bs):∀{i:Nat}{y:β},bs[i]?=some y→∃x,ls[i]?=some x∧R x y:=by
 induction a with
 | nil=>intro i y h;simp at h
 | cons h _ ih =>
  intro i y hy;cases i with
  | zero=>cases hy;exact⟨_,rfl,h⟩
  | succ i=>exact ih hy
theorem All2.snoc{ls:List α}{bs:List β}(a:All2 R ls bs){x:α}{y:β}(h:R x y):All2 R (ls++[x]) (bs++[y]):=by
 induction a with
 | nil=>exact .cons h .nil
 | cons h' _ ih=>exact .cons h' ih
end
structure El(α:Type) where
 w:Nat
 pos:0<w
 has:AH→List AV→α→Prop
 av:Nat→List AV→α→Prop
 len:∀{h:AH}{cs:List AV}{a:α},has h cs a→cs.length=w
 grow:∀{h h':AH}{cs:List AV}{a:α},Grow h h'→has h cs a→has h' cs a
 upd:∀{h h':AH}{i:Nat}{cs:List AV}{a:α},has h cs a→av i cs a→Upd h h' i→has h' cs a
 new:∀{h:AH}{i:Nat}{cs:List AV}{a:α},has h cs a→h.blks.size≤i→av i cs a
def El.int(k:IntKind):El Int where
 w:=1
 pos:=by decide
 has _ cs n:=cs=[.int k n]
 av _ _ _:=True
 len e:=by rw[e];rfl
 grow _ e:=e
 upd e _ _:=e
 new _ _:=trivial
def El.bool:El Bool where
 w:=1
 pos:=by decide
 has _ cs b:=cs=[.bool b]
 av _ _ _:=True
 len e:=by rw[e];rfl
 grow _ e:=e
 upd e _ _:=e
 new _ _:=trivial
theorem Sl.vs_inj{s t:Sl}(h:[Sl.v s]=[Sl.v t]):s=t:=by
 cases s;cases t;simp only[Sl.v,List.cons.injEq,AV.slice.injEq,and_true]at h;obtain⟨rfl,rfl,rfl⟩:=h;rfl
def El.nats:El (List Nat) where
 w:=1
 pos:=by decide
 has h cs xs:=∃s,cs=[Sl.v s]∧Nats h s xs
 av i cs xs:=∃s,cs=[Sl.v s]∧Av s i xs
 len:=fun⟨s,e,_⟩=>by rw[e];rfl
 grow g:=fun⟨s,e,n⟩=>⟨s,e,n.grow g⟩
 upd:=fun⟨s,e,n⟩ ⟨t,e',a⟩ u=>by
  rw[e]at e';cases Sl.vs_inj e';exact⟨s,e,n.upda a u⟩
 new:=fun⟨s,e,n⟩ hi=>⟨s,e,Av.of_base n hi⟩
def El.pair{α β:Type}(A:El α)(B:El β):El (α×β) where
 w:=A.w+B.w
 pos:=by have:=A.pos;omega
 has h cs p:=∃c1 c2,cs=c1++c2∧A.has h c1 p.1∧B.has h c2 p.2
 av i cs p:=∃c1 c2,cs=c1++c2∧c1.length=A.w∧A.av i c1 p.1∧B.av i c2 p.2
 len:=fun⟨c1,c2,e,a,b⟩=>by rw[e,List.length_append,A.len a,B.len b]
 grow g:=fun⟨c1,c2,e,a,b⟩=>⟨c1,c2,e,A.grow g a,B.grow g b⟩
 upd:=fun⟨c1,c2,e,a,b⟩ ⟨d1,d2,e',l,a',b'⟩ u=>by
  rw[e]at e';obtain⟨rfl,rfl⟩:=List.append_inj e' (by rw[A.len a,l]);exact⟨c1,c2,e,A.upd a a' u,B.upd b b' u⟩
 new:=fun⟨c1,c2,e,a,b⟩ hi=>⟨c1,c2,e,A.len a,A.new a hi,B.new b hi⟩
theorem kcp{w:Nat}:∀{rows:List (List AV)},(∀r∈rows,r.length=w)→rows.flatten.length=rows.length*w
 | [],_=>by simp
 | r::rows,h=>by
  rw[List.flatten_cons,List.length_append,kcp (fun q hq=>h q (by simp[hq])),h r (by simp),List.length_cons,Nat.add_mul];omega
theorem kj4{w:Nat}:∀{rows:List (List AV)},(∀r∈rows,r.length=w)→∀{i:Nat}{r:List AV}{k:Nat}{v:AV},rows[i]?=some r→r[k]?=some v→rows.flatten[i*w+k]?=some v
 | [],_,i,r,k,v,hi,_=>by simp at hi
 | q::rows,h,0,r,k,v,hi,hk=>by
  cases hi;rw[List.flatten_cons,List.getElem?_append_left (by have:=(List.getElem?_eq_some_iff.1 hk).1;omega)]
  simpa using hk
 | q::rows,h,i+1,r,k,v,hi,hk=>by
  have:=kj4 (fun q hq=>h q (by simp[hq])) (show rows[i]?=some r from hi) hk;rw[List.flatten_cons,List.getElem?_append_right (by rw[h q (by simp),Nat.add_mul];omega),h q (by simp),show(i+1)*w+k-w=i*w+k from by rw[Nat.add_mul];omega];exact this
theorem All2.rows{α:Type}{E:El α}{h:AH}{rows:List (List AV)}{xs:List α}(a:All2 (E.has h) rows xs):∀r∈rows,r.length=E.w:=by
 induction a with
 | nil=>simp
 | cons h' _ ih =>
  intro r hr;rcases List.mem_cons.1 hr with rfl | hr
  ·exact E.len h'
  ·exact ih r hr
structure Seq{α:Type}(E:El α)(h:AH)(s:Sl)(xs:List α):Prop where
 rows:∃rows,Cells h s E.w rows.flatten∧All2 (E.has h) rows xs
 len:s.len=xs.length
 short:xs.length≤9223372036854775807
theorem Seq.grow{α:Type}{E:El α}{h h':AH}{s:Sl}{xs:List α}(n:Seq E h s xs)(g:Grow h h'):Seq E h' s xs:=by
 obtain⟨⟨rows,c,a⟩,l,sh⟩:=n;exact⟨⟨rows,c.grow g,a.imp fun _ _=>E.grow g⟩,l,sh⟩
theorem Seq.nil{α:Type}(E:El α)(h:AH):Seq E h ⟨none,0,.is 0⟩ []:=⟨⟨[],Cells.nil h _,.nil⟩,rfl,by simp⟩
def atX{α:Type}(xs:List α)(i:Int):Option α:=if 0≤i then xs[i.toNat]? else none
theorem kwk{α:Type}{xs:List α}{i:Int}{y:α}(q:atX xs i=some y):∃j:Nat,i=(j:Int)∧xs[j]?=some y:=by
 unfold atX at q;split at q
 ·exact⟨i.toNat,by omega,q⟩
 ·cases q
theorem kee{α:Type}{xs:List α}{i:Nat}(h:i<xs.length):atX xs (i:Int)=some xs[i]:=by
 unfold atX;rw[if_pos (by omega),Int.toNat_natCast,List.getElem?_eq_getElem h]
structure Lies(h:AH)(r:Ref)(cs:List AV):Prop where
 at':∀k v,cs[k]?=some v→h.cell (r.add k)=some v
theorem Lies.rd{A:Type}{f:AV→Option A}{h h':AH}{r:Ref}{cs:List AV}(l:Lies h r cs)(g:Grow h h')(k:Nat){v:AV}{x:A}(hk:cs[k]?=some v)(hf:f v=some x):(h'.cell (r.add k)).bind f=some x:=by
 rw[g.cell_some (l.at' k v hk)];exact hf
theorem Lies.rd0{A:Type}{f:AV→Option A}{h h':AH}{r:Ref}{cs:List AV}(l:Lies h r cs)(g:Grow h h'){v:AV}{x:A}(hk:cs[0]?=some v)(hf:f v=some x):(h'.cell r).bind f=some x:=by
 have:=l.rd g 0 hk hf;rwa[Ref.add_zero]at this
theorem Seq.at{α:Type}{E:El α}{h:AH}{s:Sl}{xs:List α}(n:Seq E h s xs){i:Int}{y:α}(q:atX xs i=some y):∃(r:Ref)(cs:List AV),idx s.ref xs.length i E.w=some r∧E.has h cs y∧Lies h r cs:=by
 obtain⟨⟨rows,c,a⟩,l,sh⟩:=n;obtain⟨j,rfl,hj⟩:=kwk q;obtain⟨cs,e1,e2⟩:=a.get hj;have hjl:=(List.getElem?_eq_some_iff.1 hj).1;have hr:=a.rows;have key:∀k v,cs[k]?=some v→∃r,s.ref=some r∧h.cell (r.add (j*E.w+k))=some v:=fun k v hk=>c.get _ _ (kj4 hr e1 hk);cases hs:s.ref with
 | none =>
  exfalso;cases cs with
  | nil=>have:=E.len e2;have:=E.pos;simp at *;omega
  | cons v vs =>
   obtain⟨r,e,_⟩:=key 0 v rfl;rw[hs]at e;cases e
 | some r =>
  refine⟨r.add (j*E.w),cs,?_,e2,⟨fun k v hk=>?_⟩⟩
  ·rw[kcw _ _ _ _ (by omega) (by omega)];simp
  ·obtain⟨r',e,e'⟩:=key k v hk;rw[hs]at e;cases e;rw[Ref.add_add];exact e'
structure GL{α:Type}(E:El α)(elem:TypeId)(h:AH)(s:Sl)(i:Nat)(xs:List α):Prop where
 rows:∃rows,Cells h s E.w rows.flatten∧All2 (fun cs a=>E.has h cs a∧E.av i cs a) rows xs
 len:s.len=xs.length
 own:s.cap=.is s.len∨(s.ref=some (.new i 0)∧s.cap=.opn E.w∧∃bs,h.has i bs elem)
 loc:∀r,s.ref=some r→∃o,r=.new i o
theorem GL.nil{α:Type}(E:El α)(elem:TypeId)(h:AH)(i:Nat):GL E elem h ⟨none,0,.is 0⟩ i [] :=
 ⟨⟨[],Cells.nil h _,.nil⟩,rfl,.inl rfl,fun r hr=>by cases hr⟩
theorem GL.one{α:Type}{E:El α}{elem e:TypeId}{h:AH}{i:Nat}{cs:List AV}{x:α}(b:h.has i cs e)(c:E.has h cs x)(a:E.av i cs x):GL E elem h ⟨some (.new i 0),1,.is 1⟩ i [x] :=
 ⟨⟨[cs],Cells.of_has (by simpa using b) (by simp[E.len c]),.cons ⟨c,a⟩ .nil⟩,rfl,.inl rfl,fun r hr=>by cases hr;exact⟨_,rfl⟩⟩
theorem GL.grow{α:Type}{E:El α}{elem:TypeId}{h h':AH}{s:Sl}{i:Nat}{xs:List α}(v:GL E elem h s i xs)(g:Grow h h'):GL E elem h' s i xs:=by
 obtain⟨⟨rows,c,a⟩,l,o,lo⟩:=v;exact⟨⟨rows,c.grow g,a.imp fun _ _ p=>⟨E.grow g p.1,p.2⟩⟩,l,o.imp id fun⟨e1,e2,bs,b⟩=>⟨e1,e2,bs,g.has b⟩,lo⟩
theorem GL.seq{α:Type}{E:El α}{elem:TypeId}{h:AH}{s:Sl}{i:Nat}{xs:List α}(v:GL E elem h s i xs)(hs:xs.length≤9223372036854775807):Seq E h s xs:=by
 obtain⟨⟨rows,c,a⟩,l,o,lo⟩:=v;exact⟨⟨rows,c,a.imp fun _ _ p=>p.1⟩,l,hs⟩
theorem GL.own_of{α:Type}{E:El α}{elem:TypeId}{h h0:AH}{s:Sl}{i:Nat}{xs:List α}(v:GL E elem h s i xs)(hi:h0.blks.size≤i):Own h0 s:=fun r hr=>by
 obtain⟨o,rfl⟩:=v.loc r hr;exact⟨i,o,rfl,hi⟩
theorem AH.kill_Upd(h:AH)(i:Nat):Upd h (h.kill (some (.new i 0))) i :=
 ⟨rfl,by simp[AH.kill],fun j hj _=>by
  show(h.blks.setIfInBounds i .dead)[j]?=_;rw[Array.getElem?_setIfInBounds_ne (fun x=>hj x.symm)]⟩
theorem GL.push{α:Type}{E:El α}{elem:TypeId}{h:AH}{s:Sl}{i:Nat}{xs:List α}(v:GL E elem h s i xs){cs:List AV}{x:α}(c:E.has h cs x)(a:E.av i cs x)(hg:growOk P (xs.length+1) elem E.w=true) :
  ∃s' h',kx P s cs 1 elem E.w h=some (s'.v,h')∧GL E elem h' s' h.blks.size (xs++[x])∧Upd h h' i:=by
 obtain⟨⟨rows,cc,aa⟩,l,o,lo⟩:=v;rw[← l]at hg;have fl:(s.len+1)*E.w=(rows.flatten++cs).length:=by rw[Nat.add_mul,cc.len,List.length_append,E.len c,Nat.one_mul]
 have fr:rows.flatten++cs=(rows++[cs]).flatten:=by simp
 rcases o with e | ⟨e1,e2,bs,b⟩
 ·rw[kfx e (by omega) hg cc];refine⟨_,_,rfl,⟨⟨rows++[cs],⟨rfl,by rw[← fr];exact fl,fun j w hw=>⟨_,rfl,?_⟩⟩,?_⟩,by simp[l],.inr ⟨rfl,rfl,rows.flatten++cs,AH.has_push _ _ _⟩,fun r hr=>by cases hr;exact⟨_,rfl⟩⟩,(Grow.push _ _).toUpd i⟩
  ·rw[fr]
   simpa using hw
  ·refine All2.snoc (aa.imp fun _ _ p=>?_) ⟨E.grow (Grow.push _ _) c,E.new c (Nat.le_refl _)⟩;exact⟨E.grow (Grow.push _ _) p.1,E.new p.1 (Nat.le_refl _)⟩
 ·have hap:kx P s cs 1 elem E.w h=some (Sl.v ⟨some (.new h.blks.size 0),s.len+1,.opn E.w⟩,(h.kill s.ref).push (.cells (rows.flatten++cs) elem)):=by
   unfold kx;simp only[e2];rw[show Nat.beq 1 0=false from rfl,show Nat.beq E.w E.w=true from Nat.beq_refl _];simp only[cond_false,hg,Bool.and_true,cond_true,e1,show h.blks[i]?=_ from b];have hgets:=cc.gets;rw[e1]at hgets;simp only[hgets,Option.bind_some];rw[show Nat.beq elem elem=true from Nat.beq_refl _,cond_true];have:(AH.kill h (some (Ref.new i 0))).blks.size=h.blks.size:=by simp[AH.kill]
   simp[AH.next,this,Sl.v];rfl
  rw[hap,e1];have sz:(h.kill (some (.new i 0))).blks.size=h.blks.size:=by simp[AH.kill]
  have u:Upd h (h.kill (some (.new i 0))) i:=AH.kill_Upd h i;refine⟨_,_,rfl,⟨⟨rows++[cs],⟨rfl,by rw[← fr];exact fl,fun j w hw=>⟨_,rfl,?_⟩⟩,?_⟩,by simp[l],.inr ⟨rfl,rfl,rows.flatten++cs,?_⟩,fun r hr=>by cases hr;exact⟨_,rfl⟩⟩,u.trans ((Grow.push _ _).toUpd i)⟩
  ·rw[fr,← sz]
   simpa using hw
  ·refine All2.snoc (aa.imp fun _ _ p=>?_) ⟨E.grow (Grow.push _ _) (E.upd c a u),E.new c (Nat.le_refl _)⟩;exact⟨E.grow (Grow.push _ _) (E.upd p.1 p.2 u),E.new p.1 (Nat.le_refl _)⟩
  ·have:=AH.has_push (h.kill (some (.new i 0))) (rows.flatten++cs) elem;rw[sz]at this;exact this
theorem kc2{h:AH}{i n:Nat}{cs:List AV}{e elem:TypeId}(b:h.has i cs e)(hl:n*P.cellsOf elem=cs.length):kb3 P elem (Sl.v ⟨some (.new i 0),n,.is n⟩) h=some (cs,n) :=
 kuz (Cells.of_has b hl)
section
variable{Q:AV→AH→Prop}
theorem Runs.putAt{h:AH}{i o:Nat}{cs cs' vs:List AV}{e:TypeId}{K:AH→Option (AV×AH)}(b:h.has i cs e)(hl:o+vs.length≤cs.length)(hc:cs.take o++vs++cs.drop (o+vs.length)=cs')(H:∀h',h'.has i cs' e→Upd h h' i→Runs (K h') Q):Runs ((h.puts ((Ref.new i 0).add o) vs).bind K) Q:=by
 subst hc;rw[Ref.add_new,Nat.zero_add,b.puts hl];exact H _ (AH.has_upd b _ e) (AH.upd_Upd h i _ e)
end
end Go.Ab

/- squeezed -/
namespace Go.Ab
end Go.Ab

/- squeezed -/
namespace Go.Ab
variable{P:Program}
def UpdO(h h':AH):Option Nat→Prop
 | none=>Grow h h'
 | some k=>Upd h h' k
def AvO(s:Sl)(xs:List Nat):Option Nat→Prop
 | none=>True
 | some k=>Av s k xs
def LeO(n:Nat):Option Nat→Prop
 | none=>True
 | some k=>n≤k
def LtO(n:Nat):Option Nat→Prop
 | none=>True
 | some k=>k<n
def NeO(j:Nat):Option Nat→Prop
 | none=>True
 | some k=>j≠k
def NeOO:Option Nat→Option Nat→Prop
 | none,_=>True
 | some j,i=>NeO j i
theorem LeO.trans{m n:Nat}(h:m≤n):∀{i:Option Nat},LeO n i→LeO m i
 | none,_=>trivial
 | some k,l=>Nat.le_trans h l
theorem NeO.of_le{j n:Nat}:∀{i:Option Nat},LeO n i→j<n→NeO j i
 | none,_,_=>trivial
 | some k,l,h=>by
  have:n≤k:=l;show j≠k;omega
theorem NeOO.of_le{n:Nat}:∀{j i:Option Nat},LtO n j→LeO n i→NeOO j i
 | none,_,_,_=>trivial
 | some j,_,l,h=>NeO.of_le h l
theorem AvO.of_base{h0:AH}{s:Sl}{xs:List Nat}(n:Nats h0 s xs):∀{i:Option Nat},LeO h0.blks.size i→AvO s xs i
 | none,_=>trivial
 | some k,l=>Av.of_base n l
theorem AvO.of_own{h1:AH}{s:Sl}{xs:List Nat}(o:Own h1 s):∀{i:Option Nat},LtO h1.blks.size i→AvO s xs i
 | none,_=>trivial
 | some k,l=>Av.of_own o l
theorem AvO.nil(i:Option Nat)(s:Sl):AvO s [] i:=by
 cases i
 ·trivial
 ·exact .inl rfl
theorem UpdO.trans{h1 h2 h3:AH}:∀{i:Option Nat},UpdO h1 h2 i→UpdO h2 h3 i→UpdO h1 h3 i
 | none,u,w=>Grow.trans u w
 | some k,u,w=>Upd.trans u w
theorem Grow.updo{h h1 h2:AH}(g:Grow h h1):∀{i:Option Nat},LeO h.blks.size i→UpdO h1 h2 i→Grow h h2
 | none,_,u=>g.trans u
 | some k,l,u=>g.updr l u
theorem AH.has.updo{h1 h2:AH}{j:Nat}{cs:List AV}{e:TypeId}(b:h1.has j cs e):∀{i:Option Nat},NeO j i→UpdO h1 h2 i→h2.has j cs e
 | none,_,u=>u.has b
 | some k,l,u=>AH.has.updr b l u
theorem Vec.updo{h1 h2:AH}{s:Sl}{j:Nat}{xs:List Nat}(b:Vec h1 s j xs):∀{i:Option Nat},NeO j i→UpdO h1 h2 i→Vec h2 s j xs
 | none,_,u=>b.grow u
 | some k,l,u=>b.updr l u
theorem Nats.updo{h1 h2:AH}{s:Sl}{xs:List Nat}(b:Nats h1 s xs):∀{i:Option Nat},AvO s xs i→UpdO h1 h2 i→Nats h2 s xs
 | none,_,u=>b.grow u
 | some k,l,u=>b.upda l u
def GO{α:Type}(E:El α)(elem:TypeId)(h:AH)(s:Sl)(i:Option Nat)(xs:List α):Prop :=
 xs.length≤9223372036854775807∧match i with
 | none=>s=⟨none,0,.is 0⟩∧xs=[]
 | some k=>GL E elem h s k xs∧k<h.blks.size
def AvE{α:Type}(E:El α)(cs:List AV)(x:α):Option Nat→Prop
 | none=>True
 | some k=>E.av k cs x
variable{α:Type}{E:El α}{elem:TypeId}
theorem GO.none(E:El α)(elem:TypeId)(h:AH):GO E elem h ⟨none,0,.is 0⟩ none []:=⟨by simp,rfl,rfl⟩
theorem GO.one{h:AH}{i:Nat}{cs:List AV}{x:α}{e:TypeId}(b:h.has i cs e)(c:E.has h cs x)(a:E.av i cs x):GO E elem h ⟨some (.new i 0),1,.is 1⟩ (some i) [x] :=
 ⟨by simp,GL.one b c a,b.lt⟩
theorem GO.grow{h h':AH}{s:Sl}:∀{i:Option Nat}{xs:List α},GO E elem h s i xs→Grow h h'→GO E elem h' s i xs
 | .none,_,v,g=>v
 | .some k,_,⟨l,v,lt⟩,g=>⟨l,v.grow g,Nat.lt_of_lt_of_le lt g.size⟩
theorem GO.lt{h:AH}{s:Sl}:∀{i:Option Nat}{xs:List α},GO E elem h s i xs→LtO h.blks.size i
 | .none,_,_=>trivial
 | .some k,_,v=>v.2.2
theorem GO.seq{h:AH}{s:Sl}:∀{i:Option Nat}{xs:List α},GO E elem h s i xs→Seq E h s xs
 | .none,xs,⟨_,e1,e2⟩=>by
  subst e1;subst e2;exact Seq.nil E h
 | .some k,_,v=>v.2.1.seq v.1
theorem GO.len{h:AH}{s:Sl}{i:Option Nat}{xs:List α}(v:GO E elem h s i xs):s.len=xs.length:=v.seq.len
theorem GO.own{h h0:AH}{s:Sl}:∀{i:Option Nat}{xs:List α},GO E elem h s i xs→LeO h0.blks.size i→Own h0 s
 | .none,_,v,_=>fun r hr=>by rw[v.2.1]at hr;cases hr
 | .some k,_,v,l=>v.2.1.own_of l
theorem GL.lt{h:AH}{s:Sl}{i:Nat}{x:α}{xs:List α}(v:GL E elem h s i (xs++[x])):i<h.blks.size:=by
 obtain⟨⟨rows,c,a⟩,l,o,lo⟩:=v;have hr:rows.length=xs.length+1:=by have:=All2.length a;simpa using this
 have hf:=kcp (w:=E.w) (rows:=rows) (All2.rows (a.imp fun _ _ p=>p.1));have hp:=E.pos
 have h0:0<rows.flatten.length:=by
  rw[hf,hr];exact Nat.mul_pos (by omega) hp
 obtain⟨r,e1,e2⟩:=c.get 0 _ (List.getElem?_eq_getElem h0);obtain⟨k,rfl⟩:=lo r e1;have:=AH.cell_inn e2;rw[Ref.add_new]at this;exact this
theorem klw{n m:Nat}(h:growOk P n elem m=true):n≤9223372036854775807:=by
 unfold growOk at h;rw[Bool.and_eq_true,decide_eq_true_eq]at h;have:=h.1.2;simp only[ki]at this;omega
theorem GO.push{h:AH}{s:Sl}{i:Option Nat}{xs:List α}(v:GO E elem h s i xs){cs:List AV}{x:α}(c:E.has h cs x)(a:AvE E cs x i)(hg:growOk P (xs.length+1) elem E.w=true) :
  ∃s' h',kx P s cs 1 elem E.w h=some (s'.v,h')∧GO E elem h' s' (some h.blks.size) (xs++[x])∧UpdO h h' i:=by
 have hl:=klw hg;cases i with
 | none =>
  obtain⟨_,e1,e2⟩:=v;subst e1;subst e2;obtain⟨s',h',e,v',u⟩:=(GL.nil E elem h h.blks.size).push c (E.new c (Nat.le_refl _)) hg;exact⟨s',h',e,⟨by simp,v',v'.lt⟩,(Grow.refl h).updr (Nat.le_refl _) u⟩
 | some k =>
  obtain⟨s',h',e,v',u⟩:=v.2.1.push c a hg;exact⟨s',h',e,⟨by simpa using hl,v',v'.lt⟩,u⟩
theorem Seq.lit{h:AH}{i n:Nat}{rows:List (List AV)}{e:TypeId}{xs:List α}(b:h.has i rows.flatten e)(a:All2 (E.has h) rows xs)(hn:xs.length=n)(hs:n≤9223372036854775807:=by decide):Seq E h ⟨some (.new i 0),n,.is n⟩ xs:=by
 refine⟨⟨rows,Cells.of_has b ?_,a⟩,hn.symm,by omega⟩;rw[kcp a.rows,All2.length a,hn]
theorem AvE.nats{s:Sl}{xs:List Nat}:∀{i:Option Nat},AvO s xs i→AvE El.nats [s.v] xs i
 | .none,_=>trivial
 | .some k,a=>⟨s,rfl,a⟩
theorem AvE.int{k:IntKind}{n:Int}{cs:List AV}:∀{i:Option Nat},AvE (El.int k) cs n i
 | .none=>trivial
 | .some _=>trivial
theorem AvE.bool{b:Bool}{cs:List AV}:∀{i:Option Nat},AvE El.bool cs b i
 | .none=>trivial
 | .some _=>trivial
theorem AvE.pair{α β:Type}{A:El α}{B:El β}{c1 c2:List AV}{a:α}{b:β}:∀{i:Option Nat},c1.length=A.w→AvE A c1 a i→AvE B c2 b i→AvE (El.pair A B) (c1++c2) (a,b) i
 | .none,_,_,_=>trivial
 | .some k,l,x,y=>⟨c1,c2,rfl,l,x,y⟩
end Go.Ab

/- squeezed -/
namespace Go.Ab
variable{P:Program}
abbrev Fp:=Nat→Prop
def Fp.no:Fp:=fun _=>False
def Fp.all:Fp:=fun _=>True
def Fp.or(S T:Fp):Fp:=fun j=>S j∨T j
def Fp.below(n:Nat):Fp:=fun j=>j<n
def Fp.from(n:Nat):Fp:=fun j=>n≤j
def Fp.sl(s:Sl)(xs:List Nat):Fp:=fun j=>¬Av s j xs
theorem Fp.not_or{S T:Fp}{i:Nat}(a:¬S i)(b:¬T i):¬(Fp.or S T) i:=fun h=>h.elim a b
theorem Fp.not_no{i:Nat}:¬Fp.no i:=fun h=>h
theorem Fp.not_below{n i:Nat}(h:n≤i):¬(Fp.below n) i:=fun k=>by
 have:i<n:=k;omega
theorem Fp.not_from{n i:Nat}(h:i<n):¬(Fp.from n) i:=fun k=>by
 have:n≤i:=k;omega
theorem Fp.not_sl{s:Sl}{xs:List Nat}{i:Nat}(a:Av s i xs):¬(Fp.sl s xs) i:=fun k=>k a
def NotO(S:Fp):Option Nat→Prop
 | none=>True
 | some k=>¬S k
theorem NotO.or{S T:Fp}:∀{i:Option Nat},NotO S i→NotO T i→NotO (Fp.or S T) i
 | none,_,_=>trivial
 | some _,a,b=>Fp.not_or a b
theorem NotO.no:∀{i:Option Nat},NotO Fp.no i
 | none=>trivial
 | some _=>Fp.not_no
theorem NotO.below{n:Nat}:∀{i:Option Nat},LeO n i→NotO (Fp.below n) i
 | none,_=>trivial
 | some _,l=>Fp.not_below l
theorem NotO.from{n:Nat}:∀{i:Option Nat},LtO n i→NotO (Fp.from n) i
 | none,_=>trivial
 | some _,l=>Fp.not_from l
theorem NotO.sl{s:Sl}{xs:List Nat}:∀{i:Option Nat},AvO s xs i→NotO (Fp.sl s xs) i
 | none,_=>trivial
 | some _,l=>Fp.not_sl l
theorem NotO.mono{S T:Fp}(h:∀j,S j→T j):∀{i:Option Nat},NotO T i→NotO S i
 | none,_=>trivial
 | some _,l=>fun k=>l (h _ k)
structure Ef(α:Type) where
 w:Nat
 pos:0<w
 has:AH→Fp→List AV→α→Prop
 len:∀{h:AH}{S:Fp}{cs:List AV}{a:α},has h S cs a→cs.length=w
 grow:∀{h h':AH}{S:Fp}{cs:List AV}{a:α},Grow h h'→has h S cs a→has h' S cs a
 mono:∀{h:AH}{S T:Fp}{cs:List AV}{a:α},(∀j,S j→T j)→has h S cs a→has h T cs a
 upd:∀{h h':AH}{S:Fp}{i:Nat}{cs:List AV}{a:α},¬S i→Upd h h' i→has h S cs a→has h' S cs a
 bound:∀{h:AH}{S:Fp}{cs:List AV}{a:α},has h S cs a→has h (fun j=>S j∧j<h.blks.size) cs a
theorem Ef.updo{α:Type}(E:Ef α){h h':AH}{S:Fp}{cs:List AV}{a:α}:∀{i:Option Nat},NotO S i→UpdO h h' i→E.has h S cs a→E.has h' S cs a
 | none,_,u,e=>E.grow u e
 | some _,n,u,e=>E.upd n u e
def Ef.int(k:IntKind):Ef Int where
 w:=1
 pos:=by decide
 has _ _ cs n:=cs=[.int k n]
 len e:=by rw[e];rfl
 grow _ e:=e
 mono _ e:=e
 upd _ _ e:=e
 bound e:=e
def Ef.bool:Ef Bool where
 w:=1
 pos:=by decide
 has _ _ cs b:=cs=[.bool b]
 len e:=by rw[e];rfl
 grow _ e:=e
 mono _ e:=e
 upd _ _ e:=e
 bound e:=e
def Ef.str:Ef ByteArray where
 w:=1
 pos:=by decide
 has _ _ cs b:=cs=[.str b]
 len e:=by rw[e];rfl
 grow _ e:=e
 mono _ e:=e
 upd _ _ e:=e
 bound e:=e
def Ef.nats:Ef (List Nat) where
 w:=1
 pos:=by decide
 has h S cs xs:=∃s,cs=[Sl.v s]∧Nats h s xs∧∀j,¬Av s j xs→S j
 len:=fun⟨s,e,_,_⟩=>by rw[e];rfl
 grow g:=fun⟨s,e,n,a⟩=>⟨s,e,n.grow g,a⟩
 mono m:=fun⟨s,e,n,a⟩=>⟨s,e,n,fun j k=>m j (a j k)⟩
 upd no u:=fun⟨s,e,n,a⟩=>⟨s,e,n.upda (Classical.byContradiction fun k=>no (a _ k)) u,a⟩
 bound:=fun{h} _ _ _ ⟨s,e,n,a⟩=>⟨s,e,n,fun j k=>⟨a j k,by
  rcases Nat.lt_or_ge j h.blks.size with h1 | h1
  ·exact h1
  ·exact absurd (Av.of_base n h1) k⟩⟩
def Ef.pair{α β:Type}(A:Ef α)(B:Ef β):Ef (α×β) where
 w:=A.w+B.w
 pos:=by have:=A.pos;omega
 has h S cs p:=∃c1 c2,cs=c1++c2∧A.has h S c1 p.1∧B.has h S c2 p.2
 len:=fun⟨c1,c2,e,a,b⟩=>by rw[e,List.length_append,A.len a,B.len b]
 grow g:=fun⟨c1,c2,e,a,b⟩=>⟨c1,c2,e,A.grow g a,B.grow g b⟩
 mono m:=fun⟨c1,c2,e,a,b⟩=>⟨c1,c2,e,A.mono m a,B.mono m b⟩
 upd no u:=fun⟨c1,c2,e,a,b⟩=>⟨c1,c2,e,A.upd no u a,B.upd no u b⟩
 bound:=fun⟨c1,c2,e,a,b⟩=>⟨c1,c2,e,A.bound a,B.bound b⟩
theorem All2.set{α β:Type}{R:α→β→Prop}{l:List α}{m:List β}(a:All2 R l m){x:α}{y:β}(h:R x y):∀j:Nat,All2 R (l.set j x) (m.set j y):=by
 induction a with
 | nil=>intro j;exact .nil
 | cons h1 h2 ih =>
  intro j;cases j with
  | zero=>exact .cons h h2
  | succ j=>exact .cons h1 (ih j)
def RefIn(S:Fp)(s:Sl)(n:Nat):Prop:=n=0∨∀j o,s.ref=some (.new j o)→S j
structure Sq{α:Type}(E:Ef α)(h:AH)(S:Fp)(s:Sl)(xs:List α):Prop where
 rows:∃rows,Cells h s E.w rows.flatten∧All2 (E.has h S) rows xs
 len:s.len=xs.length
 short:xs.length≤9223372036854775807
 at':RefIn S s xs.length
variable{α:Type}{E:Ef α}
theorem Ef.rows{h:AH}{S:Fp}{rows:List (List AV)}{xs:List α}(a:All2 (E.has h S) rows xs):∀r∈rows,r.length=E.w:=by
 induction a with
 | nil=>simp
 | cons h' _ ih =>
  intro r hr;rcases List.mem_cons.1 hr with rfl | hr
  ·exact E.len h'
  ·exact ih r hr
theorem Cells.updn{h h':AH}{s:Sl}{n:Nat}{flat:List AV}(c:Cells h s n flat){i:Nat}(hi:∀o,s.ref≠some (.new i o))(u:Upd h h' i):Cells h' s n flat :=
 ⟨c.fit,c.len,fun k v hv=>by
  obtain⟨r,e1,e2⟩:=c.get k v hv;refine⟨r,e1,u.cell e2 fun o he=>?_⟩;cases r with
  | old a=>cases he
  | new j p =>
   simp only[Ref.add_new,Ref.new.injEq]at he;exact hi p (by rw[e1,he.1])⟩
theorem Sq.grow{h h':AH}{S:Fp}{s:Sl}{xs:List α}(n:Sq E h S s xs)(g:Grow h h'):Sq E h' S s xs:=by
 obtain⟨⟨rows,c,a⟩,l,sh,at'⟩:=n;exact⟨⟨rows,c.grow g,a.imp fun _ _=>E.grow g⟩,l,sh,at'⟩
theorem Sq.mono{h:AH}{S T:Fp}{s:Sl}{xs:List α}(n:Sq E h S s xs)(m:∀j,S j→T j):Sq E h T s xs:=by
 obtain⟨⟨rows,c,a⟩,l,sh,at'⟩:=n;exact⟨⟨rows,c,a.imp fun _ _=>E.mono m⟩,l,sh,at'.imp id fun f j o e=>m j (f j o e)⟩
theorem Sq.nil(E:Ef α)(h:AH)(S:Fp):Sq E h S ⟨none,0,.is 0⟩ []:=⟨⟨[],Cells.nil h _,.nil⟩,rfl,by simp,.inl rfl⟩
theorem Sq.upd{h h':AH}{S:Fp}{s:Sl}{xs:List α}(n:Sq E h S s xs){i:Nat}(no:¬S i)(u:Upd h h' i):Sq E h' S s xs:=by
 obtain⟨⟨rows,c,a⟩,l,sh,at'⟩:=n;refine⟨⟨rows,?_,a.imp fun _ _=>E.upd no u⟩,l,sh,at'⟩;rcases at' with e | f
 ·have hr:rows.length=0:=by rw[All2.length a,e]
  have hr:rows=[]:=List.length_eq_zero_iff.1 hr;subst hr;exact⟨c.fit,c.len,fun k v hv=>by simp at hv⟩
 ·exact c.updn (fun o ho=>no (f i o ho)) u
theorem Sq.updo{h h':AH}{S:Fp}{s:Sl}{xs:List α}(n:Sq E h S s xs):∀{i:Option Nat},NotO S i→UpdO h h' i→Sq E h' S s xs
 | none,_,u=>n.grow u
 | some _,no,u=>n.upd no u
theorem Sq.bound{h:AH}{S:Fp}{s:Sl}{xs:List α}(n:Sq E h S s xs):Sq E h (fun j=>S j∧j<h.blks.size) s xs:=by
 obtain⟨⟨rows,c,a⟩,l,sh,at'⟩:=n;refine⟨⟨rows,c,a.imp fun _ _=>E.bound⟩,l,sh,?_⟩;rcases Nat.eq_zero_or_pos xs.length with e | e
 ·exact .inl e
 ·refine .inr fun j o hj=>⟨(at'.resolve_left (by omega)) j o hj,?_⟩;have hf:=kcp (w:=E.w) (rows:=rows) (Ef.rows a)
  have h0:0<rows.flatten.length:=by
   rw[hf,All2.length a];exact Nat.mul_pos e E.pos
  obtain⟨r,e1,e2⟩:=c.get 0 _ (List.getElem?_eq_getElem h0);rw[hj]at e1;cases e1;have:=AH.cell_inn e2;rw[Ref.add_new]at this;exact this
def Ef.seq{α:Type}(E:Ef α):Ef (List α) where
 w:=1
 pos:=by decide
 has h S cs xs:=∃s,cs=[Sl.v s]∧Sq E h S s xs
 len:=fun⟨s,e,_⟩=>by rw[e];rfl
 grow g:=fun⟨s,e,n⟩=>⟨s,e,n.grow g⟩
 mono m:=fun⟨s,e,n⟩=>⟨s,e,n.mono m⟩
 upd no u:=fun⟨s,e,n⟩=>⟨s,e,n.upd no u⟩
 bound:=fun⟨s,e,n⟩=>⟨s,e,n.bound⟩
theorem Sq.at{h:AH}{S:Fp}{s:Sl}{xs:List α}(n:Sq E h S s xs){i:Int}{y:α}(q:atX xs i=some y):∃(r:Ref)(cs:List AV),idx s.ref xs.length i E.w=some r∧E.has h S cs y∧Lies h r cs:=by
 obtain⟨⟨rows,c,a⟩,l,sh,at'⟩:=n;obtain⟨j,rfl,hj⟩:=kwk q;obtain⟨cs,e1,e2⟩:=a.get hj;have hjl:=(List.getElem?_eq_some_iff.1 hj).1;have hr:=Ef.rows a;have key:∀k v,cs[k]?=some v→∃r,s.ref=some r∧h.cell (r.add (j*E.w+k))=some v:=fun k v hk=>c.get _ _ (kj4 hr e1 hk);cases hs:s.ref with
 | none =>
  exfalso;cases cs with
  | nil=>have:=E.len e2;have:=E.pos;simp at *;omega
  | cons v vs =>
   obtain⟨r,e,_⟩:=key 0 v rfl;rw[hs]at e;cases e
 | some r =>
  refine⟨r.add (j*E.w),cs,?_,e2,⟨fun k v hk=>?_⟩⟩
  ·rw[kcw _ _ _ _ (by omega) (by omega)];simp
  ·obtain⟨r',e,e'⟩:=key k v hk;rw[hs]at e;cases e;rw[Ref.add_add];exact e'
theorem Sq.lit{h:AH}{S:Fp}{i n:Nat}{rows:List (List AV)}{e:TypeId}{xs:List α}(b:h.has i rows.flatten e)(a:All2 (E.has h S) rows xs)(hn:xs.length=n)(hs:n≤9223372036854775807:=by decide):Sq E h (Fp.or (fun j=>j=i) S) ⟨some (.new i 0),n,.is n⟩ xs:=by
 refine⟨⟨rows,Cells.of_has b ?_,a.imp fun _ _=>E.mono fun j k=>.inr k⟩,hn.symm,by omega,.inr fun j o e=>?_⟩
 ·rw[kcp (Ef.rows a),All2.length a,hn]
 ·cases e;exact .inl rfl
def GF{α:Type}(E:Ef α)(elem:TypeId)(h:AH)(S:Fp)(s:Sl)(i:Option Nat)(xs:List α):Prop :=
 xs.length≤9223372036854775807∧match i with
 | none=>s=⟨none,0,.is 0⟩∧xs=[]
 | some k=>¬S k∧s.ref=some (.new k 0)∧s.len=xs.length∧∃rows e,h.has k rows.flatten e∧(s.cap=.is s.len∨s.cap=.opn E.w∧e=elem)∧All2 (E.has h S) rows xs
variable{elem:TypeId}
theorem GF.none(E:Ef α)(elem:TypeId)(h:AH)(S:Fp):GF E elem h S ⟨none,0,.is 0⟩ none []:=⟨by simp,rfl,rfl⟩
theorem GF.one{h:AH}{S:Fp}{i:Nat}{cs:List AV}{x:α}{e:TypeId}(b:h.has i cs e)(c:E.has h S cs x)(a:¬S i):GF E elem h S ⟨some (.new i 0),1,.is 1⟩ (some i) [x] :=
 ⟨by simp,a,rfl,rfl,[cs],e,by simpa using b,.inl rfl,.cons c .nil⟩
theorem GF.lit{h:AH}{S:Fp}{i n:Nat}{rows:List (List AV)}{xs:List α}{e:TypeId}(b:h.has i rows.flatten e)(c:All2 (E.has h S) rows xs)(a:¬S i)(hn:xs.length=n)(hs:n≤9223372036854775807:=by decide):GF E elem h S ⟨some (.new i 0),n,.is n⟩ (some i) xs :=
 ⟨by omega,a,rfl,hn.symm,rows,e,b,.inl rfl,c⟩
theorem GF.grow{h h':AH}{S:Fp}{s:Sl}:∀{i:Option Nat}{xs:List α},GF E elem h S s i xs→Grow h h'→GF E elem h' S s i xs
 | .none,_,v,g=>v
 | .some k,_,⟨l,a,r,ln,rows,e,b,c,r2⟩,g=>⟨l,a,r,ln,rows,e,g.has b,c,r2.imp fun _ _=>E.grow g⟩
theorem GF.lt{h:AH}{S:Fp}{s:Sl}:∀{i:Option Nat}{xs:List α},GF E elem h S s i xs→LtO h.blks.size i
 | .none,_,_=>trivial
 | .some k,_,⟨l,a,r,ln,rows,e,b,c,r2⟩=>b.lt
theorem GF.mono{h:AH}{S T:Fp}{s:Sl}:∀{i:Option Nat}{xs:List α},GF E elem h S s i xs→(∀j,S j→T j)→NotO T i→GF E elem h T s i xs
 | .none,_,v,_,_=>v
 | .some k,_,⟨l,a,r,ln,rows,e,b,c,r2⟩,m,no=>⟨l,no,r,ln,rows,e,b,c,r2.imp fun _ _=>E.mono m⟩
theorem GF.not{h:AH}{S:Fp}{s:Sl}:∀{i:Option Nat}{xs:List α},GF E elem h S s i xs→NotO S i
 | .none,_,_=>trivial
 | .some k,_,v=>v.2.1
theorem GF.bound{h:AH}{S:Fp}{s:Sl}:∀{i:Option Nat}{xs:List α},GF E elem h S s i xs→GF E elem h (fun j=>S j∧j<h.blks.size) s i xs
 | .none,_,v=>v
 | .some k,_,⟨l,a,r,ln,rows,e,b,c,r2⟩=>⟨l,fun x=>a x.1,r,ln,rows,e,b,c,r2.imp fun _ _=>E.bound⟩
def Fp.opt(i:Option Nat):Fp:=fun j=>i=some j
theorem GF.sq{h:AH}{S:Fp}{s:Sl}:∀{i:Option Nat}{xs:List α},GF E elem h S s i xs→Sq E h (Fp.or (Fp.opt i) S) s xs
 | .none,xs,⟨_,e1,e2⟩=>by
  subst e1;subst e2;exact Sq.nil E h _
 | .some k,_,⟨l,a,r,ln,rows,e,b,c,r2⟩=>by
  have hc:=Cells.of_has (n:=E.w) (m:=s.len) b (by rw[kcp (Ef.rows r2),All2.length r2,ln]);refine⟨⟨rows,⟨?_,?_,?_⟩,r2.imp fun _ _=>E.mono fun j x=>.inr x⟩,ln,l,.inr fun j o ho=>?_⟩
  ·rcases c with c | c
   ·unfold Sl.fit;rw[c];exact Nat.le_refl _
   ·unfold Sl.fit;rw[c.1]
  ·exact hc.len
  ·rw[r];exact hc.get
  ·rw[r]at ho;cases ho;exact .inl rfl
theorem GF.len{h:AH}{S:Fp}{s:Sl}{i:Option Nat}{xs:List α}(v:GF E elem h S s i xs):s.len=xs.length:=v.sq.len
theorem GF.own{h h0:AH}{S:Fp}{s:Sl}:∀{i:Option Nat}{xs:List α},GF E elem h S s i xs→LeO h0.blks.size i→Own h0 s
 | .none,_,v,_=>fun r hr=>by rw[v.2.1]at hr;cases hr
 | .some k,_,⟨_,_,r,_⟩,l=>fun q hq=>by
  rw[r]at hq;cases hq;exact⟨k,0,rfl,l⟩
theorem GF.upd{h h':AH}{S:Fp}{s:Sl}{i:Nat}(u:Upd h h' i)(no:¬S i):∀{j:Option Nat}{xs:List α},GF E elem h S s j xs→(∀k,j=some k→k≠i)→GF E elem h' S s j xs
 | .none,_,v,_=>v
 | .some k,_,⟨l,a,r,ln,rows,e,b,c,r2⟩,ne=>⟨l,a,r,ln,rows,e,b.updr (ne k rfl) u,c,r2.imp fun _ _=>E.upd no u⟩
theorem GF.updo{h h':AH}{S:Fp}{s:Sl}{j:Option Nat}{xs:List α}(v:GF E elem h S s j xs):∀{i:Option Nat},NotO S i→NeOO j i→UpdO h h' i→GF E elem h' S s j xs
 | .none,_,_,u=>v.grow u
 | .some i,no,ne,u=>v.upd u no fun k e=>by
  subst e;exact ne
theorem GF.set{h:AH}{S T:Fp}{s:Sl}{i:Option Nat}{xs:List α}(v:GF E elem h S s i xs){cs:List AV}{x:α}(c:E.has h T cs x)(no:NotO T i){z:Int}{j:Nat}(q:inI xs.length z=some j) :
  ∃r h',idx s.ref xs.length z E.w=some r∧h.puts r cs=some h'∧GF E elem h' (Fp.or S T) s i (xs.set j x)∧UpdO h h' i:=by
 obtain⟨hz,hj⟩:=kmq q;cases i with
 | none =>
  obtain⟨_,e1,e2⟩:=v;subst e2;simp at hj
 | some k =>
  obtain⟨l,a,r,ln,rows,e,b,cp,r2⟩:=v;have hrl:=All2.length r2;have hr:=Ef.rows r2;have hw:=E.len c;have hfl:=kcp hr
  have hle:j*E.w+cs.length≤rows.flatten.length:=by
   rw[hfl,hw,← Nat.succ_mul];exact Nat.mul_le_mul_right _ (by omega)
  have hfl2:∀(rs:List (List AV))(n:Nat),(∀r∈rs,r.length=E.w)→rs.flatten.take (n*E.w)=(rs.take n).flatten∧rs.flatten.drop (n*E.w)=(rs.drop n).flatten:=by
   intro rs
   induction rs with
   | nil=>intro n _;simp
   | cons r rs ih =>
    intro n hh;cases n with
    | zero=>simp
    | succ n =>
     have h1:=ih n fun q hq=>hh q (by simp[hq]);have h2:=hh r (by simp);rw[Nat.succ_mul,List.flatten_cons,List.take_succ_cons,List.drop_succ_cons,List.flatten_cons,← h1.1,← h1.2];constructor
     ·rw[List.take_append,h2,List.take_of_length_le (by omega),Nat.add_sub_cancel]
     ·rw[List.drop_append,h2,List.drop_eq_nil_of_le (by omega),Nat.add_sub_cancel,List.nil_append]
  have key:rows.flatten.take (j*E.w)++cs++rows.flatten.drop (j*E.w+cs.length)=(rows.set j cs).flatten:=by
   have h3:j*E.w+cs.length=(j+1)*E.w:=by rw[hw,Nat.succ_mul]
   rw[h3,(hfl2 rows j hr).1,(hfl2 rows (j+1) hr).2,List.set_eq_take_append_cons_drop,if_pos (by omega)];simp
  refine⟨.new k (j*E.w),h.upd k (rows.set j cs).flatten e,?_,?_,⟨by simpa using l,fun x=>x.elim a no,r,by simpa using ln,rows.set j cs,e,AH.has_upd b _ _,cp,?_⟩,AH.upd_Upd h k _ e⟩
  ·rw[r,hz,kcw _ _ _ _ (by omega) (by omega)];simp
  ·rw[b.puts hle,key]
  ·have:All2 (fun cs a=>E.has h (Fp.or S T) cs a) (rows.set j cs) (xs.set j x):=All2.set (r2.imp fun _ _=>E.mono fun j k=>.inl k) (E.mono (fun j k=>.inr k) c) j;exact this.imp fun _ _ y=>E.upd (fun x=>x.elim a no) (AH.upd_Upd h k _ e) y
theorem GF.push{h:AH}{S T:Fp}{s:Sl}{i:Option Nat}{xs:List α}(v:GF E elem h S s i xs){cs:List AV}{x:α}(c:E.has h T cs x)(no:NotO T i)(hg:growOk P (xs.length+1) elem E.w=true) :
  ∃s' h',kx P s cs 1 elem E.w h=some (s'.v,h')∧GF E elem h' (fun j=>(Fp.or S T) j∧j<h.blks.size) s' (some h.blks.size) (xs++[x])∧UpdO h h' i:=by
 have hl:=klw hg;have hw:=E.len c;have nS:¬((Fp.or S T) h.blks.size∧h.blks.size<h.blks.size):=fun k=>Nat.lt_irrefl _ k.2;cases i with
 | none =>
  obtain⟨_,e1,e2⟩:=v;subst e1;subst e2;rw[kfx (c:=0) rfl (by simp) (by simpa using hg) (Cells.nil h E.w)];refine⟨_,_,rfl,⟨by simp,nS,rfl,by simp,[cs],elem,?_,.inr ⟨rfl,rfl⟩,.cons ?_ .nil⟩,Grow.push _ _⟩
  ·simpa using AH.has_push h cs elem
  ·refine E.grow (Grow.push _ _) (E.mono (fun j k=>⟨.inr k.1,k.2⟩) (E.bound c))
 | some k =>
  have sq:=v.sq;obtain⟨l,a,r,ln,rows,e,b,cp,r2⟩:=v;have hr:=Ef.rows r2
  have cc:Cells h s E.w rows.flatten:=by
   have hc:=Cells.of_has (n:=E.w) (m:=s.len) b (by rw[kcp hr,All2.length r2,ln]);refine⟨?_,hc.len,by rw[r];exact hc.get⟩;rcases cp with c | c
   ·unfold Sl.fit;rw[c];exact Nat.le_refl _
   ·unfold Sl.fit;rw[c.1]
  rw[← ln]at hg;rcases cp with ce | ⟨ce,rfl⟩
  ·rw[kfx ce (by omega) hg cc];refine⟨_,_,rfl,⟨by simpa using hl,nS,rfl,by simp[ln],rows++[cs],elem,?_,.inr ⟨rfl,rfl⟩,All2.snoc (r2.imp fun _ _ y=>?_) ?_⟩,(Grow.push _ _).toUpd k⟩
   ·have:=AH.has_push h (rows.flatten++cs) elem
    simpa using this
   ·exact E.grow (Grow.push _ _) (E.mono (fun j q=>⟨.inl q.1,q.2⟩) (E.bound y))
   ·exact E.grow (Grow.push _ _) (E.mono (fun j q=>⟨.inr q.1,q.2⟩) (E.bound c))
  ·have hap:kx P s cs 1 e E.w h=some (Sl.v ⟨some (.new h.blks.size 0),s.len+1,.opn E.w⟩,(h.kill s.ref).push (.cells (rows.flatten++cs) e)):=by
    unfold kx;simp only[ce];rw[show Nat.beq 1 0=false from rfl,show Nat.beq E.w E.w=true from Nat.beq_refl _];simp only[cond_false,hg,Bool.and_true,cond_true,r,show h.blks[k]?=_ from b];have hgets:=cc.gets;rw[r]at hgets;simp only[hgets,Option.bind_some];rw[show Nat.beq e e=true from Nat.beq_refl _,cond_true];have:(AH.kill h (some (Ref.new k 0))).blks.size=h.blks.size:=by simp[AH.kill]
    simp[AH.next,this,Sl.v];rfl
   rw[hap,r];have sz:(h.kill (some (.new k 0))).blks.size=h.blks.size:=by simp[AH.kill]
   have u:Upd h (h.kill (some (.new k 0))) k:=AH.kill_Upd h k;refine⟨_,_,rfl,⟨by simpa using hl,nS,rfl,by simp[ln],rows++[cs],e,?_,.inr ⟨rfl,rfl⟩,All2.snoc (r2.imp fun _ _ y=>?_) ?_⟩,u.trans ((Grow.push _ _).toUpd k)⟩
   ·have:=AH.has_push (h.kill (some (.new k 0))) (rows.flatten++cs) e;rw[sz]at this
    simpa using this
   ·exact E.grow (Grow.push _ _) (E.mono (fun j q=>⟨.inl q.1,q.2⟩) (E.upd (fun q=>a q.1) u (E.bound y)))
   ·exact E.grow (Grow.push _ _) (E.mono (fun j q=>⟨.inr q.1,q.2⟩) (E.upd (fun q=>no q.1) u (E.bound c)))
end Go.Ab

/- squeezed -/
namespace Go.Ab
variable{P:Program}
theorem kux{h:AH}:∀(n:Nat){r:Ref}{es:List AV},h.gets r n=some es→es.length=n∧∀(k:Nat)(v:AV),es[k]?=some v→h.cell (r.add k)=some v
 | 0,r,es,e=>by
  simp only[AH.gets,Option.some.injEq]at e;subst e;exact⟨rfl,fun k v hv=>by simp at hv⟩
 | n+1,r,es,e=>by
  simp only[AH.gets,Option.bind_eq_some_iff,Option.map_eq_some_iff]at e;obtain⟨v,e1,l,e2,rfl⟩:=e;obtain⟨h1,h2⟩:=kux n e2;refine⟨by simp[h1],fun k u hu=>?_⟩;cases k with
  | zero =>
   simp at hu;subst hu;rw[Ref.add_zero];exact e1
  | succ k =>
   have:=h2 k u (by simpa using hu);rw[← this,Ref.add_add,Nat.add_comm]
theorem Sq.of_arg{α:Type}{E:Ef α}{S:Fp}{h:AH}{t e:TypeId}{cs:List AV}(hu:P.underlying t=some (.slice e))(hw:P.cellsOf e=E.w)(elem:∀es,ArgT P h e es→∃a,E.has h S es a)(a:ArgT P h t cs):∃(s:Sl)(xs:List α),cs=[s.v]∧Sq E h S s xs:=by
 rcases a.slice hu with rfl | ⟨ad,len,cap,rfl,h1,h2,h3⟩
 ·exact⟨⟨none,0,.is 0⟩,[],rfl,Sq.nil _ _ _⟩
 ·rw[hw]at h3
  have mk:∀n,n≤len→∃(rows:List (List AV))(xs:List α),rows.length=n∧All2 (E.has h S) rows xs∧∀(i:Nat)(r:List AV),rows[i]?=some r→h.gets (.old (ad.add (i*E.w))) E.w=some r:=by
   intro n
   induction n with
   | zero=>exact fun _=>⟨[],[],rfl,.nil,fun i r hi=>by simp at hi⟩
   | succ n ih =>
    intro hn;obtain⟨rows,xs,hl,ha,hx⟩:=ih (by omega);obtain⟨es,k1,k2⟩:=h3 n (by omega);obtain⟨x,k3⟩:=elem es k2;refine⟨rows++[es],xs++[x],by simp[hl],ha.snoc k3,fun i r hi=>?_⟩;by_cases hin:i<rows.length
    ·rw[List.getElem?_append_left hin]at hi;exact hx i r hi
    ·rw[List.getElem?_append_right (by omega)]at hi
     have:i=n:=by
      rcases Nat.eq_zero_or_pos (i-rows.length)with h0 | h0
      ·omega
      ·rw[List.getElem?_eq_none (by simp;omega)]at hi;cases hi
     subst this;rw[hl,Nat.sub_self]at hi;simp at hi;subst hi;exact k1
  obtain⟨rows,xs,hl,ha,hx⟩:=mk len (Nat.le_refl _);have hr:=Ef.rows ha;have hlen:=All2.length ha;refine⟨⟨some (.old ad),len,.is cap⟩,xs,rfl,⟨⟨rows,⟨h1,by rw[kcp hr,hl],fun k v hv=>⟨_,rfl,?_⟩⟩,ha⟩,by rw[← hlen,hl],?_,.inr fun j o hj=>by cases hj⟩⟩
  ·have hk:k<rows.length*E.w:=by
    rw[← kcp hr];exact(List.getElem?_eq_some_iff.1 hv).1
   have hi:k/E.w<rows.length:=Nat.div_lt_of_lt_mul (by rw[Nat.mul_comm];exact hk);have hj:k%E.w<E.w:=Nat.mod_lt _ E.pos;have e1:=List.getElem?_eq_getElem hi;have e2:(rows[k/E.w])[k%E.w]?=some ((rows[k/E.w])[k%E.w]'(by rw[hr _ (List.getElem_mem _)];exact hj)):=List.getElem?_eq_getElem _;have e3:=kj4 hr e1 e2
   have e4:k/E.w*E.w+k%E.w=k:=by
    rw[Nat.mul_comm];exact Nat.div_add_mod k E.w
   rw[e4,hv]at e3;have e5:=(kux E.w (hx _ _ e1)).2 _ _ e2;rw[← Option.some.inj e3]at e5
   have e6:(Ref.old (ad.add (k/E.w*E.w))).add (k%E.w)=(Ref.old ad).add k:=by
    rw[show Ref.old (ad.add (k/E.w*E.w))=(Ref.old ad).add (k/E.w*E.w)from rfl,Ref.add_add,e4]
   rw[← e6];exact e5
  ·have hm:maxLen=9223372036854775807:=by decide
   rw[← hlen,hl];rw[hm]at h2;exact Nat.le_trans h1 h2
end Go.Ab

/- squeezed -/
namespace Go.Ab
theorem All2.drop{α β:Type}{R:α→β→Prop}{l:List α}{m:List β}(a:All2 R l m):∀k:Nat,All2 R (l.drop k) (m.drop k):=by
 induction a with
 | nil=>intro k;simp;exact .nil
 | cons h t ih =>
  intro k;cases k with
  | zero=>exact .cons h t
  | succ k=>exact ih k
theorem All2.take{α β:Type}{R:α→β→Prop}{l:List α}{m:List β}(a:All2 R l m):∀k:Nat,All2 R (l.take k) (m.take k):=by
 induction a with
 | nil=>intro k;simp;exact .nil
 | cons h t ih =>
  intro k;cases k with
  | zero=>exact .nil
  | succ k=>exact .cons h (ih k)
theorem All2.append{α β:Type}{R:α→β→Prop}{l l':List α}{m m':List β}(a:All2 R l m)(b:All2 R l' m'):All2 R (l++l') (m++m'):=by
 induction a with
 | nil=>exact b
 | cons h t ih=>exact .cons h ih
theorem krm{w:Nat}:∀{rows:List (List AV)},(∀r∈rows,r.length=w)→∀k:Nat,rows.flatten.drop (k*w)=(rows.drop k).flatten
 | [],_,k=>by simp
 | r::rows,h,0=>by simp
 | r::rows,h,k+1=>by
  rw[List.flatten_cons,List.drop_succ_cons,← krm (fun q hq=>h q (by simp[hq])) k,Nat.add_mul,Nat.one_mul,Nat.add_comm,← List.drop_drop,List.drop_left' (h r (by simp))]
theorem krg{w:Nat}:∀{rows:List (List AV)},(∀r∈rows,r.length=w)→∀k:Nat,rows.flatten.take (k*w)=(rows.take k).flatten
 | [],_,k=>by simp
 | r::rows,h,0=>by simp
 | r::rows,h,k+1=>by
  rw[List.flatten_cons,List.take_succ_cons,List.flatten_cons,← krg (fun q hq=>h q (by simp[hq])) k,Nat.add_mul,Nat.one_mul,Nat.add_comm (k*w)];have hr:=h r (by simp);rw[List.take_append,List.take_of_length_le (by omega),hr];congr 2;omega
theorem k8z{s s':Sl}{l m:Int}{w:Nat}(e:cutSl s l m w=some s'){j o:Nat}(hr:s'.ref=some (.new j o)):∃o',s.ref=some (.new j o'):=by
 have key:∀{a:Nat},(s.ref.map (·.add a))=some (Ref.new j o)→∃o',s.ref=some (.new j o'):=fun{a} h=>by
  cases hs:s.ref with
  | none=>rw[hs]at h;cases h
  | some r =>
   rw[hs,Option.map_some,Option.some.injEq]at h;cases r with
   | new i p =>
    simp only[Ref.add_new,Ref.new.injEq]at h;exact⟨p,by rw[h.1]⟩
   | old a'=>cases h
 unfold cutSl at e;split at e
 ·rename_i c hc;cases hd:decide (0≤l∧l≤m∧m≤(c:Int))with
  | false=>rw[hd]at e;cases e
  | true =>
   rw[hd,cond_true,Option.some.injEq]at e;rw[← e]at hr;dsimp only at hr;split at hr
   ·exact⟨o,hr⟩
   ·exact key hr
 ·rename_i sz hc;cases hb:Nat.beq sz w with
  | false=>rw[hb]at e;cases e
  | true =>
   rw[hb,cond_true]at e;cases hd:decide (0≤l∧l≤m∧m≤(s.len:Int))with
   | false=>rw[hd]at e;cases e
   | true =>
    rw[hd,cond_true,Option.some.injEq]at e;rw[← e]at hr;exact key hr
theorem Sq.cut{α:Type}{E:Ef α}{h:AH}{S:Fp}{s:Sl}{xs:List α}(n:Sq E h S s xs){l m:Nat}(h1:l≤m)(h2:m≤xs.length):∃s',cutSl s (l:Int) (m:Int) E.w=some s'∧Sq E h S s' ((xs.drop l).take (m-l))∧∀h0,Own h0 s→Own h0 s':=by
 obtain⟨⟨rows,c,a⟩,ln,sh,at'⟩:=n;have hr:=Ef.rows a;obtain⟨s',e,l',c',o⟩:=c.cut h1 (by rw[ln];exact h2);refine⟨s',e,⟨⟨(rows.drop l).take (m-l),?_,(a.drop l).take _⟩,by rw[l',List.length_take,List.length_drop];omega,by rw[List.length_take,List.length_drop];omega,?_⟩,o⟩
 ·rw[← krg (fun r hr'=>hr r (List.mem_of_mem_drop hr')),← krm hr];exact c'
 ·rcases at' with h0 | h0
  ·left
   rw[List.length_take,List.length_drop];omega
  ·right
   intro j o' hj;obtain⟨o2,e2⟩:=k8z e hj;exact h0 j o2 e2
end Go.Ab

/- squeezed -/
namespace Go.Ab
theorem AH.setBlk_get{h:AH}{l:Nat}{b:ABlk}(hl:l<h.blks.size):(h.setBlk l b).blks[l]?=some b:=by
 simp[AH.setBlk,hl]
theorem AH.setBlk_ne{h:AH}{l i:Nat}{b:ABlk}(hi:i≠l):(h.setBlk l b).blks[i]?=h.blks[i]?:=by
 simp only[AH.setBlk];rw[Array.getElem?_setIfInBounds_ne (fun e=>hi e.symm)]
theorem AH.setBlk_size(h:AH)(l:Nat)(b:ABlk):(h.setBlk l b).blks.size=h.blks.size:=by simp[AH.setBlk]
theorem Grow.setBlk{h h1:AH}(g:Grow h h1){l:Nat}(hl:h.blks.size≤l)(b:ABlk):Grow h (h1.setBlk l b) :=
 ⟨g.old,by rw[AH.setBlk_size];exact g.size,fun i hi=>by rw[AH.setBlk_ne (by omega)];exact g.blk i hi⟩
theorem k6e{h:AH}{l:Nat}{pe:Option Code}{f:FuncId}{fr:Fr}{ps:Array Tmp}{bs bd:Code}{d:Nat}(hb:h.blks[l]?=some (.loop .ready pe f fr ps bs bd d)) :
  beginA l h=some (h.setBlk l (.loop .busy pe f fr ps bs bd d)):=by
 simp only[beginA,hb]
theorem k02{h:AH}{l:Nat}{st:LoopState}{pe:Option Code}{f:FuncId}{fr:Fr}{ps:Array Tmp}{bs bd:Code}{d:Nat}(hb:h.blks[l]?=some (.loop st pe f fr ps bs bd d))(j:Option Code) :
  kgi l j h=some (.bool j.isNone,h.setBlk l (.loop (cond j.isNone .ready .done) j f fr ps bs bd d)):=by
 simp only[kgi,hb]
theorem kbbv{h:AH}{l:Nat}{pe:Option Code}{f:FuncId}{fr:Fr}{ps:Array Tmp}{bs bd:Code}{d:Nat}(hb:h.blks[l]?=some (.loop .ready pe f fr ps bs bd d)):khd l h=some (pe,h.setBlk l .dead):=by
 simp only[khd,hb];rfl
theorem kbar{R:Type}{f:FuncId}{a c:List AV}{k:FuncId→List AV→List AV→Option R}:funcK (.func (.func f) a c) k=k f a c:=rfl
theorem Runs.newM{P:AV→AH→Prop}{h:AH}{b:ABlk}{K:Nat→AH→Option (AV×AH)}(H:∀h',h'.blks[h.blks.size]?=some b→Grow h h'→Runs (K h.blks.size h') P):Runs (newM h b K) P :=
 H _ (by simp[AH.alloc]) (Grow.push h _)
end Go.Ab
