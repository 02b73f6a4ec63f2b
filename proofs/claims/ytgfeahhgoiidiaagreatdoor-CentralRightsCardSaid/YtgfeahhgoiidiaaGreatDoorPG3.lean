/- Words and laws that the last text joins. -/
import Derived.Test.YtgfeahhgoiidiaaGreatDoorPS35
import Derived.Test.YtgfeahhgoiidiaaGreatDoorPAbsT
import Derived.Test.YtgfeahhgoiidiaaGreatDoorPU1b
set_option linter.unusedVariables false
set_option linter.unusedSimpArgs false
set_option linter.unusedSectionVars false
set_option maxRecDepth 10000
namespace Go.Ab
open Go.Proofs Go.Num
inductive khl
 | fn (a1:Int) (a2:Int) (a3:Int) (a4:Int) (a5:Int)
 | no
abbrev kgz:=Bool×List Nat×List Nat×Int
noncomputable def ki7(a1 a2 a3 a4 a5:Int):Option (khl⊕kgz) :=
 cond (!((kbi a2 a3 a4 a5).2.2)) (some (.inr (false,[],[],1))) (cond (!((kb1 a1))) (some (.inr (false,[],[],1))) ((some (kdo (((((scoreF a1 a2 a3).1)))) ((scoreF a1 a2 a3).2.1) ((scoreF a1 a2 a3).2.2.1) (((((scoreF a1 (((((kbi a2 a3 a4 a5).1)))) (((((kbi a2 a3 a4 a5).2.1))))).1)))) ((scoreF a1 (((((kbi a2 a3 a4 a5).1)))) (((((kbi a2 a3 a4 a5).2.1))))).2.1) ((scoreF a1 (((((kbi a2 a3 a4 a5).1)))) (((((kbi a2 a3 a4 a5).2.1))))).2.2.1))).bind fun p50=>(some (kdw ((p50.1)) p50.2.1 p50.2.2.1 (((((scoreF a1 a4 a5).1)))) ((scoreF a1 a4 a5).2.1) ((scoreF a1 a4 a5).2.2.1))).bind fun p87=>some (.inr (((p87.1)),p87.2.1,p87.2.2.1,(p87.2.2.2)))))
noncomputable def kr6:khl→Option (khl⊕kgz)
 | .fn a1 a2 a3 a4 a5=>ki7 a1 a2 a3 a4 a5
 | .no=>none
@[reducible] def kxg(h0:AH)(r:kgz)(v:AV)(h':AH):Prop:=∃s1:Sl,∃s2:Sl,v=.tup [.agg [.bool r.1,s1.v,s2.v],.int .i64 r.2.2.2]∧Nats h' s1 r.2.1∧Nats h' s2 r.2.2.1∧Grow h0 h'∧Own h0 s1∧Own h0 s2
def kow(r:kgz):khl→Prop
 | .fn a1 a2 a3 a4 a5=>∀{h:AH},Runs (go (.fn kl2 [.int .i64 a1,.agg [.int .i64 a2,.int .i64 a3],.agg [.int .i64 a4,.int .i64 a5]]) h) (kxg h r)
 | .no=>True
theorem kbc8{r:kgz}{o:khl⊕kgz}{a1 a2 a3 a4 a5:Int}(e:ki7 a1 a2 a3 a4 a5=some o)(good:GoodS (kow r) r o):kow r (.fn a1 a2 a3 a4 a5):=by
 intro h;rw[kbcv];unfold ki7 at e;refine Runs.new fun H6 b6 g6=>?_;refine Runs.new fun H7 b7 g7=>?_;refine Runs.new fun H8 b8 g8=>?_;refine Runs.new fun H9 b9 g9=>?_;refine Runs.step (AH.has.rd ((g8.trans g9).has b7) 0 rfl (ke _ _)) ?_;refine Runs.step (AH.has.rd ((g8.trans g9).has b7) 1 rfl (ke _ _)) ?_;refine Runs.step (AH.has.rd (g9.has b8) 0 rfl (ke _ _)) ?_;refine Runs.step (AH.has.rd (g9.has b8) 1 rfl (ke _ _)) ?_;obtain⟨_,H10,e10,rfl,g10⟩:=kbcu a2 a3 a4 a5;refine Runs.step e10 ?_;refine Runs.step rfl ?_;refine Runs.step rfl ?_;refine Runs.ifT rfl ?_;refine Runs.step (seenAt rfl (ke _ _)) ?_;refine Runs.step (seenAt rfl (ke _ _)) ?_;refine Runs.step (seen rfl) ?_;refine Runs.new fun H11 b11 g11=>?_;refine Runs.puts b11 rfl fun H12 b12 u12=>?_;refine Runs.cond (fun k13=>?_) (fun k13=>?_)
 ·replace e:=(condT k13).symm.trans e;have G15:=((g10.trans g11).updr (Nat.le_trans (g10).size (Nat.le_refl _)) u12);have b9_16:=G15.has b9;refine Runs.puts b9_16 rfl fun H14 b14 u14=>?_;have b12_14:=AH.has.updr b12 (Nat.ne_of_gt (Nat.lt_of_lt_of_le (g10.has b9).lt (Nat.le_refl _))) u14;refine Runs.step (AH.has.rd b14 0 rfl rfl) ?_;refine Runs.step (AH.has.rd b14 1 rfl (asSl_v _)) ?_;refine Runs.step (AH.has.rd b14 2 rfl (asSl_v _)) ?_;cases e;cases good;have G17:=((((g6.trans g7).trans g8).trans g9).trans g10);have G18:=((g6.trans g7).trans g8);have G19:=(((((((g6.trans g7).trans g8).trans g9).trans g10).trans g11).updr (Nat.le_trans (G17).size (Nat.le_refl _)) u12).updr (Nat.le_trans (G18).size (Nat.le_refl _)) u14);exact Runs.ret ⟨(⟨none,0,.is 0⟩:Sl),(⟨none,0,.is 0⟩:Sl),rfl,(Nats.nil _),(Nats.nil _),G19,(Own.nil _),(Own.nil _)⟩
 ·replace e:=(condF k13).symm.trans e;have G14:=(((g7.trans g8).trans g9).trans g10);have G15:=(((((g7.trans g8).trans g9).trans g10).trans g11).updr (Nat.le_trans (G14).size (Nat.le_refl _)) u12);have b6_16:=G15.has b6;refine Runs.step (AH.has.rd0 b6_16 rfl (ke _ _)) ?_;obtain⟨_,H17,e17,rfl,g17⟩:=kqb a1;refine Runs.step e17 ?_;refine Runs.step (seen rfl) ?_;refine Runs.cond (fun k18=>?_) (fun k18=>?_)
  ·replace e:=(condT k18).symm.trans e;have G20:=(((g10.trans g11).updr (Nat.le_trans (g10).size (Nat.le_refl _)) u12).trans g17);have b9_21:=G20.has b9;refine Runs.puts b9_21 rfl fun H19 b19 u19=>?_;have b6_19:=AH.has.updr (g17.has b6_16) (Nat.ne_of_lt (Nat.lt_of_lt_of_le ((g7.trans g8).has b6).lt (Nat.le_refl _))) u19;have b12_19:=AH.has.updr (g17.has b12) (Nat.ne_of_gt (Nat.lt_of_lt_of_le (g10.has b9).lt (Nat.le_refl _))) u19;refine Runs.step (AH.has.rd b19 0 rfl rfl) ?_;refine Runs.step (AH.has.rd b19 1 rfl (asSl_v _)) ?_;refine Runs.step (AH.has.rd b19 2 rfl (asSl_v _)) ?_;cases e;cases good;have G22:=((((g6.trans g7).trans g8).trans g9).trans g10);have G23:=((g6.trans g7).trans g8);have G24:=((((((((g6.trans g7).trans g8).trans g9).trans g10).trans g11).updr (Nat.le_trans (G22).size (Nat.le_refl _)) u12).trans g17).updr (Nat.le_trans (G23).size (Nat.le_refl _)) u19);exact Runs.ret ⟨(⟨none,0,.is 0⟩:Sl),(⟨none,0,.is 0⟩:Sl),rfl,(Nats.nil _),(Nats.nil _),G24,(Own.nil _),(Own.nil _)⟩
  ·replace e:=(condF k18).symm.trans e;refine Runs.new fun H19 b19 g19=>?_;have G20:=((g8.trans g9).trans g10);have G21:=((((((g8.trans g9).trans g10).trans g11).updr (Nat.le_trans (G20).size (Nat.le_refl _)) u12).trans g17).trans g19);have b7_22:=G21.has b7;refine Runs.step (AH.has.rd b7_22 0 rfl (ke _ _)) ?_;refine Runs.step (AH.has.rd b7_22 1 rfl (ke _ _)) ?_;refine Runs.step (AH.has.rd ((g17.trans g19).has b12) 0 rfl (ke _ _)) ?_;refine Runs.step (AH.has.rd ((g17.trans g19).has b12) 1 rfl (ke _ _)) ?_;rw[kn9];refine Runs.newB fun H23 b23 g23=>?_;refine Runs.newB fun H24 b24 g24=>?_;have G25:=(((g17.trans g19).trans g23).trans g24);have b6_26:=G25.has b6_16;refine Runs.stepB (AH.has.rd0 b6_26 rfl (ke _ _)) ?_;refine Runs.stepB (AH.has.rd (g24.has b23) 0 rfl (ke _ _)) ?_;refine Runs.stepB (AH.has.rd (g24.has b23) 1 rfl (ke _ _)) ?_;obtain⟨_,H27,e27,s27,s27b,rfl,n27,n27b,g27,o27,o27b⟩:=kqd a1 a2 a3;refine Runs.stepB e27 ?_;refine Runs.stepB rfl ?_;refine Runs.stepB rfl ?_;refine Runs.ifTB rfl ?_;refine Runs.stepB (seenAt rfl rfl) ?_;refine Runs.stepB (seenAt rfl (asSl_v _)) ?_;refine Runs.stepB (seenAt rfl (asSl_v _)) ?_;refine Runs.stepB (seen (ke _ _)) ?_;refine Runs.newB fun H28 b28 g28=>?_;refine Runs.putsB b28 rfl fun H29 b29 u29=>?_;refine Runs.stepB (AH.has.rd b29 0 rfl rfl) ?_;refine Runs.stepB (AH.has.rd b29 1 rfl (asSl_v _)) ?_;refine Runs.stepB (AH.has.rd b29 2 rfl (asSl_v _)) ?_;have G31:=((g27.trans g28).updr (Nat.le_trans (g27).size (Nat.le_refl _)) u29);have b24_32:=G31.has b24;refine Runs.putsB b24_32 rfl fun H30 b30 u30=>?_;have n27_30:=(n27.grow (g28.updr (Nat.le_refl _) u29)).upda (Av.of_own o27 (b24).lt) u30;have n27b_30:=(n27b.grow (g28.updr (Nat.le_refl _) u29)).upda (Av.of_own o27b (b24).lt) u30;have b6_33:=G31.has b6_26;have G34:=((g17.trans g19).trans g23);have b6_30:=AH.has.updr b6_33 (Nat.ne_of_lt (Nat.lt_of_lt_of_le (G34.has b6_16).lt (Nat.le_refl _))) u30;have b29_30:=AH.has.updr b29 (Nat.ne_of_gt (Nat.lt_of_lt_of_le (g27.has b24).lt (Nat.le_refl _))) u30;refine Runs.stepB (AH.has.rd b30 0 rfl rfl) ?_;refine Runs.stepB (AH.has.rd b30 1 rfl (asSl_v _)) ?_;refine Runs.stepB (AH.has.rd b30 2 rfl (asSl_v _)) ?_;refine Runs.retB ?_;refine Runs.step rfl ?_;refine Runs.ifT rfl ?_;refine Runs.step (seenAt rfl rfl) ?_;refine Runs.step (seenAt rfl (asSl_v _)) ?_;refine Runs.step (seenAt rfl (asSl_v _)) ?_;have G35:=((g23.trans g24).trans g27);have G36:=(((((g23.trans g24).trans g27).trans g28).updr (Nat.le_trans (G35).size (Nat.le_refl _)) u29).updr (Nat.le_trans (g23).size (Nat.le_refl _)) u30);refine Runs.when (G36.same ((g17.trans g19).has b12) 0 2) ?_;refine Runs.when (G36.same b19 0 0) ?_;rw[kn9];refine Runs.newB fun H37 b37 g37=>?_;refine Runs.newB fun H38 b38 g38=>?_;refine Runs.stepB (AH.has.rd0 ((g37.trans g38).has b6_30) rfl (ke _ _)) ?_;refine Runs.stepB (AH.has.rd (g38.has b37) 0 rfl (ke _ _)) ?_;refine Runs.stepB (AH.has.rd (g38.has b37) 1 rfl (ke _ _)) ?_;obtain⟨_,H39,e39,s39,s39b,rfl,n39,n39b,g39,o39,o39b⟩:=kqd a1 (((((kbi a2 a3 a4 a5).1)))) (((((kbi a2 a3 a4 a5).2.1))));refine Runs.stepB e39 ?_;refine Runs.stepB rfl ?_;refine Runs.stepB rfl ?_;refine Runs.ifTB rfl ?_;refine Runs.stepB (seenAt rfl rfl) ?_;refine Runs.stepB (seenAt rfl (asSl_v _)) ?_;refine Runs.stepB (seenAt rfl (asSl_v _)) ?_;refine Runs.stepB (seen (ke _ _)) ?_;refine Runs.newB fun H40 b40 g40=>?_;refine Runs.putsB b40 rfl fun H41 b41 u41=>?_;refine Runs.stepB (AH.has.rd b41 0 rfl rfl) ?_;refine Runs.stepB (AH.has.rd b41 1 rfl (asSl_v _)) ?_;refine Runs.stepB (AH.has.rd b41 2 rfl (asSl_v _)) ?_;have G43:=((g39.trans g40).updr (Nat.le_trans (g39).size (Nat.le_refl _)) u41);have b38_44:=G43.has b38;refine Runs.putsB b38_44 rfl fun H42 b42 u42=>?_;have n39_42:=(n39.grow (g40.updr (Nat.le_refl _) u41)).upda (Av.of_own o39 (b38).lt) u42;have n39b_42:=(n39b.grow (g40.updr (Nat.le_refl _) u41)).upda (Av.of_own o39b (b38).lt) u42;have b41_42:=AH.has.updr b41 (Nat.ne_of_gt (Nat.lt_of_lt_of_le (g39.has b38).lt (Nat.le_refl _))) u42;refine Runs.stepB (AH.has.rd b42 0 rfl rfl) ?_;refine Runs.stepB (AH.has.rd b42 1 rfl (asSl_v _)) ?_;refine Runs.stepB (AH.has.rd b42 2 rfl (asSl_v _)) ?_;refine Runs.retB ?_;refine Runs.step rfl ?_;refine Runs.ifT rfl ?_;refine Runs.step (seenAt rfl rfl) ?_;refine Runs.step (seenAt rfl (asSl_v _)) ?_;refine Runs.step (seenAt rfl (asSl_v _)) ?_;have b19_45:=G36.has b19;have G46:=((g37.trans g38).trans g39);have G47:=(((((g37.trans g38).trans g39).trans g40).updr (Nat.le_trans (G46).size (Nat.le_refl _)) u41).updr (Nat.le_trans (g37).size (Nat.le_refl _)) u42);refine Runs.when (G47.same b19_45 0 0) ?_;have n27_48:=n27_30.grow G47;have n27b_49:=n27b_30.grow G47;obtain⟨p50,q50,e⟩:=Option.bind_eq_some_iff.1 e;obtain⟨_,H50,e50,s50,s50b,rfl,n50,n50b,g50,o50,o50b⟩:=kz7 n27_48 n27b_49 n39_42 n39b_42 (Option.some.inj q50);refine Runs.step e50 ?_;refine Runs.step rfl ?_;refine Runs.step rfl ?_;refine Runs.ifT rfl ?_;refine Runs.step (seenAt rfl rfl) ?_;refine Runs.step (seenAt rfl (asSl_v _)) ?_;refine Runs.step (seenAt rfl (asSl_v _)) ?_;refine Runs.step (seen (ke _ _)) ?_;have b19_51:=G47.has b19_45;refine Runs.when (g50.same b19_51 0 0) ?_;refine Runs.puts (g50.has b19_51) rfl fun H52 b52 u52=>?_;have n27_52:=(n27_48.grow g50).upda (Av.of_own o27 ((g23.trans g24).has b19).lt) u52;have n27b_52:=(n27b_49.grow g50).upda (Av.of_own o27b ((g23.trans g24).has b19).lt) u52;have n39_52:=(n39_42.grow g50).upda (Av.of_own o39 ((g37.trans g38).has b19_45).lt) u52;have n39b_52:=(n39b_42.grow g50).upda (Av.of_own o39b ((g37.trans g38).has b19_45).lt) u52;have n50_52:=n50.upda (Av.of_own o50 (b19_51).lt) u52;have n50b_52:=n50b.upda (Av.of_own o50b (b19_51).lt) u52;have G53:=(G47.trans g50);have b6_54:=G53.has b6_30;have b6_52:=AH.has.updr b6_54 (Nat.ne_of_lt (Nat.lt_of_lt_of_le (g17.has b6_16).lt (Nat.le_refl _))) u52;have G55:=(((G36.trans g37).trans g38).trans g39);have G56:=(G36.trans g37);have G57:=(((((((G36.trans g37).trans g38).trans g39).trans g40).updr (Nat.le_trans (G55).size (Nat.le_refl _)) u41).updr (Nat.le_trans (G56).size (Nat.le_refl _)) u42).trans g50);have b7_58:=G57.has b7_22;have G59:=(((G20.trans g11).updr (Nat.le_trans (G20).size (Nat.le_refl _)) u12).trans g17);have b7_52:=AH.has.updr b7_58 (Nat.ne_of_lt (Nat.lt_of_lt_of_le (G59.has b7).lt (Nat.le_refl _))) u52;have G60:=(((((((g24.trans g27).trans g28).updr (Nat.le_trans ((g24.trans g27)).size (Nat.le_refl _)) u29).updr (Nat.le_refl _) u30).trans g37).trans g38).trans g39);have G61:=(((((g24.trans g27).trans g28).updr (Nat.le_trans ((g24.trans g27)).size (Nat.le_refl _)) u29).updr (Nat.le_refl _) u30).trans g37);have G62:=(((((((((((g24.trans g27).trans g28).updr (Nat.le_trans ((g24.trans g27)).size (Nat.le_refl _)) u29).updr (Nat.le_refl _) u30).trans g37).trans g38).trans g39).trans g40).updr (Nat.le_trans (G60).size (Nat.le_refl _)) u41).updr (Nat.le_trans (G61).size (Nat.le_refl _)) u42).trans g50);have b23_63:=G62.has b23;have b23_52:=AH.has.updr b23_63 (Nat.ne_of_gt (Nat.lt_of_lt_of_le (b19).lt (Nat.le_refl _))) u52;have b30_64:=G53.has b30;have b30_52:=AH.has.updr b30_64 (Nat.ne_of_gt (Nat.lt_of_lt_of_le (g23.has b19).lt (Nat.le_refl _))) u52;have b29_65:=G53.has b29_30;have b29_52:=AH.has.updr b29_65 (Nat.ne_of_gt (Nat.lt_of_lt_of_le (G35.has b19).lt (Nat.le_refl _))) u52;have G66:=(((((g38.trans g39).trans g40).updr (Nat.le_trans ((g38.trans g39)).size (Nat.le_refl _)) u41).updr (Nat.le_refl _) u42).trans g50);have b37_67:=G66.has b37;have b37_52:=AH.has.updr b37_67 (Nat.ne_of_gt (Nat.lt_of_lt_of_le (b19_45).lt (Nat.le_refl _))) u52;have b42_52:=AH.has.updr (g50.has b42) (Nat.ne_of_gt (Nat.lt_of_lt_of_le (g37.has b19_45).lt (Nat.le_refl _))) u52;have b41_52:=AH.has.updr (g50.has b41_42) (Nat.ne_of_gt (Nat.lt_of_lt_of_le (G46.has b19_45).lt (Nat.le_refl _))) u52;refine Runs.step (AH.has.rd b52 0 rfl rfl) ?_;refine Runs.step (AH.has.rd b52 1 rfl (asSl_v _)) ?_;refine Runs.step (AH.has.rd b52 2 rfl (asSl_v _)) ?_;have G68:=((((((((g9.trans g10).trans g11).updr (Nat.le_trans ((g9.trans g10)).size (Nat.le_refl _)) u12).trans g17).trans g19).trans g23).trans g24).trans g27);have G69:=((((((g9.trans g10).trans g11).updr (Nat.le_trans ((g9.trans g10)).size (Nat.le_refl _)) u12).trans g17).trans g19).trans g23);have G70:=((((((G68.trans g28).updr (Nat.le_trans (G68).size (Nat.le_refl _)) u29).updr (Nat.le_trans (G69).size (Nat.le_refl _)) u30).trans g37).trans g38).trans g39);have G71:=((((G68.trans g28).updr (Nat.le_trans (G68).size (Nat.le_refl _)) u29).updr (Nat.le_trans (G69).size (Nat.le_refl _)) u30).trans g37);have G72:=((((g9.trans g10).trans g11).updr (Nat.le_trans ((g9.trans g10)).size (Nat.le_refl _)) u12).trans g17);have G73:=(((((((((((((((((((g9.trans g10).trans g11).updr (Nat.le_trans ((g9.trans g10)).size (Nat.le_refl _)) u12).trans g17).trans g19).trans g23).trans g24).trans g27).trans g28).updr (Nat.le_trans (G68).size (Nat.le_refl _)) u29).updr (Nat.le_trans (G69).size (Nat.le_refl _)) u30).trans g37).trans g38).trans g39).trans g40).updr (Nat.le_trans (G70).size (Nat.le_refl _)) u41).updr (Nat.le_trans (G71).size (Nat.le_refl _)) u42).trans g50).updr (Nat.le_trans (G72).size (Nat.le_refl _)) u52);have b8_74:=G73.has b8;refine Runs.step (AH.has.rd b8_74 0 rfl (ke _ _)) ?_;refine Runs.step (AH.has.rd b8_74 1 rfl (ke _ _)) ?_;rw[kn9];refine Runs.newB fun H75 b75 g75=>?_;refine Runs.newB fun H76 b76 g76=>?_;refine Runs.stepB (AH.has.rd0 ((g75.trans g76).has b6_52) rfl (ke _ _)) ?_;refine Runs.stepB (AH.has.rd (g76.has b75) 0 rfl (ke _ _)) ?_;refine Runs.stepB (AH.has.rd (g76.has b75) 1 rfl (ke _ _)) ?_;obtain⟨_,H77,e77,s77,s77b,rfl,n77,n77b,g77,o77,o77b⟩:=kqd a1 a4 a5;refine Runs.stepB e77 ?_;refine Runs.stepB rfl ?_;refine Runs.stepB rfl ?_;refine Runs.ifTB rfl ?_;refine Runs.stepB (seenAt rfl rfl) ?_;refine Runs.stepB (seenAt rfl (asSl_v _)) ?_;refine Runs.stepB (seenAt rfl (asSl_v _)) ?_;refine Runs.stepB (seen (ke _ _)) ?_;refine Runs.newB fun H78 b78 g78=>?_;refine Runs.putsB b78 rfl fun H79 b79 u79=>?_;refine Runs.stepB (AH.has.rd b79 0 rfl rfl) ?_;refine Runs.stepB (AH.has.rd b79 1 rfl (asSl_v _)) ?_;refine Runs.stepB (AH.has.rd b79 2 rfl (asSl_v _)) ?_;have G81:=((g77.trans g78).updr (Nat.le_trans (g77).size (Nat.le_refl _)) u79);have b76_82:=G81.has b76;refine Runs.putsB b76_82 rfl fun H80 b80 u80=>?_;have n77_80:=(n77.grow (g78.updr (Nat.le_refl _) u79)).upda (Av.of_own o77 (b76).lt) u80;have n77b_80:=(n77b.grow (g78.updr (Nat.le_refl _) u79)).upda (Av.of_own o77b (b76).lt) u80;have b79_80:=AH.has.updr b79 (Nat.ne_of_gt (Nat.lt_of_lt_of_le (g77.has b76).lt (Nat.le_refl _))) u80;refine Runs.stepB (AH.has.rd b80 0 rfl rfl) ?_;refine Runs.stepB (AH.has.rd b80 1 rfl (asSl_v _)) ?_;refine Runs.stepB (AH.has.rd b80 2 rfl (asSl_v _)) ?_;refine Runs.retB ?_;refine Runs.step rfl ?_;refine Runs.ifT rfl ?_;refine Runs.step (seenAt rfl rfl) ?_;refine Runs.step (seenAt rfl (asSl_v _)) ?_;refine Runs.step (seenAt rfl (asSl_v _)) ?_;have G83:=((g75.trans g76).trans g77);have G84:=(((((g75.trans g76).trans g77).trans g78).updr (Nat.le_trans (G83).size (Nat.le_refl _)) u79).updr (Nat.le_trans (g75).size (Nat.le_refl _)) u80);refine Runs.when (G84.same b52 0 3) ?_;have n50_85:=n50_52.grow G84;have n50b_86:=n50b_52.grow G84;obtain⟨p87,q87,e⟩:=Option.bind_eq_some_iff.1 e;obtain⟨_,H87,e87,s87,s87b,rfl,n87,n87b,g87,o87,o87b⟩:=k8c n50_85 n50b_86 n77_80 n77b_80 (Option.some.inj q87);refine Runs.step e87 ?_;refine Runs.step rfl ?_;refine Runs.step rfl ?_;refine Runs.ifT rfl ?_;refine Runs.step (seenAt rfl rfl) ?_;refine Runs.step (seenAt rfl (asSl_v _)) ?_;refine Runs.step (seenAt rfl (asSl_v _)) ?_;refine Runs.step (seen (ke _ _)) ?_;have G89:=(((((((g10.trans g11).updr (Nat.le_trans (g10).size (Nat.le_refl _)) u12).trans g17).trans g19).trans g23).trans g24).trans g27);have G90:=(((((g10.trans g11).updr (Nat.le_trans (g10).size (Nat.le_refl _)) u12).trans g17).trans g19).trans g23);have G91:=((((((G89.trans g28).updr (Nat.le_trans (G89).size (Nat.le_refl _)) u29).updr (Nat.le_trans (G90).size (Nat.le_refl _)) u30).trans g37).trans g38).trans g39);have G92:=((((G89.trans g28).updr (Nat.le_trans (G89).size (Nat.le_refl _)) u29).updr (Nat.le_trans (G90).size (Nat.le_refl _)) u30).trans g37);have G93:=(((g10.trans g11).updr (Nat.le_trans (g10).size (Nat.le_refl _)) u12).trans g17);have G94:=((((((((G91.trans g40).updr (Nat.le_trans (G91).size (Nat.le_refl _)) u41).updr (Nat.le_trans (G92).size (Nat.le_refl _)) u42).trans g50).updr (Nat.le_trans (G93).size (Nat.le_refl _)) u52).trans g75).trans g76).trans g77);have G95:=((((((G91.trans g40).updr (Nat.le_trans (G91).size (Nat.le_refl _)) u41).updr (Nat.le_trans (G92).size (Nat.le_refl _)) u42).trans g50).updr (Nat.le_trans (G93).size (Nat.le_refl _)) u52).trans g75);have G96:=(((((((((((((((((((((((((g10.trans g11).updr (Nat.le_trans (g10).size (Nat.le_refl _)) u12).trans g17).trans g19).trans g23).trans g24).trans g27).trans g28).updr (Nat.le_trans (G89).size (Nat.le_refl _)) u29).updr (Nat.le_trans (G90).size (Nat.le_refl _)) u30).trans g37).trans g38).trans g39).trans g40).updr (Nat.le_trans (G91).size (Nat.le_refl _)) u41).updr (Nat.le_trans (G92).size (Nat.le_refl _)) u42).trans g50).updr (Nat.le_trans (G93).size (Nat.le_refl _)) u52).trans g75).trans g76).trans g77).trans g78).updr (Nat.le_trans (G94).size (Nat.le_refl _)) u79).updr (Nat.le_trans (G95).size (Nat.le_refl _)) u80).trans g87);have b9_97:=G96.has b9;refine Runs.puts b9_97 rfl fun H88 b88 u88=>?_;have G98:=(G90.trans g24);have G99:=(G84.trans g87);have n27_100:=n27_52.grow G99;have n27_88:=n27_100.upda (Av.of_own o27 (G98.has b9).lt) u88;have n27b_101:=n27b_52.grow G99;have n27b_88:=n27b_101.upda (Av.of_own o27b (G98.has b9).lt) u88;have G102:=(G92.trans g38);have n39_103:=n39_52.grow G99;have n39_88:=n39_103.upda (Av.of_own o39 (G102.has b9).lt) u88;have n39b_104:=n39b_52.grow G99;have n39b_88:=n39b_104.upda (Av.of_own o39b (G102.has b9).lt) u88;have G105:=(((G91.trans g40).updr (Nat.le_trans (G91).size (Nat.le_refl _)) u41).updr (Nat.le_trans (G92).size (Nat.le_refl _)) u42);have n50_88:=(n50_85.grow g87).upda (Av.of_own o50 (G105.has b9).lt) u88;have n50b_88:=(n50b_86.grow g87).upda (Av.of_own o50b (G105.has b9).lt) u88;have G106:=(G95.trans g76);have n77_88:=(n77_80.grow g87).upda (Av.of_own o77 (G106.has b9).lt) u88;have n77b_88:=(n77b_80.grow g87).upda (Av.of_own o77b (G106.has b9).lt) u88;have G107:=(((G94.trans g78).updr (Nat.le_trans (G94).size (Nat.le_refl _)) u79).updr (Nat.le_trans (G95).size (Nat.le_refl _)) u80);have n87_88:=n87.upda (Av.of_own o87 (G107.has b9).lt) u88;have n87b_88:=n87b.upda (Av.of_own o87b (G107.has b9).lt) u88;have b6_108:=G99.has b6_52;have b6_88:=AH.has.updr b6_108 (Nat.ne_of_lt (Nat.lt_of_lt_of_le ((g7.trans g8).has b6).lt (Nat.le_refl _))) u88;have b7_109:=G99.has b7_52;have b7_88:=AH.has.updr b7_109 (Nat.ne_of_lt (Nat.lt_of_lt_of_le (g8.has b7).lt (Nat.le_refl _))) u88;have b8_110:=G99.has b8_74;have b8_88:=AH.has.updr b8_110 (Nat.ne_of_lt (Nat.lt_of_lt_of_le (b8).lt (Nat.le_refl _))) u88;have G111:=(G25.trans g27);have G112:=((((((G111.trans g28).updr (Nat.le_trans (G111).size (Nat.le_refl _)) u29).updr (Nat.le_trans (G34).size (Nat.le_refl _)) u30).trans g37).trans g38).trans g39);have G113:=((((G111.trans g28).updr (Nat.le_trans (G111).size (Nat.le_refl _)) u29).updr (Nat.le_trans (G34).size (Nat.le_refl _)) u30).trans g37);have G114:=((((((((G112.trans g40).updr (Nat.le_trans (G112).size (Nat.le_refl _)) u41).updr (Nat.le_trans (G113).size (Nat.le_refl _)) u42).trans g50).updr (Nat.le_trans (g17).size (Nat.le_refl _)) u52).trans g75).trans g76).trans g77);have G115:=((((((G112.trans g40).updr (Nat.le_trans (G112).size (Nat.le_refl _)) u41).updr (Nat.le_trans (G113).size (Nat.le_refl _)) u42).trans g50).updr (Nat.le_trans (g17).size (Nat.le_refl _)) u52).trans g75);have G116:=(((((((((((((((((((G25.trans g27).trans g28).updr (Nat.le_trans (G111).size (Nat.le_refl _)) u29).updr (Nat.le_trans (G34).size (Nat.le_refl _)) u30).trans g37).trans g38).trans g39).trans g40).updr (Nat.le_trans (G112).size (Nat.le_refl _)) u41).updr (Nat.le_trans (G113).size (Nat.le_refl _)) u42).trans g50).updr (Nat.le_trans (g17).size (Nat.le_refl _)) u52).trans g75).trans g76).trans g77).trans g78).updr (Nat.le_trans (G114).size (Nat.le_refl _)) u79).updr (Nat.le_trans (G115).size (Nat.le_refl _)) u80).trans g87);have b12_117:=G116.has b12;have b12_88:=AH.has.updr b12_117 (Nat.ne_of_gt (Nat.lt_of_lt_of_le (g10.has b9).lt (Nat.le_refl _))) u88;have b52_118:=G99.has b52;have b52_88:=AH.has.updr b52_118 (Nat.ne_of_gt (Nat.lt_of_lt_of_le (G93.has b9).lt (Nat.le_refl _))) u88;have b23_119:=G99.has b23_52;have G120:=(G93.trans g19);have b23_88:=AH.has.updr b23_119 (Nat.ne_of_gt (Nat.lt_of_lt_of_le (G120.has b9).lt (Nat.le_refl _))) u88;have b30_121:=G99.has b30_52;have b30_88:=AH.has.updr b30_121 (Nat.ne_of_gt (Nat.lt_of_lt_of_le (G90.has b9).lt (Nat.le_refl _))) u88;have b29_122:=G99.has b29_52;have b29_88:=AH.has.updr b29_122 (Nat.ne_of_gt (Nat.lt_of_lt_of_le (G89.has b9).lt (Nat.le_refl _))) u88;have b37_123:=G99.has b37_52;have G124:=(((G89.trans g28).updr (Nat.le_trans (G89).size (Nat.le_refl _)) u29).updr (Nat.le_trans (G90).size (Nat.le_refl _)) u30);have b37_88:=AH.has.updr b37_123 (Nat.ne_of_gt (Nat.lt_of_lt_of_le (G124.has b9).lt (Nat.le_refl _))) u88;have b42_125:=G99.has b42_52;have b42_88:=AH.has.updr b42_125 (Nat.ne_of_gt (Nat.lt_of_lt_of_le (G92.has b9).lt (Nat.le_refl _))) u88;have b41_126:=G99.has b41_52;have b41_88:=AH.has.updr b41_126 (Nat.ne_of_gt (Nat.lt_of_lt_of_le (G91.has b9).lt (Nat.le_refl _))) u88;have G127:=(((((g76.trans g77).trans g78).updr (Nat.le_trans ((g76.trans g77)).size (Nat.le_refl _)) u79).updr (Nat.le_refl _) u80).trans g87);have b75_128:=G127.has b75;have G129:=((G105.trans g50).updr (Nat.le_trans (G93).size (Nat.le_refl _)) u52);have b75_88:=AH.has.updr b75_128 (Nat.ne_of_gt (Nat.lt_of_lt_of_le (G129.has b9).lt (Nat.le_refl _))) u88;have b80_88:=AH.has.updr (g87.has b80) (Nat.ne_of_gt (Nat.lt_of_lt_of_le (G95.has b9).lt (Nat.le_refl _))) u88;have b79_88:=AH.has.updr (g87.has b79_80) (Nat.ne_of_gt (Nat.lt_of_lt_of_le (G94.has b9).lt (Nat.le_refl _))) u88;refine Runs.step (AH.has.rd b88 0 rfl rfl) ?_;refine Runs.step (AH.has.rd b88 1 rfl (asSl_v _)) ?_;refine Runs.step (AH.has.rd b88 2 rfl (asSl_v _)) ?_;cases e;cases good;have G130:=((((g6.trans g7).trans g8).trans g9).trans g10);have G131:=(((((((G130.trans g11).updr (Nat.le_trans (G130).size (Nat.le_refl _)) u12).trans g17).trans g19).trans g23).trans g24).trans g27);have G132:=(((((G130.trans g11).updr (Nat.le_trans (G130).size (Nat.le_refl _)) u12).trans g17).trans g19).trans g23);have G133:=((((((G131.trans g28).updr (Nat.le_trans (G131).size (Nat.le_refl _)) u29).updr (Nat.le_trans (G132).size (Nat.le_refl _)) u30).trans g37).trans g38).trans g39);have G134:=((((G131.trans g28).updr (Nat.le_trans (G131).size (Nat.le_refl _)) u29).updr (Nat.le_trans (G132).size (Nat.le_refl _)) u30).trans g37);have G135:=(((G130.trans g11).updr (Nat.le_trans (G130).size (Nat.le_refl _)) u12).trans g17);have G136:=((((((((G133.trans g40).updr (Nat.le_trans (G133).size (Nat.le_refl _)) u41).updr (Nat.le_trans (G134).size (Nat.le_refl _)) u42).trans g50).updr (Nat.le_trans (G135).size (Nat.le_refl _)) u52).trans g75).trans g76).trans g77);have G137:=((((((G133.trans g40).updr (Nat.le_trans (G133).size (Nat.le_refl _)) u41).updr (Nat.le_trans (G134).size (Nat.le_refl _)) u42).trans g50).updr (Nat.le_trans (G135).size (Nat.le_refl _)) u52).trans g75);have G138:=((((((((((((((((((((((((((((g6.trans g7).trans g8).trans g9).trans g10).trans g11).updr (Nat.le_trans (G130).size (Nat.le_refl _)) u12).trans g17).trans g19).trans g23).trans g24).trans g27).trans g28).updr (Nat.le_trans (G131).size (Nat.le_refl _)) u29).updr (Nat.le_trans (G132).size (Nat.le_refl _)) u30).trans g37).trans g38).trans g39).trans g40).updr (Nat.le_trans (G133).size (Nat.le_refl _)) u41).updr (Nat.le_trans (G134).size (Nat.le_refl _)) u42).trans g50).updr (Nat.le_trans (G135).size (Nat.le_refl _)) u52).trans g75).trans g76).trans g77).trans g78).updr (Nat.le_trans (G136).size (Nat.le_refl _)) u79).updr (Nat.le_trans (G137).size (Nat.le_refl _)) u80);have G139:=((g6.trans g7).trans g8);have G140:=((G138.trans g87).updr (Nat.le_trans (G139).size (Nat.le_refl _)) u88);exact Runs.ret ⟨s87,s87b,rfl,n87_88,n87b_88,G140,(o87.of_le G138),(o87b.of_le G138)⟩
theorem ky2{s:khl}{r:kgz}(it:Iter kr6 s r):kow r s:=Iter.ind (fun s o e good=>by
 cases s with
 | fn a1 a2 a3 a4 a5=>exact @kbc8 _ _ a1 a2 a3 a4 a5 e good
 | no=>exact True.intro
 ) it
abbrev Frc:=Bool×List Nat×List Nat×Int
theorem eta4(x:Frc):(x.1,x.2.1,x.2.2.1,x.2.2.2)=x:=rfl
def addQ(a b:Frc):Frc:=kdo a.1 a.2.1 a.2.2.1 b.1 b.2.1 b.2.2.1
def subQ(a b:Frc):Frc:=kdw a.1 a.2.1 a.2.2.1 b.1 b.2.1 b.2.2.1
def gainF(l g n G N:Int):Frc :=
 cond (!(kbi g n G N).2.2) (false,[],[],1) (cond (!kb1 l) (false,[],[],1) (subQ (addQ (scoreF l g n) (scoreF l (kbi g n G N).1 (kbi g n G N).2.1)) (scoreF l G N)))
theorem k6d(l g n G N:Int):Iter kr6 (.fn l g n G N) (gainF l g n G N):=.done (by
 show ki7 _ _ _ _ _=_;unfold ki7 gainF;cases(kbi g n G N).2.2 with
 | false=>rfl
 | true =>
  cases kb1 l with
  | false=>rfl
  | true =>
   simp only[Bool.not_true,cond_false];unfold subQ addQ;exact congrArg (fun r=>some (Sum.inr r)) (eta4 _))
theorem k7r{h:AH}(l g n G N:Int):Runs (go (.fn kl2 [.int .i64 l,.agg [.int .i64 g,.int .i64 n],.agg [.int .i64 G,.int .i64 N]]) h) (kxg h (gainF l g n G N)):=ky2 (k6d l g n G N)
theorem kpb{z:Int}{d:Nat}(hd:0<d)(hz:z.natAbs<B^16)(hd':d<B^16):∃(w:Int)(e:Nat),fracM z d=((intD w).1,(intD w).2,digs B e,0)∧IsFrac (fracM z d).1 (fracM z d).2.1 (fracM z d).2.2.1 w e∧w.natAbs≤z.natAbs∧e≤d:=by
 have h0:(fracM z d).2.2.2=0:=by
  unfold fracM;rw[if_pos ⟨Nat.lt_of_le_of_lt (Nat.div_le_self _ _) hz,Nat.lt_of_le_of_lt (Nat.div_le_self _ _) hd'⟩]
 obtain⟨w,e,e1,f,_,g,hg,e2,e3⟩:=k0x hd h0;refine⟨w,e,e1,f,?_,?_⟩
 ·rw[e2,Int.natAbs_mul,Int.natAbs_natCast];exact Nat.le_mul_of_pos_right _ hg
 ·rw[e3];exact Nat.le_mul_of_pos_left _ hg
theorem k57{g n G N:Int}(h:(kbi g n G N).2.2=true):kbe g n=true∧kbe G N=true∧kbe (G-g) (N-n)=true∧kbi g n G N=(G-g,N-n,true):=by
 unfold kbi at h⊢;cases h1:kbe g n with
 | false=>rw[h1]at h;cases h
 | true =>
  cases h2:kbe G N with
  | false=>rw[h1,h2]at h;cases h
  | true =>
   obtain⟨a1,a2,a3,a4⟩:=kk9.1 h1;obtain⟨b1,b2,b3,b4⟩:=kk9.1 h2;rw[h1,h2,wrap64 (by omega) (by omega),wrap64 (by omega) (by omega)]at h;have h:kbe (G-g) (N-n)=true:=h;rw[wrap64 (by omega) (by omega),wrap64 (by omega) (by omega),h];exact⟨rfl,rfl,rfl,rfl⟩
theorem kvw:1099511627776*1099511627776*2097152*8<B^16:=by decide +kernel
theorem kon{l g n:Int}(h1:kbe g n=true)(h2:kb1 l=true):∃(w:Int)(e:Nat),scoreF l g n=((intD w).1,(intD w).2,digs B e,0)∧IsFrac (scoreF l g n).1 (scoreF l g n).2.1 (scoreF l g n).2.2.1 w e∧w.natAbs≤1099511627776*1099511627776∧e≤2097152:=by
 obtain⟨a1,a2,a3,a4⟩:=kk9.1 h1;obtain⟨b1,b2⟩:=kvx.1 h2;have hs:=sq_lt a1 a2;have hb:=kvw;unfold scoreF;rw[if_pos ⟨h1,h2⟩];obtain⟨w,e,e1,f,l1,l2⟩:=kpb (z:=g*g) (d:=(n+l).toNat) (by omega) (by omega) (by omega);exact⟨w,e,e1,f,by omega,by omega⟩
theorem khm{a b c d:Nat}(h1:a≤c)(h2:b≤d):a*b≤c*d:=Nat.mul_le_mul h1 h2
theorem k4g{l g n g' n':Int}(h1:kbe g n=true)(h1':kbe g' n'=true)(h2:kb1 l=true):∃(w:Int)(e:Nat),addQ (scoreF l g n) (scoreF l g' n')=((intD w).1,(intD w).2,digs B e,0)∧IsFrac (addQ (scoreF l g n) (scoreF l g' n')).1 (addQ (scoreF l g n) (scoreF l g' n')).2.1 (addQ (scoreF l g n) (scoreF l g' n')).2.2.1 w e∧w.natAbs≤1099511627776*1099511627776*2097152*2∧e≤2097152*2097152:=by
 obtain⟨w,e,_,f,l1,l2⟩:=kon h1 h2;obtain⟨w',e',_,f',l1',l2'⟩:=kon h1' h2;have hb:=kvw;unfold addQ;rw[Add_of f f'];have p1:(w*(e':Int)).natAbs≤1099511627776*1099511627776*2097152:=by rw[Int.natAbs_mul,Int.natAbs_natCast];exact khm l1 l2'
 have p2:(w'*(e:Int)).natAbs≤1099511627776*1099511627776*2097152:=by rw[Int.natAbs_mul,Int.natAbs_natCast];exact khm l1' l2
 have p3:e*e'≤2097152*2097152:=khm l2 l2';have p4:0<e*e':=Nat.mul_pos f.pos f'.pos;obtain⟨x,c,e1,fx,m1,m2⟩:=kpb (z:=w*(e':Int)+w'*(e:Int)) (d:=e*e') p4 (by omega) (by omega);exact⟨x,c,e1,fx,by omega,by omega⟩
theorem k75:1099511627776*1099511627776*2097152*2*2097152+1099511627776*1099511627776*(2097152*2097152)<B^16:=by decide +kernel
theorem k8b{l g n G N:Int}(h1:(kbi g n G N).2.2=true)(h2:kb1 l=true):(gainF l g n G N).2.2.2=0:=by
 obtain⟨m1,m2,m3,e⟩:=k57 h1;unfold gainF;rw[h1,h2,e];obtain⟨w,c,_,f,l1,l2⟩:=k4g m1 m3 h2;obtain⟨w',c',_,f',l1',l2'⟩:=kon m2 h2;have hb:=k75;simp only[Bool.not_true,cond_false];unfold subQ;rw[Sub_of f f'];have p1:(w*(c':Int)).natAbs≤1099511627776*1099511627776*2097152*2*2097152:=by rw[Int.natAbs_mul,Int.natAbs_natCast];exact khm l1 l2'
 have p2:(w'*(c:Int)).natAbs≤1099511627776*1099511627776*(2097152*2097152):=by rw[Int.natAbs_mul,Int.natAbs_natCast];exact khm l1' l2
 have p3:c*c'≤2097152*2097152*2097152:=khm l2 l2';have p4:0<c*c':=Nat.mul_pos f.pos f'.pos;obtain⟨x,y,e1,fx,m1,m2⟩:=kpb (z:=w*(c':Int)-w'*(c:Int)) (d:=c*c') p4 (by omega) (by omega);rw[e1]
theorem k4w(l g n G N:Int):(gainF l g n G N).2.2.2=0∨(gainF l g n G N).2.2.2=1:=by
 cases h1:(kbi g n G N).2.2 with
 | false=>right;unfold gainF;rw[h1];rfl
 | true =>
  cases h2:kb1 l with
  | false=>right;unfold gainF;rw[h1,h2];rfl
  | true=>exact Or.inl (k8b h1 h2)
theorem kbdu{m:Nat}(h:m<18446744073709551616):smallN (digs B m)=(m,true):=by
 have hb:m<B^64:=by have:=kha;omega
 unfold smallN
 have hl:(digs B m).length≤1:=by
  rw[kbs B2,Nat.pow_one];exact h
 rw[if_pos ⟨kbk hb,hl⟩];by_cases h0:m=0
 ·subst h0;rw[kcz];rfl
 ·rw[kft B2 h0,Nat.mod_eq_of_lt h];rfl
theorem k5s{z:Int}(h1:-9223372036854775808≤z)(h2:z≤9223372036854775807):smallI (intD z).1 (intD z).2=(z,true):=by
 have hz:z.natAbs<18446744073709551616:=by omega
 have hb:z.natAbs<B^64:=by have:=kha;omega
 unfold smallI;have e:smallN (intD z).2=(z.natAbs,true):=kbdu hz;rw[e,kcm hb];have s:(intD z).1=decide (z<0):=rfl;rw[s];by_cases hn:z<0
 ·simp only[hn,decide_true,if_true,true_and];rw[if_pos (by omega)];congr 1;omega
 ·simp only[hn,decide_false,Bool.false_eq_true,if_false,true_and];rw[if_pos (by omega)];congr 1;omega
theorem kxq(n a b:Int){h:AH}:go (.fn kcu [.int .i64 n,.int .i64 a,.int .i64 b]) h=some (.bool (decide (a≤n∧n≤b)),h):=koh n a b h
theorem kbbw(a1 a2 a3 a4 a5 a6 a7 a8:Int){h:AH}:∃h',go (.fn kim [.agg [.int .i64 a1,.int .i64 a2,.int .i64 a3,.int .i64 a4,.int .i64 a5,.int .i64 a6,.int .i64 a7,.int .i64 a8]]) h=some (.bool (Cfg.right ⟨a1,a2,a3,a4,a5,a6,a7,a8⟩),h')∧Grow h h':=kpr ⟨a1,a2,a3,a4,a5,a6,a7,a8⟩ h
inductive kic
 | fn (a1:Int) (a2:Int)
 | no
abbrev kfs:=Bool×List Nat
noncomputable def kjr(a1 a2:Int):Option (kic⊕kfs) :=
 (need (-9223372036854775808≤(a1:Int)∧(a1:Int)≤9223372036854775807)).bind fun c4_0=>(need (-9223372036854775808≤(a2:Int)∧(a2:Int)≤9223372036854775807)).bind fun c5_0=>some (.inr (((((kbm ((ofI a1).1) ((ofI a1).2) ((ofI a2).1) ((ofI a2).2)).1))),(kbm ((ofI a1).1) ((ofI a1).2) ((ofI a2).1) ((ofI a2).2)).2.1))
noncomputable def kkn:kic→Option (kic⊕kfs)
 | .fn a1 a2=>kjr a1 a2
 | .no=>none
@[reducible] def kt1(h0:AH)(r:kfs)(v:AV)(h':AH):Prop:=∃s1:Sl,v=.agg [.bool r.1,s1.v]∧Nats h' s1 r.2∧Grow h0 h'∧Own h0 s1
def kq8(r:kfs):kic→Prop
 | .fn a1 a2=>∀{h:AH},Runs (go (.fn kjo [.int .i64 a1,.int .i64 a2]) h) (kt1 h r)
 | .no=>True
theorem kbdl{r:kfs}{o:kic⊕kfs}{a1 a2:Int}(e:kjr a1 a2=some o)(good:GoodS (kq8 r) r o):kq8 r (.fn a1 a2):=by
 intro h;rw[k99];unfold kjr at e;refine Runs.new fun H3 b3 g3=>?_;obtain⟨c4_0,q4_0,e⟩:=Option.bind_eq_some_iff.1 e;obtain⟨s4,H4,e4,n4,g4,o4⟩:=klf a1  c4_0.down;refine Runs.step e4 ?_;refine Runs.step rfl ?_;refine Runs.ifT rfl ?_;refine Runs.step (seenAt rfl rfl) ?_;refine Runs.step (seenAt rfl (asSl_v _)) ?_;obtain⟨c5_0,q5_0,e⟩:=Option.bind_eq_some_iff.1 e;obtain⟨s5,H5,e5,n5,g5,o5⟩:=klf a2  c5_0.down;refine Runs.step e5 ?_;refine Runs.step rfl ?_;refine Runs.ifT rfl ?_;refine Runs.step (seenAt rfl rfl) ?_;refine Runs.step (seenAt rfl (asSl_v _)) ?_;obtain⟨_,H6,e6,s6,rfl,n6,g6,o6⟩:=kqc (n4.grow g5) n5 ((ofI a1).1) ((ofI a2).1);refine Runs.step e6 ?_;refine Runs.step rfl ?_;refine Runs.step rfl ?_;refine Runs.ifT rfl ?_;refine Runs.step (seenAt rfl rfl) ?_;refine Runs.step (seenAt rfl (asSl_v _)) ?_;refine Runs.step (seen (ke _ _)) ?_;refine Runs.new fun H7 b7 g7=>?_;refine Runs.puts b7 rfl fun H8 b8 u8=>?_;refine Runs.step (AH.has.rd b8 0 rfl rfl) ?_;refine Runs.step (AH.has.rd b8 1 rfl (asSl_v _)) ?_;refine Runs.puts (((((g4.trans g5).trans g6).trans g7).updr (Nat.le_trans (((g4.trans g5).trans g6)).size (Nat.le_refl _)) u8).has b3) rfl fun H9 b9 u9=>?_;have n4_9:=(n4.grow (((g5.trans g6).trans g7).updr (Nat.le_trans ((g5.trans g6)).size (Nat.le_refl _)) u8)).upda (Av.of_own o4 (b3).lt) u9;have n5_9:=(n5.grow ((g6.trans g7).updr (Nat.le_trans (g6).size (Nat.le_refl _)) u8)).upda (Av.of_own o5 (g4.has b3).lt) u9;have n6_9:=(n6.grow (g7.updr (Nat.le_refl _) u8)).upda (Av.of_own o6 ((g4.trans g5).has b3).lt) u9;have b8_9:=AH.has.updr b8 (Nat.ne_of_gt (Nat.lt_of_lt_of_le (((g4.trans g5).trans g6).has b3).lt (Nat.le_refl _))) u9;refine Runs.step (AH.has.rd b9 0 rfl rfl) ?_;refine Runs.step (AH.has.rd b9 1 rfl (asSl_v _)) ?_;cases e;cases good;exact Runs.ret ⟨s6,rfl,n6_9,((((((g3.trans g4).trans g5).trans g6).trans g7).updr (Nat.le_trans ((((g3.trans g4).trans g5).trans g6)).size (Nat.le_refl _)) u8).updr (Nat.le_refl _) u9),(o6.of_le ((g3.trans g4).trans g5))⟩
theorem k4c{s:kic}{r:kfs}(it:Iter kkn s r):kq8 r s:=Iter.ind (fun s o e good=>by
 cases s with
 | fn a1 a2=>exact @kbdl _ _ a1 a2 e good
 | no=>exact True.intro
 ) it
theorem ksf{h:AH}  {a1 a2:Int}  {r:kfs}(q:runP kkn (.fn a1 a2)=some r):Runs (go (.fn kjo [.int .i64 a1,.int .i64 a2]) h) (kt1 h r):=k4c (kpi q)
inductive kif
 | fn (a1:Int) (a2:Int) (a3:Int) (a4:Int) (a5:Int) (a6:Int) (a7:Int) (a8:Int) (a9:Int) (a10:Int)
 | no
abbrev kg3:=Int×Int
noncomputable def kky(a1 a2 a3 a4 a5 a6 a7 a8 a9 a10:Int):Option (kif⊕kg3) :=
 cond (!((Cfg.right ⟨a1,a2,a3,a4,a5,a6,a7,a8⟩))) (some (.inr (0,1))) (cond (!((decide ((-1099511627776)≤a9∧a9≤1099511627776)))) (some (.inr (0,1))) (cond (!((decide (0≤a10∧a10≤1048576)))) (some (.inr (0,1))) ((runP kkn (.fn (IntKind.wrap .i64 (0-a9)) a5)).bind fun p21=>(runP kkn (.fn (IntKind.wrap .i64 (a10+a3)) a6)).bind fun p22=>some (.inr (((smallI (((floorI (p21.1) p21.2 (p22.1) p22.2).1)) ((floorI (p21.1) p21.2 (p22.1) p22.2).2.1)).1),((floorI (p21.1) p21.2 (p22.1) p22.2).2.2.2.2))))))
noncomputable def ktc:kif→Option (kif⊕kg3)
 | .fn a1 a2 a3 a4 a5 a6 a7 a8 a9 a10=>kky a1 a2 a3 a4 a5 a6 a7 a8 a9 a10
 | .no=>none
@[reducible] def kt7(h0:AH)(r:kg3)(v:AV)(h':AH):Prop:=v=.tup [.int .i64 r.1,.int .i64 r.2]∧Grow h0 h'
def kqa(r:kg3):kif→Prop
 | .fn a1 a2 a3 a4 a5 a6 a7 a8 a9 a10=>∀{h:AH},Runs (go (.fn kjp [.agg [.int .i64 a1,.int .i64 a2,.int .i64 a3,.int .i64 a4,.int .i64 a5,.int .i64 a6,.int .i64 a7,.int .i64 a8],.agg [.int .i64 a9,.int .i64 a10]]) h) (kt7 h r)
 | .no=>True
theorem k34{r:kg3}{o:kif⊕kg3}{a1 a2 a3 a4 a5 a6 a7 a8 a9 a10:Int}(e:kky a1 a2 a3 a4 a5 a6 a7 a8 a9 a10=some o)(good:GoodS (kqa r) r o):kqa r (.fn a1 a2 a3 a4 a5 a6 a7 a8 a9 a10):=by
 intro h;rw[k35];unfold kky at e;refine Runs.new fun H11 b11 g11=>?_;refine Runs.new fun H12 b12 g12=>?_;refine Runs.step (AH.has.rd (g12.has b11) 0 rfl (ke _ _)) ?_;refine Runs.step (AH.has.rd (g12.has b11) 1 rfl (ke _ _)) ?_;refine Runs.step (AH.has.rd (g12.has b11) 2 rfl (ke _ _)) ?_;refine Runs.step (AH.has.rd (g12.has b11) 3 rfl (ke _ _)) ?_;refine Runs.step (AH.has.rd (g12.has b11) 4 rfl (ke _ _)) ?_;refine Runs.step (AH.has.rd (g12.has b11) 5 rfl (ke _ _)) ?_;refine Runs.step (AH.has.rd (g12.has b11) 6 rfl (ke _ _)) ?_;refine Runs.step (AH.has.rd (g12.has b11) 7 rfl (ke _ _)) ?_;obtain⟨H13,e13,g13⟩:=kbbw a1 a2 a3 a4 a5 a6 a7 a8;refine Runs.step e13 ?_;refine Runs.step (seen rfl) ?_;refine Runs.cond (fun k14=>?_) (fun k14=>?_)
 ·replace e:=(condT k14).symm.trans e;cases e;cases good;exact Runs.ret ⟨rfl,((g11.trans g12).trans g13)⟩
 ·replace e:=(condF k14).symm.trans e;refine Runs.step (AH.has.rd (g13.has b12) 0 rfl (ke _ _)) ?_;refine Runs.step (kxq a9 (-1099511627776) 1099511627776) ?_;refine Runs.step (seen rfl) ?_;refine Runs.cond (fun k16=>?_) (fun k16=>?_)
  ·replace e:=(condT k16).symm.trans e;cases e;cases good;exact Runs.ret ⟨rfl,((g11.trans g12).trans g13)⟩
  ·replace e:=(condF k16).symm.trans e;refine Runs.step (AH.has.rd (g13.has b12) 1 rfl (ke _ _)) ?_;refine Runs.step (kxq a10 0 1048576) ?_;refine Runs.step (seen rfl) ?_;refine Runs.cond (fun k18=>?_) (fun k18=>?_)
   ·replace e:=(condT k18).symm.trans e;cases e;cases good;exact Runs.ret ⟨rfl,((g11.trans g12).trans g13)⟩
   ·replace e:=(condF k18).symm.trans e;refine Runs.new fun H19 b19 g19=>?_;refine Runs.new fun H20 b20 g20=>?_;refine Runs.step (AH.has.rd (((g13.trans g19).trans g20).has b12) 0 rfl (ke _ _)) ?_;refine Runs.step (AH.has.rd ((((g12.trans g13).trans g19).trans g20).has b11) 4 rfl (ke _ _)) ?_;refine Runs.step (AH.has.rd (((g13.trans g19).trans g20).has b12) 1 rfl (ke _ _)) ?_;refine Runs.step (AH.has.rd ((((g12.trans g13).trans g19).trans g20).has b11) 2 rfl (ke _ _)) ?_;refine Runs.step (AH.has.rd ((((g12.trans g13).trans g19).trans g20).has b11) 5 rfl (ke _ _)) ?_;obtain⟨p21,q21,e⟩:=Option.bind_eq_some_iff.1 e;obtain⟨_,H21,e21,s21,rfl,n21,g21,o21⟩:=ksf q21;refine Runs.step e21 ?_;refine Runs.step rfl ?_;refine Runs.ifT rfl ?_;refine Runs.step (seenAt rfl rfl) ?_;refine Runs.step (seenAt rfl (asSl_v _)) ?_;refine Runs.when (g21.same ((((g12.trans g13).trans g19).trans g20).has b11) 5 1) ?_;refine Runs.when (g21.same ((((g12.trans g13).trans g19).trans g20).has b11) 2 1) ?_;refine Runs.when (g21.same (((g13.trans g19).trans g20).has b12) 1 1) ?_;refine Runs.when (g21.same b20 0 0) ?_;refine Runs.when (g21.same (g20.has b19) 0 0) ?_;obtain⟨p22,q22,e⟩:=Option.bind_eq_some_iff.1 e;obtain⟨_,H22,e22,s22,rfl,n22,g22,o22⟩:=ksf q22;refine Runs.step e22 ?_;refine Runs.step rfl ?_;refine Runs.ifT rfl ?_;refine Runs.step (seenAt rfl rfl) ?_;refine Runs.step (seenAt rfl (asSl_v _)) ?_;refine Runs.when (g22.same (g21.has b20) 0 0) ?_;refine Runs.when (g22.same ((g20.trans g21).has b19) 0 0) ?_;obtain⟨_,H23,e23,s23,s23b,rfl,n23,n23b,g23,o23,o23b⟩:=k97 (n21.grow g22) n22 (p21.1) (p22.1);refine Runs.step e23 ?_;refine Runs.step rfl ?_;refine Runs.step rfl ?_;refine Runs.ifT rfl ?_;refine Runs.step (seenAt rfl rfl) ?_;refine Runs.step (seenAt rfl (asSl_v _)) ?_;refine Runs.step rfl ?_;refine Runs.ifT rfl ?_;refine Runs.step (seenAt rfl rfl) ?_;refine Runs.step (seenAt rfl (asSl_v _)) ?_;refine Runs.step (seen (ke _ _)) ?_;refine Runs.when (g23.same ((g21.trans g22).has b20) 0 0) ?_;refine Runs.when (g23.same (((g20.trans g21).trans g22).has b19) 0 0) ?_;refine Runs.puts ((((g20.trans g21).trans g22).trans g23).has b19) rfl fun H24 b24 u24=>?_;have n21_24:=(n21.grow (g22.trans g23)).upda (Av.of_own o21 (g20.has b19).lt) u24;have n22_24:=(n22.grow g23).upda (Av.of_own o22 ((g20.trans g21).has b19).lt) u24;have n23_24:=n23.upda (Av.of_own o23 (((g20.trans g21).trans g22).has b19).lt) u24;have n23b_24:=n23b.upda (Av.of_own o23b (((g20.trans g21).trans g22).has b19).lt) u24;have b20_24:=AH.has.updr (((g21.trans g22).trans g23).has b20) (Nat.ne_of_gt (Nat.lt_of_lt_of_le (b19).lt (Nat.le_refl _))) u24;refine Runs.puts b20_24 rfl fun H25 b25 u25=>?_;have n21_25:=n21_24.upda (Av.of_own o21 (b20).lt) u25;have n22_25:=n22_24.upda (Av.of_own o22 (g21.has b20).lt) u25;have n23_25:=n23_24.upda (Av.of_own o23 ((g21.trans g22).has b20).lt) u25;have n23b_25:=n23b_24.upda (Av.of_own o23b ((g21.trans g22).has b20).lt) u25;have b24_25:=AH.has.updr b24 (Nat.ne_of_lt (Nat.lt_of_lt_of_le (b19).lt (Nat.le_refl _))) u25;refine Runs.step (AH.has.rd b24_25 0 rfl rfl) ?_;refine Runs.step (AH.has.rd b24_25 1 rfl (asSl_v _)) ?_;obtain⟨H26,e26,g26⟩:=k3h n23_25 (((floorI (p21.1) p21.2 (p22.1) p22.2).1));refine Runs.step e26 ?_;refine Runs.step rfl ?_;refine Runs.step (seen (ke _ _)) ?_;refine Runs.step (seen rfl) ?_;cases e;cases good;exact Runs.ret ⟨rfl,((((((((((g11.trans g12).trans g13).trans g19).trans g20).trans g21).trans g22).trans g23).updr (Nat.le_trans (((g11.trans g12).trans g13)).size (Nat.le_refl _)) u24).updr (Nat.le_trans ((((g11.trans g12).trans g13).trans g19)).size (Nat.le_refl _)) u25).trans g26)⟩
theorem k96{s:kif}{r:kg3}(it:Iter ktc s r):kqa r s:=Iter.ind (fun s o e good=>by
 cases s with
 | fn a1 a2 a3 a4 a5 a6 a7 a8 a9 a10=>exact @k34 _ _ a1 a2 a3 a4 a5 a6 a7 a8 a9 a10 e good
 | no=>exact True.intro
 ) it
theorem ksp{a b:Int}(ha:-9223372036854775808≤a∧a≤9223372036854775807)(hb:-9223372036854775808≤b∧b≤9223372036854775807):Iter kkn (.fn a b) (intD (a*b)):=by
 refine .done ?_;show kjr _ _=_;unfold kjr;have h64:=kha
 have hm:(a*b).natAbs<B^64:=by
  rw[Int.natAbs_mul];have:a.natAbs*b.natAbs≤9223372036854775808*9223372036854775808:=Nat.mul_le_mul (by omega) (by omega);omega
 rw[kbq ha,Option.bind_some,kbq hb,Option.bind_some,krg (by omega),krg (by omega),kox (by omega) (by omega),if_pos hm]
def kmj(a1 a2 a3 a4 a5 a6 a7 a8 a9 a10:Int):Int×Int :=
 cond (Cfg.right ⟨a1,a2,a3,a4,a5,a6,a7,a8⟩&&decide (-1099511627776≤a9∧a9≤1099511627776∧0≤a10∧a10≤1048576)) ((-a9*a5)/((a10+a3)*a6),0) (0,1)
theorem Cfg.right_parts{c:Cfg}(h:c.right=true):1≤c.lambda∧c.lambda≤1048576∧1≤c.den∧c.den≤1048576∧1≤c.num∧c.num≤c.den:=by
 unfold Cfg.right at h;rw[decide_eq_true_eq]at h;omega
theorem k81{a3 a5 a6 a9 a10:Int}(l1:1≤a3)(l2:a3≤1048576)(d1:1≤a6)(d2:a6≤1048576)(n1:1≤a5)(n2:a5≤a6)(g1:-1099511627776≤a9)(g2:a9≤1099511627776)(h1:0≤a10)(h2:a10≤1048576) :
  (-a9*a5).natAbs≤1152921504606846976∧0<(a10+a3)*a6∧((a10+a3)*a6).natAbs≤2199023255552:=by
 refine⟨?_,Int.mul_pos (by omega) (by omega),?_⟩
 ·rw[Int.natAbs_mul];have:(-a9).natAbs*a5.natAbs≤1099511627776*1048576:=Nat.mul_le_mul (by omega) (by omega);omega
 ·rw[Int.natAbs_mul];have:(a10+a3).natAbs*a6.natAbs≤2097152*1048576:=Nat.mul_le_mul (by omega) (by omega);omega
theorem k0c(a1 a2 a3 a4 a5 a6 a7 a8 a9 a10:Int):Iter ktc (.fn a1 a2 a3 a4 a5 a6 a7 a8 a9 a10) (kmj a1 a2 a3 a4 a5 a6 a7 a8 a9 a10):=by
 refine .done ?_;show kky _ _ _ _ _ _ _ _ _ _=_;unfold kky kmj;cases hr:Cfg.right ⟨a1,a2,a3,a4,a5,a6,a7,a8⟩with
 | false=>rfl
 | true =>
  obtain⟨l1,l2,d1,d2,n1,n2⟩:=Cfg.right_parts hr;dsimp only at l1 l2 d1 d2 n1 n2;by_cases hc:-1099511627776≤a9∧a9≤1099511627776∧0≤a10∧a10≤1048576
  ·obtain⟨g1,g2,h1,h2⟩:=hc;obtain⟨s1,s2,s3⟩:=k81 l1 l2 d1 d2 n1 n2 g1 g2 h1 h2;have h64:=kha;obtain⟨f1,f2⟩:=k9y (u:=-a9*a5) (v:=(a10+a3)*a6) (by omega) s2;rw[show decide (-1099511627776≤a9∧a9≤1099511627776∧0≤a10∧a10≤1048576)=true from decide_eq_true ⟨g1,g2,h1,h2⟩,show decide (-1099511627776≤a9∧a9≤1099511627776)=true from decide_eq_true ⟨g1,g2⟩,show decide (0≤a10∧a10≤1048576)=true from decide_eq_true ⟨h1,h2⟩];rw[show IntKind.wrap .i64 (0-a9)=-a9 from by rw[wrap64 (by omega) (by omega)];omega,wrap64 (n:=a10+a3) (by omega) (by omega)];rw[kje (ksp (a:=-a9) (b:=a5) ⟨by omega,by omega⟩ ⟨by omega,by omega⟩),kje (ksp (a:=a10+a3) (b:=a6) ⟨by omega,by omega⟩ ⟨by omega,by omega⟩),Option.bind_some,Option.bind_some,kyq (by omega) (by omega) s2];dsimp only;rw[k5s (by omega) (by omega)];rfl
  ·rw[show decide (-1099511627776≤a9∧a9≤1099511627776∧0≤a10∧a10≤1048576)=false from decide_eq_false hc];simp only[Bool.not_true,cond_false,Bool.true_and];refine kkw (fun _=>rfl) fun k1=>?_;refine kkw (fun _=>rfl) fun k2=>?_;exfalso;simp only[Bool.not_eq_false',decide_eq_true_eq]at k1 k2;omega
theorem k7l(a1 a2 a3 a4 a5 a6 a7 a8 a9 a10:Int){h:AH}:Runs (go (.fn kjp [.agg [.int .i64 a1,.int .i64 a2,.int .i64 a3,.int .i64 a4,.int .i64 a5,.int .i64 a6,.int .i64 a7,.int .i64 a8],.agg [.int .i64 a9,.int .i64 a10]]) h) (kt7 h (kmj a1 a2 a3 a4 a5 a6 a7 a8 a9 a10)):=k96 (k0c a1 a2 a3 a4 a5 a6 a7 a8 a9 a10)
end Go.Ab
namespace Go.Ab
variable{P:Program}
inductive All2{α β:Type}(R:α→β→Prop):List α→List β→Prop
 | nil:All2 R [] []
 | cons {a:α} {b:β} {ls:List α} {bs:List β}:R a b→All2 R ls bs→All2 R (a::ls) (b::bs)
section
variable{α β:Type}{R S:α→β→Prop}
theorem All2.imp(f:∀a b,R a b→S a b){ls:List α}{bs:List β}(a:All2 R ls bs):All2 S ls bs:=by
 induction a with
 | nil=>exact .nil
 | cons h _ ih=>exact .cons (f _ _ h) ih
theorem All2.length{ls:List α}{bs:List β}(a:All2 R ls bs):ls.length=bs.length:=by
 induction a with
 | nil=>rfl
 | cons h _ ih=>simp[ih]
theorem All2.get{ls:List α}{bs:List β}(a:All2 R ls bs):∀{i:Nat}{y:β},bs[i]?=some y→∃x,ls[i]?=some x∧R x y:=by
 induction a with
 | nil=>intro i y h;simp at h
 | cons h _ ih =>
  intro i y hy;cases i with
  | zero=>cases hy;exact⟨_,rfl,h⟩
  | succ i=>exact ih hy
theorem All2.snoc{ls:List α}{bs:List β}(a:All2 R ls bs){x:α}{y:β}(h:R x y):All2 R (ls++[x]) (bs++[y]):=by
 induction a with
 | nil=>exact .cons h .nil
 | cons h' _ ih=>exact .cons h' ih
end
structure El(α:Type) where
 w:Nat
 pos:0<w
 has:AH→List AV→α→Prop
 av:Nat→List AV→α→Prop
 len:∀{h:AH}{cs:List AV}{a:α},has h cs a→cs.length=w
 grow:∀{h h':AH}{cs:List AV}{a:α},Grow h h'→has h cs a→has h' cs a
 upd:∀{h h':AH}{i:Nat}{cs:List AV}{a:α},has h cs a→av i cs a→Upd h h' i→has h' cs a
 new:∀{h:AH}{i:Nat}{cs:List AV}{a:α},has h cs a→h.blks.size≤i→av i cs a
def El.int(k:IntKind):El Int where
 w:=1
 pos:=by decide
 has _ cs n:=cs=[.int k n]
 av _ _ _:=True
 len e:=by rw[e];rfl
 grow _ e:=e
 upd e _ _:=e
 new _ _:=trivial
def El.bool:El Bool where
 w:=1
 pos:=by decide
 has _ cs b:=cs=[.bool b]
 av _ _ _:=True
 len e:=by rw[e];rfl
 grow _ e:=e
 upd e _ _:=e
 new _ _:=trivial
theorem Sl.vs_inj{s t:Sl}(h:[Sl.v s]=[Sl.v t]):s=t:=by
 cases s;cases t;simp only[Sl.v,List.cons.injEq,AV.slice.injEq,and_true]at h;obtain⟨rfl,rfl,rfl⟩:=h;rfl
def El.nats:El (List Nat) where
 w:=1
 pos:=by decide
 has h cs xs:=∃s,cs=[Sl.v s]∧Nats h s xs
 av i cs xs:=∃s,cs=[Sl.v s]∧Av s i xs
 len:=fun⟨s,e,_⟩=>by rw[e];rfl
 grow g:=fun⟨s,e,n⟩=>⟨s,e,n.grow g⟩
 upd:=fun⟨s,e,n⟩ ⟨t,e',a⟩ u=>by
  rw[e]at e';cases Sl.vs_inj e';exact⟨s,e,n.upda a u⟩
 new:=fun⟨s,e,n⟩ hi=>⟨s,e,Av.of_base n hi⟩
def El.pair{α β:Type}(A:El α)(B:El β):El (α×β) where
 w:=A.w+B.w
 pos:=by have:=A.pos;omega
 has h cs p:=∃c1 c2,cs=c1++c2∧A.has h c1 p.1∧B.has h c2 p.2
 av i cs p:=∃c1 c2,cs=c1++c2∧c1.length=A.w∧A.av i c1 p.1∧B.av i c2 p.2
 len:=fun⟨c1,c2,e,a,b⟩=>by rw[e,List.length_append,A.len a,B.len b]
 grow g:=fun⟨c1,c2,e,a,b⟩=>⟨c1,c2,e,A.grow g a,B.grow g b⟩
 upd:=fun⟨c1,c2,e,a,b⟩ ⟨d1,d2,e',l,a',b'⟩ u=>by
  rw[e]at e';obtain⟨rfl,rfl⟩:=List.append_inj e' (by rw[A.len a,l]);exact⟨c1,c2,e,A.upd a a' u,B.upd b b' u⟩
 new:=fun⟨c1,c2,e,a,b⟩ hi=>⟨c1,c2,e,A.len a,A.new a hi,B.new b hi⟩
theorem kdb{w:Nat}:∀{rows:List (List AV)},(∀r∈rows,r.length=w)→rows.flatten.length=rows.length*w
 | [],_=>by simp
 | r::rows,h=>by
  rw[List.flatten_cons,List.length_append,kdb (fun q hq=>h q (by simp[hq])),h r (by simp),List.length_cons,Nat.add_mul];omega
theorem kln{w:Nat}:∀{rows:List (List AV)},(∀r∈rows,r.length=w)→∀{i:Nat}{r:List AV}{k:Nat}{v:AV},rows[i]?=some r→r[k]?=some v→rows.flatten[i*w+k]?=some v
 | [],_,i,r,k,v,hi,_=>by simp at hi
 | q::rows,h,0,r,k,v,hi,hk=>by
  cases hi;rw[List.flatten_cons,List.getElem?_append_left (by have:=(List.getElem?_eq_some_iff.1 hk).1;omega)]
  simpa using hk
 | q::rows,h,i+1,r,k,v,hi,hk=>by
  have:=kln (fun q hq=>h q (by simp[hq])) (show rows[i]?=some r from hi) hk;rw[List.flatten_cons,List.getElem?_append_right (by rw[h q (by simp),Nat.add_mul];omega),h q (by simp),show(i+1)*w+k-w=i*w+k from by rw[Nat.add_mul];omega];exact this
def atX{α:Type}(xs:List α)(i:Int):Option α:=if 0≤i then xs[i.toNat]? else none
theorem k2w{α:Type}{xs:List α}{i:Int}{y:α}(q:atX xs i=some y):∃j:Nat,i=(j:Int)∧xs[j]?=some y:=by
 unfold atX at q;split at q
 ·exact⟨i.toNat,by omega,q⟩
 ·cases q
theorem kgg{α:Type}{xs:List α}{i:Nat}(h:i<xs.length):atX xs (i:Int)=some xs[i]:=by
 unfold atX;rw[if_pos (by omega),Int.toNat_natCast,List.getElem?_eq_getElem h]
structure Lies(h:AH)(r:Ref)(cs:List AV):Prop where
 at':∀k v,cs[k]?=some v→h.cell (r.add k)=some v
theorem Lies.rd{A:Type}{f:AV→Option A}{h h':AH}{r:Ref}{cs:List AV}(l:Lies h r cs)(g:Grow h h')(k:Nat){v:AV}{x:A}(hk:cs[k]?=some v)(hf:f v=some x):(h'.cell (r.add k)).bind f=some x:=by
 rw[g.cell_some (l.at' k v hk)];exact hf
theorem Lies.rd0{A:Type}{f:AV→Option A}{h h':AH}{r:Ref}{cs:List AV}(l:Lies h r cs)(g:Grow h h'){v:AV}{x:A}(hk:cs[0]?=some v)(hf:f v=some x):(h'.cell r).bind f=some x:=by
 have:=l.rd g 0 hk hf;rwa[Ref.add_zero]at this
theorem AH.kill_Upd(h:AH)(i:Nat):Upd h (h.kill (some (.new i 0))) i :=
 ⟨rfl,by simp[AH.kill],fun j hj _=>by
  show(h.blks.setIfInBounds i .dead)[j]?=_;rw[Array.getElem?_setIfInBounds_ne (fun x=>hj x.symm)]⟩
theorem kd2{h:AH}{i n:Nat}{cs:List AV}{e elem:TypeId}(b:h.has i cs e)(hl:n*P.cellsOf elem=cs.length):kbd P elem (Sl.v ⟨some (.new i 0),n,.is n⟩) h=some (cs,n) :=
 kou (Cells.of_has b hl)
section
variable{Q:AV→AH→Prop}
theorem Runs.putAt{h:AH}{i o:Nat}{cs cs' vs:List AV}{e:TypeId}{K:AH→Option (AV×AH)}(b:h.has i cs e)(hl:o+vs.length≤cs.length)(hc:cs.take o++vs++cs.drop (o+vs.length)=cs')(H:∀h',h'.has i cs' e→Upd h h' i→Runs (K h') Q):Runs ((h.puts ((Ref.new i 0).add o) vs).bind K) Q:=by
 subst hc;rw[Ref.add_new,Nat.zero_add,b.puts hl];exact H _ (AH.has_upd b _ e) (AH.upd_Upd h i _ e)
end
end Go.Ab
namespace Go.Ab
variable{P:Program}
def UpdO(h h':AH):Option Nat→Prop
 | none=>Grow h h'
 | some k=>Upd h h' k
def AvO(s:Sl)(xs:List Nat):Option Nat→Prop
 | none=>True
 | some k=>Av s k xs
def LeO(n:Nat):Option Nat→Prop
 | none=>True
 | some k=>n≤k
def LtO(n:Nat):Option Nat→Prop
 | none=>True
 | some k=>k<n
def NeO(j:Nat):Option Nat→Prop
 | none=>True
 | some k=>j≠k
theorem LeO.trans{m n:Nat}(h:m≤n):∀{i:Option Nat},LeO n i→LeO m i
 | none,_=>trivial
 | some k,l=>Nat.le_trans h l
theorem AvO.of_own{h1:AH}{s:Sl}{xs:List Nat}(o:Own h1 s):∀{i:Option Nat},LtO h1.blks.size i→AvO s xs i
 | none,_=>trivial
 | some k,l=>Av.of_own o l
theorem Grow.updo{h h1 h2:AH}(g:Grow h h1):∀{i:Option Nat},LeO h.blks.size i→UpdO h1 h2 i→Grow h h2
 | none,_,u=>g.trans u
 | some k,l,u=>g.updr l u
theorem AH.has.updo{h1 h2:AH}{j:Nat}{cs:List AV}{e:TypeId}(b:h1.has j cs e):∀{i:Option Nat},NeO j i→UpdO h1 h2 i→h2.has j cs e
 | none,_,u=>u.has b
 | some k,l,u=>AH.has.updr b l u
theorem Nats.updo{h1 h2:AH}{s:Sl}{xs:List Nat}(b:Nats h1 s xs):∀{i:Option Nat},AvO s xs i→UpdO h1 h2 i→Nats h2 s xs
 | none,_,u=>b.grow u
 | some k,l,u=>b.upda l u
variable{α:Type}{E:El α}{elem:TypeId}
theorem kp7{n m:Nat}(h:growOk P n elem m=true):n≤9223372036854775807:=by
 unfold growOk at h;rw[Bool.and_eq_true,decide_eq_true_eq]at h;have:=h.1.2;simp only[ks]at this;omega
end Go.Ab
namespace Go.Ab
variable{P:Program}
abbrev Fp:=Nat→Prop
def Fp.no:Fp:=fun _=>False
def Fp.all:Fp:=fun _=>True
def Fp.or(S T:Fp):Fp:=fun j=>S j∨T j
def Fp.below(n:Nat):Fp:=fun j=>j<n
def Fp.from(n:Nat):Fp:=fun j=>n≤j
def Fp.sl(s:Sl)(xs:List Nat):Fp:=fun j=>¬Av s j xs
theorem Fp.not_no{i:Nat}:¬Fp.no i:=fun h=>h
def NotO(S:Fp):Option Nat→Prop
 | none=>True
 | some k=>¬S k
theorem NotO.no:∀{i:Option Nat},NotO Fp.no i
 | none=>trivial
 | some _=>Fp.not_no
structure Ef(α:Type) where
 w:Nat
 pos:0<w
 has:AH→Fp→List AV→α→Prop
 len:∀{h:AH}{S:Fp}{cs:List AV}{a:α},has h S cs a→cs.length=w
 grow:∀{h h':AH}{S:Fp}{cs:List AV}{a:α},Grow h h'→has h S cs a→has h' S cs a
 mono:∀{h:AH}{S T:Fp}{cs:List AV}{a:α},(∀j,S j→T j)→has h S cs a→has h T cs a
 upd:∀{h h':AH}{S:Fp}{i:Nat}{cs:List AV}{a:α},¬S i→Upd h h' i→has h S cs a→has h' S cs a
 bound:∀{h:AH}{S:Fp}{cs:List AV}{a:α},has h S cs a→has h (fun j=>S j∧j<h.blks.size) cs a
def Ef.int(k:IntKind):Ef Int where
 w:=1
 pos:=by decide
 has _ _ cs n:=cs=[.int k n]
 len e:=by rw[e];rfl
 grow _ e:=e
 mono _ e:=e
 upd _ _ e:=e
 bound e:=e
def Ef.bool:Ef Bool where
 w:=1
 pos:=by decide
 has _ _ cs b:=cs=[.bool b]
 len e:=by rw[e];rfl
 grow _ e:=e
 mono _ e:=e
 upd _ _ e:=e
 bound e:=e
def Ef.str:Ef ByteArray where
 w:=1
 pos:=by decide
 has _ _ cs b:=cs=[.str b]
 len e:=by rw[e];rfl
 grow _ e:=e
 mono _ e:=e
 upd _ _ e:=e
 bound e:=e
def Ef.nats:Ef (List Nat) where
 w:=1
 pos:=by decide
 has h S cs xs:=∃s,cs=[Sl.v s]∧Nats h s xs∧∀j,¬Av s j xs→S j
 len:=fun⟨s,e,_,_⟩=>by rw[e];rfl
 grow g:=fun⟨s,e,n,a⟩=>⟨s,e,n.grow g,a⟩
 mono m:=fun⟨s,e,n,a⟩=>⟨s,e,n,fun j k=>m j (a j k)⟩
 upd no u:=fun⟨s,e,n,a⟩=>⟨s,e,n.upda (Classical.byContradiction fun k=>no (a _ k)) u,a⟩
 bound:=fun{h} _ _ _ ⟨s,e,n,a⟩=>⟨s,e,n,fun j k=>⟨a j k,by
  rcases Nat.lt_or_ge j h.blks.size with h1 | h1
  ·exact h1
  ·exact absurd (Av.of_base n h1) k⟩⟩
def Ef.pair{α β:Type}(A:Ef α)(B:Ef β):Ef (α×β) where
 w:=A.w+B.w
 pos:=by have:=A.pos;omega
 has h S cs p:=∃c1 c2,cs=c1++c2∧A.has h S c1 p.1∧B.has h S c2 p.2
 len:=fun⟨c1,c2,e,a,b⟩=>by rw[e,List.length_append,A.len a,B.len b]
 grow g:=fun⟨c1,c2,e,a,b⟩=>⟨c1,c2,e,A.grow g a,B.grow g b⟩
 mono m:=fun⟨c1,c2,e,a,b⟩=>⟨c1,c2,e,A.mono m a,B.mono m b⟩
 upd no u:=fun⟨c1,c2,e,a,b⟩=>⟨c1,c2,e,A.upd no u a,B.upd no u b⟩
 bound:=fun⟨c1,c2,e,a,b⟩=>⟨c1,c2,e,A.bound a,B.bound b⟩
theorem All2.set{α β:Type}{R:α→β→Prop}{l:List α}{m:List β}(a:All2 R l m){x:α}{y:β}(h:R x y):∀j:Nat,All2 R (l.set j x) (m.set j y):=by
 induction a with
 | nil=>intro j;exact .nil
 | cons h1 h2 ih =>
  intro j;cases j with
  | zero=>exact .cons h h2
  | succ j=>exact .cons h1 (ih j)
def RefIn(S:Fp)(s:Sl)(n:Nat):Prop:=n=0∨∀j o,s.ref=some (.new j o)→S j
structure Sq{α:Type}(E:Ef α)(h:AH)(S:Fp)(s:Sl)(xs:List α):Prop where
 rows:∃rows,Cells h s E.w rows.flatten∧All2 (E.has h S) rows xs
 len:s.len=xs.length
 short:xs.length≤9223372036854775807
 at':RefIn S s xs.length
variable{α:Type}{E:Ef α}
theorem Ef.rows{h:AH}{S:Fp}{rows:List (List AV)}{xs:List α}(a:All2 (E.has h S) rows xs):∀r∈rows,r.length=E.w:=by
 induction a with
 | nil=>simp
 | cons h' _ ih =>
  intro r hr;rcases List.mem_cons.1 hr with rfl | hr
  ·exact E.len h'
  ·exact ih r hr
theorem Cells.updn{h h':AH}{s:Sl}{n:Nat}{flat:List AV}(c:Cells h s n flat){i:Nat}(hi:∀o,s.ref≠some (.new i o))(u:Upd h h' i):Cells h' s n flat :=
 ⟨c.fit,c.len,fun k v hv=>by
  obtain⟨r,e1,e2⟩:=c.get k v hv;refine⟨r,e1,u.cell e2 fun o he=>?_⟩;cases r with
  | old a=>cases he
  | new j p =>
   simp only[Ref.add_new,Ref.new.injEq]at he;exact hi p (by rw[e1,he.1])⟩
theorem Sq.grow{h h':AH}{S:Fp}{s:Sl}{xs:List α}(n:Sq E h S s xs)(g:Grow h h'):Sq E h' S s xs:=by
 obtain⟨⟨rows,c,a⟩,l,sh,at'⟩:=n;exact⟨⟨rows,c.grow g,a.imp fun _ _=>E.grow g⟩,l,sh,at'⟩
theorem Sq.mono{h:AH}{S T:Fp}{s:Sl}{xs:List α}(n:Sq E h S s xs)(m:∀j,S j→T j):Sq E h T s xs:=by
 obtain⟨⟨rows,c,a⟩,l,sh,at'⟩:=n;exact⟨⟨rows,c,a.imp fun _ _=>E.mono m⟩,l,sh,at'.imp id fun f j o e=>m j (f j o e)⟩
theorem Sq.nil(E:Ef α)(h:AH)(S:Fp):Sq E h S ⟨none,0,.is 0⟩ []:=⟨⟨[],Cells.nil h _,.nil⟩,rfl,by simp,.inl rfl⟩
theorem Sq.upd{h h':AH}{S:Fp}{s:Sl}{xs:List α}(n:Sq E h S s xs){i:Nat}(no:¬S i)(u:Upd h h' i):Sq E h' S s xs:=by
 obtain⟨⟨rows,c,a⟩,l,sh,at'⟩:=n;refine⟨⟨rows,?_,a.imp fun _ _=>E.upd no u⟩,l,sh,at'⟩;rcases at' with e | f
 ·have hr:rows.length=0:=by rw[All2.length a,e]
  have hr:rows=[]:=List.length_eq_zero_iff.1 hr;subst hr;exact⟨c.fit,c.len,fun k v hv=>by simp at hv⟩
 ·exact c.updn (fun o ho=>no (f i o ho)) u
theorem Sq.bound{h:AH}{S:Fp}{s:Sl}{xs:List α}(n:Sq E h S s xs):Sq E h (fun j=>S j∧j<h.blks.size) s xs:=by
 obtain⟨⟨rows,c,a⟩,l,sh,at'⟩:=n;refine⟨⟨rows,c,a.imp fun _ _=>E.bound⟩,l,sh,?_⟩;rcases Nat.eq_zero_or_pos xs.length with e | e
 ·exact .inl e
 ·refine .inr fun j o hj=>⟨(at'.resolve_left (by omega)) j o hj,?_⟩;have hf:=kdb (w:=E.w) (rows:=rows) (Ef.rows a)
  have h0:0<rows.flatten.length:=by
   rw[hf,All2.length a];exact Nat.mul_pos e E.pos
  obtain⟨r,e1,e2⟩:=c.get 0 _ (List.getElem?_eq_getElem h0);rw[hj]at e1;cases e1;have:=AH.cell_inn e2;rw[Ref.add_new]at this;exact this
def Ef.seq{α:Type}(E:Ef α):Ef (List α) where
 w:=1
 pos:=by decide
 has h S cs xs:=∃s,cs=[Sl.v s]∧Sq E h S s xs
 len:=fun⟨s,e,_⟩=>by rw[e];rfl
 grow g:=fun⟨s,e,n⟩=>⟨s,e,n.grow g⟩
 mono m:=fun⟨s,e,n⟩=>⟨s,e,n.mono m⟩
 upd no u:=fun⟨s,e,n⟩=>⟨s,e,n.upd no u⟩
 bound:=fun⟨s,e,n⟩=>⟨s,e,n.bound⟩
theorem Sq.at{h:AH}{S:Fp}{s:Sl}{xs:List α}(n:Sq E h S s xs){i:Int}{y:α}(q:atX xs i=some y):∃(r:Ref)(cs:List AV),idx s.ref xs.length i E.w=some r∧E.has h S cs y∧Lies h r cs:=by
 obtain⟨⟨rows,c,a⟩,l,sh,at'⟩:=n;obtain⟨j,rfl,hj⟩:=k2w q;obtain⟨cs,e1,e2⟩:=a.get hj;have hjl:=(List.getElem?_eq_some_iff.1 hj).1;have hr:=Ef.rows a;have key:∀k v,cs[k]?=some v→∃r,s.ref=some r∧h.cell (r.add (j*E.w+k))=some v:=fun k v hk=>c.get _ _ (kln hr e1 hk);cases hs:s.ref with
 | none =>
  exfalso;cases cs with
  | nil=>have:=E.len e2;have:=E.pos;simp at *;omega
  | cons v vs =>
   obtain⟨r,e,_⟩:=key 0 v rfl;rw[hs]at e;cases e
 | some r =>
  refine⟨r.add (j*E.w),cs,?_,e2,⟨fun k v hk=>?_⟩⟩
  ·rw[kcy _ _ _ _ (by omega) (by omega)];simp
  ·obtain⟨r',e,e'⟩:=key k v hk;rw[hs]at e;cases e;rw[Ref.add_add];exact e'
theorem Sq.lit{h:AH}{S:Fp}{i n:Nat}{rows:List (List AV)}{e:TypeId}{xs:List α}(b:h.has i rows.flatten e)(a:All2 (E.has h S) rows xs)(hn:xs.length=n)(hs:n≤9223372036854775807:=by decide):Sq E h (Fp.or (fun j=>j=i) S) ⟨some (.new i 0),n,.is n⟩ xs:=by
 refine⟨⟨rows,Cells.of_has b ?_,a.imp fun _ _=>E.mono fun j k=>.inr k⟩,hn.symm,by omega,.inr fun j o e=>?_⟩
 ·rw[kdb (Ef.rows a),All2.length a,hn]
 ·cases e;exact .inl rfl
def GF{α:Type}(E:Ef α)(elem:TypeId)(h:AH)(S:Fp)(s:Sl)(i:Option Nat)(xs:List α):Prop :=
 xs.length≤9223372036854775807∧match i with
 | none=>s=⟨none,0,.is 0⟩∧xs=[]
 | some k=>¬S k∧s.ref=some (.new k 0)∧s.len=xs.length∧∃rows e,h.has k rows.flatten e∧(s.cap=.is s.len∨s.cap=.opn E.w∧e=elem)∧All2 (E.has h S) rows xs
variable{elem:TypeId}
theorem GF.none(E:Ef α)(elem:TypeId)(h:AH)(S:Fp):GF E elem h S ⟨none,0,.is 0⟩ none []:=⟨by simp,rfl,rfl⟩
theorem GF.one{h:AH}{S:Fp}{i:Nat}{cs:List AV}{x:α}{e:TypeId}(b:h.has i cs e)(c:E.has h S cs x)(a:¬S i):GF E elem h S ⟨some (.new i 0),1,.is 1⟩ (some i) [x] :=
 ⟨by simp,a,rfl,rfl,[cs],e,by simpa using b,.inl rfl,.cons c .nil⟩
theorem GF.lit{h:AH}{S:Fp}{i n:Nat}{rows:List (List AV)}{xs:List α}{e:TypeId}(b:h.has i rows.flatten e)(c:All2 (E.has h S) rows xs)(a:¬S i)(hn:xs.length=n)(hs:n≤9223372036854775807:=by decide):GF E elem h S ⟨some (.new i 0),n,.is n⟩ (some i) xs :=
 ⟨by omega,a,rfl,hn.symm,rows,e,b,.inl rfl,c⟩
theorem GF.grow{h h':AH}{S:Fp}{s:Sl}:∀{i:Option Nat}{xs:List α},GF E elem h S s i xs→Grow h h'→GF E elem h' S s i xs
 | .none,_,v,g=>v
 | .some k,_,⟨l,a,r,ln,rows,e,b,c,r2⟩,g=>⟨l,a,r,ln,rows,e,g.has b,c,r2.imp fun _ _=>E.grow g⟩
theorem GF.lt{h:AH}{S:Fp}{s:Sl}:∀{i:Option Nat}{xs:List α},GF E elem h S s i xs→LtO h.blks.size i
 | .none,_,_=>trivial
 | .some k,_,⟨l,a,r,ln,rows,e,b,c,r2⟩=>b.lt
theorem GF.mono{h:AH}{S T:Fp}{s:Sl}:∀{i:Option Nat}{xs:List α},GF E elem h S s i xs→(∀j,S j→T j)→NotO T i→GF E elem h T s i xs
 | .none,_,v,_,_=>v
 | .some k,_,⟨l,a,r,ln,rows,e,b,c,r2⟩,m,no=>⟨l,no,r,ln,rows,e,b,c,r2.imp fun _ _=>E.mono m⟩
theorem GF.bound{h:AH}{S:Fp}{s:Sl}:∀{i:Option Nat}{xs:List α},GF E elem h S s i xs→GF E elem h (fun j=>S j∧j<h.blks.size) s i xs
 | .none,_,v=>v
 | .some k,_,⟨l,a,r,ln,rows,e,b,c,r2⟩=>⟨l,fun x=>a x.1,r,ln,rows,e,b,c,r2.imp fun _ _=>E.bound⟩
def Fp.opt(i:Option Nat):Fp:=fun j=>i=some j
theorem GF.sq{h:AH}{S:Fp}{s:Sl}:∀{i:Option Nat}{xs:List α},GF E elem h S s i xs→Sq E h (Fp.or (Fp.opt i) S) s xs
 | .none,xs,⟨_,e1,e2⟩=>by
  subst e1;subst e2;exact Sq.nil E h _
 | .some k,_,⟨l,a,r,ln,rows,e,b,c,r2⟩=>by
  have hc:=Cells.of_has (n:=E.w) (m:=s.len) b (by rw[kdb (Ef.rows r2),All2.length r2,ln]);refine⟨⟨rows,⟨?_,?_,?_⟩,r2.imp fun _ _=>E.mono fun j x=>.inr x⟩,ln,l,.inr fun j o ho=>?_⟩
  ·rcases c with c | c
   ·unfold Sl.fit;rw[c];exact Nat.le_refl _
   ·unfold Sl.fit;rw[c.1]
  ·exact hc.len
  ·rw[r];exact hc.get
  ·rw[r]at ho;cases ho;exact .inl rfl
theorem GF.len{h:AH}{S:Fp}{s:Sl}{i:Option Nat}{xs:List α}(v:GF E elem h S s i xs):s.len=xs.length:=v.sq.len
theorem GF.upd{h h':AH}{S:Fp}{s:Sl}{i:Nat}(u:Upd h h' i)(no:¬S i):∀{j:Option Nat}{xs:List α},GF E elem h S s j xs→(∀k,j=some k→k≠i)→GF E elem h' S s j xs
 | .none,_,v,_=>v
 | .some k,_,⟨l,a,r,ln,rows,e,b,c,r2⟩,ne=>⟨l,a,r,ln,rows,e,b.updr (ne k rfl) u,c,r2.imp fun _ _=>E.upd no u⟩
theorem GF.set{h:AH}{S T:Fp}{s:Sl}{i:Option Nat}{xs:List α}(v:GF E elem h S s i xs){cs:List AV}{x:α}(c:E.has h T cs x)(no:NotO T i){z:Int}{j:Nat}(q:inI xs.length z=some j) :
  ∃r h',idx s.ref xs.length z E.w=some r∧h.puts r cs=some h'∧GF E elem h' (Fp.or S T) s i (xs.set j x)∧UpdO h h' i:=by
 obtain⟨hz,hj⟩:=klm q;cases i with
 | none =>
  obtain⟨_,e1,e2⟩:=v;subst e2;simp at hj
 | some k =>
  obtain⟨l,a,r,ln,rows,e,b,cp,r2⟩:=v;have hrl:=All2.length r2;have hr:=Ef.rows r2;have hw:=E.len c;have hfl:=kdb hr
  have hle:j*E.w+cs.length≤rows.flatten.length:=by
   rw[hfl,hw,← Nat.succ_mul];exact Nat.mul_le_mul_right _ (by omega)
  have hfl2:∀(rs:List (List AV))(n:Nat),(∀r∈rs,r.length=E.w)→rs.flatten.take (n*E.w)=(rs.take n).flatten∧rs.flatten.drop (n*E.w)=(rs.drop n).flatten:=by
   intro rs
   induction rs with
   | nil=>intro n _;simp
   | cons r rs ih =>
    intro n hh;cases n with
    | zero=>simp
    | succ n =>
     have h1:=ih n fun q hq=>hh q (by simp[hq]);have h2:=hh r (by simp);rw[Nat.succ_mul,List.flatten_cons,List.take_succ_cons,List.drop_succ_cons,List.flatten_cons,← h1.1,← h1.2];constructor
     ·rw[List.take_append,h2,List.take_of_length_le (by omega),Nat.add_sub_cancel]
     ·rw[List.drop_append,h2,List.drop_eq_nil_of_le (by omega),Nat.add_sub_cancel,List.nil_append]
  have key:rows.flatten.take (j*E.w)++cs++rows.flatten.drop (j*E.w+cs.length)=(rows.set j cs).flatten:=by
   have h3:j*E.w+cs.length=(j+1)*E.w:=by rw[hw,Nat.succ_mul]
   rw[h3,(hfl2 rows j hr).1,(hfl2 rows (j+1) hr).2,List.set_eq_take_append_cons_drop,if_pos (by omega)];simp
  refine⟨.new k (j*E.w),h.upd k (rows.set j cs).flatten e,?_,?_,⟨by simpa using l,fun x=>x.elim a no,r,by simpa using ln,rows.set j cs,e,AH.has_upd b _ _,cp,?_⟩,AH.upd_Upd h k _ e⟩
  ·rw[r,hz,kcy _ _ _ _ (by omega) (by omega)];simp
  ·rw[b.puts hle,key]
  ·have:All2 (fun cs a=>E.has h (Fp.or S T) cs a) (rows.set j cs) (xs.set j x):=All2.set (r2.imp fun _ _=>E.mono fun j k=>.inl k) (E.mono (fun j k=>.inr k) c) j;exact this.imp fun _ _ y=>E.upd (fun x=>x.elim a no) (AH.upd_Upd h k _ e) y
theorem GF.push{h:AH}{S T:Fp}{s:Sl}{i:Option Nat}{xs:List α}(v:GF E elem h S s i xs){cs:List AV}{x:α}(c:E.has h T cs x)(no:NotO T i)(hg:growOk P (xs.length+1) elem E.w=true) :
  ∃s' h',kz P s cs 1 elem E.w h=some (s'.v,h')∧GF E elem h' (fun j=>(Fp.or S T) j∧j<h.blks.size) s' (some h.blks.size) (xs++[x])∧UpdO h h' i:=by
 have hl:=kp7 hg;have hw:=E.len c;have nS:¬((Fp.or S T) h.blks.size∧h.blks.size<h.blks.size):=fun k=>Nat.lt_irrefl _ k.2;cases i with
 | none =>
  obtain⟨_,e1,e2⟩:=v;subst e1;subst e2;rw[kh8 (c:=0) rfl (by simp) (by simpa using hg) (Cells.nil h E.w)];refine⟨_,_,rfl,⟨by simp,nS,rfl,by simp,[cs],elem,?_,.inr ⟨rfl,rfl⟩,.cons ?_ .nil⟩,Grow.push _ _⟩
  ·simpa using AH.has_push h cs elem
  ·refine E.grow (Grow.push _ _) (E.mono (fun j k=>⟨.inr k.1,k.2⟩) (E.bound c))
 | some k =>
  have sq:=v.sq;obtain⟨l,a,r,ln,rows,e,b,cp,r2⟩:=v;have hr:=Ef.rows r2
  have cc:Cells h s E.w rows.flatten:=by
   have hc:=Cells.of_has (n:=E.w) (m:=s.len) b (by rw[kdb hr,All2.length r2,ln]);refine⟨?_,hc.len,by rw[r];exact hc.get⟩;rcases cp with c | c
   ·unfold Sl.fit;rw[c];exact Nat.le_refl _
   ·unfold Sl.fit;rw[c.1]
  rw[← ln]at hg;rcases cp with ce | ⟨ce,rfl⟩
  ·rw[kh8 ce (by omega) hg cc];refine⟨_,_,rfl,⟨by simpa using hl,nS,rfl,by simp[ln],rows++[cs],elem,?_,.inr ⟨rfl,rfl⟩,All2.snoc (r2.imp fun _ _ y=>?_) ?_⟩,(Grow.push _ _).toUpd k⟩
   ·have:=AH.has_push h (rows.flatten++cs) elem
    simpa using this
   ·exact E.grow (Grow.push _ _) (E.mono (fun j q=>⟨.inl q.1,q.2⟩) (E.bound y))
   ·exact E.grow (Grow.push _ _) (E.mono (fun j q=>⟨.inr q.1,q.2⟩) (E.bound c))
  ·have hap:kz P s cs 1 e E.w h=some (Sl.v ⟨some (.new h.blks.size 0),s.len+1,.opn E.w⟩,(h.kill s.ref).push (.cells (rows.flatten++cs) e)):=by
    unfold kz;simp only[ce];rw[show Nat.beq 1 0=false from rfl,show Nat.beq E.w E.w=true from Nat.beq_refl _];simp only[cond_false,hg,Bool.and_true,cond_true,r,show h.blks[k]?=_ from b];have hgets:=cc.gets;rw[r]at hgets;simp only[hgets,Option.bind_some];rw[show Nat.beq e e=true from Nat.beq_refl _,cond_true];have:(AH.kill h (some (Ref.new k 0))).blks.size=h.blks.size:=by simp[AH.kill]
    simp[AH.next,this,Sl.v];rfl
   rw[hap,r];have sz:(h.kill (some (.new k 0))).blks.size=h.blks.size:=by simp[AH.kill]
   have u:Upd h (h.kill (some (.new k 0))) k:=AH.kill_Upd h k;refine⟨_,_,rfl,⟨by simpa using hl,nS,rfl,by simp[ln],rows++[cs],e,?_,.inr ⟨rfl,rfl⟩,All2.snoc (r2.imp fun _ _ y=>?_) ?_⟩,u.trans ((Grow.push _ _).toUpd k)⟩
   ·have:=AH.has_push (h.kill (some (.new k 0))) (rows.flatten++cs) e;rw[sz]at this
    simpa using this
   ·exact E.grow (Grow.push _ _) (E.mono (fun j q=>⟨.inl q.1,q.2⟩) (E.upd (fun q=>a q.1) u (E.bound y)))
   ·exact E.grow (Grow.push _ _) (E.mono (fun j q=>⟨.inr q.1,q.2⟩) (E.upd (fun q=>no q.1) u (E.bound c)))
end Go.Ab
namespace Go.Ab
variable{P:Program}
theorem ku1{h:AH}:∀(n:Nat){r:Ref}{es:List AV},h.gets r n=some es→es.length=n∧∀(k:Nat)(v:AV),es[k]?=some v→h.cell (r.add k)=some v
 | 0,r,es,e=>by
  simp only[AH.gets,Option.some.injEq]at e;subst e;exact⟨rfl,fun k v hv=>by simp at hv⟩
 | n+1,r,es,e=>by
  simp only[AH.gets,Option.bind_eq_some_iff,Option.map_eq_some_iff]at e;obtain⟨v,e1,l,e2,rfl⟩:=e;obtain⟨h1,h2⟩:=ku1 n e2;refine⟨by simp[h1],fun k u hu=>?_⟩;cases k with
  | zero =>
   simp at hu;subst hu;rw[Ref.add_zero];exact e1
  | succ k =>
   have:=h2 k u (by simpa using hu);rw[← this,Ref.add_add,Nat.add_comm]
theorem Sq.of_arg{α:Type}{E:Ef α}{S:Fp}{h:AH}{t e:TypeId}{cs:List AV}(hu:P.underlying t=some (.slice e))(hw:P.cellsOf e=E.w)(elem:∀es,ArgT P h e es→∃a,E.has h S es a)(a:ArgT P h t cs):∃(s:Sl)(xs:List α),cs=[s.v]∧Sq E h S s xs:=by
 rcases a.slice hu with rfl | ⟨ad,len,cap,rfl,h1,h2,h3⟩
 ·exact⟨⟨none,0,.is 0⟩,[],rfl,Sq.nil _ _ _⟩
 ·rw[hw]at h3
  have mk:∀n,n≤len→∃(rows:List (List AV))(xs:List α),rows.length=n∧All2 (E.has h S) rows xs∧∀(i:Nat)(r:List AV),rows[i]?=some r→h.gets (.old (ad.add (i*E.w))) E.w=some r:=by
   intro n
   induction n with
   | zero=>exact fun _=>⟨[],[],rfl,.nil,fun i r hi=>by simp at hi⟩
   | succ n ih =>
    intro hn;obtain⟨rows,xs,hl,ha,hx⟩:=ih (by omega);obtain⟨es,k1,k2⟩:=h3 n (by omega);obtain⟨x,k3⟩:=elem es k2;refine⟨rows++[es],xs++[x],by simp[hl],ha.snoc k3,fun i r hi=>?_⟩;by_cases hin:i<rows.length
    ·rw[List.getElem?_append_left hin]at hi;exact hx i r hi
    ·rw[List.getElem?_append_right (by omega)]at hi
     have:i=n:=by
      rcases Nat.eq_zero_or_pos (i-rows.length)with h0 | h0
      ·omega
      ·rw[List.getElem?_eq_none (by simp;omega)]at hi;cases hi
     subst this;rw[hl,Nat.sub_self]at hi;simp at hi;subst hi;exact k1
  obtain⟨rows,xs,hl,ha,hx⟩:=mk len (Nat.le_refl _);have hr:=Ef.rows ha;have hlen:=All2.length ha;refine⟨⟨some (.old ad),len,.is cap⟩,xs,rfl,⟨⟨rows,⟨h1,by rw[kdb hr,hl],fun k v hv=>⟨_,rfl,?_⟩⟩,ha⟩,by rw[← hlen,hl],?_,.inr fun j o hj=>by cases hj⟩⟩
  ·have hk:k<rows.length*E.w:=by
    rw[← kdb hr];exact(List.getElem?_eq_some_iff.1 hv).1
   have hi:k/E.w<rows.length:=Nat.div_lt_of_lt_mul (by rw[Nat.mul_comm];exact hk);have hj:k%E.w<E.w:=Nat.mod_lt _ E.pos;have e1:=List.getElem?_eq_getElem hi;have e2:(rows[k/E.w])[k%E.w]?=some ((rows[k/E.w])[k%E.w]'(by rw[hr _ (List.getElem_mem _)];exact hj)):=List.getElem?_eq_getElem _;have e3:=kln hr e1 e2
   have e4:k/E.w*E.w+k%E.w=k:=by
    rw[Nat.mul_comm];exact Nat.div_add_mod k E.w
   rw[e4,hv]at e3;have e5:=(ku1 E.w (hx _ _ e1)).2 _ _ e2;rw[← Option.some.inj e3]at e5
   have e6:(Ref.old (ad.add (k/E.w*E.w))).add (k%E.w)=(Ref.old ad).add k:=by
    rw[show Ref.old (ad.add (k/E.w*E.w))=(Ref.old ad).add (k/E.w*E.w)from rfl,Ref.add_add,e4]
   rw[← e6];exact e5
  ·have hm:maxLen=9223372036854775807:=by decide
   rw[← hlen,hl];rw[hm]at h2;exact Nat.le_trans h1 h2
end Go.Ab
namespace Go.Ab
theorem All2.take{α β:Type}{R:α→β→Prop}{l:List α}{m:List β}(a:All2 R l m):∀k:Nat,All2 R (l.take k) (m.take k):=by
 induction a with
 | nil=>intro k;simp;exact .nil
 | cons h t ih =>
  intro k;cases k with
  | zero=>exact .nil
  | succ k=>exact .cons h (ih k)
theorem AH.setBlk_get{h:AH}{l:Nat}{b:ABlk}(hl:l<h.blks.size):(h.setBlk l b).blks[l]?=some b:=by
 simp[AH.setBlk,hl]
theorem AH.setBlk_ne{h:AH}{l i:Nat}{b:ABlk}(hi:i≠l):(h.setBlk l b).blks[i]?=h.blks[i]?:=by
 simp only[AH.setBlk];rw[Array.getElem?_setIfInBounds_ne (fun e=>hi e.symm)]
theorem AH.setBlk_size(h:AH)(l:Nat)(b:ABlk):(h.setBlk l b).blks.size=h.blks.size:=by simp[AH.setBlk]
theorem k9r{h:AH}{l:Nat}{pe:Option Code}{f:FuncId}{fr:Fr}{ps:Array Tmp}{bs bd:Code}{d:Nat}(hb:h.blks[l]?=some (.loop .ready pe f fr ps bs bd d)) :
  beginA l h=some (h.setBlk l (.loop .busy pe f fr ps bs bd d)):=by
 simp only[beginA,hb]
theorem k7d{h:AH}{l:Nat}{st:LoopState}{pe:Option Code}{f:FuncId}{fr:Fr}{ps:Array Tmp}{bs bd:Code}{d:Nat}(hb:h.blks[l]?=some (.loop st pe f fr ps bs bd d))(j:Option Code) :
  kgt l j h=some (.bool j.isNone,h.setBlk l (.loop (cond j.isNone .ready .done) j f fr ps bs bd d)):=by
 simp only[kgt,hb]
theorem kbdf{h:AH}{l:Nat}{pe:Option Code}{f:FuncId}{fr:Fr}{ps:Array Tmp}{bs bd:Code}{d:Nat}(hb:h.blks[l]?=some (.loop .ready pe f fr ps bs bd d)):kik l h=some (pe,h.setBlk l .dead):=by
 simp only[kik,hb];rfl
theorem k5l{R:Type}{f:FuncId}{a c:List AV}{k:FuncId→List AV→List AV→Option R}:funcK (.func (.func f) a c) k=k f a c:=rfl
theorem Runs.newM{P:AV→AH→Prop}{h:AH}{b:ABlk}{K:Nat→AH→Option (AV×AH)}(H:∀h',h'.blks[h.blks.size]?=some b→Grow h h'→Runs (K h.blks.size h') P):Runs (newM h b K) P :=
 H _ (by simp[AH.alloc]) (Grow.push h _)
variable{P:Program}
structure Md(T:Fp)(h h':AH):Prop where
 old:h'.old=h.old
 size:h.blks.size≤h'.blks.size
 blk:∀j,j<h.blks.size→¬T j→h'.blks[j]?=h.blks[j]?
theorem Md.refl(T:Fp)(h:AH):Md T h h:=⟨rfl,Nat.le_refl _,fun _ _ _=>rfl⟩
theorem Grow.md{h h':AH}(g:Grow h h')(T:Fp):Md T h h':=⟨g.old,g.size,fun j hj _=>g.blk j hj⟩
theorem Upd.md{h h':AH}{i:Nat}(u:Upd h h' i){T:Fp}(t:T i):Md T h h':=⟨u.old,u.size,fun j hj n=>u.blk j (fun e=>n (e▸t)) hj⟩
theorem UpdO.md{h h':AH}{T:Fp}:∀{i:Option Nat},UpdO h h' i→(∀k,i=some k→T k)→Md T h h'
 | none,u,_=>Grow.md u T
 | some k,u,t=>Upd.md u (t k rfl)
theorem Md.grow{h h':AH}{T:Fp}(m:Md T h h')(n:∀j,j<h.blks.size→¬T j):Grow h h':=⟨m.old,m.size,fun j hj=>m.blk j hj (n j hj)⟩
theorem Md.mono{h h':AH}{S T:Fp}(m:Md S h h')(f:∀j,j<h.blks.size→S j→T j):Md T h h':=⟨m.old,m.size,fun j hj n=>m.blk j hj fun s=>n (f j hj s)⟩
theorem Md.next{h h1 h2:AH}{S T:Fp}(a:Md S h h1)(b:Md T h1 h2)(f:∀j,j<h.blks.size→T j→S j):Md S h h2 :=
 ⟨b.old.trans a.old,Nat.le_trans a.size b.size,fun j hj n=>(b.blk j (Nat.lt_of_lt_of_le hj a.size) fun t=>n (f j hj t)).trans (a.blk j hj n)⟩
theorem Md.trans{h h1 h2:AH}{T:Fp}(a:Md T h h1)(b:Md T h1 h2):Md T h h2:=a.next b fun _ _ t=>t
theorem Md.thenG{h h1 h2:AH}{T:Fp}(a:Md T h h1)(b:Grow h1 h2):Md T h h2:=a.next (b.md Fp.no) fun _ _ t=>t.elim
def Dis(S T:Fp):Prop:=∀j,S j→T j→False
theorem Md.has{h h':AH}{T:Fp}(m:Md T h h'){i:Nat}{cs:List AV}{e:TypeId}(b:h.has i cs e)(n:¬T i):h'.has i cs e:=(m.blk i b.lt n).trans b
theorem Md.get{h h':AH}{T:Fp}(m:Md T h h'){i:Nat}{b:ABlk}(e:h.blks[i]?=some b)(n:¬T i):h'.blks[i]?=some b :=
 (m.blk i (Array.getElem?_eq_some_iff.1 e).1 n).trans e
def mixA(h h':AH)(k:Nat):AH:=⟨h'.old,((List.range h.blks.size).map fun i=>(if i<k then h'.blks[i]? else h.blks[i]?).getD .dead).toArray⟩
theorem ke5(h h':AH)(k:Nat):(mixA h h' k).blks.size=h.blks.size:=by simp[mixA]
theorem kh4{h h':AH}{k i:Nat}(hs:h.blks.size≤h'.blks.size)(hi:i<h.blks.size):(mixA h h' k).blks[i]?=if i<k then h'.blks[i]? else h.blks[i]?:=by
 have hi':i<h'.blks.size:=Nat.lt_of_lt_of_le hi hs;simp only[mixA,List.getElem?_toArray,List.getElem?_map,List.getElem?_range hi,Option.map_some];split
 ·rw[Array.getElem?_eq_getElem hi'];rfl
 ·rw[Array.getElem?_eq_getElem hi];rfl
theorem Ef.md{α:Type}(E:Ef α){h h':AH}{S T:Fp}{cs:List AV}{a:α}(m:Md T h h')(d:Dis S T)(e:E.has h S cs a):E.has h' S cs a:=by
 have key:∀k,k≤h.blks.size→E.has (mixA h h' k) S cs a:=by
  intro k
  induction k with
  | zero =>
   intro _;refine E.grow ⟨m.old,by rw[ke5];exact Nat.le_refl _,fun i hi=>?_⟩ e;rw[kh4 m.size hi,if_neg (by omega)]
  | succ k ih =>
   intro hk;have e':=ih (by omega);by_cases hS:S k
   ·have hT:¬T k:=fun t=>d k hS t;refine E.grow (show Grow (mixA h h' k) (mixA h h' (k+1))from⟨rfl,by rw[ke5,ke5];exact Nat.le_refl _,fun i hi=>?_⟩) e';rw[ke5]at hi;rw[kh4 m.size hi,kh4 m.size hi];by_cases h1:i=k
    ·subst h1;rw[if_pos (by omega),if_neg (by omega),m.blk i hi hT]
    ·by_cases h2:i<k
     ·rw[if_pos (by omega),if_pos h2]
     ·rw[if_neg (by omega),if_neg h2]
   ·refine E.upd hS (show Upd (mixA h h' k) (mixA h h' (k+1)) k from⟨rfl,by rw[ke5,ke5];exact Nat.le_refl _,fun i hne hi=>?_⟩) e';rw[ke5]at hi;rw[kh4 m.size hi,kh4 m.size hi];by_cases h2:i<k
    ·rw[if_pos (by omega),if_pos h2]
    ·rw[if_neg (by omega),if_neg h2]
 refine E.grow (show Grow (mixA h h' h.blks.size) h' from⟨rfl,by rw[ke5];exact m.size,fun i hi=>?_⟩) (key _ (Nat.le_refl _));rw[ke5]at hi;rw[kh4 m.size hi,if_pos hi]
section
variable{α:Type}{E:Ef α}
theorem Sq.md{h h':AH}{S T:Fp}{s:Sl}{xs:List α}(n:Sq E h S s xs)(m:Md T h h')(d:Dis S T):Sq E h' S s xs:=by
 obtain⟨s',e,n'⟩:=Ef.md (Ef.seq E) m d (show(Ef.seq E).has h S [s.v] xs from⟨s,rfl,n⟩);cases Sl.vs_inj e;exact n'
theorem Nats.mdE{h h':AH}{S T:Fp}{s:Sl}{xs:List Nat}(n:Nats h s xs)(a:∀j,¬Av s j xs→S j)(m:Md T h h')(d:Dis S T):Nats h' s xs:=by
 obtain⟨s',e,n',_⟩:=Ef.md Ef.nats m d (show Ef.nats.has h S [s.v] xs from⟨s,rfl,n,a⟩);cases Sl.vs_inj e;exact n'
theorem GF.md{elem:TypeId}{h h':AH}{S T:Fp}{s:Sl}(m:Md T h h')(d:Dis S T):∀{j:Option Nat}{xs:List α},GF E elem h S s j xs→(∀k,j=some k→¬T k)→GF E elem h' S s j xs
 | .none,_,v,_=>v
 | .some k,_,⟨l,a,r,ln,rows,e,b,c,r2⟩,ne=>⟨l,a,r,ln,rows,e,m.has b (ne k rfl),c,r2.imp fun _ _=>E.md m d⟩
end
end Go.Ab
namespace Go.Ab
def kvGet{A:Type}:List (Int×A)→Int→Option A
 | [],_=>none
 | (k,v)::t,n=>if n=k then some v else kvGet t n
def kvPut{A:Type}:List (Int×A)→Int→A→List (Int×A)
 | [],n,v=>[(n,v)]
 | (k,w)::t,n,v=>if n=k then(k,v)::t else(k,w)::kvPut t n v
def kvDel{A:Type}:List (Int×A)→Int→List (Int×A)
 | [],_=>[]
 | (k,w)::t,n=>if n=k then t else(k,w)::kvDel t n
theorem kbbi{A:Type}(l:List (Int×A))(n m:Int)(v:A):kvGet (kvPut l n v) m=if m=n then some v else kvGet l m:=by
 induction l with
 | nil=>simp[kvPut,kvGet]
 | cons p t ih =>
  obtain⟨k,w⟩:=p;simp only[kvPut];by_cases h:n=k
  ·subst h;rw[if_pos rfl];simp only[kvGet];by_cases h2:m=n
   ·rw[if_pos h2,if_pos h2]
   ·rw[if_neg h2,if_neg h2,if_neg h2]
  ·rw[if_neg h];simp only[kvGet,ih];by_cases h2:m=k
   ·rw[if_pos h2,if_pos h2,if_neg (by omega)]
   ·rw[if_neg h2,if_neg h2]
theorem ktn{A:Type}{l:List (Int×A)}{n:Int}(v:A)(h:kvGet l n=none):kvPut l n v=l++[(n,v)]:=by
 induction l with
 | nil=>rfl
 | cons p t ih =>
  obtain⟨k,w⟩:=p;simp only[kvGet]at h;by_cases e:n=k
  ·rw[if_pos e]at h;cases h
  ·rw[if_neg e]at h;simp only[kvPut,if_neg e,ih h,List.cons_append]
theorem kwz{A:Type}{l:List (Int×A)}{n:Int}{w:A}(v:A)(h:kvGet l n=some w):(kvPut l n v).length=l.length:=by
 induction l with
 | nil=>cases h
 | cons p t ih =>
  obtain⟨k,u⟩:=p;simp only[kvGet]at h;by_cases e:n=k
  ·simp only[kvPut,if_pos e,List.length_cons]
  ·rw[if_neg e]at h;simp only[kvPut,if_neg e,List.length_cons,ih h]
def Kv(es:List AEnt)(l:List (Int×AV)):Prop:=es.map (fun e=>(e.key,e.val))=l.map fun p=>(AV.int .i64 p.1,p.2)
theorem Kv.nil:Kv [] []:=rfl
theorem Kv.len{es:List AEnt}{l:List (Int×AV)}(k:Kv es l):es.length=l.length:=by
 have:=congrArg List.length k
 simpa using this
theorem kr9{n:Int}:∀{es:List AEnt}{l:List (Int×AV)}(j:Nat),Kv es l→
  (findA .i64 n es j=some none∧kvGet l n=none∧(∀v b,Kv (es++[⟨.int .i64 n,v,b⟩]) (kvPut l n v))∧kvDel l n=l)∨
  ∃t v,findA .i64 n es j=some (some (j+t,v))∧t<es.length∧kvGet l n=some v∧(∀w,Kv (es.modify t fun e=>⟨.int .i64 n,w,e.born⟩) (kvPut l n w))∧Kv (es.eraseIdx t) (kvDel l n)
 | [],l,j,k=>by
  cases l with
  | nil=>exact .inl ⟨rfl,rfl,fun v b=>rfl,rfl⟩
  | cons p t=>simp[Kv]at k
 | e::es,l,j,k=>by
  cases l with
  | nil=>simp[Kv]at k
  | cons p t =>
   obtain⟨m,w⟩:=p;simp only[Kv,List.map_cons,List.cons.injEq,Prod.mk.injEq]at k;obtain⟨⟨k1,k2⟩,k3⟩:=k;have ih:=kr9 (n:=n) (j+1) (show Kv es t from k3);simp only[findA,k1,decide_true,cond_true,kvGet,kvPut,kvDel];by_cases h:n=m
   ·subst h
    right
    refine⟨0,e.val,by simp,by simp,by rw[if_pos rfl,k2],fun u=>?_,?_⟩
    ·simp only[if_true];simp only[Kv,List.modify_zero_cons,List.map_cons];rw[show es.map _=t.map _ from k3]
    ·simp only[if_true];exact k3
   ·rw[decide_eq_false h,cond_false];simp only[if_neg h];rcases ih with⟨a,b,c,d⟩ | ⟨x,v,a,b,c,d,f⟩
    ·left
     refine⟨a,b,fun v bb=>?_,by rw[d]⟩;have:=c v bb;simp only[Kv,List.map_append,List.cons_append,List.map_cons]at this⊢;rw[this,k1,k2]
    ·right
     refine⟨x+1,v,by rw[a];congr 3;omega,by simp;omega,c,fun u=>?_,?_⟩
     ·have:=d u;simp only[Kv,List.modify_succ_cons,List.map_cons]at this⊢;rw[this,k1,k2]
     ·simp only[Kv,List.eraseIdx_cons_succ,List.map_cons]at f⊢;rw[f,k1,k2]
def MapIs(h:AH)(i:Nat)(l:List (Int×AV)):Prop:=∃es ck,h.blks[i]?=some (.map es ck)∧Kv es l
theorem MapIs.lt{h:AH}{i:Nat}{l:List (Int×AV)}(m:MapIs h i l):i<h.blks.size:=by
 obtain⟨es,ck,e,_⟩:=m;exact(Array.getElem?_eq_some_iff.1 e).1
theorem AH.setBlk_Upd{h:AH}{i:Nat}(b:ABlk):Upd h (h.setBlk i b) i:=⟨rfl,by rw[AH.setBlk_size];exact Nat.le_refl _,fun j hj _=>AH.setBlk_ne hj⟩
section
variable{h:AH}{i:Nat}{l:List (Int×AV)}
theorem MapIs.at(m:MapIs h i l):∃es ck,h.mapAt i=some (es,ck)∧Kv es l:=by
 obtain⟨es,ck,e,k⟩:=m;exact⟨es,ck,by simp only[AH.mapAt,e],k⟩
theorem MapIs.put(m:MapIs h i l)(n:Int)(v:AV):∃h',mapPut h i .i64 n v=some h'∧MapIs h' i (kvPut l n v)∧Upd h h' i:=by
 have hl:=m.lt;obtain⟨es,ck,e,k⟩:=m.at;simp only[mapPut,e,Option.bind_some];rcases kr9 (n:=n) 0 k with⟨a,b,c,_⟩ | ⟨t,w,a,_,b,c,_⟩
 ·rw[a];exact⟨_,rfl,⟨_,_,AH.setBlk_get hl,c v ck⟩,AH.setBlk_Upd _⟩
 ·rw[a,Nat.zero_add];exact⟨_,rfl,⟨_,_,AH.setBlk_get hl,c v⟩,AH.setBlk_Upd _⟩
theorem MapIs.size(m:MapIs h i l):mapLen h (some i)=some l.length:=by
 obtain⟨es,ck,e,k⟩:=m.at;simp only[mapLen,e,Option.map_some,k.len]
end
section
variable{P:AV→AH→Prop}
theorem Runs.call{x:Option (AV×AH)}{Q:AV→AH→Prop}{K:AV×AH→Option (AV×AH)}(r:Runs x Q)(H:∀v h',Q v h'→Runs (K (v,h')) P):Runs (x.bind K) P:=by
 obtain⟨v,h',e,q⟩:=r;subst e;exact H v h' q
theorem Runs.newMap{h:AH}{K:Nat→AH→Option (AV×AH)}(H:∀h',MapIs h' h.blks.size []→Grow h h'→Runs (K h.blks.size h') P):Runs (Go.Ab.newM h (.map [] 0) K) P :=
 Runs.newM fun h' e g=>H h' ⟨[],0,e,Kv.nil⟩ g
theorem km2{n:Nat}{G:Int→AH→Option (AV×AH)}{p:Nat→Bool}{h0:AH}
  (step:∀(i:Nat)(h:AH)(P:AV→AH→Prop),i<n→Grow h0 h→(∀h',Grow h0 h'→p i=true→P (.int .i64 (i:Int)) h')→(∀h',Grow h0 h'→p i=false→Runs (G ((i+1:Nat):Int) h') P)→Runs (G (i:Int) h) P)
  (done:∀(h:AH),Grow h0 h→G (n:Int) h=some (.int .i64 (-1),h)):∀(k i:Nat),i+k=n→∀{h:AH},Grow h0 h→(∀j,j<i→p j=false)→
  Runs (G (i:Int) h) fun v h'=>Grow h0 h'∧((v=.int .i64 (-1)∧∀j,j<n→p j=false)∨∃j,j<n∧v=.int .i64 (j:Int)∧p j=true∧∀t,t<j→p t=false):=by
 intro k
 induction k with
 | zero =>
  intro i hi h g hp;have:i=n:=by omega
  subst this;rw[done h g];exact Runs.ret ⟨g,.inl ⟨rfl,hp⟩⟩
 | succ k ih =>
  intro i hi h g hp;refine step i h _ (by omega) g (fun h' g' e=>⟨g',.inr ⟨i,by omega,rfl,e,hp⟩⟩) fun h' g' e=>ih (i+1) (by omega) g' fun j hj=>?_;rcases Nat.lt_or_ge j i with h1 | h1
  ·exact hp j h1
  ·have:j=i:=by omega
   subst this;exact e
theorem Runs.contains{α:Type}{xs:List α}{p:α→Bool}{x:Option (AV×AH)}{h0:AH}(R:Runs x fun v h'=>Grow h0 h'∧((v=.int .i64 (-1)∧∀j,j<xs.length→(xs[j]?).any p=false)∨∃j,j<xs.length∧v=.int .i64 (j:Int)∧(xs[j]?).any p=true∧∀t,t<j→(xs[t]?).any p=false)) :
  Runs (x.bind fun q=>((some q.1).bind (AV.asInt .i64)).bind fun n=>some (.bool (decide (n≥0)),q.2)) fun v h'=>v=.bool (xs.any p)∧Grow h0 h':=by
 refine R.call fun v h' ⟨g,d⟩=>?_;rcases d with⟨rfl,a⟩ | ⟨j,hj,rfl,a,_⟩
 ·refine Runs.step (seen (ke _ _)) (Runs.ret ⟨?_,g⟩)
  have:xs.any p=false:=by
   rw[List.any_eq_false];intro y hy;obtain⟨t,ht,rfl⟩:=List.getElem_of_mem hy;have:=a t ht;rw[List.getElem?_eq_getElem ht]at this
   simpa using this
  rw[this];exact congrArg AV.bool (decide_eq_false (by omega))
 ·refine Runs.step (seen (ke _ _)) (Runs.ret ⟨?_,g⟩)
  have:xs.any p=true:=by
   rw[List.any_eq_true];rw[List.getElem?_eq_getElem hj]at a;exact⟨xs[j],List.getElem_mem hj,by simpa using a⟩
  rw[this];exact congrArg AV.bool (decide_eq_true (by omega))
end
abbrev EI:Ef Int:=Ef.int .i64
section
variable{h:AH}{S:Fp}{s:Sl}
theorem Sq.int{k:IntKind}{xs:List Int}(n:Sq (Ef.int k) h S s xs){i:Nat}(hi:i<xs.length):∃r:Ref,idx s.ref s.len (i:Int) 1=some r∧(h.cell r).bind (AV.asInt k)=some xs[i]:=by
 obtain⟨r,cs,e1,e2,l⟩:=n.at (kgg hi);have e2:cs=[.int k xs[i]]:=e2;subst e2;rw[n.len];exact⟨r,e1,l.rd0 (Grow.refl _) rfl (ke _ _)⟩
theorem Sq.sl{α:Type}{E:Ef α}{xs:List (List α)}(n:Sq (Ef.seq E) h S s xs){i:Nat}(hi:i<xs.length):∃(r:Ref)(s':Sl),idx s.ref s.len (i:Int) 1=some r∧(h.cell r).bind AV.asSl=some s'∧(h.cell (r.add 0)).bind AV.asSl=some s'∧Sq E h S s' xs[i]:=by
 obtain⟨r,cs,e1,⟨s',rfl,n'⟩,l⟩:=n.at (kgg hi);rw[n.len];exact⟨r,s',e1,l.rd0 (Grow.refl _) rfl (asSl_v _),l.rd (Grow.refl _) 0 rfl (asSl_v _),n'⟩
end
structure Nd where
 leaf:Bool
 weight:Int
 party:Int
 feature:Int
 cut:Int
 left:Int
 right:Int
 deriving DecidableEq
def Nd.cells(x:Nd):List AV:=[.bool x.leaf,.int .i64 x.weight,.int .i64 x.party,.int .i64 x.feature,.int .i64 x.cut,.int .i64 x.left,.int .i64 x.right]
@[reducible] def Ef.nd:Ef Nd where
 w:=7
 pos:=by decide
 has _ _ cs x:=cs=x.cells
 len e:=by rw[e];rfl
 grow _ e:=e
 mono _ e:=e
 upd _ _ e:=e
 bound e:=e
theorem Sq.nd{h:AH}{S:Fp}{s:Sl}{xs:List Nd}(n:Sq Ef.nd h S s xs){i:Nat}(hi:i<xs.length):∃r:Ref,idx s.ref s.len (i:Int) 7=some r∧(h.cell (r.add 0)).bind AV.asBool=some xs[i].leaf∧(h.cell (r.add 1)).bind (AV.asInt .i64)=some xs[i].weight∧
  (h.cell (r.add 2)).bind (AV.asInt .i64)=some xs[i].party∧(h.cell (r.add 3)).bind (AV.asInt .i64)=some xs[i].feature∧(h.cell (r.add 4)).bind (AV.asInt .i64)=some xs[i].cut∧(h.cell (r.add 5)).bind (AV.asInt .i64)=some xs[i].left∧(h.cell (r.add 6)).bind (AV.asInt .i64)=some xs[i].right:=by
 obtain⟨r,cs,e1,e2,l⟩:=n.at (kgg hi);have e2:cs=xs[i].cells:=e2;subst e2;rw[n.len];have g:=Grow.refl h;exact⟨r,e1,l.rd g 0 rfl rfl,l.rd g 1 rfl (ke _ _),l.rd g 2 rfl (ke _ _),l.rd g 3 rfl (ke _ _),l.rd g 4 rfl (ke _ _),l.rd g 5 rfl (ke _ _),l.rd g 6 rfl (ke _ _)⟩
theorem kqp{α:Type}{xs:List α}{i:Nat}(hi:i<xs.length)(p:α→Bool):(xs.drop i).all p=(p xs[i]&&(xs.drop (i+1)).all p):=by
 rw[List.drop_eq_getElem_cons hi,List.all_cons]
theorem kjk{α:Type}{xs:List α}{i:Nat}(hi:xs.length≤i)(p:α→Bool):(xs.drop i).all p=true:=by
 rw[List.drop_of_length_le hi];rfl
theorem ko2{n i:Nat}(hi:i<n)(p:Nat→Bool):((List.range n).drop i).all p=(p i&&((List.range n).drop (i+1)).all p):=by
 rw[kqp (by simpa using hi),List.getElem_range]
variable{P:Program}{α:Type}{E:Ef α}{elem:TypeId}
def GQ{α:Type}(E:Ef α)(elem:TypeId)(h:AH)(S:Fp)(s:Sl)(k:Nat)(xs:List α):Prop :=
 ¬S k∧s.ref=some (.new k 0)∧s.len=xs.length∧∃(rows sp:List (List AV))(e:TypeId),h.has k (rows++sp).flatten e∧(∀r∈sp,r.length=E.w)∧(s.cap=.is (rows.length+sp.length)∨s.cap=.opn E.w∧e=elem)∧All2 (E.has h S) rows xs∧rows.length+sp.length≤9223372036854775807
variable{h h':AH}{S T:Fp}{s:Sl}{k:Nat}{xs:List α}
theorem GQ.lit{i n:Nat}{rows:List (List AV)}{e:TypeId}(b:h.has i rows.flatten e)(c:All2 (E.has h S) rows xs)(a:¬S i)(hn:xs.length=n)(hs:n≤9223372036854775807:=by decide):GQ E elem h S ⟨some (.new i 0),n,.is n⟩ i xs :=
 ⟨a,rfl,hn.symm,rows,[],e,by simpa using b,by simp,.inl (by simp[All2.length c,hn]),c,by simp[All2.length c];omega⟩
theorem GQ.grow(v:GQ E elem h S s k xs)(g:Grow h h'):GQ E elem h' S s k xs:=by
 obtain⟨a,r,ln,rows,sp,e,b,w,c,r2,l⟩:=v;exact⟨a,r,ln,rows,sp,e,g.has b,w,c,r2.imp fun _ _=>E.grow g,l⟩
theorem GQ.lt(v:GQ E elem h S s k xs):k<h.blks.size:=by
 obtain⟨a,r,ln,rows,sp,e,b,w,c,r2,l⟩:=v;exact b.lt
theorem GQ.not(v:GQ E elem h S s k xs):¬S k:=v.1
theorem GQ.mono(v:GQ E elem h S s k xs)(m:∀j,S j→T j)(no:¬T k):GQ E elem h T s k xs:=by
 obtain⟨a,r,ln,rows,sp,e,b,w,c,r2,l⟩:=v;exact⟨no,r,ln,rows,sp,e,b,w,c,r2.imp fun _ _=>E.mono m,l⟩
theorem GQ.bound(v:GQ E elem h S s k xs):GQ E elem h (fun j=>S j∧j<h.blks.size) s k xs:=by
 obtain⟨a,r,ln,rows,sp,e,b,w,c,r2,l⟩:=v;exact⟨fun x=>a x.1,r,ln,rows,sp,e,b,w,c,r2.imp fun _ _=>E.bound,l⟩
theorem GQ.upd{i:Nat}(v:GQ E elem h S s k xs)(u:Upd h h' i)(no:¬S i)(ne:k≠i):GQ E elem h' S s k xs:=by
 obtain⟨a,r,ln,rows,sp,e,b,w,c,r2,l⟩:=v;exact⟨a,r,ln,rows,sp,e,b.updr ne u,w,c,r2.imp fun _ _=>E.upd no u,l⟩
theorem GQ.md(v:GQ E elem h S s k xs)(m:Md T h h')(d:Dis S T)(ne:¬T k):GQ E elem h' S s k xs:=by
 obtain⟨a,r,ln,rows,sp,e,b,w,c,r2,l⟩:=v;exact⟨a,r,ln,rows,sp,e,m.has b ne,w,c,r2.imp fun _ _=>E.md m d,l⟩
theorem GQ.cells{rows sp:List (List AV)}{e:TypeId}(r:s.ref=some (.new k 0))(ln:s.len=xs.length)(b:h.has k (rows++sp).flatten e)(c:s.cap=.is (rows.length+sp.length)∨s.cap=.opn E.w∧e=elem)(r2:All2 (E.has h S) rows xs):Cells h s E.w rows.flatten:=by
 have hl:s.len*E.w=rows.flatten.length:=by rw[kdb (Ef.rows r2),All2.length r2,ln]
 refine⟨?_,hl,fun i v hv=>⟨_,r,?_⟩⟩
 ·unfold Sl.fit;rcases c with c | c
  ·rw[c,ln,← All2.length r2];exact Nat.le_add_right _ _
  ·rw[c.1]
 ·rw[Ref.add_new,Nat.zero_add,b.cell,List.flatten_append,List.getElem?_append_left (List.getElem?_eq_some_iff.1 hv).1];exact hv
theorem GQ.sq(v:GQ E elem h S s k xs):Sq E h (Fp.or (fun j=>j=k) S) s xs:=by
 obtain⟨a,r,ln,rows,sp,e,b,w,c,r2,l⟩:=v;refine⟨⟨rows,GQ.cells r ln b c r2,r2.imp fun _ _=>E.mono fun j x=>.inr x⟩,ln,?_,.inr fun j o ho=>?_⟩
 ·have:=All2.length r2;omega
 ·rw[r]at ho;cases ho;exact .inl rfl
theorem kpe{w:Nat}:∀{rs:List (List AV)}(n:Nat),(∀r∈rs,r.length=w)→rs.flatten.take (n*w)=(rs.take n).flatten∧rs.flatten.drop (n*w)=(rs.drop n).flatten
 | [],n,_=>by simp
 | r::rs,0,hh=>by simp
 | r::rs,n+1,hh=>by
  have h1:=kpe (rs:=rs) n fun q hq=>hh q (by simp[hq]);have h2:=hh r (by simp);rw[Nat.succ_mul,List.flatten_cons,List.take_succ_cons,List.drop_succ_cons,List.flatten_cons,← h1.1,← h1.2];constructor
  ·rw[List.take_append,h2,List.take_of_length_le (by omega),Nat.add_sub_cancel]
  ·rw[List.drop_append,h2,List.drop_eq_nil_of_le (by omega),Nat.add_sub_cancel,List.nil_append]
theorem kwy{w:Nat}{rs:List (List AV)}{j:Nat}{cs:List AV}(hr:∀r∈rs,r.length=w)(hj:j<rs.length)(hw:cs.length=w):rs.flatten.take (j*w)++cs++rs.flatten.drop (j*w+cs.length)=(rs.set j cs).flatten:=by
 have h3:j*w+cs.length=(j+1)*w:=by rw[hw,Nat.succ_mul]
 rw[h3,(kpe j hr).1,(kpe (j+1) hr).2,List.set_eq_take_append_cons_drop,if_pos hj];simp
theorem GQ.rowsW{rows sp:List (List AV)}(r2:All2 (E.has h S) rows xs)(w:∀r∈sp,r.length=E.w):∀r∈rows++sp,r.length=E.w:=fun r hr=>(List.mem_append.1 hr).elim (Ef.rows r2 r) (w r)
theorem GQ.at(v:GQ E elem h S s k xs){i:Nat}(hi:i<xs.length):∃(r:Ref)(cs:List AV),idx s.ref s.len (i:Int) E.w=some r∧E.has h S cs xs[i]∧Lies h r cs:=by
 obtain⟨a,r,ln,rows,sp,e,b,w,c,r2,l⟩:=v;obtain⟨cs,hc,hh⟩:=r2.get (List.getElem?_eq_getElem hi);have hrl:=All2.length r2;refine⟨.new k (i*E.w),cs,?_,hh,⟨fun j x hj=>?_⟩⟩
 ·rw[r,kcy _ _ _ _ (by omega) (by omega)];simp
 ·rw[Ref.add_new,b.cell];exact kln (GQ.rowsW r2 w) (by rw[List.getElem?_append_left (by omega)];exact hc) hj
theorem GQ.set(v:GQ E elem h S s k xs){cs:List AV}{x:α}(c:E.has h T cs x)(no:¬T k){j:Nat}(hj:j<xs.length) :
  ∃r h',idx s.ref s.len (j:Int) E.w=some r∧h.puts r cs=some h'∧GQ E elem h' (Fp.or S T) s k (xs.set j x)∧Upd h h' k:=by
 obtain⟨a,r,ln,rows,sp,e,b,w,cp,r2,l⟩:=v;have hrl:=All2.length r2;have hr:=GQ.rowsW r2 w;have hw:=E.len c
 have hle:j*E.w+cs.length≤(rows++sp).flatten.length:=by
  rw[kdb hr,hw,← Nat.succ_mul,List.length_append];exact Nat.mul_le_mul_right _ (by omega)
 have key:=kwy (j:=j) hr (by rw[List.length_append];omega) hw;have hset:(rows++sp).set j cs=rows.set j cs++sp:=List.set_append_left _ _ (by omega);rw[hset]at key;refine⟨.new k (j*E.w),h.upd k (rows.set j cs++sp).flatten e,?_,?_,⟨fun x=>x.elim a no,r,by simpa using ln,rows.set j cs,sp,e,AH.has_upd b _ _,w,by simpa using cp,?_,by simpa using l⟩,AH.upd_Upd h k _ e⟩
 ·rw[r,kcy _ _ _ _ (by omega) (by omega)];simp
 ·rw[b.puts hle,key]
 ·have:All2 (fun cs a=>E.has h (Fp.or S T) cs a) (rows.set j cs) (xs.set j x):=All2.set (r2.imp fun _ _=>E.mono fun j k=>.inl k) (E.mono (fun j k=>.inr k) c) j;exact this.imp fun _ _ y=>E.upd (fun x=>x.elim a no) (AH.upd_Upd h k _ e) y
theorem GQ.push(v:GQ E elem h S s k xs){cs:List AV}{x:α}(c:E.has h T cs x)(no:¬T k)(hg:growOk P (xs.length+1) elem E.w=true) :
  ∃s' h' k',kz P s cs 1 elem E.w h=some (s'.v,h')∧GQ E elem h' (fun j=>(Fp.or S T) j∧j<h.blks.size) s' k' (xs++[x])∧Upd h h' k∧(k'=k∨k'=h.blks.size):=by
 have hl:=kp7 hg;have hw:=E.len c;have nS:¬((Fp.or S T) h.blks.size∧h.blks.size<h.blks.size):=fun k=>Nat.lt_irrefl _ k.2;obtain⟨a,r,ln,rows,sp,e,b,w,cp,r2,l⟩:=v;have hrl:=All2.length r2;have cc:=GQ.cells r ln b cp r2;rw[← ln]at hg hl
 have newB:∀{h1 h2:AH},h1.blks.size=h.blks.size→Upd h h1 k→h2=h1.push (.cells (rows.flatten++cs) elem)→GQ E elem h2 (fun j=>(Fp.or S T) j∧j<h.blks.size) ⟨some (.new h.blks.size 0),s.len+1,.opn E.w⟩ h.blks.size (xs++[x])∧Upd h h2 k:=by
  intro h1 h2 sz u e2;subst e2;refine⟨⟨nS,rfl,by simp[ln],rows++[cs],[],elem,?_,by simp,.inr ⟨rfl,rfl⟩,All2.snoc (r2.imp fun _ _ y=>?_) ?_,by simp;omega⟩,u.trans ((Grow.push _ _).toUpd k)⟩
  ·have:=AH.has_push h1 (rows.flatten++cs) elem;rw[sz]at this
   simpa using this
  ·exact E.grow (Grow.push _ _) (E.mono (fun j q=>⟨.inl q.1,q.2⟩) (E.upd (fun q=>a q.1) u (E.bound y)))
  ·exact E.grow (Grow.push _ _) (E.mono (fun j q=>⟨.inr q.1,q.2⟩) (E.upd (fun q=>no q.1) u (E.bound c)))
 rcases cp with ce | ⟨ce,rfl⟩
 ·cases sp with
  | nil =>
   rw[kh8 ce (by simp;omega) hg cc];obtain⟨v2,u2⟩:=newB (h1:=h) rfl ((Grow.refl h).toUpd k) rfl;exact⟨_,_,_,rfl,v2,u2,.inr rfl⟩
  | cons q sp =>
   have hr:=GQ.rowsW r2 w
   have hle:rows.length*E.w+cs.length≤(rows++q::sp).flatten.length:=by
    rw[kdb hr,hw,← Nat.succ_mul,List.length_append,List.length_cons];exact Nat.mul_le_mul_right _ (by omega)
   have key:=kwy (j:=rows.length) hr (by simp) hw
   have hset:(rows++q::sp).set rows.length cs=(rows++[cs])++sp:=by
    rw[List.set_append_right _ _ (Nat.le_refl _)];simp
   rw[hset]at key
   have hap:kz P s cs 1 elem E.w h=some (Sl.v ⟨s.ref,s.len+1,s.cap⟩,h.upd k ((rows++[cs])++sp).flatten e):=by
    unfold kz;simp only[ce];rw[show Nat.ble (s.len+1) (rows.length+(q::sp).length)=true from Nat.ble_eq_true_of_le (by simp;omega)];simp only[cond_true,r];rw[show(Ref.new k 0).add (s.len*E.w)=Ref.new k (rows.length*E.w)from by rw[Ref.add_new,Nat.zero_add,ln,hrl],b.puts hle,key];rfl
   rw[hap];have u:=AH.upd_Upd h k ((rows++[cs])++sp).flatten e;refine⟨_,_,k,rfl,⟨fun x=>x.1.elim a no,r,by simp[ln],rows++[cs],sp,e,AH.has_upd b _ _,fun r hr=>w r (by simp[hr]),.inl ?_,All2.snoc (r2.imp fun _ _ y=>?_) ?_,by simp at l⊢;omega⟩,u,.inl rfl⟩
   ·rw[ce];simp;omega
   ·exact E.mono (fun j q=>⟨.inl q.1,q.2⟩) (E.upd (fun q=>a q.1) u (E.bound y))
   ·exact E.mono (fun j q=>⟨.inr q.1,q.2⟩) (E.upd (fun q=>no q.1) u (E.bound c))
 ·have hap:kz P s cs 1 e E.w h=some (Sl.v ⟨some (.new h.blks.size 0),s.len+1,.opn E.w⟩,(h.kill s.ref).push (.cells (rows.flatten++cs) e)):=by
   unfold kz;simp only[ce];rw[show Nat.beq 1 0=false from rfl,show Nat.beq E.w E.w=true from Nat.beq_refl _];simp only[cond_false,hg,Bool.and_true,cond_true,r,show h.blks[k]?=_ from b];have hgets:=cc.gets;rw[r]at hgets;simp only[hgets,Option.bind_some];rw[show Nat.beq e e=true from Nat.beq_refl _,cond_true];have:(AH.kill h (some (Ref.new k 0))).blks.size=h.blks.size:=by simp[AH.kill]
   simp[AH.next,this,Sl.v];rfl
  rw[hap,r];obtain⟨v2,u2⟩:=newB (h1:=h.kill (some (.new k 0))) (by simp[AH.kill]) (AH.kill_Upd h k) rfl;exact⟨_,_,_,rfl,v2,u2,.inr rfl⟩
theorem GQ.cut(v:GQ E elem h S s k xs){n:Nat}(hn:n≤xs.length):∃s',cutSl s 0 (n:Int) E.w=some s'∧GQ E elem h S s' k (xs.take n):=by
 obtain⟨a,r,ln,rows,sp,e,b,w,cp,r2,l⟩:=v;have hrl:=All2.length r2;have hr:=Ef.rows r2;have e1:(rows++sp)=rows.take n++(rows.drop n++sp):=by rw[← List.append_assoc,List.take_append_drop]
 have t2:All2 (E.has h S) (rows.take n) (xs.take n):=All2.take r2 n;have w2:∀r∈rows.drop n++sp,r.length=E.w:=fun r hr'=>(List.mem_append.1 hr').elim (fun x=>hr r (List.mem_of_mem_drop x)) (w r);have hlen:(rows.take n).length+(rows.drop n++sp).length=rows.length+sp.length:=by simp;omega
 rcases cp with ce | ⟨ce,he⟩
 ·refine⟨⟨some (.new k 0),n,.is (rows.length+sp.length)⟩,?_,a,rfl,by simp;omega,rows.take n,rows.drop n++sp,e,by rw[← e1];exact b,w2,.inl (by rw[hlen]),t2,by omega⟩;unfold cutSl;simp only[ce];rw[decide_eq_true (show(0:Int)≤0∧(0:Int)≤(n:Int)∧(n:Int)≤((rows.length+sp.length:Nat):Int)from⟨by omega,by omega,by omega⟩),cond_true,r];simp
 ·refine⟨⟨some (.new k 0),n,.opn E.w⟩,?_,a,rfl,by simp;omega,rows.take n,rows.drop n++sp,e,by rw[← e1];exact b,w2,.inr ⟨rfl,he⟩,t2,by omega⟩;unfold cutSl;simp only[ce];rw[show Nat.beq E.w E.w=true from Nat.beq_refl _,cond_true,decide_eq_true (show(0:Int)≤0∧(0:Int)≤(n:Int)∧(n:Int)≤(s.len:Int)from⟨by omega,by omega,by omega⟩),cond_true,r];simp
theorem All2.app{α β:Type}{R:α→β→Prop}:∀{l:List α}{m:List β}{l':List α}{m':List β},All2 R l m→All2 R l' m'→All2 R (l++l') (m++m')
 | _,_,_,_,.nil,b=>b
 | _,_,_,_,.cons h a,b=>.cons h (All2.app a b)
theorem GF.pushs{h:AH}{S T:Fp}{s:Sl}{i:Option Nat}{xs ys:List α}{rows':List (List AV)}{n:Nat}(v:GF E elem h S s i xs)(c:All2 (E.has h T) rows' ys)(hn:rows'.length=n)(h0:0<n)(no:NotO T i)(hg:growOk P (xs.length+n) elem E.w=true) :
  ∃s' h',kz P s rows'.flatten n elem E.w h=some (s'.v,h')∧GF E elem h' (fun j=>(Fp.or S T) j∧j<h.blks.size) s' (some h.blks.size) (xs++ys)∧UpdO h h' i:=by
 have hl:=kp7 hg;have hyl:=All2.length c;have nS:¬((Fp.or S T) h.blks.size∧h.blks.size<h.blks.size):=fun k=>Nat.lt_irrefl _ k.2;cases i with
 | none =>
  obtain⟨_,e1,e2⟩:=v;subst e1;subst e2;rw[kh8 (c:=0) rfl (by simpa using h0) (by simpa using hg) (Cells.nil h E.w)];refine⟨_,_,rfl,⟨by simp at hl⊢;omega,nS,rfl,by simp;omega,rows',elem,?_,.inr ⟨rfl,rfl⟩,?_⟩,Grow.push _ _⟩
  ·simpa using AH.has_push h rows'.flatten elem
  ·rw[List.nil_append];exact c.imp fun _ _ y=>E.grow (Grow.push _ _) (E.mono (fun j k=>⟨.inr k.1,k.2⟩) (E.bound y))
 | some k =>
  have sq:=v.sq;obtain⟨l,a,r,ln,rows,e,b,cp,r2⟩:=v;have hr:=Ef.rows r2
  have cc:Cells h s E.w rows.flatten:=by
   have hc:=Cells.of_has (n:=E.w) (m:=s.len) b (by rw[kdb hr,All2.length r2,ln]);refine⟨?_,hc.len,by rw[r];exact hc.get⟩;rcases cp with c | c
   ·unfold Sl.fit;rw[c];exact Nat.le_refl _
   ·unfold Sl.fit;rw[c.1]
  rw[← ln]at hg;rcases cp with ce | ⟨ce,rfl⟩
  ·rw[kh8 ce (by omega) hg cc];refine⟨_,_,rfl,⟨by rw[List.length_append];omega,nS,rfl,by rw[List.length_append];show s.len+n=_;omega,rows++rows',elem,?_,.inr ⟨rfl,rfl⟩,All2.app (r2.imp fun _ _ y=>?_) (c.imp fun _ _ y=>?_)⟩,(Grow.push _ _).toUpd k⟩
   ·have:=AH.has_push h (rows.flatten++rows'.flatten) elem
    simpa using this
   ·exact E.grow (Grow.push _ _) (E.mono (fun j q=>⟨.inl q.1,q.2⟩) (E.bound y))
   ·exact E.grow (Grow.push _ _) (E.mono (fun j q=>⟨.inr q.1,q.2⟩) (E.bound y))
  ·have hap:kz P s rows'.flatten n e E.w h=some (Sl.v ⟨some (.new h.blks.size 0),s.len+n,.opn E.w⟩,(h.kill s.ref).push (.cells (rows.flatten++rows'.flatten) e)):=by
    unfold kz;simp only[ce]
    rw[show Nat.beq n 0=false from by
     cases hb:Nat.beq n 0 with
     | false=>rfl
     | true=>have:=Nat.eq_of_beq_eq_true hb;omega,show Nat.beq E.w E.w=true from Nat.beq_refl _]
    simp only[cond_false,hg,Bool.and_true,cond_true,r,show h.blks[k]?=_ from b];have hgets:=cc.gets;rw[r]at hgets;simp only[hgets,Option.bind_some];rw[show Nat.beq e e=true from Nat.beq_refl _,cond_true];have:(AH.kill h (some (Ref.new k 0))).blks.size=h.blks.size:=by simp[AH.kill]
    simp[AH.next,this,Sl.v];rfl
   rw[hap,r];have sz:(h.kill (some (.new k 0))).blks.size=h.blks.size:=by simp[AH.kill]
   have u:Upd h (h.kill (some (.new k 0))) k:=AH.kill_Upd h k;refine⟨_,_,rfl,⟨by rw[List.length_append];omega,nS,rfl,by rw[List.length_append];show s.len+n=_;omega,rows++rows',e,?_,.inr ⟨rfl,rfl⟩,All2.app (r2.imp fun _ _ y=>?_) (c.imp fun _ _ y=>?_)⟩,u.trans ((Grow.push _ _).toUpd k)⟩
   ·have:=AH.has_push (h.kill (some (.new k 0))) (rows.flatten++rows'.flatten) e;rw[sz]at this
    simpa using this
   ·exact E.grow (Grow.push _ _) (E.mono (fun j q=>⟨.inl q.1,q.2⟩) (E.upd (fun q=>a q.1) u (E.bound y)))
   ·exact E.grow (Grow.push _ _) (E.mono (fun j q=>⟨.inr q.1,q.2⟩) (E.upd (fun q=>no q.1) u (E.bound y)))
theorem kyf(l:List AV):∀n:Nat,repC l n=(List.replicate n l).flatten
 | 0=>rfl
 | n+1=>by rw[List.replicate_succ,List.flatten_cons,← kyf l n];rfl
theorem All2.rep{α β:Type}{R:α→β→Prop}{a:α}{b:β}(h:R a b):∀n:Nat,All2 R (List.replicate n a) (List.replicate n b)
 | 0=>.nil
 | n+1=>.cons h (All2.rep h n)
theorem GF.mk{h:AH}{S:Fp}{n bytes:Nat}{l c:Int}{cs:List AV}{x:α}(hx:∀h',E.has h' S cs x)(no:¬S h.blks.size)(h1:l=(n:Int))(h2:c=(n:Int))(h3:n*bytes≤70368744177664)(h4:n≤70368744177664) :
  ∃h',kbx l c elem bytes cs h=some (⟨some (.new h.blks.size 0),n,.is n⟩,h')∧Grow h h'∧GF E elem h' S ⟨some (.new h.blks.size 0),n,.is n⟩ (some h.blks.size) (List.replicate n x):=by
 refine⟨_,kqf h1 h2 h3 h4,Grow.push _ _,?_⟩
 have b:AH.has (h.push (.cells (repC cs n) elem)) h.blks.size (List.replicate n cs).flatten elem:=by
  have:=AH.has_push h (repC cs n) elem;rw[kyf]at this⊢;exact this
 exact GF.lit (e:=elem) b (All2.rep (hx _) n) no (by simp) (by omega)
end Go.Ab
namespace Go.Heap
variable{α:Type}
def swapL(l:List α)(i j:Nat):List α:=match l[i]?,l[j]? with
 | some a,some b=>(l.set i b).set j a
 | _,_=>l
theorem kfk(l:List α)(i j:Nat):(swapL l i j).length=l.length:=by
 unfold swapL;split<;>simp
theorem kpx{l:List α}{i j:Nat}(hi:i<l.length)(hj:j<l.length)(k:Nat):(swapL l i j)[k]?=if k=j then l[i]? else if k=i then l[j]? else l[k]?:=by
 unfold swapL;rw[List.getElem?_eq_getElem hi,List.getElem?_eq_getElem hj];simp only[List.getElem?_set]
 grind
theorem ku0{l:List α}{i j:Nat}(hi:i<l.length)(hj:j<l.length):(swapL l i j).Perm l:=by
 unfold swapL;rw[List.getElem?_eq_getElem hi,List.getElem?_eq_getElem hj];exact List.set_set_perm hi hj
variable(key:α→Int)
def at'(l:List α)(i:Nat):Int:=((l[i]?).map key).getD 0
def kidL(n i:Nat)(l:List α):Nat:=if 2*i+2<n∧at' key l (2*i+2)<at' key l (2*i+1)then 2*i+2 else 2*i+1
def downL(n:Nat):Nat→Nat→List α→List α
 | 0,_,l=>l
 | m+1,i,l=>if 2*i+1<n then if at' key l (kidL key n i l)<at' key l i then downL n m (kidL key n i l) (swapL l i (kidL key n i l))else l else l
theorem kqg(n i:Nat)(l:List α):(kidL key n i l=2*i+2∧2*i+2<n∧at' key l (2*i+2)<at' key l (2*i+1))∨(kidL key n i l=2*i+1∧(2*i+2<n→at' key l (2*i+1)≤at' key l (2*i+2))):=by
 unfold kidL;split
 ·rename_i hh;exact .inl ⟨rfl,hh⟩
 ·rename_i hh;refine .inr ⟨rfl,fun h3=>Int.not_lt.1 fun h4=>hh ⟨h3,h4⟩⟩
theorem kuq{n i:Nat}{l:List α}(h:2*i+1<n):kidL key n i l<n:=by
 rcases kqg key n i l with⟨e,h1,_⟩ | ⟨e,_⟩<;>omega
theorem kpo(n:Nat):∀(m i:Nat)(l:List α),(downL key n m i l).length=l.length
 | 0,_,_=>rfl
 | m+1,i,l=>by
  unfold downL;split
  ·split
   ·rw[kpo n m,kfk]
   ·rfl
  ·rfl
theorem kun{n:Nat}:∀(m i:Nat)(l:List α),n≤l.length→(downL key n m i l).Perm l
 | 0,_,_,_=>List.Perm.refl _
 | m+1,i,l,h=>by
  unfold downL;split
  ·rename_i h1;have:=kuq key (l:=l) h1;split
   ·exact(kun m _ _ (by rw[kfk];exact h)).trans (ku0 (by omega) (by omega))
   ·exact List.Perm.refl _
  ·exact List.Perm.refl _
theorem kwo{n:Nat}:∀(m i:Nat)(l:List α),n≤l.length→∀k,n≤k→(downL key n m i l)[k]?=l[k]?
 | 0,_,_,_,_,_=>rfl
 | m+1,i,l,h,k,hk=>by
  unfold downL;split
  ·rename_i h1;have:=kuq key (l:=l) h1;split
   ·rw[kwo m _ _ (by rw[kfk];exact h) k hk,kpx (by omega) (by omega),if_neg (by omega),if_neg (by omega)]
   ·rfl
  ·rfl
def IsHeap(n:Nat)(l:List α):Prop:=∀k,0<k→k<n→at' key l ((k-1)/2)≤at' key l k
def IsHole(n i:Nat)(l:List α):Prop:=(∀k,0<k→k<n→(k-1)/2≠i→at' key l ((k-1)/2)≤at' key l k)∧(0<i→∀k,0<k→k<n→(k-1)/2=i→at' key l ((i-1)/2)≤at' key l k)
theorem kht{l:List α}{i j:Nat}(hi:i<l.length)(hj:j<l.length)(k:Nat):at' key (swapL l i j) k=if k=j then at' key l i else if k=i then at' key l j else at' key l k:=by
 unfold at';rw[kpx hi hj];split
 ·rfl
 ·split<;>rfl
theorem kuu{n:Nat}:∀(m i:Nat)(l:List α),n≤l.length→n≤m+i→IsHole key n i l→IsHeap key n (downL key n m i l)
 | 0,i,l,h,hm,⟨h1,h2⟩=>fun k k0 kn=>h1 k k0 kn (by omega)
 | m+1,i,l,h,hm,⟨h1,h2⟩=>by
  unfold downL;split
  ·rename_i hc;have hj':=kqg key n i l;generalize kidL key n i l=j at *
   have hjn:j<n:=by rcases hj' with⟨e,h,_⟩ | ⟨e,_⟩<;>omega
   have hji:(j-1)/2=i:=by rcases hj' with⟨e,_⟩ | ⟨e,_⟩<;>omega
   have hj0:0<j:=by rcases hj' with⟨e,_⟩ | ⟨e,_⟩<;>omega
   have hmin:∀k,0<k→k<n→(k-1)/2=i→at' key l j≤at' key l k:=by
    intro k k0 kn hk;have:k=2*i+1∨k=2*i+2:=by omega
    rcases hj' with⟨e,h3,h4⟩ | ⟨e,h3⟩
    ·rcases this with rfl | rfl
     ·rw[e];omega
     ·rw[e];omega
    ·rcases this with rfl | rfl
     ·rw[e];omega
     ·rw[e];exact h3 kn
   split
   ·rename_i hlt;refine kuu m j _ (by rw[kfk];exact h) (by omega) ⟨?_,?_⟩
    ·intro k k0 kn hk;rw[kht key (by omega) (by omega),kht key (by omega) (by omega)];by_cases e1:k=j
     ·subst e1;rw[if_pos rfl,if_neg (by omega),if_pos hji];omega
     ·rw[if_neg e1,if_neg hk];by_cases e2:k=i
      ·rw[if_pos e2,if_neg (by omega)];subst e2;exact h2 k0 j hj0 hjn hji
      ·rw[if_neg e2];by_cases e3:(k-1)/2=i
       ·rw[if_pos e3];exact hmin k k0 kn e3
       ·rw[if_neg e3];exact h1 k k0 kn e3
    ·intro _ k k0 kn hk;rw[kht key (by omega) (by omega),kht key (by omega) (by omega),hji,if_neg (by omega),if_pos rfl,if_neg (by omega),if_neg (by omega)];have:=h1 k k0 kn (by omega);rw[hk]at this;exact this
   ·rename_i hlt;intro k k0 kn;by_cases e3:(k-1)/2=i
    ·rw[e3];have:=hmin k k0 kn e3;omega
    ·exact h1 k k0 kn e3
  ·rename_i hc;intro k k0 kn;exact h1 k k0 kn (by omega)
theorem k5a{n:Nat}{l:List α}(h:IsHeap key n l):∀k,k<n→at' key l 0≤at' key l k:=by
 intro k
 induction k using Nat.strongRecOn with
 | ind k ih =>
  intro kn;by_cases k0:k=0
  ·subst k0;exact Int.le_refl _
  ·exact Int.le_trans (ih _ (by omega) (by omega)) (h k (by omega) kn)
def popL(l:List α):List α:=(downL key (l.length-1) l.length 0 (swapL l 0 (l.length-1))).take (l.length-1)
theorem k6v{l:List α}(h:IsHeap key l.length l){x:α}{W:List α}(hx:∀y∈W,key x<key y)(p:l.Perm (x::W)) :
  l[0]?=some x∧(downL key (l.length-1) l.length 0 (swapL l 0 (l.length-1)))[l.length-1]?=some x∧(popL key l).Perm W∧IsHeap key (popL key l).length (popL key l):=by
 have hl:l.length=W.length+1:=by rw[p.length_eq];rfl
 have h0:0<l.length:=by omega
 have e0:l[0]?=some x:=by
  obtain⟨k,hk,e⟩:=List.getElem_of_mem (p.mem_iff.2 (List.mem_cons_self (a:=x) (l:=W)));have hm:=k5a key h k hk;have m0:=p.mem_iff.1 (List.getElem_mem h0);unfold at' at hm;rw[List.getElem?_eq_getElem h0,List.getElem?_eq_getElem hk]at hm;simp only[Option.map_some,Option.getD_some,e]at hm;rcases List.mem_cons.1 m0 with e2 | e2
  ·rw[List.getElem?_eq_getElem h0,e2]
  ·have:=hx _ e2;omega
 generalize hn:l.length-1=n at *
 have hnl:n<l.length:=by omega
 have hs:=kfk l 0 n
 have e1:(downL key n l.length 0 (swapL l 0 n))[n]?=some x:=by
  rw[kwo key _ _ _ (by omega) n (Nat.le_refl _),kpx h0 hnl,if_pos rfl,e0]
 have hd:=kpo key n l.length 0 (swapL l 0 n);have pd:(downL key n l.length 0 (swapL l 0 n)).Perm l:=(kun key _ _ _ (by omega)).trans (ku0 h0 hnl)
 have hh:IsHeap key n (downL key n l.length 0 (swapL l 0 n)):=by
  refine kuu key _ _ _ (by omega) (by omega) ⟨?_,fun h=>absurd h (Nat.lt_irrefl _)⟩;intro k k0 kn hk;rw[kht key h0 hnl,kht key h0 hnl,if_neg (by omega),if_neg hk,if_neg (by omega),if_neg (by omega)];exact h k k0 (by omega)
 have hpop:popL key l=(downL key n l.length 0 (swapL l 0 n)).take n:=by unfold popL;rw[hn]
 refine⟨e0,e1,?_,?_⟩
 ·rw[hpop];have hlen:(downL key n l.length 0 (swapL l 0 n)).length=n+1:=by omega
  generalize downL key n l.length 0 (swapL l 0 n)=d at *
  have:d=d.take n++[x]:=by
   have h1:n<d.length:=by omega
   rw[List.getElem?_eq_getElem h1]at e1;have e1:d[n]=x:=by simpa using e1
   rw[← e1,List.take_append_getElem h1,List.take_of_length_le (by omega)]
  have p2:(d.take n++[x]).Perm (x::W):=by rw[← this];exact pd.trans p
  exact(List.perm_append_singleton x (d.take n)).symm.trans p2 |>.cons_inv
 ·have hlen:(popL key l).length=n:=by rw[hpop,List.length_take];omega
  rw[hlen];intro k k0 kn;have:=hh k k0 kn;rw[hpop];unfold at' at this⊢;rw[List.getElem?_take,List.getElem?_take,if_pos kn,if_pos (by omega)];exact this
theorem kto{l:List α}(h:IsHeap key l.length l){y:α}(hy:∀x∈l,key x≤key y):IsHeap key (l++[y]).length (l++[y]):=by
 intro k k0 kn;rw[List.length_append,List.length_singleton]at kn;have hp:(k-1)/2<l.length:=by omega
 unfold at';rw[List.getElem?_append_left hp];by_cases hk:k<l.length
 ·rw[List.getElem?_append_left hk];exact h k k0 hk
 ·obtain rfl:k=l.length:=by omega
  rw[List.getElem?_append_right (Nat.le_refl _),List.getElem?_eq_getElem hp];simp only[Nat.sub_self,List.getElem?_cons_zero,Option.map_some,Option.getD_some];exact hy _ (List.getElem_mem hp)
end Go.Heap
set_option maxRecDepth 10000
namespace Go.Ab
open Go.Proofs Go.Num
abbrev Fr3:=Bool×List Nat×List Nat
theorem k4b{n:Nat}(h:n≤1000000):growOk Pg n T.int 1=true:=by
 unfold growOk;rw[kye,knl];have h1:n*8≤ks:=by simp only[ks];omega
 have h2:n≤ks:=by simp only[ks];omega
 simp[h1,h2]
structure Off(h:AH)(t:Sl)(xs:List Nat)(iB iO:Nat)(oi:Option Nat):Prop where
 n:Nats h t xs
 b:Av t iB xs
 o:Av t iO xs
 g:AvO t xs oi
theorem Off.grow{h h':AH}{t:Sl}{xs:List Nat}{iB iO:Nat}{oi:Option Nat}(x:Off h t xs iB iO oi)(g:Grow h h'):Off h' t xs iB iO oi:=⟨x.n.grow g,x.b,x.o,x.g⟩
theorem Off.updB{h h':AH}{t:Sl}{xs:List Nat}{iB iO:Nat}{oi:Option Nat}(x:Off h t xs iB iO oi)(u:Upd h h' iB):Off h' t xs iB iO oi:=⟨x.n.upda x.b u,x.b,x.o,x.g⟩
theorem Off.updO{h h':AH}{t:Sl}{xs:List Nat}{iB iO:Nat}{oi:Option Nat}(x:Off h t xs iB iO oi)(u:Upd h h' iO):Off h' t xs iB iO oi:=⟨x.n.upda x.o u,x.b,x.o,x.g⟩
theorem Off.updG{h h':AH}{t:Sl}{xs:List Nat}{iB iO:Nat}{oi:Option Nat}(x:Off h t xs iB iO oi)(u:UpdO h h' oi):Off h' t xs iB iO oi:=⟨x.n.updo x.g u,x.b,x.o,x.g⟩
theorem Off.anew{h:AH}{t:Sl}{xs:List Nat}{iB iO:Nat}{oi:Option Nat}(x:Off h t xs iB iO oi){k:Nat}{h0:AH}(n0:Nats h0 t xs)(hk:h0.blks.size≤k):Off h t xs iB iO (some k):=⟨x.n,x.b,x.o,Av.of_base n0 hk⟩
structure BestAt(h0 h:AH)(iA iB iO:Nat)(oi:Option Nat)(G N:Int)(st:List Int×Fr3):Prop where
 grow:Grow h0 h
 hA:h.has iA [.int .i64 G,.int .i64 N] kbc
 best:∃t1 t2:Sl,h.has iB [.bool st.2.1,t1.v,t2.v] kba∧Off h t1 st.2.2.1 iB iO oi∧Off h t2 st.2.2.2 iB iO oi
 outs:∃s:Sl,h.has iO [s.v] kgr∧GF (Ef.int .i64) T.int h Fp.no s oi st.1
 ab:iA≠iB
 ao:iA≠iO
 bo:iB≠iO
 na:NeO iA oi
 nb:NeO iB oi
 no:NeO iO oi
 la:h0.blks.size≤iA
 lb:h0.blks.size≤iB
 lo:h0.blks.size≤iO
 lg:LeO h0.blks.size oi
theorem GF.toNo{k:IntKind}{elem:TypeId}{h:AH}{S:Fp}{s:Sl}:∀{i:Option Nat}{xs:List Int},GF (Ef.int k) elem h S s i xs→GF (Ef.int k) elem h Fp.no s i xs
 | .none,_,v=>v
 | .some _,_,⟨l,a,r,ln,rows,e,b,c,r2⟩=>⟨l,id,r,ln,rows,e,b,c,r2.imp fun _ _ x=>x⟩
def askF(i:Int)(g:Fr3)(st:List Int×Fr3):List Int×Fr3 :=
 if kgn g.1 g.2.1 g.2.2 st.2.1 st.2.2.1 st.2.2.2>0 then([i],g)
 else if kgn g.1 g.2.1 g.2.2 st.2.1 st.2.2.1 st.2.2.2=0∧st.1.length>0 then(st.1++[i],st.2)else st
theorem ask_is{h0 h:AH}{iA iB iO:Nat}{oi:Option Nat}{G N:Int}{st:List Int×Fr3}(e:BestAt h0 h iA iB iO oi G N st)(hlen:st.1.length≤100000){g:Fr3}{u1 u2:Sl}(o1:Off h u1 g.2.1 iB iO oi)(o2:Off h u2 g.2.2 iB iO oi)(i:Int) :
  Runs (go (.fn keb [.int .i64 i,.agg [.bool g.1,u1.v,u2.v],.ptr (some (.new iB 0)),.ptr (some (.new iO 0))]) h) fun v h'=>v=.tup []∧∃oi',BestAt h0 h' iA iB iO oi' G N (askF i g st):=by
 obtain⟨t1,t2,bB,x1,x2⟩:=e.best;obtain⟨s,bO,gf⟩:=e.outs;rw[kzr];refine Runs.new fun h7 b7 g7=>?_;refine Runs.step (b7.rd 0 (f:=AV.asBool) rfl rfl) ?_;refine Runs.step (b7.rd 1 (f:=AV.asSl) rfl (asSl_v _)) ?_;refine Runs.step (b7.rd 2 (f:=AV.asSl) rfl (asSl_v _)) ?_;have cB:=g7.has bB;refine Runs.step (cB.rd 0 (f:=AV.asBool) rfl rfl) ?_;refine Runs.step (cB.rd 1 (f:=AV.asSl) rfl (asSl_v _)) ?_;refine Runs.step (cB.rd 2 (f:=AV.asSl) rfl (asSl_v _)) ?_;obtain⟨_,h14,e14,rfl,g14⟩:=k8u (o1.n.grow g7) (o2.n.grow g7) (x1.n.grow g7) (x2.n.grow g7) g.1 st.2.1;refine Runs.step e14 ?_;refine Runs.step (seen (ke _ _)) ?_;dsimp only;have G14:=g7.trans g14;have G0:=e.grow.trans G14;have dB:=g14.has cB;have dO:=G14.has bO;have dA:=G14.has e.hA;have lB:iB<h.blks.size:=bB.lt;have lO:iO<h.blks.size:=bO.lt;have lA:iA<h.blks.size:=e.hA.lt;have sz:=G14.size;refine Runs.cond (fun k=>?_) (fun k=>?_)
 ·
  rw[decide_eq_true_eq]at k;have e7:=g14.has b7;refine Runs.step (e7.rd 0 (f:=AV.asBool) rfl rfl) ?_;refine Runs.step (e7.rd 1 (f:=AV.asSl) rfl (asSl_v _)) ?_;refine Runs.step (e7.rd 2 (f:=AV.asSl) rfl (asSl_v _)) ?_;refine Runs.new fun h19 b19 g19=>?_;refine Runs.when (g19.same e7 0 3) ?_;have l19:h14.blks.size<h19.blks.size:=b19.lt;refine Runs.puts (g19.has dO) rfl fun h20 b20 u20=>?_;have f7:=(g19.has e7).updr (i:=iO) (by omega) u20;refine Runs.when (kxh (g19.has e7) f7 0 3) ?_;have fB:=(g19.has dB).updr (i:=iO) e.bo u20;refine Runs.puts fB rfl fun h21 b21 u21=>?_;refine Runs.ret ⟨rfl,some h14.blks.size,?_⟩;have ea:askF i g st=([i],g):=by unfold askF;rw[if_pos k]
  rw[ea]
  have up:∀{t:Sl}{xs:List Nat},Off h t xs iB iO oi→Off h21 t xs iB iO (some h14.blks.size):=fun x =>
   ((((x.anew x.n (by omega)).grow G14).grow g19).updO u20).updB u21
  refine⟨?_,?_,⟨u1,u2,b21,up o1,up o2⟩,⟨_,b20.updr (fun e'=>e.bo e'.symm) u21,?_⟩,e.ab,e.ao,e.bo,?_,?_,?_,e.la,e.lb,e.lo,?_⟩
  ·exact((G0.trans g19).updr e.lo u20).updr e.lb u21
  ·exact((g19.has dA).updr e.ao u20).updr e.ab u21
  ·have b19':=(b19.updr (i:=iO) (by omega) u20).updr (i:=iB) (by omega) u21;exact GF.one b19' rfl id
  ·show iA≠h14.blks.size;omega
  ·show iB≠h14.blks.size;omega
  ·show iO≠h14.blks.size;omega
  ·exact G0.size
 ·rw[decide_eq_false_iff_not]at k
  have same:askF i g st=st→BestAt h0 h14 iA iB iO oi G N (askF i g st):=fun hs=>by
   rw[hs];exact⟨G0,dA,⟨t1,t2,dB,x1.grow G14,x2.grow G14⟩,⟨s,dO,gf.grow G14⟩,e.ab,e.ao,e.bo,e.na,e.nb,e.no,e.la,e.lb,e.lo,e.lg⟩
  refine Runs.cond (fun k0=>?_) (fun k0=>?_)
  ·rw[decide_eq_true_eq]at k0;refine Runs.step (dO.rd0 (f:=AV.asSl) rfl (asSl_v _)) ?_;rw[gf.len];refine Runs.cond (fun kl=>?_) (fun kl=>?_)
   ·rw[decide_eq_true_eq]at kl;refine Runs.step (dO.rd0 (f:=AV.asSl) rfl (asSl_v _)) ?_;refine Runs.new fun h24 b24 g24=>?_;refine Runs.step (kd2 (n:=1) b24 (by rw[knf];rfl)) ?_;obtain⟨s',h25,e25,gf25,u25⟩:=((gf.grow G14).grow g24).push (P:=Pg) (T:=Fp.no) (cs:=[.int .i64 i]) (x:=i) rfl NotO.no (k4b (by omega));refine Runs.step e25 ?_;refine Runs.step (seen (asSl_v _)) ?_;dsimp only;have G24:=G14.trans g24;have l24:h14.blks.size<h24.blks.size:=b24.lt;have hO:=(g24.has dO).updo e.no u25;refine Runs.puts hO rfl fun h28 b28 u28=>?_;refine Runs.ret ⟨rfl,some h24.blks.size,?_⟩
    have ea:askF i g st=(st.1++[i],st.2):=by
     unfold askF;rw[if_neg k,if_pos ⟨k0,by omega⟩]
    rw[ea]
    have up:∀{t:Sl}{xs:List Nat},Off h t xs iB iO oi→Off h28 t xs iB iO (some h24.blks.size):=fun x =>
     (((((x.grow G14).grow g24).updG u25).anew x.n (by omega)).updO u28)
    have Gu:Grow h0 h25:=(G0.trans g24).updo e.lg u25;refine⟨Gu.updr e.lo u28,((g24.has dA).updo e.na u25).updr e.ao u28,⟨t1,t2,((g24.has dB).updo e.nb u25).updr e.bo u28,up x1,up x2⟩,⟨s',b28,?_⟩,e.ab,e.ao,e.bo,?_,?_,?_,e.la,e.lb,e.lo,?_⟩
    ·refine(gf25.toNo).upd u28 id fun k hk=>?_;cases hk;omega
    ·show iA≠h24.blks.size;omega
    ·show iB≠h24.blks.size;omega
    ·show iO≠h24.blks.size;omega
    ·exact(G0.trans g24).size
   ·rw[decide_eq_false_iff_not]at kl;refine Runs.ret ⟨rfl,oi,same ?_⟩;unfold askF;rw[if_neg k,if_neg (fun h=>kl (by omega))]
  ·rw[decide_eq_false_iff_not]at k0;refine Runs.ret ⟨rfl,oi,same ?_⟩;unfold askF;rw[if_neg k,if_neg (fun h=>k0 h.1)]
abbrev Fr3.of(g:Frc):Fr3:=(g.1,g.2.1,g.2.2.1)
def ke6(l G N:Int)(x:Int×Int)(i:Int)(st:List Int×Fr3):List Int×Fr3 :=
 if x.2>0∧x.2<N then askF i (Fr3.of (gainF l x.1 x.2 G N)) st else st
def bestGo(l G N:Int):List (Int×Int)→Int→List Int×Fr3→List Int×Int
 | [],_,st=>(st.1,0)
 | x::xs,i,st=>if(gainF l x.1 x.2 G N).2.2.2=0 then bestGo l G N xs (i+1) (ke6 l G N x i st)else([],1)
abbrev E2:Ef (Int×Int):=Ef.pair (Ef.int .i64) (Ef.int .i64)
def IntsP(h0:AH)(r:List Int×Int)(v:AV)(h':AH):Prop:=∃s1:Sl,v=.tup [s1.v,.int .i64 r.2]∧Sq (Ef.int .i64) h' Fp.all s1 r.1∧Grow h0 h'
theorem BestAt.more{h0 h h':AH}{iA iB iO:Nat}{oi:Option Nat}{G N:Int}{st:List Int×Fr3}(e:BestAt h0 h iA iB iO oi G N st)(g:Grow h h'):BestAt h0 h' iA iB iO oi G N st:=by
 obtain⟨t1,t2,bB,x1,x2⟩:=e.best;obtain⟨s,bO,gf⟩:=e.outs;exact⟨e.grow.trans g,g.has e.hA,⟨t1,t2,g.has bB,x1.grow g,x2.grow g⟩,⟨s,g.has bO,gf.grow g⟩,e.ab,e.ao,e.bo,e.na,e.nb,e.no,e.la,e.lb,e.lo,e.lg⟩
theorem k1o(i:Int)(g:Fr3)(st:List Int×Fr3):(askF i g st).1.length≤st.1.length+1:=by
 unfold askF;split
 ·simp
 ·split
  ·simp
  ·simp
theorem E2_at{h:AH}{S:Fp}{s:Sl}{xs:List (Int×Int)}(n:Sq E2 h S s xs){i:Nat}(hi:i<xs.length):∃r:Ref,idx s.ref s.len (i:Int) 2=some r∧h.cell (r.add 0)=some (.int .i64 xs[i].1)∧h.cell (r.add 1)=some (.int .i64 xs[i].2):=by
 obtain⟨r,cs,e1,e2,e3⟩:=n.at (i:=(i:Int)) (kgg hi);obtain⟨c1,c2,rfl,rfl,rfl⟩:=e2;rw[n.len];exact⟨r,e1,e3.at' 0 _ rfl,e3.at' 1 _ rfl⟩
theorem kbd0{h0:AH}{iA iB iO:Nat}{l G N:Int}{s:Sl}{xs:List (Int×Int)}(n0:Sq E2 h0 Fp.all s xs)(hlen:xs.length≤16384):∀(k i:Nat),i+k=xs.length→∀{h:AH}{oi:Option Nat}{st:List Int×Fr3},BestAt h0 h iA iB iO oi G N st→st.1.length≤i→
  Runs (go (.pt kee kf7 [(0,.int .i64 l),(6,.ptr (some (.new iA 0))),(10,.ptr (some (.new iO 0))),(13,.func (.func keb) [] [.ptr (some (.new iB 0)),.ptr (some (.new iO 0))]),(47,s.v),(48,.int .i64 (xs.length:Int)),(49,.int .i64 (i:Int))]) h) (IntsP h0 (bestGo l G N (xs.drop i) (i:Int) st)):=by
 intro k
 induction k with
 | zero =>
  intro i hi h oi st e hl;rw[kwj];obtain⟨t,bO,gf⟩:=e.outs;refine Runs.ifF (by rw[decide_eq_false_iff_not];omega) ?_;refine Runs.step (bO.rd0 (f:=AV.asSl) rfl (asSl_v _)) ?_;rw[List.drop_of_length_le (by omega)];exact Runs.ret ⟨t,rfl,gf.sq.mono fun _ _=>trivial,e.grow⟩
 | succ k ih =>
  intro i hi h oi st e hl;have hx:i<xs.length:=by omega
  rw[kwj];refine Runs.ifT (by rw[decide_eq_true_eq];omega) ?_;obtain⟨r,e1,c0,c1⟩:=E2_at (n0.grow e.grow) hx;refine Runs.step e1 ?_;refine Runs.step (rdc c0 (ke _ _)) ?_;refine Runs.step (rdc c1 (ke _ _)) ?_;refine Runs.new fun h12 b12 g12=>?_;refine Runs.puts b12 rfl fun h13 b13 u13=>?_;have g13:Grow h h13:=g12.updr (Nat.le_refl _) u13;refine Runs.step (b13.rd 0 (f:=AV.asInt .i64) rfl (ke _ _)) ?_;refine Runs.step (b13.rd 1 (f:=AV.asInt .i64) rfl (ke _ _)) ?_;have a13:=g13.has e.hA;refine Runs.step (a13.rd 0 (f:=AV.asInt .i64) rfl (ke _ _)) ?_;refine Runs.step (a13.rd 1 (f:=AV.asInt .i64) rfl (ke _ _)) ?_;obtain⟨_,h18,e18,u1,u2,rfl,n1,n2,g18,w1,w2⟩:=k7r (h:=h13) l xs[i].1 xs[i].2 G N;refine Runs.step e18 ?_;refine Runs.step rfl ?_;refine Runs.step rfl ?_;refine Runs.ifT rfl ?_;refine Runs.step rfl ?_;refine Runs.step (asSl_v _) ?_;refine Runs.step (asSl_v _) ?_;refine Runs.step (seen (ke _ _)) ?_;dsimp only;refine Runs.new fun h25 b25 g25=>?_;refine Runs.puts b25 rfl fun h26 b26 u26=>?_;have g26':Grow h18 h26:=g25.updr (Nat.le_refl _) u26;have g26:Grow h h26:=(g13.trans g18).trans g26';rw[List.drop_eq_getElem_cons hx];rcases k4w l xs[i].1 xs[i].2 G N with er | er
  ·rw[er];refine Runs.ifF rfl ?_
   have hgo:bestGo l G N (xs[i]::xs.drop (i+1)) (i:Int) st=bestGo l G N (xs.drop (i+1)) ((i+1:Nat):Int) (ke6 l G N xs[i] (i:Int) st):=by
    rw[bestGo,if_pos er];rfl
   rw[hgo,ko (by omega)];have d13:=(g18.trans g26').has b13
   have skip:¬(xs[i].2>0∧xs[i].2<N)→Runs (go (.pt kee kf7 [(0,.int .i64 l),(6,.ptr (some (.new iA 0))),(10,.ptr (some (.new iO 0))),(13,.func (.func keb) [] [.ptr (some (.new iB 0)),.ptr (some (.new iO 0))]),(47,s.v),(48,.int .i64 (xs.length:Int)),(49,.int .i64 ((i+1:Nat):Int))]) h26) (IntsP h0 (bestGo l G N (xs.drop (i+1)) ((i+1:Nat):Int) (ke6 l G N xs[i] (i:Int) st))):=fun hn=>by
    unfold ke6;rw[if_neg hn];exact ih (i+1) (by omega) (e.more g26) (by omega)
   refine Runs.step (d13.rd 1 (f:=AV.asInt .i64) rfl (ke _ _)) ?_;refine Runs.cond (fun k1=>?_) (fun k1=>?_)
   ·rw[decide_eq_true_eq]at k1;refine Runs.step (d13.rd 1 (f:=AV.asInt .i64) rfl (ke _ _)) ?_;refine Runs.step ((g26.has e.hA).rd 1 (f:=AV.asInt .i64) rfl (ke _ _)) ?_;refine Runs.cond (fun k2=>?_) (fun k2=>?_)
    ·rw[decide_eq_true_eq]at k2;refine Runs.step (b26.rd 0 (f:=AV.asBool) rfl rfl) ?_;refine Runs.step (b26.rd 1 (f:=AV.asSl) rfl (asSl_v _)) ?_;refine Runs.step (b26.rd 2 (f:=AV.asSl) rfl (asSl_v _)) ?_;obtain⟨t1,t2,bB,x1,x2⟩:=e.best;obtain⟨so,bO,gf⟩:=e.outs;have lB:=bB.lt;have lO:=bO.lt;have sz:=g13.size
     have off:∀{u:Sl}{ys:List Nat},Nats h18 u ys→Own h13 u→Off h26 u ys iB iO oi:=fun nn ww =>
      ⟨(nn.grow g25).upda (Av.of_base nn (Nat.le_refl _)) u26,Av.of_own ww (by omega),Av.of_own ww (by omega),AvO.of_own ww (by
       have:=gf.lt;revert this;cases oi with
       | none=>exact fun _=>trivial
       | some q=>exact fun hq=>Nat.lt_of_lt_of_le hq sz)⟩
     obtain⟨_,h33,e33,rfl,oi',e'⟩:=ask_is (g:=Fr3.of (gainF l xs[i].1 xs[i].2 G N)) (e.more g26) (by omega) (off n1 w1) (off n2 w2) (i:Int);refine Runs.step e33 ?_;refine Runs.step rfl ?_
     have hs:ke6 l G N xs[i] (i:Int) st=askF (i:Int) (Fr3.of (gainF l xs[i].1 xs[i].2 G N)) st:=by
      unfold ke6;rw[if_pos ⟨k1,k2⟩]
     rw[hs];exact ih (i+1) (by omega) e' (Nat.le_trans (k1o _ _ _) (by omega))
    ·rw[decide_eq_false_iff_not]at k2;exact skip fun hh=>k2 hh.2
   ·rw[decide_eq_false_iff_not]at k1;exact skip fun hh=>k1 hh.1
  ·rw[er];refine Runs.ifT rfl ?_;rw[bestGo,if_neg (by rw[er];decide)];exact Runs.ret ⟨⟨none,0,.is 0⟩,rfl,Sq.nil _ _ _,e.grow.trans g26⟩
def gammaF(γ:Int):Fr3:=Fr3.of (kbg (ofI γ).1 (ofI γ).2 [1])
def bestF(l γ G N:Int)(xs:List (Int×Int)):List Int×Int :=
 cond (!kbe G N) ([],1) (cond (!kb1 l) ([],1) (cond (decide (γ<0)) ([],1) (cond (decide (γ>1048576)) ([],1) (cond (decide ((xs.length:Int)>16384)) ([],1) (bestGo l G N xs 0 ([],gammaF γ))))))
theorem k0a{h:AH}{s:Sl}{xs:List (Int×Int)}(n:Sq E2 h Fp.all s xs)(l γ G N:Int):Runs (go (.fn kee [.int .i64 l,.int .i64 γ,.agg [.int .i64 G,.int .i64 N],s.v]) h) (IntsP h (bestF l γ G N xs)):=by
 have bad:∀{h':AH},Grow h h'→bestF l γ G N xs=([],1)→Runs (some (.tup [(⟨none,0,.is 0⟩:Sl).v,.int .i64 1],h')) (IntsP h (bestF l γ G N xs)):=fun g e=>by
  rw[e];exact Runs.ret ⟨⟨none,0,.is 0⟩,rfl,Sq.nil _ _ _,g⟩
 rw[kyt];refine Runs.new fun h6 b6 g6=>?_;refine Runs.step (b6.rd 0 (f:=AV.asInt .i64) rfl (ke _ _)) ?_;refine Runs.step (b6.rd 1 (f:=AV.asInt .i64) rfl (ke _ _)) ?_;obtain⟨_,h9,e9,rfl,g9⟩:=ki3 (h:=h6) G N;refine Runs.step e9 ?_;refine Runs.step (seen rfl) ?_;refine Runs.cond (fun k1=>?_) (fun k1=>?_)
 ·exact bad (g6.trans g9) (by unfold bestF;rw[k1];rfl)
 obtain⟨_,h11,e11,rfl,g11⟩:=kqb (h:=h9) l;refine Runs.step e11 ?_;refine Runs.step (seen rfl) ?_;have G11:=(g6.trans g9).trans g11;refine Runs.cond (fun k2=>?_) (fun k2=>?_)
 ·exact bad G11 (by unfold bestF;rw[k1,cond_false,k2];rfl)
 refine Runs.cond (fun k3=>?_) (fun k3=>?_)
 ·exact bad G11 (by unfold bestF;rw[k1,cond_false,k2,cond_false,k3];rfl)
 refine Runs.cond (fun k4=>?_) (fun k4=>?_)
 ·exact bad G11 (by unfold bestF;rw[k1,cond_false,k2,cond_false,k3,cond_false,k4];rfl)
 rw[n.len];refine Runs.cond (fun k5=>?_) (fun k5=>?_)
 ·exact bad G11 (by unfold bestF;rw[k1,cond_false,k2,cond_false,k3,cond_false,k4,cond_false,k5];rfl)
 have ef:bestF l γ G N xs=bestGo l G N xs 0 ([],gammaF γ):=by
  unfold bestF;rw[k1,cond_false,k2,cond_false,k3,cond_false,k4,cond_false,k5,cond_false]
 rw[ef];rw[decide_eq_false_iff_not]at k3 k4 k5;dsimp only;refine Runs.new fun h13 b13 g13=>?_;obtain⟨s14,h14,e14,n14,g14,o14⟩:=klf (h:=h13) γ (by omega);refine Runs.step e14 ?_;refine Runs.step rfl ?_;refine Runs.ifT rfl ?_;refine Runs.step rfl ?_;refine Runs.step (asSl_v _) ?_;dsimp only;refine Runs.new fun h18 b18 g18=>?_;have n1:Nats h18 (⟨some (.new h14.blks.size 0),1,.is 1⟩:Sl) [1]:=Nats.of_has (xs:=[1]) b18 (by decide) (by simp);obtain⟨_,h19,e19,u1,u2,rfl,m1,m2,g19,w1,w2⟩:=ko3 (n14.grow g18) n1 (ofI γ).1;refine Runs.step e19 ?_;refine Runs.step rfl ?_;refine Runs.step rfl ?_;refine Runs.ifT rfl ?_;refine Runs.step rfl ?_;refine Runs.step (asSl_v _) ?_;refine Runs.step (asSl_v _) ?_;refine Runs.step (seen (ke _ _)) ?_;dsimp only;refine Runs.new fun h26 b26 g26=>?_;refine Runs.puts b26 rfl fun h27 b27 u27=>?_;have l6:h.blks.size<h6.blks.size:=b6.lt;have s9:=g9.size;have s11:=g11.size;have l13:h11.blks.size<h13.blks.size:=b13.lt;have s14:=g14.size;have s18:=g18.size;have s19:=g19.size;have gU:Grow h19 h27:=g26.updr (Nat.le_refl _) u27
 have off:∀{u:Sl}{ys:List Nat},Nats h19 u ys→Own h18 u→Off h27 u ys h19.blks.size h11.blks.size none:=fun nn ww =>
  ⟨(nn.grow g26).upda (Av.of_base nn (Nat.le_refl _)) u27,Av.of_base nn (Nat.le_refl _),Av.of_own ww (by omega),trivial⟩
 have gX:=((g14.trans g18).trans g19).trans gU
 have at0:BestAt h h27 h.blks.size h19.blks.size h11.blks.size none G N ([],gammaF γ):=by
  refine⟨(G11.trans g13).trans gX,gX.has (g13.has ((g9.trans g11).has b6)),⟨u1,u2,b27,off m1 w1,off m2 w2⟩,⟨_,gX.has b13,GF.none _ _ _ _⟩,?_,?_,?_,trivial,trivial,trivial,?_,?_,?_,trivial⟩<;>omega
 have:=kbd0 n (by omega) (l:=l) (s:=s) xs.length 0 (by omega) at0 (Nat.le_refl _)
 simpa using this
end Go.Ab
set_option maxRecDepth 10000
namespace Go.Ab
open Go.Proofs
def idsR(l:List Int):Bool:=decide (l.length≤256)&&(!(l.any fun x=>decide (x<0)||decide (x>1073741824))&&decide l.Nodup)
structure Tb where
 ids:List Int
 bins:List Int
 cols:List (List Int)
def colR(t:Tb)(i:Nat):Bool:=!decide (t.bins.getD i 0<2)&&!decide (t.bins.getD i 0>32)&&decide ((t.cols.getD i []).length=t.ids.length)&&!((t.cols.getD i []).any fun x=>decide (x<0)||decide (x≥t.bins.getD i 0))
def tabR(t:Tb):Bool:=idsR t.ids&&!decide (t.cols.length>16)&&decide (t.bins.length=t.cols.length)&&(List.range t.cols.length).all (colR t)
structure TabAt(h:AH)(S:Fp)(s1 s2 s3:Sl)(t:Tb):Prop where
 ids:Sq EI h S s1 t.ids
 bins:Sq EI h S s2 t.bins
 cols:Sq (Ef.seq EI) h S s3 t.cols
theorem TabAt.grow{h h':AH}{S:Fp}{s1 s2 s3:Sl}{t:Tb}(n:TabAt h S s1 s2 s3 t)(g:Grow h h'):TabAt h' S s1 s2 s3 t:=⟨n.ids.grow g,n.bins.grow g,n.cols.grow g⟩
section
variable{h0:AH}{S:Fp}{s:Sl}{xs:List Int}
theorem k2i(n:Sq EI h0 S s xs):Runs (go (.fn kdg [s.v,.func (.func kdc) [] []]) h0) fun v h'=>v=.bool (xs.any fun x=>decide (x<0)||decide (x>1073741824))∧Grow h0 h':=by
 rw[kzf];refine Runs.contains (xs:=xs) ?_;rw[k90,n.len];refine km2 (n:=xs.length) (G:=fun z h=>go (.pt kbn kcg [(0,s.v),(1,.func (.func kdc) [] []),(7,.int .i64 (xs.length:Int)),(8,.int .i64 z)]) h) (fun i h P hi g hT hF=>?_) (fun h g=>?_) xs.length 0 (by omega) (Grow.refl h0) (fun j hj=>by omega)
 ·obtain⟨r,e1,e2⟩:=(n.grow g).int hi;rw[List.getElem?_eq_getElem hi]at hT hF;simp only[Option.any_some]at hT hF;show Runs (go _ _) _;rw[kxe];refine Runs.ifT (decide_eq_true (by omega)) (Runs.step e1 (Runs.step e2 ?_))
  have key:go (.fn kdc [.int .i64 xs[i]]) h=some (.bool (decide (xs[i]<0)||decide (xs[i]>1073741824)),h):=by
   rw[k0j];cases decide (xs[i]<0)<;>rfl
  refine Runs.step key (Runs.step (seen rfl) ?_);rw[ko (by have:=n.short;omega)];exact Runs.cond (fun c=>Runs.ret (hT h g c)) fun c=>hF h g c
 ·rw[kxe,condF (decide_eq_false (by omega))]
theorem kzo(n:Sq EI h0 S s xs)(hl:xs.length≤256){m:Nat}(hm:h0.blks.size≤m):∀(k i:Nat),i+k=xs.length→∀{h:AH}{l:List (Int×AV)},Grow h0 h→MapIs h m l→(∀x,(kvGet l x).isSome=true↔x∈xs.take i)→l.length≤i→(l.length=i↔(xs.take i).Nodup)→
  Runs (go (.pt kgq knj [(3,.map (some m)),(7,s.v),(8,.int .i64 (xs.length:Int)),(9,.int .i64 (i:Int))]) h) fun v h'=>Grow h0 h'∧v=.map (some m)∧∃l,MapIs h' m l∧(l.length=xs.length↔xs.Nodup):=by
 intro k
 induction k with
 | zero =>
  intro i hi h l g M hk hle hn;rw[kxt];refine Runs.ifF (decide_eq_false (by omega)) (Runs.ret ⟨g,rfl,l,M,?_⟩);rw[show i=xs.length from by omega,List.take_length]at hn;exact hn
 | succ k ih =>
  intro i hi h l g M hk hle hn;have hlt:i<xs.length:=by omega
  obtain⟨r,e1,e2⟩:=(n.grow g).int hlt;rw[kxt];refine Runs.ifT (decide_eq_true (by omega)) (Runs.step e1 (Runs.step e2 ?_));obtain⟨h1,e3,M1,u1⟩:=M.put xs[i] (.int .i64 (i:Int));refine Runs.step e3 ?_;rw[ko (by omega)];have ht:xs.take (i+1)=xs.take i++[xs[i]]:=List.take_succ_eq_append_getElem hlt;have hi:=hk xs[i];refine ih (i+1) (by omega) (g.updr hm u1) M1 (fun x=>?_) ?_ ?_
  ·rw[kbbi,ht,List.mem_append,List.mem_singleton];by_cases hx:x=xs[i]
   ·rw[if_pos hx];exact⟨fun _=>.inr hx,fun _=>rfl⟩
   ·rw[if_neg hx,hk x];exact⟨.inl,fun h=>h.resolve_right hx⟩
  ·cases hg:kvGet l xs[i]with
   | none=>rw[ktn _ hg];simp;omega
   | some w=>rw[kwz _ hg];omega
  ·rw[ht,List.nodup_append];cases hg:kvGet l xs[i]with
   | none =>
    rw[hg]at hi;have hni:xs[i]∉xs.take i:=fun h=>by simpa using hi.2 h
    rw[ktn _ hg];simp only[List.length_append,List.length_singleton];constructor
    ·intro e;refine⟨hn.1 (by omega),by simp,fun a ha b hb=>?_⟩;rw[List.mem_singleton]at hb;subst hb
     rintro rfl
     exact hni ha
    ·intro e;rw[hn.2 e.1]
   | some w =>
    rw[hg]at hi;have hin:xs[i]∈xs.take i:=hi.1 rfl;rw[kwz _ hg];constructor
    ·intro e;omega
    ·intro e;exact absurd rfl (e.2.2 _ hin _ (by simp))
theorem k6z(n:Sq EI h0 S s xs):Runs (go (.fn kqh [s.v]) h0) fun v h'=>v=.bool (idsR xs)∧Grow h0 h':=by
 rw[k8y,n.len];unfold idsR;refine Runs.cond (fun c=>?_) (fun c=>?_)
 ·rw[decide_eq_true_eq]at c;rw[decide_eq_true (show xs.length≤256 by omega),Bool.true_and];refine(k2i n).call fun v h1 ⟨e,g1⟩=>?_;subst e;refine Runs.step (seen rfl) ?_;refine Runs.cond (fun c2=>?_) (fun c2=>?_)
  ·rw[c2,Bool.true_and]
   have key:Runs (go (.fn kgq [s.v]) h1) fun v h'=>Grow h1 h'∧∃m l,v=.map (some m)∧MapIs h' m l∧(l.length=xs.length↔xs.Nodup):=by
    rw[k1n,n.len];refine Runs.newMap fun h2 M g2=>?_;exact(kzo (n.grow g1) (by omega) (m:=h1.blks.size) (Nat.le_refl _) xs.length 0 (by omega) (l:=[]) g2 M (fun x=>by simp[kvGet]) (Nat.le_refl _) (by simp)).imp fun v h' ⟨g,e,l,M,hn⟩=>⟨g,_,l,e,M,hn⟩
   refine key.call fun v h2 ⟨g2,m,l,e,M,hn⟩=>?_;subst e;refine Runs.step (seen rfl) (Runs.step M.size (Runs.ret ⟨congrArg AV.bool ?_,g1.trans g2⟩));rw[decide_eq_decide,← hn];omega
  ·rw[c2,Bool.false_and];exact Runs.ret ⟨rfl,g1⟩
 ·rw[decide_eq_false_iff_not]at c;rw[decide_eq_false (show¬xs.length≤256 by omega),Bool.false_and];exact Runs.ret ⟨rfl,Grow.refl _⟩
end
theorem kbag{h0:AH}{S:Fp}{s:Sl}{xs:List Int}(n:Sq EI h0 S s xs){b:Nat}{z:Int}{e:TypeId}(hb:h0.has b [.int .i64 z] e):Runs (go (.fn kdg [s.v,.func (.func kdl) [] [.ptr (some (.new b 0))]]) h0) fun v h'=>v=.bool (xs.any fun x=>decide (x<0)||decide (x≥z))∧Grow h0 h':=by
 rw[kyh];refine Runs.contains (xs:=xs) ?_;rw[k2n,n.len];refine km2 (n:=xs.length) (G:=fun y h=>go (.pt kbn kcg [(0,s.v),(1,.func (.func kdl) [] [.ptr (some (.new b 0))]),(7,.int .i64 (xs.length:Int)),(8,.int .i64 y)]) h) (fun i h P hi g hT hF=>?_) (fun h g=>?_) xs.length 0 (by omega) (Grow.refl h0) (fun j hj=>by omega)
 ·obtain⟨r,e1,e2⟩:=(n.grow g).int hi;rw[List.getElem?_eq_getElem hi]at hT hF;simp only[Option.any_some]at hT hF;show Runs (go _ _) _;rw[kt0];refine Runs.ifT (decide_eq_true (by omega)) (Runs.step e1 (Runs.step e2 ?_))
  have key:Runs (go (.fn kdl [.int .i64 xs[i],.ptr (some (.new b 0))]) h) fun v h'=>v=.bool (decide (xs[i]<0)||decide (xs[i]≥z))∧h'=h:=by
   rw[k8q];cases decide (xs[i]<0)
   ·refine Runs.ifF rfl (Runs.step rfl (Runs.step ((g.has hb).rd0 rfl (ke _ _)) ?_));exact Runs.ret ⟨rfl,rfl⟩
   ·exact Runs.ret ⟨rfl,rfl⟩
  refine key.call fun v h' ⟨ev,eh⟩=>?_;subst ev;subst eh;refine Runs.step (seen rfl) ?_;rw[ko (by have:=n.short;omega)];exact Runs.cond (fun c=>Runs.ret (hT _ g c)) fun c=>hF _ g c
 ·rw[kt0,condF (decide_eq_false (by omega))]
section
variable{h0:AH}{S:Fp}{s1 s2 s3:Sl}{t:Tb}
theorem kbak(n:TabAt h0 S s1 s2 s3 t)(hl:t.cols.length≤16)(hb:t.bins.length=t.cols.length){b:Nat}(hbb:h0.blks.size≤b):∀(k i:Nat),i+k=t.cols.length→∀{h:AH},Grow h0 h→h.has b [s1.v,s2.v,s3.v] kds→
  Runs (go (.pt kfn knr [(1,.ptr (some (.new b 0))),(27,s3.v),(28,.int .i64 (t.cols.length:Int)),(29,.int .i64 (i:Int))]) h) fun v h'=>v=.bool (((List.range t.cols.length).drop i).all (colR t))∧Grow h0 h':=by
 intro k
 induction k with
 | zero =>
  intro i hi h g B;rw[kt6];refine Runs.ifF (decide_eq_false (by omega)) (Runs.ret ⟨?_,g⟩);rw[kjk (by simp;omega)]
 | succ k ih =>
  intro i hi h g B;have hc:i<t.cols.length:=by omega
  have hbi:i<t.bins.length:=by omega
  obtain⟨r,s',e1,e2,-,n'⟩:=(n.cols.grow g).sl hc;obtain⟨r2,e3,e4⟩:=(n.bins.grow g).int hbi;rw[kt6];refine Runs.ifT (decide_eq_true (by omega)) (Runs.step e1 (Runs.step e2 (Runs.step (B.rd 1 rfl (asSl_v _)) (Runs.step e3 (Runs.step e4 ?_)))));refine Runs.new fun h1 b1 g1=>Runs.puts b1 rfl fun h2 b2 u2=>?_;have G:Grow h h2:=g1.updr (Nat.le_refl _) u2;have B2:=G.has B;rw[ko2 hc]
  have hcol:colR t i=(!decide (t.bins[i]<2)&&!decide (t.bins[i]>32)&&decide (t.cols[i].length=t.ids.length)&&!(t.cols[i].any fun x=>decide (x<0)||decide (x≥t.bins[i]))):=by
   simp[colR,List.getD,hbi,hc]
  rw[hcol];refine Runs.step (b2.rd0 rfl (ke _ _)) (Runs.cond (fun c=>Runs.ret ⟨by rw[c];rfl,g.trans G⟩) fun c=>?_);refine Runs.step (b2.rd0 rfl (ke _ _)) (Runs.cond (fun c2=>Runs.ret ⟨by rw[c,c2];rfl,g.trans G⟩) fun c2=>?_);refine Runs.step (B2.rd 0 rfl (asSl_v _)) ?_;rw[n'.len,n.ids.len];refine Runs.cond (fun c3=>Runs.ret ⟨?_,g.trans G⟩) fun c3=>?_
  ·have:¬t.cols[i].length=t.ids.length:=by simpa[Int.ofNat_inj]using c3
   rw[c,c2,decide_eq_false this];rfl
  have c3:t.cols[i].length=t.ids.length:=by simpa[Int.ofNat_inj]using c3
  refine(kbag (n'.grow G) b2).call fun v h3 ⟨ev,g3⟩=>?_;subst ev;refine Runs.step (seen rfl) (Runs.cond (fun c4=>Runs.ret ⟨by rw[c,c2,decide_eq_true c3,c4];rfl,(g.trans G).trans g3⟩) fun c4=>?_);rw[c,c2,decide_eq_true c3,c4,ko (by omega)];exact ih (i+1) (by omega) ((g.trans G).trans g3) (g3.has B2)
theorem kxi(n:TabAt h0 S s1 s2 s3 t):Runs (go (.fn kfn [.agg [s1.v,s2.v,s3.v]]) h0) fun v h'=>v=.bool (tabR t)∧Grow h0 h':=by
 rw[k4e];refine Runs.new fun h4 b4 g4=>Runs.step (b4.rd 0 rfl (asSl_v _)) ?_;refine(k6z (n.ids.grow g4)).call fun v h6 ⟨ev,g6⟩=>?_;subst ev;have B:=g6.has b4;have G:=g4.trans g6;unfold tabR;refine Runs.step (seen rfl) (Runs.cond (fun c=>Runs.ret ⟨by rw[show idsR t.ids=false by simpa using c];rfl,G⟩) fun c=>?_);rw[show idsR t.ids=true by simpa using c,Bool.true_and];refine Runs.step (B.rd 2 rfl (asSl_v _)) ?_;rw[n.cols.len];refine Runs.cond (fun c2=>Runs.ret ⟨?_,G⟩) fun c2=>?_
 ·rw[decide_eq_true_eq]at c2;rw[decide_eq_true (show t.cols.length>16 by omega)];rfl
 rw[decide_eq_false_iff_not]at c2;rw[decide_eq_false (show¬t.cols.length>16 by omega)];refine Runs.step (B.rd 1 rfl (asSl_v _)) (Runs.step (B.rd 2 rfl (asSl_v _)) ?_);rw[n.bins.len,n.cols.len];refine Runs.cond (fun c3=>Runs.ret ⟨?_,G⟩) fun c3=>?_
 ·have:¬t.bins.length=t.cols.length:=by simpa[Int.ofNat_inj]using c3
  rw[decide_eq_false this];rfl
 have c3:t.bins.length=t.cols.length:=by simpa[Int.ofNat_inj]using c3
 rw[decide_eq_true c3];refine Runs.step (B.rd 2 rfl (asSl_v _)) ?_;rw[n.cols.len];exact kbak n (by omega) c3 (Nat.le_refl _) t.cols.length 0 (by omega) G B
end
theorem AH.has.at{h:AH}{i:Nat}{cs:List AV}{e:TypeId}(b:h.has i cs e){k:Nat}{v:AV}(hk:cs[k]?=some v):h.cell (.new i k)=some v:=(b.cell k).trans hk
theorem Runs.yieldF{f:FuncId}{a c xs:List AV}{A:Nat×List AV→Option (AV×AH)}{B:Option (AV×AH)}{P:AV→AH→Prop}(H:Runs B P):Runs (yieldK (.func (.func f) a c) xs A B) P:=H
def Nd.may(x:Nd)(i n:Int):Prop:=if x.leaf=true then(-1099511627776≤x.weight∧x.weight≤1099511627776∧x.party=0∧x.feature=0∧x.cut=0∧x.left=0∧x.right=0)
 else(x.weight=0∧0≤x.party∧x.party≤15∧0≤x.feature∧x.feature≤1073741824∧0≤x.cut∧x.cut≤31∧i<x.left∧x.left<n∧i<x.right∧x.right<n∧x.left≠x.right)
instance Nd.mayDec(x:Nd)(i n:Int):Decidable (x.may i n):=by unfold Nd.may;exact inferInstance
theorem kvl(a b c:Int)(h:AH):callV Pg go (.func (.func ke9) [] []) [.int .i64 a,.int .i64 b,.int .i64 c] h=some (.bool (decide (b≤a)&&decide (a≤c)),h):=by
 show callF Pg go ke9 _ h=_;rw[k8s];show go (.fn ke9 [.int .i64 a,.int .i64 b,.int .i64 c]) h=_;rw[k7y];by_cases k:a≥b
 ·rw[condT (decide_eq_true k),decide_eq_true (show b≤a from k)];rfl
 ·rw[condF (decide_eq_false k),decide_eq_false (show¬b≤a from k)];rfl
theorem k20{h:AH}{a i n:Int}{x y z:Nat}{e1 e2 e3:TypeId}(b1:h.has x [.func (.func ke9) [] []] e1)(b2:h.has y [.int .i64 i] e2)(b3:h.has z [.int .i64 n] e3)(hi:0≤i∧i≤1000)(hn:0≤n∧n≤1000) :
  go (.fn kb0 [.int .i64 a,.ptr (some (.new x 0)),.ptr (some (.new y 0)),.ptr (some (.new z 0))]) h=some (.bool (decide (i<a)&&decide (a<n)),h):=by
 have:Runs (go (.fn kb0 [.int .i64 a,.ptr (some (.new x 0)),.ptr (some (.new y 0)),.ptr (some (.new z 0))]) h) fun v h'=>v=.bool (decide (i<a)&&decide (a<n))∧h'=h:=by
  rw[k3i];refine Runs.step (b1.at rfl) (Runs.step (b2.rd0 rfl (ke _ _)) (Runs.step (b3.rd0 rfl (ke _ _)) (Runs.yieldF ?_)));refine Runs.step (kvl _ _ _ _) (Runs.step (seen rfl) (Runs.ret ⟨congrArg AV.bool ?_,rfl⟩));have w1:IntKind.wrap .i64 (i+1)=i+1:=wrap64 (by omega) (by omega);have w2:IntKind.wrap .i64 (n-1)=n-1:=wrap64 (by omega) (by omega);rw[w1,w2];congr 1<;>rw[decide_eq_decide]<;>omega
 obtain⟨_,_,e,rfl,rfl⟩:=this;exact e
theorem k7x{h:AH}(x:Nd){i n:Int}(hi:0≤i∧i≤1000)(hn:0≤n∧n≤1000):Runs (go (.fn kmb [.agg x.cells,.int .i64 i,.int .i64 n]) h) fun v h'=>v=.bool (decide (x.may i n))∧Grow h h':=by
 obtain⟨leaf,w,p,f,c,l,r⟩:=x;show Runs (go (.fn kmb [.agg [.bool leaf,.int .i64 w,.int .i64 p,.int .i64 f,.int .i64 c,.int .i64 l,.int .i64 r],.int .i64 i,.int .i64 n]) h) _;rw[k8e];refine Runs.new fun h1 b1 g1=>Runs.new fun h2 b2 g2=>Runs.new fun h3 b3 g3=>Runs.new fun h4 b4 g4=>Runs.puts b4 rfl fun h5 b5 u5=>?_;have g5:=(Grow.refl h3).trans g4 |>.updr (Nat.le_refl _) u5;have b1:=(g2.trans (g3.trans g5)).has b1;have b2:=(g3.trans g5).has b2;have b3:=g5.has b3;have G:=g1.trans (g2.trans (g3.trans g5))
 have fin:∀{b:Bool},(b=true↔Nd.may ⟨leaf,w,p,f,c,l,r⟩ i n)→Runs (some (.bool b,h5)) fun v h'=>v=.bool (decide (Nd.may ⟨leaf,w,p,f,c,l,r⟩ i n))∧Grow h h':=fun{b} e=>Runs.ret ⟨congrArg AV.bool (by
  rw[Bool.eq_iff_iff,decide_eq_true_eq];exact e),G⟩
 cases leaf
 all_goals
  repeat' first
   | refine Runs.yieldF ?_
   | refine Runs.step (kvl _ _ _ _) ?_
   | refine Runs.step (k20 b5 b2 b3 hi hn) ?_
   | refine Runs.step (AH.has.rd (by assumption) _ rfl (by first | exact ke _ _ | rfl)) ?_
   | refine Runs.step (AH.has.at (by assumption) rfl) ?_
   | refine Runs.step (seen rfl) ?_
   | refine Runs.cond (fun k=>?_) (fun k=>?_)
  all_goals
   refine fin ?_;simp[Nd.may]at *
   try omega
theorem k02{h:AH}(x:Nd){i n:Int}:Runs (go (.fn kmz [.agg x.cells,.int .i64 i,.int .i64 n]) h) fun v h'=>v=.bool (decide (x.may i n))∧Grow h h':=by
 obtain⟨leaf,w,p,f,c,l,r⟩:=x;show Runs (go (.fn kmz [.agg [.bool leaf,.int .i64 w,.int .i64 p,.int .i64 f,.int .i64 c,.int .i64 l,.int .i64 r],.int .i64 i,.int .i64 n]) h) _;rw[k0h];refine Runs.new fun h5 b1 G=>?_
 have fin:∀{b:Bool},(b=true↔Nd.may ⟨leaf,w,p,f,c,l,r⟩ i n)→Runs (some (.bool b,h5)) fun v h'=>v=.bool (decide (Nd.may ⟨leaf,w,p,f,c,l,r⟩ i n))∧Grow h h':=fun{b} e=>Runs.ret ⟨congrArg AV.bool (by
  rw[Bool.eq_iff_iff,decide_eq_true_eq];exact e),G⟩
 cases leaf
 all_goals
  repeat' first
   | refine Runs.step (AH.has.rd (by assumption) _ rfl (by first | exact ke _ _ | rfl)) ?_
   | refine Runs.cond (fun k=>?_) (fun k=>?_)
  all_goals
   refine fin ?_;simp[Nd.may]at *
   try omega
abbrev EM:Ef (List Nd):=Ef.seq Ef.nd
def Nd.no:Nd:=⟨false,0,0,0,0,0,0⟩
def nodesR(l:List Nd)(i:Nat):Bool:=decide ((l.getD i Nd.no).may (i:Int) (l.length:Int))
def treeR(l:List Nd):Bool:=!decide (l.length<1)&&!decide (l.length>63)&&(List.range l.length).all (nodesR l)
def modR(m:List (List Nd)):Bool:=!decide (m.length>16)&&m.all treeR
section
variable{h0:AH}{S:Fp}{s:Sl}{m:List (List Nd)}
theorem k7s{l:List Nd}{t:Sl}(n:Sq Ef.nd h0 S t l)(hl:l.length≤63){b:Nat}(hb:h0.has b [t.v] kbz)(hl2:m.length≤16){z:Nat}(hz:z<m.length):∀(k i:Nat),i+k=l.length→∀{h:AH},Grow h0 h→
  (∀h',Grow h0 h'→Runs (go (.pt kde kkf [(12,s.v),(13,.int .i64 (m.length:Int)),(14,.int .i64 ((z+1:Nat):Int))]) h') fun v h''=>v=.bool ((m.drop (z+1)).all treeR)∧Grow h' h'')→
  Runs (go (.pt kde kmk [(4,.ptr (some (.new b 0))),(12,s.v),(13,.int .i64 (m.length:Int)),(14,.int .i64 (z:Int)),(29,t.v),(30,.int .i64 (l.length:Int)),(31,.int .i64 (i:Int))]) h) fun v h'=>v=.bool (((List.range l.length).drop i).all (nodesR l)&&(m.drop (z+1)).all treeR)∧Grow h0 h':=by
 intro k
 induction k with
 | zero =>
  intro i hi h g next;rw[kw0];refine Runs.ifF (decide_eq_false (by omega)) ?_;rw[ko (by omega),kjk (by simp;omega),Bool.true_and];exact(next h g).imp fun v h' ⟨a,b⟩=>⟨a,g.trans b⟩
 | succ k ih =>
  intro i hi h g next;have hlt:i<l.length:=by omega
  obtain⟨r,e,e0,e1,e2,e3,e4,e5,e6⟩:=(n.grow g).nd hlt;rw[kw0];refine Runs.ifT (decide_eq_true (by omega)) (Runs.step e (Runs.step e0 (Runs.step e1 (Runs.step e2 (Runs.step e3 (Runs.step e4 (Runs.step e5 (Runs.step e6 ?_))))))));refine Runs.new fun h1 b1 g1=>Runs.puts b1 rfl fun h2 b2 u2=>?_;have G:Grow h h2:=g1.updr (Nat.le_refl _) u2;have hb2:=(g.trans G).has hb
  repeat refine Runs.step (AH.has.rd (by assumption) _ rfl (by first | exact ke _ _ | exact asSl_v _ | rfl)) ?_
  rw[n.len];refine(k7x l[i] (i:=(i:Int)) (n:=(l.length:Int)) (by omega) (by omega)).call fun v h3 ⟨ev,g3⟩=>?_;subst ev;refine Runs.step (seen rfl) ?_;have hn:nodesR l i=decide (l[i].may (i:Int) (l.length:Int)):=by simp[nodesR,List.getD,hlt]
  rw[ko2 hlt,hn];refine Runs.cond (fun c=>Runs.ret ⟨?_,(g.trans G).trans g3⟩) fun c=>?_
  ·rw[Bool.not_eq_true']at c;rw[c];rfl
  ·rw[Bool.not_eq_false']at c;rw[c,Bool.true_and,ko (by omega)];exact ih (i+1) (by omega) ((g.trans G).trans g3) next
theorem kba7(n:Sq EM h0 S s m)(hl:m.length≤16):∀(k z:Nat),z+k=m.length→∀{h:AH},Grow h0 h→
  Runs (go (.pt kde kkf [(12,s.v),(13,.int .i64 (m.length:Int)),(14,.int .i64 (z:Int))]) h) fun v h'=>v=.bool ((m.drop z).all treeR)∧Grow h h':=by
 intro k
 induction k with
 | zero =>
  intro z hz h g;rw[kya];refine Runs.ifF (decide_eq_false (by omega)) (Runs.ret ⟨by rw[kjk (by omega)],Grow.refl _⟩)
 | succ k ih =>
  intro z hz h g;have hlt:z<m.length:=by omega
  obtain⟨r,t,e1,-,e2,n'⟩:=(n.grow g).sl hlt;rw[kya];refine Runs.ifT (decide_eq_true (by omega)) (Runs.step e1 (Runs.step e2 ?_));refine Runs.new fun h1 b1 g1=>Runs.puts b1 rfl fun h2 b2 u2=>?_;have G:Grow h h2:=g1.updr (Nat.le_refl _) u2;refine Runs.step (b2.rd 0 rfl (asSl_v _)) ?_;rw[n'.len,kqp hlt];unfold treeR;refine Runs.cond (fun c=>Runs.ret ⟨?_,G⟩) fun c=>?_
  ·rw[decide_eq_true_eq]at c;rw[decide_eq_true (show m[z].length<1 by omega)];rfl
  rw[decide_eq_false_iff_not]at c;rw[decide_eq_false (show¬m[z].length<1 by omega)];refine Runs.step (b2.rd 0 rfl (asSl_v _)) ?_;rw[n'.len];refine Runs.cond (fun c2=>Runs.ret ⟨?_,G⟩) fun c2=>?_
  ·rw[decide_eq_true_eq]at c2;rw[decide_eq_true (show m[z].length>63 by omega)];rfl
  rw[decide_eq_false_iff_not]at c2;rw[decide_eq_false (show¬m[z].length>63 by omega)];refine Runs.step (b2.rd 0 rfl (asSl_v _)) ?_;rw[n'.len];refine(k7s (n'.grow G) (by omega) b2 hl hlt m[z].length 0 (by omega) (Grow.refl _) fun h' g'=>ih (z+1) (by omega) ((g.trans G).trans g')).imp fun v h' ⟨a,b⟩=>⟨?_,G.trans b⟩;rw[a];rfl
theorem kbcd(n:Sq EM h0 S s m):Runs (go (.fn kde [.agg [s.v]]) h0) fun v h'=>v=.bool (modR m)∧Grow h0 h':=by
 rw[k8h];refine Runs.new fun h2 b2 g2=>Runs.step (b2.rd 0 rfl (asSl_v _)) ?_;rw[n.len];unfold modR;refine Runs.cond (fun c=>Runs.ret ⟨?_,g2⟩) fun c=>?_
 ·rw[decide_eq_true_eq]at c;rw[decide_eq_true (show m.length>16 by omega)];rfl
 rw[decide_eq_false_iff_not]at c;rw[decide_eq_false (show¬m.length>16 by omega)];refine Runs.step (b2.rd 0 rfl (asSl_v _)) ?_;rw[n.len];exact(kba7 n (by omega) m.length 0 (by omega) g2).imp fun v h' ⟨a,b⟩=>⟨a,g2.trans b⟩
theorem kbaz{l:List Nd}{t:Sl}(n:Sq Ef.nd h0 S t l)(hl:l.length≤63){b:Nat}(hl2:m.length≤16){z:Nat}(hz:z<m.length):∀(k i:Nat),i+k=l.length→∀{h:AH},Grow h0 h→
  (∀h',Grow h0 h'→Runs (go (.pt kc7 kj2 [(1,.ptr (some (.new b 0))),(3,.int .i64 ((z+1:Nat):Int))]) h') fun v h''=>v=.bool ((m.drop (z+1)).all treeR)∧Grow h' h'')→
  Runs (go (.pt kc7 kn1 [(1,.ptr (some (.new b 0))),(3,.int .i64 (z:Int)),(4,t.v),(5,.int .i64 (i:Int))]) h) fun v h'=>v=.bool (((List.range l.length).drop i).all (nodesR l)&&(m.drop (z+1)).all treeR)∧Grow h0 h':=by
 intro k
 induction k with
 | zero =>
  intro i hi h g next;rw[kv9,n.len];refine Runs.ifF (decide_eq_false (by omega)) ?_;rw[ko (by omega),kjk (by simp;omega),Bool.true_and];exact(next h g).imp fun v h' ⟨a,b⟩=>⟨a,g.trans b⟩
 | succ k ih =>
  intro i hi h g next;have hlt:i<l.length:=by omega
  obtain⟨r,e,e0,e1,e2,e3,e4,e5,e6⟩:=(n.grow g).nd hlt;rw[kv9,n.len];rw[n.len]at e;refine Runs.ifT (decide_eq_true (by omega)) (Runs.step e (Runs.step e0 (Runs.step e1 (Runs.step e2 (Runs.step e3 (Runs.step e4 (Runs.step e5 (Runs.step e6 ?_))))))));refine(k02 l[i] (i:=(i:Int)) (n:=(l.length:Int))).call fun v h3 ⟨ev,g3⟩=>?_;subst ev;refine Runs.step (seen rfl) ?_;have hn:nodesR l i=decide (l[i].may (i:Int) (l.length:Int)):=by simp[nodesR,List.getD,hlt]
  rw[ko2 hlt,hn];refine Runs.cond (fun c=>Runs.ret ⟨?_,g.trans g3⟩) fun c=>?_
  ·rw[Bool.not_eq_true']at c;rw[c];rfl
  ·rw[Bool.not_eq_false']at c;rw[c,Bool.true_and,ko (by omega)];exact ih (i+1) (by omega) (g.trans g3) next
theorem kbap(n:Sq EM h0 S s m)(hl:m.length≤16){b:Nat}(hb:h0.has b [s.v] kce):∀(k z:Nat),z+k=m.length→∀{h:AH},Grow h0 h→
  Runs (go (.pt kc7 kj2 [(1,.ptr (some (.new b 0))),(3,.int .i64 (z:Int))]) h) fun v h'=>v=.bool ((m.drop z).all treeR)∧Grow h h':=by
 intro k
 induction k with
 | zero =>
  intro z hz h g;rw[kwa];refine Runs.step ((g.has hb).rd 0 rfl (asSl_v _)) ?_;rw[n.len];refine Runs.ifF (decide_eq_false (by omega)) (Runs.ret ⟨by rw[kjk (by omega)],Grow.refl _⟩)
 | succ k ih =>
  intro z hz h g;have hlt:z<m.length:=by omega
  obtain⟨r,t,e1,-,e2,n'⟩:=(n.grow g).sl hlt;rw[kwa];refine Runs.step ((g.has hb).rd 0 rfl (asSl_v _)) ?_;rw[n.len];rw[n.len]at e1;refine Runs.ifT (decide_eq_true (by omega)) (Runs.step ((g.has hb).rd 0 rfl (asSl_v _)) ?_);rw[n.len];refine Runs.step e1 (Runs.step e2 ?_);rw[n'.len,kqp hlt];unfold treeR;refine Runs.cond (fun c=>Runs.ret ⟨?_,Grow.refl _⟩) fun c=>?_
  ·rw[decide_eq_true_eq]at c;rw[decide_eq_true (show m[z].length<1 by omega)];rfl
  rw[decide_eq_false_iff_not]at c;rw[decide_eq_false (show¬m[z].length<1 by omega)];refine Runs.cond (fun c2=>Runs.ret ⟨?_,Grow.refl _⟩) fun c2=>?_
  ·rw[decide_eq_true_eq]at c2;rw[decide_eq_true (show m[z].length>63 by omega)];rfl
  rw[decide_eq_false_iff_not]at c2;rw[decide_eq_false (show¬m[z].length>63 by omega)];exact kbaz n' (by omega) hl hlt m[z].length 0 (by omega) (Grow.refl _) fun h' g'=>ih (z+1) (by omega) (g.trans g')
theorem k0z(n:Sq EM h0 S s m):Runs (go (.fn kc7 [.agg [s.v]]) h0) fun v h'=>v=.bool (modR m)∧Grow h0 h':=by
 rw[k9h];refine Runs.new fun h2 b2 g2=>Runs.step (b2.rd 0 rfl (asSl_v _)) ?_;rw[n.len];unfold modR;refine Runs.cond (fun c=>Runs.ret ⟨?_,g2⟩) fun c=>?_
 ·rw[decide_eq_true_eq]at c;rw[decide_eq_true (show m.length>16 by omega)];rfl
 rw[decide_eq_false_iff_not]at c;rw[decide_eq_false (show¬m.length>16 by omega)];exact(kbap (n.grow g2) (by omega) b2 m.length 0 (by omega) (Grow.refl _)).imp fun v h' ⟨a,b⟩=>⟨a,g2.trans b⟩
end
end Go.Ab
