/- squeezed -/
import Derived.Test.YtnoegamaadakpaaGreatDoorPS28a
import Derived.Test.YtnoegamaadakpaaGreatDoorPS2
import Derived.Test.YtnoegamaadakpaaGreatDoorPAbsS
set_option linter.unusedVariables false
set_option linter.unusedSimpArgs false
set_option linter.unusedSectionVars false

set_option maxRecDepth 10000
namespace Go.Ab
open Go.Proofs Go.Num
inductive kgu
 | fn (x1:List Nat) (x2:List Nat)
 | p4 (x1:List Nat) (x2:List Nat)
abbrev ke1:=List Nat×Int
noncomputable def kf9(x1 x2:List Nat):Option (kgu⊕ke1) :=
 cond (!(rt x1)) (some (.inr ([],1))) (cond (!(rt x2)) (some (.inr ([],1))) ((need (List.length x1≤8796093022208)).bind fun c7_0=>(need (List.length x2≤8796093022208)).bind fun c8_0=>some (.inl (.p4 x1 x2))))
noncomputable def kiy(x1 x2:List Nat):Option (kgu⊕ke1) :=
 cond (decide ((List.length x2:Int)>0)) (some (.inl (.p4 x2 ((divN x1 x2).2.1)))) (some (.inr (x1,0)))
noncomputable def ks7:kgu→Option (kgu⊕ke1)
 | .fn x1 x2=>kf9 x1 x2
 | .p4 x1 x2=>kiy x1 x2
@[reducible] def kt1(h0:AH)(r:ke1)(v:AV)(h':AH):Prop:=∃s1:Sl,v=.tup [s1.v,.int .i64 r.2]∧Nats h' s1 r.1∧Grow h0 h'∧Own h0 s1
def kku(r:ke1):kgu→Prop
 | .fn x1 x2=>∀{h:AH}{a1:Sl}{a2:Sl},Nats h a1 x1→Nats h a2 x2→Runs (go (.fn F.kfk [a1.v,a2.v]) h) (kt1 h r)
 | .p4 x1 x2=>∀{h0 h:AH}{a1:Sl}{a2:Sl},Grow h0 h→Nats h a1 x1→Nats h a2 x2→Own h0 a1→Own h0 a2→Runs (go (.pt F.kfk Td.kqy [(0,a1.v),(1,a2.v)]) h) (kt1 h0 r)
theorem k4k{r:ke1}{o:kgu⊕ke1}{x1 x2:List Nat}(e:kf9 x1 x2=some o)(good:GoodS (kku r) r o):kku r (.fn x1 x2):=by
 intro h a1 a2 n1 n2;rw[kbcd];unfold kf9 at e;refine Runs.step (kcr n1) ?_;refine Runs.step (seen rfl) ?_;refine Runs.cond (fun k4=>?_) (fun k4=>?_)
 ·replace e:=(condT k4).symm.trans e;cases e;cases good;exact Runs.ret ⟨(⟨none,0,.is 0⟩:Sl),rfl,(Nats.nil _),(Grow.refl _),(Own.nil _)⟩
 ·replace e:=(condF k4).symm.trans e;refine Runs.step (kcr n2) ?_;refine Runs.step (seen rfl) ?_;refine Runs.cond (fun k6=>?_) (fun k6=>?_)
  ·replace e:=(condT k6).symm.trans e;cases e;cases good;exact Runs.ret ⟨(⟨none,0,.is 0⟩:Sl),rfl,(Nats.nil _),(Grow.refl _),(Own.nil _)⟩
  ·replace e:=(condF k6).symm.trans e;obtain⟨c7_0,q7_0,e⟩:=Option.bind_eq_some_iff.1 e;obtain⟨s7,H7,e7,n7,g7,o7⟩:=kki n1  c7_0.down;refine Runs.step e7 ?_;refine Runs.step (seen (asSl_v _)) ?_;obtain⟨c8_0,q8_0,e⟩:=Option.bind_eq_some_iff.1 e;obtain⟨s8,H8,e8,n8,g8,o8⟩:=kki (n2.grow g7)  c8_0.down;refine Runs.step e8 ?_;refine Runs.step (seen (asSl_v _)) ?_;cases e;exact good (g7.trans g8) (n7.grow g8) n8 (o7.of_le (Grow.refl _)) (o8.of_le g7)
theorem kbig{r:ke1}{o:kgu⊕ke1}{x1 x2:List Nat}(e:kiy x1 x2=some o)(good:GoodS (kku r) r o):kku r (.p4 x1 x2):=by
 intro h0 h a1 a2 g0 n1 n2 ow1 ow2;rw[k73];unfold kiy at e;rw[n2.len];refine Runs.cond (fun k3=>?_) (fun k3=>?_)
 ·replace e:=(condT k3).symm.trans e;obtain⟨s4,s4b,H4,e4,n4,n4b,g4,o4,o4b⟩:=kfu n1 n2;refine Runs.step e4 ?_;refine Runs.step rfl ?_;refine Runs.step (seen (asSl_v _)) ?_;refine Runs.step (seen (asSl_v _)) ?_;refine Runs.step (seen (kc _ _)) ?_;cases e;exact good (g0.trans g4) (n2.grow g4) n4b (ow2.of_le (Grow.refl _)) (o4b.of_le g0)
 ·replace e:=(condF k3).symm.trans e;cases e;cases good;exact Runs.ret ⟨a1,rfl,n1,g0,(ow1.of_le (Grow.refl _))⟩
theorem kbct{s:kgu}{r:ke1}(it:Iter ks7 s r):kku r s:=Iter.ind (fun s o e good=>by
 cases s with
 | fn x1 x2=>exact @k4k _ _ x1 x2 e good
 | p4 x1 x2=>exact @kbig _ _ x1 x2 e good
 ) it
inductive kha
 | fn (x1:List Nat) (x2:List Nat)
 | p7 (x1:List Nat) (x2:List Nat)
abbrev kfa:=List Nat×Int
noncomputable def kfy(x1 x2:List Nat):Option (kha⊕kfa) :=
 cond (!(rt x1)) (some (.inr ([],1))) (cond (!(rt x2)) (some (.inr ([],1))) ((need (List.length x1≤1073741824)).bind fun c8=>(need (List.length x2≤1073741824)).bind fun c10=>some (.inl (.p7 x1 x2))))
noncomputable def kh1(x1 x2:List Nat):Option (kha⊕kfa) :=
 cond (decide ((List.length x2:Int)>0)) (some (.inl (.p7 x2 ((divN x1 x2).2.1)))) (some (.inr (x1,0)))
noncomputable def ku2:kha→Option (kha⊕kfa)
 | .fn x1 x2=>kfy x1 x2
 | .p7 x1 x2=>kh1 x1 x2
@[reducible] def kuk(h0:AH)(r:kfa)(v:AV)(h':AH):Prop:=∃s1:Sl,v=.tup [s1.v,.int .i64 r.2]∧Nats h' s1 r.1∧Grow h0 h'∧Own h0 s1
def kkq(r:kfa):kha→Prop
 | .fn x1 x2=>∀{h:AH}{a1:Sl}{a2:Sl},Nats h a1 x1→Nats h a2 x2→Runs (go (.fn F.khd [a1.v,a2.v]) h) (kuk h r)
 | .p7 x1 x2=>∀{h0 h:AH}{a1:Sl}{a2:Sl},Grow h0 h→Nats h a1 x1→Nats h a2 x2→Own h0 a1→Own h0 a2→Runs (go (.pt F.khd Td.ko5 [(8,a1.v),(9,a2.v)]) h) (kuk h0 r)
theorem kbia{r:kfa}{o:kha⊕kfa}{x1 x2:List Nat}(e:kfy x1 x2=some o)(good:GoodS (kkq r) r o):kkq r (.fn x1 x2):=by
 intro h a1 a2 n1 n2;rw[k8b];unfold kfy at e;refine Runs.step (kd9 n1) ?_;refine Runs.step (seen rfl) ?_;refine Runs.step (kd9 n2) ?_;refine Runs.step (seen rfl) ?_;refine Runs.cond (fun k5=>?_) (fun k5=>?_)
 ·replace e:=(condT k5).symm.trans e;cases e;cases good;exact Runs.ret ⟨(⟨none,0,.is 0⟩:Sl),rfl,(Nats.nil _),(Grow.refl _),(Own.nil _)⟩
 ·replace e:=(condF k5).symm.trans e;refine Runs.cond (fun k6=>?_) (fun k6=>?_)
  ·replace e:=(condT k6).symm.trans e;cases e;cases good;exact Runs.ret ⟨(⟨none,0,.is 0⟩:Sl),rfl,(Nats.nil _),(Grow.refl _),(Own.nil _)⟩
  ·replace e:=(condF k6).symm.trans e;refine Runs.new fun H7 b7 g7=>?_;refine Runs.step (kuz (n1.grow g7)) ?_;obtain⟨c8,q8,e⟩:=Option.bind_eq_some_iff.1 e;obtain⟨s8,H8,e8,n8,g8,o8⟩:=kyt b7 (n1.grow g7) g7 (Nat.le_refl _) c8.down;refine Runs.step e8 ?_;refine Runs.step (asSl_v _) ?_;refine Runs.new fun H9 b9 g9=>?_;refine Runs.step (kuz (n2.grow ((g7.trans g8).trans g9))) ?_;obtain⟨c10,q10,e⟩:=Option.bind_eq_some_iff.1 e;obtain⟨s10,H10,e10,n10,g10,o10⟩:=kyt b9 (n2.grow ((g7.trans g8).trans g9)) g9 (Nat.le_refl _) c10.down;refine Runs.step e10 ?_;refine Runs.step (asSl_v _) ?_;cases e;exact good (((g7.trans g8).trans g9).trans g10) (n8.grow (g9.trans g10)) n10 (o8.of_le (Grow.refl _)) (o10.of_le (g7.trans g8))
theorem kbdg{r:kfa}{o:kha⊕kfa}{x1 x2:List Nat}(e:kh1 x1 x2=some o)(good:GoodS (kkq r) r o):kkq r (.p7 x1 x2):=by
 intro h0 h a1 a2 g0 n1 n2 ow1 ow2;rw[k9n];unfold kh1 at e;rw[n2.len];refine Runs.cond (fun k3=>?_) (fun k3=>?_)
 ·replace e:=(condT k3).symm.trans e;obtain⟨s4,H4,e4,n4,g4,o4⟩:=k3q n1 n2;refine Runs.step e4 ?_;refine Runs.step (seen (asSl_v _)) ?_;cases e;exact good (g0.trans g4) (n2.grow g4) n4 (ow2.of_le (Grow.refl _)) (o4.of_le g0)
 ·replace e:=(condF k3).symm.trans e;cases e;cases good;exact Runs.ret ⟨a1,rfl,n1,g0,(ow1.of_le (Grow.refl _))⟩
theorem k67{s:kha}{r:kfa}(it:Iter ku2 s r):kkq r s:=Iter.ind (fun s o e good=>by
 cases s with
 | fn x1 x2=>exact @kbia _ _ x1 x2 e good
 | p7 x1 x2=>exact @kbdg _ _ x1 x2 e good
 ) it
inductive kjc
 | fn (a1:Bool) (x2:List Nat) (a3:Bool) (x4:List Nat)
 | no
abbrev kh8:=Bool×List Nat×Bool×List Nat×Int
noncomputable def kk3(a1:Bool)(x2:List Nat)(a3:Bool)(x4:List Nat):Option (kjc⊕kh8) :=
 cond (!((rtI a1 x2&&rtI a3 x4))) (some (.inr (false,[],false,[],1))) (cond (decide ((List.length x4:Int)=0)) (some (.inr (false,[],false,[],3))) (cond (a3) (some (.inr (false,[],false,[],1))) (cond (a1) (cond (decide ((List.length ((divN x2 x4).2.1):Int)>0)) ((u64P 1).bind fun p17=>cond (!decide (((addN ((divN x2 x4).1) (digs B p17)).2)=0)) (some (.inr (false,[],false,[],((addN ((divN x2 x4).1) (digs B p17)).2)))) (some (.inr ((((fromI a1 ((addN ((divN x2 x4).1) (digs B p17)).1)).1)),(fromI a1 ((addN ((divN x2 x4).1) (digs B p17)).1)).2,(((fromI false ((subN x4 ((divN x2 x4).2.1)).1)).1)),(fromI false ((subN x4 ((divN x2 x4).2.1)).1)).2,0)))) (some (.inr ((((fromI a1 ((divN x2 x4).1)).1)),(fromI a1 ((divN x2 x4).1)).2,(((fromI false ((divN x2 x4).2.1)).1)),(fromI false ((divN x2 x4).2.1)).2,0)))) (some (.inr ((((fromI a1 ((divN x2 x4).1)).1)),(fromI a1 ((divN x2 x4).1)).2,(((fromI false ((divN x2 x4).2.1)).1)),(fromI false ((divN x2 x4).2.1)).2,0))))))
noncomputable def k3f:kjc→Option (kjc⊕kh8)
 | .fn a1 x2 a3 x4=>kk3 a1 x2 a3 x4
 | .no=>none
@[reducible] def k2t(h0:AH)(r:kh8)(v:AV)(h':AH):Prop:=∃s1:Sl,∃s2:Sl,v=.tup [.agg [.bool r.1,s1.v],.agg [.bool r.2.2.1,s2.v],.int .i64 r.2.2.2.2]∧Nats h' s1 r.2.1∧Nats h' s2 r.2.2.2.1∧Grow h0 h'∧Own h0 s1∧Own h0 s2
def ksf(r:kh8):kjc→Prop
 | .fn a1 x2 a3 x4=>∀{h:AH}{a2:Sl}{a4:Sl},Nats h a2 x2→Nats h a4 x4→Runs (go (.fn F.kmf [.agg [.bool a1,a2.v],.agg [.bool a3,a4.v]]) h) (k2t h r)
 | .no=>True
theorem kbft{r:kh8}{o:kjc⊕kh8}{a1:Bool}{x2:List Nat}{a3:Bool}{x4:List Nat}(e:kk3 a1 x2 a3 x4=some o)(good:GoodS (ksf r) r o):ksf r (.fn a1 x2 a3 x4):=by
 intro h a2 a4 n2 n4;rw[k57];unfold kk3 at e;refine Runs.new fun H5 b5 g5=>?_;refine Runs.new fun H6 b6 g6=>?_;refine Runs.new fun H7 b7 g7=>?_;refine Runs.new fun H8 b8 g8=>?_;refine Runs.step (AH.has.rd (((g6.trans g7).trans g8).has b5) 0 rfl rfl) ?_;refine Runs.step (AH.has.rd (((g6.trans g7).trans g8).has b5) 1 rfl (asSl_v _)) ?_;refine Runs.step (AH.has.rd ((g7.trans g8).has b6) 0 rfl rfl) ?_;refine Runs.step (AH.has.rd ((g7.trans g8).has b6) 1 rfl (asSl_v _)) ?_;refine Runs.new fun H9 b9 g9=>?_;obtain⟨H10,e10,g10⟩:=kn9 b9 (n2.grow ((((g5.trans g6).trans g7).trans g8).trans g9)) (n4.grow ((((g5.trans g6).trans g7).trans g8).trans g9));refine Runs.step e10 ?_;refine Runs.step (seen rfl) ?_;refine Runs.cond (fun k11=>?_) (fun k11=>?_)
 ·replace e:=(condT k11).symm.trans e;refine Runs.puts (((g8.trans g9).trans g10).has b7) rfl fun H12 b12 u12=>?_;have b8_12:=AH.has.updr ((g9.trans g10).has b8) (Nat.ne_of_gt (Nat.lt_of_lt_of_le (b7).lt (Nat.le_refl _))) u12;have b9_12:=AH.has.updr (g10.has b9) (Nat.ne_of_gt (Nat.lt_of_lt_of_le (g8.has b7).lt (Nat.le_refl _))) u12;refine Runs.puts b8_12 rfl fun H13 b13 u13=>?_;have b12_13:=AH.has.updr b12 (Nat.ne_of_lt (Nat.lt_of_lt_of_le (b7).lt (Nat.le_refl _))) u13;have b9_13:=AH.has.updr b9_12 (Nat.ne_of_gt (Nat.lt_of_lt_of_le (b8).lt (Nat.le_refl _))) u13;refine Runs.step (AH.has.rd b12_13 0 rfl rfl) ?_;refine Runs.step (AH.has.rd b12_13 1 rfl (asSl_v _)) ?_;refine Runs.step (AH.has.rd b13 0 rfl rfl) ?_;refine Runs.step (AH.has.rd b13 1 rfl (asSl_v _)) ?_;cases e;cases good;exact Runs.ret ⟨(⟨none,0,.is 0⟩:Sl),(⟨none,0,.is 0⟩:Sl),rfl,(Nats.nil _),(Nats.nil _),(((((((g5.trans g6).trans g7).trans g8).trans g9).trans g10).updr (Nat.le_trans ((g5.trans g6)).size (Nat.le_refl _)) u12).updr (Nat.le_trans (((g5.trans g6).trans g7)).size (Nat.le_refl _)) u13),(Own.nil _),(Own.nil _)⟩
 ·replace e:=(condF k11).symm.trans e;refine Runs.step (AH.has.rd ((((g7.trans g8).trans g9).trans g10).has b6) 1 rfl (asSl_v _)) ?_;rw[(n4.grow (((((g5.trans g6).trans g7).trans g8).trans g9).trans g10)).len];refine Runs.cond (fun k12=>?_) (fun k12=>?_)
  ·replace e:=(condT k12).symm.trans e;refine Runs.puts (((g8.trans g9).trans g10).has b7) rfl fun H13 b13 u13=>?_;have b8_13:=AH.has.updr ((g9.trans g10).has b8) (Nat.ne_of_gt (Nat.lt_of_lt_of_le (b7).lt (Nat.le_refl _))) u13;have b9_13:=AH.has.updr (g10.has b9) (Nat.ne_of_gt (Nat.lt_of_lt_of_le (g8.has b7).lt (Nat.le_refl _))) u13;refine Runs.puts b8_13 rfl fun H14 b14 u14=>?_;have b13_14:=AH.has.updr b13 (Nat.ne_of_lt (Nat.lt_of_lt_of_le (b7).lt (Nat.le_refl _))) u14;have b9_14:=AH.has.updr b9_13 (Nat.ne_of_gt (Nat.lt_of_lt_of_le (b8).lt (Nat.le_refl _))) u14;refine Runs.step (AH.has.rd b13_14 0 rfl rfl) ?_;refine Runs.step (AH.has.rd b13_14 1 rfl (asSl_v _)) ?_;refine Runs.step (AH.has.rd b14 0 rfl rfl) ?_;refine Runs.step (AH.has.rd b14 1 rfl (asSl_v _)) ?_;cases e;cases good;exact Runs.ret ⟨(⟨none,0,.is 0⟩:Sl),(⟨none,0,.is 0⟩:Sl),rfl,(Nats.nil _),(Nats.nil _),(((((((g5.trans g6).trans g7).trans g8).trans g9).trans g10).updr (Nat.le_trans ((g5.trans g6)).size (Nat.le_refl _)) u13).updr (Nat.le_trans (((g5.trans g6).trans g7)).size (Nat.le_refl _)) u14),(Own.nil _),(Own.nil _)⟩
  ·replace e:=(condF k12).symm.trans e;refine Runs.step (AH.has.rd ((((g7.trans g8).trans g9).trans g10).has b6) 0 rfl rfl) ?_;refine Runs.cond (fun k13=>?_) (fun k13=>?_)
   ·replace e:=(condT k13).symm.trans e;refine Runs.puts (((g8.trans g9).trans g10).has b7) rfl fun H14 b14 u14=>?_;have b8_14:=AH.has.updr ((g9.trans g10).has b8) (Nat.ne_of_gt (Nat.lt_of_lt_of_le (b7).lt (Nat.le_refl _))) u14;have b9_14:=AH.has.updr (g10.has b9) (Nat.ne_of_gt (Nat.lt_of_lt_of_le (g8.has b7).lt (Nat.le_refl _))) u14;refine Runs.puts b8_14 rfl fun H15 b15 u15=>?_;have b14_15:=AH.has.updr b14 (Nat.ne_of_lt (Nat.lt_of_lt_of_le (b7).lt (Nat.le_refl _))) u15;have b9_15:=AH.has.updr b9_14 (Nat.ne_of_gt (Nat.lt_of_lt_of_le (b8).lt (Nat.le_refl _))) u15;refine Runs.step (AH.has.rd b14_15 0 rfl rfl) ?_;refine Runs.step (AH.has.rd b14_15 1 rfl (asSl_v _)) ?_;refine Runs.step (AH.has.rd b15 0 rfl rfl) ?_;refine Runs.step (AH.has.rd b15 1 rfl (asSl_v _)) ?_;cases e;cases good;exact Runs.ret ⟨(⟨none,0,.is 0⟩:Sl),(⟨none,0,.is 0⟩:Sl),rfl,(Nats.nil _),(Nats.nil _),(((((((g5.trans g6).trans g7).trans g8).trans g9).trans g10).updr (Nat.le_trans ((g5.trans g6)).size (Nat.le_refl _)) u14).updr (Nat.le_trans (((g5.trans g6).trans g7)).size (Nat.le_refl _)) u15),(Own.nil _),(Own.nil _)⟩
   ·replace e:=(condF k13).symm.trans e;refine Runs.step (AH.has.rd (((((g6.trans g7).trans g8).trans g9).trans g10).has b5) 1 rfl (asSl_v _)) ?_;refine Runs.step (AH.has.rd ((((g7.trans g8).trans g9).trans g10).has b6) 1 rfl (asSl_v _)) ?_;obtain⟨s14,s14b,H14,e14,n14,n14b,g14,o14,o14b⟩:=kfu (n2.grow (((((g5.trans g6).trans g7).trans g8).trans g9).trans g10)) (n4.grow (((((g5.trans g6).trans g7).trans g8).trans g9).trans g10));refine Runs.step e14 ?_;refine Runs.step rfl ?_;refine Runs.step (seen (asSl_v _)) ?_;refine Runs.step (seen (asSl_v _)) ?_;rw[n14b.len];refine Runs.step (seen (kc _ _)) ?_;refine Runs.step (AH.has.rd ((((((g6.trans g7).trans g8).trans g9).trans g10).trans g14).has b5) 0 rfl rfl) ?_;refine Runs.cond (fun k15=>?_) (fun k15=>?_)
    ·replace e:=(condT k15).symm.trans e;refine Runs.cond (fun k16=>?_) (fun k16=>?_)
     ·replace e:=(condT k16).symm.trans e;obtain⟨p17,q17,e⟩:=Option.bind_eq_some_iff.1 e;obtain⟨s17,H17,e17,n17,g17,o17⟩:=kst q17;refine Runs.step e17 ?_;refine Runs.step (seen (asSl_v _)) ?_;obtain⟨s18,H18,e18,n18,g18,o18⟩:=knl (n14.grow g17) n17;refine Runs.step e18 ?_;refine Runs.step rfl ?_;refine Runs.step (seen (asSl_v _)) ?_;refine Runs.step (seen (kc _ _)) ?_;refine Runs.cond (fun k19=>?_) (fun k19=>?_)
      ·replace e:=(condT k19).symm.trans e;refine Runs.puts ((((((g8.trans g9).trans g10).trans g14).trans g17).trans g18).has b7) rfl fun H20 b20 u20=>?_;have n14_20:=(n14.grow (g17.trans g18)).upda (Av.of_own o14 (((g8.trans g9).trans g10).has b7).lt) u20;have n14b_20:=(n14b.grow (g17.trans g18)).upda (Av.of_own o14b (((g8.trans g9).trans g10).has b7).lt) u20;have n17_20:=(n17.grow g18).upda (Av.of_own o17 ((((g8.trans g9).trans g10).trans g14).has b7).lt) u20;have n18_20:=n18.upda (Av.of_own o18 (((((g8.trans g9).trans g10).trans g14).trans g17).has b7).lt) u20;have b8_20:=AH.has.updr (((((g9.trans g10).trans g14).trans g17).trans g18).has b8) (Nat.ne_of_gt (Nat.lt_of_lt_of_le (b7).lt (Nat.le_refl _))) u20;have b9_20:=AH.has.updr ((((g10.trans g14).trans g17).trans g18).has b9) (Nat.ne_of_gt (Nat.lt_of_lt_of_le (g8.has b7).lt (Nat.le_refl _))) u20;refine Runs.puts b8_20 rfl fun H21 b21 u21=>?_;have n14_21:=n14_20.upda (Av.of_own o14 ((g9.trans g10).has b8).lt) u21;have n14b_21:=n14b_20.upda (Av.of_own o14b ((g9.trans g10).has b8).lt) u21;have n17_21:=n17_20.upda (Av.of_own o17 (((g9.trans g10).trans g14).has b8).lt) u21;have n18_21:=n18_20.upda (Av.of_own o18 ((((g9.trans g10).trans g14).trans g17).has b8).lt) u21;have b20_21:=AH.has.updr b20 (Nat.ne_of_lt (Nat.lt_of_lt_of_le (b7).lt (Nat.le_refl _))) u21;have b9_21:=AH.has.updr b9_20 (Nat.ne_of_gt (Nat.lt_of_lt_of_le (b8).lt (Nat.le_refl _))) u21;refine Runs.step (AH.has.rd b20_21 0 rfl rfl) ?_;refine Runs.step (AH.has.rd b20_21 1 rfl (asSl_v _)) ?_;refine Runs.step (AH.has.rd b21 0 rfl rfl) ?_;refine Runs.step (AH.has.rd b21 1 rfl (asSl_v _)) ?_;cases e;cases good;exact Runs.ret ⟨(⟨none,0,.is 0⟩:Sl),(⟨none,0,.is 0⟩:Sl),rfl,(Nats.nil _),(Nats.nil _),((((((((((g5.trans g6).trans g7).trans g8).trans g9).trans g10).trans g14).trans g17).trans g18).updr (Nat.le_trans ((g5.trans g6)).size (Nat.le_refl _)) u20).updr (Nat.le_trans (((g5.trans g6).trans g7)).size (Nat.le_refl _)) u21),(Own.nil _),(Own.nil _)⟩
      ·replace e:=(condF k19).symm.trans e;refine Runs.step (AH.has.rd (((((((g7.trans g8).trans g9).trans g10).trans g14).trans g17).trans g18).has b6) 1 rfl (asSl_v _)) ?_;obtain⟨s20,H20,e20,n20,g20,o20⟩:=kk5 (n4.grow ((((((((g5.trans g6).trans g7).trans g8).trans g9).trans g10).trans g14).trans g17).trans g18)) (n14b.grow (g17.trans g18));refine Runs.step e20 ?_;refine Runs.step rfl ?_;refine Runs.step (seen (asSl_v _)) ?_;refine Runs.step (seen (kc _ _)) ?_;refine Runs.step (AH.has.rd (((((((((g6.trans g7).trans g8).trans g9).trans g10).trans g14).trans g17).trans g18).trans g20).has b5) 0 rfl rfl) ?_;obtain⟨s21,H21,e21,n21,g21,o21⟩:=kb5 (n18.grow g20) a1;refine Runs.step e21 ?_;refine Runs.step rfl ?_;refine Runs.ifT rfl ?_;refine Runs.step (seenAt rfl rfl) ?_;refine Runs.step (seenAt rfl (asSl_v _)) ?_;obtain⟨s22,H22,e22,n22,g22,o22⟩:=kb5 (n20.grow g21) false;refine Runs.step e22 ?_;refine Runs.step rfl ?_;refine Runs.ifT rfl ?_;refine Runs.step (seenAt rfl rfl) ?_;refine Runs.step (seenAt rfl (asSl_v _)) ?_;refine Runs.puts (((((((((g8.trans g9).trans g10).trans g14).trans g17).trans g18).trans g20).trans g21).trans g22).has b7) rfl fun H23 b23 u23=>?_;have n14_23:=(n14.grow ((((g17.trans g18).trans g20).trans g21).trans g22)).upda (Av.of_own o14 (((g8.trans g9).trans g10).has b7).lt) u23;have n14b_23:=(n14b.grow ((((g17.trans g18).trans g20).trans g21).trans g22)).upda (Av.of_own o14b (((g8.trans g9).trans g10).has b7).lt) u23;have n17_23:=(n17.grow (((g18.trans g20).trans g21).trans g22)).upda (Av.of_own o17 ((((g8.trans g9).trans g10).trans g14).has b7).lt) u23;have n18_23:=(n18.grow ((g20.trans g21).trans g22)).upda (Av.of_own o18 (((((g8.trans g9).trans g10).trans g14).trans g17).has b7).lt) u23;have n20_23:=(n20.grow (g21.trans g22)).upda (Av.of_own o20 ((((((g8.trans g9).trans g10).trans g14).trans g17).trans g18).has b7).lt) u23;have n21_23:=(n21.grow g22).upda (Av.of_own o21 (((((((g8.trans g9).trans g10).trans g14).trans g17).trans g18).trans g20).has b7).lt) u23;have n22_23:=n22.upda (Av.of_own o22 ((((((((g8.trans g9).trans g10).trans g14).trans g17).trans g18).trans g20).trans g21).has b7).lt) u23;have b8_23:=AH.has.updr ((((((((g9.trans g10).trans g14).trans g17).trans g18).trans g20).trans g21).trans g22).has b8) (Nat.ne_of_gt (Nat.lt_of_lt_of_le (b7).lt (Nat.le_refl _))) u23;have b9_23:=AH.has.updr (((((((g10.trans g14).trans g17).trans g18).trans g20).trans g21).trans g22).has b9) (Nat.ne_of_gt (Nat.lt_of_lt_of_le (g8.has b7).lt (Nat.le_refl _))) u23;refine Runs.puts b8_23 rfl fun H24 b24 u24=>?_;have n14_24:=n14_23.upda (Av.of_own o14 ((g9.trans g10).has b8).lt) u24;have n14b_24:=n14b_23.upda (Av.of_own o14b ((g9.trans g10).has b8).lt) u24;have n17_24:=n17_23.upda (Av.of_own o17 (((g9.trans g10).trans g14).has b8).lt) u24;have n18_24:=n18_23.upda (Av.of_own o18 ((((g9.trans g10).trans g14).trans g17).has b8).lt) u24;have n20_24:=n20_23.upda (Av.of_own o20 (((((g9.trans g10).trans g14).trans g17).trans g18).has b8).lt) u24;have n21_24:=n21_23.upda (Av.of_own o21 ((((((g9.trans g10).trans g14).trans g17).trans g18).trans g20).has b8).lt) u24;have n22_24:=n22_23.upda (Av.of_own o22 (((((((g9.trans g10).trans g14).trans g17).trans g18).trans g20).trans g21).has b8).lt) u24;have b23_24:=AH.has.updr b23 (Nat.ne_of_lt (Nat.lt_of_lt_of_le (b7).lt (Nat.le_refl _))) u24;have b9_24:=AH.has.updr b9_23 (Nat.ne_of_gt (Nat.lt_of_lt_of_le (b8).lt (Nat.le_refl _))) u24;refine Runs.step (AH.has.rd b23_24 0 rfl rfl) ?_;refine Runs.step (AH.has.rd b23_24 1 rfl (asSl_v _)) ?_;refine Runs.step (AH.has.rd b24 0 rfl rfl) ?_;refine Runs.step (AH.has.rd b24 1 rfl (asSl_v _)) ?_;cases e;cases good;exact Runs.ret ⟨s21,s22,rfl,n21_24,n22_24,(((((((((((((g5.trans g6).trans g7).trans g8).trans g9).trans g10).trans g14).trans g17).trans g18).trans g20).trans g21).trans g22).updr (Nat.le_trans ((g5.trans g6)).size (Nat.le_refl _)) u23).updr (Nat.le_trans (((g5.trans g6).trans g7)).size (Nat.le_refl _)) u24),(o21.of_le (((((((((g5.trans g6).trans g7).trans g8).trans g9).trans g10).trans g14).trans g17).trans g18).trans g20)),(o22.of_le ((((((((((g5.trans g6).trans g7).trans g8).trans g9).trans g10).trans g14).trans g17).trans g18).trans g20).trans g21))⟩
     ·replace e:=(condF k16).symm.trans e;refine Runs.step (AH.has.rd ((((((g6.trans g7).trans g8).trans g9).trans g10).trans g14).has b5) 0 rfl rfl) ?_;obtain⟨s17,H17,e17,n17,g17,o17⟩:=kb5 n14 a1;refine Runs.step e17 ?_;refine Runs.step rfl ?_;refine Runs.ifT rfl ?_;refine Runs.step (seenAt rfl rfl) ?_;refine Runs.step (seenAt rfl (asSl_v _)) ?_;obtain⟨s18,H18,e18,n18,g18,o18⟩:=kb5 (n14b.grow g17) false;refine Runs.step e18 ?_;refine Runs.step rfl ?_;refine Runs.ifT rfl ?_;refine Runs.step (seenAt rfl rfl) ?_;refine Runs.step (seenAt rfl (asSl_v _)) ?_;refine Runs.puts ((((((g8.trans g9).trans g10).trans g14).trans g17).trans g18).has b7) rfl fun H19 b19 u19=>?_;have n14_19:=(n14.grow (g17.trans g18)).upda (Av.of_own o14 (((g8.trans g9).trans g10).has b7).lt) u19;have n14b_19:=(n14b.grow (g17.trans g18)).upda (Av.of_own o14b (((g8.trans g9).trans g10).has b7).lt) u19;have n17_19:=(n17.grow g18).upda (Av.of_own o17 ((((g8.trans g9).trans g10).trans g14).has b7).lt) u19;have n18_19:=n18.upda (Av.of_own o18 (((((g8.trans g9).trans g10).trans g14).trans g17).has b7).lt) u19;have b8_19:=AH.has.updr (((((g9.trans g10).trans g14).trans g17).trans g18).has b8) (Nat.ne_of_gt (Nat.lt_of_lt_of_le (b7).lt (Nat.le_refl _))) u19;have b9_19:=AH.has.updr ((((g10.trans g14).trans g17).trans g18).has b9) (Nat.ne_of_gt (Nat.lt_of_lt_of_le (g8.has b7).lt (Nat.le_refl _))) u19;refine Runs.puts b8_19 rfl fun H20 b20 u20=>?_;have n14_20:=n14_19.upda (Av.of_own o14 ((g9.trans g10).has b8).lt) u20;have n14b_20:=n14b_19.upda (Av.of_own o14b ((g9.trans g10).has b8).lt) u20;have n17_20:=n17_19.upda (Av.of_own o17 (((g9.trans g10).trans g14).has b8).lt) u20;have n18_20:=n18_19.upda (Av.of_own o18 ((((g9.trans g10).trans g14).trans g17).has b8).lt) u20;have b19_20:=AH.has.updr b19 (Nat.ne_of_lt (Nat.lt_of_lt_of_le (b7).lt (Nat.le_refl _))) u20;have b9_20:=AH.has.updr b9_19 (Nat.ne_of_gt (Nat.lt_of_lt_of_le (b8).lt (Nat.le_refl _))) u20;refine Runs.step (AH.has.rd b19_20 0 rfl rfl) ?_;refine Runs.step (AH.has.rd b19_20 1 rfl (asSl_v _)) ?_;refine Runs.step (AH.has.rd b20 0 rfl rfl) ?_;refine Runs.step (AH.has.rd b20 1 rfl (asSl_v _)) ?_;cases e;cases good;exact Runs.ret ⟨s17,s18,rfl,n17_20,n18_20,((((((((((g5.trans g6).trans g7).trans g8).trans g9).trans g10).trans g14).trans g17).trans g18).updr (Nat.le_trans ((g5.trans g6)).size (Nat.le_refl _)) u19).updr (Nat.le_trans (((g5.trans g6).trans g7)).size (Nat.le_refl _)) u20),(o17.of_le ((((((g5.trans g6).trans g7).trans g8).trans g9).trans g10).trans g14)),(o18.of_le (((((((g5.trans g6).trans g7).trans g8).trans g9).trans g10).trans g14).trans g17))⟩
    ·replace e:=(condF k15).symm.trans e;refine Runs.step (AH.has.rd ((((((g6.trans g7).trans g8).trans g9).trans g10).trans g14).has b5) 0 rfl rfl) ?_;obtain⟨s16,H16,e16,n16,g16,o16⟩:=kb5 n14 a1;refine Runs.step e16 ?_;refine Runs.step rfl ?_;refine Runs.ifT rfl ?_;refine Runs.step (seenAt rfl rfl) ?_;refine Runs.step (seenAt rfl (asSl_v _)) ?_;obtain⟨s17,H17,e17,n17,g17,o17⟩:=kb5 (n14b.grow g16) false;refine Runs.step e17 ?_;refine Runs.step rfl ?_;refine Runs.ifT rfl ?_;refine Runs.step (seenAt rfl rfl) ?_;refine Runs.step (seenAt rfl (asSl_v _)) ?_;refine Runs.puts ((((((g8.trans g9).trans g10).trans g14).trans g16).trans g17).has b7) rfl fun H18 b18 u18=>?_;have n14_18:=(n14.grow (g16.trans g17)).upda (Av.of_own o14 (((g8.trans g9).trans g10).has b7).lt) u18;have n14b_18:=(n14b.grow (g16.trans g17)).upda (Av.of_own o14b (((g8.trans g9).trans g10).has b7).lt) u18;have n16_18:=(n16.grow g17).upda (Av.of_own o16 ((((g8.trans g9).trans g10).trans g14).has b7).lt) u18;have n17_18:=n17.upda (Av.of_own o17 (((((g8.trans g9).trans g10).trans g14).trans g16).has b7).lt) u18;have b8_18:=AH.has.updr (((((g9.trans g10).trans g14).trans g16).trans g17).has b8) (Nat.ne_of_gt (Nat.lt_of_lt_of_le (b7).lt (Nat.le_refl _))) u18;have b9_18:=AH.has.updr ((((g10.trans g14).trans g16).trans g17).has b9) (Nat.ne_of_gt (Nat.lt_of_lt_of_le (g8.has b7).lt (Nat.le_refl _))) u18;refine Runs.puts b8_18 rfl fun H19 b19 u19=>?_;have n14_19:=n14_18.upda (Av.of_own o14 ((g9.trans g10).has b8).lt) u19;have n14b_19:=n14b_18.upda (Av.of_own o14b ((g9.trans g10).has b8).lt) u19;have n16_19:=n16_18.upda (Av.of_own o16 (((g9.trans g10).trans g14).has b8).lt) u19;have n17_19:=n17_18.upda (Av.of_own o17 ((((g9.trans g10).trans g14).trans g16).has b8).lt) u19;have b18_19:=AH.has.updr b18 (Nat.ne_of_lt (Nat.lt_of_lt_of_le (b7).lt (Nat.le_refl _))) u19;have b9_19:=AH.has.updr b9_18 (Nat.ne_of_gt (Nat.lt_of_lt_of_le (b8).lt (Nat.le_refl _))) u19;refine Runs.step (AH.has.rd b18_19 0 rfl rfl) ?_;refine Runs.step (AH.has.rd b18_19 1 rfl (asSl_v _)) ?_;refine Runs.step (AH.has.rd b19 0 rfl rfl) ?_;refine Runs.step (AH.has.rd b19 1 rfl (asSl_v _)) ?_;cases e;cases good;exact Runs.ret ⟨s16,s17,rfl,n16_19,n17_19,((((((((((g5.trans g6).trans g7).trans g8).trans g9).trans g10).trans g14).trans g16).trans g17).updr (Nat.le_trans ((g5.trans g6)).size (Nat.le_refl _)) u18).updr (Nat.le_trans (((g5.trans g6).trans g7)).size (Nat.le_refl _)) u19),(o16.of_le ((((((g5.trans g6).trans g7).trans g8).trans g9).trans g10).trans g14)),(o17.of_le (((((((g5.trans g6).trans g7).trans g8).trans g9).trans g10).trans g14).trans g16))⟩
theorem kbld{s:kjc}{r:kh8}(it:Iter k3f s r):ksf r s:=Iter.ind (fun s o e good=>by
 cases s with
 | fn a1 x2 a3 x4=>exact @kbft _ _ a1 x2 a3 x4 e good
 | no=>exact True.intro
 ) it
end Go.Ab

/- squeezed -/
set_option maxRecDepth 10000
namespace Go.Ab
open Go.Proofs Go.Num
def gcdN(xs ys:List Nat):List Nat×Int:=if rt xs=true∧rt ys=true then(digs B (Nat.gcd (num B xs) (num B ys)),0)else([],1)
theorem kpj{xs ys:List Nat}(hx:rt xs=true)(hy:rt ys=true)(h0:ys≠[]):(divN xs ys).2.1=digs B (num B xs%num B ys):=by
 simp[divN,hx,hy,h0]
theorem kp{n:Nat}(h:n<B^64):rt (digs B n)=true:=rt_iff.2 ⟨(kbb B2 n 64).2 h,kc4 B2 n⟩
theorem kif{xs:List Nat}(hl:∀x∈xs,x<B)(h:rt xs=true):num B xs<B^64:=by
 have h1:=num_lt B1 hl;have h2:B^xs.length≤B^64:=Nat.pow_le_pow_right B1 (rt_iff.1 h).1;omega
theorem k4a:∀(b a:Nat),a<B^64→b<B^64→Iter ks7 (.p4 (digs B a) (digs B b)) (digs B (Nat.gcd a b),0):=by
 intro b
 induction b using Nat.strongRecOn with
 | ind b ih =>
  intro a ha hb;by_cases h0:b=0
  ·subst h0;refine .done ?_;show kiy _ _=_;unfold kiy;rw[kbp,Nat.gcd_zero_right];rfl
  ·have hm:=Nat.mod_lt a (show 0<b by omega);have hne:digs B b≠[]:=fun h=>h0 ((kep B2).1 h);have hl:(digs B b).length≠0:=by simpa using hne
   refine .next (s':=.p4 (digs B b) (digs B (a%b))) ?_ (by
    have:=ih (a%b) hm b hb (by omega);rwa[Nat.gcd_comm b,← Nat.gcd_rec,Nat.gcd_comm b]at this)
   show kiy _ _=_;unfold kiy;rw[condT (by rw[decide_eq_true_eq];omega),kpj (kp ha) (kp hb) hne,kg B2,kg B2]
theorem kbha:∀(b a:Nat),a<B^64→b<B^64→Iter ku2 (.p7 (digs B a) (digs B b)) (digs B (Nat.gcd a b),0):=by
 intro b
 induction b using Nat.strongRecOn with
 | ind b ih =>
  intro a ha hb;by_cases h0:b=0
  ·subst h0;refine .done ?_;show kh1 _ _=_;unfold kh1;rw[kbp,Nat.gcd_zero_right];rfl
  ·have hm:=Nat.mod_lt a (show 0<b by omega);have hne:digs B b≠[]:=fun h=>h0 ((kep B2).1 h);have hl:(digs B b).length≠0:=by simpa using hne
   refine .next (s':=.p7 (digs B b) (digs B (a%b))) ?_ (by
    have:=ih (a%b) hm b hb (by omega);rwa[Nat.gcd_comm b,← Nat.gcd_rec,Nat.gcd_comm b]at this)
   show kh1 _ _=_;unfold kh1;rw[condT (by rw[decide_eq_true_eq];omega),kpj (kp ha) (kp hb) hne,kg B2,kg B2]
theorem k5o{xs ys:List Nat}(lx:∀x∈xs,x<B)(ly:∀x∈ys,x<B):Iter ks7 (.fn xs ys) (gcdN xs ys):=by
 unfold gcdN;cases hx:rt xs with
 | false =>
  refine .done ?_;show kf9 _ _=_;unfold kf9;simp[hx]
 | true =>
  cases hy:rt ys with
  | false =>
   refine .done ?_;show kf9 _ _=_;unfold kf9;simp[hx,hy]
  | true =>
   obtain⟨lx64,tx⟩:=rt_iff.1 hx;obtain⟨ly64,ty⟩:=rt_iff.1 hy;have key:=k4a (num B ys) (num B xs) (kif lx hx) (kif ly hy);rw[kcs B2 lx tx,kcs B2 ly ty]at key;simp only[and_self,if_true];refine .next ?_ key;show kf9 _ _=_;unfold kf9;rw[hx,hy,ki (by omega),Option.bind_some,ki (by omega),Option.bind_some];rfl
theorem kbiq{xs ys:List Nat}(lx:∀x∈xs,x<B)(ly:∀x∈ys,x<B):Iter ku2 (.fn xs ys) (gcdN xs ys):=by
 unfold gcdN;cases hx:rt xs with
 | false =>
  refine .done ?_;show kfy _ _=_;unfold kfy;simp[hx]
 | true =>
  cases hy:rt ys with
  | false =>
   refine .done ?_;show kfy _ _=_;unfold kfy;simp[hx,hy]
  | true =>
   obtain⟨lx64,tx⟩:=rt_iff.1 hx;obtain⟨ly64,ty⟩:=rt_iff.1 hy;have key:=kbha (num B ys) (num B xs) (kif lx hx) (kif ly hy);rw[kcs B2 lx tx,kcs B2 ly ty]at key;simp only[and_self,if_true];refine .next ?_ key;show kfy _ _=_;unfold kfy;rw[hx,hy,ki (by omega),Option.bind_some,ki (by omega),Option.bind_some];rfl
theorem kyo{h:AH}{s t:Sl}{xs ys:List Nat}(n:Nats h s xs)(m:Nats h t ys):Runs (go (.fn F.kfk [s.v,t.v]) h) (kt1 h (gcdN xs ys)):=kbct (k5o n.lt m.lt) n m
theorem k94{h:AH}{s t:Sl}{xs ys:List Nat}(n:Nats h s xs)(m:Nats h t ys):Runs (go (.fn F.khd [s.v,t.v]) h) (kuk h (gcdN xs ys)):=k67 (kbiq n.lt m.lt) n m
def floorI(p:Bool)(xs:List Nat)(q:Bool)(ys:List Nat):Bool×List Nat×Bool×List Nat×Int :=
 cond (!(rtI p xs&&rtI q ys)) (false,[],false,[],1)
  (cond (decide (ys=[])) (false,[],false,[],3)
   (cond q (false,[],false,[],1)
    (cond (p&&!decide ((divN xs ys).2.1=[]))
     (cond (decide ((addN (divN xs ys).1 [1]).2=0)) ((fromI true (addN (divN xs ys).1 [1]).1).1,(fromI true (addN (divN xs ys).1 [1]).1).2,(fromI false (subN ys (divN xs ys).2.1).1).1,(fromI false (subN ys (divN xs ys).2.1).1).2,0) (false,[],false,[],(addN (divN xs ys).1 [1]).2))
     ((fromI p (divN xs ys).1).1,(fromI p (divN xs ys).1).2,(fromI false (divN xs ys).2.1).1,(fromI false (divN xs ys).2.1).2,0))))
theorem khs:digs B 1=[1]:=by decide +kernel
theorem kh7:u64P 1=some 1:=kbf (n:=1) (by decide)
theorem kbdt{xs:List Nat}:decide ((List.length xs:Int)=0)=decide (xs=[]):=by
 rw[decide_eq_decide];cases xs
 ·simp
 ·simp;omega
theorem k6u{xs:List Nat}:decide ((List.length xs:Int)>0)=!decide (xs=[]):=by
 cases xs
 ·rfl
 ·simp
theorem k4o(p:Bool)(xs:List Nat)(q:Bool)(ys:List Nat):Iter k3f (.fn p xs q ys) (floorI p xs q ys):=by
 refine .done ?_;show kk3 _ _ _ _=_;unfold kk3 floorI;rw[kbdt,k6u,kh7];cases rtI p xs&&rtI q ys
 ·rfl
 ·cases decide (ys=[])
  ·cases q
   ·cases p
    ·rfl
    ·cases decide ((divN xs ys).2.1=[])
     ·simp only[Bool.not_true,Bool.not_false,cond_true,cond_false,Bool.and_self,Option.bind_some,khs];cases decide ((addN (divN xs ys).1 [1]).2=0)
      ·rfl
      ·rfl
     ·rfl
   ·rfl
  ·rfl
theorem k2y{h:AH}{s t:Sl}{xs ys:List Nat}(n:Nats h s xs)(m:Nats h t ys)(p q:Bool):Runs (go (.fn F.kmf [.agg [.bool p,s.v],.agg [.bool q,t.v]]) h) (k2t h (floorI p xs q ys)):=kbld (k4o p xs q ys) n m
end Go.Ab

/- squeezed -/
set_option maxRecDepth 10000
namespace Go.Ab
open Go.Proofs Go.Num
def intD(z:Int):Bool×List Nat:=(decide (z<0),digs B z.natAbs)
theorem k64:intD 0=(false,[]):=by simp[intD,kbp]
theorem kr8(p:Bool):fromI p []=(false,[]):=by simp[fromI]
theorem kdg{n:Nat}(h:n<B^64)(neg:Bool):fromI neg (digs B n)=intD (if neg=true then -(n:Int)else(n:Int)):=by
 by_cases h0:n=0
 ·subst h0;rw[kbp,kr8];cases neg<;>simp[intD,kbp]
 ·have hne:digs B n≠[]:=fun e=>h0 ((kep B2).1 e);unfold fromI intD;rw[if_pos ⟨kp h,hne⟩];cases neg
  ·have e:((n:Int)).natAbs=n:=by omega
   have e2:decide ((n:Int)<0)=false:=by rw[decide_eq_false_iff_not];omega
   simp only[Bool.false_eq_true,if_false,e,e2]
  ·have e:(-(n:Int)).natAbs=n:=by omega
   have e2:decide (-(n:Int)<0)=true:=by rw[decide_eq_true_eq];omega
   simp only[if_true,e,e2]
theorem ker{z:Int}(h:z.natAbs<B^64):rtI (intD z).1 (intD z).2=true:=by
 unfold rtI intD;dsimp only;rw[kp h,Bool.true_and];by_cases hz:z<0
 ·have hne:digs B z.natAbs≠[]:=fun e=>by
   have:=(kep B2).1 e;omega
  rw[decide_eq_true hz];simp[hne]
 ·rw[decide_eq_false hz];simp
theorem kjg{n:Nat}(h:n<B^64):told n=(digs B n,0):=by
 unfold told;rw[if_pos h]
theorem kwy{n:Nat}(h:¬n<B^64):told n=([],4):=by
 unfold told;rw[if_neg h]
theorem kyl{u v:Int}(hu:u.natAbs<B^64)(hv:v.natAbs<B^64):kbi (intD u).1 (intD u).2 (intD v).1 (intD v).2=if(u*v).natAbs<B^64 then((intD (u*v)).1,(intD (u*v)).2,0)else(false,[],4):=by
 unfold kbi;rw[ker hu,ker hv]
 have e:mulN (intD u).2 (intD v).2=told (u.natAbs*v.natAbs):=by
  unfold mulN intD;dsimp only;rw[if_pos ⟨kp hu,kp hv⟩,kg B2,kg B2]
 rw[e,Int.natAbs_mul];simp only[Bool.and_self,Bool.not_true,cond_false];by_cases h:u.natAbs*v.natAbs<B^64
 ·rw[if_pos h,kjg h];dsimp only;rw[kdg h]
  have key:(if(!((intD u).1==(intD v).1))=true then -((u.natAbs*v.natAbs:Nat):Int)else((u.natAbs*v.natAbs:Nat):Int))=u*v:=by
   unfold intD;dsimp only;rw[Int.natCast_mul];by_cases h1:u<0
   ·by_cases h2:v<0
    ·have e1:((u.natAbs:Nat):Int)=-u:=by omega
     have e2:((v.natAbs:Nat):Int)=-v:=by omega
     simp[h1,h2,e1,e2,Int.neg_mul,Int.mul_neg]
    ·have e1:((u.natAbs:Nat):Int)=-u:=by omega
     have e2:((v.natAbs:Nat):Int)=v:=by omega
     simp[h1,h2,e1,e2,Int.neg_mul,Int.mul_neg]
   ·by_cases h2:v<0
    ·have e1:((u.natAbs:Nat):Int)=u:=by omega
     have e2:((v.natAbs:Nat):Int)=-v:=by omega
     simp[h1,h2,e1,e2,Int.neg_mul,Int.mul_neg]
    ·have e1:((u.natAbs:Nat):Int)=u:=by omega
     have e2:((v.natAbs:Nat):Int)=v:=by omega
     simp[h1,h2,e1,e2,Int.neg_mul,Int.mul_neg]
  rw[key]
 ·rw[if_neg h,kwy h];dsimp only;rw[kr8]
theorem kbcb{u v:Int}(hu:u.natAbs<B^64)(hv:v.natAbs<B^64):kbz (intD u).1 (intD u).2 (intD v).1 (intD v).2=if(u+v).natAbs<B^64 then((intD (u+v)).1,(intD (u+v)).2,0)else(false,[],4):=by
 unfold kbz;rw[ker hu,ker hv];simp only[Bool.and_self,Bool.not_true,cond_false]
 have ea:addN (intD u).2 (intD v).2=told (u.natAbs+v.natAbs):=by
  unfold addN intD;dsimp only;rw[if_pos ⟨kp hu,kp hv⟩,kg B2,kg B2]
 have es:∀{a b:Int},a.natAbs<B^64→b.natAbs<B^64→b.natAbs≤a.natAbs→subN (intD a).2 (intD b).2=(digs B (a.natAbs-b.natAbs),0):=by
  intro a b ha hb hle;unfold subN intD;dsimp only;rw[if_pos ⟨kp ha,kp hb⟩,kg B2,kg B2,if_neg (by omega)]
 have ec:cmpN (intD u).2 (intD v).2=cmp u.natAbs v.natAbs:=by
  unfold cmpN intD;dsimp only;rw[if_pos ⟨kp hu,kp hv⟩,kg B2,kg B2]
 rw[ea,ec];have s1:(intD u).1=decide (u<0):=rfl;have s2:(intD v).1=decide (v<0):=rfl;rw[s1,s2];by_cases hs:(u<0↔v<0)
 ·have hb:(decide (u<0)==decide (v<0))=true:=by simp[hs]
  rw[hb,cond_true];by_cases h:u.natAbs+v.natAbs<B^64
  ·rw[if_pos (by omega),kjg h];dsimp only;rw[kdg h]
   have:(if decide (u<0)=true then -((u.natAbs+v.natAbs:Nat):Int)else((u.natAbs+v.natAbs:Nat):Int))=u+v:=by
    by_cases h1:u<0
    ·simp only[h1,decide_true,if_true];omega
    ·simp only[h1,decide_false,Bool.false_eq_true,if_false];omega
   rw[this]
  ·rw[if_neg (by omega),kwy h];dsimp only;rw[kr8]
 ·have hb:(decide (u<0)==decide (v<0))=false:=by
   by_cases h1:u<0<;>by_cases h2:v<0<;>simp_all
  rw[hb,cond_false,if_pos (by omega)];by_cases hc:u.natAbs<v.natAbs
  ·rw[condT (by rw[decide_eq_true_eq,cmp_lt];exact hc),es hv hu (by omega)];dsimp only;rw[kdg (by omega)]
   have:(if decide (v<0)=true then -((v.natAbs-u.natAbs:Nat):Int)else((v.natAbs-u.natAbs:Nat):Int))=u+v:=by
    by_cases h1:v<0
    ·simp only[h1,decide_true,if_true];omega
    ·simp only[h1,decide_false,Bool.false_eq_true,if_false];omega
   rw[this]
  ·rw[condF (by rw[decide_eq_false_iff_not,cmp_lt];exact hc),es hu hv (by omega)];dsimp only;rw[kdg (by omega)]
   have:(if decide (u<0)=true then -((u.natAbs-v.natAbs:Nat):Int)else((u.natAbs-v.natAbs:Nat):Int))=u+v:=by
    by_cases h1:u<0
    ·simp only[h1,decide_true,if_true];omega
    ·simp only[h1,decide_false,Bool.false_eq_true,if_false];omega
   rw[this]
theorem k3y{v:Int}(hv:v.natAbs<B^64):negI (intD v).1 (intD v).2=intD (-v):=by
 unfold negI;rw[if_pos (ker hv)];show fromI (!decide (v<0)) (digs B v.natAbs)=_;rw[kdg hv];by_cases h1:v<0
 ·have e:((v.natAbs:Nat):Int)=-v:=by omega
  simp[h1,e]
 ·have e:((v.natAbs:Nat):Int)=v:=by omega
  simp[h1,e]
theorem k2q{u v:Int}(hu:u.natAbs<B^64)(hv:v.natAbs<B^64):kba (intD u).1 (intD u).2 (intD v).1 (intD v).2=if(u-v).natAbs<B^64 then((intD (u-v)).1,(intD (u-v)).2,0)else(false,[],4):=by
 have e:kba (intD u).1 (intD u).2 (intD v).1 (intD v).2=kbz (intD u).1 (intD u).2 (intD (-v)).1 (intD (-v)).2:=by
  unfold kba;rw[ker hu,ker hv,k3y hv];rfl
 rw[e,kbcb hu (by omega)];rfl
theorem kqm(n:Nat):intD (n:Int)=(false,digs B n):=by
 unfold intD;have:decide ((n:Int)<0)=false:=by rw[decide_eq_false_iff_not];omega
 rw[this];rfl
theorem kzy{u v:Int}(hu:u.natAbs<B^64)(hv:v.natAbs<B^64)(h0:0<v):floorI (intD u).1 (intD u).2 (intD v).1 (intD v).2=((intD (u/v)).1,(intD (u/v)).2,(intD (u%v)).1,(intD (u%v)).2,0):=by
 obtain⟨y,rfl⟩:∃y:Nat,v=(y:Int):=⟨v.toNat,by omega⟩;have hy:y<B^64:=by simpa using hv
 have hy0:0<y:=by omega
 have hne:(intD (y:Int)).2≠[]:=fun e=>by
  have:y=0:=by simpa[intD]using (kep B2).1 e
  omega
 unfold floorI;rw[ker hu,ker hv];have sy:(intD (y:Int)).1=false:=by rw[kqm]
 have dv:divN (intD u).2 (intD (y:Int)).2=(digs B (u.natAbs/y),digs B (u.natAbs%y),0):=by
  unfold divN;rw[if_pos ⟨rtI_rt (ker hu),rtI_rt (ker hv)⟩,if_neg hne];simp only[intD,kg B2,Int.natAbs_natCast]
 have hQ:u.natAbs/y<B^64:=Nat.lt_of_le_of_lt (Nat.div_le_self _ _) hu;have hR:u.natAbs%y<B^64:=Nat.lt_trans (Nat.mod_lt _ hy0) hy;have dm:=Nat.div_add_mod u.natAbs y;have hm:=Nat.mod_lt u.natAbs hy0;rw[dv,sy];simp only[Bool.and_self,Bool.not_true,cond_false,hne,decide_false];have s1:(intD u).1=decide (u<0):=rfl;rw[s1];have hr0:(digs B (u.natAbs%y)=[])↔u.natAbs%y=0:=kep B2;by_cases hc:u<0∧u.natAbs%y≠0
 ·have b1:(decide (u<0)&&!decide (digs B (u.natAbs%y)=[]))=true:=by
   rw[Bool.and_eq_true,decide_eq_true_eq,Bool.not_eq_true',decide_eq_false_iff_not,hr0];exact hc
  rw[b1,cond_true];have h1:[1]=digs B 1:=khs.symm
  have hq1:u.natAbs/y+1<B^64:=by
   have hy2:2≤y:=by
    rcases Nat.lt_or_ge y 2 with h | h
    ·have:y=1:=by omega
     subst this;rw[Nat.mod_one]at hc;exact absurd rfl hc.2
    ·exact h
   have:u.natAbs/y≤u.natAbs/2:=Nat.div_le_div_left hy2 (by omega);have hb:2<B^64:=by decide +kernel
   omega
  have au:addN (digs B (u.natAbs/y)) [1]=(digs B (u.natAbs/y+1),0):=by
   unfold addN;rw[h1,if_pos ⟨kp hQ,kp (by decide +kernel)⟩,kg B2,kg B2,kjg hq1]
  have su:subN (intD (y:Int)).2 (digs B (u.natAbs%y))=(digs B (y-u.natAbs%y),0):=by
   rw[kqm];unfold subN;rw[if_pos ⟨kp hy,kp hR⟩,kg B2,kg B2,if_neg (by omega)]
  rw[au,su];dsimp only;rw[kdg hq1,kdg (by omega)]
  have e1:u/(y:Int)=-((u.natAbs/y+1:Nat):Int):=by
   have hu':u=-((y*(u.natAbs/y)+u.natAbs%y:Nat):Int):=by rw[dm];omega
   generalize u.natAbs/y=q at *
   generalize u.natAbs%y=r at *
   rw[hu'];rw[Int.ediv_eq_iff_of_pos (by omega)];constructor
   ·rw[Int.natCast_add,Int.natCast_add,Int.natCast_mul,Int.neg_mul,Int.add_mul,Int.mul_comm (q:Int)];omega
   ·rw[Int.natCast_add,Int.natCast_add,Int.natCast_mul,Int.neg_mul,Int.add_mul,Int.mul_comm (q:Int)];omega
  have e2:u%(y:Int)=((y-u.natAbs%y:Nat):Int):=by
   have:=Int.mul_ediv_add_emod u (y:Int);rw[e1]at this
   have dm':((y:Int)*((u.natAbs/y:Nat):Int))+((u.natAbs%y:Nat):Int)=((u.natAbs:Nat):Int):=by
    rw[← Int.natCast_mul,← Int.natCast_add,dm]
   rw[Int.natCast_add,Int.mul_neg,Int.mul_add]at this;omega
  rw[e1,e2];rfl
 ·have b1:(decide (u<0)&&!decide (digs B (u.natAbs%y)=[]))=false:=by
   rw[← Bool.not_eq_true,Bool.and_eq_true,decide_eq_true_eq,Bool.not_eq_true',decide_eq_false_iff_not,hr0];exact hc
  rw[b1,cond_false,kdg hQ,kdg hR]
  have dm':((y:Int)*((u.natAbs/y:Nat):Int))+((u.natAbs%y:Nat):Int)=((u.natAbs:Nat):Int):=by
   rw[← Int.natCast_mul,← Int.natCast_add,dm]
  by_cases hneg:u<0
  ·have hr:u.natAbs%y=0:=by
    rcases Nat.eq_zero_or_pos (u.natAbs%y)with h | h
    ·exact h
    ·exact absurd ⟨hneg,by omega⟩ hc
   rw[hr]at dm'⊢
   have hu':u=(y:Int)*-((u.natAbs/y:Nat):Int):=by
    rw[Int.mul_neg];omega
   have e1:u/(y:Int)=-((u.natAbs/y:Nat):Int):=by
    conv=>lhs;rw[hu']
    exact Int.mul_ediv_cancel_left _ (by omega)
   have e2:u%(y:Int)=0:=by
    conv=>lhs;rw[hu']
    exact Int.mul_emod_right _ _
   rw[e1,e2,if_pos (by simpa using hneg)];rfl
  ·have hu':u=((u.natAbs:Nat):Int):=by omega
   have e1:u/(y:Int)=((u.natAbs/y:Nat):Int):=by
    conv=>lhs;rw[hu']
    rfl
   have e2:u%(y:Int)=((u.natAbs%y:Nat):Int):=by
    conv=>lhs;rw[hu']
    rfl
   rw[e1,e2,if_neg (by simpa using hneg)];rfl
end Go.Ab

/- squeezed -/
set_option maxRecDepth 10000
namespace Go.Ab
open Go.Proofs Go.Num
theorem ko4:18446744073709551616*18446744073709551616≤B^64:=by
 have:B^64=B*B*B^62:=by
  rw[show 64=2+62 from rfl,Nat.pow_add,Nat.pow_two]
 rw[this];have h:1≤B^62:=Nat.pow_pos B1;have:=Nat.mul_le_mul_left (B*B) h;rw[Nat.mul_one]at this;exact this
theorem kbcz{n:Int}(h:n.natAbs<18446744073709551616):ofI n=intD n:=by
 have hb:n.natAbs<B^64:=by have:=ko4;omega
 unfold ofI;rw[kdg hb];by_cases h1:n<0
 ·rw[decide_eq_true h1];have e:((n.natAbs:Nat):Int)=-n:=by omega
  simp[e]
 ·rw[decide_eq_false h1];have e:((n.natAbs:Nat):Int)=n:=by omega
  simp[e]
theorem k5t(n:Int){h:AH}(c:-9223372036854775808≤n∧n≤9223372036854775807):∃(s':Sl)(h':AH),go (.fn F.kpy [.int .i64 n]) h=some (.agg [.bool (ofI n).1,s'.v],h')∧Nats h' s' (ofI n).2∧Grow h h'∧Own h s':=kba8 c.1 c.2
end Go.Ab

/- squeezed -/
set_option maxRecDepth 10000
namespace Go.Ab
open Go.Proofs Go.Num
end Go.Ab

/- squeezed -/
set_option maxRecDepth 10000
namespace Go.Ab
open Go.Proofs Go.Num
end Go.Ab

/- squeezed -/
set_option maxRecDepth 10000
namespace Go.Ab
open Go.Proofs Go.Num
end Go.Ab

/- squeezed -/
set_option maxRecDepth 10000
namespace Go.Ab
open Go.Proofs Go.Num
end Go.Ab

/- squeezed -/
set_option maxRecDepth 10000
namespace Go.Ab
open Go.Proofs Go.Num
end Go.Ab

/- squeezed -/
set_option maxRecDepth 10000
namespace Go.Ab
open Go.Proofs Go.Num
theorem k7i{h:AH}:∃(s':Sl)(h':AH),go (.fn F.krh [.int .u64 1]) h=some (s'.v,h')∧Nats h' s' [1]∧Grow h h'∧Own h s':=by
 have:=k8y (h:=h) (x:=1) (by decide);rw[khs]at this;exact this
end Go.Ab

/- squeezed -/
namespace Go.Ab
end Go.Ab

/- squeezed -/
set_option maxRecDepth 10000
namespace Go.Ab
open Go.Proofs Go.Num
inductive kg4
 | fn (x1:List Nat) (x2:List Nat)
 | p7 (x1:List Nat) (x2c0:List Nat) (x3c0:List Nat) (p4c0:Bool) (x4c1:List Nat) (p7c0:Bool) (x7c1:List Nat)
abbrev ke9:=List Nat×Int
noncomputable def kea(x1 x2:List Nat):Option (kg4⊕ke9) :=
 cond (!(rt x1)) (some (.inr ([],1))) (cond (!(rt x2)) (some (.inr ([],1))) ((u64P 1).bind fun w8=>cond (decide ((cmpN x2 [w8])≤0)) (some (.inr ([],1))) ((need (-9223372036854775808≤(1:Int)∧(1:Int)≤9223372036854775807)).bind fun c16_0=>some (.inl (.p7 x2 ((divN x1 x2).2.1) x2 false [] ((ofI 1).1) ((ofI 1).2))))))
noncomputable def kf1(x1 x2c0 x3c0:List Nat)(p4c0:Bool)(x4c1:List Nat)(p7c0:Bool)(x7c1:List Nat):Option (kg4⊕ke9) :=
 cond (decide ((List.length x2c0:Int)>0)) (some (.inl (.p7 x1 ((divN x3c0 x2c0).2.1) x2c0 p7c0 x7c1 (((kba p4c0 x4c1 (((kbi ((fromI false ((divN x3c0 x2c0).1)).1) ((fromI false ((divN x3c0 x2c0).1)).2) p7c0 x7c1).1)) ((kbi ((fromI false ((divN x3c0 x2c0).1)).1) ((fromI false ((divN x3c0 x2c0).1)).2) p7c0 x7c1).2.1)).1)) ((kba p4c0 x4c1 (((kbi ((fromI false ((divN x3c0 x2c0).1)).1) ((fromI false ((divN x3c0 x2c0).1)).2) p7c0 x7c1).1)) ((kbi ((fromI false ((divN x3c0 x2c0).1)).1) ((fromI false ((divN x3c0 x2c0).1)).2) p7c0 x7c1).2.1)).2.1)))) ((u64P 1).bind fun w11=>cond (!decide ((cmpN x3c0 [w11])=0)) (some (.inr ([],6))) (some (.inr ((floorI p4c0 x4c1 ((fromI false x1).1) ((fromI false x1).2)).2.2.2.1,((floorI p4c0 x4c1 ((fromI false x1).1) ((fromI false x1).2)).2.2.2.2)))))
noncomputable def ko7:kg4→Option (kg4⊕ke9)
 | .fn x1 x2=>kea x1 x2
 | .p7 x1 x2c0 x3c0 p4c0 x4c1 p7c0 x7c1=>kf1 x1 x2c0 x3c0 p4c0 x4c1 p7c0 x7c1
@[reducible] def kuh(h0:AH)(r:ke9)(v:AV)(h':AH):Prop:=∃s1:Sl,v=.tup [s1.v,.int .i64 r.2]∧Nats h' s1 r.1∧Grow h0 h'∧Own h0 s1
def km6(r:ke9):kg4→Prop
 | .fn x1 x2=>∀{h:AH}{a1:Sl}{a2:Sl},Nats h a1 x1→Nats h a2 x2→Runs (go (.fn F.kev [a1.v,a2.v]) h) (kuh h r)
 | .p7 x1 x2c0 x3c0 p4c0 x4c1 p7c0 x7c1=>∀{h0 h:AH}{a1:Sl}{s2c0:Sl}{s3c0:Sl}{s4c1:Sl}{s7c1:Sl}{i2:Nat}{i3:Nat}{i4:Nat}{i7:Nat},Grow h0 h→Nats h a1 x1→h.has i2 [s2c0.v] T.kr→Nats h s2c0 x2c0→h.has i3 [s3c0.v] T.kr→Nats h s3c0 x3c0→h.has i4 [.bool p4c0,s4c1.v] T.kn→Nats h s4c1 x4c1→h.has i7 [.bool p7c0,s7c1.v] T.kn→Nats h s7c1 x7c1→h0.blks.size≤i2→h0.blks.size≤i3→h0.blks.size≤i4→h0.blks.size≤i7→Av a1 i2 x1→Av a1 i3 x1→Av a1 i4 x1→Av a1 i7 x1→Av s2c0 i2 x2c0→Av s2c0 i3 x2c0→Av s2c0 i4 x2c0→Av s2c0 i7 x2c0→Av s3c0 i2 x3c0→Av s3c0 i3 x3c0→Av s3c0 i4 x3c0→Av s3c0 i7 x3c0→Av s4c1 i2 x4c1→Av s4c1 i3 x4c1→Av s4c1 i4 x4c1→Av s4c1 i7 x4c1→Av s7c1 i2 x7c1→Av s7c1 i3 x7c1→Av s7c1 i4 x7c1→Av s7c1 i7 x7c1→i2≠i3→i2≠i4→i3≠i4→i2≠i7→i3≠i7→i4≠i7→Runs (go (.pt F.kev Td.kqe [(1,a1.v),(7,.ptr (some (.new i2 0))),(9,.ptr (some (.new i3 0))),(10,.ptr (some (.new i4 0))),(12,.func (.func F.kkf) [] [.ptr (some (.new i3 0)),.ptr (some (.new i2 0)),.ptr (some (.new i7 0)),.ptr (some (.new i4 0))])]) h) (kuh h0 r)
theorem kbcp{r:ke9}{o:kg4⊕ke9}{x1 x2:List Nat}(e:kea x1 x2=some o)(good:GoodS (km6 r) r o):km6 r (.fn x1 x2):=by
 intro h a1 a2 n1 n2;rw[kbb6];unfold kea at e;refine Runs.step (kcr n1) ?_;refine Runs.step (seen rfl) ?_;refine Runs.cond (fun k4=>?_) (fun k4=>?_)
 ·replace e:=(condT k4).symm.trans e;cases e;cases good;exact Runs.ret ⟨(⟨none,0,.is 0⟩:Sl),rfl,(Nats.nil _),(Grow.refl _),(Own.nil _)⟩
 ·replace e:=(condF k4).symm.trans e;refine Runs.step (kcr n2) ?_;refine Runs.step (seen rfl) ?_;refine Runs.cond (fun k6=>?_) (fun k6=>?_)
  ·replace e:=(condT k6).symm.trans e;cases e;cases good;exact Runs.ret ⟨(⟨none,0,.is 0⟩:Sl),rfl,(Nats.nil _),(Grow.refl _),(Own.nil _)⟩
  ·replace e:=(condF k6).symm.trans e;refine Runs.new fun H7 b7 g7=>?_;obtain⟨w8,z8,e⟩:=Option.bind_eq_some_iff.1 e;obtain⟨H9,e9,g9⟩:=kef (n2.grow g7) (Nats.of_has1 b7 z8);refine Runs.step e9 ?_;refine Runs.step (seen (kc _ _)) ?_;refine Runs.cond (fun k10=>?_) (fun k10=>?_)
   ·replace e:=(condT k10).symm.trans e;cases e;cases good;exact Runs.ret ⟨(⟨none,0,.is 0⟩:Sl),rfl,(Nats.nil _),(g7.trans g9),(Own.nil _)⟩
   ·replace e:=(condF k10).symm.trans e;obtain⟨s11,s11b,H11,e11,n11,n11b,g11,o11,o11b⟩:=kfu (n1.grow (g7.trans g9)) (n2.grow (g7.trans g9));refine Runs.step e11 ?_;refine Runs.step rfl ?_;refine Runs.step (seen (asSl_v _)) ?_;refine Runs.step (seen (asSl_v _)) ?_;refine Runs.step (seen (kc _ _)) ?_;refine Runs.new fun H12 b12 g12=>?_;refine Runs.puts b12 rfl fun H13 b13 u13=>?_;refine Runs.new fun H14 b14 g14=>?_;refine Runs.puts b14 rfl fun H15 b15 u15=>?_;obtain⟨c16_0,q16_0,e⟩:=Option.bind_eq_some_iff.1 e;obtain⟨s16,H16,e16,n16,g16,o16⟩:=k5t 1  c16_0.down;refine Runs.step e16 ?_;refine Runs.step rfl ?_;refine Runs.ifT rfl ?_;refine Runs.step (seenAt rfl rfl) ?_;refine Runs.step (seenAt rfl (asSl_v _)) ?_;refine Runs.new fun H17 b17 g17=>?_;refine Runs.new fun H18 b18 g18=>?_;refine Runs.puts (g18.has b17) rfl fun H19 b19 u19=>?_;have b18_19:=AH.has.updr b18 (Nat.ne_of_gt (Nat.lt_of_lt_of_le (b17).lt (Nat.le_refl _))) u19;refine Runs.puts b18_19 rfl fun H20 b20 u20=>?_;have b19_20:=AH.has.updr b19 (Nat.ne_of_lt (Nat.lt_of_lt_of_le (b17).lt (Nat.le_refl _))) u20;cases e;exact good (((((((((((g7.trans g9).trans g11).trans g12).updr (Nat.le_trans (((g7.trans g9).trans g11)).size (Nat.le_refl _)) u13).trans g14).updr (Nat.le_trans (((((g7.trans g9).trans g11).trans g12).updr (Nat.le_trans (((g7.trans g9).trans g11)).size (Nat.le_refl _)) u13)).size (Nat.le_refl _)) u15).trans g16).trans g17).trans g18).updr (Nat.le_trans ((((((((g7.trans g9).trans g11).trans g12).updr (Nat.le_trans (((g7.trans g9).trans g11)).size (Nat.le_refl _)) u13).trans g14).updr (Nat.le_trans (((((g7.trans g9).trans g11).trans g12).updr (Nat.le_trans (((g7.trans g9).trans g11)).size (Nat.le_refl _)) u13)).size (Nat.le_refl _)) u15).trans g16)).size (Nat.le_refl _)) u19).updr (Nat.le_trans (((((((((g7.trans g9).trans g11).trans g12).updr (Nat.le_trans (((g7.trans g9).trans g11)).size (Nat.le_refl _)) u13).trans g14).updr (Nat.le_trans (((((g7.trans g9).trans g11).trans g12).updr (Nat.le_trans (((g7.trans g9).trans g11)).size (Nat.le_refl _)) u13)).size (Nat.le_refl _)) u15).trans g16).trans g17)).size (Nat.le_refl _)) u20) (n2.grow (((((((((((g7.trans g9).trans g11).trans g12).updr (Nat.le_trans (((g7.trans g9).trans g11)).size (Nat.le_refl _)) u13).trans g14).updr (Nat.le_trans (((((g7.trans g9).trans g11).trans g12).updr (Nat.le_trans (((g7.trans g9).trans g11)).size (Nat.le_refl _)) u13)).size (Nat.le_refl _)) u15).trans g16).trans g17).trans g18).updr (Nat.le_trans ((((((((g7.trans g9).trans g11).trans g12).updr (Nat.le_trans (((g7.trans g9).trans g11)).size (Nat.le_refl _)) u13).trans g14).updr (Nat.le_trans (((((g7.trans g9).trans g11).trans g12).updr (Nat.le_trans (((g7.trans g9).trans g11)).size (Nat.le_refl _)) u13)).size (Nat.le_refl _)) u15).trans g16)).size (Nat.le_refl _)) u19).updr (Nat.le_trans (((((((((g7.trans g9).trans g11).trans g12).updr (Nat.le_trans (((g7.trans g9).trans g11)).size (Nat.le_refl _)) u13).trans g14).updr (Nat.le_trans (((((g7.trans g9).trans g11).trans g12).updr (Nat.le_trans (((g7.trans g9).trans g11)).size (Nat.le_refl _)) u13)).size (Nat.le_refl _)) u15).trans g16).trans g17)).size (Nat.le_refl _)) u20)) (((((((g14.updr (Nat.le_refl _) u15).trans g16).trans g17).trans g18).updr (Nat.le_trans (((g14.updr (Nat.le_refl _) u15).trans g16)).size (Nat.le_refl _)) u19).updr (Nat.le_trans ((((g14.updr (Nat.le_refl _) u15).trans g16).trans g17)).size (Nat.le_refl _)) u20).has b13) (n11b.grow ((((((((g12.updr (Nat.le_refl _) u13).trans g14).updr (Nat.le_trans ((g12.updr (Nat.le_refl _) u13)).size (Nat.le_refl _)) u15).trans g16).trans g17).trans g18).updr (Nat.le_trans (((((g12.updr (Nat.le_refl _) u13).trans g14).updr (Nat.le_trans ((g12.updr (Nat.le_refl _) u13)).size (Nat.le_refl _)) u15).trans g16)).size (Nat.le_refl _)) u19).updr (Nat.le_trans ((((((g12.updr (Nat.le_refl _) u13).trans g14).updr (Nat.le_trans ((g12.updr (Nat.le_refl _) u13)).size (Nat.le_refl _)) u15).trans g16).trans g17)).size (Nat.le_refl _)) u20)) (((((g16.trans g17).trans g18).updr (Nat.le_trans (g16).size (Nat.le_refl _)) u19).updr (Nat.le_trans ((g16.trans g17)).size (Nat.le_refl _)) u20).has b15) (n2.grow (((((((((((g7.trans g9).trans g11).trans g12).updr (Nat.le_trans (((g7.trans g9).trans g11)).size (Nat.le_refl _)) u13).trans g14).updr (Nat.le_trans (((((g7.trans g9).trans g11).trans g12).updr (Nat.le_trans (((g7.trans g9).trans g11)).size (Nat.le_refl _)) u13)).size (Nat.le_refl _)) u15).trans g16).trans g17).trans g18).updr (Nat.le_trans ((((((((g7.trans g9).trans g11).trans g12).updr (Nat.le_trans (((g7.trans g9).trans g11)).size (Nat.le_refl _)) u13).trans g14).updr (Nat.le_trans (((((g7.trans g9).trans g11).trans g12).updr (Nat.le_trans (((g7.trans g9).trans g11)).size (Nat.le_refl _)) u13)).size (Nat.le_refl _)) u15).trans g16)).size (Nat.le_refl _)) u19).updr (Nat.le_trans (((((((((g7.trans g9).trans g11).trans g12).updr (Nat.le_trans (((g7.trans g9).trans g11)).size (Nat.le_refl _)) u13).trans g14).updr (Nat.le_trans (((((g7.trans g9).trans g11).trans g12).updr (Nat.le_trans (((g7.trans g9).trans g11)).size (Nat.le_refl _)) u13)).size (Nat.le_refl _)) u15).trans g16).trans g17)).size (Nat.le_refl _)) u20)) b19_20 (Nats.nil _) b20 (n16.grow (((g17.trans g18).updr (Nat.le_refl _) u19).updr (Nat.le_trans (g17).size (Nat.le_refl _)) u20)) (Nat.le_trans (((g7.trans g9).trans g11)).size (Nat.le_refl _)) (Nat.le_trans (((((g7.trans g9).trans g11).trans g12).updr (Nat.le_trans (((g7.trans g9).trans g11)).size (Nat.le_refl _)) u13)).size (Nat.le_refl _)) (Nat.le_trans ((((((((g7.trans g9).trans g11).trans g12).updr (Nat.le_trans (((g7.trans g9).trans g11)).size (Nat.le_refl _)) u13).trans g14).updr (Nat.le_trans (((((g7.trans g9).trans g11).trans g12).updr (Nat.le_trans (((g7.trans g9).trans g11)).size (Nat.le_refl _)) u13)).size (Nat.le_refl _)) u15).trans g16)).size (Nat.le_refl _)) (Nat.le_trans (((((((((g7.trans g9).trans g11).trans g12).updr (Nat.le_trans (((g7.trans g9).trans g11)).size (Nat.le_refl _)) u13).trans g14).updr (Nat.le_trans (((((g7.trans g9).trans g11).trans g12).updr (Nat.le_trans (((g7.trans g9).trans g11)).size (Nat.le_refl _)) u13)).size (Nat.le_refl _)) u15).trans g16).trans g17)).size (Nat.le_refl _)) (Av.of_base n2 (Nat.le_trans (((g7.trans g9).trans g11)).size (Nat.le_refl _))) (Av.of_base n2 (Nat.le_trans (((((g7.trans g9).trans g11).trans g12).updr (Nat.le_trans (((g7.trans g9).trans g11)).size (Nat.le_refl _)) u13)).size (Nat.le_refl _))) (Av.of_base n2 (Nat.le_trans ((((((((g7.trans g9).trans g11).trans g12).updr (Nat.le_trans (((g7.trans g9).trans g11)).size (Nat.le_refl _)) u13).trans g14).updr (Nat.le_trans (((((g7.trans g9).trans g11).trans g12).updr (Nat.le_trans (((g7.trans g9).trans g11)).size (Nat.le_refl _)) u13)).size (Nat.le_refl _)) u15).trans g16)).size (Nat.le_refl _))) (Av.of_base n2 (Nat.le_trans (((((((((g7.trans g9).trans g11).trans g12).updr (Nat.le_trans (((g7.trans g9).trans g11)).size (Nat.le_refl _)) u13).trans g14).updr (Nat.le_trans (((((g7.trans g9).trans g11).trans g12).updr (Nat.le_trans (((g7.trans g9).trans g11)).size (Nat.le_refl _)) u13)).size (Nat.le_refl _)) u15).trans g16).trans g17)).size (Nat.le_refl _))) (Av.of_base n11b (Nat.le_refl _)) (Av.of_base n11b (Nat.le_trans ((g12.updr (Nat.le_refl _) u13)).size (Nat.le_refl _))) (Av.of_base n11b (Nat.le_trans (((((g12.updr (Nat.le_refl _) u13).trans g14).updr (Nat.le_trans ((g12.updr (Nat.le_refl _) u13)).size (Nat.le_refl _)) u15).trans g16)).size (Nat.le_refl _))) (Av.of_base n11b (Nat.le_trans ((((((g12.updr (Nat.le_refl _) u13).trans g14).updr (Nat.le_trans ((g12.updr (Nat.le_refl _) u13)).size (Nat.le_refl _)) u15).trans g16).trans g17)).size (Nat.le_refl _))) (Av.of_base n2 (Nat.le_trans (((g7.trans g9).trans g11)).size (Nat.le_refl _))) (Av.of_base n2 (Nat.le_trans (((((g7.trans g9).trans g11).trans g12).updr (Nat.le_trans (((g7.trans g9).trans g11)).size (Nat.le_refl _)) u13)).size (Nat.le_refl _))) (Av.of_base n2 (Nat.le_trans ((((((((g7.trans g9).trans g11).trans g12).updr (Nat.le_trans (((g7.trans g9).trans g11)).size (Nat.le_refl _)) u13).trans g14).updr (Nat.le_trans (((((g7.trans g9).trans g11).trans g12).updr (Nat.le_trans (((g7.trans g9).trans g11)).size (Nat.le_refl _)) u13)).size (Nat.le_refl _)) u15).trans g16)).size (Nat.le_refl _))) (Av.of_base n2 (Nat.le_trans (((((((((g7.trans g9).trans g11).trans g12).updr (Nat.le_trans (((g7.trans g9).trans g11)).size (Nat.le_refl _)) u13).trans g14).updr (Nat.le_trans (((((g7.trans g9).trans g11).trans g12).updr (Nat.le_trans (((g7.trans g9).trans g11)).size (Nat.le_refl _)) u13)).size (Nat.le_refl _)) u15).trans g16).trans g17)).size (Nat.le_refl _))) (Av.nil _ _) (Av.nil _ _) (Av.nil _ _) (Av.nil _ _) (Av.of_own o16 ((g14.updr (Nat.le_refl _) u15).has b13).lt) (Av.of_own o16 (b15).lt) (Av.of_base n16 (Nat.le_refl _)) (Av.of_base n16 (Nat.le_trans (g17).size (Nat.le_refl _))) (Nat.ne_of_lt (Nat.lt_of_lt_of_le (b13).lt (Nat.le_refl _))) (Nat.ne_of_lt (Nat.lt_of_lt_of_le (((g14.updr (Nat.le_refl _) u15).trans g16).has b13).lt (Nat.le_refl _))) (Nat.ne_of_lt (Nat.lt_of_lt_of_le (g16.has b15).lt (Nat.le_refl _))) (Nat.ne_of_lt (Nat.lt_of_lt_of_le ((((g14.updr (Nat.le_refl _) u15).trans g16).trans g17).has b13).lt (Nat.le_refl _))) (Nat.ne_of_lt (Nat.lt_of_lt_of_le ((g16.trans g17).has b15).lt (Nat.le_refl _))) (Nat.ne_of_lt (Nat.lt_of_lt_of_le (b17).lt (Nat.le_refl _)))
theorem k5l{r:ke9}{o:kg4⊕ke9}{x1 x2c0 x3c0:List Nat}{p4c0:Bool}{x4c1:List Nat}{p7c0:Bool}{x7c1:List Nat}(e:kf1 x1 x2c0 x3c0 p4c0 x4c1 p7c0 x7c1=some o)(good:GoodS (km6 r) r o):km6 r (.p7 x1 x2c0 x3c0 p4c0 x4c1 p7c0 x7c1):=by
 intro h0 h a1 s2c0 s3c0 s4c1 s7c1 i2 i3 i4 i7 g0 n1 b2 n2c0 b3 n3c0 b4 n4c1 b7 n7c1 hi2 hi3 hi4 hi7 av1_2 av1_3 av1_4 av1_7 av2c0_2 av2c0_3 av2c0_4 av2c0_7 av3c0_2 av3c0_3 av3c0_4 av3c0_7 av4c1_2 av4c1_3 av4c1_4 av4c1_7 av7c1_2 av7c1_3 av7c1_4 av7c1_7 ne2_3 ne2_4 ne3_4 ne2_7 ne3_7 ne4_7;rw[kbg5];unfold kf1 at e;refine Runs.step (AH.has.rd0 b2 rfl (asSl_v _)) ?_;rw[n2c0.len];refine Runs.cond (fun k9=>?_) (fun k9=>?_)
 ·replace e:=(condT k9).symm.trans e;rw[kbkp];refine Runs.stepB (AH.has.rd0 b3 rfl (asSl_v _)) ?_;refine Runs.stepB (AH.has.rd0 b2 rfl (asSl_v _)) ?_;obtain⟨s10,s10b,H10,e10,n10,n10b,g10,o10,o10b⟩:=kfu n3c0 n2c0;refine Runs.stepB e10 ?_;refine Runs.stepB rfl ?_;refine Runs.stepB (seen (asSl_v _)) ?_;refine Runs.stepB (seen (asSl_v _)) ?_;refine Runs.stepB (seen (kc _ _)) ?_;refine Runs.newB fun H11 b11 g11=>?_;refine Runs.stepB (AH.has.rd ((g10.trans g11).has b7) 0 rfl rfl) ?_;refine Runs.stepB (AH.has.rd ((g10.trans g11).has b7) 1 rfl (asSl_v _)) ?_;obtain⟨s12,H12,e12,n12,g12,o12⟩:=kb5 (n10.grow g11) false;refine Runs.stepB e12 ?_;refine Runs.stepB rfl ?_;refine Runs.ifTB rfl ?_;refine Runs.stepB (seenAt rfl rfl) ?_;refine Runs.stepB (seenAt rfl (asSl_v _)) ?_;refine Runs.whenB (g12.same ((g10.trans g11).has b7) 0 2) ?_;refine Runs.whenB (g12.same b11 0 0) ?_;obtain⟨_,H13,e13,s13,rfl,n13,g13,o13⟩:=k1i n12 (n7c1.grow ((g10.trans g11).trans g12)) ((fromI false ((divN x3c0 x2c0).1)).1) p7c0;refine Runs.stepB e13 ?_;refine Runs.stepB rfl ?_;refine Runs.stepB rfl ?_;refine Runs.ifTB rfl ?_;refine Runs.stepB (seenAt rfl rfl) ?_;refine Runs.stepB (seenAt rfl (asSl_v _)) ?_;refine Runs.stepB (seen (kc _ _)) ?_;refine Runs.whenB (g13.same (g12.has b11) 0 0) ?_;refine Runs.putsB ((g12.trans g13).has b11) rfl fun H14 b14 u14=>?_;have n12_14:=(n12.grow g13).upda (Av.of_own o12 (b11).lt) u14;have n13_14:=n13.upda (Av.of_own o13 (g12.has b11).lt) u14;refine Runs.stepB (AH.has.rd (((((g10.trans g11).trans g12).trans g13).updr (Nat.le_trans (g10).size (Nat.le_refl _)) u14).has b4) 0 rfl rfl) ?_;refine Runs.stepB (AH.has.rd (((((g10.trans g11).trans g12).trans g13).updr (Nat.le_trans (g10).size (Nat.le_refl _)) u14).has b4) 1 rfl (asSl_v _)) ?_;refine Runs.stepB (AH.has.rd b14 0 rfl rfl) ?_;refine Runs.stepB (AH.has.rd b14 1 rfl (asSl_v _)) ?_;obtain⟨_,H15,e15,s15,rfl,n15,g15,o15⟩:=k3c (n4c1.grow ((((g10.trans g11).trans g12).trans g13).updr (Nat.le_trans (g10).size (Nat.le_refl _)) u14)) n13_14 p4c0 (((kbi ((fromI false ((divN x3c0 x2c0).1)).1) ((fromI false ((divN x3c0 x2c0).1)).2) p7c0 x7c1).1));refine Runs.stepB e15 ?_;refine Runs.stepB rfl ?_;refine Runs.stepB rfl ?_;refine Runs.ifTB rfl ?_;refine Runs.stepB (seenAt rfl rfl) ?_;refine Runs.stepB (seenAt rfl (asSl_v _)) ?_;refine Runs.stepB (seen (kc _ _)) ?_;refine Runs.newB fun H16 b16 g16=>?_;refine Runs.putsB b16 rfl fun H17 b17 u17=>?_;refine Runs.stepB (AH.has.rd0 ((((((((g10.trans g11).trans g12).trans g13).updr (Nat.le_trans (g10).size (Nat.le_refl _)) u14).trans g15).trans g16).updr (Nat.le_trans ((((((g10.trans g11).trans g12).trans g13).updr (Nat.le_trans (g10).size (Nat.le_refl _)) u14).trans g15)).size (Nat.le_refl _)) u17).has b2) rfl (asSl_v _)) ?_;refine Runs.stepB (AH.has.rd ((((((((g10.trans g11).trans g12).trans g13).updr (Nat.le_trans (g10).size (Nat.le_refl _)) u14).trans g15).trans g16).updr (Nat.le_trans ((((((g10.trans g11).trans g12).trans g13).updr (Nat.le_trans (g10).size (Nat.le_refl _)) u14).trans g15)).size (Nat.le_refl _)) u17).has b7) 0 rfl rfl) ?_;refine Runs.stepB (AH.has.rd ((((((((g10.trans g11).trans g12).trans g13).updr (Nat.le_trans (g10).size (Nat.le_refl _)) u14).trans g15).trans g16).updr (Nat.le_trans ((((((g10.trans g11).trans g12).trans g13).updr (Nat.le_trans (g10).size (Nat.le_refl _)) u14).trans g15)).size (Nat.le_refl _)) u17).has b7) 1 rfl (asSl_v _)) ?_;refine Runs.stepB (AH.has.rd b17 0 rfl rfl) ?_;refine Runs.stepB (AH.has.rd b17 1 rfl (asSl_v _)) ?_;refine Runs.putsB ((((((((g10.trans g11).trans g12).trans g13).updr (Nat.le_trans (g10).size (Nat.le_refl _)) u14).trans g15).trans g16).updr (Nat.le_trans ((((((g10.trans g11).trans g12).trans g13).updr (Nat.le_trans (g10).size (Nat.le_refl _)) u14).trans g15)).size (Nat.le_refl _)) u17).has b3) rfl fun H18 b18 u18=>?_;have n1_18:=(n1.grow (((((((g10.trans g11).trans g12).trans g13).updr (Nat.le_trans (g10).size (Nat.le_refl _)) u14).trans g15).trans g16).updr (Nat.le_trans ((((((g10.trans g11).trans g12).trans g13).updr (Nat.le_trans (g10).size (Nat.le_refl _)) u14).trans g15)).size (Nat.le_refl _)) u17)).upda av1_3 u18;have n2c0_18:=(n2c0.grow (((((((g10.trans g11).trans g12).trans g13).updr (Nat.le_trans (g10).size (Nat.le_refl _)) u14).trans g15).trans g16).updr (Nat.le_trans ((((((g10.trans g11).trans g12).trans g13).updr (Nat.le_trans (g10).size (Nat.le_refl _)) u14).trans g15)).size (Nat.le_refl _)) u17)).upda av2c0_3 u18;have n3c0_18:=(n3c0.grow (((((((g10.trans g11).trans g12).trans g13).updr (Nat.le_trans (g10).size (Nat.le_refl _)) u14).trans g15).trans g16).updr (Nat.le_trans ((((((g10.trans g11).trans g12).trans g13).updr (Nat.le_trans (g10).size (Nat.le_refl _)) u14).trans g15)).size (Nat.le_refl _)) u17)).upda av3c0_3 u18;have n4c1_18:=(n4c1.grow (((((((g10.trans g11).trans g12).trans g13).updr (Nat.le_trans (g10).size (Nat.le_refl _)) u14).trans g15).trans g16).updr (Nat.le_trans ((((((g10.trans g11).trans g12).trans g13).updr (Nat.le_trans (g10).size (Nat.le_refl _)) u14).trans g15)).size (Nat.le_refl _)) u17)).upda av4c1_3 u18;have n7c1_18:=(n7c1.grow (((((((g10.trans g11).trans g12).trans g13).updr (Nat.le_trans (g10).size (Nat.le_refl _)) u14).trans g15).trans g16).updr (Nat.le_trans ((((((g10.trans g11).trans g12).trans g13).updr (Nat.le_trans (g10).size (Nat.le_refl _)) u14).trans g15)).size (Nat.le_refl _)) u17)).upda av7c1_3 u18;have n10_18:=(n10.grow ((((((g11.trans g12).trans g13).updr (Nat.le_refl _) u14).trans g15).trans g16).updr (Nat.le_trans (((((g11.trans g12).trans g13).updr (Nat.le_refl _) u14).trans g15)).size (Nat.le_refl _)) u17)).upda (Av.of_own o10 (b3).lt) u18;have n10b_18:=(n10b.grow ((((((g11.trans g12).trans g13).updr (Nat.le_refl _) u14).trans g15).trans g16).updr (Nat.le_trans (((((g11.trans g12).trans g13).updr (Nat.le_refl _) u14).trans g15)).size (Nat.le_refl _)) u17)).upda (Av.of_own o10b (b3).lt) u18;have n12_18:=(n12_14.grow ((g15.trans g16).updr (Nat.le_trans (g15).size (Nat.le_refl _)) u17)).upda (Av.of_own o12 ((g10.trans g11).has b3).lt) u18;have n13_18:=(n13_14.grow ((g15.trans g16).updr (Nat.le_trans (g15).size (Nat.le_refl _)) u17)).upda (Av.of_own o13 (((g10.trans g11).trans g12).has b3).lt) u18;have n15_18:=(n15.grow (g16.updr (Nat.le_refl _) u17)).upda (Av.of_own o15 (((((g10.trans g11).trans g12).trans g13).updr (Nat.le_trans (g10).size (Nat.le_refl _)) u14).has b3).lt) u18;have b2_18:=AH.has.updr ((((((((g10.trans g11).trans g12).trans g13).updr (Nat.le_trans (g10).size (Nat.le_refl _)) u14).trans g15).trans g16).updr (Nat.le_trans ((((((g10.trans g11).trans g12).trans g13).updr (Nat.le_trans (g10).size (Nat.le_refl _)) u14).trans g15)).size (Nat.le_refl _)) u17).has b2) ne2_3 u18;have b4_18:=AH.has.updr ((((((((g10.trans g11).trans g12).trans g13).updr (Nat.le_trans (g10).size (Nat.le_refl _)) u14).trans g15).trans g16).updr (Nat.le_trans ((((((g10.trans g11).trans g12).trans g13).updr (Nat.le_trans (g10).size (Nat.le_refl _)) u14).trans g15)).size (Nat.le_refl _)) u17).has b4) (Ne.symm ne3_4) u18;have b7_18:=AH.has.updr ((((((((g10.trans g11).trans g12).trans g13).updr (Nat.le_trans (g10).size (Nat.le_refl _)) u14).trans g15).trans g16).updr (Nat.le_trans ((((((g10.trans g11).trans g12).trans g13).updr (Nat.le_trans (g10).size (Nat.le_refl _)) u14).trans g15)).size (Nat.le_refl _)) u17).has b7) (Ne.symm ne3_7) u18;have b14_18:=AH.has.updr (((g15.trans g16).updr (Nat.le_trans (g15).size (Nat.le_refl _)) u17).has b14) (Nat.ne_of_gt (Nat.lt_of_lt_of_le (g10.has b3).lt (Nat.le_refl _))) u18;have b17_18:=AH.has.updr b17 (Nat.ne_of_gt (Nat.lt_of_lt_of_le ((((((g10.trans g11).trans g12).trans g13).updr (Nat.le_trans (g10).size (Nat.le_refl _)) u14).trans g15).has b3).lt (Nat.le_refl _))) u18;refine Runs.whenB (km2 b17 b17_18 0 2) ?_;refine Runs.whenB (km2 ((((((((g10.trans g11).trans g12).trans g13).updr (Nat.le_trans (g10).size (Nat.le_refl _)) u14).trans g15).trans g16).updr (Nat.le_trans ((((((g10.trans g11).trans g12).trans g13).updr (Nat.le_trans (g10).size (Nat.le_refl _)) u14).trans g15)).size (Nat.le_refl _)) u17).has b7) b7_18 0 2) ?_;refine Runs.putsB b2_18 rfl fun H19 b19 u19=>?_;have n1_19:=n1_18.upda av1_2 u19;have n2c0_19:=n2c0_18.upda av2c0_2 u19;have n3c0_19:=n3c0_18.upda av3c0_2 u19;have n4c1_19:=n4c1_18.upda av4c1_2 u19;have n7c1_19:=n7c1_18.upda av7c1_2 u19;have n10_19:=n10_18.upda (Av.of_own o10 (b2).lt) u19;have n10b_19:=n10b_18.upda (Av.of_own o10b (b2).lt) u19;have n12_19:=n12_18.upda (Av.of_own o12 ((g10.trans g11).has b2).lt) u19;have n13_19:=n13_18.upda (Av.of_own o13 (((g10.trans g11).trans g12).has b2).lt) u19;have n15_19:=n15_18.upda (Av.of_own o15 (((((g10.trans g11).trans g12).trans g13).updr (Nat.le_trans (g10).size (Nat.le_refl _)) u14).has b2).lt) u19;have b18_19:=AH.has.updr b18 (Ne.symm ne2_3) u19;have b4_19:=AH.has.updr b4_18 (Ne.symm ne2_4) u19;have b7_19:=AH.has.updr b7_18 (Ne.symm ne2_7) u19;have b14_19:=AH.has.updr b14_18 (Nat.ne_of_gt (Nat.lt_of_lt_of_le (g10.has b2).lt (Nat.le_refl _))) u19;have b17_19:=AH.has.updr b17_18 (Nat.ne_of_gt (Nat.lt_of_lt_of_le ((((((g10.trans g11).trans g12).trans g13).updr (Nat.le_trans (g10).size (Nat.le_refl _)) u14).trans g15).has b2).lt (Nat.le_refl _))) u19;refine Runs.whenB (km2 b17_18 b17_19 0 2) ?_;refine Runs.whenB (km2 b7_18 b7_19 0 2) ?_;refine Runs.putsB b4_19 rfl fun H20 b20 u20=>?_;have n1_20:=n1_19.upda av1_4 u20;have n2c0_20:=n2c0_19.upda av2c0_4 u20;have n3c0_20:=n3c0_19.upda av3c0_4 u20;have n4c1_20:=n4c1_19.upda av4c1_4 u20;have n7c1_20:=n7c1_19.upda av7c1_4 u20;have n10_20:=n10_19.upda (Av.of_own o10 (b4).lt) u20;have n10b_20:=n10b_19.upda (Av.of_own o10b (b4).lt) u20;have n12_20:=n12_19.upda (Av.of_own o12 ((g10.trans g11).has b4).lt) u20;have n13_20:=n13_19.upda (Av.of_own o13 (((g10.trans g11).trans g12).has b4).lt) u20;have n15_20:=n15_19.upda (Av.of_own o15 (((((g10.trans g11).trans g12).trans g13).updr (Nat.le_trans (g10).size (Nat.le_refl _)) u14).has b4).lt) u20;have b19_20:=AH.has.updr b19 ne2_4 u20;have b18_20:=AH.has.updr b18_19 ne3_4 u20;have b7_20:=AH.has.updr b7_19 (Ne.symm ne4_7) u20;have b14_20:=AH.has.updr b14_19 (Nat.ne_of_gt (Nat.lt_of_lt_of_le (g10.has b4).lt (Nat.le_refl _))) u20;have b17_20:=AH.has.updr b17_19 (Nat.ne_of_gt (Nat.lt_of_lt_of_le ((((((g10.trans g11).trans g12).trans g13).updr (Nat.le_trans (g10).size (Nat.le_refl _)) u14).trans g15).has b4).lt (Nat.le_refl _))) u20;refine Runs.whenB (km2 b17_19 b17_20 0 2) ?_;refine Runs.putsB b7_20 rfl fun H21 b21 u21=>?_;have n1_21:=n1_20.upda av1_7 u21;have n2c0_21:=n2c0_20.upda av2c0_7 u21;have n3c0_21:=n3c0_20.upda av3c0_7 u21;have n4c1_21:=n4c1_20.upda av4c1_7 u21;have n7c1_21:=n7c1_20.upda av7c1_7 u21;have n10_21:=n10_20.upda (Av.of_own o10 (b7).lt) u21;have n10b_21:=n10b_20.upda (Av.of_own o10b (b7).lt) u21;have n12_21:=n12_20.upda (Av.of_own o12 ((g10.trans g11).has b7).lt) u21;have n13_21:=n13_20.upda (Av.of_own o13 (((g10.trans g11).trans g12).has b7).lt) u21;have n15_21:=n15_20.upda (Av.of_own o15 (((((g10.trans g11).trans g12).trans g13).updr (Nat.le_trans (g10).size (Nat.le_refl _)) u14).has b7).lt) u21;have b19_21:=AH.has.updr b19_20 ne2_7 u21;have b18_21:=AH.has.updr b18_20 ne3_7 u21;have b20_21:=AH.has.updr b20 ne4_7 u21;have b14_21:=AH.has.updr b14_20 (Nat.ne_of_gt (Nat.lt_of_lt_of_le (g10.has b7).lt (Nat.le_refl _))) u21;have b17_21:=AH.has.updr b17_20 (Nat.ne_of_gt (Nat.lt_of_lt_of_le ((((((g10.trans g11).trans g12).trans g13).updr (Nat.le_trans (g10).size (Nat.le_refl _)) u14).trans g15).has b7).lt (Nat.le_refl _))) u21;refine Runs.retB ?_;refine Runs.step rfl ?_;cases e;exact good ((((((((((((g0.trans g10).trans g11).trans g12).trans g13).updr (Nat.le_trans ((g0.trans g10)).size (Nat.le_refl _)) u14).trans g15).trans g16).updr (Nat.le_trans (((((((g0.trans g10).trans g11).trans g12).trans g13).updr (Nat.le_trans ((g0.trans g10)).size (Nat.le_refl _)) u14).trans g15)).size (Nat.le_refl _)) u17).updr hi3 u18).updr hi2 u19).updr hi4 u20).updr hi7 u21) n1_21 b19_21 n10b_21 b18_21 n2c0_21 b20_21 n7c1_21 b21 n15_21 hi2 hi3 hi4 hi7 av1_2 av1_3 av1_4 av1_7 (Av.of_own o10b (b2).lt) (Av.of_own o10b (b3).lt) (Av.of_own o10b (b4).lt) (Av.of_own o10b (b7).lt) av2c0_2 av2c0_3 av2c0_4 av2c0_7 av7c1_2 av7c1_3 av7c1_4 av7c1_7 (Av.of_own o15 (((((g10.trans g11).trans g12).trans g13).updr (Nat.le_trans (g10).size (Nat.le_refl _)) u14).has b2).lt) (Av.of_own o15 (((((g10.trans g11).trans g12).trans g13).updr (Nat.le_trans (g10).size (Nat.le_refl _)) u14).has b3).lt) (Av.of_own o15 (((((g10.trans g11).trans g12).trans g13).updr (Nat.le_trans (g10).size (Nat.le_refl _)) u14).has b4).lt) (Av.of_own o15 (((((g10.trans g11).trans g12).trans g13).updr (Nat.le_trans (g10).size (Nat.le_refl _)) u14).has b7).lt) ne2_3 ne2_4 ne3_4 ne2_7 ne3_7 ne4_7
 ·replace e:=(condF k9).symm.trans e;refine Runs.step (AH.has.rd0 b3 rfl (asSl_v _)) ?_;refine Runs.new fun H10 b10 g10=>?_;obtain⟨w11,z11,e⟩:=Option.bind_eq_some_iff.1 e;obtain⟨H12,e12,g12⟩:=kef (n3c0.grow g10) (Nats.of_has1 b10 z11);refine Runs.step e12 ?_;refine Runs.step (seen (kc _ _)) ?_;refine Runs.cond (fun k13=>?_) (fun k13=>?_)
  ·replace e:=(condT k13).symm.trans e;cases e;cases good;exact Runs.ret ⟨(⟨none,0,.is 0⟩:Sl),rfl,(Nats.nil _),((g0.trans g10).trans g12),(Own.nil _)⟩
  ·replace e:=(condF k13).symm.trans e;refine Runs.new fun H14 b14 g14=>?_;refine Runs.new fun H15 b15 g15=>?_;refine Runs.step (AH.has.rd ((((g10.trans g12).trans g14).trans g15).has b4) 0 rfl rfl) ?_;refine Runs.step (AH.has.rd ((((g10.trans g12).trans g14).trans g15).has b4) 1 rfl (asSl_v _)) ?_;obtain⟨s16,H16,e16,n16,g16,o16⟩:=kb5 (n1.grow (((g10.trans g12).trans g14).trans g15)) false;refine Runs.step e16 ?_;refine Runs.step rfl ?_;refine Runs.ifT rfl ?_;refine Runs.step (seenAt rfl rfl) ?_;refine Runs.step (seenAt rfl (asSl_v _)) ?_;refine Runs.when (g16.same ((((g10.trans g12).trans g14).trans g15).has b4) 0 2) ?_;refine Runs.when (g16.same b15 0 0) ?_;refine Runs.when (g16.same (g15.has b14) 0 0) ?_;obtain⟨_,H17,e17,s17,s17b,rfl,n17,n17b,g17,o17,o17b⟩:=k2y (n4c1.grow ((((g10.trans g12).trans g14).trans g15).trans g16)) n16 p4c0 ((fromI false x1).1);refine Runs.step e17 ?_;refine Runs.step rfl ?_;refine Runs.step rfl ?_;refine Runs.ifT rfl ?_;refine Runs.step (seenAt rfl rfl) ?_;refine Runs.step (seenAt rfl (asSl_v _)) ?_;refine Runs.step rfl ?_;refine Runs.ifT rfl ?_;refine Runs.step (seenAt rfl rfl) ?_;refine Runs.step (seenAt rfl (asSl_v _)) ?_;refine Runs.step (seen (kc _ _)) ?_;refine Runs.when (g17.same (g16.has b15) 0 0) ?_;refine Runs.when (g17.same ((g15.trans g16).has b14) 0 0) ?_;refine Runs.puts (((g15.trans g16).trans g17).has b14) rfl fun H18 b18 u18=>?_;have n16_18:=(n16.grow g17).upda (Av.of_own o16 (g15.has b14).lt) u18;have n17_18:=n17.upda (Av.of_own o17 ((g15.trans g16).has b14).lt) u18;have n17b_18:=n17b.upda (Av.of_own o17b ((g15.trans g16).has b14).lt) u18;have b15_18:=AH.has.updr ((g16.trans g17).has b15) (Nat.ne_of_gt (Nat.lt_of_lt_of_le (b14).lt (Nat.le_refl _))) u18;refine Runs.puts b15_18 rfl fun H19 b19 u19=>?_;have n16_19:=n16_18.upda (Av.of_own o16 (b15).lt) u19;have n17_19:=n17_18.upda (Av.of_own o17 (g16.has b15).lt) u19;have n17b_19:=n17b_18.upda (Av.of_own o17b (g16.has b15).lt) u19;have b18_19:=AH.has.updr b18 (Nat.ne_of_lt (Nat.lt_of_lt_of_le (b14).lt (Nat.le_refl _))) u19;refine Runs.step (AH.has.rd b19 1 rfl (asSl_v _)) ?_;cases e;cases good;exact Runs.ret ⟨s17b,rfl,n17b_19,((((((((g0.trans g10).trans g12).trans g14).trans g15).trans g16).trans g17).updr (Nat.le_trans (((g0.trans g10).trans g12)).size (Nat.le_refl _)) u18).updr (Nat.le_trans ((((g0.trans g10).trans g12).trans g14)).size (Nat.le_refl _)) u19),(o17b.of_le (((((g0.trans g10).trans g12).trans g14).trans g15).trans g16))⟩
theorem k3u{s:kg4}{r:ke9}(it:Iter ko7 s r):km6 r s:=Iter.ind (fun s o e good=>by
 cases s with
 | fn x1 x2=>exact @kbcp _ _ x1 x2 e good
 | p7 x1 x2c0 x3c0 p4c0 x4c1 p7c0 x7c1=>exact @k5l _ _ x1 x2c0 x3c0 p4c0 x4c1 p7c0 x7c1 e good
 ) it
inductive knr
 | fn (x1:List Nat) (x2:List Nat)
 | p9 (x1:List Nat) (x2:List Nat) (x3:List Nat) (p4c0:Bool) (x4c1:List Nat) (p5c0:Bool) (x5c1:List Nat)
abbrev kvq:=List Nat×Int
noncomputable def kfm(x1 x2:List Nat):Option (knr⊕kvq) :=
 cond (!(rt x1)) (some (.inr ([],1))) (cond (!(rt x2)) (some (.inr ([],1))) ((u64P 2).bind fun p7=>cond (decide ((cmpN x2 (digs B p7))<0)) (some (.inr ([],1))) ((need (List.length x2≤1073741824)).bind fun c11=>(need (-9223372036854775808≤(1:Int)∧(1:Int)≤9223372036854775807)).bind fun c15_0=>some (.inl (.p9 x2 x2 ((divN x1 x2).2.1) false [] ((ofI 1).1) ((ofI 1).2))))))
noncomputable def kiq(x1 x2 x3:List Nat)(p4c0:Bool)(x4c1:List Nat)(p5c0:Bool)(x5c1:List Nat):Option (knr⊕kvq) :=
 cond (decide ((List.length x3:Int)>0)) (some (.inl (.p9 x1 x3 ((divN x2 x3).2.1) p5c0 x5c1 (((kba p4c0 x4c1 (((kbi ((fromI false ((divN x2 x3).1)).1) ((fromI false ((divN x2 x3).1)).2) p5c0 x5c1).1)) ((kbi ((fromI false ((divN x2 x3).1)).1) ((fromI false ((divN x2 x3).1)).2) p5c0 x5c1).2.1)).1)) ((kba p4c0 x4c1 (((kbi ((fromI false ((divN x2 x3).1)).1) ((fromI false ((divN x2 x3).1)).2) p5c0 x5c1).1)) ((kbi ((fromI false ((divN x2 x3).1)).1) ((fromI false ((divN x2 x3).1)).2) p5c0 x5c1).2.1)).2.1)))) ((u64P 1).bind fun p7=>cond (!decide ((cmpN x2 (digs B p7))=0)) (some (.inr ([],6))) (some (.inr ((floorI p4c0 x4c1 ((fromI false x1).1) ((fromI false x1).2)).2.2.2.1,0))))
noncomputable def ktv:knr→Option (knr⊕kvq)
 | .fn x1 x2=>kfm x1 x2
 | .p9 x1 x2 x3 p4c0 x4c1 p5c0 x5c1=>kiq x1 x2 x3 p4c0 x4c1 p5c0 x5c1
end Go.Ab

/- squeezed -/
set_option maxRecDepth 10000
namespace Go.Ab
open Go.Proofs Go.Num
theorem kn3{a b:Nat}(ha:a<B^64)(hb:b<B^64):cmpN (digs B a) (digs B b)=cmp a b:=by
 unfold cmpN;rw[if_pos ⟨kp ha,kp hb⟩,kg B2,kg B2]
theorem cmp_eq{a b:Nat}:cmp a b=0↔a=b:=by
 unfold cmp;by_cases h:a<b
 ·rw[if_pos h];omega
 ·rw[if_neg h];by_cases h2:a=b
  ·rw[if_pos h2];omega
  ·rw[if_neg h2];omega
structure Eu(n A X Y:Nat)(e:Int)(u v:Nat):Prop where
 sign:e=1∨e=-1
 sum:u*Y+v*X=n
 ub:u≤n
 one:(n:Int)∣e*u*A-X
 two:(n:Int)∣-(e*v)*A-Y
theorem Eu.vb{n A X Y:Nat}{e:Int}{u v:Nat}(E:Eu n A X Y e u v)(hX:0<X):v≤n:=by
 have h1:v*1≤v*X:=Nat.mul_le_mul_left _ hX;have:=E.sum;omega
theorem Eu.next{n A X Y:Nat}{e:Int}{u v:Nat}(E:Eu n A X Y e u v)(hY:0<Y)(hX:0<X):Eu n A Y (X%Y) (-e) v (u+X/Y*v):=by
 have dm:=Nat.div_add_mod X Y;refine⟨?_,?_,E.vb hX,?_,?_⟩
 ·rcases E.sign with h | h<;>subst h<;>simp
 ·have h:=E.sum;have h1:v*X=v*(Y*(X/Y))+v*(X%Y):=by rw[← Nat.mul_add,dm]
  have h2:v*(Y*(X/Y))=X/Y*v*Y:=by rw[Nat.mul_comm Y,← Nat.mul_assoc,Nat.mul_comm v]
  rw[Nat.add_mul];omega
 ·have:=E.two;rwa[Int.neg_mul e (v:Int)]
 ·have h1:=E.one;have h2:=Int.dvd_mul_of_dvd_right (b:=((X/Y:Nat):Int)) E.two;have h3:=Int.dvd_sub h1 h2
  have e1:e*(u:Int)*(A:Int)-(X:Int)-((X/Y:Nat):Int)*(-(e*(v:Int))*(A:Int)-(Y:Int))=-(-e*((u+X/Y*v:Nat):Int))*(A:Int)-((X%Y:Nat):Int):=by
   have hX:(X:Int)=(Y:Int)*((X/Y:Nat):Int)+((X%Y:Nat):Int):=by rw[← Int.natCast_mul,← Int.natCast_add,dm]
   generalize X/Y=q at *
   generalize X%Y=r at *
   rw[hX,Int.natCast_add,Int.natCast_mul];simp only[Int.neg_mul,Int.mul_add,Int.add_mul,Int.mul_sub,Int.mul_neg,Int.neg_neg]
   have a1:e*((q:Int)*(v:Int))*(A:Int)=(q:Int)*(e*(v:Int)*(A:Int)):=by
    rw[← Int.mul_assoc,Int.mul_comm e (q:Int),Int.mul_assoc (q:Int),Int.mul_assoc (q:Int)]
   have a2:(Y:Int)*(q:Int)=(q:Int)*(Y:Int):=Int.mul_comm _ _;rw[a1,a2];omega
  rwa[e1]at h3
def InvAns(n A X Y:Nat)(r:List Nat×Int):Prop:=(Nat.gcd X Y≠1→r=([],6))∧(Nat.gcd X Y=1→∃w:Nat,w<n∧r=(digs B w,0)∧w*A%n=1)
theorem kbg9{n A:Nat}(hn:n<B^64)(hn2:2≤n):∀(Y X:Nat)(e:Int)(u v:Nat),X<B^64→Y<B^64→0<X→Eu n A X Y e u v→
  ∃r,Iter ko7 (.p7 (digs B n) (digs B Y) (digs B X) (intD (e*u)).1 (intD (e*u)).2 (intD (-(e*v))).1 (intD (-(e*v))).2) r∧
   Iter ktv (.p9 (digs B n) (digs B X) (digs B Y) (intD (e*u)).1 (intD (e*u)).2 (intD (-(e*v))).1 (intD (-(e*v))).2) r∧InvAns n A X Y r:=by
 intro Y
 induction Y using Nat.strongRecOn with
 | ind Y ih =>
  intro X e u v hX hY hX0 E;have he:e.natAbs=1:=by rcases E.sign with h | h<;>subst h<;>rfl
  have hu:(e*(u:Int)).natAbs=u:=by rw[Int.natAbs_mul,he,Nat.one_mul,Int.natAbs_natCast]
  have hv:(-(e*(v:Int))).natAbs=v:=by rw[Int.natAbs_neg,Int.natAbs_mul,he,Nat.one_mul,Int.natAbs_natCast]
  have hvn:v≤n:=E.vb hX0;have hun:u≤n:=E.ub;have fn:fromI false (digs B n)=intD (n:Int):=by rw[kdg hn];rfl
  have hni:((n:Int)).natAbs<B^64:=by simpa using hn
  by_cases h0:Y=0
  ·subst h0;have hg:Nat.gcd X 0=X:=Nat.gcd_zero_right X;have h64:=ko4;have c1:cmpN (digs B X) [1]=cmp X 1:=by rw[← khs];exact kn3 hX (by omega)
   have c2:cmpN (digs B X) (digs B 1)=cmp X 1:=kn3 hX (by omega);by_cases h1:X=1
   ·subst h1;have hfl:=kzy (u:=e*(u:Int)) (v:=(n:Int)) (by omega) hni (by omega);have hw0:=Int.emod_nonneg (e*(u:Int)) (show(n:Int)≠0 by omega);have hw1:=Int.emod_lt_of_pos (e*(u:Int)) (show 0<(n:Int) by omega);obtain⟨w,hw⟩:∃w:Nat,e*(u:Int)%(n:Int)=(w:Int):=⟨_,(Int.toNat_of_nonneg hw0).symm⟩;have hdw:(intD (e*(u:Int)%(n:Int))).2=digs B w:=by rw[hw,kqm]
    refine⟨(digs B w,0),.done ?_,.done ?_,fun h=>absurd hg h,fun _=>⟨w,by omega,rfl,?_⟩⟩
    ·show kf1 _ _ _ _ _ _ _=_;unfold kf1;rw[kbp,condF (by rfl),kh7,Option.bind_some,c1,condF (by rfl),fn,hfl];dsimp only;rw[hdw]
    ·show kiq _ _ _ _ _ _ _=_;unfold kiq;rw[kbp,condF (by rfl),kh7,Option.bind_some,c2,condF (by rfl),fn,hfl];dsimp only;rw[hdw]
    ·have hd:=E.one
     have h2:(e*(u:Int)*(A:Int))%(n:Int)=1:=by
      have h3:=Int.emod_eq_emod_iff_emod_sub_eq_zero.2 (Int.emod_eq_zero_of_dvd hd);rw[h3];exact Int.emod_eq_of_lt (by omega) (by omega)
     have h4:(w:Int)%(n:Int)=(e*(u:Int))%(n:Int):=by rw[← hw,Int.emod_emod_of_dvd _ (Int.dvd_refl _)]
     have h5:((w*A%n:Nat):Int)=1:=by
      rw[Int.natCast_emod,Int.natCast_mul,Int.mul_emod,h4,← Int.mul_emod];exact h2
     omega
   ·refine⟨([],6),.done ?_,.done ?_,fun _=>rfl,fun h=>absurd (hg.symm.trans h) h1⟩
    ·show kf1 _ _ _ _ _ _ _=_;unfold kf1;rw[kbp,condF (by rfl),kh7,Option.bind_some,c1,condT (by rw[Bool.not_eq_true',decide_eq_false_iff_not,cmp_eq];exact h1)]
    ·show kiq _ _ _ _ _ _ _=_;unfold kiq;rw[kbp,condF (by rfl),kh7,Option.bind_some,c2,condT (by rw[Bool.not_eq_true',decide_eq_false_iff_not,cmp_eq];exact h1)]
  ·have hY0:0<Y:=by omega
   have E':=E.next hY0 hX0;have hv':=E'.vb hY0;have hm:=Nat.mod_lt X hY0;have hne:digs B Y≠[]:=fun h=>h0 ((kep B2).1 h);have hlen:(digs B Y).length≠0:=by simpa using hne
   obtain⟨r,it1,it2,ans⟩:=ih (X%Y) hm Y (-e) v (u+X/Y*v) hY (by omega) hY0 E'
   have dv:divN (digs B X) (digs B Y)=(digs B (X/Y),digs B (X%Y),0):=by
    unfold divN;rw[if_pos ⟨kp hX,kp hY⟩,if_neg hne,kg B2,kg B2]
   have hq:X/Y<B^64:=Nat.lt_of_le_of_lt (Nat.div_le_self _ _) hX;have fq:fromI false (digs B (X/Y))=intD ((X/Y:Nat):Int):=by rw[kdg hq];rfl
   have hqi:(((X/Y:Nat):Int)).natAbs<B^64:=by rw[Int.natAbs_natCast];exact hq
   have hp:(((X/Y:Nat):Int)*-(e*(v:Int))).natAbs=X/Y*v:=by rw[Int.natAbs_mul,hv,Int.natAbs_natCast]
   have mul:=kyl hqi (show(-(e*(v:Int))).natAbs<B^64 by omega);rw[if_pos (by rw[hp];omega)]at mul
   have es:e*(u:Int)-((X/Y:Nat):Int)*-(e*(v:Int))=-(-e*((u+X/Y*v:Nat):Int)):=by
    generalize X/Y=q;rw[Int.natCast_add,Int.natCast_mul,Int.neg_mul,Int.neg_neg,Int.mul_add,Int.mul_neg,Int.mul_left_comm e];omega
   have hn':(-(-e*((u+X/Y*v:Nat):Int))).natAbs=u+X/Y*v:=by
    rw[Int.natAbs_neg,Int.natAbs_mul,Int.natAbs_neg,he,Nat.one_mul,Int.natAbs_natCast]
   have sub:=k2q (u:=e*(u:Int)) (v:=((X/Y:Nat):Int)*-(e*(v:Int))) (by omega) (by rw[hp];omega);rw[es,if_pos (by rw[hn'];omega)]at sub;have et:-(e*(v:Int))=-e*(v:Int):=by rw[Int.neg_mul]
   refine⟨r,.next ?_ it1,.next ?_ it2,?_⟩
   ·show kf1 _ _ _ _ _ _ _=_;unfold kf1;rw[condT (by rw[decide_eq_true_eq];omega),dv];dsimp only;rw[fq,mul];dsimp only;rw[sub,← et]
   ·show kiq _ _ _ _ _ _ _=_;unfold kiq;rw[condT (by rw[decide_eq_true_eq];omega),dv];dsimp only;rw[fq,mul];dsimp only;rw[sub,← et]
   ·have hg:Nat.gcd X Y=Nat.gcd Y (X%Y):=by rw[Nat.gcd_comm X Y,Nat.gcd_rec,Nat.gcd_comm]
    unfold InvAns;rw[hg];exact ans
end Go.Ab

/- squeezed -/
set_option maxRecDepth 10000
namespace Go.Ab
open Go.Proofs Go.Num
def kwu(xs ys:List Nat)(r:List Nat×Int):Prop :=
 (rt xs=true∧rt ys=true∧2≤num B ys→InvAns (num B ys) (num B xs) (num B ys) (num B xs%num B ys) r)∧(¬(rt xs=true∧rt ys=true∧2≤num B ys)→r=([],1))
theorem k68{ys:List Nat}(ly:∀y∈ys,y<B)(t:Trim ys):ys=digs B (num B ys):=(kcs B2 ly t).symm
theorem kv1{xs ys:List Nat}(lx:∀x∈xs,x<B)(ly:∀y∈ys,y<B):∃r,Iter ko7 (.fn xs ys) r∧Iter ktv (.fn xs ys) r∧kwu xs ys r:=by
 cases hx:rt xs with
 | false =>
  refine⟨([],1),.done ?_,.done ?_,fun h=>absurd h.1 (by simp[hx]),fun _=>rfl⟩
  ·show kea _ _=_;unfold kea;rw[hx];rfl
  ·show kfm _ _=_;unfold kfm;rw[hx];rfl
 | true =>
  cases hy:rt ys with
  | false =>
   refine⟨([],1),.done ?_,.done ?_,fun h=>absurd h.2.1 (by simp[hy]),fun _=>rfl⟩
   ·show kea _ _=_;unfold kea;rw[hx,hy];rfl
   ·show kfm _ _=_;unfold kfm;rw[hx,hy];rfl
  | true =>
   obtain⟨ly64,ty⟩:=rt_iff.1 hy;obtain⟨n,hn⟩:∃n,n=num B ys:=⟨_,rfl⟩;have hys:ys=digs B n:=by rw[hn];exact k68 ly ty
   have hn64:n<B^64:=by rw[hn];exact kif ly hy
   have h64:=ko4;have c1:cmpN ys [1]=cmp n 1:=by rw[hys,← khs];exact kn3 hn64 (by omega)
   have c2:cmpN ys (digs B 2)=cmp n 2:=by rw[hys];exact kn3 hn64 (by omega)
   have p2:u64P 2=some 2:=kbf (n:=2) (by decide);by_cases h2:2≤n
   ·have hne:ys≠[]:=by
     rintro rfl
     simp[num]at hn;omega
    have hm:=Nat.mod_lt (num B xs) (show 0<n by omega)
    have E0:Eu n (num B xs) n (num B xs%n) (-1) 0 1:=by
     refine⟨.inr rfl,by omega,by omega,?_,?_⟩
     ·rw[Int.natCast_zero,Int.mul_zero,Int.zero_mul,Int.zero_sub];exact Int.dvd_neg.2 (Int.dvd_refl _)
     ·rw[Int.natCast_one,Int.mul_one,Int.neg_neg,Int.one_mul];have:=Nat.div_add_mod (num B xs) n;refine⟨((num B xs/n:Nat):Int),?_⟩;rw[← Int.natCast_mul];omega
    obtain⟨r,it1,it2,ans⟩:=kbg9 hn64 h2 (num B xs%n) n (-1) 0 1 hn64 (by omega) (by omega) E0;have dv:(divN xs ys).2.1=digs B (num B xs%n):=by rw[kpj hx hy hne,hn]
    have e0:intD (-1*((0:Nat):Int))=(false,[]):=k64;have e1:intD (-(-1*((1:Nat):Int)))=ofI 1:=by rw[kbcz (by decide)];rfl
    rw[e0,e1]at it1 it2;refine⟨r,.next ?_ it1,.next ?_ it2,fun _=>by rw[← hn];exact ans,fun h=>absurd ⟨hx,hy,hn▸h2⟩ h⟩
    ·show kea _ _=_;unfold kea;rw[hx,hy,condF (by rfl),condF (by rfl),kh7,Option.bind_some,c1,condF (by rw[decide_eq_false_iff_not,cmp_le];omega),ki (by decide),Option.bind_some,dv,← hys]
    ·show kfm _ _=_;unfold kfm;rw[hx,hy,condF (by rfl),condF (by rfl),p2,Option.bind_some,c2,condF (by rw[decide_eq_false_iff_not,cmp_lt];omega),ki (by omega),Option.bind_some,ki (by decide),Option.bind_some,dv,← hys]
   ·refine⟨([],1),.done ?_,.done ?_,fun h=>absurd (hn▸h.2.2) h2,fun _=>rfl⟩
    ·show kea _ _=_;unfold kea;rw[hx,hy,condF (by rfl),condF (by rfl),kh7,Option.bind_some,c1,condT (by rw[decide_eq_true_eq,cmp_le];omega)]
    ·show kfm _ _=_;unfold kfm;rw[hx,hy,condF (by rfl),condF (by rfl),p2,Option.bind_some,c2,condT (by rw[decide_eq_true_eq,cmp_lt];omega)]
noncomputable def invN(xs ys:List Nat):List Nat×Int:=by
 classical
 exact if h:(∀x∈xs,x<B)∧(∀y∈ys,y<B)then(kv1 h.1 h.2).choose else([],0)
theorem kl5{xs ys:List Nat}(lx:∀x∈xs,x<B)(ly:∀y∈ys,y<B):Iter ko7 (.fn xs ys) (invN xs ys)∧Iter ktv (.fn xs ys) (invN xs ys)∧kwu xs ys (invN xs ys):=by
 unfold invN;rw[dif_pos ⟨lx,ly⟩];exact(kv1 lx ly).choose_spec
theorem kui{h:AH}{s t:Sl}{xs ys:List Nat}(n:Nats h s xs)(m:Nats h t ys):Runs (go (.fn F.kev [s.v,t.v]) h) (kuh h (invN xs ys)):=k3u (kl5 n.lt m.lt).1 n m
end Go.Ab

/- squeezed -/
set_option maxRecDepth 10000
namespace Go.Ab
open Go.Proofs Go.Num
def Lists(h:AH)(s:Sl)(xss:List (List Nat)):Prop:=∃rows:List (Sl×List Nat),Rows h s rows∧rows.map (·.2)=xss
theorem Lists.grow{h h':AH}{s:Sl}{xss:List (List Nat)}(n:Lists h s xss)(g:Grow h h'):Lists h' s xss:=by
 obtain⟨rows,r,e⟩:=n;exact⟨rows,r.grow g,e⟩
theorem Lists.len{h:AH}{s:Sl}{xss:List (List Nat)}(n:Lists h s xss):s.len=xss.length:=by
 obtain⟨rows,r,rfl⟩:=n;rw[r.len,List.length_map]
def atL(xss:List (List Nat))(i:Int):Option (List Nat):=if 0≤i then xss[i.toNat]? else none
theorem Lists.atL{h:AH}{s:Sl}{xss:List (List Nat)}(n:Lists h s xss){i:Int}{x:List Nat}(q:Go.Ab.atL xss i=some x):∃(r:Ref)(t:Sl),idx s.ref xss.length i 1=some r∧h.cell r=some t.v∧Nats h t x:=by
 have hl:=n.len;obtain⟨rows,r,rfl⟩:=n;unfold Go.Ab.atL at q;split at q
 ·rename_i h0;rw[List.getElem?_map,Option.map_eq_some_iff]at q;obtain⟨p,e1,rfl⟩:=q;obtain⟨hi,rfl⟩:=List.getElem?_eq_some_iff.1 e1;obtain⟨r',e2,e3⟩:=r.at hi;rw[hl,show((i.toNat:Nat):Int)=i from by omega]at e2;exact⟨r',_,e2,e3,r.each _ (List.getElem_mem _)⟩
 ·cases q
theorem Lists.four{h:AH}{i:Nat}{e:TypeId}{a b c d:Sl}{xa xb xc xd:List Nat}(x:h.has i [a.v,b.v,c.v,d.v] e)(na:Nats h a xa)(nb:Nats h b xb)(nc:Nats h c xc)(nd:Nats h d xd):Lists h ⟨some (.new i 0),4,.is 4⟩ [xa,xb,xc,xd]:=by
 refine⟨[(a,xa),(b,xb),(c,xc),(d,xd)],⟨Cells.of_has x rfl,fun p hp=>?_,by simp⟩,rfl⟩;simp at hp;rcases hp with rfl | rfl | rfl | rfl
 ·exact na
 ·exact nb
 ·exact nc
 ·exact nd
end Go.Ab

/- squeezed -/
set_option maxRecDepth 10000
namespace Go.Ab
open Go.Proofs Go.Num
def kel(x1:List Nat):Bool :=
 cond (!(rt x1)) (true) (decide ((List.length x1:Int)>8))
theorem kol{h:AH}{a1:Sl}{x1:List Nat}(n1:Nats h a1 x1)  : Runs (go (.fn F.kko [a1.v]) h) fun v h'=>v=.bool (kel x1)∧Grow h h':=by
 rw[kbky];rw[n1.len];refine Runs.step (kcr n1) ?_;refine Runs.step (seen rfl) ?_;refine Runs.cond (fun k3=>?_) (fun k3=>?_)
 ·have z:kel x1=true:=by unfold kel;exact(condT k3).trans rfl
  rw[z];exact Runs.ret ⟨rfl,(Grow.refl _)⟩
 ·have z:kel x1=decide ((List.length x1:Int)>8):=by unfold kel;exact(condF k3).trans rfl
  rw[z];exact Runs.ret ⟨rfl,(Grow.refl _)⟩
def khx(x1:List Nat):Bool :=
 decide ((cmpN x1 [1])≤0)
theorem kv7{h:AH}{a1:Sl}{x1:List Nat}(n1:Nats h a1 x1)  : Runs (go (.fn F.krn [a1.v]) h) fun v h'=>v=.bool (khx x1)∧Grow h h':=by
 rw[k3m];refine Runs.new fun H2 b2 g2=>?_;obtain⟨H3,e3,g3⟩:=kef (n1.grow g2) (Nats.of_has (xs:=[1]) b2 (by decide) (by decide));refine Runs.step e3 ?_;refine Runs.step (seen (kc _ _)) ?_;have z:khx x1=decide ((cmpN x1 [1])≤0):=by unfold khx;exact rfl
 rw[z];exact Runs.ret ⟨rfl,(g2.trans g3)⟩
inductive kjp
 | fn (x1:List Nat) (x2:List Nat) (x3:List Nat) (x4:List Nat)
 | no
abbrev kil:=List Nat×Int
noncomputable def kfr(x1 x2 x3 x4:List Nat):Option (kjp⊕kil) :=
 cond (((kel x1))) (some (.inr ([],1))) (cond (((kel x3))) (some (.inr ([],1))) (cond (((kel x2))) (some (.inr ([],1))) (cond (((kel x4))) (some (.inr ([],1))) (cond (((khx x2))) (some (.inr ([],1))) (cond (((khx x4))) (some (.inr ([],1))) (cond (decide ((cmpN x1 x2)≥0)) (some (.inr ([],1))) (cond (decide ((cmpN x3 x4)≥0)) (some (.inr ([],1))) (cond (!decide (((invN x2 x4).2)=0)) (some (.inr ([],((invN x2 x4).2)))) (some (.inr ((addN ((mulN x2 ((floorI (((kbi (((kba ((fromI false x3).1) ((fromI false x3).2) ((fromI false x1).1) ((fromI false x1).2)).1)) ((kba ((fromI false x3).1) ((fromI false x3).2) ((fromI false x1).1) ((fromI false x1).2)).2.1) ((fromI false ((invN x2 x4).1)).1) ((fromI false ((invN x2 x4).1)).2)).1)) ((kbi (((kba ((fromI false x3).1) ((fromI false x3).2) ((fromI false x1).1) ((fromI false x1).2)).1)) ((kba ((fromI false x3).1) ((fromI false x3).2) ((fromI false x1).1) ((fromI false x1).2)).2.1) ((fromI false ((invN x2 x4).1)).1) ((fromI false ((invN x2 x4).1)).2)).2.1) ((fromI false x4).1) ((fromI false x4).2)).2.2.2.1)).1) x1).1,((addN ((mulN x2 ((floorI (((kbi (((kba ((fromI false x3).1) ((fromI false x3).2) ((fromI false x1).1) ((fromI false x1).2)).1)) ((kba ((fromI false x3).1) ((fromI false x3).2) ((fromI false x1).1) ((fromI false x1).2)).2.1) ((fromI false ((invN x2 x4).1)).1) ((fromI false ((invN x2 x4).1)).2)).1)) ((kbi (((kba ((fromI false x3).1) ((fromI false x3).2) ((fromI false x1).1) ((fromI false x1).2)).1)) ((kba ((fromI false x3).1) ((fromI false x3).2) ((fromI false x1).1) ((fromI false x1).2)).2.1) ((fromI false ((invN x2 x4).1)).1) ((fromI false ((invN x2 x4).1)).2)).2.1) ((fromI false x4).1) ((fromI false x4).2)).2.2.2.1)).1) x1).2))))))))))))
noncomputable def kp5:kjp→Option (kjp⊕kil)
 | .fn x1 x2 x3 x4=>kfr x1 x2 x3 x4
 | .no=>none
@[reducible] def kwa(h0:AH)(r:kil)(v:AV)(h':AH):Prop:=∃s1:Sl,v=.tup [s1.v,.int .i64 r.2]∧Nats h' s1 r.1∧Grow h0 h'∧Own h0 s1
def kua(r:kil):kjp→Prop
 | .fn x1 x2 x3 x4=>∀{h:AH}{a1:Sl}{a2:Sl}{a3:Sl}{a4:Sl},Nats h a1 x1→Nats h a2 x2→Nats h a3 x3→Nats h a4 x4→Runs (go (.fn F.kn4 [a1.v,a2.v,a3.v,a4.v]) h) (kwa h r)
 | .no=>True
theorem kbfs{r:kil}{o:kjp⊕kil}{x1 x2 x3 x4:List Nat}(e:kfr x1 x2 x3 x4=some o)(good:GoodS (kua r) r o):kua r (.fn x1 x2 x3 x4):=by
 intro h a1 a2 a3 a4 n1 n2 n3 n4;rw[kbd3];unfold kfr at e;obtain⟨_,H5,e5,rfl,g5⟩:=kol n1;refine Runs.step e5 ?_;refine Runs.step (seen rfl) ?_;refine Runs.cond (fun k6=>?_) (fun k6=>?_)
 ·replace e:=(condT k6).symm.trans e;cases e;cases good;exact Runs.ret ⟨(⟨none,0,.is 0⟩:Sl),rfl,(Nats.nil _),g5,(Own.nil _)⟩
 ·replace e:=(condF k6).symm.trans e;obtain⟨_,H7,e7,rfl,g7⟩:=kol (n3.grow g5);refine Runs.step e7 ?_;refine Runs.step (seen rfl) ?_;refine Runs.cond (fun k8=>?_) (fun k8=>?_)
  ·replace e:=(condT k8).symm.trans e;cases e;cases good;exact Runs.ret ⟨(⟨none,0,.is 0⟩:Sl),rfl,(Nats.nil _),(g5.trans g7),(Own.nil _)⟩
  ·replace e:=(condF k8).symm.trans e;obtain⟨_,H9,e9,rfl,g9⟩:=kol (n2.grow (g5.trans g7));refine Runs.step e9 ?_;refine Runs.step (seen rfl) ?_;refine Runs.cond (fun k10=>?_) (fun k10=>?_)
   ·replace e:=(condT k10).symm.trans e;cases e;cases good;exact Runs.ret ⟨(⟨none,0,.is 0⟩:Sl),rfl,(Nats.nil _),((g5.trans g7).trans g9),(Own.nil _)⟩
   ·replace e:=(condF k10).symm.trans e;obtain⟨_,H11,e11,rfl,g11⟩:=kol (n4.grow ((g5.trans g7).trans g9));refine Runs.step e11 ?_;refine Runs.step (seen rfl) ?_;refine Runs.cond (fun k12=>?_) (fun k12=>?_)
    ·replace e:=(condT k12).symm.trans e;cases e;cases good;exact Runs.ret ⟨(⟨none,0,.is 0⟩:Sl),rfl,(Nats.nil _),(((g5.trans g7).trans g9).trans g11),(Own.nil _)⟩
    ·replace e:=(condF k12).symm.trans e;obtain⟨_,H13,e13,rfl,g13⟩:=kv7 (n2.grow (((g5.trans g7).trans g9).trans g11));refine Runs.step e13 ?_;refine Runs.step (seen rfl) ?_;refine Runs.cond (fun k14=>?_) (fun k14=>?_)
     ·replace e:=(condT k14).symm.trans e;cases e;cases good;exact Runs.ret ⟨(⟨none,0,.is 0⟩:Sl),rfl,(Nats.nil _),((((g5.trans g7).trans g9).trans g11).trans g13),(Own.nil _)⟩
     ·replace e:=(condF k14).symm.trans e;obtain⟨_,H15,e15,rfl,g15⟩:=kv7 (n4.grow ((((g5.trans g7).trans g9).trans g11).trans g13));refine Runs.step e15 ?_;refine Runs.step (seen rfl) ?_;refine Runs.cond (fun k16=>?_) (fun k16=>?_)
      ·replace e:=(condT k16).symm.trans e;cases e;cases good;exact Runs.ret ⟨(⟨none,0,.is 0⟩:Sl),rfl,(Nats.nil _),(((((g5.trans g7).trans g9).trans g11).trans g13).trans g15),(Own.nil _)⟩
      ·replace e:=(condF k16).symm.trans e;obtain⟨H17,e17,g17⟩:=kef (n1.grow (((((g5.trans g7).trans g9).trans g11).trans g13).trans g15)) (n2.grow (((((g5.trans g7).trans g9).trans g11).trans g13).trans g15));refine Runs.step e17 ?_;refine Runs.step (seen (kc _ _)) ?_;refine Runs.cond (fun k18=>?_) (fun k18=>?_)
       ·replace e:=(condT k18).symm.trans e;cases e;cases good;exact Runs.ret ⟨(⟨none,0,.is 0⟩:Sl),rfl,(Nats.nil _),((((((g5.trans g7).trans g9).trans g11).trans g13).trans g15).trans g17),(Own.nil _)⟩
       ·replace e:=(condF k18).symm.trans e;obtain⟨H19,e19,g19⟩:=kef (n3.grow ((((((g5.trans g7).trans g9).trans g11).trans g13).trans g15).trans g17)) (n4.grow ((((((g5.trans g7).trans g9).trans g11).trans g13).trans g15).trans g17));refine Runs.step e19 ?_;refine Runs.step (seen (kc _ _)) ?_;refine Runs.cond (fun k20=>?_) (fun k20=>?_)
        ·replace e:=(condT k20).symm.trans e;cases e;cases good;exact Runs.ret ⟨(⟨none,0,.is 0⟩:Sl),rfl,(Nats.nil _),(((((((g5.trans g7).trans g9).trans g11).trans g13).trans g15).trans g17).trans g19),(Own.nil _)⟩
        ·replace e:=(condF k20).symm.trans e;obtain⟨_,H21,e21,s21,rfl,n21,g21,o21⟩:=kui (n2.grow (((((((g5.trans g7).trans g9).trans g11).trans g13).trans g15).trans g17).trans g19)) (n4.grow (((((((g5.trans g7).trans g9).trans g11).trans g13).trans g15).trans g17).trans g19));refine Runs.step e21 ?_;refine Runs.step rfl ?_;refine Runs.step (seen (asSl_v _)) ?_;refine Runs.step (seen (kc _ _)) ?_;refine Runs.cond (fun k22=>?_) (fun k22=>?_)
         ·replace e:=(condT k22).symm.trans e;cases e;cases good;exact Runs.ret ⟨(⟨none,0,.is 0⟩:Sl),rfl,(Nats.nil _),((((((((g5.trans g7).trans g9).trans g11).trans g13).trans g15).trans g17).trans g19).trans g21),(Own.nil _)⟩
         ·replace e:=(condF k22).symm.trans e;obtain⟨s23,H23,e23,n23,g23,o23⟩:=kb5 (n3.grow ((((((((g5.trans g7).trans g9).trans g11).trans g13).trans g15).trans g17).trans g19).trans g21)) false;refine Runs.step e23 ?_;refine Runs.step rfl ?_;refine Runs.ifT rfl ?_;refine Runs.step (seenAt rfl rfl) ?_;refine Runs.step (seenAt rfl (asSl_v _)) ?_;obtain⟨s24,H24,e24,n24,g24,o24⟩:=kb5 (n1.grow (((((((((g5.trans g7).trans g9).trans g11).trans g13).trans g15).trans g17).trans g19).trans g21).trans g23)) false;refine Runs.step e24 ?_;refine Runs.step rfl ?_;refine Runs.ifT rfl ?_;refine Runs.step (seenAt rfl rfl) ?_;refine Runs.step (seenAt rfl (asSl_v _)) ?_;obtain⟨_,H25,e25,s25,rfl,n25,g25,o25⟩:=k3c (n23.grow g24) n24 ((fromI false x3).1) ((fromI false x1).1);refine Runs.step e25 ?_;refine Runs.step rfl ?_;refine Runs.step rfl ?_;refine Runs.ifT rfl ?_;refine Runs.step (seenAt rfl rfl) ?_;refine Runs.step (seenAt rfl (asSl_v _)) ?_;refine Runs.step (seen (kc _ _)) ?_;refine Runs.new fun H26 b26 g26=>?_;refine Runs.puts b26 rfl fun H27 b27 u27=>?_;refine Runs.new fun H28 b28 g28=>?_;refine Runs.step (AH.has.rd (g28.has b27) 0 rfl rfl) ?_;refine Runs.step (AH.has.rd (g28.has b27) 1 rfl (asSl_v _)) ?_;obtain⟨s29,H29,e29,n29,g29,o29⟩:=kb5 (n21.grow (((((g23.trans g24).trans g25).trans g26).updr (Nat.le_trans (((g23.trans g24).trans g25)).size (Nat.le_refl _)) u27).trans g28)) false;refine Runs.step e29 ?_;refine Runs.step rfl ?_;refine Runs.ifT rfl ?_;refine Runs.step (seenAt rfl rfl) ?_;refine Runs.step (seenAt rfl (asSl_v _)) ?_;refine Runs.when (g29.same (g28.has b27) 0 2) ?_;refine Runs.when (g29.same b28 0 0) ?_;obtain⟨_,H30,e30,s30,rfl,n30,g30,o30⟩:=k1i (n25.grow (((g26.updr (Nat.le_refl _) u27).trans g28).trans g29)) n29 (((kba ((fromI false x3).1) ((fromI false x3).2) ((fromI false x1).1) ((fromI false x1).2)).1)) ((fromI false ((invN x2 x4).1)).1);refine Runs.step e30 ?_;refine Runs.step rfl ?_;refine Runs.step rfl ?_;refine Runs.ifT rfl ?_;refine Runs.step (seenAt rfl rfl) ?_;refine Runs.step (seenAt rfl (asSl_v _)) ?_;refine Runs.step (seen (kc _ _)) ?_;refine Runs.when (g30.same (g29.has b28) 0 0) ?_;refine Runs.puts ((g29.trans g30).has b28) rfl fun H31 b31 u31=>?_;have n29_31:=(n29.grow g30).upda (Av.of_own o29 (b28).lt) u31;have n30_31:=n30.upda (Av.of_own o30 (g29.has b28).lt) u31;refine Runs.new fun H32 b32 g32=>?_;refine Runs.new fun H33 b33 g33=>?_;refine Runs.step (AH.has.rd ((g32.trans g33).has b31) 0 rfl rfl) ?_;refine Runs.step (AH.has.rd ((g32.trans g33).has b31) 1 rfl (asSl_v _)) ?_;obtain⟨s34,H34,e34,n34,g34,o34⟩:=kb5 (n4.grow (((((((((((((((((((g5.trans g7).trans g9).trans g11).trans g13).trans g15).trans g17).trans g19).trans g21).trans g23).trans g24).trans g25).trans g26).updr (Nat.le_trans ((((((((((((g5.trans g7).trans g9).trans g11).trans g13).trans g15).trans g17).trans g19).trans g21).trans g23).trans g24).trans g25)).size (Nat.le_refl _)) u27).trans g28).trans g29).trans g30).updr (Nat.le_trans ((((((((((((((g5.trans g7).trans g9).trans g11).trans g13).trans g15).trans g17).trans g19).trans g21).trans g23).trans g24).trans g25).trans g26).updr (Nat.le_trans ((((((((((((g5.trans g7).trans g9).trans g11).trans g13).trans g15).trans g17).trans g19).trans g21).trans g23).trans g24).trans g25)).size (Nat.le_refl _)) u27)).size (Nat.le_refl _)) u31).trans g32).trans g33)) false;refine Runs.step e34 ?_;refine Runs.step rfl ?_;refine Runs.ifT rfl ?_;refine Runs.step (seenAt rfl rfl) ?_;refine Runs.step (seenAt rfl (asSl_v _)) ?_;refine Runs.when (g34.same ((g32.trans g33).has b31) 0 2) ?_;refine Runs.when (g34.same b33 0 0) ?_;refine Runs.when (g34.same (g33.has b32) 0 0) ?_;obtain⟨_,H35,e35,s35,s35b,rfl,n35,n35b,g35,o35,o35b⟩:=k2y (n30_31.grow ((g32.trans g33).trans g34)) n34 (((kbi (((kba ((fromI false x3).1) ((fromI false x3).2) ((fromI false x1).1) ((fromI false x1).2)).1)) ((kba ((fromI false x3).1) ((fromI false x3).2) ((fromI false x1).1) ((fromI false x1).2)).2.1) ((fromI false ((invN x2 x4).1)).1) ((fromI false ((invN x2 x4).1)).2)).1)) ((fromI false x4).1);refine Runs.step e35 ?_;refine Runs.step rfl ?_;refine Runs.step rfl ?_;refine Runs.ifT rfl ?_;refine Runs.step (seenAt rfl rfl) ?_;refine Runs.step (seenAt rfl (asSl_v _)) ?_;refine Runs.step rfl ?_;refine Runs.ifT rfl ?_;refine Runs.step (seenAt rfl rfl) ?_;refine Runs.step (seenAt rfl (asSl_v _)) ?_;refine Runs.step (seen (kc _ _)) ?_;refine Runs.when (g35.same (g34.has b33) 0 0) ?_;refine Runs.when (g35.same ((g33.trans g34).has b32) 0 0) ?_;refine Runs.puts (((g33.trans g34).trans g35).has b32) rfl fun H36 b36 u36=>?_;have n34_36:=(n34.grow g35).upda (Av.of_own o34 (g33.has b32).lt) u36;have n35_36:=n35.upda (Av.of_own o35 ((g33.trans g34).has b32).lt) u36;have n35b_36:=n35b.upda (Av.of_own o35b ((g33.trans g34).has b32).lt) u36;have b33_36:=AH.has.updr ((g34.trans g35).has b33) (Nat.ne_of_gt (Nat.lt_of_lt_of_le (b32).lt (Nat.le_refl _))) u36;refine Runs.puts b33_36 rfl fun H37 b37 u37=>?_;have n34_37:=n34_36.upda (Av.of_own o34 (b33).lt) u37;have n35_37:=n35_36.upda (Av.of_own o35 (g34.has b33).lt) u37;have n35b_37:=n35b_36.upda (Av.of_own o35b (g34.has b33).lt) u37;have b36_37:=AH.has.updr b36 (Nat.ne_of_lt (Nat.lt_of_lt_of_le (b32).lt (Nat.le_refl _))) u37;refine Runs.step (AH.has.rd b37 1 rfl (asSl_v _)) ?_;obtain⟨s38,H38,e38,n38,g38,o38⟩:=kek (n2.grow (((((((((((((((((((((((g5.trans g7).trans g9).trans g11).trans g13).trans g15).trans g17).trans g19).trans g21).trans g23).trans g24).trans g25).trans g26).updr (Nat.le_trans ((((((((((((g5.trans g7).trans g9).trans g11).trans g13).trans g15).trans g17).trans g19).trans g21).trans g23).trans g24).trans g25)).size (Nat.le_refl _)) u27).trans g28).trans g29).trans g30).updr (Nat.le_trans ((((((((((((((g5.trans g7).trans g9).trans g11).trans g13).trans g15).trans g17).trans g19).trans g21).trans g23).trans g24).trans g25).trans g26).updr (Nat.le_trans ((((((((((((g5.trans g7).trans g9).trans g11).trans g13).trans g15).trans g17).trans g19).trans g21).trans g23).trans g24).trans g25)).size (Nat.le_refl _)) u27)).size (Nat.le_refl _)) u31).trans g32).trans g33).trans g34).trans g35).updr (Nat.le_trans ((((((((((((((((((g5.trans g7).trans g9).trans g11).trans g13).trans g15).trans g17).trans g19).trans g21).trans g23).trans g24).trans g25).trans g26).updr (Nat.le_trans ((((((((((((g5.trans g7).trans g9).trans g11).trans g13).trans g15).trans g17).trans g19).trans g21).trans g23).trans g24).trans g25)).size (Nat.le_refl _)) u27).trans g28).trans g29).trans g30).updr (Nat.le_trans ((((((((((((((g5.trans g7).trans g9).trans g11).trans g13).trans g15).trans g17).trans g19).trans g21).trans g23).trans g24).trans g25).trans g26).updr (Nat.le_trans ((((((((((((g5.trans g7).trans g9).trans g11).trans g13).trans g15).trans g17).trans g19).trans g21).trans g23).trans g24).trans g25)).size (Nat.le_refl _)) u27)).size (Nat.le_refl _)) u31)).size (Nat.le_refl _)) u36).updr (Nat.le_trans (((((((((((((((((((g5.trans g7).trans g9).trans g11).trans g13).trans g15).trans g17).trans g19).trans g21).trans g23).trans g24).trans g25).trans g26).updr (Nat.le_trans ((((((((((((g5.trans g7).trans g9).trans g11).trans g13).trans g15).trans g17).trans g19).trans g21).trans g23).trans g24).trans g25)).size (Nat.le_refl _)) u27).trans g28).trans g29).trans g30).updr (Nat.le_trans ((((((((((((((g5.trans g7).trans g9).trans g11).trans g13).trans g15).trans g17).trans g19).trans g21).trans g23).trans g24).trans g25).trans g26).updr (Nat.le_trans ((((((((((((g5.trans g7).trans g9).trans g11).trans g13).trans g15).trans g17).trans g19).trans g21).trans g23).trans g24).trans g25)).size (Nat.le_refl _)) u27)).size (Nat.le_refl _)) u31).trans g32)).size (Nat.le_refl _)) u37)) n35b_37;refine Runs.step e38 ?_;refine Runs.step rfl ?_;refine Runs.step (seen (asSl_v _)) ?_;refine Runs.step (seen (kc _ _)) ?_;obtain⟨s39,H39,e39,n39,g39,o39⟩:=knl n38 (n1.grow ((((((((((((((((((((((((g5.trans g7).trans g9).trans g11).trans g13).trans g15).trans g17).trans g19).trans g21).trans g23).trans g24).trans g25).trans g26).updr (Nat.le_trans ((((((((((((g5.trans g7).trans g9).trans g11).trans g13).trans g15).trans g17).trans g19).trans g21).trans g23).trans g24).trans g25)).size (Nat.le_refl _)) u27).trans g28).trans g29).trans g30).updr (Nat.le_trans ((((((((((((((g5.trans g7).trans g9).trans g11).trans g13).trans g15).trans g17).trans g19).trans g21).trans g23).trans g24).trans g25).trans g26).updr (Nat.le_trans ((((((((((((g5.trans g7).trans g9).trans g11).trans g13).trans g15).trans g17).trans g19).trans g21).trans g23).trans g24).trans g25)).size (Nat.le_refl _)) u27)).size (Nat.le_refl _)) u31).trans g32).trans g33).trans g34).trans g35).updr (Nat.le_trans ((((((((((((((((((g5.trans g7).trans g9).trans g11).trans g13).trans g15).trans g17).trans g19).trans g21).trans g23).trans g24).trans g25).trans g26).updr (Nat.le_trans ((((((((((((g5.trans g7).trans g9).trans g11).trans g13).trans g15).trans g17).trans g19).trans g21).trans g23).trans g24).trans g25)).size (Nat.le_refl _)) u27).trans g28).trans g29).trans g30).updr (Nat.le_trans ((((((((((((((g5.trans g7).trans g9).trans g11).trans g13).trans g15).trans g17).trans g19).trans g21).trans g23).trans g24).trans g25).trans g26).updr (Nat.le_trans ((((((((((((g5.trans g7).trans g9).trans g11).trans g13).trans g15).trans g17).trans g19).trans g21).trans g23).trans g24).trans g25)).size (Nat.le_refl _)) u27)).size (Nat.le_refl _)) u31)).size (Nat.le_refl _)) u36).updr (Nat.le_trans (((((((((((((((((((g5.trans g7).trans g9).trans g11).trans g13).trans g15).trans g17).trans g19).trans g21).trans g23).trans g24).trans g25).trans g26).updr (Nat.le_trans ((((((((((((g5.trans g7).trans g9).trans g11).trans g13).trans g15).trans g17).trans g19).trans g21).trans g23).trans g24).trans g25)).size (Nat.le_refl _)) u27).trans g28).trans g29).trans g30).updr (Nat.le_trans ((((((((((((((g5.trans g7).trans g9).trans g11).trans g13).trans g15).trans g17).trans g19).trans g21).trans g23).trans g24).trans g25).trans g26).updr (Nat.le_trans ((((((((((((g5.trans g7).trans g9).trans g11).trans g13).trans g15).trans g17).trans g19).trans g21).trans g23).trans g24).trans g25)).size (Nat.le_refl _)) u27)).size (Nat.le_refl _)) u31).trans g32)).size (Nat.le_refl _)) u37).trans g38));refine Runs.step e39 ?_;refine Runs.step rfl ?_;refine Runs.step (seen (asSl_v _)) ?_;refine Runs.step (seen (kc _ _)) ?_;cases e;cases good;exact Runs.ret ⟨s39,rfl,n39,(((((((((((((((((((((((((g5.trans g7).trans g9).trans g11).trans g13).trans g15).trans g17).trans g19).trans g21).trans g23).trans g24).trans g25).trans g26).updr (Nat.le_trans ((((((((((((g5.trans g7).trans g9).trans g11).trans g13).trans g15).trans g17).trans g19).trans g21).trans g23).trans g24).trans g25)).size (Nat.le_refl _)) u27).trans g28).trans g29).trans g30).updr (Nat.le_trans ((((((((((((((g5.trans g7).trans g9).trans g11).trans g13).trans g15).trans g17).trans g19).trans g21).trans g23).trans g24).trans g25).trans g26).updr (Nat.le_trans ((((((((((((g5.trans g7).trans g9).trans g11).trans g13).trans g15).trans g17).trans g19).trans g21).trans g23).trans g24).trans g25)).size (Nat.le_refl _)) u27)).size (Nat.le_refl _)) u31).trans g32).trans g33).trans g34).trans g35).updr (Nat.le_trans ((((((((((((((((((g5.trans g7).trans g9).trans g11).trans g13).trans g15).trans g17).trans g19).trans g21).trans g23).trans g24).trans g25).trans g26).updr (Nat.le_trans ((((((((((((g5.trans g7).trans g9).trans g11).trans g13).trans g15).trans g17).trans g19).trans g21).trans g23).trans g24).trans g25)).size (Nat.le_refl _)) u27).trans g28).trans g29).trans g30).updr (Nat.le_trans ((((((((((((((g5.trans g7).trans g9).trans g11).trans g13).trans g15).trans g17).trans g19).trans g21).trans g23).trans g24).trans g25).trans g26).updr (Nat.le_trans ((((((((((((g5.trans g7).trans g9).trans g11).trans g13).trans g15).trans g17).trans g19).trans g21).trans g23).trans g24).trans g25)).size (Nat.le_refl _)) u27)).size (Nat.le_refl _)) u31)).size (Nat.le_refl _)) u36).updr (Nat.le_trans (((((((((((((((((((g5.trans g7).trans g9).trans g11).trans g13).trans g15).trans g17).trans g19).trans g21).trans g23).trans g24).trans g25).trans g26).updr (Nat.le_trans ((((((((((((g5.trans g7).trans g9).trans g11).trans g13).trans g15).trans g17).trans g19).trans g21).trans g23).trans g24).trans g25)).size (Nat.le_refl _)) u27).trans g28).trans g29).trans g30).updr (Nat.le_trans ((((((((((((((g5.trans g7).trans g9).trans g11).trans g13).trans g15).trans g17).trans g19).trans g21).trans g23).trans g24).trans g25).trans g26).updr (Nat.le_trans ((((((((((((g5.trans g7).trans g9).trans g11).trans g13).trans g15).trans g17).trans g19).trans g21).trans g23).trans g24).trans g25)).size (Nat.le_refl _)) u27)).size (Nat.le_refl _)) u31).trans g32)).size (Nat.le_refl _)) u37).trans g38).trans g39),(o39.of_le ((((((((((((((((((((((((g5.trans g7).trans g9).trans g11).trans g13).trans g15).trans g17).trans g19).trans g21).trans g23).trans g24).trans g25).trans g26).updr (Nat.le_trans ((((((((((((g5.trans g7).trans g9).trans g11).trans g13).trans g15).trans g17).trans g19).trans g21).trans g23).trans g24).trans g25)).size (Nat.le_refl _)) u27).trans g28).trans g29).trans g30).updr (Nat.le_trans ((((((((((((((g5.trans g7).trans g9).trans g11).trans g13).trans g15).trans g17).trans g19).trans g21).trans g23).trans g24).trans g25).trans g26).updr (Nat.le_trans ((((((((((((g5.trans g7).trans g9).trans g11).trans g13).trans g15).trans g17).trans g19).trans g21).trans g23).trans g24).trans g25)).size (Nat.le_refl _)) u27)).size (Nat.le_refl _)) u31).trans g32).trans g33).trans g34).trans g35).updr (Nat.le_trans ((((((((((((((((((g5.trans g7).trans g9).trans g11).trans g13).trans g15).trans g17).trans g19).trans g21).trans g23).trans g24).trans g25).trans g26).updr (Nat.le_trans ((((((((((((g5.trans g7).trans g9).trans g11).trans g13).trans g15).trans g17).trans g19).trans g21).trans g23).trans g24).trans g25)).size (Nat.le_refl _)) u27).trans g28).trans g29).trans g30).updr (Nat.le_trans ((((((((((((((g5.trans g7).trans g9).trans g11).trans g13).trans g15).trans g17).trans g19).trans g21).trans g23).trans g24).trans g25).trans g26).updr (Nat.le_trans ((((((((((((g5.trans g7).trans g9).trans g11).trans g13).trans g15).trans g17).trans g19).trans g21).trans g23).trans g24).trans g25)).size (Nat.le_refl _)) u27)).size (Nat.le_refl _)) u31)).size (Nat.le_refl _)) u36).updr (Nat.le_trans (((((((((((((((((((g5.trans g7).trans g9).trans g11).trans g13).trans g15).trans g17).trans g19).trans g21).trans g23).trans g24).trans g25).trans g26).updr (Nat.le_trans ((((((((((((g5.trans g7).trans g9).trans g11).trans g13).trans g15).trans g17).trans g19).trans g21).trans g23).trans g24).trans g25)).size (Nat.le_refl _)) u27).trans g28).trans g29).trans g30).updr (Nat.le_trans ((((((((((((((g5.trans g7).trans g9).trans g11).trans g13).trans g15).trans g17).trans g19).trans g21).trans g23).trans g24).trans g25).trans g26).updr (Nat.le_trans ((((((((((((g5.trans g7).trans g9).trans g11).trans g13).trans g15).trans g17).trans g19).trans g21).trans g23).trans g24).trans g25)).size (Nat.le_refl _)) u27)).size (Nat.le_refl _)) u31).trans g32)).size (Nat.le_refl _)) u37).trans g38))⟩
theorem kbaw{s:kjp}{r:kil}(it:Iter kp5 s r):kua r s:=Iter.ind (fun s o e good=>by
 cases s with
 | fn x1 x2 x3 x4=>exact @kbfs _ _ x1 x2 x3 x4 e good
 | no=>exact True.intro
 ) it
inductive kpi
 | fn (x1:List Nat) (x2:List Nat) (x3:List Nat) (x4:List Nat)
 | p3 (x1:List Nat) (x2:List Nat) (x3:List Nat) (x4:List Nat) (x5:List (List Nat)) (a6:Int)
abbrev kks:=List Nat×Int
noncomputable def kbkn(x1 x2 x3 x4:List Nat):Option (kpi⊕kks) :=
 some (.inl (.p3 x1 x2 x3 x4 [x1,x2,x3,x4] 0))
noncomputable def kid(x1 x2 x3 x4:List Nat)(x5:List (List Nat))(a6:Int):Option (kpi⊕kks) :=
 cond (decide (a6<4)) ((atL x5 a6).bind fun y8=>cond (!(rt y8)) (some (.inr ([],1))) ((atL x5 a6).bind fun y11=>cond (decide ((List.length y11:Int)>8)) (some (.inr ([],1))) (some (.inl (.p3 x1 x2 x3 x4 x5 (IntKind.wrap .i64 (a6+1))))))) ((u64P 2).bind fun p8=>cond (decide ((cmpN x2 (digs B p8))<0)) (some (.inr ([],1))) (cond (decide ((cmpN x4 (digs B p8))<0)) (some (.inr ([],1))) (cond (decide ((cmpN x1 x2)≥0)) (some (.inr ([],1))) (cond (decide ((cmpN x3 x4)≥0)) (some (.inr ([],1))) (cond (!decide (((invN x2 x4).2)=0)) (some (.inr ([],((invN x2 x4).2)))) (some (.inr ((addN x1 ((mulN x2 ((floorI (((kbi (((kba ((fromI false x3).1) ((fromI false x3).2) ((fromI false x1).1) ((fromI false x1).2)).1)) ((kba ((fromI false x3).1) ((fromI false x3).2) ((fromI false x1).1) ((fromI false x1).2)).2.1) ((fromI false ((invN x2 x4).1)).1) ((fromI false ((invN x2 x4).1)).2)).1)) ((kbi (((kba ((fromI false x3).1) ((fromI false x3).2) ((fromI false x1).1) ((fromI false x1).2)).1)) ((kba ((fromI false x3).1) ((fromI false x3).2) ((fromI false x1).1) ((fromI false x1).2)).2.1) ((fromI false ((invN x2 x4).1)).1) ((fromI false ((invN x2 x4).1)).2)).2.1) ((fromI false x4).1) ((fromI false x4).2)).2.2.2.1)).1)).1,0))))))))
noncomputable def kjs:kpi→Option (kpi⊕kks)
 | .fn x1 x2 x3 x4=>kbkn x1 x2 x3 x4
 | .p3 x1 x2 x3 x4 x5 a6=>kid x1 x2 x3 x4 x5 a6
end Go.Ab

/- squeezed -/
set_option maxRecDepth 10000
namespace Go.Ab
open Go.Proofs Go.Num
def CrtOk(x1 x2 x3 x4:List Nat):Prop :=
 (rt x1=true∧x1.length≤8)∧(rt x2=true∧x2.length≤8)∧(rt x3=true∧x3.length≤8)∧(rt x4=true∧x4.length≤8)∧2≤num B x2∧2≤num B x4∧num B x1<num B x2∧num B x3<num B x4
def k27(x1 x2 x3 x4:List Nat)(r:List Nat×Int):Prop :=
 (r.2≠0→r.1=[])∧
 (CrtOk x1 x2 x3 x4→Nat.gcd (num B x4) (num B x2%num B x4)=1→r.2=0)∧
 (r.2=0→∃X,r=(digs B X,0)∧CrtOk x1 x2 x3 x4∧X<num B x2*num B x4∧X%num B x2=num B x1∧X%num B x4=num B x3)
theorem kbgh{a b m n w k:Nat}(hm:w*m%n=1)(hb:b<n)(hk:((b:Int)-(a:Int))*(w:Int)%(n:Int)=(k:Int)):(a+m*k)%n=b:=by
 have hn:(n:Int)≠0:=by omega
 have e1:((w:Int)*(m:Int))%(n:Int)=1:=by
  rw[← Int.natCast_mul,← Int.natCast_emod,hm];rfl
 have e2:((m:Int)*(k:Int))%(n:Int)=((b:Int)-(a:Int))%(n:Int):=by
  rw[← hk,Int.mul_emod,Int.emod_emod_of_dvd _ (Int.dvd_refl _),← Int.mul_emod]
  have:(m:Int)*(((b:Int)-(a:Int))*(w:Int))=((b:Int)-(a:Int))*((w:Int)*(m:Int)):=by
   rw[Int.mul_left_comm,Int.mul_comm (m:Int)]
  rw[this,Int.mul_emod,e1,Int.mul_one,Int.emod_emod_of_dvd _ (Int.dvd_refl _)]
 have e3:((a:Int)+(m:Int)*(k:Int))%(n:Int)=(b:Int):=by
  rw[Int.add_emod,e2,← Int.add_emod,show(a:Int)+((b:Int)-(a:Int))=(b:Int)from by omega];exact Int.emod_eq_of_lt (by omega) (by omega)
 have e4:(((a+m*k)%n:Nat):Int)=(b:Int):=by
  rw[Int.natCast_emod,Int.natCast_add,Int.natCast_mul];exact e3
 omega
theorem pow8{xs:List Nat}(h:∀x∈xs,x<B)(hl:xs.length≤8):num B xs<B^8:=by
 have h1:=num_lt B1 h;have h2:B^xs.length≤B^8:=Nat.pow_le_pow_right B1 hl;omega
theorem B16:B^8*B^8*2≤B^64:=by
 rw[← Nat.pow_add]
 have h1:B^16*B≤B^64:=by
  rw[← Nat.pow_succ];exact Nat.pow_le_pow_right B1 (by decide)
 have h2:B^16*2≤B^16*B:=Nat.mul_le_mul_left _ B2;exact Nat.le_trans h2 h1
theorem kbc0{a b w n:Nat}(ha:a<B^8)(hb:b<B^8)(hw:w<B^8)(hn:n<B^8)(hn0:0<n):∃k:Nat,k<n∧((b:Int)-(a:Int))*(w:Int)%(n:Int)=(k:Int)∧
  (floorI (((kbi (((kba ((fromI false (digs B b)).1) ((fromI false (digs B b)).2) ((fromI false (digs B a)).1) ((fromI false (digs B a)).2)).1)) ((kba ((fromI false (digs B b)).1) ((fromI false (digs B b)).2) ((fromI false (digs B a)).1) ((fromI false (digs B a)).2)).2.1) ((fromI false (digs B w)).1) ((fromI false (digs B w)).2)).1)) ((kbi (((kba ((fromI false (digs B b)).1) ((fromI false (digs B b)).2) ((fromI false (digs B a)).1) ((fromI false (digs B a)).2)).1)) ((kba ((fromI false (digs B b)).1) ((fromI false (digs B b)).2) ((fromI false (digs B a)).1) ((fromI false (digs B a)).2)).2.1) ((fromI false (digs B w)).1) ((fromI false (digs B w)).2)).2.1) ((fromI false (digs B n)).1) ((fromI false (digs B n)).2)).2.2.2.1=digs B k:=by
 have b16:=B16;have p8:1≤B^8:=Nat.pow_pos B1;have p16:B^8*1≤B^8*B^8:=Nat.mul_le_mul_left _ p8;have f:∀{x:Nat},x<B^8→fromI false (digs B x)=intD (x:Int):=fun{x} hx=>by rw[kdg (by omega)];rfl
 have hd:((b:Int)-(a:Int)).natAbs<B^8:=by omega
 have hp:(((b:Int)-(a:Int))*(w:Int)).natAbs<B^64:=by
  rw[Int.natAbs_mul,Int.natAbs_natCast];have:=Nat.mul_lt_mul_of_lt_of_lt hd hw;omega
 have h0:=Int.emod_nonneg (((b:Int)-(a:Int))*(w:Int)) (show(n:Int)≠0 by omega);have h1:=Int.emod_lt_of_pos (((b:Int)-(a:Int))*(w:Int)) (show 0<(n:Int) by omega);obtain⟨k,hk⟩:∃k:Nat,((b:Int)-(a:Int))*(w:Int)%(n:Int)=(k:Int):=⟨_,(Int.toNat_of_nonneg h0).symm⟩;refine⟨k,by omega,hk,?_⟩;rw[f hb,f ha,f hw,f hn,k2q (by rw[Int.natAbs_natCast];omega) (by rw[Int.natAbs_natCast];omega),if_pos (by omega)];dsimp only;rw[kyl (by omega) (by rw[Int.natAbs_natCast];omega),if_pos hp];dsimp only;rw[kzy hp (by rw[Int.natAbs_natCast];omega) (by omega),hk];dsimp only;rw[kqm]
end Go.Ab

/- squeezed -/
set_option maxRecDepth 10000
namespace Go.Ab
open Go.Proofs Go.Num
theorem crt_1{x:List Nat}:kel x=false↔rt x=true∧x.length≤8:=by
 unfold kel;cases rt x with
 | false=>simp
 | true =>
  simp only[Bool.not_true,cond_false,true_and,decide_eq_false_iff_not];omega
theorem ksa{xs ys:List Nat}(hx:rt xs=true)(hy:rt ys=true):cmpN xs ys=cmp (num B xs) (num B ys):=by
 unfold cmpN;rw[if_pos ⟨hx,hy⟩]
theorem kbf0:num B (digs B 2)=2:=kg B2 2
theorem crt_2{x:List Nat}(h:rt x=true):khx x=false↔2≤num B x:=by
 unfold khx;rw[ksa h (by decide),decide_eq_false_iff_not,cmp_le,show num B [1]=1 from by simp[num]];omega
theorem kjf{xs ys:List Nat}(hx:rt xs=true)(hy:rt ys=true):decide (cmpN xs ys≥0)=false↔num B xs<num B ys:=by
 rw[ksa hx hy,decide_eq_false_iff_not,cmp_ge];omega
theorem kve:u64P 2=some 2:=kbf (n:=2) (by decide)
theorem rt_two:rt (digs B 2)=true:=kp (by have:=ko4;omega)
theorem kph{xs:List Nat}(hx:rt xs=true):decide (cmpN xs (digs B 2)<0)=false↔2≤num B xs:=by
 rw[ksa hx rt_two,decide_eq_false_iff_not,cmp_lt,kbf0];omega
theorem kbek{x1 x2 x3 x4:List Nat}(h:¬CrtOk x1 x2 x3 x4):Iter kp5 (.fn x1 x2 x3 x4) ([],1):=by
 refine .done ?_;show kfr _ _ _ _=_;unfold kfr;refine kb9 (fun _=>rfl) fun k1=>?_;refine kb9 (fun _=>rfl) fun k3=>?_;refine kb9 (fun _=>rfl) fun k2=>?_;refine kb9 (fun _=>rfl) fun k4=>?_;refine kb9 (fun _=>rfl) fun k5=>?_;refine kb9 (fun _=>rfl) fun k6=>?_;refine kb9 (fun _=>rfl) fun k7=>?_;refine kb9 (fun _=>rfl) fun k8=>?_;exfalso;have g1:=crt_1.1 k1;have g2:=crt_1.1 k2;have g3:=crt_1.1 k3;have g4:=crt_1.1 k4;exact h ⟨g1,g2,g3,g4,(crt_2 g2.1).1 k5,(crt_2 g4.1).1 k6,(kjf g1.1 g2.1).1 k7,(kjf g3.1 g4.1).1 k8⟩
theorem kq9{x1 x2 x3 x4:List Nat}{L:List (List Nat)}{r:kks}(hL:L.length=4){i:Nat}(hi:i<4)(bad:¬(rt (L[i]'(by omega))=true∧(L[i]'(by omega)).length≤8)→r=([],1))
  (K:(rt (L[i]'(by omega))=true∧(L[i]'(by omega)).length≤8)→Iter kjs (.p3 x1 x2 x3 x4 L ((i+1:Nat):Int)) r):Iter kjs (.p3 x1 x2 x3 x4 L (i:Int)) r:=by
 have ha:atL L (i:Int)=some (L[i]'(by omega)):=by
  unfold atL;rw[if_pos (by omega),Int.toNat_natCast,List.getElem?_eq_getElem]
 generalize L[i]'(by omega)=y at *
 have unf:∀o,cond (!(rt y)) (some (.inr ([],1))) (cond (decide ((List.length y:Int)>8)) (some (.inr ([],1))) (some (.inl (.p3 x1 x2 x3 x4 L ((i+1:Nat):Int)))))=o→kjs (.p3 x1 x2 x3 x4 L (i:Int))=o:=by
  intro o ho;show kid _ _ _ _ _ _=_;unfold kid;rw[condT (by rw[decide_eq_true_eq];omega),ha,Option.bind_some,Option.bind_some,kj (by omega)];exact ho
 by_cases g:rt y=true∧y.length≤8
 ·refine .next (unf _ ?_) (K g);rw[g.1,condF (by rfl),condF (by rw[decide_eq_false_iff_not];omega)]
 ·refine .done (unf _ ?_);rw[bad g];cases hr:rt y with
  | false=>rfl
  | true =>
   have:¬y.length≤8:=fun h=>g ⟨hr,h⟩;rw[condF (by rfl),condT (by rw[decide_eq_true_eq];omega)]
theorem ktt{x1 x2 x3 x4:List Nat}{r:kks}(bad:¬((rt x1=true∧x1.length≤8)∧(rt x2=true∧x2.length≤8)∧(rt x3=true∧x3.length≤8)∧(rt x4=true∧x4.length≤8))→r=([],1))
  (K:((rt x1=true∧x1.length≤8)∧(rt x2=true∧x2.length≤8)∧(rt x3=true∧x3.length≤8)∧(rt x4=true∧x4.length≤8))→kid x1 x2 x3 x4 [x1,x2,x3,x4] 4=some (.inr r)):Iter kjs (.fn x1 x2 x3 x4) r:=by
 refine .next (s':=.p3 x1 x2 x3 x4 [x1,x2,x3,x4] ((0:Nat):Int)) rfl ?_;refine kq9 rfl (by omega) (fun h=>bad fun g=>h g.1) fun g1=>?_;refine kq9 rfl (by omega) (fun h=>bad fun g=>h g.2.1) fun g2=>?_;refine kq9 rfl (by omega) (fun h=>bad fun g=>h g.2.2.1) fun g3=>?_;refine kq9 rfl (by omega) (fun h=>bad fun g=>h g.2.2.2) fun g4=>?_;exact .done (K ⟨g1,g2,g3,g4⟩)
theorem crt_fn{x1 x2 x3 x4:List Nat}(l1:∀x∈x1,x<B)(l2:∀x∈x2,x<B)(l3:∀x∈x3,x<B)(l4:∀x∈x4,x<B) :
  ∃r,Iter kp5 (.fn x1 x2 x3 x4) r∧Iter kjs (.fn x1 x2 x3 x4) r∧k27 x1 x2 x3 x4 r:=by
 by_cases G:CrtOk x1 x2 x3 x4
 ·obtain⟨g1,g2,g3,g4,hm,hn,ha,hb⟩:=id G;have k1:=crt_1.2 g1;have k2:=crt_1.2 g2;have k3:=crt_1.2 g3;have k4:=crt_1.2 g4;have k5:=(crt_2 g2.1).2 hm;have k6:=(crt_2 g4.1).2 hn;have k7:=(kjf g1.1 g2.1).2 ha;have k8:=(kjf g3.1 g4.1).2 hb;have q5:=(kph g2.1).2 hm;have q6:=(kph g4.1).2 hn;have S:=(kl5 l2 l4).2.2.1 ⟨g2.1,g4.1,hn⟩;have four:decide ((4:Int)<4)=false:=rfl;by_cases hg:Nat.gcd (num B x4) (num B x2%num B x4)=1
  ·obtain⟨w,hw,hr,hwm⟩:=S.2 hg;have a8:=pow8 l1 g1.2;have m8:=pow8 l2 g2.2;have b8:=pow8 l3 g3.2;have n8:=pow8 l4 g4.2;obtain⟨k,hk,hke,hfl⟩:=kbc0 (a:=num B x1) (b:=num B x3) (w:=w) (n:=num B x4) a8 b8 (by omega) n8 (by omega);rw[kcs B2 l1 (rt_iff.1 g1.1).2,kcs B2 l3 (rt_iff.1 g3.1).2,kcs B2 l4 (rt_iff.1 g4.1).2]at hfl;have b16:=B16;have p16:B^8*1≤B^8*B^8:=Nat.mul_le_mul_left _ (Nat.pow_pos B1);have hprod:num B x2*num B x4<B^8*B^8:=Nat.mul_lt_mul_of_lt_of_lt m8 n8
   have hX:num B x1+num B x2*k<num B x2*num B x4:=by
    have:num B x2*(k+1)≤num B x2*num B x4:=Nat.mul_le_mul_left _ hk;rw[Nat.mul_add,Nat.mul_one]at this;omega
   have em:mulN x2 (digs B k)=(digs B (num B x2*k),0):=by
    unfold mulN;rw[if_pos ⟨g2.1,kp (by omega)⟩,kg B2,kjg (by omega)]
   have ad1:addN (digs B (num B x2*k)) x1=(digs B (num B x1+num B x2*k),0):=by
    unfold addN;rw[if_pos ⟨kp (by omega),g1.1⟩,kg B2,Nat.add_comm,kjg (by omega)]
   have ad2:addN x1 (digs B (num B x2*k))=(digs B (num B x1+num B x2*k),0):=by
    unfold addN;rw[if_pos ⟨g1.1,kp (by omega)⟩,kg B2,kjg (by omega)]
   refine⟨(digs B (num B x1+num B x2*k),0),.done ?_,ktt (fun h=>absurd ⟨g1,g2,g3,g4⟩ h) fun _=>?_,fun h=>absurd rfl h,fun _ _=>rfl,fun _=>⟨_,rfl,G,hX,?_,?_⟩⟩
   ·show kfr _ _ _ _=_;unfold kfr;rw[k1,k2,k3,k4,k5,k6,k7,k8];simp only[cond_false];rw[hr];dsimp only;rw[condF (by rfl),hfl,em];dsimp only;rw[ad1]
   ·unfold kid;rw[four,cond_false,kve,Option.bind_some,q5,q6,k7,k8];simp only[cond_false];rw[hr];dsimp only;rw[condF (by rfl),hfl,em];dsimp only;rw[ad2]
   ·rw[Nat.add_mul_mod_self_left,Nat.mod_eq_of_lt ha]
   ·exact kbgh hwm hb hke
  ·have hr:=S.1 hg;refine⟨([],6),.done ?_,ktt (fun h=>absurd ⟨g1,g2,g3,g4⟩ h) fun _=>?_,fun _=>rfl,fun _ h=>absurd h hg,fun h=>by cases h⟩
   ·show kfr _ _ _ _=_;unfold kfr;rw[k1,k2,k3,k4,k5,k6,k7,k8,hr];rfl
   ·unfold kid;rw[four,cond_false,kve,Option.bind_some,q5,q6,k7,k8,hr];rfl
 ·refine⟨([],1),kbek G,ktt (fun _=>rfl) fun g=>?_,fun _=>rfl,fun h=>absurd h G,fun h=>by cases h⟩;obtain⟨g1,g2,g3,g4⟩:=g;unfold kid;rw[show decide ((4:Int)<4)=false from rfl,cond_false,kve,Option.bind_some];refine kb9 (fun _=>rfl) fun k5=>?_;refine kb9 (fun _=>rfl) fun k6=>?_;refine kb9 (fun _=>rfl) fun k7=>?_;refine kb9 (fun _=>rfl) fun k8=>?_;exact absurd ⟨g1,g2,g3,g4,(kph g2.1).1 k5,(kph g4.1).1 k6,(kjf g1.1 g2.1).1 k7,(kjf g3.1 g4.1).1 k8⟩ G
noncomputable def crtN(x1 x2 x3 x4:List Nat):List Nat×Int:=by
 classical
 exact if h:(∀x∈x1,x<B)∧(∀x∈x2,x<B)∧(∀x∈x3,x<B)∧(∀x∈x4,x<B)then(crt_fn h.1 h.2.1 h.2.2.1 h.2.2.2).choose else([],0)
theorem kz5{x1 x2 x3 x4:List Nat}(l1:∀x∈x1,x<B)(l2:∀x∈x2,x<B)(l3:∀x∈x3,x<B)(l4:∀x∈x4,x<B):Iter kp5 (.fn x1 x2 x3 x4) (crtN x1 x2 x3 x4)∧Iter kjs (.fn x1 x2 x3 x4) (crtN x1 x2 x3 x4)∧k27 x1 x2 x3 x4 (crtN x1 x2 x3 x4):=by
 unfold crtN;rw[dif_pos ⟨l1,l2,l3,l4⟩];exact(crt_fn l1 l2 l3 l4).choose_spec
theorem kbjs{h:AH}{a b c d:Sl}{x1 x2 x3 x4:List Nat}(n1:Nats h a x1)(n2:Nats h b x2)(n3:Nats h c x3)(n4:Nats h d x4):Runs (go (.fn F.kn4 [a.v,b.v,c.v,d.v]) h) (kwa h (crtN x1 x2 x3 x4)):=kbaw (kz5 n1.lt n2.lt n3.lt n4.lt).1 n1 n2 n3 n4
end Go.Ab

/- squeezed -/
namespace Go.Ab
variable{P:Program}
inductive All2{α β:Type}(R:α→β→Prop):List α→List β→Prop
 | nil:All2 R [] []
 | cons {a:α} {b:β} {ls:List α} {bs:List β}:R a b→All2 R ls bs→All2 R (a::ls) (b::bs)
section
variable{α β:Type}{R S:α→β→Prop}
theorem All2.imp(f:∀a b,R a b→S a b){ls:List α}{bs:List β}(a:All2 R ls bs):All2 S ls bs:=by
 induction a with
 | nil=>exact .nil
 | cons h _ ih=>exact .cons (f _ _ h) ih
theorem All2.length{ls:List α}{bs:List β}(a:All2 R ls bs):ls.length=bs.length:=by
 induction a with
 | nil=>rfl
 | cons h _ ih=>simp[ih]
theorem All2.get{ls:List α}{bs:List β}(a:All2 R ls bs):∀{i:Nat}{y:β},bs[i]?=some y→∃x,ls[i]?=some x∧R x y:=by
 induction a with
 | nil=>intro i y h;simp at h
 | cons h _ ih =>
  intro i y hy;cases i with
  | zero=>cases hy;exact⟨_,rfl,h⟩
  | succ i=>exact ih hy
theorem All2.snoc{ls:List α}{bs:List β}(a:All2 R ls bs){x:α}{y:β}(h:R x y):All2 R (ls++[x]) (bs++[y]):=by
 induction a with
 | nil=>exact .cons h .nil
 | cons h' _ ih=>exact .cons h' ih
end
structure El(α:Type) where
 w:Nat
 pos:0<w
 has:AH→List AV→α→Prop
 av:Nat→List AV→α→Prop
 len:∀{h:AH}{cs:List AV}{a:α},has h cs a→cs.length=w
 grow:∀{h h':AH}{cs:List AV}{a:α},Grow h h'→has h cs a→has h' cs a
 upd:∀{h h':AH}{i:Nat}{cs:List AV}{a:α},has h cs a→av i cs a→Upd h h' i→has h' cs a
 new:∀{h:AH}{i:Nat}{cs:List AV}{a:α},has h cs a→h.blks.size≤i→av i cs a
def El.int(k:IntKind):El Int where
 w:=1
 pos:=by decide
 has _ cs n:=cs=[.int k n]
 av _ _ _:=True
 len e:=by rw[e];rfl
 grow _ e:=e
 upd e _ _:=e
 new _ _:=trivial
def El.bool:El Bool where
 w:=1
 pos:=by decide
 has _ cs b:=cs=[.bool b]
 av _ _ _:=True
 len e:=by rw[e];rfl
 grow _ e:=e
 upd e _ _:=e
 new _ _:=trivial
theorem Sl.vs_inj{s t:Sl}(h:[Sl.v s]=[Sl.v t]):s=t:=by
 cases s;cases t;simp only[Sl.v,List.cons.injEq,AV.slice.injEq,and_true]at h;obtain⟨rfl,rfl,rfl⟩:=h;rfl
def El.nats:El (List Nat) where
 w:=1
 pos:=by decide
 has h cs xs:=∃s,cs=[Sl.v s]∧Nats h s xs
 av i cs xs:=∃s,cs=[Sl.v s]∧Av s i xs
 len:=fun⟨s,e,_⟩=>by rw[e];rfl
 grow g:=fun⟨s,e,n⟩=>⟨s,e,n.grow g⟩
 upd:=fun⟨s,e,n⟩ ⟨t,e',a⟩ u=>by
  rw[e]at e';cases Sl.vs_inj e';exact⟨s,e,n.upda a u⟩
 new:=fun⟨s,e,n⟩ hi=>⟨s,e,Av.of_base n hi⟩
def El.pair{α β:Type}(A:El α)(B:El β):El (α×β) where
 w:=A.w+B.w
 pos:=by have:=A.pos;omega
 has h cs p:=∃c1 c2,cs=c1++c2∧A.has h c1 p.1∧B.has h c2 p.2
 av i cs p:=∃c1 c2,cs=c1++c2∧c1.length=A.w∧A.av i c1 p.1∧B.av i c2 p.2
 len:=fun⟨c1,c2,e,a,b⟩=>by rw[e,List.length_append,A.len a,B.len b]
 grow g:=fun⟨c1,c2,e,a,b⟩=>⟨c1,c2,e,A.grow g a,B.grow g b⟩
 upd:=fun⟨c1,c2,e,a,b⟩ ⟨d1,d2,e',l,a',b'⟩ u=>by
  rw[e]at e';obtain⟨rfl,rfl⟩:=List.append_inj e' (by rw[A.len a,l]);exact⟨c1,c2,e,A.upd a a' u,B.upd b b' u⟩
 new:=fun⟨c1,c2,e,a,b⟩ hi=>⟨c1,c2,e,A.len a,A.new a hi,B.new b hi⟩
theorem kex{w:Nat}:∀{rows:List (List AV)},(∀r∈rows,r.length=w)→rows.flatten.length=rows.length*w
 | [],_=>by simp
 | r::rows,h=>by
  rw[List.flatten_cons,List.length_append,kex (fun q hq=>h q (by simp[hq])),h r (by simp),List.length_cons,Nat.add_mul];omega
theorem kpa{w:Nat}:∀{rows:List (List AV)},(∀r∈rows,r.length=w)→∀{i:Nat}{r:List AV}{k:Nat}{v:AV},rows[i]?=some r→r[k]?=some v→rows.flatten[i*w+k]?=some v
 | [],_,i,r,k,v,hi,_=>by simp at hi
 | q::rows,h,0,r,k,v,hi,hk=>by
  cases hi;rw[List.flatten_cons,List.getElem?_append_left (by have:=(List.getElem?_eq_some_iff.1 hk).1;omega)]
  simpa using hk
 | q::rows,h,i+1,r,k,v,hi,hk=>by
  have:=kpa (fun q hq=>h q (by simp[hq])) (show rows[i]?=some r from hi) hk;rw[List.flatten_cons,List.getElem?_append_right (by rw[h q (by simp),Nat.add_mul];omega),h q (by simp),show(i+1)*w+k-w=i*w+k from by rw[Nat.add_mul];omega];exact this
theorem All2.rows{α:Type}{E:El α}{h:AH}{rows:List (List AV)}{xs:List α}(a:All2 (E.has h) rows xs):∀r∈rows,r.length=E.w:=by
 induction a with
 | nil=>simp
 | cons h' _ ih =>
  intro r hr;rcases List.mem_cons.1 hr with rfl | hr
  ·exact E.len h'
  ·exact ih r hr
structure Seq{α:Type}(E:El α)(h:AH)(s:Sl)(xs:List α):Prop where
 rows:∃rows,Cells h s E.w rows.flatten∧All2 (E.has h) rows xs
 len:s.len=xs.length
 short:xs.length≤9223372036854775807
theorem Seq.grow{α:Type}{E:El α}{h h':AH}{s:Sl}{xs:List α}(n:Seq E h s xs)(g:Grow h h'):Seq E h' s xs:=by
 obtain⟨⟨rows,c,a⟩,l,sh⟩:=n;exact⟨⟨rows,c.grow g,a.imp fun _ _=>E.grow g⟩,l,sh⟩
theorem Seq.nil{α:Type}(E:El α)(h:AH):Seq E h ⟨none,0,.is 0⟩ []:=⟨⟨[],Cells.nil h _,.nil⟩,rfl,by simp⟩
def atX{α:Type}(xs:List α)(i:Int):Option α:=if 0≤i then xs[i.toNat]? else none
theorem ky0{α:Type}{xs:List α}{i:Int}{y:α}(q:atX xs i=some y):∃j:Nat,i=(j:Int)∧xs[j]?=some y:=by
 unfold atX at q;split at q
 ·exact⟨i.toNat,by omega,q⟩
 ·cases q
theorem kju{α:Type}{xs:List α}{i:Nat}(h:i<xs.length):atX xs (i:Int)=some xs[i]:=by
 unfold atX;rw[if_pos (by omega),Int.toNat_natCast,List.getElem?_eq_getElem h]
structure Lies(h:AH)(r:Ref)(cs:List AV):Prop where
 at':∀k v,cs[k]?=some v→h.cell (r.add k)=some v
theorem Lies.rd{A:Type}{f:AV→Option A}{h h':AH}{r:Ref}{cs:List AV}(l:Lies h r cs)(g:Grow h h')(k:Nat){v:AV}{x:A}(hk:cs[k]?=some v)(hf:f v=some x):(h'.cell (r.add k)).bind f=some x:=by
 rw[g.cell_some (l.at' k v hk)];exact hf
theorem Lies.rd0{A:Type}{f:AV→Option A}{h h':AH}{r:Ref}{cs:List AV}(l:Lies h r cs)(g:Grow h h'){v:AV}{x:A}(hk:cs[0]?=some v)(hf:f v=some x):(h'.cell r).bind f=some x:=by
 have:=l.rd g 0 hk hf;rwa[Ref.add_zero]at this
theorem Seq.at{α:Type}{E:El α}{h:AH}{s:Sl}{xs:List α}(n:Seq E h s xs){i:Int}{y:α}(q:atX xs i=some y):∃(r:Ref)(cs:List AV),idx s.ref xs.length i E.w=some r∧E.has h cs y∧Lies h r cs:=by
 obtain⟨⟨rows,c,a⟩,l,sh⟩:=n;obtain⟨j,rfl,hj⟩:=ky0 q;obtain⟨cs,e1,e2⟩:=a.get hj;have hjl:=(List.getElem?_eq_some_iff.1 hj).1;have hr:=a.rows;have key:∀k v,cs[k]?=some v→∃r,s.ref=some r∧h.cell (r.add (j*E.w+k))=some v:=fun k v hk=>c.get _ _ (kpa hr e1 hk);cases hs:s.ref with
 | none =>
  exfalso;cases cs with
  | nil=>have:=E.len e2;have:=E.pos;simp at *;omega
  | cons v vs =>
   obtain⟨r,e,_⟩:=key 0 v rfl;rw[hs]at e;cases e
 | some r =>
  refine⟨r.add (j*E.w),cs,?_,e2,⟨fun k v hk=>?_⟩⟩
  ·rw[kee _ _ _ _ (by omega) (by omega)];simp
  ·obtain⟨r',e,e'⟩:=key k v hk;rw[hs]at e;cases e;rw[Ref.add_add];exact e'
structure GL{α:Type}(E:El α)(elem:TypeId)(h:AH)(s:Sl)(i:Nat)(xs:List α):Prop where
 rows:∃rows,Cells h s E.w rows.flatten∧All2 (fun cs a=>E.has h cs a∧E.av i cs a) rows xs
 len:s.len=xs.length
 own:s.cap=.is s.len∨(s.ref=some (.new i 0)∧s.cap=.opn E.w∧∃bs,h.has i bs elem)
 loc:∀r,s.ref=some r→∃o,r=.new i o
theorem GL.nil{α:Type}(E:El α)(elem:TypeId)(h:AH)(i:Nat):GL E elem h ⟨none,0,.is 0⟩ i [] :=
 ⟨⟨[],Cells.nil h _,.nil⟩,rfl,.inl rfl,fun r hr=>by cases hr⟩
theorem GL.one{α:Type}{E:El α}{elem e:TypeId}{h:AH}{i:Nat}{cs:List AV}{x:α}(b:h.has i cs e)(c:E.has h cs x)(a:E.av i cs x):GL E elem h ⟨some (.new i 0),1,.is 1⟩ i [x] :=
 ⟨⟨[cs],Cells.of_has (by simpa using b) (by simp[E.len c]),.cons ⟨c,a⟩ .nil⟩,rfl,.inl rfl,fun r hr=>by cases hr;exact⟨_,rfl⟩⟩
theorem GL.grow{α:Type}{E:El α}{elem:TypeId}{h h':AH}{s:Sl}{i:Nat}{xs:List α}(v:GL E elem h s i xs)(g:Grow h h'):GL E elem h' s i xs:=by
 obtain⟨⟨rows,c,a⟩,l,o,lo⟩:=v;exact⟨⟨rows,c.grow g,a.imp fun _ _ p=>⟨E.grow g p.1,p.2⟩⟩,l,o.imp id fun⟨e1,e2,bs,b⟩=>⟨e1,e2,bs,g.has b⟩,lo⟩
theorem GL.seq{α:Type}{E:El α}{elem:TypeId}{h:AH}{s:Sl}{i:Nat}{xs:List α}(v:GL E elem h s i xs)(hs:xs.length≤9223372036854775807):Seq E h s xs:=by
 obtain⟨⟨rows,c,a⟩,l,o,lo⟩:=v;exact⟨⟨rows,c,a.imp fun _ _ p=>p.1⟩,l,hs⟩
theorem GL.own_of{α:Type}{E:El α}{elem:TypeId}{h h0:AH}{s:Sl}{i:Nat}{xs:List α}(v:GL E elem h s i xs)(hi:h0.blks.size≤i):Own h0 s:=fun r hr=>by
 obtain⟨o,rfl⟩:=v.loc r hr;exact⟨i,o,rfl,hi⟩
theorem AH.kill_Upd(h:AH)(i:Nat):Upd h (h.kill (some (.new i 0))) i :=
 ⟨rfl,by simp[AH.kill],fun j hj _=>by
  show(h.blks.setIfInBounds i .dead)[j]?=_;rw[Array.getElem?_setIfInBounds_ne (fun x=>hj x.symm)]⟩
theorem GL.push{α:Type}{E:El α}{elem:TypeId}{h:AH}{s:Sl}{i:Nat}{xs:List α}(v:GL E elem h s i xs){cs:List AV}{x:α}(c:E.has h cs x)(a:E.av i cs x)(hg:growOk P (xs.length+1) elem E.w=true) :
  ∃s' h',ku P s cs 1 elem E.w h=some (s'.v,h')∧GL E elem h' s' h.blks.size (xs++[x])∧Upd h h' i:=by
 obtain⟨⟨rows,cc,aa⟩,l,o,lo⟩:=v;rw[← l]at hg;have fl:(s.len+1)*E.w=(rows.flatten++cs).length:=by rw[Nat.add_mul,cc.len,List.length_append,E.len c,Nat.one_mul]
 have fr:rows.flatten++cs=(rows++[cs]).flatten:=by simp
 rcases o with e | ⟨e1,e2,bs,b⟩
 ·rw[kh6 e (by omega) hg cc];refine⟨_,_,rfl,⟨⟨rows++[cs],⟨rfl,by rw[← fr];exact fl,fun j w hw=>⟨_,rfl,?_⟩⟩,?_⟩,by simp[l],.inr ⟨rfl,rfl,rows.flatten++cs,AH.has_push _ _ _⟩,fun r hr=>by cases hr;exact⟨_,rfl⟩⟩,(Grow.push _ _).toUpd i⟩
  ·rw[fr]
   simpa using hw
  ·refine All2.snoc (aa.imp fun _ _ p=>?_) ⟨E.grow (Grow.push _ _) c,E.new c (Nat.le_refl _)⟩;exact⟨E.grow (Grow.push _ _) p.1,E.new p.1 (Nat.le_refl _)⟩
 ·have hap:ku P s cs 1 elem E.w h=some (Sl.v ⟨some (.new h.blks.size 0),s.len+1,.opn E.w⟩,(h.kill s.ref).push (.cells (rows.flatten++cs) elem)):=by
   unfold ku;simp only[e2];rw[show Nat.beq 1 0=false from rfl,show Nat.beq E.w E.w=true from Nat.beq_refl _];simp only[cond_false,hg,Bool.and_true,cond_true,e1,show h.blks[i]?=_ from b];have hgets:=cc.gets;rw[e1]at hgets;simp only[hgets,Option.bind_some];rw[show Nat.beq elem elem=true from Nat.beq_refl _,cond_true];have:(AH.kill h (some (Ref.new i 0))).blks.size=h.blks.size:=by simp[AH.kill]
   simp[AH.next,this,Sl.v];rfl
  rw[hap,e1];have sz:(h.kill (some (.new i 0))).blks.size=h.blks.size:=by simp[AH.kill]
  have u:Upd h (h.kill (some (.new i 0))) i:=AH.kill_Upd h i;refine⟨_,_,rfl,⟨⟨rows++[cs],⟨rfl,by rw[← fr];exact fl,fun j w hw=>⟨_,rfl,?_⟩⟩,?_⟩,by simp[l],.inr ⟨rfl,rfl,rows.flatten++cs,?_⟩,fun r hr=>by cases hr;exact⟨_,rfl⟩⟩,u.trans ((Grow.push _ _).toUpd i)⟩
  ·rw[fr,← sz]
   simpa using hw
  ·refine All2.snoc (aa.imp fun _ _ p=>?_) ⟨E.grow (Grow.push _ _) (E.upd c a u),E.new c (Nat.le_refl _)⟩;exact⟨E.grow (Grow.push _ _) (E.upd p.1 p.2 u),E.new p.1 (Nat.le_refl _)⟩
  ·have:=AH.has_push (h.kill (some (.new i 0))) (rows.flatten++cs) elem;rw[sz]at this;exact this
theorem kgv{h:AH}{i n:Nat}{cs:List AV}{e elem:TypeId}(b:h.has i cs e)(hl:n*P.cellsOf elem=cs.length):ky P elem (Sl.v ⟨some (.new i 0),n,.is n⟩) h=some (cs,n) :=
 km0 (Cells.of_has b hl)
section
variable{Q:AV→AH→Prop}
theorem Runs.putAt{h:AH}{i o:Nat}{cs cs' vs:List AV}{e:TypeId}{K:AH→Option (AV×AH)}(b:h.has i cs e)(hl:o+vs.length≤cs.length)(hc:cs.take o++vs++cs.drop (o+vs.length)=cs')(H:∀h',h'.has i cs' e→Upd h h' i→Runs (K h') Q):Runs ((h.puts ((Ref.new i 0).add o) vs).bind K) Q:=by
 subst hc;rw[Ref.add_new,Nat.zero_add,b.puts hl];exact H _ (AH.has_upd b _ e) (AH.upd_Upd h i _ e)
end
end Go.Ab

/- squeezed -/
namespace Go.Ab
def overW(xs ys:List Nat):Option (List Nat):=if ys.length≤xs.length then some (ys++xs.drop ys.length)else none
theorem k1w{xs ys zs:List Nat}(q:overW xs ys=some zs):zs.length=xs.length:=by
 unfold overW at q;split at q
 ·cases q;simp;omega
 ·cases q
theorem Vec.copyV{h:AH}{s t:Sl}{i:Nat}{xs ys zs:List Nat}(v:Vec h t i xs)(m:Nats h s ys)(q:overW xs ys=some zs):∃h',copyH s t 1 h=some h'∧Vec h' t i zs∧Upd h h' i:=by
 unfold overW at q;split at q
 ·rename_i hl;cases q;have hf:(⟨some (.new i 0),ys.length,.is ys.length⟩:Sl).fit 1:=Nat.le_refl _;have w:Win ⟨some (.new i 0),ys.length,.is ys.length⟩ i 0 ys.length:=⟨rfl,rfl,hf⟩;obtain⟨h',e,v',u⟩:=v.copyW (zs:=ys++xs.drop ys.length) w m (by unfold setW;rw[if_pos ⟨by omega,rfl⟩];simp);refine⟨h',?_,v',u⟩;rw[← e];unfold copyH;rw[m.len,v.is,Nat.min_self,Nat.min_eq_left hl]
 ·cases q
end Go.Ab

/- squeezed -/
namespace Go.Ab
variable{P:Program}
def UpdO(h h':AH):Option Nat→Prop
 | none=>Grow h h'
 | some k=>Upd h h' k
def AvO(s:Sl)(xs:List Nat):Option Nat→Prop
 | none=>True
 | some k=>Av s k xs
def LeO(n:Nat):Option Nat→Prop
 | none=>True
 | some k=>n≤k
def LtO(n:Nat):Option Nat→Prop
 | none=>True
 | some k=>k<n
def NeO(j:Nat):Option Nat→Prop
 | none=>True
 | some k=>j≠k
def NeOO:Option Nat→Option Nat→Prop
 | none,_=>True
 | some j,i=>NeO j i
theorem LeO.trans{m n:Nat}(h:m≤n):∀{i:Option Nat},LeO n i→LeO m i
 | none,_=>trivial
 | some k,l=>Nat.le_trans h l
theorem NeO.of_lt{j n:Nat}:∀{i:Option Nat},LtO n i→n≤j→NeO j i
 | none,_,_=>trivial
 | some k,l,h=>by
  have:k<n:=l;show j≠k;omega
theorem NeO.of_le{j n:Nat}:∀{i:Option Nat},LeO n i→j<n→NeO j i
 | none,_,_=>trivial
 | some k,l,h=>by
  have:n≤k:=l;show j≠k;omega
theorem NeOO.of_lt{n:Nat}:∀{j i:Option Nat},LeO n j→LtO n i→NeOO j i
 | none,_,_,_=>trivial
 | some j,_,l,h=>NeO.of_lt h l
theorem NeOO.of_le{n:Nat}:∀{j i:Option Nat},LtO n j→LeO n i→NeOO j i
 | none,_,_,_=>trivial
 | some j,_,l,h=>NeO.of_le h l
theorem AvO.of_base{h0:AH}{s:Sl}{xs:List Nat}(n:Nats h0 s xs):∀{i:Option Nat},LeO h0.blks.size i→AvO s xs i
 | none,_=>trivial
 | some k,l=>Av.of_base n l
theorem AvO.of_own{h1:AH}{s:Sl}{xs:List Nat}(o:Own h1 s):∀{i:Option Nat},LtO h1.blks.size i→AvO s xs i
 | none,_=>trivial
 | some k,l=>Av.of_own o l
theorem AvO.nil(i:Option Nat)(s:Sl):AvO s [] i:=by
 cases i
 ·trivial
 ·exact .inl rfl
theorem UpdO.trans{h1 h2 h3:AH}:∀{i:Option Nat},UpdO h1 h2 i→UpdO h2 h3 i→UpdO h1 h3 i
 | none,u,w=>Grow.trans u w
 | some k,u,w=>Upd.trans u w
theorem Grow.updo{h h1 h2:AH}(g:Grow h h1):∀{i:Option Nat},LeO h.blks.size i→UpdO h1 h2 i→Grow h h2
 | none,_,u=>g.trans u
 | some k,l,u=>g.updr l u
theorem AH.has.updo{h1 h2:AH}{j:Nat}{cs:List AV}{e:TypeId}(b:h1.has j cs e):∀{i:Option Nat},NeO j i→UpdO h1 h2 i→h2.has j cs e
 | none,_,u=>u.has b
 | some k,l,u=>AH.has.updr b l u
theorem Vec.updo{h1 h2:AH}{s:Sl}{j:Nat}{xs:List Nat}(b:Vec h1 s j xs):∀{i:Option Nat},NeO j i→UpdO h1 h2 i→Vec h2 s j xs
 | none,_,u=>b.grow u
 | some k,l,u=>b.updr l u
theorem Nats.updo{h1 h2:AH}{s:Sl}{xs:List Nat}(b:Nats h1 s xs):∀{i:Option Nat},AvO s xs i→UpdO h1 h2 i→Nats h2 s xs
 | none,_,u=>b.grow u
 | some k,l,u=>b.upda l u
def GO{α:Type}(E:El α)(elem:TypeId)(h:AH)(s:Sl)(i:Option Nat)(xs:List α):Prop :=
 xs.length≤9223372036854775807∧match i with
 | none=>s=⟨none,0,.is 0⟩∧xs=[]
 | some k=>GL E elem h s k xs∧k<h.blks.size
def AvE{α:Type}(E:El α)(cs:List AV)(x:α):Option Nat→Prop
 | none=>True
 | some k=>E.av k cs x
variable{α:Type}{E:El α}{elem:TypeId}
theorem GO.none(E:El α)(elem:TypeId)(h:AH):GO E elem h ⟨none,0,.is 0⟩ none []:=⟨by simp,rfl,rfl⟩
theorem GO.one{h:AH}{i:Nat}{cs:List AV}{x:α}{e:TypeId}(b:h.has i cs e)(c:E.has h cs x)(a:E.av i cs x):GO E elem h ⟨some (.new i 0),1,.is 1⟩ (some i) [x] :=
 ⟨by simp,GL.one b c a,b.lt⟩
theorem GO.grow{h h':AH}{s:Sl}:∀{i:Option Nat}{xs:List α},GO E elem h s i xs→Grow h h'→GO E elem h' s i xs
 | .none,_,v,g=>v
 | .some k,_,⟨l,v,lt⟩,g=>⟨l,v.grow g,Nat.lt_of_lt_of_le lt g.size⟩
theorem GO.lt{h:AH}{s:Sl}:∀{i:Option Nat}{xs:List α},GO E elem h s i xs→LtO h.blks.size i
 | .none,_,_=>trivial
 | .some k,_,v=>v.2.2
theorem GO.seq{h:AH}{s:Sl}:∀{i:Option Nat}{xs:List α},GO E elem h s i xs→Seq E h s xs
 | .none,xs,⟨_,e1,e2⟩=>by
  subst e1;subst e2;exact Seq.nil E h
 | .some k,_,v=>v.2.1.seq v.1
theorem GO.len{h:AH}{s:Sl}{i:Option Nat}{xs:List α}(v:GO E elem h s i xs):s.len=xs.length:=v.seq.len
theorem GO.own{h h0:AH}{s:Sl}:∀{i:Option Nat}{xs:List α},GO E elem h s i xs→LeO h0.blks.size i→Own h0 s
 | .none,_,v,_=>fun r hr=>by rw[v.2.1]at hr;cases hr
 | .some k,_,v,l=>v.2.1.own_of l
theorem GL.lt{h:AH}{s:Sl}{i:Nat}{x:α}{xs:List α}(v:GL E elem h s i (xs++[x])):i<h.blks.size:=by
 obtain⟨⟨rows,c,a⟩,l,o,lo⟩:=v;have hr:rows.length=xs.length+1:=by have:=All2.length a;simpa using this
 have hf:=kex (w:=E.w) (rows:=rows) (All2.rows (a.imp fun _ _ p=>p.1));have hp:=E.pos
 have h0:0<rows.flatten.length:=by
  rw[hf,hr];exact Nat.mul_pos (by omega) hp
 obtain⟨r,e1,e2⟩:=c.get 0 _ (List.getElem?_eq_getElem h0);obtain⟨k,rfl⟩:=lo r e1;have:=AH.cell_inn e2;rw[Ref.add_new]at this;exact this
theorem kw8{n m:Nat}(h:growOk P n elem m=true):n≤9223372036854775807:=by
 unfold growOk at h;rw[Bool.and_eq_true,decide_eq_true_eq]at h;have:=h.1.2;simp only[kbg]at this;omega
theorem GO.push{h:AH}{s:Sl}{i:Option Nat}{xs:List α}(v:GO E elem h s i xs){cs:List AV}{x:α}(c:E.has h cs x)(a:AvE E cs x i)(hg:growOk P (xs.length+1) elem E.w=true) :
  ∃s' h',ku P s cs 1 elem E.w h=some (s'.v,h')∧GO E elem h' s' (some h.blks.size) (xs++[x])∧UpdO h h' i:=by
 have hl:=kw8 hg;cases i with
 | none =>
  obtain⟨_,e1,e2⟩:=v;subst e1;subst e2;obtain⟨s',h',e,v',u⟩:=(GL.nil E elem h h.blks.size).push c (E.new c (Nat.le_refl _)) hg;exact⟨s',h',e,⟨by simp,v',v'.lt⟩,(Grow.refl h).updr (Nat.le_refl _) u⟩
 | some k =>
  obtain⟨s',h',e,v',u⟩:=v.2.1.push c a hg;exact⟨s',h',e,⟨by simpa using hl,v',v'.lt⟩,u⟩
theorem Seq.lit{h:AH}{i n:Nat}{rows:List (List AV)}{e:TypeId}{xs:List α}(b:h.has i rows.flatten e)(a:All2 (E.has h) rows xs)(hn:xs.length=n)(hs:n≤9223372036854775807:=by decide):Seq E h ⟨some (.new i 0),n,.is n⟩ xs:=by
 refine⟨⟨rows,Cells.of_has b ?_,a⟩,hn.symm,by omega⟩;rw[kex a.rows,All2.length a,hn]
theorem AvE.nats{s:Sl}{xs:List Nat}:∀{i:Option Nat},AvO s xs i→AvE El.nats [s.v] xs i
 | .none,_=>trivial
 | .some k,a=>⟨s,rfl,a⟩
theorem AvE.int{k:IntKind}{n:Int}{cs:List AV}:∀{i:Option Nat},AvE (El.int k) cs n i
 | .none=>trivial
 | .some _=>trivial
theorem AvE.bool{b:Bool}{cs:List AV}:∀{i:Option Nat},AvE El.bool cs b i
 | .none=>trivial
 | .some _=>trivial
theorem AvE.pair{α β:Type}{A:El α}{B:El β}{c1 c2:List AV}{a:α}{b:β}:∀{i:Option Nat},c1.length=A.w→AvE A c1 a i→AvE B c2 b i→AvE (El.pair A B) (c1++c2) (a,b) i
 | .none,_,_,_=>trivial
 | .some k,l,x,y=>⟨c1,c2,rfl,l,x,y⟩
end Go.Ab
