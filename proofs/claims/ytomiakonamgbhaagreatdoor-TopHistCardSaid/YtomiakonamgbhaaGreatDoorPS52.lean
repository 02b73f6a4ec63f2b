/- Words and laws that the last text joins. -/
import Derived.Test.YtomiakonamgbhaaGreatDoorPS33
import Derived.Test.YtomiakonamgbhaaGreatDoorPAbsL
set_option linter.unusedVariables false
set_option linter.unusedSimpArgs false
set_option linter.unusedSectionVars false
set_option maxRecDepth 10000
namespace Go.Ab
open Go.Proofs Go.Num
inductive kg4
 | fn (x1:List Nat) (x2:List Nat)
 | p7 (x1:List Nat) (x2c0:List Nat) (x3c0:List Nat) (p4c0:Bool) (x4c1:List Nat) (p7c0:Bool) (x7c1:List Nat)
abbrev kfm:=List Nat×Int
noncomputable def kec(x1 x2:List Nat):Option (kg4⊕kfm):=cond (!(rt x1)) (some (.inr ([],1))) (cond (!(rt x2)) (some (.inr ([],1))) ((u64P 1).bind λC=>cond (decide ((cmpN x2 [C])<=0)) (some (.inr ([],1))) ((need (-9223372036854775808<=(1:Int)/\(1:Int)<=9223372036854775807)).bind λy=>some (.inl (.p7 x2 ((divN x1 x2).2.1) x2 false [] ((ofI 1).1) ((ofI 1).2))))))
noncomputable def kfu(x1 x2c0 x3c0:List Nat)(p4c0:Bool)(x4c1:List Nat)(p7c0:Bool)(x7c1:List Nat):Option (kg4⊕kfm):=cond (decide ((List.length x2c0:Int)>0)) (some (.inl (.p7 x1 ((divN x3c0 x2c0).2.1) x2c0 p7c0 x7c1 (((kba p4c0 x4c1 (((kv ((fromI false ((divN x3c0 x2c0).1)).1) ((fromI false ((divN x3c0 x2c0).1)).2) p7c0 x7c1).1)) ((kv ((fromI false ((divN x3c0 x2c0).1)).1) ((fromI false ((divN x3c0 x2c0).1)).2) p7c0 x7c1).2.1)).1)) ((kba p4c0 x4c1 (((kv ((fromI false ((divN x3c0 x2c0).1)).1) ((fromI false ((divN x3c0 x2c0).1)).2) p7c0 x7c1).1)) ((kv ((fromI false ((divN x3c0 x2c0).1)).1) ((fromI false ((divN x3c0 x2c0).1)).2) p7c0 x7c1).2.1)).2.1)))) ((u64P 1).bind λy=>cond (!decide ((cmpN x3c0 [y])=0)) (some (.inr ([],6))) (some (.inr ((floorI p4c0 x4c1 ((fromI false x1).1) ((fromI false x1).2)).2.2.2.1,((floorI p4c0 x4c1 ((fromI false x1).1) ((fromI false x1).2)).2.2.2.2)))))
noncomputable def kp1:kg4->Option (kg4⊕kfm)
 | .fn x1 x2=>kec x1 x2
 | .p7 x1 x2c0 x3c0 p4c0 x4c1 p7c0 x7c1=>kfu x1 x2c0 x3c0 p4c0 x4c1 p7c0 x7c1
@[reducible] def kt0(h0:AH)(r:kfm)(v:AV)(h':AH):Prop:=∃s1:Sl,v=.tup [s1.v,.i r.2]/\Nats h' s1 r.1/\Grow h0 h'/\Own h0 s1
def kld(r:kfm):kg4->Prop
 | .fn x1 x2=>∀{h:AH}{a1:Sl}{a2:Sl},Nats h a1 x1->Nats h a2 x2->Runs (go (.fn kga [a1.v,a2.v]) h) (kt0 h r)
 | .p7 x1 x2c0 x3c0 p4c0 x4c1 p7c0 x7c1=>∀{h0 h:AH}{a1:Sl}{y:Sl}{C:Sl}{F:Sl}{H:Sl}{i2:Nat}{i3:Nat}{i4:Nat}{I:Nat},Grow h0 h->Nats h a1 x1->h.has i2 [y.v] kr->Nats h y x2c0->h.has i3 [C.v] kr->Nats h C x3c0->h.has i4 [.bool p4c0,F.v] ki->Nats h F x4c1->h.has I [.bool p7c0,H.v] ki->Nats h H x7c1->h0.blks.size<=i2->h0.blks.size<=i3->h0.blks.size<=i4->h0.blks.size<=I->Av a1 i2 x1->Av a1 i3 x1->Av a1 i4 x1->Av a1 I x1->Av y i2 x2c0->Av y i3 x2c0->Av y i4 x2c0->Av y I x2c0->Av C i2 x3c0->Av C i3 x3c0->Av C i4 x3c0->Av C I x3c0->Av F i2 x4c1->Av F i3 x4c1->Av F i4 x4c1->Av F I x4c1->Av H i2 x7c1->Av H i3 x7c1->Av H i4 x7c1->Av H I x7c1->i2≠i3->i2≠i4->i3≠i4->i2≠I->i3≠I->i4≠I->Runs (go (.pt kga knq [(1,a1.v),(7,.p (.new i2 0)),(9,.p (.new i3 0)),(10,.p (.new i4 0)),(12,.func (.func kki) [] [.p (.new i3 0),.p (.new i2 0),.p (.new I 0),.p (.new i4 0)])]) h) (kt0 h0 r)
theorem k7h{r:kfm}{o:kg4⊕kfm}{x1 x2:List Nat}(e:kec x1 x2=some o)(ad:GoodS (kld r) r o):kld r (.fn x1 x2):=by
 intro h a1 a2 n1 n2;rw[kbk3];unfold kec at e;refine qw (kbt n1) (qw (seen rfl) ?_);refine qba (λk4=>?_) (λk4=>?_)
 ·replace e:=(condT k4).symm.trans e;cases e;cases ad;exact qu ⟨(⟨none,0,.is 0⟩:Sl),rfl,(qq _),(qk _),(qp _)⟩
 ·replace e:=(condF k4).symm.trans e;refine qw (kbt n2) (qw (seen rfl) ?_);refine qba (λk6=>?_) (λk6=>?_)
  ·replace e:=(condT k6).symm.trans e;cases e;cases ad;exact qu ⟨(⟨none,0,.is 0⟩:Sl),rfl,(qq _),(qk _),(qp _)⟩
  ·replace e:=(condF k6).symm.trans e;refine qx λH7 b7 H=>?_;obtain⟨w8,z8,e⟩:=qbs.1 e;obtain⟨H9,e9,I⟩:=kco (n2.grow H) (qbk b7 z8);refine qw e9 (qw (seen qcl) ?_);refine qba (λaj=>?_) (λaj=>?_)
   ·replace e:=(condT aj).symm.trans e;cases e;cases ad;exact qu ⟨(⟨none,0,.is 0⟩:Sl),rfl,(qq _),(H.trans I),(qp _)⟩
   ·replace e:=(condF aj).symm.trans e;obtain⟨ba,az,bb,an,bc,W,y,bd,a0⟩:=kd4 (n1.grow (H.trans I)) (n2.grow (H.trans I));refine qw an (qw rfl (qw (seen qck) (qw (seen qck) (qw (seen qcl) ?_))));refine qx λbe ap C=>?_;refine qy ap rfl λbf ae F=>?_;refine qx λbg aq Q=>?_;refine qy aq rfl λbh af U=>?_;obtain⟨ak,ar,e⟩:=qbs.1 e;obtain⟨bi,bj,au,al,K,am⟩:=ku2 1  ak.down;refine qw au (qw rfl ?_);refine qz rfl ?_;refine qw (seenAt rfl rfl) (qw (seenAt rfl qck) ?_);refine qx λbk ag V=>?_;refine qx λbm aw Z=>?_;refine qy (Z.has ag) rfl λbn ax aa=>?_;have ah:=qr aw (Nat.ne_of_gt (qbp (ag).lt (qbn _))) aa;refine qy ah rfl λbp ay ac=>?_;have ai:=qr ax (Nat.ne_of_lt (qbp (ag).lt (qbn _))) ac;cases e;exact ad (((((((((((H.trans I).trans y).trans C).updr (qbo (((H.trans I).trans y)).size (qbn _)) F).trans Q).updr (qbo (((((H.trans I).trans y).trans C).updr (qbo (((H.trans I).trans y)).size (qbn _)) F)).size (qbn _)) U).trans K).trans V).trans Z).updr (qbo ((((((((H.trans I).trans y).trans C).updr (qbo (((H.trans I).trans y)).size (qbn _)) F).trans Q).updr (qbo (((((H.trans I).trans y).trans C).updr (qbo (((H.trans I).trans y)).size (qbn _)) F)).size (qbn _)) U).trans K)).size (qbn _)) aa).updr (qbo (((((((((H.trans I).trans y).trans C).updr (qbo (((H.trans I).trans y)).size (qbn _)) F).trans Q).updr (qbo (((((H.trans I).trans y).trans C).updr (qbo (((H.trans I).trans y)).size (qbn _)) F)).size (qbn _)) U).trans K).trans V)).size (qbn _)) ac) (n2.grow (((((((((((H.trans I).trans y).trans C).updr (qbo (((H.trans I).trans y)).size (qbn _)) F).trans Q).updr (qbo (((((H.trans I).trans y).trans C).updr (qbo (((H.trans I).trans y)).size (qbn _)) F)).size (qbn _)) U).trans K).trans V).trans Z).updr (qbo ((((((((H.trans I).trans y).trans C).updr (qbo (((H.trans I).trans y)).size (qbn _)) F).trans Q).updr (qbo (((((H.trans I).trans y).trans C).updr (qbo (((H.trans I).trans y)).size (qbn _)) F)).size (qbn _)) U).trans K)).size (qbn _)) aa).updr (qbo (((((((((H.trans I).trans y).trans C).updr (qbo (((H.trans I).trans y)).size (qbn _)) F).trans Q).updr (qbo (((((H.trans I).trans y).trans C).updr (qbo (((H.trans I).trans y)).size (qbn _)) F)).size (qbn _)) U).trans K).trans V)).size (qbn _)) ac)) (((((((Q.updr (qbn _) U).trans K).trans V).trans Z).updr (qbo (((Q.updr (qbn _) U).trans K)).size (qbn _)) aa).updr (qbo ((((Q.updr (qbn _) U).trans K).trans V)).size (qbn _)) ac).has ae) (W.grow ((((((((C.updr (qbn _) F).trans Q).updr (qbo ((C.updr (qbn _) F)).size (qbn _)) U).trans K).trans V).trans Z).updr (qbo (((((C.updr (qbn _) F).trans Q).updr (qbo ((C.updr (qbn _) F)).size (qbn _)) U).trans K)).size (qbn _)) aa).updr (qbo ((((((C.updr (qbn _) F).trans Q).updr (qbo ((C.updr (qbn _) F)).size (qbn _)) U).trans K).trans V)).size (qbn _)) ac)) (((((K.trans V).trans Z).updr (qbo (K).size (qbn _)) aa).updr (qbo ((K.trans V)).size (qbn _)) ac).has af) (n2.grow (((((((((((H.trans I).trans y).trans C).updr (qbo (((H.trans I).trans y)).size (qbn _)) F).trans Q).updr (qbo (((((H.trans I).trans y).trans C).updr (qbo (((H.trans I).trans y)).size (qbn _)) F)).size (qbn _)) U).trans K).trans V).trans Z).updr (qbo ((((((((H.trans I).trans y).trans C).updr (qbo (((H.trans I).trans y)).size (qbn _)) F).trans Q).updr (qbo (((((H.trans I).trans y).trans C).updr (qbo (((H.trans I).trans y)).size (qbn _)) F)).size (qbn _)) U).trans K)).size (qbn _)) aa).updr (qbo (((((((((H.trans I).trans y).trans C).updr (qbo (((H.trans I).trans y)).size (qbn _)) F).trans Q).updr (qbo (((((H.trans I).trans y).trans C).updr (qbo (((H.trans I).trans y)).size (qbn _)) F)).size (qbn _)) U).trans K).trans V)).size (qbn _)) ac)) ai (qq _) ay (al.grow (((V.trans Z).updr (qbn _) aa).updr (qbo (V).size (qbn _)) ac)) (qbo (((H.trans I).trans y)).size (qbn _)) (qbo (((((H.trans I).trans y).trans C).updr (qbo (((H.trans I).trans y)).size (qbn _)) F)).size (qbn _)) (qbo ((((((((H.trans I).trans y).trans C).updr (qbo (((H.trans I).trans y)).size (qbn _)) F).trans Q).updr (qbo (((((H.trans I).trans y).trans C).updr (qbo (((H.trans I).trans y)).size (qbn _)) F)).size (qbn _)) U).trans K)).size (qbn _)) (qbo (((((((((H.trans I).trans y).trans C).updr (qbo (((H.trans I).trans y)).size (qbn _)) F).trans Q).updr (qbo (((((H.trans I).trans y).trans C).updr (qbo (((H.trans I).trans y)).size (qbn _)) F)).size (qbn _)) U).trans K).trans V)).size (qbn _)) (qbg n2 (qbo (((H.trans I).trans y)).size (qbn _))) (qbg n2 (qbo (((((H.trans I).trans y).trans C).updr (qbo (((H.trans I).trans y)).size (qbn _)) F)).size (qbn _))) (qbg n2 (qbo ((((((((H.trans I).trans y).trans C).updr (qbo (((H.trans I).trans y)).size (qbn _)) F).trans Q).updr (qbo (((((H.trans I).trans y).trans C).updr (qbo (((H.trans I).trans y)).size (qbn _)) F)).size (qbn _)) U).trans K)).size (qbn _))) (qbg n2 (qbo (((((((((H.trans I).trans y).trans C).updr (qbo (((H.trans I).trans y)).size (qbn _)) F).trans Q).updr (qbo (((((H.trans I).trans y).trans C).updr (qbo (((H.trans I).trans y)).size (qbn _)) F)).size (qbn _)) U).trans K).trans V)).size (qbn _))) (qbg W (qbn _)) (qbg W (qbo ((C.updr (qbn _) F)).size (qbn _))) (qbg W (qbo (((((C.updr (qbn _) F).trans Q).updr (qbo ((C.updr (qbn _) F)).size (qbn _)) U).trans K)).size (qbn _))) (qbg W (qbo ((((((C.updr (qbn _) F).trans Q).updr (qbo ((C.updr (qbn _) F)).size (qbn _)) U).trans K).trans V)).size (qbn _))) (qbg n2 (qbo (((H.trans I).trans y)).size (qbn _))) (qbg n2 (qbo (((((H.trans I).trans y).trans C).updr (qbo (((H.trans I).trans y)).size (qbn _)) F)).size (qbn _))) (qbg n2 (qbo ((((((((H.trans I).trans y).trans C).updr (qbo (((H.trans I).trans y)).size (qbn _)) F).trans Q).updr (qbo (((((H.trans I).trans y).trans C).updr (qbo (((H.trans I).trans y)).size (qbn _)) F)).size (qbn _)) U).trans K)).size (qbn _))) (qbg n2 (qbo (((((((((H.trans I).trans y).trans C).updr (qbo (((H.trans I).trans y)).size (qbn _)) F).trans Q).updr (qbo (((((H.trans I).trans y).trans C).updr (qbo (((H.trans I).trans y)).size (qbn _)) F)).size (qbn _)) U).trans K).trans V)).size (qbn _))) (Av.nil _ _) (Av.nil _ _) (Av.nil _ _) (Av.nil _ _) (qbh am ((Q.updr (qbn _) U).has ae).lt) (qbh am (af).lt) (qbg al (qbn _)) (qbg al (qbo (V).size (qbn _))) (Nat.ne_of_lt (qbp (ae).lt (qbn _))) (Nat.ne_of_lt (qbp (((Q.updr (qbn _) U).trans K).has ae).lt (qbn _))) (Nat.ne_of_lt (qbp (K.has af).lt (qbn _))) (Nat.ne_of_lt (qbp ((((Q.updr (qbn _) U).trans K).trans V).has ae).lt (qbn _))) (Nat.ne_of_lt (qbp ((K.trans V).has af).lt (qbn _))) (Nat.ne_of_lt (qbp (ag).lt (qbn _)))
theorem kbb0{r:kfm}{o:kg4⊕kfm}{x1 x2c0 x3c0:List Nat}{p4c0:Bool}{x4c1:List Nat}{p7c0:Bool}{x7c1:List Nat}(e:kfu x1 x2c0 x3c0 p4c0 x4c1 p7c0 x7c1=some o)(bf:GoodS (kld r) r o):kld r (.p7 x1 x2c0 x3c0 p4c0 x4c1 p7c0 x7c1):=by
 intro h0 h a1 fa fb fc fd i2 i3 i4 i7 g0 n1 b2 bg b3 bh b4 bi b7 dn d2 d3 d4 d5 bj bk bm bn ag ah ai aj bp bq br bt bu bv bw bx ak al am an ar au aw ax ay az;rw[k8e];unfold kfu at e;refine qw (qbd b2 rfl qck) ?_;rw[bg.len];refine qba (λk9=>?_) (λk9=>?_)
 ·replace e:=(condT k9).symm.trans e;rw[kbjy];refine qbi (qbd b3 rfl qck) ?_;refine qbi (qbd b2 rfl qck) ?_;obtain⟨ff,fe,en,eo,d6,d7,y,cw,ac⟩:=kd4 bh bg;refine qbi eo ?_;refine qbi rfl ?_;refine qbi (seen qck) ?_;refine qbi (seen qck) ?_;refine qbi (seen qcl) ?_;refine Runs.newB λfg bz F=>?_;refine qbi (qbc ((y.trans F).has b7) 0 rfl rfl) ?_;refine qbi (qbc ((y.trans F).has b7) 1 rfl qck) ?_;obtain⟨fh,ep,dp,d8,C,b0⟩:=kbx (d6.grow F) false;refine qbi dp ?_;refine qbi rfl ?_;refine Runs.ifTB rfl ?_;refine qbi (seenAt rfl rfl) ?_;refine qbi (seenAt rfl qck) ?_;refine Runs.whenB (C.same ((y.trans F).has b7) 0 2) ?_;refine Runs.whenB (C.same bz 0 0) ?_;obtain⟨_,fi,er,fj,rfl,et,I,b5⟩:=kmq d8 (dn.grow ((y.trans F).trans C)) ((fromI false ((divN x3c0 x2c0).1)).1) p7c0;refine qbi er ?_;refine qbi rfl ?_;refine qbi rfl ?_;refine Runs.ifTB rfl ?_;refine qbi (seenAt rfl rfl) ?_;refine qbi (seenAt rfl qck) ?_;refine qbi (seen qcl) ?_;refine Runs.whenB (I.same (C.has bz) 0 0) ?_;refine qbj ((C.trans I).has bz) rfl λeu ad K=>?_;have cx:=(d8.grow I).upda (qbh b0 (bz).lt) K;have ba:=et.upda (qbh b5 (C.has bz).lt) K;refine qbi (qbc (((((y.trans F).trans C).trans I).updr (qbo (y).size (qbn _)) K).has b4) 0 rfl rfl) ?_;refine qbi (qbc (((((y.trans F).trans C).trans I).updr (qbo (y).size (qbn _)) K).has b4) 1 rfl qck) ?_;refine qbi (qbc ad 0 rfl rfl) ?_;refine qbi (qbc ad 1 rfl qck) ?_;obtain⟨_,ev,ew,fk,rfl,ex,H,ap⟩:=kn7 (bi.grow ((((y.trans F).trans C).trans I).updr (qbo (y).size (qbn _)) K)) ba p4c0 (((kv ((fromI false ((divN x3c0 x2c0).1)).1) ((fromI false ((divN x3c0 x2c0).1)).2) p7c0 x7c1).1));refine qbi ew ?_;refine qbi rfl ?_;refine qbi rfl ?_;refine Runs.ifTB rfl ?_;refine qbi (seenAt rfl rfl) ?_;refine qbi (seenAt rfl qck) ?_;refine qbi (seen qcl) ?_;refine Runs.newB λey ez Q=>?_;refine qbj ez rfl λe0 cy W=>?_;refine qbi (qbd ((((((((y.trans F).trans C).trans I).updr (qbo (y).size (qbn _)) K).trans H).trans Q).updr (qbo ((((((y.trans F).trans C).trans I).updr (qbo (y).size (qbn _)) K).trans H)).size (qbn _)) W).has b2) rfl qck) ?_;refine qbi (qbc ((((((((y.trans F).trans C).trans I).updr (qbo (y).size (qbn _)) K).trans H).trans Q).updr (qbo ((((((y.trans F).trans C).trans I).updr (qbo (y).size (qbn _)) K).trans H)).size (qbn _)) W).has b7) 0 rfl rfl) ?_;refine qbi (qbc ((((((((y.trans F).trans C).trans I).updr (qbo (y).size (qbn _)) K).trans H).trans Q).updr (qbo ((((((y.trans F).trans C).trans I).updr (qbo (y).size (qbn _)) K).trans H)).size (qbn _)) W).has b7) 1 rfl qck) ?_;refine qbi (qbc cy 0 rfl rfl) ?_;refine qbi (qbc cy 1 rfl qck) ?_;refine qbj ((((((((y.trans F).trans C).trans I).updr (qbo (y).size (qbn _)) K).trans H).trans Q).updr (qbo ((((((y.trans F).trans C).trans I).updr (qbo (y).size (qbn _)) K).trans H)).size (qbn _)) W).has b3) rfl λe1 dq U=>?_;have dr:=(n1.grow (((((((y.trans F).trans C).trans I).updr (qbo (y).size (qbn _)) K).trans H).trans Q).updr (qbo ((((((y.trans F).trans C).trans I).updr (qbo (y).size (qbn _)) K).trans H)).size (qbn _)) W)).upda bk U;have b6:=(bg.grow (((((((y.trans F).trans C).trans I).updr (qbo (y).size (qbn _)) K).trans H).trans Q).updr (qbo ((((((y.trans F).trans C).trans I).updr (qbo (y).size (qbn _)) K).trans H)).size (qbn _)) W)).upda ah U;have b8:=(bh.grow (((((((y.trans F).trans C).trans I).updr (qbo (y).size (qbn _)) K).trans H).trans Q).updr (qbo ((((((y.trans F).trans C).trans I).updr (qbo (y).size (qbn _)) K).trans H)).size (qbn _)) W)).upda bq U;have b9:=(bi.grow (((((((y.trans F).trans C).trans I).updr (qbo (y).size (qbn _)) K).trans H).trans Q).updr (qbo ((((((y.trans F).trans C).trans I).updr (qbo (y).size (qbn _)) K).trans H)).size (qbn _)) W)).upda bv U;have ca:=(dn.grow (((((((y.trans F).trans C).trans I).updr (qbo (y).size (qbn _)) K).trans H).trans Q).updr (qbo ((((((y.trans F).trans C).trans I).updr (qbo (y).size (qbn _)) K).trans H)).size (qbn _)) W)).upda al U;have cz:=(d6.grow ((((((F.trans C).trans I).updr (qbn _) K).trans H).trans Q).updr (qbo (((((F.trans C).trans I).updr (qbn _) K).trans H)).size (qbn _)) W)).upda (qbh cw (b3).lt) U;have cb:=(d7.grow ((((((F.trans C).trans I).updr (qbn _) K).trans H).trans Q).updr (qbo (((((F.trans C).trans I).updr (qbn _) K).trans H)).size (qbn _)) W)).upda (qbh ac (b3).lt) U;have c0:=(cx.grow ((H.trans Q).updr (qbo (H).size (qbn _)) W)).upda (qbh b0 ((y.trans F).has b3).lt) U;have c1:=(ba.grow ((H.trans Q).updr (qbo (H).size (qbn _)) W)).upda (qbh b5 (((y.trans F).trans C).has b3).lt) U;have c2:=(ex.grow (Q.updr (qbn _) W)).upda (qbh ap (((((y.trans F).trans C).trans I).updr (qbo (y).size (qbn _)) K).has b3).lt) U;have dt:=qr ((((((((y.trans F).trans C).trans I).updr (qbo (y).size (qbn _)) K).trans H).trans Q).updr (qbo ((((((y.trans F).trans C).trans I).updr (qbo (y).size (qbn _)) K).trans H)).size (qbn _)) W).has b2) ar U;have du:=qr ((((((((y.trans F).trans C).trans I).updr (qbo (y).size (qbn _)) K).trans H).trans Q).updr (qbo ((((((y.trans F).trans C).trans I).updr (qbo (y).size (qbn _)) K).trans H)).size (qbn _)) W).has b4) (Ne.symm aw) U;have a0:=qr ((((((((y.trans F).trans C).trans I).updr (qbo (y).size (qbn _)) K).trans H).trans Q).updr (qbo ((((((y.trans F).trans C).trans I).updr (qbo (y).size (qbn _)) K).trans H)).size (qbn _)) W).has b7) (Ne.symm ay) U;have c3:=qr (((H.trans Q).updr (qbo (H).size (qbn _)) W).has ad) (Nat.ne_of_gt (qbp (y.has b3).lt (qbn _))) U;have ae:=qr cy (Nat.ne_of_gt (qbp ((((((y.trans F).trans C).trans I).updr (qbo (y).size (qbn _)) K).trans H).has b3).lt (qbn _))) U;refine Runs.whenB (kjg cy ae 0 2) ?_;refine Runs.whenB (kjg ((((((((y.trans F).trans C).trans I).updr (qbo (y).size (qbn _)) K).trans H).trans Q).updr (qbo ((((((y.trans F).trans C).trans I).updr (qbo (y).size (qbn _)) K).trans H)).size (qbn _)) W).has b7) a0 0 2) ?_;refine qbj dt rfl λe2 dv V=>?_;have dw:=dr.upda bj V;have cc:=b6.upda ag V;have cd:=b8.upda bp V;have ce:=b9.upda bu V;have cf:=ca.upda ak V;have c4:=cz.upda (qbh cw (b2).lt) V;have ch:=cb.upda (qbh ac (b2).lt) V;have c5:=c0.upda (qbh b0 ((y.trans F).has b2).lt) V;have c6:=c1.upda (qbh b5 (((y.trans F).trans C).has b2).lt) V;have c7:=c2.upda (qbh ap (((((y.trans F).trans C).trans I).updr (qbo (y).size (qbn _)) K).has b2).lt) V;have bb:=qr dq (Ne.symm ar) V;have dx:=qr du (Ne.symm au) V;have ci:=qr a0 (Ne.symm ax) V;have c8:=qr c3 (Nat.ne_of_gt (qbp (y.has b2).lt (qbn _))) V;have af:=qr ae (Nat.ne_of_gt (qbp ((((((y.trans F).trans C).trans I).updr (qbo (y).size (qbn _)) K).trans H).has b2).lt (qbn _))) V;refine Runs.whenB (kjg ae af 0 2) ?_;refine Runs.whenB (kjg a0 ci 0 2) ?_;refine qbj dx rfl λfl e3 Z=>?_;have dy:=dw.upda bm Z;have cj:=cc.upda ai Z;have ck:=cd.upda br Z;have cl:=ce.upda bw Z;have cm:=cf.upda am Z;have c9:=c4.upda (qbh cw (b4).lt) Z;have cn:=ch.upda (qbh ac (b4).lt) Z;have da:=c5.upda (qbh b0 ((y.trans F).has b4).lt) Z;have db:=c6.upda (qbh b5 (((y.trans F).trans C).has b4).lt) Z;have dc:=c7.upda (qbh ap (((((y.trans F).trans C).trans I).updr (qbo (y).size (qbn _)) K).has b4).lt) Z;have dd:=qr dv au Z;have de:=qr bb aw Z;have dz:=qr ci (Ne.symm az) Z;have df:=qr c8 (Nat.ne_of_gt (qbp (y.has b4).lt (qbn _))) Z;have bc:=qr af (Nat.ne_of_gt (qbp ((((((y.trans F).trans C).trans I).updr (qbo (y).size (qbn _)) K).trans H).has b4).lt (qbn _))) Z;refine Runs.whenB (kjg af bc 0 2) ?_;refine qbj dz rfl λfm e4 aa=>?_;have d0:=dy.upda bn aa;have cp:=cj.upda aj aa;have d9:=ck.upda bt aa;have ea:=cl.upda bx aa;have cq:=cm.upda an aa;have eg:=c9.upda (qbh cw (b7).lt) aa;have cr:=cn.upda (qbh ac (b7).lt) aa;have eh:=da.upda (qbh b0 ((y.trans F).has b7).lt) aa;have ei:=db.upda (qbh b5 (((y.trans F).trans C).has b7).lt) aa;have dg:=dc.upda (qbh ap (((((y.trans F).trans C).trans I).updr (qbo (y).size (qbn _)) K).has b7).lt) aa;have dh:=qr dd ax aa;have di:=qr de ay aa;have dj:=qr e3 az aa;have ej:=qr df (Nat.ne_of_gt (qbp (y.has b7).lt (qbn _))) aa;have ek:=qr bc (Nat.ne_of_gt (qbp ((((((y.trans F).trans C).trans I).updr (qbo (y).size (qbn _)) K).trans H).has b7).lt (qbn _))) aa;refine Runs.retB ?_;refine qw rfl ?_;cases e;exact bf ((((((((((((g0.trans y).trans F).trans C).trans I).updr (qbo ((g0.trans y)).size (qbn _)) K).trans H).trans Q).updr (qbo (((((((g0.trans y).trans F).trans C).trans I).updr (qbo ((g0.trans y)).size (qbn _)) K).trans H)).size (qbn _)) W).updr d3 U).updr d2 V).updr d4 Z).updr d5 aa) d0 dh cr di cp dj cq e4 dg d2 d3 d4 d5 bj bk bm bn (qbh ac (b2).lt) (qbh ac (b3).lt) (qbh ac (b4).lt) (qbh ac (b7).lt) ag ah ai aj ak al am an (qbh ap (((((y.trans F).trans C).trans I).updr (qbo (y).size (qbn _)) K).has b2).lt) (qbh ap (((((y.trans F).trans C).trans I).updr (qbo (y).size (qbn _)) K).has b3).lt) (qbh ap (((((y.trans F).trans C).trans I).updr (qbo (y).size (qbn _)) K).has b4).lt) (qbh ap (((((y.trans F).trans C).trans I).updr (qbo (y).size (qbn _)) K).has b7).lt) ar au aw ax ay az
 ·replace e:=(condF k9).symm.trans e;refine qw (qbd b3 rfl qck) ?_;refine qx λen e5 y=>?_;obtain⟨fo,e6,e⟩:=qbs.1 e;obtain⟨ep,dp,C⟩:=kco (bh.grow y) (qbk e5 e6);refine qw dp (qw (seen qcl) ?_);refine qba (λd1=>?_) (λd1=>?_)
  ·replace e:=(condT d1).symm.trans e;cases e;cases bf;exact qu ⟨(⟨none,0,.is 0⟩:Sl),rfl,(qq _),((g0.trans y).trans C),(qp _)⟩
  ·replace e:=(condF d1).symm.trans e;refine qx λeu ad aq=>?_;refine qx λev bd H=>?_;refine qw (qbc ((((y.trans C).trans aq).trans H).has b4) 0 rfl rfl) (qw (qbc ((((y.trans C).trans aq).trans H).has b4) 1 rfl qck) ?_);obtain⟨fq,ey,e7,eb,Q,ec⟩:=kbx (n1.grow (((y.trans C).trans aq).trans H)) false;refine qw e7 (qw rfl ?_);refine qz rfl ?_;refine qw (seenAt rfl rfl) (qw (seenAt rfl qck) ?_);refine qbb (Q.same ((((y.trans C).trans aq).trans H).has b4) 0 2) ?_;refine qbb (Q.same bd 0 0) ?_;refine qbb (Q.same (H.has ad) 0 0) ?_;obtain⟨_,e0,e8,fs,ed,rfl,e9,ee,be,ef,ct⟩:=kvh (bi.grow ((((y.trans C).trans aq).trans H).trans Q)) eb p4c0 ((fromI false x1).1);refine qw e8 (qw rfl (qw rfl ?_));refine qz rfl ?_;refine qw (seenAt rfl rfl) (qw (seenAt rfl qck) (qw rfl ?_));refine qz rfl ?_;refine qw (seenAt rfl rfl) (qw (seenAt rfl qck) (qw (seen qcl) ?_));refine qbb (be.same (Q.has bd) 0 0) ?_;refine qbb (be.same ((H.trans Q).has ad) 0 0) ?_;refine qy (((H.trans Q).trans be).has ad) rfl λe1 dq U=>?_;have dk:=(eb.grow be).upda (qbh ec (H.has ad).lt) U;have dl:=e9.upda (qbh ef ((H.trans Q).has ad).lt) U;have cu:=ee.upda (qbh ct ((H.trans Q).has ad).lt) U;have dm:=qr ((Q.trans be).has bd) (Nat.ne_of_gt (qbp (ad).lt (qbn _))) U;refine qy dm rfl λe2 dv V=>?_;have el:=dk.upda (qbh ec (bd).lt) V;have em:=dl.upda (qbh ef (Q.has bd).lt) V;have cv:=cu.upda (qbh ct (Q.has bd).lt) V;have bb:=qr dq (Nat.ne_of_lt (qbp (ad).lt (qbn _))) V;refine qw (qbc dv 1 rfl qck) ?_;cases e;cases bf;exact qu ⟨ed,rfl,cv,((((((((g0.trans y).trans C).trans aq).trans H).trans Q).trans be).updr (qbo (((g0.trans y).trans C)).size (qbn _)) U).updr (qbo ((((g0.trans y).trans C).trans aq)).size (qbn _)) V),(ct.of_le (((((g0.trans y).trans C).trans aq).trans H).trans Q))⟩
theorem kbhi{s:kg4}{r:kfm}(C:Iter kp1 s r):kld r s:=qbe (λs o e y=>by
 cases s with
 | fn x1 x2=>exact @k7h _ _ x1 x2 e y
 | p7 x1 x2c0 x3c0 p4c0 x4c1 p7c0 x7c1=>exact @kbb0 _ _ x1 x2c0 x3c0 p4c0 x4c1 p7c0 x7c1 e y
 ) C
inductive knr
 | fn (x1:List Nat) (x2:List Nat)
 | p9 (x1:List Nat) (x2:List Nat) (x3:List Nat) (p4c0:Bool) (x4c1:List Nat) (p5c0:Bool) (x5c1:List Nat)
abbrev ktc:=List Nat×Int
noncomputable def kgj(x1 x2:List Nat):Option (knr⊕ktc):=cond (!(rt x1)) (some (.inr ([],1))) (cond (!(rt x2)) (some (.inr ([],1))) ((u64P 2).bind λp7=>cond (decide ((cmpN x2 (digs B p7))<0)) (some (.inr ([],1))) ((need (List.length x2<=1073741824)).bind λC=>(need (-9223372036854775808<=(1:Int)/\(1:Int)<=9223372036854775807)).bind λy=>some (.inl (.p9 x2 x2 ((divN x1 x2).2.1) false [] ((ofI 1).1) ((ofI 1).2))))))
noncomputable def kht(x1 x2 x3:List Nat)(p4c0:Bool)(x4c1:List Nat)(p5c0:Bool)(x5c1:List Nat):Option (knr⊕ktc):=cond (decide ((List.length x3:Int)>0)) (some (.inl (.p9 x1 x3 ((divN x2 x3).2.1) p5c0 x5c1 (((kba p4c0 x4c1 (((kv ((fromI false ((divN x2 x3).1)).1) ((fromI false ((divN x2 x3).1)).2) p5c0 x5c1).1)) ((kv ((fromI false ((divN x2 x3).1)).1) ((fromI false ((divN x2 x3).1)).2) p5c0 x5c1).2.1)).1)) ((kba p4c0 x4c1 (((kv ((fromI false ((divN x2 x3).1)).1) ((fromI false ((divN x2 x3).1)).2) p5c0 x5c1).1)) ((kv ((fromI false ((divN x2 x3).1)).1) ((fromI false ((divN x2 x3).1)).2) p5c0 x5c1).2.1)).2.1)))) ((u64P 1).bind λp7=>cond (!decide ((cmpN x2 (digs B p7))=0)) (some (.inr ([],6))) (some (.inr ((floorI p4c0 x4c1 ((fromI false x1).1) ((fromI false x1).2)).2.2.2.1,0))))
noncomputable def kud:knr->Option (knr⊕ktc)
 | .fn x1 x2=>kgj x1 x2
 | .p9 x1 x2 x3 p4c0 x4c1 p5c0 x5c1=>kht x1 x2 x3 p4c0 x4c1 p5c0 x5c1
theorem kot{a b:Nat}(y:a<B^64)(C:b<B^64):cmpN (digs B a) (digs B b)=cmp a b:=by unfold cmpN;rw[if_pos ⟨kn y,kn C⟩,kg B2,kg B2]
theorem cmp_eq{a b:Nat}:cmp a b=0↔a=b:=by
 unfold cmp;by_cases h:a<b
 ·rw[if_pos h];omega
 ·rw[if_neg h];by_cases y:a=b
  ·rw[if_pos y];omega
  ·rw[if_neg y];omega
structure Eu(n A X Y:Nat)(e:Int)(u v:Nat):Prop where
 sign:e=1\/e=-1
 sum:u*Y+v*X=n
 ub:u<=n
 one:(n:Int)∣e*u*A-X
 two:(n:Int)∣-(e*v)*A-Y
theorem Eu.vb{n A X Y:Nat}{e:Int}{u v:Nat}(E:Eu n A X Y e u v)(y:0<X):v<=n:=by have C:v*1<=v*X:=Nat.mul_le_mul_left _ y;have:=E.sum;omega
theorem Eu.next{n A X Y:Nat}{e:Int}{u v:Nat}(E:Eu n A X Y e u v)(Q:0<Y)(y:0<X):Eu n A Y (X%Y) (-e) v (u+X/Y*v):=by
 have C:=Nat.div_add_mod X Y;refine⟨?_,?_,E.vb y,?_,?_⟩
 ·rcases E.sign with h | h<;>subst h<;>simp
 ·have h:=E.sum;have F:v*X=v*(Y*(X/Y))+v*(X%Y):=by rw[<- Nat.mul_add,C]
  have H:v*(Y*(X/Y))=X/Y*v*Y:=by rw[Nat.mul_comm Y,<- Nat.mul_assoc,Nat.mul_comm v]
  rw[Nat.add_mul];omega
 ·have:=E.two;rwa[Int.neg_mul e (v:Int)]
 ·have F:=E.one;have H:=Int.dvd_mul_of_dvd_right (b:=((X/Y:Nat):Int)) E.two;have I:=Int.dvd_sub F H
  have K:e*(u:Int)*(A:Int)-(X:Int)-((X/Y:Nat):Int)*(-(e*(v:Int))*(A:Int)-(Y:Int))=-(-e*((u+X/Y*v:Nat):Int))*(A:Int)-((X%Y:Nat):Int):=by
   have y:(X:Int)=(Y:Int)*((X/Y:Nat):Int)+((X%Y:Nat):Int):=by rw[<- Int.natCast_mul,<- Int.natCast_add,C]
   generalize X/Y=q at *
   generalize X%Y=r at *
   rw[y,Int.natCast_add,Int.natCast_mul];simp only[Int.neg_mul,Int.mul_add,Int.add_mul,Int.mul_sub,Int.mul_neg,Int.neg_neg]
   have a1:e*((q:Int)*(v:Int))*(A:Int)=(q:Int)*(e*(v:Int)*(A:Int)):=by rw[<- Int.mul_assoc,Int.mul_comm e (q:Int),Int.mul_assoc (q:Int),Int.mul_assoc (q:Int)]
   have a2:(Y:Int)*(q:Int)=(q:Int)*(Y:Int):=Int.mul_comm _ _;rw[a1,a2];omega
  rwa[K]at I
def InvAns(n A X Y:Nat)(r:List Nat×Int):Prop:=(Nat.gcd X Y≠1->r=([],6))/\(Nat.gcd X Y=1->∃w:Nat,w<n/\r=(digs B w,0)/\w*A%n=1)
theorem kbil{n A:Nat}(hn:n<B^64)(ah:2<=n):∀(Y X:Nat)(e:Int)(u v:Nat),X<B^64->Y<B^64->0<X->Eu n A X Y e u v->
  ∃r,Iter kp1 (.p7 (digs B n) (digs B Y) (digs B X) (intD (e*u)).1 (intD (e*u)).2 (intD (-(e*v))).1 (intD (-(e*v))).2) r/\
   Iter kud (.p9 (digs B n) (digs B X) (digs B Y) (intD (e*u)).1 (intD (e*u)).2 (intD (-(e*v))).1 (intD (-(e*v))).2) r/\InvAns n A X Y r:=by
 intro Y
 induction Y using Nat.strongRecOn with
 | ind Y ih =>
  intro X e u v K hY C E;have V:e.natAbs=1:=by rcases E.sign with h | h<;>subst h<;>rfl
  have hu:(e*(u:Int)).natAbs=u:=by rw[Int.natAbs_mul,V,Nat.one_mul,Int.natAbs_natCast]
  have hv:(-(e*(v:Int))).natAbs=v:=by rw[Int.natAbs_neg,Int.natAbs_mul,V,Nat.one_mul,Int.natAbs_natCast]
  have ai:v<=n:=E.vb C;have aj:u<=n:=E.ub;have fn:fromI false (digs B n)=intD (n:Int):=by rw[kcs hn];rfl
  have W:((n:Int)).natAbs<B^64:=by simpa using hn
  by_cases h0:Y=0
  ·subst h0;have Q:Nat.gcd X 0=X:=Nat.gcd_zero_right X;have ak:=kfa;have c1:cmpN (digs B X) [1]=cmp X 1:=by rw[<- kkj];exact kot K (by omega)
   have c2:cmpN (digs B X) (digs B 1)=cmp X 1:=kot K (by omega);by_cases U:X=1
   ·subst U;have F:=ksx (u:=e*(u:Int)) (v:=(n:Int)) (by omega) W (by omega);have Z:=Int.emod_nonneg (e*(u:Int)) (show(n:Int)≠0 by omega);have al:=Int.emod_lt_of_pos (e*(u:Int)) (show 0<(n:Int) by omega);obtain⟨w,hw⟩:∃w:Nat,e*(u:Int)%(n:Int)=(w:Int):=⟨_,(Int.toNat_of_nonneg Z).symm⟩;have H:(intD (e*(u:Int)%(n:Int))).2=digs B w:=by rw[hw,kq1]
    refine⟨(digs B w,0),.done ?_,.done ?_,λh=>absurd Q h,λ_=>⟨w,by omega,rfl,?_⟩⟩
    ·show kfu _ _ _ _ _ _ _=_;unfold kfu;rw[kbu,condF (by rfl),kh5,qbr,c1,condF (by rfl),fn,F];dsimp only;rw[H]
    ·show kht _ _ _ _ _ _ _=_;unfold kht;rw[kbu,condF (by rfl),kh5,qbr,c2,condF (by rfl),fn,F];dsimp only;rw[H]
    ·have hd:=E.one
     have h2:(e*(u:Int)*(A:Int))%(n:Int)=1:=by have h3:=Int.emod_eq_emod_iff_emod_sub_eq_zero.2 (Int.emod_eq_zero_of_dvd hd);rw[h3];exact Int.emod_eq_of_lt (by omega) (by omega)
     have h4:(w:Int)%(n:Int)=(e*(u:Int))%(n:Int):=by rw[<- hw,Int.emod_emod_of_dvd _ (Int.dvd_refl _)]
     have h5:((w*A%n:Nat):Int)=1:=by rw[Int.natCast_emod,Int.natCast_mul,Int.mul_emod,h4,<- Int.mul_emod];exact h2
     omega
   ·refine⟨([],6),.done ?_,.done ?_,λ_=>rfl,λh=>absurd (Q.symm.trans h) U⟩
    ·show kfu _ _ _ _ _ _ _=_;unfold kfu;rw[kbu,condF (by rfl),kh5,qbr,c1,condT (by rw[qcf,qbt,cmp_eq];exact U)]
    ·show kht _ _ _ _ _ _ _=_;unfold kht;rw[kbu,condF (by rfl),kh5,qbr,c2,condT (by rw[qcf,qbt,cmp_eq];exact U)]
  ·have y:0<Y:=by omega
   have E':=E.next y C;have am:=E'.vb y;have hm:=Nat.mod_lt X y;have I:digs B Y≠[]:=λh=>h0 ((kcr B2).1 h);have ag:(digs B Y).length≠0:=by simpa using I
   obtain⟨r,aa,ac,ad⟩:=ih (X%Y) hm Y (-e) v (u+X/Y*v) hY (by omega) y E'
   have dv:divN (digs B X) (digs B Y)=(digs B (X/Y),digs B (X%Y),0):=by unfold divN;rw[if_pos ⟨kn K,kn hY⟩,if_neg I,kg B2,kg B2]
   have hq:X/Y<B^64:=qbq (Nat.div_le_self _ _) K;have fq:fromI false (digs B (X/Y))=intD ((X/Y:Nat):Int):=by rw[kcs hq];rfl
   have ae:(((X/Y:Nat):Int)).natAbs<B^64:=by rw[Int.natAbs_natCast];exact hq
   have hp:(((X/Y:Nat):Int)*-(e*(v:Int))).natAbs=X/Y*v:=by rw[Int.natAbs_mul,hv,Int.natAbs_natCast]
   have mul:=kly ae (show(-(e*(v:Int))).natAbs<B^64 by omega);rw[if_pos (by rw[hp];omega)]at mul
   have es:e*(u:Int)-((X/Y:Nat):Int)*-(e*(v:Int))=-(-e*((u+X/Y*v:Nat):Int)):=by generalize X/Y=q;rw[Int.natCast_add,Int.natCast_mul,Int.neg_mul,Int.neg_neg,Int.mul_add,Int.mul_neg,Int.mul_left_comm e];omega
   have af:(-(-e*((u+X/Y*v:Nat):Int))).natAbs=u+X/Y*v:=by rw[Int.natAbs_neg,Int.natAbs_mul,Int.natAbs_neg,V,Nat.one_mul,Int.natAbs_natCast]
   have sub:=kn6 (u:=e*(u:Int)) (v:=((X/Y:Nat):Int)*-(e*(v:Int))) (by omega) (by rw[hp];omega);rw[es,if_pos (by rw[af];omega)]at sub;have et:-(e*(v:Int))=-e*(v:Int):=by rw[Int.neg_mul]
   refine⟨r,.next ?_ aa,.next ?_ ac,?_⟩
   ·show kfu _ _ _ _ _ _ _=_;unfold kfu;rw[condT (by rw[qbu];omega),dv];dsimp only;rw[fq,mul];dsimp only;rw[sub,<- et]
   ·show kht _ _ _ _ _ _ _=_;unfold kht;rw[condT (by rw[qbu];omega),dv];dsimp only;rw[fq,mul];dsimp only;rw[sub,<- et]
   ·have Q:Nat.gcd X Y=Nat.gcd Y (X%Y):=by rw[Nat.gcd_comm X Y,Nat.gcd_rec,Nat.gcd_comm]
    unfold InvAns;rw[Q];exact ad
def kxn(xs ys:List Nat)(r:List Nat×Int):Prop:=(rt xs=true/\rt ys=true/\2<=num B ys->InvAns (num B ys) (num B xs) (num B ys) (num B xs%num B ys) r)/\(¬(rt xs=true/\rt ys=true/\2<=num B ys)->r=([],1))
theorem k9c{ys:List Nat}(C:∀y∈ys,y<B)(t:Trim ys):ys=digs B (num B ys):=(kdd B2 C t).symm
theorem kv9{xs ys:List Nat}(lx:∀x∈xs,x<B)(ly:∀y∈ys,y<B):∃r,Iter kp1 (.fn xs ys) r/\Iter kud (.fn xs ys) r/\kxn xs ys r:=by
 cases F:rt xs with
 | false =>
  refine⟨([],1),.done ?_,.done ?_,λh=>absurd h.1 (by simp[F]),λ_=>rfl⟩
  ·show kec _ _=_;unfold kec;rw[F];rfl
  ·show kgj _ _=_;unfold kgj;rw[F];rfl
 | true =>
  cases H:rt ys with
  | false =>
   refine⟨([],1),.done ?_,.done ?_,λh=>absurd h.2.1 (by simp[H]),λ_=>rfl⟩
   ·show kec _ _=_;unfold kec;rw[F,H];rfl
   ·show kgj _ _=_;unfold kgj;rw[F,H];rfl
  | true =>
   obtain⟨aa,ty⟩:=rt_iff.1 H;obtain⟨n,K⟩:∃n,n=num B ys:=⟨_,rfl⟩;have I:ys=digs B n:=by rw[K];exact k9c ly ty
   have C:n<B^64:=by rw[K];exact knl ly H
   have ac:=kfa;have c1:cmpN ys [1]=cmp n 1:=by rw[I,<- kkj];exact kot C (by omega)
   have c2:cmpN ys (digs B 2)=cmp n 2:=by rw[I];exact kot C (by omega)
   have p2:u64P 2=some 2:=kbm (n:=2) (by decide);by_cases V:2<=n
   ·have W:ys≠[]:=by
     rintro rfl
     simp[num]at K;omega
    have hm:=Nat.mod_lt (num B xs) (show 0<n by omega)
    have E0:Eu n (num B xs) n (num B xs%n) (-1) 0 1:=by
     refine⟨.inr rfl,by omega,by omega,?_,?_⟩
     ·rw[Int.natCast_zero,Int.mul_zero,Int.zero_mul,Int.zero_sub];exact Int.dvd_neg.2 (Int.dvd_refl _)
     ·rw[Int.natCast_one,Int.mul_one,Int.neg_neg,Int.one_mul];have:=Nat.div_add_mod (num B xs) n;refine⟨((num B xs/n:Nat):Int),?_⟩;rw[<- Int.natCast_mul];omega
    obtain⟨r,Q,U,Z⟩:=kbil C V (num B xs%n) n (-1) 0 1 C (by omega) (by omega) E0;have dv:(divN xs ys).2.1=digs B (num B xs%n):=by rw[kr2 F H W,K]
    have e0:intD (-1*((0:Nat):Int))=(false,[]):=kbkl;have e1:intD (-(-1*((1:Nat):Int)))=ofI 1:=by rw[ksy (by decide)];rfl
    rw[e0,e1]at Q U;refine⟨r,.next ?_ Q,.next ?_ U,λ_=>by rw[<- K];exact Z,λh=>absurd ⟨F,H,K▸V⟩ h⟩
    ·show kec _ _=_;unfold kec;rw[F,H,condF (by rfl),condF (by rfl),kh5,qbr,c1,condF (by rw[qbt,cmp_le];omega),ky (by decide),qbr,dv,<- I]
    ·show kgj _ _=_;unfold kgj;rw[F,H,condF (by rfl),condF (by rfl),p2,qbr,c2,condF (by rw[qbt,cmp_lt];omega),ky (by omega),qbr,ky (by decide),qbr,dv,<- I]
   ·refine⟨([],1),.done ?_,.done ?_,λh=>absurd (K▸h.2.2) V,λ_=>rfl⟩
    ·show kec _ _=_;unfold kec;rw[F,H,condF (by rfl),condF (by rfl),kh5,qbr,c1,condT (by rw[qbu,cmp_le];omega)]
    ·show kgj _ _=_;unfold kgj;rw[F,H,condF (by rfl),condF (by rfl),p2,qbr,c2,condT (by rw[qbu,cmp_lt];omega)]
noncomputable def invN(xs ys:List Nat):List Nat×Int:=by
 classical
 exact if h:(∀x∈xs,x<B)/\(∀y∈ys,y<B)then(kv9 h.1 h.2).choose else([],0)
theorem kvo{xs ys:List Nat}(C:∀x∈xs,x<B)(F:∀y∈ys,y<B):Iter kp1 (.fn xs ys) (invN xs ys)/\Iter kud (.fn xs ys) (invN xs ys)/\kxn xs ys (invN xs ys):=by unfold invN;rw[dif_pos ⟨C,F⟩];exact(kv9 C F).choose_spec
theorem k2n{h:AH}{s t:Sl}{xs ys:List Nat}(n:Nats h s xs)(m:Nats h t ys):Runs (go (.fn kga [s.v,t.v]) h) (kt0 h (invN xs ys)):=kbhi (kvo n.lt m.lt).1 n m
def atL(y:List (List Nat))(i:Int):Option (List Nat):=if 0<=i then y[i.toNat]? else none
def kei(x1:List Nat):Bool:=cond (!(rt x1)) (true) (decide ((List.length x1:Int)>8))
theorem kod{h:AH}{a1:Sl}{x1:List Nat}(n1:Nats h a1 x1)  : Runs (go (.fn kji [a1.v]) h) λv h'=>v=.bool (kei x1)/\Grow h h':=by
 rw[kbiy];rw[n1.len];refine qw (kbt n1) (qw (seen rfl) ?_);refine qba (λy=>?_) (λy=>?_)
 ·have z:kei x1=true:=by unfold kei;exact(condT y).trans rfl
  rw[z];exact qu ⟨rfl,(qk _)⟩
 ·have z:kei x1=decide ((List.length x1:Int)>8):=by unfold kei;exact(condF y).trans rfl
  rw[z];exact qu ⟨rfl,(qk _)⟩
def kiu(x1:List Nat):Bool:=decide ((cmpN x1 [1])<=0)
theorem k1u{h:AH}{a1:Sl}{x1:List Nat}(n1:Nats h a1 x1)  : Runs (go (.fn knm [a1.v]) h) λv h'=>v=.bool (kiu x1)/\Grow h h':=by
 rw[kben];refine qx λF b2 y=>?_;obtain⟨H,e3,C⟩:=kco (n1.grow y) (Nats.of_has (xs:=[1]) b2 (by decide) (by decide));refine qw e3 (qw (seen qcl) ?_);have z:kiu x1=decide ((cmpN x1 [1])<=0):=by unfold kiu;exact rfl
 rw[z];exact qu ⟨rfl,(y.trans C)⟩
inductive kkc
 | fn (x1:List Nat) (x2:List Nat) (x3:List Nat) (x4:List Nat)
 | no
abbrev kh2:=List Nat×Int
noncomputable def kf9(x1 x2 x3 x4:List Nat):Option (kkc⊕kh2):=cond (((kei x1))) (some (.inr ([],1))) (cond (((kei x3))) (some (.inr ([],1))) (cond (((kei x2))) (some (.inr ([],1))) (cond (((kei x4))) (some (.inr ([],1))) (cond (((kiu x2))) (some (.inr ([],1))) (cond (((kiu x4))) (some (.inr ([],1))) (cond (decide ((cmpN x1 x2)>=0)) (some (.inr ([],1))) (cond (decide ((cmpN x3 x4)>=0)) (some (.inr ([],1))) (cond (!decide (((invN x2 x4).2)=0)) (some (.inr ([],((invN x2 x4).2)))) (some (.inr ((addN ((mulN x2 ((floorI (((kv (((kba ((fromI false x3).1) ((fromI false x3).2) ((fromI false x1).1) ((fromI false x1).2)).1)) ((kba ((fromI false x3).1) ((fromI false x3).2) ((fromI false x1).1) ((fromI false x1).2)).2.1) ((fromI false ((invN x2 x4).1)).1) ((fromI false ((invN x2 x4).1)).2)).1)) ((kv (((kba ((fromI false x3).1) ((fromI false x3).2) ((fromI false x1).1) ((fromI false x1).2)).1)) ((kba ((fromI false x3).1) ((fromI false x3).2) ((fromI false x1).1) ((fromI false x1).2)).2.1) ((fromI false ((invN x2 x4).1)).1) ((fromI false ((invN x2 x4).1)).2)).2.1) ((fromI false x4).1) ((fromI false x4).2)).2.2.2.1)).1) x1).1,((addN ((mulN x2 ((floorI (((kv (((kba ((fromI false x3).1) ((fromI false x3).2) ((fromI false x1).1) ((fromI false x1).2)).1)) ((kba ((fromI false x3).1) ((fromI false x3).2) ((fromI false x1).1) ((fromI false x1).2)).2.1) ((fromI false ((invN x2 x4).1)).1) ((fromI false ((invN x2 x4).1)).2)).1)) ((kv (((kba ((fromI false x3).1) ((fromI false x3).2) ((fromI false x1).1) ((fromI false x1).2)).1)) ((kba ((fromI false x3).1) ((fromI false x3).2) ((fromI false x1).1) ((fromI false x1).2)).2.1) ((fromI false ((invN x2 x4).1)).1) ((fromI false ((invN x2 x4).1)).2)).2.1) ((fromI false x4).1) ((fromI false x4).2)).2.2.2.1)).1) x1).2))))))))))))
noncomputable def kqk:kkc->Option (kkc⊕kh2)
 | .fn x1 x2 x3 x4=>kf9 x1 x2 x3 x4
 | .no=>none
@[reducible] def kwg(h0:AH)(r:kh2)(v:AV)(h':AH):Prop:=∃s1:Sl,v=.tup [s1.v,.i r.2]/\Nats h' s1 r.1/\Grow h0 h'/\Own h0 s1
def ktd(r:kh2):kkc->Prop
 | .fn x1 x2 x3 x4=>∀{h:AH}{a1:Sl}{a2:Sl}{a3:Sl}{a4:Sl},Nats h a1 x1->Nats h a2 x2->Nats h a3 x3->Nats h a4 x4->Runs (go (.fn kpj [a1.v,a2.v,a3.v,a4.v]) h) (kwg h r)
 | .no=>True
theorem kbfs{r:kh2}{o:kkc⊕kh2}{x1 x2 x3 x4:List Nat}(e:kf9 x1 x2 x3 x4=some o)(ah:GoodS (ktd r) r o):ktd r (.fn x1 x2 x3 x4):=by
 intro h a1 a2 a3 a4 n1 n2 n3 n4;rw[kbij];unfold kf9 at e;obtain⟨_,H5,e5,rfl,W⟩:=kod n1;refine qw e5 (qw (seen rfl) ?_);refine qba (λk6=>?_) (λk6=>?_)
 ·replace e:=(condT k6).symm.trans e;cases e;cases ah;exact qu ⟨(⟨none,0,.is 0⟩:Sl),rfl,(qq _),W,(qp _)⟩
 ·replace e:=(condF k6).symm.trans e;obtain⟨_,H7,e7,rfl,Z⟩:=kod (n3.grow W);refine qw e7 (qw (seen rfl) ?_);refine qba (λk8=>?_) (λk8=>?_)
  ·replace e:=(condT k8).symm.trans e;cases e;cases ah;exact qu ⟨(⟨none,0,.is 0⟩:Sl),rfl,(qq _),(W.trans Z),(qp _)⟩
  ·replace e:=(condF k8).symm.trans e;obtain⟨_,H9,e9,rfl,g9⟩:=kod (n2.grow (W.trans Z));refine qw e9 (qw (seen rfl) ?_);refine qba (λbb=>?_) (λbb=>?_)
   ·replace e:=(condT bb).symm.trans e;cases e;cases ah;exact qu ⟨(⟨none,0,.is 0⟩:Sl),rfl,(qq _),((W.trans Z).trans g9),(qp _)⟩
   ·replace e:=(condF bb).symm.trans e;obtain⟨_,c1,bx,rfl,y⟩:=kod (n4.grow ((W.trans Z).trans g9));refine qw bx (qw (seen rfl) ?_);refine qba (λbc=>?_) (λbc=>?_)
    ·replace e:=(condT bc).symm.trans e;cases e;cases ah;exact qu ⟨(⟨none,0,.is 0⟩:Sl),rfl,(qq _),(((W.trans Z).trans g9).trans y),(qp _)⟩
    ·replace e:=(condF bc).symm.trans e;obtain⟨_,c2,bz,rfl,C⟩:=k1u (n2.grow (((W.trans Z).trans g9).trans y));refine qw bz (qw (seen rfl) ?_);refine qba (λbd=>?_) (λbd=>?_)
     ·replace e:=(condT bd).symm.trans e;cases e;cases ah;exact qu ⟨(⟨none,0,.is 0⟩:Sl),rfl,(qq _),((((W.trans Z).trans g9).trans y).trans C),(qp _)⟩
     ·replace e:=(condF bd).symm.trans e;obtain⟨_,c3,b0,rfl,F⟩:=k1u (n4.grow ((((W.trans Z).trans g9).trans y).trans C));refine qw b0 (qw (seen rfl) ?_);refine qba (λbe=>?_) (λbe=>?_)
      ·replace e:=(condT be).symm.trans e;cases e;cases ah;exact qu ⟨(⟨none,0,.is 0⟩:Sl),rfl,(qq _),(((((W.trans Z).trans g9).trans y).trans C).trans F),(qp _)⟩
      ·replace e:=(condF be).symm.trans e;obtain⟨c4,b5,H⟩:=kco (n1.grow (((((W.trans Z).trans g9).trans y).trans C).trans F)) (n2.grow (((((W.trans Z).trans g9).trans y).trans C).trans F));refine qw b5 (qw (seen qcl) ?_);refine qba (λbf=>?_) (λbf=>?_)
       ·replace e:=(condT bf).symm.trans e;cases e;cases ah;exact qu ⟨(⟨none,0,.is 0⟩:Sl),rfl,(qq _),((((((W.trans Z).trans g9).trans y).trans C).trans F).trans H),(qp _)⟩
       ·replace e:=(condF bf).symm.trans e;obtain⟨c5,b6,I⟩:=kco (n3.grow ((((((W.trans Z).trans g9).trans y).trans C).trans F).trans H)) (n4.grow ((((((W.trans Z).trans g9).trans y).trans C).trans F).trans H));refine qw b6 (qw (seen qcl) ?_);refine qba (λbg=>?_) (λbg=>?_)
        ·replace e:=(condT bg).symm.trans e;cases e;cases ah;exact qu ⟨(⟨none,0,.is 0⟩:Sl),rfl,(qq _),(((((((W.trans Z).trans g9).trans y).trans C).trans F).trans H).trans I),(qp _)⟩
        ·replace e:=(condF bg).symm.trans e;obtain⟨_,c6,b7,c7,rfl,b8,K,c8⟩:=k2n (n2.grow (((((((W.trans Z).trans g9).trans y).trans C).trans F).trans H).trans I)) (n4.grow (((((((W.trans Z).trans g9).trans y).trans C).trans F).trans H).trans I));refine qw b7 (qw rfl (qw (seen qck) (qw (seen qcl) ?_)));refine qba (λbh=>?_) (λbh=>?_)
         ·replace e:=(condT bh).symm.trans e;cases e;cases ah;exact qu ⟨(⟨none,0,.is 0⟩:Sl),rfl,(qq _),((((((((W.trans Z).trans g9).trans y).trans C).trans F).trans H).trans I).trans K),(qp _)⟩
         ·replace e:=(condF bh).symm.trans e;obtain⟨c9,da,b9,ca,Q,db⟩:=kbx (n3.grow ((((((((W.trans Z).trans g9).trans y).trans C).trans F).trans H).trans I).trans K)) false;refine qw b9 (qw rfl ?_);refine qz rfl ?_;refine qw (seenAt rfl rfl) (qw (seenAt rfl qck) ?_);obtain⟨dc,dd,cb,cc,U,de⟩:=kbx (n1.grow (((((((((W.trans Z).trans g9).trans y).trans C).trans F).trans H).trans I).trans K).trans Q)) false;refine qw cb (qw rfl ?_);refine qz rfl ?_;refine qw (seenAt rfl rfl) (qw (seenAt rfl qck) ?_);obtain⟨_,df,cd,dg,rfl,ce,V,dh⟩:=kn7 (ca.grow U) cc ((fromI false x3).1) ((fromI false x1).1);refine qw cd (qw rfl (qw rfl ?_));refine qz rfl ?_;refine qw (seenAt rfl rfl) (qw (seenAt rfl qck) (qw (seen qcl) ?_));refine qx λdi cf aa=>?_;refine qy cf rfl λdj bi ac=>?_;refine qx λdk ar ae=>?_;refine qw (qbc (ae.has bi) 0 rfl rfl) (qw (qbc (ae.has bi) 1 rfl qck) ?_);obtain⟨dl,dm,ch,bm,ad,ci⟩:=kbx (b8.grow (((((Q.trans U).trans V).trans aa).updr (qbo (((Q.trans U).trans V)).size (qbn _)) ac).trans ae)) false;refine qw ch (qw rfl ?_);refine qz rfl ?_;refine qw (seenAt rfl rfl) (qw (seenAt rfl qck) ?_);refine qbb (ad.same (ae.has bi) 0 2) ?_;refine qbb (ad.same ar 0 0) ?_;obtain⟨_,dn,cj,dp,rfl,ck,af,cl⟩:=kmq (ce.grow (((aa.updr (qbn _) ac).trans ae).trans ad)) bm (((kba ((fromI false x3).1) ((fromI false x3).2) ((fromI false x1).1) ((fromI false x1).2)).1)) ((fromI false ((invN x2 x4).1)).1);refine qw cj (qw rfl (qw rfl ?_));refine qz rfl ?_;refine qw (seenAt rfl rfl) (qw (seenAt rfl qck) (qw (seen qcl) ?_));refine qbb (af.same (ad.has ar) 0 0) ?_;refine qy ((ad.trans af).has ar) rfl λdq bj ai=>?_;have bt:=(bm.grow af).upda (qbh ci (ar).lt) ai;have ax:=ck.upda (qbh cl (ad.has ar).lt) ai;refine qx λdr am ak=>?_;refine qx λdt aq aj=>?_;refine qw (qbc ((ak.trans aj).has bj) 0 rfl rfl) (qw (qbc ((ak.trans aj).has bj) 1 rfl qck) ?_);obtain⟨du,dv,cm,bn,ag,bp⟩:=kbx (n4.grow (((((((((((((((((((W.trans Z).trans g9).trans y).trans C).trans F).trans H).trans I).trans K).trans Q).trans U).trans V).trans aa).updr (qbo ((((((((((((W.trans Z).trans g9).trans y).trans C).trans F).trans H).trans I).trans K).trans Q).trans U).trans V)).size (qbn _)) ac).trans ae).trans ad).trans af).updr (qbo ((((((((((((((W.trans Z).trans g9).trans y).trans C).trans F).trans H).trans I).trans K).trans Q).trans U).trans V).trans aa).updr (qbo ((((((((((((W.trans Z).trans g9).trans y).trans C).trans F).trans H).trans I).trans K).trans Q).trans U).trans V)).size (qbn _)) ac)).size (qbn _)) ai).trans ak).trans aj)) false;refine qw cm (qw rfl ?_);refine qz rfl ?_;refine qw (seenAt rfl rfl) (qw (seenAt rfl qck) ?_);refine qbb (ag.same ((ak.trans aj).has bj) 0 2) ?_;refine qbb (ag.same aq 0 0) ?_;refine qbb (ag.same (aj.has am) 0 0) ?_;obtain⟨_,dw,cn,dx,c0,rfl,cp,bq,al,br,ba⟩:=kvh (ax.grow ((ak.trans aj).trans ag)) bn (((kv (((kba ((fromI false x3).1) ((fromI false x3).2) ((fromI false x1).1) ((fromI false x1).2)).1)) ((kba ((fromI false x3).1) ((fromI false x3).2) ((fromI false x1).1) ((fromI false x1).2)).2.1) ((fromI false ((invN x2 x4).1)).1) ((fromI false ((invN x2 x4).1)).2)).1)) ((fromI false x4).1);refine qw cn (qw rfl (qw rfl ?_));refine qz rfl ?_;refine qw (seenAt rfl rfl) (qw (seenAt rfl qck) (qw rfl ?_));refine qz rfl ?_;refine qw (seenAt rfl rfl) (qw (seenAt rfl qck) (qw (seen qcl) ?_));refine qbb (al.same (ag.has aq) 0 0) ?_;refine qbb (al.same ((aj.trans ag).has am) 0 0) ?_;refine qy (((aj.trans ag).trans al).has am) rfl λdy cq an=>?_;have ay:=(bn.grow al).upda (qbh bp (aj.has am).lt) an;have az:=cp.upda (qbh br ((aj.trans ag).has am).lt) an;have au:=bq.upda (qbh ba ((aj.trans ag).has am).lt) an;have a0:=qr ((ag.trans al).has aq) (Nat.ne_of_gt (qbp (am).lt (qbn _))) an;refine qy a0 rfl λdz cr ap=>?_;have bu:=ay.upda (qbh bp (aq).lt) ap;have bv:=az.upda (qbh br (ag.has aq).lt) ap;have aw:=au.upda (qbh ba (ag.has aq).lt) ap;have bw:=qr cq (Nat.ne_of_lt (qbp (am).lt (qbn _))) ap;refine qw (qbc cr 1 rfl qck) ?_;obtain⟨d0,d1,ct,cu,bk,d2⟩:=kd7 (n2.grow (((((((((((((((((((((((W.trans Z).trans g9).trans y).trans C).trans F).trans H).trans I).trans K).trans Q).trans U).trans V).trans aa).updr (qbo ((((((((((((W.trans Z).trans g9).trans y).trans C).trans F).trans H).trans I).trans K).trans Q).trans U).trans V)).size (qbn _)) ac).trans ae).trans ad).trans af).updr (qbo ((((((((((((((W.trans Z).trans g9).trans y).trans C).trans F).trans H).trans I).trans K).trans Q).trans U).trans V).trans aa).updr (qbo ((((((((((((W.trans Z).trans g9).trans y).trans C).trans F).trans H).trans I).trans K).trans Q).trans U).trans V)).size (qbn _)) ac)).size (qbn _)) ai).trans ak).trans aj).trans ag).trans al).updr (qbo ((((((((((((((((((W.trans Z).trans g9).trans y).trans C).trans F).trans H).trans I).trans K).trans Q).trans U).trans V).trans aa).updr (qbo ((((((((((((W.trans Z).trans g9).trans y).trans C).trans F).trans H).trans I).trans K).trans Q).trans U).trans V)).size (qbn _)) ac).trans ae).trans ad).trans af).updr (qbo ((((((((((((((W.trans Z).trans g9).trans y).trans C).trans F).trans H).trans I).trans K).trans Q).trans U).trans V).trans aa).updr (qbo ((((((((((((W.trans Z).trans g9).trans y).trans C).trans F).trans H).trans I).trans K).trans Q).trans U).trans V)).size (qbn _)) ac)).size (qbn _)) ai)).size (qbn _)) an).updr (qbo (((((((((((((((((((W.trans Z).trans g9).trans y).trans C).trans F).trans H).trans I).trans K).trans Q).trans U).trans V).trans aa).updr (qbo ((((((((((((W.trans Z).trans g9).trans y).trans C).trans F).trans H).trans I).trans K).trans Q).trans U).trans V)).size (qbn _)) ac).trans ae).trans ad).trans af).updr (qbo ((((((((((((((W.trans Z).trans g9).trans y).trans C).trans F).trans H).trans I).trans K).trans Q).trans U).trans V).trans aa).updr (qbo ((((((((((((W.trans Z).trans g9).trans y).trans C).trans F).trans H).trans I).trans K).trans Q).trans U).trans V)).size (qbn _)) ac)).size (qbn _)) ai).trans ak)).size (qbn _)) ap)) aw;refine qw ct (qw rfl (qw (seen qck) (qw (seen qcl) ?_)));obtain⟨cv,d3,cw,cx,cy,cz⟩:=kkr cu (n1.grow ((((((((((((((((((((((((W.trans Z).trans g9).trans y).trans C).trans F).trans H).trans I).trans K).trans Q).trans U).trans V).trans aa).updr (qbo ((((((((((((W.trans Z).trans g9).trans y).trans C).trans F).trans H).trans I).trans K).trans Q).trans U).trans V)).size (qbn _)) ac).trans ae).trans ad).trans af).updr (qbo ((((((((((((((W.trans Z).trans g9).trans y).trans C).trans F).trans H).trans I).trans K).trans Q).trans U).trans V).trans aa).updr (qbo ((((((((((((W.trans Z).trans g9).trans y).trans C).trans F).trans H).trans I).trans K).trans Q).trans U).trans V)).size (qbn _)) ac)).size (qbn _)) ai).trans ak).trans aj).trans ag).trans al).updr (qbo ((((((((((((((((((W.trans Z).trans g9).trans y).trans C).trans F).trans H).trans I).trans K).trans Q).trans U).trans V).trans aa).updr (qbo ((((((((((((W.trans Z).trans g9).trans y).trans C).trans F).trans H).trans I).trans K).trans Q).trans U).trans V)).size (qbn _)) ac).trans ae).trans ad).trans af).updr (qbo ((((((((((((((W.trans Z).trans g9).trans y).trans C).trans F).trans H).trans I).trans K).trans Q).trans U).trans V).trans aa).updr (qbo ((((((((((((W.trans Z).trans g9).trans y).trans C).trans F).trans H).trans I).trans K).trans Q).trans U).trans V)).size (qbn _)) ac)).size (qbn _)) ai)).size (qbn _)) an).updr (qbo (((((((((((((((((((W.trans Z).trans g9).trans y).trans C).trans F).trans H).trans I).trans K).trans Q).trans U).trans V).trans aa).updr (qbo ((((((((((((W.trans Z).trans g9).trans y).trans C).trans F).trans H).trans I).trans K).trans Q).trans U).trans V)).size (qbn _)) ac).trans ae).trans ad).trans af).updr (qbo ((((((((((((((W.trans Z).trans g9).trans y).trans C).trans F).trans H).trans I).trans K).trans Q).trans U).trans V).trans aa).updr (qbo ((((((((((((W.trans Z).trans g9).trans y).trans C).trans F).trans H).trans I).trans K).trans Q).trans U).trans V)).size (qbn _)) ac)).size (qbn _)) ai).trans ak)).size (qbn _)) ap).trans bk));refine qw cw (qw rfl (qw (seen qck) (qw (seen qcl) ?_)));cases e;cases ah;exact qu ⟨cv,rfl,cx,(((((((((((((((((((((((((W.trans Z).trans g9).trans y).trans C).trans F).trans H).trans I).trans K).trans Q).trans U).trans V).trans aa).updr (qbo ((((((((((((W.trans Z).trans g9).trans y).trans C).trans F).trans H).trans I).trans K).trans Q).trans U).trans V)).size (qbn _)) ac).trans ae).trans ad).trans af).updr (qbo ((((((((((((((W.trans Z).trans g9).trans y).trans C).trans F).trans H).trans I).trans K).trans Q).trans U).trans V).trans aa).updr (qbo ((((((((((((W.trans Z).trans g9).trans y).trans C).trans F).trans H).trans I).trans K).trans Q).trans U).trans V)).size (qbn _)) ac)).size (qbn _)) ai).trans ak).trans aj).trans ag).trans al).updr (qbo ((((((((((((((((((W.trans Z).trans g9).trans y).trans C).trans F).trans H).trans I).trans K).trans Q).trans U).trans V).trans aa).updr (qbo ((((((((((((W.trans Z).trans g9).trans y).trans C).trans F).trans H).trans I).trans K).trans Q).trans U).trans V)).size (qbn _)) ac).trans ae).trans ad).trans af).updr (qbo ((((((((((((((W.trans Z).trans g9).trans y).trans C).trans F).trans H).trans I).trans K).trans Q).trans U).trans V).trans aa).updr (qbo ((((((((((((W.trans Z).trans g9).trans y).trans C).trans F).trans H).trans I).trans K).trans Q).trans U).trans V)).size (qbn _)) ac)).size (qbn _)) ai)).size (qbn _)) an).updr (qbo (((((((((((((((((((W.trans Z).trans g9).trans y).trans C).trans F).trans H).trans I).trans K).trans Q).trans U).trans V).trans aa).updr (qbo ((((((((((((W.trans Z).trans g9).trans y).trans C).trans F).trans H).trans I).trans K).trans Q).trans U).trans V)).size (qbn _)) ac).trans ae).trans ad).trans af).updr (qbo ((((((((((((((W.trans Z).trans g9).trans y).trans C).trans F).trans H).trans I).trans K).trans Q).trans U).trans V).trans aa).updr (qbo ((((((((((((W.trans Z).trans g9).trans y).trans C).trans F).trans H).trans I).trans K).trans Q).trans U).trans V)).size (qbn _)) ac)).size (qbn _)) ai).trans ak)).size (qbn _)) ap).trans bk).trans cy),(cz.of_le ((((((((((((((((((((((((W.trans Z).trans g9).trans y).trans C).trans F).trans H).trans I).trans K).trans Q).trans U).trans V).trans aa).updr (qbo ((((((((((((W.trans Z).trans g9).trans y).trans C).trans F).trans H).trans I).trans K).trans Q).trans U).trans V)).size (qbn _)) ac).trans ae).trans ad).trans af).updr (qbo ((((((((((((((W.trans Z).trans g9).trans y).trans C).trans F).trans H).trans I).trans K).trans Q).trans U).trans V).trans aa).updr (qbo ((((((((((((W.trans Z).trans g9).trans y).trans C).trans F).trans H).trans I).trans K).trans Q).trans U).trans V)).size (qbn _)) ac)).size (qbn _)) ai).trans ak).trans aj).trans ag).trans al).updr (qbo ((((((((((((((((((W.trans Z).trans g9).trans y).trans C).trans F).trans H).trans I).trans K).trans Q).trans U).trans V).trans aa).updr (qbo ((((((((((((W.trans Z).trans g9).trans y).trans C).trans F).trans H).trans I).trans K).trans Q).trans U).trans V)).size (qbn _)) ac).trans ae).trans ad).trans af).updr (qbo ((((((((((((((W.trans Z).trans g9).trans y).trans C).trans F).trans H).trans I).trans K).trans Q).trans U).trans V).trans aa).updr (qbo ((((((((((((W.trans Z).trans g9).trans y).trans C).trans F).trans H).trans I).trans K).trans Q).trans U).trans V)).size (qbn _)) ac)).size (qbn _)) ai)).size (qbn _)) an).updr (qbo (((((((((((((((((((W.trans Z).trans g9).trans y).trans C).trans F).trans H).trans I).trans K).trans Q).trans U).trans V).trans aa).updr (qbo ((((((((((((W.trans Z).trans g9).trans y).trans C).trans F).trans H).trans I).trans K).trans Q).trans U).trans V)).size (qbn _)) ac).trans ae).trans ad).trans af).updr (qbo ((((((((((((((W.trans Z).trans g9).trans y).trans C).trans F).trans H).trans I).trans K).trans Q).trans U).trans V).trans aa).updr (qbo ((((((((((((W.trans Z).trans g9).trans y).trans C).trans F).trans H).trans I).trans K).trans Q).trans U).trans V)).size (qbn _)) ac)).size (qbn _)) ai).trans ak)).size (qbn _)) ap).trans bk))⟩
theorem kbk5{s:kkc}{r:kh2}(C:Iter kqk s r):ktd r s:=qbe (λs o e y=>by
 cases s with
 | fn x1 x2 x3 x4=>exact @kbfs _ _ x1 x2 x3 x4 e y
 | no=>exact True.intro
 ) C
inductive kp2
 | fn (x1:List Nat) (x2:List Nat) (x3:List Nat) (x4:List Nat)
 | p3 (x1:List Nat) (x2:List Nat) (x3:List Nat) (x4:List Nat) (x5:List (List Nat)) (a6:Int)
abbrev klw:=List Nat×Int
noncomputable def kbdz(x1 x2 x3 x4:List Nat):Option (kp2⊕klw):=some (.inl (.p3 x1 x2 x3 x4 [x1,x2,x3,x4] 0))
noncomputable def kis(x1 x2 x3 x4:List Nat)(x5:List (List Nat))(a6:Int):Option (kp2⊕klw):=cond (decide (a6<4)) ((atL x5 a6).bind λF=>cond (!(rt F)) (some (.inr ([],1))) ((atL x5 a6).bind λy=>cond (decide ((List.length y:Int)>8)) (some (.inr ([],1))) (some (.inl (.p3 x1 x2 x3 x4 x5 (IntKind.wrap .i64 (a6+1))))))) ((u64P 2).bind λC=>cond (decide ((cmpN x2 (digs B C))<0)) (some (.inr ([],1))) (cond (decide ((cmpN x4 (digs B C))<0)) (some (.inr ([],1))) (cond (decide ((cmpN x1 x2)>=0)) (some (.inr ([],1))) (cond (decide ((cmpN x3 x4)>=0)) (some (.inr ([],1))) (cond (!decide (((invN x2 x4).2)=0)) (some (.inr ([],((invN x2 x4).2)))) (some (.inr ((addN x1 ((mulN x2 ((floorI (((kv (((kba ((fromI false x3).1) ((fromI false x3).2) ((fromI false x1).1) ((fromI false x1).2)).1)) ((kba ((fromI false x3).1) ((fromI false x3).2) ((fromI false x1).1) ((fromI false x1).2)).2.1) ((fromI false ((invN x2 x4).1)).1) ((fromI false ((invN x2 x4).1)).2)).1)) ((kv (((kba ((fromI false x3).1) ((fromI false x3).2) ((fromI false x1).1) ((fromI false x1).2)).1)) ((kba ((fromI false x3).1) ((fromI false x3).2) ((fromI false x1).1) ((fromI false x1).2)).2.1) ((fromI false ((invN x2 x4).1)).1) ((fromI false ((invN x2 x4).1)).2)).2.1) ((fromI false x4).1) ((fromI false x4).2)).2.2.2.1)).1)).1,0))))))))
noncomputable def kkl:kp2->Option (kp2⊕klw)
 | .fn x1 x2 x3 x4=>kbdz x1 x2 x3 x4
 | .p3 x1 x2 x3 x4 x5 a6=>kis x1 x2 x3 x4 x5 a6
def CrtOk(x1 x2 x3 x4:List Nat):Prop:=(rt x1=true/\x1.length<=8)/\(rt x2=true/\x2.length<=8)/\(rt x3=true/\x3.length<=8)/\(rt x4=true/\x4.length<=8)/\2<=num B x2/\2<=num B x4/\num B x1<num B x2/\num B x3<num B x4
def kz5(x1 x2 x3 x4:List Nat)(r:List Nat×Int):Prop :=
 (r.2≠0->r.1=[])/\
 (CrtOk x1 x2 x3 x4->Nat.gcd (num B x4) (num B x2%num B x4)=1->r.2=0)/\
 (r.2=0->∃X,r=(digs B X,0)/\CrtOk x1 x2 x3 x4/\X<num B x2*num B x4/\X%num B x2=num B x1/\X%num B x4=num B x3)
theorem kbg3{a b m n w k:Nat}(y:w*m%n=1)(H:b<n)(hk:((b:Int)-(a:Int))*(w:Int)%(n:Int)=(k:Int)):(a+m*k)%n=b:=by
 have I:(n:Int)≠0:=by omega
 have C:((w:Int)*(m:Int))%(n:Int)=1:=by rw[<- Int.natCast_mul,<- Int.natCast_emod,y];rfl
 have F:((m:Int)*(k:Int))%(n:Int)=((b:Int)-(a:Int))%(n:Int):=by
  rw[<- hk,Int.mul_emod,Int.emod_emod_of_dvd _ (Int.dvd_refl _),<- Int.mul_emod]
  have:(m:Int)*(((b:Int)-(a:Int))*(w:Int))=((b:Int)-(a:Int))*((w:Int)*(m:Int)):=by rw[Int.mul_left_comm,Int.mul_comm (m:Int)]
  rw[this,Int.mul_emod,C,Int.mul_one,Int.emod_emod_of_dvd _ (Int.dvd_refl _)]
 have e3:((a:Int)+(m:Int)*(k:Int))%(n:Int)=(b:Int):=by rw[Int.add_emod,F,<- Int.add_emod,show(a:Int)+((b:Int)-(a:Int))=(b:Int)from by omega];exact Int.emod_eq_of_lt (by omega) (by omega)
 have K:(((a+m*k)%n:Nat):Int)=(b:Int):=by rw[Int.natCast_emod,Int.natCast_add,Int.natCast_mul];exact e3
 omega
theorem pow8{xs:List Nat}(h:∀x∈xs,x<B)(y:xs.length<=8):num B xs<B^8:=by have C:=num_lt B1 h;have F:B^xs.length<=B^8:=Nat.pow_le_pow_right B1 y;omega
theorem B16:B^8*B^8*2<=B^64:=by
 rw[<- Nat.pow_add]
 have y:B^16*B<=B^64:=by rw[<- Nat.pow_succ];exact Nat.pow_le_pow_right B1 (by decide)
 have C:B^16*2<=B^16*B:=Nat.mul_le_mul_left _ B2;exact qbo C y
theorem k8l{a b w n:Nat}(C:a<B^8)(F:b<B^8)(y:w<B^8)(H:n<B^8)(I:0<n):∃k:Nat,k<n/\((b:Int)-(a:Int))*(w:Int)%(n:Int)=(k:Int)/\
  (floorI (((kv (((kba ((fromI false (digs B b)).1) ((fromI false (digs B b)).2) ((fromI false (digs B a)).1) ((fromI false (digs B a)).2)).1)) ((kba ((fromI false (digs B b)).1) ((fromI false (digs B b)).2) ((fromI false (digs B a)).1) ((fromI false (digs B a)).2)).2.1) ((fromI false (digs B w)).1) ((fromI false (digs B w)).2)).1)) ((kv (((kba ((fromI false (digs B b)).1) ((fromI false (digs B b)).2) ((fromI false (digs B a)).1) ((fromI false (digs B a)).2)).1)) ((kba ((fromI false (digs B b)).1) ((fromI false (digs B b)).2) ((fromI false (digs B a)).1) ((fromI false (digs B a)).2)).2.1) ((fromI false (digs B w)).1) ((fromI false (digs B w)).2)).2.1) ((fromI false (digs B n)).1) ((fromI false (digs B n)).2)).2.2.2.1=digs B k:=by
 have K:=B16;have Q:1<=B^8:=Nat.pow_pos B1;have p16:B^8*1<=B^8*B^8:=Nat.mul_le_mul_left _ Q;have f:∀{x:Nat},x<B^8->fromI false (digs B x)=intD (x:Int):=λ{x} V=>by rw[kcs (by omega)];rfl
 have U:((b:Int)-(a:Int)).natAbs<B^8:=by omega
 have hp:(((b:Int)-(a:Int))*(w:Int)).natAbs<B^64:=by rw[Int.natAbs_mul,Int.natAbs_natCast];have:=Nat.mul_lt_mul_of_lt_of_lt U y;omega
 have h0:=Int.emod_nonneg (((b:Int)-(a:Int))*(w:Int)) (show(n:Int)≠0 by omega);have W:=Int.emod_lt_of_pos (((b:Int)-(a:Int))*(w:Int)) (show 0<(n:Int) by omega);obtain⟨k,hk⟩:∃k:Nat,((b:Int)-(a:Int))*(w:Int)%(n:Int)=(k:Int):=⟨_,(Int.toNat_of_nonneg h0).symm⟩;refine⟨k,by omega,hk,?_⟩;rw[f F,f C,f y,f H,kn6 (by rw[Int.natAbs_natCast];omega) (by rw[Int.natAbs_natCast];omega),if_pos (by omega)];dsimp only;rw[kly (by omega) (by rw[Int.natAbs_natCast];omega),if_pos hp];dsimp only;rw[ksx hp (by rw[Int.natAbs_natCast];omega) (by omega),hk];dsimp only;rw[kq1]
theorem crt_1{x:List Nat}:kei x=false↔rt x=true/\x.length<=8:=by
 unfold kei;cases rt x with
 | false=>simp
 | true =>simp only[Bool.not_true,cond_false,true_and,qbt];omega
theorem ks5{xs ys:List Nat}(y:rt xs=true)(C:rt ys=true):cmpN xs ys=cmp (num B xs) (num B ys):=by unfold cmpN;rw[if_pos ⟨y,C⟩]
theorem kbkx:num B (digs B 2)=2:=kg B2 2
theorem crt_2{x:List Nat}(h:rt x=true):kiu x=false↔2<=num B x:=by unfold kiu;rw[ks5 h (by decide),qbt,cmp_le,show num B [1]=1 from by simp[num]];omega
theorem kjn{xs ys:List Nat}(y:rt xs=true)(C:rt ys=true):decide (cmpN xs ys>=0)=false↔num B xs<num B ys:=by rw[ks5 y C,qbt,cmp_ge];omega
theorem kvi:u64P 2=some 2:=kbm (n:=2) (by decide)
theorem rt_two:rt (digs B 2)=true:=kn (by have:=kfa;omega)
theorem kqc{xs:List Nat}(y:rt xs=true):decide (cmpN xs (digs B 2)<0)=false↔2<=num B xs:=by rw[ks5 y rt_two,qbt,cmp_lt,kbkx];omega
theorem kbh7{x1 x2 x3 x4:List Nat}(h:¬CrtOk x1 x2 x3 x4):Iter kqk (.fn x1 x2 x3 x4) ([],1):=by refine .done ?_;show kf9 _ _ _ _=_;unfold kf9;refine kcx (λ_=>rfl) λI=>?_;refine kcx (λ_=>rfl) λK=>?_;refine kcx (λ_=>rfl) λQ=>?_;refine kcx (λ_=>rfl) λU=>?_;refine kcx (λ_=>rfl) λV=>?_;refine kcx (λ_=>rfl) λW=>?_;refine kcx (λ_=>rfl) λZ=>?_;refine kcx (λ_=>rfl) λk8=>?_;exfalso;have F:=crt_1.1 I;have y:=crt_1.1 Q;have H:=crt_1.1 K;have C:=crt_1.1 U;exact h ⟨F,y,H,C,(crt_2 y.1).1 V,(crt_2 C.1).1 W,(kjn F.1 y.1).1 Z,(kjn H.1 C.1).1 k8⟩
theorem kqw{x1 x2 x3 x4:List Nat}{L:List (List Nat)}{r:klw}(U:L.length=4){i:Nat}(V:i<4)(F:¬(rt (L[i]'(by omega))=true/\(L[i]'(by omega)).length<=8)->r=([],1))
  (K:(rt (L[i]'(by omega))=true/\(L[i]'(by omega)).length<=8)->Iter kkl (.p3 x1 x2 x3 x4 L ((i+1:Nat):Int)) r):Iter kkl (.p3 x1 x2 x3 x4 L (i:Int)) r:=by
 have H:atL L (i:Int)=some (L[i]'(by omega)):=by unfold atL;rw[if_pos (by omega),Int.toNat_natCast,qb1]
 generalize L[i]'(by omega)=y at *
 have C:∀o,cond (!(rt y)) (some (.inr ([],1))) (cond (decide ((List.length y:Int)>8)) (some (.inr ([],1))) (some (.inl (.p3 x1 x2 x3 x4 L ((i+1:Nat):Int)))))=o->kkl (.p3 x1 x2 x3 x4 L (i:Int))=o:=by intro o I;show kis _ _ _ _ _ _=_;unfold kis;rw[condT (by rw[qbu];omega),H,qbr,qbr,ko (by omega)];exact I
 by_cases g:rt y=true/\y.length<=8
 ·refine .next (C _ ?_) (K g);rw[g.1,condF (by rfl),condF (by rw[qbt];omega)]
 ·refine .done (C _ ?_);rw[F g];cases Q:rt y with
  | false=>rfl
  | true =>have:¬y.length<=8:=λh=>g ⟨Q,h⟩;rw[condF (by rfl),condT (by rw[qbu];omega)]
theorem krt{x1 x2 x3 x4:List Nat}{r:klw}(y:¬((rt x1=true/\x1.length<=8)/\(rt x2=true/\x2.length<=8)/\(rt x3=true/\x3.length<=8)/\(rt x4=true/\x4.length<=8))->r=([],1))
  (K:((rt x1=true/\x1.length<=8)/\(rt x2=true/\x2.length<=8)/\(rt x3=true/\x3.length<=8)/\(rt x4=true/\x4.length<=8))->kis x1 x2 x3 x4 [x1,x2,x3,x4] 4=some (.inr r)):Iter kkl (.fn x1 x2 x3 x4) r:=by
 refine .next (s':=.p3 x1 x2 x3 x4 [x1,x2,x3,x4] ((0:Nat):Int)) rfl ?_;refine kqw rfl (by omega) (λh=>y λg=>h g.1) λC=>?_;refine kqw rfl (by omega) (λh=>y λg=>h g.2.1) λF=>?_;refine kqw rfl (by omega) (λh=>y λg=>h g.2.2.1) λH=>?_;refine kqw rfl (by omega) (λh=>y λg=>h g.2.2.2) λI=>?_;exact .done (K ⟨C,F,H,I⟩)
theorem crt_fn{x1 x2 x3 x4:List Nat}(l1:∀x∈x1,x<B)(l2:∀x∈x2,x<B)(l3:∀x∈x3,x<B)(l4:∀x∈x4,x<B) :
  ∃r,Iter kqk (.fn x1 x2 x3 x4) r/\Iter kkl (.fn x1 x2 x3 x4) r/\kz5 x1 x2 x3 x4 r:=by
 by_cases G:CrtOk x1 x2 x3 x4
 ·obtain⟨F,y,H,C,hm,hn,ha,hb⟩:=id G;have k1:=crt_1.2 F;have k2:=crt_1.2 y;have k3:=crt_1.2 H;have k4:=crt_1.2 C;have W:=(crt_2 y.1).2 hm;have Z:=(crt_2 C.1).2 hn;have Q:=(kjn F.1 y.1).2 ha;have U:=(kjn H.1 C.1).2 hb;have q5:=(kqc y.1).2 hm;have q6:=(kqc C.1).2 hn;have S:=(kvo l2 l4).2.2.1 ⟨y.1,C.1,hn⟩;have I:decide ((4:Int)<4)=false:=rfl;by_cases hg:Nat.gcd (num B x4) (num B x2%num B x4)=1
  ·obtain⟨w,hw,V,aa⟩:=S.2 hg;have a8:=pow8 l1 F.2;have m8:=pow8 l2 y.2;have b8:=pow8 l3 H.2;have n8:=pow8 l4 C.2;obtain⟨k,hk,ac,K⟩:=k8l (a:=num B x1) (b:=num B x3) (w:=w) (n:=num B x4) a8 b8 (by omega) n8 (by omega);rw[kdd B2 l1 (rt_iff.1 F.1).2,kdd B2 l3 (rt_iff.1 H.1).2,kdd B2 l4 (rt_iff.1 C.1).2]at K;have ag:=B16;have p16:B^8*1<=B^8*B^8:=Nat.mul_le_mul_left _ (Nat.pow_pos B1);have ad:num B x2*num B x4<B^8*B^8:=Nat.mul_lt_mul_of_lt_of_lt m8 n8
   have hX:num B x1+num B x2*k<num B x2*num B x4:=by have:num B x2*(k+1)<=num B x2*num B x4:=Nat.mul_le_mul_left _ hk;rw[Nat.mul_add,Nat.mul_one]at this;omega
   have em:mulN x2 (digs B k)=(digs B (num B x2*k),0):=by unfold mulN;rw[if_pos ⟨y.1,kn (by omega)⟩,kg B2,kh6 (by omega)]
   have ae:addN (digs B (num B x2*k)) x1=(digs B (num B x1+num B x2*k),0):=by unfold addN;rw[if_pos ⟨kn (by omega),F.1⟩,kg B2,Nat.add_comm,kh6 (by omega)]
   have af:addN x1 (digs B (num B x2*k))=(digs B (num B x1+num B x2*k),0):=by unfold addN;rw[if_pos ⟨F.1,kn (by omega)⟩,kg B2,kh6 (by omega)]
   refine⟨(digs B (num B x1+num B x2*k),0),.done ?_,krt (λh=>absurd ⟨F,y,H,C⟩ h) λ_=>?_,λh=>absurd rfl h,λ_ _=>rfl,λ_=>⟨_,rfl,G,hX,?_,?_⟩⟩
   ·show kf9 _ _ _ _=_;unfold kf9;rw[k1,k2,k3,k4,W,Z,Q,U];simp only[cond_false];rw[V];dsimp only;rw[condF (by rfl),K,em];dsimp only;rw[ae]
   ·unfold kis;rw[I,cond_false,kvi,qbr,q5,q6,Q,U];simp only[cond_false];rw[V];dsimp only;rw[condF (by rfl),K,em];dsimp only;rw[af]
   ·rw[Nat.add_mul_mod_self_left,Nat.mod_eq_of_lt ha]
   ·exact kbg3 aa hb ac
  ·have V:=S.1 hg;refine⟨([],6),.done ?_,krt (λh=>absurd ⟨F,y,H,C⟩ h) λ_=>?_,λ_=>rfl,λ_ h=>absurd h hg,λh=>by cases h⟩
   ·show kf9 _ _ _ _=_;unfold kf9;rw[k1,k2,k3,k4,W,Z,Q,U,V];rfl
   ·unfold kis;rw[I,cond_false,kvi,qbr,q5,q6,Q,U,V];rfl
 ·refine⟨([],1),kbh7 G,krt (λ_=>rfl) λg=>?_,λ_=>rfl,λh=>absurd h G,λh=>by cases h⟩;obtain⟨F,y,H,C⟩:=g;unfold kis;rw[show decide ((4:Int)<4)=false from rfl,cond_false,kvi,qbr];refine kcx (λ_=>rfl) λW=>?_;refine kcx (λ_=>rfl) λZ=>?_;refine kcx (λ_=>rfl) λQ=>?_;refine kcx (λ_=>rfl) λU=>?_;exact absurd ⟨F,y,H,C,(kqc y.1).1 W,(kqc C.1).1 Z,(kjn F.1 y.1).1 Q,(kjn H.1 C.1).1 U⟩ G
noncomputable def crtN(x1 x2 x3 x4:List Nat):List Nat×Int:=by
 classical
 exact if h:(∀x∈x1,x<B)/\(∀x∈x2,x<B)/\(∀x∈x3,x<B)/\(∀x∈x4,x<B)then(crt_fn h.1 h.2.1 h.2.2.1 h.2.2.2).choose else([],0)
theorem kyu{x1 x2 x3 x4:List Nat}(y:∀x∈x1,x<B)(C:∀x∈x2,x<B)(F:∀x∈x3,x<B)(H:∀x∈x4,x<B):Iter kqk (.fn x1 x2 x3 x4) (crtN x1 x2 x3 x4)/\Iter kkl (.fn x1 x2 x3 x4) (crtN x1 x2 x3 x4)/\kz5 x1 x2 x3 x4 (crtN x1 x2 x3 x4):=by unfold crtN;rw[dif_pos ⟨y,C,F,H⟩];exact(crt_fn y C F H).choose_spec
theorem k36{h:AH}{a b c d:Sl}{x1 x2 x3 x4:List Nat}(n1:Nats h a x1)(n2:Nats h b x2)(y:Nats h c x3)(C:Nats h d x4):Runs (go (.fn kpj [a.v,b.v,c.v,d.v]) h) (kwg h (crtN x1 x2 x3 x4)):=kbk5 (kyu n1.lt n2.lt y.lt C.lt).1 n1 n2 y C
end Go.Ab
namespace Go.Ab
variable{P:Program}
inductive All2{α β:Type}(R:α->β->Prop):List α->List β->Prop
 | nil:All2 R [] []
 | cons {a:α} {b:β} {ls:List α} {bs:List β}:R a b->All2 R ls bs->All2 R (a::ls) (b::bs)
section
variable{α β:Type}{R S:α->β->Prop}
theorem All2.imp(f:∀a b,R a b->S a b){ls:List α}{bs:List β}(a:All2 R ls bs):All2 S ls bs:=by
 induction a with
 | nil=>exact .nil
 | cons h _ ih=>exact .cons (f _ _ h) ih
theorem All2.length{ls:List α}{bs:List β}(a:All2 R ls bs):ls.length=bs.length:=by
 induction a with
 | nil=>rfl
 | cons h _ ih=>simp[ih]
theorem All2.get{ls:List α}{bs:List β}(a:All2 R ls bs):∀{i:Nat}{y:β},bs[i]?=some y->∃x,ls[i]?=some x/\R x y:=by
 induction a with
 | nil=>intro i y h;simp at h
 | cons h _ ih =>
  intro i y C;cases i with
  | zero=>cases C;exact⟨_,rfl,h⟩
  | succ i=>exact ih C
theorem All2.snoc{ls:List α}{bs:List β}(a:All2 R ls bs){x:α}{y:β}(h:R x y):All2 R (ls++[x]) (bs++[y]):=by
 induction a with
 | nil=>exact .cons h .nil
 | cons h' _ ih=>exact .cons h' ih
end
structure El(α:Type) where
 w:Nat
 pos:0<w
 has:AH->List AV->α->Prop
 av:Nat->List AV->α->Prop
 len:∀{h:AH}{cs:List AV}{a:α},has h cs a->cs.length=w
 grow:∀{h h':AH}{cs:List AV}{a:α},Grow h h'->has h cs a->has h' cs a
 upd:∀{h h':AH}{i:Nat}{cs:List AV}{a:α},has h cs a->av i cs a->Upd h h' i->has h' cs a
 new:∀{h:AH}{i:Nat}{cs:List AV}{a:α},has h cs a->h.blks.size<=i->av i cs a
def El.int(k:IntKind):El Int where
 w:=1
 pos:=by decide
 has _ cs n:=cs=[.int k n]
 av _ _ _:=True
 len e:=by rw[e];rfl
 grow _ e:=e
 upd e _ _:=e
 new _ _:=trivial
def El.bool:El Bool where
 w:=1
 pos:=by decide
 has _ cs b:=cs=[.bool b]
 av _ _ _:=True
 len e:=by rw[e];rfl
 grow _ e:=e
 upd e _ _:=e
 new _ _:=trivial
theorem Sl.vs_inj{s t:Sl}(h:[Sl.v s]=[Sl.v t]):s=t:=by
 cases s;cases t;simp only[Sl.v,List.cons.injEq,AV.slice.injEq,and_true]at h;obtain⟨rfl,rfl,rfl⟩:=h;rfl
def El.nats:El (List Nat) where
 w:=1
 pos:=by decide
 has h cs xs:=∃s,cs=[Sl.v s]/\Nats h s xs
 av i cs xs:=∃s,cs=[Sl.v s]/\Av s i xs
 len:=λ⟨s,e,_⟩=>by rw[e];rfl
 grow g:=λ⟨s,e,n⟩=>⟨s,e,n.grow g⟩
 upd:=λ⟨s,e,n⟩ ⟨t,y,a⟩ u=>by rw[e]at y;cases Sl.vs_inj y;exact⟨s,e,n.upda a u⟩
 new:=λ⟨s,e,n⟩ C=>⟨s,e,qbg n C⟩
def El.pair{α β:Type}(A:El α)(B:El β):El (α×β) where
 w:=A.w+B.w
 pos:=by have:=A.pos;omega
 has h cs p:=∃y C,cs=y++C/\A.has h y p.1/\B.has h C p.2
 av i cs p:=∃y C,cs=y++C/\y.length=A.w/\A.av i y p.1/\B.av i C p.2
 len:=λ⟨y,C,e,a,b⟩=>by rw[e,qbx,A.len a,B.len b]
 grow g:=λ⟨y,C,e,a,b⟩=>⟨y,C,e,A.grow g a,B.grow g b⟩
 upd:=λ⟨y,C,e,a,b⟩ ⟨d1,I,F,l,a',b'⟩ u=>by rw[e]at F;obtain⟨rfl,rfl⟩:=List.append_inj F (by rw[A.len a,l]);exact⟨y,C,e,A.upd a a' u,B.upd b b' u⟩
 new:=λ⟨y,C,e,a,b⟩ H=>⟨y,C,e,A.len a,A.new a H,B.new b H⟩
theorem khj{w:Nat}:∀{rows:List (List AV)},(∀r∈rows,r.length=w)->rows.flatten.length=rows.length*w
 | [],_=>by simp
 | r::rows,h=>by rw[List.flatten_cons,qbx,khj (λq hq=>h q (by simp[hq])),h r (by simp),qbz,Nat.add_mul];omega
theorem knb{w:Nat}:∀{rows:List (List AV)},(∀r∈rows,r.length=w)->∀{i:Nat}{r:List AV}{k:Nat}{v:AV},rows[i]?=some r->r[k]?=some v->rows.flatten[i*w+k]?=some v
 | [],_,i,r,k,v,y,_=>by simp at y
 | q::rows,h,0,r,k,v,y,hk=>by
  cases y;rw[List.flatten_cons,List.getElem?_append_left (by have:=(qcb.1 hk).1;omega)]
  simpa using hk
 | q::rows,h,i+1,r,k,v,y,hk=>by have:=knb (λq hq=>h q (by simp[hq])) (show rows[i]?=some r from y) hk;rw[List.flatten_cons,List.getElem?_append_right (by rw[h q (by simp),Nat.add_mul];omega),h q (by simp),show(i+1)*w+k-w=i*w+k from by rw[Nat.add_mul];omega];exact this
theorem All2.rows{α:Type}{E:El α}{h:AH}{rows:List (List AV)}{xs:List α}(a:All2 (E.has h) rows xs):∀r∈rows,r.length=E.w:=by
 induction a with
 | nil=>simp
 | cons h' _ ih =>
  intro r y;rcases qb3.1 y with rfl | y
  ·exact E.len h'
  ·exact ih r y
structure Seq{α:Type}(E:El α)(h:AH)(s:Sl)(xs:List α):Prop where
 rows:∃rows,Cells h s E.w rows.flatten/\All2 (E.has h) rows xs
 len:s.len=xs.length
 short:xs.length<=9223372036854775807
theorem Seq.grow{α:Type}{E:El α}{h h':AH}{s:Sl}{xs:List α}(n:Seq E h s xs)(g:Grow h h'):Seq E h' s xs:=by obtain⟨⟨rows,c,a⟩,l,y⟩:=n;exact⟨⟨rows,c.grow g,a.imp λ_ _=>E.grow g⟩,l,y⟩
theorem Seq.nil{α:Type}(E:El α)(h:AH):Seq E h ⟨none,0,.is 0⟩ []:=⟨⟨[],Cells.nil h _,.nil⟩,rfl,by simp⟩
def atX{α:Type}(xs:List α)(i:Int):Option α:=if 0<=i then xs[i.toNat]? else none
theorem kw8{α:Type}{xs:List α}{i:Int}{y:α}(q:atX xs i=some y):∃j:Nat,i=(j:Int)/\xs[j]?=some y:=by
 unfold atX at q;split at q
 ·exact⟨i.toNat,by omega,q⟩
 ·cases q
theorem kgy{α:Type}{xs:List α}{i:Nat}(h:i<xs.length):atX xs (i:Int)=some xs[i]:=by unfold atX;rw[if_pos (by omega),Int.toNat_natCast,qb1 h]
structure Lies(h:AH)(r:Ref)(cs:List AV):Prop where
 at':∀k v,cs[k]?=some v->h.cell (r.add k)=some v
theorem Lies.rd{A:Type}{f:AV->Option A}{h h':AH}{r:Ref}{cs:List AV}(l:Lies h r cs)(g:Grow h h')(k:Nat){v:AV}{x:A}(hk:cs[k]?=some v)(y:f v=some x):(h'.cell (r.add k)).bind f=some x:=by rw[g.cell_some (l.at' k v hk)];exact y
theorem Lies.rd0{A:Type}{f:AV->Option A}{h h':AH}{r:Ref}{cs:List AV}(l:Lies h r cs)(g:Grow h h'){v:AV}{x:A}(hk:cs[0]?=some v)(y:f v=some x):(h'.cell r).bind f=some x:=by have:=l.rd g 0 hk y;rwa[Ref.add_zero]at this
theorem Seq.at{α:Type}{E:El α}{h:AH}{s:Sl}{xs:List α}(n:Seq E h s xs){i:Int}{y:α}(q:atX xs i=some y):∃(r:Ref)(cs:List AV),idx s.ref xs.length i E.w=some r/\E.has h cs y/\Lies h r cs:=by
 obtain⟨⟨rows,c,a⟩,l,V⟩:=n;obtain⟨j,rfl,C⟩:=kw8 q;obtain⟨cs,H,F⟩:=a.get C;have I:=(qcb.1 C).1;have K:=a.rows;have key:∀k v,cs[k]?=some v->∃r,s.ref=some r/\h.cell (r.add (j*E.w+k))=some v:=λk v hk=>c.get _ _ (knb K H hk);cases hs:s.ref with
 | none =>
  exfalso;cases cs with
  | nil=>have:=E.len F;have:=E.pos;simp at *;omega
  | cons v vs =>
   obtain⟨r,e,_⟩:=key 0 v rfl;rw[hs]at e;cases e
 | some r =>
  refine⟨r.add (j*E.w),cs,?_,F,⟨λk v hk=>?_⟩⟩
  ·rw[kej _ _ _ _ (by omega) (by omega)];simp
  ·obtain⟨W,e,U⟩:=key k v hk;rw[hs]at e;cases e;rw[Ref.add_add];exact U
structure GL{α:Type}(E:El α)(elem:TypeId)(h:AH)(s:Sl)(i:Nat)(xs:List α):Prop where
 rows:∃rows,Cells h s E.w rows.flatten/\All2 (λcs a=>E.has h cs a/\E.av i cs a) rows xs
 len:s.len=xs.length
 own:s.cap=.is s.len\/(s.ref=some (.new i 0)/\s.cap=.opn E.w/\∃bs,h.has i bs elem)
 loc:∀r,s.ref=some r->∃o,r=.new i o
theorem GL.nil{α:Type}(E:El α)(elem:TypeId)(h:AH)(i:Nat):GL E elem h ⟨none,0,.is 0⟩ i []:=⟨⟨[],Cells.nil h _,.nil⟩,rfl,.inl rfl,λr y=>by cases y⟩
theorem GL.one{α:Type}{E:El α}{elem e:TypeId}{h:AH}{i:Nat}{cs:List AV}{x:α}(b:h.has i cs e)(c:E.has h cs x)(a:E.av i cs x):GL E elem h ⟨some (.new i 0),1,.is 1⟩ i [x]:=⟨⟨[cs],qo (by simpa using b) (by simp[E.len c]),.cons ⟨c,a⟩ .nil⟩,rfl,.inl rfl,λr y=>by cases y;exact⟨_,rfl⟩⟩
theorem GL.grow{α:Type}{E:El α}{elem:TypeId}{h h':AH}{s:Sl}{i:Nat}{xs:List α}(v:GL E elem h s i xs)(g:Grow h h'):GL E elem h' s i xs:=by obtain⟨⟨rows,c,a⟩,l,o,lo⟩:=v;exact⟨⟨rows,c.grow g,a.imp λ_ _ p=>⟨E.grow g p.1,p.2⟩⟩,l,o.imp id λ⟨y,C,bs,b⟩=>⟨y,C,bs,g.has b⟩,lo⟩
theorem GL.seq{α:Type}{E:El α}{elem:TypeId}{h:AH}{s:Sl}{i:Nat}{xs:List α}(v:GL E elem h s i xs)(hs:xs.length<=9223372036854775807):Seq E h s xs:=by obtain⟨⟨rows,c,a⟩,l,o,lo⟩:=v;exact⟨⟨rows,c,a.imp λ_ _ p=>p.1⟩,l,hs⟩
theorem AH.kill_Upd(h:AH)(i:Nat):Upd h (h.kill (some (.new i 0))) i :=
 ⟨rfl,by simp[AH.kill],λj y _=>by show(h.blks.setIfInBounds i .dead)[j]?=_;rw[Array.getElem?_setIfInBounds_ne (λx=>y x.symm)]⟩
theorem GL.push{α:Type}{E:El α}{elem:TypeId}{h:AH}{s:Sl}{i:Nat}{xs:List α}(v:GL E elem h s i xs){cs:List AV}{x:α}(c:E.has h cs x)(a:E.av i cs x)(C:growOk P (xs.length+1) elem E.w=true) :
  ∃s' h',kbi P s cs 1 elem E.w h=some (s'.v,h')/\GL E elem h' s' h.blks.size (xs++[x])/\Upd h h' i:=by
 obtain⟨⟨rows,F,V⟩,l,o,lo⟩:=v;rw[<- l]at C;have W:(s.len+1)*E.w=(rows.flatten++cs).length:=by rw[Nat.add_mul,F.len,qbx,E.len c,Nat.one_mul]
 have fr:rows.flatten++cs=(rows++[cs]).flatten:=by simp
 rcases o with e | ⟨H,e2,bs,b⟩
 ·rw[km6 e (by omega) C F];refine⟨_,_,rfl,⟨⟨rows++[cs],⟨rfl,by rw[<- fr];exact W,λj w I=>⟨_,rfl,?_⟩⟩,?_⟩,by simp[l],.inr ⟨rfl,rfl,rows.flatten++cs,qm _ _ _⟩,λr K=>by cases K;exact⟨_,rfl⟩⟩,(ql _ _).toUpd i⟩
  ·rw[fr]
   simpa using I
  ·refine All2.snoc (V.imp λ_ _ p=>?_) ⟨E.grow (ql _ _) c,E.new c (qbn _)⟩;exact⟨E.grow (ql _ _) p.1,E.new p.1 (qbn _)⟩
 ·have U:kbi P s cs 1 elem E.w h=some (Sl.v ⟨some (.new h.blks.size 0),s.len+1,.opn E.w⟩,(h.kill s.ref).push (.cells (rows.flatten++cs) elem)):=by
   unfold kbi;simp only[e2];rw[show Nat.beq 1 0=false from rfl,show Nat.beq E.w E.w=true from Nat.beq_refl _];simp only[cond_false,C,Bool.and_true,cond_true,H,show h.blks[i]?=_ from b];have y:=F.gets;rw[H]at y;simp only[y,qbr];rw[show Nat.beq elem elem=true from Nat.beq_refl _,cond_true];have:(AH.kill h (some (Ref.new i 0))).blks.size=h.blks.size:=by simp[AH.kill]
   simp[AH.next,this,Sl.v];rfl
  rw[U,H];have Z:(h.kill (some (.new i 0))).blks.size=h.blks.size:=by simp[AH.kill]
  have u:Upd h (h.kill (some (.new i 0))) i:=AH.kill_Upd h i;refine⟨_,_,rfl,⟨⟨rows++[cs],⟨rfl,by rw[<- fr];exact W,λj w I=>⟨_,rfl,?_⟩⟩,?_⟩,by simp[l],.inr ⟨rfl,rfl,rows.flatten++cs,?_⟩,λr K=>by cases K;exact⟨_,rfl⟩⟩,u.trans ((ql _ _).toUpd i)⟩
  ·rw[fr,<- Z]
   simpa using I
  ·refine All2.snoc (V.imp λ_ _ p=>?_) ⟨E.grow (ql _ _) (E.upd c a u),E.new c (qbn _)⟩;exact⟨E.grow (ql _ _) (E.upd p.1 p.2 u),E.new p.1 (qbn _)⟩
  ·have:=qm (h.kill (some (.new i 0))) (rows.flatten++cs) elem;rw[Z]at this;exact this
theorem kfe{h:AH}{i n:Nat}{cs:List AV}{e elem:TypeId}(b:h.has i cs e)(y:n*P.cellsOf elem=cs.length):kcc P elem (Sl.v ⟨some (.new i 0),n,.is n⟩) h=some (cs,n):=ktx (qo b y)
section
variable{Q:AV->AH->Prop}
theorem Runs.putAt{h:AH}{i o:Nat}{cs cs' vs:List AV}{e:TypeId}{K:AH->Option (AV×AH)}(b:h.has i cs e)(y:o+vs.length<=cs.length)(C:cs.take o++vs++cs.drop (o+vs.length)=cs')(H:∀h',h'.has i cs' e->Upd h h' i->Runs (K h') Q):Runs ((h.puts ((Ref.new i 0).add o) vs).bind K) Q:=by subst C;rw[qj,Nat.zero_add,b.puts y];exact H _ (qn b _ e) (AH.upd_Upd h i _ e)
end
end Go.Ab
namespace Go.Ab
def overW(xs ys:List Nat):Option (List Nat):=if ys.length<=xs.length then some (ys++xs.drop ys.length)else none
theorem k00{xs ys zs:List Nat}(q:overW xs ys=some zs):zs.length=xs.length:=by
 unfold overW at q;split at q
 ·cases q;simp;omega
 ·cases q
theorem Vec.copyV{h:AH}{s t:Sl}{i:Nat}{xs ys zs:List Nat}(v:Vec h t i xs)(m:Nats h s ys)(q:overW xs ys=some zs):∃h',copyH s t 1 h=some h'/\Vec h' t i zs/\Upd h h' i:=by
 unfold overW at q;split at q
 ·rename_i y;cases q;have C:(⟨some (.new i 0),ys.length,.is ys.length⟩:Sl).fit 1:=qbn _;have w:Win ⟨some (.new i 0),ys.length,.is ys.length⟩ i 0 ys.length:=⟨rfl,rfl,C⟩;obtain⟨h',e,v',u⟩:=v.copyW (zs:=ys++xs.drop ys.length) w m (by unfold setW;rw[if_pos ⟨by omega,rfl⟩];simp);refine⟨h',?_,v',u⟩;rw[<- e];unfold copyH;rw[m.len,v.is,Nat.min_self,Nat.min_eq_left y]
 ·cases q
variable{P:Program}
def UpdO(h h':AH):Option Nat->Prop
 | none=>Grow h h'
 | some k=>Upd h h' k
def AvO(s:Sl)(xs:List Nat):Option Nat->Prop
 | none=>True
 | some k=>Av s k xs
def LeO(n:Nat):Option Nat->Prop
 | none=>True
 | some k=>n<=k
def LtO(n:Nat):Option Nat->Prop
 | none=>True
 | some k=>k<n
def NeO(j:Nat):Option Nat->Prop
 | none=>True
 | some k=>j≠k
theorem LeO.trans{m n:Nat}(h:m<=n):∀{i:Option Nat},LeO n i->LeO m i
 | none,_=>trivial
 | some k,l=>qbo h l
theorem NeO.of_lt{j n:Nat}:∀{i:Option Nat},LtO n i->n<=j->NeO j i
 | none,_,_=>trivial
 | some k,l,h=>by have:k<n:=l;show j≠k;omega
theorem AvO.of_base{h0:AH}{s:Sl}{xs:List Nat}(n:Nats h0 s xs):∀{i:Option Nat},LeO h0.blks.size i->AvO s xs i
 | none,_=>trivial
 | some k,l=>qbg n l
theorem AvO.of_own{y:AH}{s:Sl}{xs:List Nat}(o:Own y s):∀{i:Option Nat},LtO y.blks.size i->AvO s xs i
 | none,_=>trivial
 | some k,l=>qbh o l
theorem Grow.updo{h y C:AH}(g:Grow h y):∀{i:Option Nat},LeO h.blks.size i->UpdO y C i->Grow h C
 | none,_,u=>g.trans u
 | some k,l,u=>g.updr l u
theorem AH.has.updo{y C:AH}{j:Nat}{cs:List AV}{e:TypeId}(b:y.has j cs e):∀{i:Option Nat},NeO j i->UpdO y C i->C.has j cs e
 | none,_,u=>u.has b
 | some k,l,u=>qr b l u
theorem Nats.updo{y C:AH}{s:Sl}{xs:List Nat}(b:Nats y s xs):∀{i:Option Nat},AvO s xs i->UpdO y C i->Nats C s xs
 | none,_,u=>b.grow u
 | some k,l,u=>b.upda l u
def GO{α:Type}(E:El α)(elem:TypeId)(h:AH)(s:Sl)(i:Option Nat)(xs:List α):Prop :=
 xs.length<=9223372036854775807/\match i with
 | none=>s=⟨none,0,.is 0⟩/\xs=[]
 | some k=>GL E elem h s k xs/\k<h.blks.size
def AvE{α:Type}(E:El α)(cs:List AV)(x:α):Option Nat->Prop
 | none=>True
 | some k=>E.av k cs x
variable{α:Type}{E:El α}{elem:TypeId}
theorem GO.one{h:AH}{i:Nat}{cs:List AV}{x:α}{e:TypeId}(b:h.has i cs e)(c:E.has h cs x)(a:E.av i cs x):GO E elem h ⟨some (.new i 0),1,.is 1⟩ (some i) [x]:=⟨by simp,GL.one b c a,b.lt⟩
theorem GO.grow{h h':AH}{s:Sl}:∀{i:Option Nat}{xs:List α},GO E elem h s i xs->Grow h h'->GO E elem h' s i xs
 | .none,_,v,g=>v
 | .some k,_,⟨l,v,lt⟩,g=>⟨l,v.grow g,qbp lt g.size⟩
theorem GO.lt{h:AH}{s:Sl}:∀{i:Option Nat}{xs:List α},GO E elem h s i xs->LtO h.blks.size i
 | .none,_,_=>trivial
 | .some k,_,v=>v.2.2
theorem GO.seq{h:AH}{s:Sl}:∀{i:Option Nat}{xs:List α},GO E elem h s i xs->Seq E h s xs
 | .none,xs,⟨_,y,C⟩=>by
  subst y;subst C;exact Seq.nil E h
 | .some k,_,v=>v.2.1.seq v.1
theorem GL.lt{h:AH}{s:Sl}{i:Nat}{x:α}{xs:List α}(v:GL E elem h s i (xs++[x])):i<h.blks.size:=by
 obtain⟨⟨rows,c,a⟩,l,o,lo⟩:=v;have y:rows.length=xs.length+1:=by have:=All2.length a;simpa using this
 have C:=khj (w:=E.w) (rows:=rows) (All2.rows (a.imp λ_ _ p=>p.1));have hp:=E.pos
 have h0:0<rows.flatten.length:=by rw[C,y];exact Nat.mul_pos (by omega) hp
 obtain⟨r,F,H⟩:=c.get 0 _ (qb1 h0);obtain⟨k,rfl⟩:=lo r F;have:=AH.cell_inn H;rw[qj]at this;exact this
theorem kz0{n m:Nat}(h:growOk P n elem m=true):n<=9223372036854775807:=by unfold growOk at h;rw[qb6,qbu]at h;have:=h.1.2;simp only[kbb]at this;omega
theorem GO.push{h:AH}{s:Sl}{i:Option Nat}{xs:List α}(v:GO E elem h s i xs){cs:List AV}{x:α}(c:E.has h cs x)(a:AvE E cs x i)(y:growOk P (xs.length+1) elem E.w=true) :
  ∃s' h',kbi P s cs 1 elem E.w h=some (s'.v,h')/\GO E elem h' s' (some h.blks.size) (xs++[x])/\UpdO h h' i:=by
 have C:=kz0 y;cases i with
 | none =>
  obtain⟨_,F,H⟩:=v;subst F;subst H;obtain⟨s',h',e,v',u⟩:=(GL.nil E elem h h.blks.size).push c (E.new c (qbn _)) y;exact⟨s',h',e,⟨by simp,v',v'.lt⟩,(qk h).updr (qbn _) u⟩
 | some k =>obtain⟨s',h',e,v',u⟩:=v.2.1.push c a y;exact⟨s',h',e,⟨by simpa using C,v',v'.lt⟩,u⟩
theorem AvE.nats{s:Sl}{xs:List Nat}:∀{i:Option Nat},AvO s xs i->AvE El.nats [s.v] xs i
 | .none,_=>trivial
 | .some k,a=>⟨s,rfl,a⟩
end Go.Ab
namespace Go.Ab
variable{P:Program}
abbrev Fp:=Nat->Prop
def Fp.no:Fp:=λ_=>False
def Fp.all:Fp:=λ_=>True
def Fp.or(S T:Fp):Fp:=λj=>S j\/T j
def Fp.below(n:Nat):Fp:=λj=>j<n
def Fp.from(n:Nat):Fp:=λj=>n<=j
def Fp.sl(s:Sl)(xs:List Nat):Fp:=λj=>¬Av s j xs
theorem Fp.not_no{i:Nat}:¬Fp.no i:=λh=>h
def NotO(S:Fp):Option Nat->Prop
 | none=>True
 | some k=>¬S k
theorem NotO.no:∀{i:Option Nat},NotO Fp.no i
 | none=>trivial
 | some _=>Fp.not_no
structure Ef(α:Type) where
 w:Nat
 pos:0<w
 has:AH->Fp->List AV->α->Prop
 len:∀{h:AH}{S:Fp}{cs:List AV}{a:α},has h S cs a->cs.length=w
 grow:∀{h h':AH}{S:Fp}{cs:List AV}{a:α},Grow h h'->has h S cs a->has h' S cs a
 mono:∀{h:AH}{S T:Fp}{cs:List AV}{a:α},(∀j,S j->T j)->has h S cs a->has h T cs a
 upd:∀{h h':AH}{S:Fp}{i:Nat}{cs:List AV}{a:α},¬S i->Upd h h' i->has h S cs a->has h' S cs a
 bound:∀{h:AH}{S:Fp}{cs:List AV}{a:α},has h S cs a->has h (λj=>S j/\j<h.blks.size) cs a
def Ef.int(k:IntKind):Ef Int where
 w:=1
 pos:=by decide
 has _ _ cs n:=cs=[.int k n]
 len e:=by rw[e];rfl
 grow _ e:=e
 mono _ e:=e
 upd _ _ e:=e
 bound e:=e
def Ef.bool:Ef Bool where
 w:=1
 pos:=by decide
 has _ _ cs b:=cs=[.bool b]
 len e:=by rw[e];rfl
 grow _ e:=e
 mono _ e:=e
 upd _ _ e:=e
 bound e:=e
def Ef.str:Ef ByteArray where
 w:=1
 pos:=by decide
 has _ _ cs b:=cs=[.str b]
 len e:=by rw[e];rfl
 grow _ e:=e
 mono _ e:=e
 upd _ _ e:=e
 bound e:=e
def Ef.nats:Ef (List Nat) where
 w:=1
 pos:=by decide
 has h S cs xs:=∃s,cs=[Sl.v s]/\Nats h s xs/\∀j,¬Av s j xs->S j
 len:=λ⟨s,e,_,_⟩=>by rw[e];rfl
 grow g:=λ⟨s,e,n,a⟩=>⟨s,e,n.grow g,a⟩
 mono m:=λ⟨s,e,n,a⟩=>⟨s,e,n,λj k=>m j (a j k)⟩
 upd no u:=λ⟨s,e,n,a⟩=>⟨s,e,n.upda (Classical.byContradiction λk=>no (a _ k)) u,a⟩
 bound:=λ{h} _ _ _ ⟨s,e,n,a⟩=>⟨s,e,n,λj k=>⟨a j k,by
  rcases Nat.lt_or_ge j h.blks.size with y | y
  ·exact y
  ·exact absurd (qbg n y) k⟩⟩
def Ef.pair{α β:Type}(A:Ef α)(B:Ef β):Ef (α×β) where
 w:=A.w+B.w
 pos:=by have:=A.pos;omega
 has h S cs p:=∃y C,cs=y++C/\A.has h S y p.1/\B.has h S C p.2
 len:=λ⟨y,C,e,a,b⟩=>by rw[e,qbx,A.len a,B.len b]
 grow g:=λ⟨y,C,e,a,b⟩=>⟨y,C,e,A.grow g a,B.grow g b⟩
 mono m:=λ⟨y,C,e,a,b⟩=>⟨y,C,e,A.mono m a,B.mono m b⟩
 upd no u:=λ⟨y,C,e,a,b⟩=>⟨y,C,e,A.upd no u a,B.upd no u b⟩
 bound:=λ⟨y,C,e,a,b⟩=>⟨y,C,e,A.bound a,B.bound b⟩
def RefIn(S:Fp)(s:Sl)(n:Nat):Prop:=n=0\/∀j o,s.ref=some (.new j o)->S j
structure Sq{α:Type}(E:Ef α)(h:AH)(S:Fp)(s:Sl)(xs:List α):Prop where
 rows:∃rows,Cells h s E.w rows.flatten/\All2 (E.has h S) rows xs
 len:s.len=xs.length
 short:xs.length<=9223372036854775807
 at':RefIn S s xs.length
variable{α:Type}{E:Ef α}
theorem Ef.rows{h:AH}{S:Fp}{rows:List (List AV)}{xs:List α}(a:All2 (E.has h S) rows xs):∀r∈rows,r.length=E.w:=by
 induction a with
 | nil=>simp
 | cons h' _ ih =>
  intro r y;rcases qb3.1 y with rfl | y
  ·exact E.len h'
  ·exact ih r y
theorem Cells.updn{h h':AH}{s:Sl}{n:Nat}{flat:List AV}(c:Cells h s n flat){i:Nat}(F:∀o,s.ref≠some (.new i o))(u:Upd h h' i):Cells h' s n flat :=
 ⟨c.fit,c.len,λk v hv=>by
  obtain⟨r,C,H⟩:=c.get k v hv;refine⟨r,C,u.cell H λo y=>?_⟩;cases r with
  | old a=>cases y
  | new j p =>simp only[qj,Ref.new.injEq]at y;exact F p (by rw[C,y.1])⟩
theorem Sq.grow{h h':AH}{S:Fp}{s:Sl}{xs:List α}(n:Sq E h S s xs)(g:Grow h h'):Sq E h' S s xs:=by obtain⟨⟨rows,c,a⟩,l,y,at'⟩:=n;exact⟨⟨rows,c.grow g,a.imp λ_ _=>E.grow g⟩,l,y,at'⟩
theorem Sq.mono{h:AH}{S T:Fp}{s:Sl}{xs:List α}(n:Sq E h S s xs)(m:∀j,S j->T j):Sq E h T s xs:=by obtain⟨⟨rows,c,a⟩,l,y,at'⟩:=n;exact⟨⟨rows,c,a.imp λ_ _=>E.mono m⟩,l,y,at'.imp id λf j o e=>m j (f j o e)⟩
theorem Sq.nil(E:Ef α)(h:AH)(S:Fp):Sq E h S ⟨none,0,.is 0⟩ []:=⟨⟨[],Cells.nil h _,.nil⟩,rfl,by simp,.inl rfl⟩
theorem Sq.upd{h h':AH}{S:Fp}{s:Sl}{xs:List α}(n:Sq E h S s xs){i:Nat}(no:¬S i)(u:Upd h h' i):Sq E h' S s xs:=by
 obtain⟨⟨rows,c,a⟩,l,C,at'⟩:=n;refine⟨⟨rows,?_,a.imp λ_ _=>E.upd no u⟩,l,C,at'⟩;rcases at' with e | f
 ·have y:rows.length=0:=by rw[All2.length a,e]
  have y:rows=[]:=List.length_eq_zero_iff.1 y;subst y;exact⟨c.fit,c.len,λk v hv=>by simp at hv⟩
 ·exact c.updn (λo F=>no (f i o F)) u
theorem Sq.bound{h:AH}{S:Fp}{s:Sl}{xs:List α}(n:Sq E h S s xs):Sq E h (λj=>S j/\j<h.blks.size) s xs:=by
 obtain⟨⟨rows,c,a⟩,l,F,at'⟩:=n;refine⟨⟨rows,c,a.imp λ_ _=>E.bound⟩,l,F,?_⟩;rcases Nat.eq_zero_or_pos xs.length with e | e
 ·exact .inl e
 ·refine .inr λj o y=>⟨(at'.resolve_left (by omega)) j o y,?_⟩;have H:=khj (w:=E.w) (rows:=rows) (Ef.rows a)
  have h0:0<rows.flatten.length:=by rw[H,All2.length a];exact Nat.mul_pos e E.pos
  obtain⟨r,C,I⟩:=c.get 0 _ (qb1 h0);rw[y]at C;cases C;have:=AH.cell_inn I;rw[qj]at this;exact this
def Ef.seq{α:Type}(E:Ef α):Ef (List α) where
 w:=1
 pos:=by decide
 has h S cs xs:=∃s,cs=[Sl.v s]/\Sq E h S s xs
 len:=λ⟨s,e,_⟩=>by rw[e];rfl
 grow g:=λ⟨s,e,n⟩=>⟨s,e,n.grow g⟩
 mono m:=λ⟨s,e,n⟩=>⟨s,e,n.mono m⟩
 upd no u:=λ⟨s,e,n⟩=>⟨s,e,n.upd no u⟩
 bound:=λ⟨s,e,n⟩=>⟨s,e,n.bound⟩
theorem Sq.at{h:AH}{S:Fp}{s:Sl}{xs:List α}(n:Sq E h S s xs){i:Int}{y:α}(q:atX xs i=some y):∃(r:Ref)(cs:List AV),idx s.ref xs.length i E.w=some r/\E.has h S cs y/\Lies h r cs:=by
 obtain⟨⟨rows,c,a⟩,l,U,at'⟩:=n;obtain⟨j,rfl,C⟩:=kw8 q;obtain⟨cs,H,F⟩:=a.get C;have I:=(qcb.1 C).1;have K:=Ef.rows a;have key:∀k v,cs[k]?=some v->∃r,s.ref=some r/\h.cell (r.add (j*E.w+k))=some v:=λk v hk=>c.get _ _ (knb K H hk);cases hs:s.ref with
 | none =>
  exfalso;cases cs with
  | nil=>have:=E.len F;have:=E.pos;simp at *;omega
  | cons v vs =>
   obtain⟨r,e,_⟩:=key 0 v rfl;rw[hs]at e;cases e
 | some r =>
  refine⟨r.add (j*E.w),cs,?_,F,⟨λk v hk=>?_⟩⟩
  ·rw[kej _ _ _ _ (by omega) (by omega)];simp
  ·obtain⟨V,e,Q⟩:=key k v hk;rw[hs]at e;cases e;rw[Ref.add_add];exact Q
def GF{α:Type}(E:Ef α)(elem:TypeId)(h:AH)(S:Fp)(s:Sl)(i:Option Nat)(xs:List α):Prop :=
 xs.length<=9223372036854775807/\match i with
 | none=>s=⟨none,0,.is 0⟩/\xs=[]
 | some k=>¬S k/\s.ref=some (.new k 0)/\s.len=xs.length/\∃rows e,h.has k rows.flatten e/\(s.cap=.is s.len\/s.cap=.opn E.w/\e=elem)/\All2 (E.has h S) rows xs
variable{elem:TypeId}
theorem GF.none(E:Ef α)(elem:TypeId)(h:AH)(S:Fp):GF E elem h S ⟨none,0,.is 0⟩ none []:=⟨by simp,rfl,rfl⟩
theorem GF.one{h:AH}{S:Fp}{i:Nat}{cs:List AV}{x:α}{e:TypeId}(b:h.has i cs e)(c:E.has h S cs x)(a:¬S i):GF E elem h S ⟨some (.new i 0),1,.is 1⟩ (some i) [x]:=⟨by simp,a,rfl,rfl,[cs],e,by simpa using b,.inl rfl,.cons c .nil⟩
theorem GF.grow{h h':AH}{S:Fp}{s:Sl}:∀{i:Option Nat}{xs:List α},GF E elem h S s i xs->Grow h h'->GF E elem h' S s i xs
 | .none,_,v,g=>v
 | .some k,_,⟨l,a,r,ln,rows,e,b,c,r2⟩,g=>⟨l,a,r,ln,rows,e,g.has b,c,r2.imp λ_ _=>E.grow g⟩
theorem GF.lt{h:AH}{S:Fp}{s:Sl}:∀{i:Option Nat}{xs:List α},GF E elem h S s i xs->LtO h.blks.size i
 | .none,_,_=>trivial
 | .some k,_,⟨l,a,r,ln,rows,e,b,c,r2⟩=>b.lt
theorem GF.mono{h:AH}{S T:Fp}{s:Sl}:∀{i:Option Nat}{xs:List α},GF E elem h S s i xs->(∀j,S j->T j)->NotO T i->GF E elem h T s i xs
 | .none,_,v,_,_=>v
 | .some k,_,⟨l,a,r,ln,rows,e,b,c,r2⟩,m,no=>⟨l,no,r,ln,rows,e,b,c,r2.imp λ_ _=>E.mono m⟩
def Fp.opt(i:Option Nat):Fp:=λj=>i=some j
theorem GF.sq{h:AH}{S:Fp}{s:Sl}:∀{i:Option Nat}{xs:List α},GF E elem h S s i xs->Sq E h (Fp.or (Fp.opt i) S) s xs
 | .none,xs,⟨_,F,H⟩=>by
  subst F;subst H;exact Sq.nil E h _
 | .some k,_,⟨l,a,r,ln,rows,e,b,c,r2⟩=>by
  have y:=qo (n:=E.w) (m:=s.len) b (by rw[khj (Ef.rows r2),All2.length r2,ln]);refine⟨⟨rows,⟨?_,?_,?_⟩,r2.imp λ_ _=>E.mono λj x=>.inr x⟩,ln,l,.inr λj o C=>?_⟩
  ·rcases c with c | c
   ·unfold Sl.fit;rw[c];exact qbn _
   ·unfold Sl.fit;rw[c.1]
  ·exact y.len
  ·rw[r];exact y.get
  ·rw[r]at C;cases C;exact .inl rfl
theorem GF.len{h:AH}{S:Fp}{s:Sl}{i:Option Nat}{xs:List α}(v:GF E elem h S s i xs):s.len=xs.length:=v.sq.len
theorem GF.upd{h h':AH}{S:Fp}{s:Sl}{i:Nat}(u:Upd h h' i)(no:¬S i):∀{j:Option Nat}{xs:List α},GF E elem h S s j xs->(∀k,j=some k->k≠i)->GF E elem h' S s j xs
 | .none,_,v,_=>v
 | .some k,_,⟨l,a,r,ln,rows,e,b,c,r2⟩,ne=>⟨l,a,r,ln,rows,e,b.updr (ne k rfl) u,c,r2.imp λ_ _=>E.upd no u⟩
theorem GF.push{h:AH}{S T:Fp}{s:Sl}{i:Option Nat}{xs:List α}(v:GF E elem h S s i xs){cs:List AV}{x:α}(c:E.has h T cs x)(no:NotO T i)(F:growOk P (xs.length+1) elem E.w=true) :
  ∃s' h',kbi P s cs 1 elem E.w h=some (s'.v,h')/\GF E elem h' (λj=>(Fp.or S T) j/\j<h.blks.size) s' (some h.blks.size) (xs++[x])/\UpdO h h' i:=by
 have U:=kz0 F;have hw:=E.len c;have I:¬((Fp.or S T) h.blks.size/\h.blks.size<h.blks.size):=λk=>Nat.lt_irrefl _ k.2;cases i with
 | none =>
  obtain⟨_,e1,e2⟩:=v;subst e1;subst e2;rw[km6 (c:=0) rfl (by simp) (by simpa using F) (Cells.nil h E.w)];refine⟨_,_,rfl,⟨by simp,I,rfl,by simp,[cs],elem,?_,.inr ⟨rfl,rfl⟩,.cons ?_ .nil⟩,ql _ _⟩
  ·simpa using qm h cs elem
  ·refine E.grow (ql _ _) (E.mono (λj k=>⟨.inr k.1,k.2⟩) (E.bound c))
 | some k =>
  have sq:=v.sq;obtain⟨l,a,r,H,rows,e,b,V,r2⟩:=v;have hr:=Ef.rows r2
  have W:Cells h s E.w rows.flatten:=by
   have Z:=qo (n:=E.w) (m:=s.len) b (by rw[khj hr,All2.length r2,H]);refine⟨?_,Z.len,by rw[r];exact Z.get⟩;rcases V with c | c
   ·unfold Sl.fit;rw[c];exact qbn _
   ·unfold Sl.fit;rw[c.1]
  rw[<- H]at F;rcases V with K | ⟨K,rfl⟩
  ·rw[km6 K (by omega) F W];refine⟨_,_,rfl,⟨by simpa using U,I,rfl,by simp[H],rows++[cs],elem,?_,.inr ⟨rfl,rfl⟩,All2.snoc (r2.imp λ_ _ y=>?_) ?_⟩,(ql _ _).toUpd k⟩
   ·have:=qm h (rows.flatten++cs) elem
    simpa using this
   ·exact E.grow (ql _ _) (E.mono (λj q=>⟨.inl q.1,q.2⟩) (E.bound y))
   ·exact E.grow (ql _ _) (E.mono (λj q=>⟨.inr q.1,q.2⟩) (E.bound c))
  ·have Q:kbi P s cs 1 e E.w h=some (Sl.v ⟨some (.new h.blks.size 0),s.len+1,.opn E.w⟩,(h.kill s.ref).push (.cells (rows.flatten++cs) e)):=by
    unfold kbi;simp only[K];rw[show Nat.beq 1 0=false from rfl,show Nat.beq E.w E.w=true from Nat.beq_refl _];simp only[cond_false,F,Bool.and_true,cond_true,r,show h.blks[k]?=_ from b];have C:=W.gets;rw[r]at C;simp only[C,qbr];rw[show Nat.beq e e=true from Nat.beq_refl _,cond_true];have:(AH.kill h (some (Ref.new k 0))).blks.size=h.blks.size:=by simp[AH.kill]
    simp[AH.next,this,Sl.v];rfl
   rw[Q,r];have sz:(h.kill (some (.new k 0))).blks.size=h.blks.size:=by simp[AH.kill]
   have u:Upd h (h.kill (some (.new k 0))) k:=AH.kill_Upd h k;refine⟨_,_,rfl,⟨by simpa using U,I,rfl,by simp[H],rows++[cs],e,?_,.inr ⟨rfl,rfl⟩,All2.snoc (r2.imp λ_ _ y=>?_) ?_⟩,u.trans ((ql _ _).toUpd k)⟩
   ·have:=qm (h.kill (some (.new k 0))) (rows.flatten++cs) e;rw[sz]at this
    simpa using this
   ·exact E.grow (ql _ _) (E.mono (λj q=>⟨.inl q.1,q.2⟩) (E.upd (λq=>a q.1) u (E.bound y)))
   ·exact E.grow (ql _ _) (E.mono (λj q=>⟨.inr q.1,q.2⟩) (E.upd (λq=>no q.1) u (E.bound c)))
end Go.Ab
namespace Go.Ab
variable{P:Program}
theorem k1o{h:AH}:∀(n:Nat){r:Ref}{es:List AV},h.gets r n=some es->es.length=n/\∀(k:Nat)(v:AV),es[k]?=some v->h.cell (r.add k)=some v
 | 0,r,es,e=>by
  simp only[AH.gets,qb8]at e;subst e;exact⟨rfl,λk v hv=>by simp at hv⟩
 | n+1,r,es,e=>by
  simp only[AH.gets,qbs,Option.map_eq_some_iff]at e;obtain⟨v,C,l,F,rfl⟩:=e;obtain⟨H,I⟩:=k1o n F;refine⟨by simp[H],λk u y=>?_⟩;cases k with
  | zero =>
   simp at y;subst y;rw[Ref.add_zero];exact C
  | succ k =>have:=I k u (by simpa using y);rw[<- this,Ref.add_add,Nat.add_comm]
theorem Sq.of_arg{α:Type}{E:Ef α}{S:Fp}{h:AH}{t e:TypeId}{cs:List AV}(hu:P.underlying t=some (.slice e))(hw:P.cellsOf e=E.w)(elem:∀es,ArgT P h e es->∃a,E.has h S es a)(a:ArgT P h t cs):∃(s:Sl)(xs:List α),cs=[s.v]/\Sq E h S s xs:=by
 rcases a.slice hu with rfl | ⟨F,len,cap,rfl,W,Z,h3⟩
 ·exact⟨⟨none,0,.is 0⟩,[],rfl,Sq.nil _ _ _⟩
 ·rw[hw]at h3
  have mk:∀n,n<=len->∃(rows:List (List AV))(xs:List α),rows.length=n/\All2 (E.has h S) rows xs/\∀(i:Nat)(r:List AV),rows[i]?=some r->h.gets (.old (F.add (i*E.w))) E.w=some r:=by
   intro n
   induction n with
   | zero=>exactλ_=>⟨[],[],rfl,.nil,λi r y=>by simp at y⟩
   | succ n ih =>
    intro hn;obtain⟨rows,xs,H,I,Q⟩:=ih (by omega);obtain⟨es,k1,k2⟩:=h3 n (by omega);obtain⟨x,k3⟩:=elem es k2;refine⟨rows++[es],xs++[x],by simp[H],I.snoc k3,λi r y=>?_⟩;by_cases U:i<rows.length
    ·rw[List.getElem?_append_left U]at y;exact Q i r y
    ·rw[List.getElem?_append_right (by omega)]at y
     have:i=n:=by
      rcases Nat.eq_zero_or_pos (i-rows.length)with h0 | h0
      ·omega
      ·rw[List.getElem?_eq_none (by simp;omega)]at y;cases y
     subst this;rw[H,Nat.sub_self]at y;simp at y;subst y;exact k1
  obtain⟨rows,xs,H,I,Q⟩:=mk len (qbn _);have K:=Ef.rows I;have C:=All2.length I;refine⟨⟨some (.old F),len,.is cap⟩,xs,rfl,⟨⟨rows,⟨W,by rw[khj K,H],λk v hv=>⟨_,rfl,?_⟩⟩,I⟩,by rw[<- C,H],?_,.inr λj o V=>by cases V⟩⟩
  ·have hk:k<rows.length*E.w:=by
    rw[<- khj K];exact(qcb.1 hv).1
   have y:k/E.w<rows.length:=Nat.div_lt_of_lt_mul (by rw[Nat.mul_comm];exact hk);have V:k%E.w<E.w:=Nat.mod_lt _ E.pos;have e1:=qb1 y;have e2:(rows[k/E.w])[k%E.w]?=some ((rows[k/E.w])[k%E.w]'(by rw[K _ (qb0 _)];exact V)):=qb1 _;have e3:=knb K e1 e2
   have e4:k/E.w*E.w+k%E.w=k:=by rw[Nat.mul_comm];exact Nat.div_add_mod k E.w
   rw[e4,hv]at e3;have e5:=(k1o E.w (Q _ _ e1)).2 _ _ e2;rw[<- Option.some.inj e3]at e5
   have e6:(Ref.old (F.add (k/E.w*E.w))).add (k%E.w)=(Ref.old F).add k:=by rw[show Ref.old (F.add (k/E.w*E.w))=(Ref.old F).add (k/E.w*E.w)from rfl,Ref.add_add,e4]
   rw[<- e6];exact e5
  ·have hm:maxLen=9223372036854775807:=by decide
   rw[<- C,H];rw[hm]at Z;exact qbo W Z
end Go.Ab
namespace Go.Ab
theorem AH.setBlk_get{h:AH}{l:Nat}{b:ABlk}(y:l<h.blks.size):(h.setBlk l b).blks[l]?=some b:=by simp[AH.setBlk,y]
abbrev qbl:=@AH.setBlk_get
theorem AH.setBlk_ne{h:AH}{l i:Nat}{b:ABlk}(y:i≠l):(h.setBlk l b).blks[i]?=h.blks[i]?:=by simp only[AH.setBlk];rw[Array.getElem?_setIfInBounds_ne (λe=>y e.symm)]
theorem AH.setBlk_size(h:AH)(l:Nat)(b:ABlk):(h.setBlk l b).blks.size=h.blks.size:=by simp[AH.setBlk]
theorem AH.setBlk_setBlk(h:AH)(l:Nat)(b c:ABlk):(h.setBlk l b).setBlk l c=h.setBlk l c:=by simp[AH.setBlk]
theorem AH.setBlk_same{h:AH}{l:Nat}{b:ABlk}(y:h.blks[l]?=some b):h.setBlk l b=h:=by
 obtain⟨C,F⟩:=qca.1 y
 have:h.blks.setIfInBounds l b=h.blks:=by
  apply Array.ext
  ·simp
  ·intro i H I;rw[Array.getElem_setIfInBounds];split
   ·subst_vars;rfl
   ·rfl
 unfold AH.setBlk;rw[this]
theorem Grow.setBlk{h y:AH}(g:Grow h y){l:Nat}(F:h.blks.size<=l)(b:ABlk):Grow h (y.setBlk l b):=⟨g.old,by rw[AH.setBlk_size];exact g.size,λi C=>by rw[AH.setBlk_ne (by omega)];exact g.blk i C⟩
theorem kq2{h:AH}{l:Nat}{y:Option Code}{f:FuncId}{fr:Fr}{ps:Array Tmp}{bs bd:Code}{d:Nat}(C:h.blks[l]?=some (.loop .ready y f fr ps bs bd d)) :
  beginA l h=some (h.setBlk l (.loop .busy y f fr ps bs bd d)):=by
 simp only[beginA,C]
theorem kk0{h:AH}{l:Nat}{st:LoopState}{y:Option Code}{f:FuncId}{fr:Fr}{ps:Array Tmp}{bs bd:Code}{d:Nat}(C:h.blks[l]?=some (.loop st y f fr ps bs bd d))(j:Option Code) :
  kci l j h=some (.bool j.isNone,h.setBlk l (.loop (cond j.isNone .ready .done) j f fr ps bs bd d)):=by
 simp only[kci,C]
theorem kos{h:AH}{l:Nat}{y:Option Code}{f:FuncId}{fr:Fr}{ps:Array Tmp}{bs bd:Code}{d:Nat}(C:h.blks[l]?=some (.loop .ready y f fr ps bs bd d)):kc0 l h=some (y,h.setBlk l .dead):=by simp only[kc0,C];rfl
theorem k9w{h:AH}{l:Nat}{y:Option Code}{f:FuncId}{fr:Fr}{ps:Array Tmp}{bs bd:Code}{d:Nat}(C:h.blks[l]?=some (.loop .done y f fr ps bs bd d)):kc0 l h=some (y,h.setBlk l .dead):=by simp only[kc0,C];rfl
theorem kp5{R:Type}{f:FuncId}{a c:List AV}{k:FuncId->List AV->List AV->Option R}:funcK (.func (.func f) a c) k=k f a c:=rfl
theorem Runs.newM{P:AV->AH->Prop}{h:AH}{b:ABlk}{K:Nat->AH->Option (AV×AH)}(H:∀h',h'.blks[h.blks.size]?=some b->Grow h h'->Runs (K h.blks.size h') P):Runs (newM h b K) P:=H _ (by simp[AH.alloc]) (ql h _)
variable{P:Program}
structure Md(T:Fp)(h h':AH):Prop where
 old:h'.old=h.old
 size:h.blks.size<=h'.blks.size
 blk:∀j,j<h.blks.size->¬T j->h'.blks[j]?=h.blks[j]?
theorem Md.refl(T:Fp)(h:AH):Md T h h:=⟨rfl,qbn _,λ_ _ _=>rfl⟩
theorem Grow.md{h h':AH}(g:Grow h h')(T:Fp):Md T h h':=⟨g.old,g.size,λj y _=>g.blk j y⟩
theorem Upd.md{h h':AH}{i:Nat}(u:Upd h h' i){T:Fp}(t:T i):Md T h h':=⟨u.old,u.size,λj y n=>u.blk j (λe=>n (e▸t)) y⟩
theorem UpdO.md{h h':AH}{T:Fp}:∀{i:Option Nat},UpdO h h' i->(∀k,i=some k->T k)->Md T h h'
 | none,u,_=>Grow.md u T
 | some k,u,t=>Upd.md u (t k rfl)
theorem Md.grow{h h':AH}{T:Fp}(m:Md T h h')(n:∀j,j<h.blks.size->¬T j):Grow h h':=⟨m.old,m.size,λj y=>m.blk j y (n j y)⟩
theorem Md.mono{h h':AH}{S T:Fp}(m:Md S h h')(f:∀j,j<h.blks.size->S j->T j):Md T h h':=⟨m.old,m.size,λj y n=>m.blk j y λs=>n (f j y s)⟩
theorem Md.next{h C F:AH}{S T:Fp}(a:Md S h C)(b:Md T C F)(f:∀j,j<h.blks.size->T j->S j):Md S h F:=⟨b.old.trans a.old,qbo a.size b.size,λj y n=>(b.blk j (qbp y a.size) λt=>n (f j y t)).trans (a.blk j y n)⟩
theorem Md.trans{h y C:AH}{T:Fp}(a:Md T h y)(b:Md T y C):Md T h C:=a.next b λ_ _ t=>t
theorem Md.thenG{h y C:AH}{T:Fp}(a:Md T h y)(b:Grow y C):Md T h C:=a.next (b.md Fp.no) λ_ _ t=>t.elim
theorem Grow.thenM{h y C:AH}{T:Fp}(a:Grow h y)(b:Md T y C):Md T h C:=(a.md T).trans b
def Dis(S T:Fp):Prop:=∀j,S j->T j->False
theorem Md.has{h h':AH}{T:Fp}(m:Md T h h'){i:Nat}{cs:List AV}{e:TypeId}(b:h.has i cs e)(n:¬T i):h'.has i cs e:=(m.blk i b.lt n).trans b
theorem Md.get{h h':AH}{T:Fp}(m:Md T h h'){i:Nat}{b:ABlk}(e:h.blks[i]?=some b)(n:¬T i):h'.blks[i]?=some b:=(m.blk i (qca.1 e).1 n).trans e
def mixA(h h':AH)(k:Nat):AH:=⟨h'.old,((List.range h.blks.size).map λi=>(if i<k then h'.blks[i]? else h.blks[i]?).getD .dead).toArray⟩
theorem kf5(h h':AH)(k:Nat):(mixA h h' k).blks.size=h.blks.size:=by simp[mixA]
theorem kjr{h h':AH}{k i:Nat}(hs:h.blks.size<=h'.blks.size)(y:i<h.blks.size):(mixA h h' k).blks[i]?=if i<k then h'.blks[i]? else h.blks[i]?:=by
 have C:i<h'.blks.size:=qbp y hs;simp only[mixA,List.getElem?_toArray,List.getElem?_map,List.getElem?_range y,Option.map_some];split
 ·rw[Array.getElem?_eq_getElem C];rfl
 ·rw[Array.getElem?_eq_getElem y];rfl
theorem Ef.md{α:Type}(E:Ef α){h h':AH}{S T:Fp}{cs:List AV}{a:α}(m:Md T h h')(d:Dis S T)(e:E.has h S cs a):E.has h' S cs a:=by
 have key:∀k,k<=h.blks.size->E.has (mixA h h' k) S cs a:=by
  intro k
  induction k with
  | zero =>
   intro _;refine E.grow ⟨m.old,by rw[kf5];exact qbn _,λi y=>?_⟩ e;rw[kjr m.size y,if_neg (by omega)]
  | succ k ih =>
   intro hk;have F:=ih (by omega);by_cases H:S k
   ·have I:¬T k:=λt=>d k H t;refine E.grow (show Grow (mixA h h' k) (mixA h h' (k+1))from⟨rfl,by rw[kf5,kf5];exact qbn _,λi y=>?_⟩) F;rw[kf5]at y;rw[kjr m.size y,kjr m.size y];by_cases K:i=k
    ·subst K;rw[if_pos (by omega),if_neg (by omega),m.blk i y I]
    ·by_cases C:i<k
     ·rw[if_pos (by omega),if_pos C]
     ·rw[if_neg (by omega),if_neg C]
   ·refine E.upd H (show Upd (mixA h h' k) (mixA h h' (k+1)) k from⟨rfl,by rw[kf5,kf5];exact qbn _,λi Q y=>?_⟩) F;rw[kf5]at y;rw[kjr m.size y,kjr m.size y];by_cases C:i<k
    ·rw[if_pos (by omega),if_pos C]
    ·rw[if_neg (by omega),if_neg C]
 refine E.grow (show Grow (mixA h h' h.blks.size) h' from⟨rfl,by rw[kf5];exact m.size,λi y=>?_⟩) (key _ (qbn _));rw[kf5]at y;rw[kjr m.size y,if_pos y]
section
variable{α:Type}{E:Ef α}
theorem Sq.md{h h':AH}{S T:Fp}{s:Sl}{xs:List α}(n:Sq E h S s xs)(m:Md T h h')(d:Dis S T):Sq E h' S s xs:=by obtain⟨s',e,y⟩:=Ef.md (Ef.seq E) m d (show(Ef.seq E).has h S [s.v] xs from⟨s,rfl,n⟩);cases Sl.vs_inj e;exact y
theorem Nats.mdE{h h':AH}{S T:Fp}{s:Sl}{xs:List Nat}(n:Nats h s xs)(a:∀j,¬Av s j xs->S j)(m:Md T h h')(d:Dis S T):Nats h' s xs:=by obtain⟨s',e,y,_⟩:=Ef.md Ef.nats m d (show Ef.nats.has h S [s.v] xs from⟨s,rfl,n,a⟩);cases Sl.vs_inj e;exact y
end
end Go.Ab
namespace Go.Ab
def kvGet{A:Type}:List (Int×A)->Int->Option A
 | [],_=>none
 | (k,v)::t,n=>if n=k then some v else kvGet t n
def kvPut{A:Type}:List (Int×A)->Int->A->List (Int×A)
 | [],n,v=>[(n,v)]
 | (k,w)::t,n,v=>if n=k then(k,v)::t else(k,w)::kvPut t n v
def kvDel{A:Type}:List (Int×A)->Int->List (Int×A)
 | [],_=>[]
 | (k,w)::t,n=>if n=k then t else(k,w)::kvDel t n
theorem k9l{A:Type}(l:List (Int×A))(n m:Int)(v:A):kvGet (kvPut l n v) m=if m=n then some v else kvGet l m:=by
 induction l with
 | nil=>simp[kvPut,kvGet]
 | cons p t ih =>
  obtain⟨k,w⟩:=p;simp only[kvPut];by_cases h:n=k
  ·subst h;rw[if_pos rfl];simp only[kvGet];by_cases y:m=n
   ·rw[if_pos y,if_pos y]
   ·rw[if_neg y,if_neg y,if_neg y]
  ·rw[if_neg h];simp only[kvGet,ih];by_cases y:m=k
   ·rw[if_pos y,if_pos y,if_neg (by omega)]
   ·rw[if_neg y,if_neg y]
theorem kxv{A:Type}{l:List (Int×A)}{n:Int}(v:A)(h:kvGet l n=none):kvPut l n v=l++[(n,v)]:=by
 induction l with
 | nil=>rfl
 | cons p t ih =>
  obtain⟨k,w⟩:=p;simp only[kvGet]at h;by_cases e:n=k
  ·rw[if_pos e]at h;cases h
  ·rw[if_neg e]at h;simp only[kvPut,if_neg e,ih h,List.cons_append]
theorem k2i{A:Type}{l:List (Int×A)}{n:Int}{w:A}(v:A)(h:kvGet l n=some w):(kvPut l n v).length=l.length:=by
 induction l with
 | nil=>cases h
 | cons p t ih =>
  obtain⟨k,u⟩:=p;simp only[kvGet]at h;by_cases e:n=k
  ·simp only[kvPut,if_pos e,qbz]
  ·rw[if_neg e]at h;simp only[kvPut,if_neg e,qbz,ih h]
def Kv(es:List AEnt)(l:List (Int×AV)):Prop:=es.map (λe=>(e.key,e.val))=l.map λp=>(AV.int .i64 p.1,p.2)
theorem Kv.nil:Kv [] []:=rfl
theorem Kv.len{es:List AEnt}{l:List (Int×AV)}(k:Kv es l):es.length=l.length:=by
 have:=congrArg List.length k
 simpa using this
theorem kws{n:Int}:∀{es:List AEnt}{l:List (Int×AV)}(j:Nat),Kv es l->
  (findA .i64 n es j=some none/\kvGet l n=none/\(∀v b,Kv (es++[⟨.int .i64 n,v,b⟩]) (kvPut l n v))/\kvDel l n=l)\/
  ∃t v,findA .i64 n es j=some (some (j+t,v))/\t<es.length/\kvGet l n=some v/\(∀w,Kv (es.modify t λe=>⟨.int .i64 n,w,e.born⟩) (kvPut l n w))/\Kv (es.eraseIdx t) (kvDel l n)
 | [],l,j,k=>by
  cases l with
  | nil=>exact .inl ⟨rfl,rfl,λv b=>rfl,rfl⟩
  | cons p t=>simp[Kv]at k
 | e::es,l,j,k=>by
  cases l with
  | nil=>simp[Kv]at k
  | cons p t =>
   obtain⟨m,w⟩:=p;simp only[Kv,List.map_cons,List.cons.injEq,qb9]at k;obtain⟨⟨y,C⟩,F⟩:=k;have ih:=kws (n:=n) (j+1) (show Kv es t from F);simp only[findA,y,decide_true,cond_true,kvGet,kvPut,kvDel];by_cases h:n=m
   ·subst h
    right
    refine⟨0,e.val,by simp,by simp,by rw[if_pos rfl,C],λu=>?_,?_⟩
    ·simp only[if_true];simp only[Kv,List.modify_zero_cons,List.map_cons];rw[show es.map _=t.map _ from F]
    ·simp only[if_true];exact F
   ·rw[qbw h,cond_false];simp only[if_neg h];rcases ih with⟨a,b,c,d⟩ | ⟨x,v,a,b,c,d,f⟩
    ·left
     refine⟨a,b,λv H=>?_,by rw[d]⟩;have:=c v H;simp only[Kv,List.map_append,List.cons_append,List.map_cons]at this|-;rw[this,y,C]
    ·right
     refine⟨x+1,v,by rw[a];congr 3;omega,by simp;omega,c,λu=>?_,?_⟩
     ·have:=d u;simp only[Kv,List.modify_succ_cons,List.map_cons]at this|-;rw[this,y,C]
     ·simp only[Kv,List.eraseIdx_cons_succ,List.map_cons]at f|-;rw[f,y,C]
def MapIs(h:AH)(i:Nat)(l:List (Int×AV)):Prop:=∃es ck,h.blks[i]?=some (.map es ck)/\Kv es l
theorem MapIs.lt{h:AH}{i:Nat}{l:List (Int×AV)}(m:MapIs h i l):i<h.blks.size:=by obtain⟨es,y,e,_⟩:=m;exact(qca.1 e).1
theorem AH.setBlk_Upd{h:AH}{i:Nat}(b:ABlk):Upd h (h.setBlk i b) i:=⟨rfl,by rw[AH.setBlk_size];exact qbn _,λj y _=>AH.setBlk_ne y⟩
abbrev qbm:=@AH.setBlk_Upd
section
variable{h:AH}{i:Nat}{l:List (Int×AV)}
theorem MapIs.at(m:MapIs h i l):∃es y,h.mapAt i=some (es,y)/\Kv es l:=by obtain⟨es,y,e,k⟩:=m;exact⟨es,y,by simp only[AH.mapAt,e],k⟩
theorem MapIs.put(m:MapIs h i l)(n:Int)(v:AV):∃h',mapPut h i .i64 n v=some h'/\MapIs h' i (kvPut l n v)/\Upd h h' i:=by
 have y:=m.lt;obtain⟨es,C,e,k⟩:=m.at;simp only[mapPut,e,qbr];rcases kws (n:=n) 0 k with⟨a,b,c,_⟩ | ⟨t,w,a,_,b,c,_⟩
 ·rw[a];exact⟨_,rfl,⟨_,_,qbl y,c v C⟩,qbm _⟩
 ·rw[a,Nat.zero_add];exact⟨_,rfl,⟨_,_,qbl y,c v⟩,qbm _⟩
theorem MapIs.size(m:MapIs h i l):mapLen h (some i)=some l.length:=by obtain⟨es,y,e,k⟩:=m.at;simp only[mapLen,e,Option.map_some,k.len]
end
section
variable{P:AV->AH->Prop}
theorem Runs.call{x:Option (AV×AH)}{Q:AV->AH->Prop}{K:AV×AH->Option (AV×AH)}(r:Runs x Q)(H:∀v h',Q v h'->Runs (K (v,h')) P):Runs (x.bind K) P:=by obtain⟨v,h',e,q⟩:=r;subst e;exact H v h' q
theorem Runs.newMap{h:AH}{K:Nat->AH->Option (AV×AH)}(H:∀h',MapIs h' h.blks.size []->Grow h h'->Runs (K h.blks.size h') P):Runs (Go.Ab.newM h (.map [] 0) K) P:=Runs.newM λh' e g=>H h' ⟨[],0,e,Kv.nil⟩ g
theorem kl1{n:Nat}{G:Int->AH->Option (AV×AH)}{p:Nat->Bool}{h0:AH}
  (step:∀(i:Nat)(h:AH)(P:AV->AH->Prop),i<n->Grow h0 h->(∀h',Grow h0 h'->p i=true->P (.int .i64 (i:Int)) h')->(∀h',Grow h0 h'->p i=false->Runs (G ((i+1:Nat):Int) h') P)->Runs (G (i:Int) h) P)
  (done:∀(h:AH),Grow h0 h->G (n:Int) h=some (.int .i64 (-1),h)):∀(k i:Nat),i+k=n->∀{h:AH},Grow h0 h->(∀j,j<i->p j=false)->
  Runs (G (i:Int) h) λv h'=>Grow h0 h'/\((v=.int .i64 (-1)/\∀j,j<n->p j=false)\/∃j,j<n/\v=.int .i64 (j:Int)/\p j=true/\∀t,t<j->p t=false):=by
 intro k
 induction k with
 | zero =>
  intro i F h g hp;have:i=n:=by omega
  subst this;rw[done h g];exact qu ⟨g,.inl ⟨rfl,hp⟩⟩
 | succ k ih =>
  intro i F h g hp;refine step i h _ (by omega) g (λh' y e=>⟨y,.inr ⟨i,by omega,rfl,e,hp⟩⟩) λh' y e=>ih (i+1) (by omega) y λj H=>?_;rcases Nat.lt_or_ge j i with C | C
  ·exact hp j C
  ·have:j=i:=by omega
   subst this;exact e
theorem Runs.contains{α:Type}{xs:List α}{p:α->Bool}{x:Option (AV×AH)}{h0:AH}(R:Runs x λv h'=>Grow h0 h'/\((v=.int .i64 (-1)/\∀j,j<xs.length->(xs[j]?).any p=false)\/∃j,j<xs.length/\v=.int .i64 (j:Int)/\(xs[j]?).any p=true/\∀t,t<j->(xs[t]?).any p=false)) :
  Runs (x.bind λq=>((some q.1).bind (AV.asInt .i64)).bind λn=>some (.bool (decide (n>=0)),q.2)) λv h'=>v=.bool (xs.any p)/\Grow h0 h':=by
 refine R.call λv h' ⟨g,d⟩=>?_;rcases d with⟨rfl,a⟩ | ⟨j,C,rfl,a,_⟩
 ·refine qw (seen qcl) (qu ⟨?_,g⟩)
  have:xs.any p=false:=by
   rw[List.any_eq_false];intro y H;obtain⟨t,F,rfl⟩:=List.getElem_of_mem H;have:=a t F;rw[qb1 F]at this
   simpa using this
  rw[this];exact congrArg AV.bool (qbw (by omega))
 ·refine qw (seen qcl) (qu ⟨?_,g⟩)
  have:xs.any p=true:=by rw[List.any_eq_true];rw[qb1 C]at a;exact⟨xs[j],qb0 C,by simpa using a⟩
  rw[this];exact congrArg AV.bool (qbv (by omega))
end
abbrev EI:Ef Int:=Ef.int .i64
section
variable{h:AH}{S:Fp}{s:Sl}
theorem Sq.int{k:IntKind}{xs:List Int}(n:Sq (Ef.int k) h S s xs){i:Nat}(C:i<xs.length):∃r:Ref,idx s.ref s.len (i:Int) 1=some r/\(h.cell r).bind (AV.asInt k)=some xs[i]:=by obtain⟨r,cs,F,y,l⟩:=n.at (kgy C);have y:cs=[.int k xs[i]]:=y;subst y;rw[n.len];exact⟨r,F,l.rd0 (qk _) rfl qcl⟩
theorem Sq.sl{α:Type}{E:Ef α}{xs:List (List α)}(n:Sq (Ef.seq E) h S s xs){i:Nat}(y:i<xs.length):∃(r:Ref)(s':Sl),idx s.ref s.len (i:Int) 1=some r/\(h.cell r).bind AV.asSl=some s'/\(h.cell (r.add 0)).bind AV.asSl=some s'/\Sq E h S s' xs[i]:=by obtain⟨r,cs,C,⟨s',rfl,F⟩,l⟩:=n.at (kgy y);rw[n.len];exact⟨r,s',C,l.rd0 (qk _) rfl qck,l.rd (qk _) 0 rfl qck,F⟩
theorem Sq.nats{xs:List (List Nat)}(n:Sq Ef.nats h S s xs){i:Nat}(y:i<xs.length):∃(r:Ref)(s':Sl),idx s.ref s.len (i:Int) 1=some r/\(h.cell r).bind AV.asSl=some s'/\Nats h s' xs[i]/\∀j,¬Av s' j xs[i]->S j:=by obtain⟨r,cs,C,⟨s',rfl,F,a⟩,l⟩:=n.at (kgy y);rw[n.len];exact⟨r,s',C,l.rd0 (qk _) rfl qck,F,a⟩
end
theorem k7j{P:Program}{h:AH}{t e:TypeId}{cs:List AV}{k:IntKind}(S:Fp)(C:P.underlying t=some (.slice e))(F:P.underlying e=some (.int k))(H:P.cellsOf e=1)(a:ArgT P h t cs):∃(s:Sl)(xs:List Int),cs=[s.v]/\Sq (Ef.int k) h S s xs :=
 Sq.of_arg (E:=Ef.int k) C H (λes t=>by obtain⟨y,rfl,w⟩:=t.int F;exact⟨y,rfl⟩) a
structure Nd where
 leaf:Bool
 weight:Int
 party:Int
 feature:Int
 cut:Int
 left:Int
 right:Int
 deriving DecidableEq
def Nd.cells(x:Nd):List AV:=[.bool x.leaf,.int .i64 x.weight,.int .i64 x.party,.int .i64 x.feature,.int .i64 x.cut,.int .i64 x.left,.int .i64 x.right]
@[reducible] def Ef.nd:Ef Nd where
 w:=7
 pos:=by decide
 has _ _ cs x:=cs=x.cells
 len e:=by rw[e];rfl
 grow _ e:=e
 mono _ e:=e
 upd _ _ e:=e
 bound e:=e
theorem k7r{α:Type}{xs:List α}{i:Nat}(y:i<xs.length)(p:α->Bool):(xs.drop i).all p=(p xs[i]&&(xs.drop (i+1)).all p):=by rw[qcd y,List.all_cons]
theorem kwu{α:Type}{xs:List α}{i:Nat}(y:xs.length<=i)(p:α->Bool):(xs.drop i).all p=true:=by rw[List.drop_of_length_le y];rfl
theorem kzo{n i:Nat}(y:i<n)(p:Nat->Bool):((List.range n).drop i).all p=(p i&&((List.range n).drop (i+1)).all p):=by rw[k7r (by simpa using y),List.getElem_range]
variable{P:Program}{α:Type}{E:Ef α}{elem:TypeId}
variable{h h':AH}{S T:Fp}{s:Sl}{k:Nat}{xs:List α}
end Go.Ab
namespace Go.Num
def half(n:Nat):Nat:=(n+1)/2
theorem kbf5{n:Nat}(y:n%2=1)(e:Nat):(2^e*half n^e)%n=1%n:=by rw[<- Nat.mul_pow,show 2*half n=n+1 from by unfold half;omega,Nat.pow_mod,Nat.add_mod_left,<- Nat.pow_mod,Nat.one_pow]
def redc(n e z:Nat):Nat:=z*half n^e%n
theorem kic(n e z:Nat):redc n e (z%n)=redc n e z:=by unfold redc;rw[Nat.mod_mul_mod]
theorem ko8{n:Nat}(y:n%2=1)(e x:Nat):redc n e (x*2^e)=x%n:=by unfold redc;rw[Nat.mul_assoc,Nat.mul_mod,kbf5 y,<- Nat.mul_mod,Nat.mul_one]
theorem kx8{n e r z:Nat}(y:n%2=1)(C:r<n)(h:(r*2^e)%n=z%n):r=redc n e z:=by rw[<- kic,<- h,kic,ko8 y,Nat.mod_eq_of_lt C]
theorem kbae{n e x y:Nat}(C:n%2=1):redc n e (x*2^e%n*(y*2^e%n))=x*y*2^e%n:=by rw[<- kic,<- Nat.mul_mod,kic,show x*2^e*(y*2^e)=x*y*2^e*2^e from by simp only[Nat.mul_assoc,Nat.mul_comm,Nat.mul_left_comm],ko8 C]
theorem k9t{n e a:Nat}(y:n%2=1):redc n e (a*(2^e*2^e%n))=a*2^e%n:=by rw[<- kic,Nat.mul_mod_mod,kic,<- Nat.mul_assoc,ko8 y]
theorem kbka{n e x:Nat}(y:n%2=1):redc n e (x*2^e%n*1)=x%n:=by rw[Nat.mul_one,kic,ko8 y]
theorem k8u{b T Y x N v:Nat}(C:0<b)(hv:(N*v+1)%b=0):(T+Y*x+N*((T+Y*x)%b*v%b))%b=0:=by
 generalize T+Y*x=U
 have y:(U+N*(U%b*v%b))%b=(U+N*(U*v))%b:=by rw[Nat.add_mod,Nat.mul_mod_mod_aux N U v b,<- Nat.add_mod]
 rw[y,show U+N*(U*v)=U*(N*v+1)from by rw[Nat.mul_add,Nat.mul_one,Nat.add_comm];simp only[Nat.mul_comm,Nat.mul_left_comm],Nat.mul_mod,hv,Nat.mul_zero,Nat.zero_mod]
where
 Nat.mul_mod_mod_aux (N U v b:Nat):N*(U%b*v%b)%b=N*(U*v)%b:=by rw[Nat.mul_mod_mod,<- Nat.mul_mod_mod,Nat.mod_mul_mod,Nat.mul_mod_mod]
theorem kbgu{b T Y x N m:Nat}(H:T<Y+N)(I:x<b)(K:m<b):(T+Y*x+N*m)/b<Y+N:=by
 have y:0<b:=by omega
 rw[Nat.div_lt_iff_lt_mul y];have C:Y*x<=Y*(b-1):=Nat.mul_le_mul_left _ (by omega);have F:N*m<=N*(b-1):=Nat.mul_le_mul_left _ (by omega);obtain⟨c,rfl⟩:∃c,b=c+1:=⟨b-1,by omega⟩;rw[Nat.add_mul,Nat.mul_add Y,Nat.mul_add N,Nat.mul_one,Nat.mul_one];simp only[Nat.add_sub_cancel]at C F;omega
theorem k56{b p T Y x X N M m y:Nat}(h:T*p=X*Y+N*M)(e:T+Y*x+N*m=y*b):y*(p*b)=(X+p*x)*Y+N*(M+p*m):=by
 have:y*(p*b)=(y*b)*p:=by simp only[Nat.mul_assoc,Nat.mul_comm,Nat.mul_left_comm]
 rw[this,<- e,Nat.add_mul,Nat.add_mul,h,Nat.add_mul,Nat.mul_add];simp only[Nat.mul_assoc,Nat.mul_comm,Nat.mul_left_comm];omega
theorem newton{n x p w:Nat}(C:w=p*p)(h:(n*x)%p=1%p):∀y:Int,(y%(w:Int))=((x:Int)*(2-(n:Int)*x))%(w:Int)->((n:Int)*y)%(w:Int)=1%(w:Int):=by
 intro y F;have H:((n:Int)*x)%(p:Int)=1%(p:Int):=by exact_mod_cast h
 have I:(p:Int)∣((n:Int)*x-1):=(Int.emod_emod_of_dvd_aux H);obtain⟨c,Q⟩:=I;have K:(n:Int)*x=1+p*c:=by omega
 rw[<- Int.mul_emod_aux (n:Int) y (w:Int),F,Int.mul_emod_aux]
 have e:(n:Int)*((x:Int)*(2-(n:Int)*x))=1+(w:Int)*(-(c*c)):=by
  rw[<- Int.mul_assoc,K,C]
  push_cast
  have:(1+(p:Int)*c)*(2-(1+p*c))=1-(p*c)*(p*c):=by generalize (p:Int)*c=t;rw[Int.mul_sub,Int.add_mul 1 t (1+t),Int.mul_add,Int.mul_add];omega
  rw[this,Int.mul_neg,Int.sub_eq_add_neg];congr 2;simp only[Int.mul_assoc,Int.mul_comm,Int.mul_left_comm]
 rw[e,Int.add_mul_emod_self_left]
where
 Int.emod_emod_of_dvd_aux {a p:Int} (h:a%p=1%p):p∣a-1:=Int.dvd_of_emod_eq_zero (by rw[Int.sub_emod,h,Int.sub_self,Int.zero_emod])
 Int.mul_emod_aux (a y w:Int):a*(y%w)%w=a*y%w:=by rw[Int.mul_emod,Int.emod_emod,<- Int.mul_emod]
end Go.Num
set_option maxRecDepth 10000
namespace Go.Ab
open Go.Proofs Go.Num
theorem kyf{h:AH}{s:Sl}{xs:List Nat}(n:Nats h s xs):∀(k:Nat),k<=xs.length->(∀i,k<=i->(K:i<xs.length)->xs[i]=0)->
  ∃s',go (.pt kif kqp [(0,s.v),(3,.i (k:Int))]) h=some (s'.v,h)/\Nats h s' (digs B (num B xs))/\∀h0,Own h0 s->Own h0 s'
 | 0,hk,y=>by
  rw[kzt];obtain⟨s',C,F,e3⟩:=n.cut (l:=0) (n:=0) (qbn _) hk;have:=kp6 B2 n.lt y hk (.inl rfl);simp at C;simp only[Int.natCast_zero,gt_iff_lt,Int.lt_irrefl,decide_false,cond_false,C,qbr];refine⟨s',rfl,?_,e3⟩;rw[<- this]
  simpa using F
 | k+1,hk,y=>by
  rw[kzt];obtain⟨r,C,F⟩:=n.at (i:=k) (by omega);have hs:=n.short;rw[kop (by omega)];rw[show(decide (((k+1:Nat):Int)>0))=true from by rw[qbu];omega];simp only[cond_true,C,F,qbr,kc];by_cases H:xs[k]=0
  ·rw[H,show(decide (((0:Nat):Int)=0))=true from rfl,cond_true];refine kyf n k (by omega) λi K I=>?_;rcases Nat.lt_or_ge k i with Q | Q
   ·exact y i (by omega) I
   ·have:i=k:=by omega
    subst this;exact H
  ·obtain⟨s',e3,U,V⟩:=n.cut (l:=0) (n:=k+1) (by omega) hk;have W:=kp6 B2 n.lt y hk (.inr ⟨by omega,by simpa using H⟩);rw[show(decide (((xs[k]:Nat):Int)=0))=false from by rw[qbt];omega];simp only[cond_false];rw[show cutSl s 0 ((k+1:Nat):Int) 1=some s' from e3];refine⟨s',rfl,?_,V⟩;rw[<- W]
   simpa using U
theorem k6r{h:AH}{s:Sl}{xs:List Nat}(n:Nats h s xs):∃s',go (.fn kif [s.v]) h=some (s'.v,h)/\Nats h s' (digs B (num B xs))/\∀h0,Own h0 s->Own h0 s':=by rw[k4l,n.len];exact kyf n xs.length (qbn _) λi y C=>by omega
end Go.Ab
set_option maxRecDepth 10000
namespace Go.Ab
open IntKind (wrap)
open Go.Proofs Go.Num
inductive kgv
 | fn (x1:List Nat) (x2:List Nat) (a3:Int)
 | p2 (x1:List Nat) (x2:List Nat) (a3:Int) (a4:Int) (a5:Int) (a6:Int)
abbrev keg:=List Nat
noncomputable def kvv(x1 x2:List Nat)(a3:Int):Option (kgv⊕keg):=some (.inl (.p2 x1 x2 a3 0 (List.length x1:Int) 0))
noncomputable def kgo(x1 x2:List Nat)(a3 a4 a5 a6:Int):Option (kgv⊕keg):=cond (decide (a6<a5)) (cond (decide (a6<(List.length x2:Int))) ((atI x2 a6).bind λU=>(add64P ((mul64 ((U:Int)) a3).2) a4 0).bind λy=>(inI (List.length x1) a6).bind λC=>(add64P (((List.getD x1 C 0:Nat):Int)) (y.1) 0).bind λF=>(inI (List.length x1) a6).bind λH=>(u64P (F.1)).bind λI=>some (.inl (.p2 (List.set x1 H I) x2 a3 (wrap .u64 ((wrap .u64 (((mul64 ((U:Int)) a3).1)+(y.2)))+(F.2))) a5 (wrap .i64 (a6+1))))) ((add64P 0 a4 0).bind λp9=>(inI (List.length x1) a6).bind λK=>(add64P (((List.getD x1 K 0:Nat):Int)) (p9.1) 0).bind λy=>(inI (List.length x1) a6).bind λC=>(u64P (y.1)).bind λQ=>some (.inl (.p2 (List.set x1 C Q) x2 a3 (wrap .u64 ((wrap .u64 (0+(p9.2)))+(y.2))) a5 (wrap .i64 (a6+1)))))) (some (.inr x1))
noncomputable def keu:kgv->Option (kgv⊕keg)
 | .fn x1 x2 a3=>kvv x1 x2 a3
 | .p2 x1 x2 a3 a4 a5 a6=>kgo x1 x2 a3 a4 a5 a6
@[reducible] def ku7(h0:AH)(a:Sl)(i:Nat)(r:keg)(v:AV)(h':AH):Prop:=v=.tup []/\Vec h' a i r/\Upd h0 h' i
def km4(r:keg):kgv->Prop
 | .fn x1 x2 a3=>∀{h:AH}{a1:Sl}{a2:Sl}{y:Nat},Vec h a1 y x1->Nats h a2 x2->Av a2 y x2->Runs (go (.fn kdp [a1.v,a2.v,.int .u64 a3]) h) (ku7 h a1 y r)
 | .p2 x1 x2 a3 a4 a5 a6=>∀{h0 h:AH}{a1:Sl}{a2:Sl}{y:Nat},Upd h0 h y->Vec h a1 y x1->Nats h a2 x2->Av a2 y x2->Runs (go (.pt kdp kmu [(0,a1.v),(1,a2.v),(2,.int .u64 a3),(6,.int .u64 a4),(12,.i a5),(13,.i a6)]) h) (ku7 h0 a1 y r)
theorem kbkk{r:keg}{o:kgv⊕keg}{x1 x2:List Nat}{a3:Int}(e:kvv x1 x2 a3=some o)(C:GoodS (km4 r) r o):km4 r (.fn x1 x2 a3):=by intro h a1 a2 H F n2 y;rw[kbgy];unfold kvv at e;rw[F.nats.len];cases e;exact C ((qk _).toUpd _) F n2 y
theorem kba3{r:keg}{o:kgv⊕keg}{x1 x2:List Nat}{a3 a4 a5 a6:Int}(e:kgo x1 x2 a3 a4 a5 a6=some o)(C:GoodS (km4 r) r o):km4 r (.p2 x1 x2 a3 a4 a5 a6):=by
 intro h0 h a1 a2 i1 g0 H n2 y;rw[kbhj];unfold kgo at e;rw[H.nats.len];rw[n2.len];refine qba (λk7=>?_) (λk7=>?_)
 ·replace e:=(condT k7).symm.trans e;refine qba (λk8=>?_) (λk8=>?_)
  ·replace e:=(condT k8).symm.trans e;obtain⟨y9,q9,e⟩:=qbs.1 e;obtain⟨r9,j9,l9⟩:=n2.atI q9;refine qw j9 (qw (rdc l9 qcl) (qw (kou ((y9:Int)) a3) (qw rfl (qw (seen qcl) (qw (seen qcl) ?_)))));obtain⟨aa,I,e⟩:=qbs.1 e;refine qw (ke2 I) (qw rfl (qw (seen qcl) (qw (seen qcl) ?_)));obtain⟨ac,F,e⟩:=qbs.1 e;refine qw (H.idx rfl F) (qw (H.rd rfl F qcl) ?_);obtain⟨ai,ad,e⟩:=qbs.1 e;refine qw (ke2 ad) (qw rfl (qw (seen qcl) (qw (seen qcl) ?_)));obtain⟨aj,U,e⟩:=qbs.1 e;refine qw (H.idx rfl U) ?_;obtain⟨ak,ae,e⟩:=qbs.1 e;refine qbf H rfl U ae λal af V=>?_;have K:=n2.upda y V;cases e;exact C (g0.trans V) af K y
  ·replace e:=(condF k8).symm.trans e;obtain⟨p9,q9,e⟩:=qbs.1 e;refine qw (ke2 q9) (qw rfl (qw (seen qcl) (qw (seen qcl) ?_)));obtain⟨am,W,e⟩:=qbs.1 e;refine qw (H.idx rfl W) (qw (H.rd rfl W qcl) ?_);obtain⟨aa,I,e⟩:=qbs.1 e;refine qw (ke2 I) (qw rfl (qw (seen qcl) (qw (seen qcl) ?_)));obtain⟨ac,F,e⟩:=qbs.1 e;refine qw (H.idx rfl F) ?_;obtain⟨an,ag,e⟩:=qbs.1 e;refine qbf H rfl F ag λap ah Z=>?_;have Q:=n2.upda y Z;cases e;exact C (g0.trans Z) ah Q y
 ·replace e:=(condF k7).symm.trans e;cases e;cases C;exact qu ⟨rfl,H,g0⟩
theorem kbfy{s:kgv}{r:keg}(C:Iter keu s r):km4 r s:=qbe (λs o e y=>by
 cases s with
 | fn x1 x2 a3=>exact @kbkk _ _ x1 x2 a3 e y
 | p2 x1 x2 a3 a4 a5 a6=>exact @kba3 _ _ x1 x2 a3 a4 a5 a6 e y
 ) C
theorem kqa{h:AH}{a1 a2:Sl}{C:Nat}{x1 x2:List Nat}{a3:Int}(F:Vec h a1 C x1)(n2:Nats h a2 x2)(y:Av a2 C x2){r:keg}(q:runP keu (.fn x1 x2 a3)=some r):Runs (go (.fn kdp [a1.v,a2.v,.int .u64 a3]) h) (ku7 h a1 C r):=kbfy (kd5 q) F n2 y
end Go.Ab
set_option maxRecDepth 10000
namespace Go.Ab
open Go.Proofs Go.Num
def addMul:List Nat->List Nat->Nat->Nat->List Nat
 | [],_,_,_=>[]
 | t::ts,ys,a,c=>(t+ys.headD 0*a+c)%B::addMul ts ys.tail a ((t+ys.headD 0*a+c)/B)
theorem kk4:∀(y ys:List Nat)(a c:Nat),(addMul y ys a c).length=y.length
 | [],_,_,_=>rfl
 | t::y,ys,a,c=>by rw[addMul,qbz,qbz,kk4]
theorem kni:∀(y ys:List Nat)(a c:Nat),∀x∈addMul y ys a c,x<B
 | [],_,_,_,x,h=>by cases h
 | t::y,ys,a,c,x,h=>by
  rw[addMul]at h;rcases qb3.1 h with rfl | h
  ·exact Nat.mod_lt _ (by decide)
  ·exact kni y _ _ _ x h
theorem kq8(b x:Nat)(xs:List Nat):num b (x::xs)=x+b*num b xs:=rfl
theorem klz(b:Nat)(ys:List Nat):num b ys=ys.headD 0+b*num b ys.tail:=by
 cases ys with
 | nil=>simp[num]
 | cons y ys=>rfl
theorem krk:∀(C ys:List Nat)(a c:Nat),num B (addMul C ys a c)=(num B C+num B ys*a+c)%B^C.length
 | [],ys,a,c=>by simp[addMul,num,Nat.mod_one]
 | t::C,ys,a,c=>by
  rw[addMul,kq8,krk C,kq8,klz B ys,qbz,Nat.pow_succ,Nat.mul_comm (B^C.length) B,Nat.mod_mul];generalize ys.headD 0=y;generalize num B ys.tail=Y;generalize num B C=T
  have e:t+B*T+(y+B*Y)*a+c=(t+y*a+c)+B*(T+Y*a):=by rw[Nat.add_mul,Nat.mul_add,Nat.mul_assoc];omega
  rw[e,Nat.add_mul_mod_self_left,Nat.add_mul_div_left _ _ (show 0<B from by decide)];congr 3;omega
theorem k9j{t o c:Nat}(y:o<18446744073709551616)(C:c<18446744073709551616)(h:(o+t+c)/18446744073709551616<18446744073709551616) :
  (o+(t%18446744073709551616+c+0)%18446744073709551616+0)%18446744073709551616=(o+t+c)%18446744073709551616/\
  IntKind.wrap .u64 (IntKind.wrap .u64 (((t/18446744073709551616:Nat):Int)+(((t%18446744073709551616+c+0)/18446744073709551616:Nat):Int))+(((o+(t%18446744073709551616+c+0)%18446744073709551616+0)/18446744073709551616:Nat):Int))=(((o+t+c)/18446744073709551616:Nat):Int):=by
 rw[wrapU,wrapU];omega
theorem kbi7{o c:Nat}(y:o<18446744073709551616)(C:c<18446744073709551616) :
  (o+(0+c+0)%18446744073709551616+0)%18446744073709551616=(o+c)%18446744073709551616/\
  IntKind.wrap .u64 (IntKind.wrap .u64 (0+(((0+c+0)/18446744073709551616:Nat):Int))+(((o+(0+c+0)%18446744073709551616+0)/18446744073709551616:Nat):Int))=(((o+c)/18446744073709551616:Nat):Int):=by
 rw[wrapU,wrapU];omega
theorem koh{α:Type}(l:List α)(x y:α)(r:List α){n:Nat}(h:n=l.length):(l++x::r).set n y=(l++[y])++r:=by subst h;simp
theorem kwv{ys:List Nat}{a:Nat}(U:a<B)(ly:∀y∈ys,y<B):∀(C l:List Nat)(c:Nat),(∀t∈C,t<B)->c<B->l.length+C.length<=8796093022208->
  Iter keu (.p2 (l++C) ys (a:Int) (c:Int) ((l.length+C.length:Nat):Int) (l.length:Int)) (l++addMul C (ys.drop l.length) a c)
 | [],l,c,_,_,_=>by
  refine .done ?_;show kgo _ _ _ _ _ _=_;unfold kgo;rw[condF (by rw[qbt];simp)];rfl
 | t::C,l,c,lt,K,hn=>by
  have Q:=lt t (by simp);have aa:l.length+C.length+1<=8796093022208:=by simpa[Nat.add_assoc]using hn
  have V:l.length<(l++t::C).length:=by simp
  have hg:List.getD (l++t::C) l.length 0=t:=by rw[kcb V];simp
  have W:=λ(H:Nat) (I:H<B) (x:Nat)=>kwv U ly C (l++[x]) H (λt h=>lt t (by simp[h])) I (by simp;omega)
  have key:∀(H x:Nat),H<B->kgo (l++t::C) ys (a:Int) (c:Int) ((l.length+(t::C).length:Nat):Int) (l.length:Int)=some (.inl (.p2 ((l++[x])++C) ys (a:Int) (H:Int) ((l.length+(t::C).length:Nat):Int) ((l.length+1:Nat):Int)))->
    x=(t+(ys.drop l.length).headD 0*a+c)%B->H=(t+(ys.drop l.length).headD 0*a+c)/B->Iter keu (.p2 (l++t::C) ys (a:Int) (c:Int) ((l.length+(t::C).length:Nat):Int) (l.length:Int)) (l++addMul (t::C) (ys.drop l.length) a c):=λH x I h1 hx Z=>by
   refine .next h1 ?_;have:=W H I x;have e1:(l++[x]).length+C.length=l.length+(t::C).length:=by simp;omega
   have e2:(l++[x]).length=l.length+1:=by simp
   rw[e1,e2]at this;rw[addMul,<- hx,<- Z,List.tail_drop]
   simpa using this
  by_cases hi:l.length<ys.length
  ·have hy:=ly ys[l.length] (qb0 _);have hd:(ys.drop l.length).headD 0=ys[l.length]:=by rw[qcd hi];rfl
   rw[hd]at key;have F:(t+ys[l.length]*a+c)/B<B:=by rw[Nat.add_comm t];exact kzl hy U Q K
   obtain⟨c1,c2⟩:=k9j (t:=ys[l.length]*a) Q K F;refine key _ _ F ?_ rfl rfl;unfold kgo;rw[condT (by rw[qbu];rw[qbz];omega),condT (by rw[qbu];omega),kb4 hi,qbr,ksm hy U];dsimp only;have a1:=kgu (ys[l.length]*a%B) c (c:=0) (by omega);have a2:=kgu t ((ys[l.length]*a%B+c+0)%18446744073709551616) (c:=0) (by omega);rw[show((0:Nat):Int)=0 from rfl]at a1 a2;rw[a1,qbr,kx V,qbr,hg];dsimp only;rw[a2,qbr,qbr];dsimp only;rw[c1,c2,kbm (Nat.mod_lt _ (by decide)),qbr,ko (by omega),koh l t _ C rfl]
  ·have hd:(ys.drop l.length).headD 0=0:=by rw[List.drop_eq_nil_of_le (by omega)];rfl
   simp only[hd,Nat.zero_mul,Nat.add_zero]at key
   have F:(t+c)/B<B:=by have:t<18446744073709551616:=Q;have:c<18446744073709551616:=K;show(t+c)/18446744073709551616<18446744073709551616;omega
   obtain⟨c1,c2⟩:=kbi7 Q K;refine key _ _ F ?_ rfl rfl;unfold kgo;rw[condT (by rw[qbu];rw[qbz];omega),condF (by rw[qbt];omega)];have a1:=kgu 0 c (c:=0) (by omega);have a2:=kgu t ((0+c+0)%18446744073709551616) (c:=0) (by omega);rw[show((0:Nat):Int)=0 from rfl]at a1 a2;rw[a1,qbr,kx V,qbr,hg];dsimp only;rw[a2,qbr,qbr];dsimp only;rw[c1,c2,kbm (Nat.mod_lt _ (by decide)),qbr,ko (by omega),koh l t _ C rfl]
theorem kzs{C ys:List Nat}{a:Nat}(lt:∀t∈C,t<B)(F:∀y∈ys,y<B)(H:a<B)(I:C.length<=8796093022208):runP keu (.fn C ys (a:Int))=some (addMul C ys a 0):=by
 refine kc4 (.next rfl ?_);have:=kwv H F C [] 0 lt (by decide) (by simpa using I)
 simpa using this
end Go.Ab
set_option maxRecDepth 10000
namespace Go.Ab
open IntKind (wrap)
open Go.Proofs Go.Num
inductive kfv
 | fn (x1c0:List Nat) (z1c1:Int) (x1c2:List Nat) (x1c3:List Nat) (x2:List Nat) (x3:List Nat)
 | p4 (x1c0:List Nat) (z1c1:Int) (x1c2:List Nat) (x1c3:List Nat) (x2:List Nat) (x3:List Nat) (a4:Int) (x5:List Nat) (a6:Int) (a7:Int)
abbrev kd3:=List Nat
noncomputable def klm(x1c0:List Nat)(z1c1:Int)(x1c2 x1c3 x2 x3:List Nat):Option (kfv⊕kd3):=(mkI (wrap .i64 ((List.length x1c0:Int)+2)) (wrap .i64 ((List.length x1c0:Int)+2))).bind λy=>some (.inl (.p4 x1c0 z1c1 x1c2 x1c3 x2 x3 (List.length x1c0:Int) (List.replicate y 0) (List.length x1c0:Int) 0))
noncomputable def kiy(x1c0:List Nat)(z1c1:Int)(x1c2 x1c3 x2 x3:List Nat)(a4:Int)(x5:List Nat)(a6 a7:Int):Option (kfv⊕kd3):=cond (decide (a7<a6)) (cond (decide (a7<(List.length x2:Int))) ((atI x2 a7).bind λH=>(runP keu (.fn x5 x3 ((H:Int)))).bind λC=>(need (List.length C=List.length x5)).bind λac=>(inI (List.length x5) 0).bind λI=>(runP keu (.fn C x1c0 (wrap .u64 ((((List.getD C I 0:Nat):Int))*z1c1)))).bind λy=>(need (List.length y=List.length C)).bind λad=>(cutP (List.length x5) 1 (List.length x5:Int)).bind λF=>(overW y (List.take F.2 (List.drop F.1 y))).bind λK=>(inI (List.length x5) (wrap .i64 (a4+1))).bind λQ=>(u64P 0).bind λU=>some (.inl (.p4 x1c0 z1c1 x1c2 x1c3 x2 x3 a4 (List.set K Q U) a6 (wrap .i64 (a7+1))))) ((runP keu (.fn x5 x3 0)).bind λp10=>(need (List.length p10=List.length x5)).bind λae=>(inI (List.length x5) 0).bind λV=>(runP keu (.fn p10 x1c0 (wrap .u64 ((((List.getD p10 V 0:Nat):Int))*z1c1)))).bind λp12=>(need (List.length p12=List.length p10)).bind λaf=>(cutP (List.length x5) 1 (List.length x5:Int)).bind λy=>(overW p12 (List.take y.2 (List.drop y.1 p12))).bind λW=>(inI (List.length x5) (wrap .i64 (a4+1))).bind λZ=>(u64P 0).bind λaa=>some (.inl (.p4 x1c0 z1c1 x1c2 x1c3 x2 x3 a4 (List.set W Z aa) a6 (wrap .i64 (a7+1)))))) (cond (decide ((cmpN (digs B (num B x5)) x1c0)>=0)) (some (.inr ((subN (digs B (num B x5)) x1c0).1))) (some (.inr (digs B (num B x5)))))
noncomputable def kdi:kfv->Option (kfv⊕kd3)
 | .fn x1c0 z1c1 x1c2 x1c3 x2 x3=>klm x1c0 z1c1 x1c2 x1c3 x2 x3
 | .p4 x1c0 z1c1 x1c2 x1c3 x2 x3 a4 x5 a6 a7=>kiy x1c0 z1c1 x1c2 x1c3 x2 x3 a4 x5 a6 a7
@[reducible] def kvj(h0:AH)(r:kd3)(v:AV)(h':AH):Prop:=∃s1:Sl,v=s1.v/\Nats h' s1 r/\Grow h0 h'/\Own h0 s1
def kk6(r:kd3):kfv->Prop
 | .fn x1c0 z1c1 x1c2 x1c3 x2 x3=>∀{h:AH}{y:Sl}{C:Sl}{F:Sl}{a2:Sl}{a3:Sl}{H:Nat},h.has H [y.v,.int .u64 z1c1,C.v,F.v] kcu->Nats h y x1c0->Nats h C x1c2->Nats h F x1c3->Nats h a2 x2->Nats h a3 x3->Runs (go (.fn kbn [.p (.new H 0),a2.v,a3.v]) h) (kvj h r)
 | .p4 x1c0 z1c1 x1c2 x1c3 x2 x3 a4 x5 a6 a7=>∀{h0 h:AH}{y:Sl}{C:Sl}{F:Sl}{a2:Sl}{a3:Sl}{a5:Sl}{I:Nat}{H:Nat},Grow h0 h->h0.has H [y.v,.int .u64 z1c1,C.v,F.v] kcu->Nats h0 y x1c0->Nats h0 C x1c2->Nats h0 F x1c3->Nats h0 a2 x2->Nats h0 a3 x3->Vec h a5 I x5->h0.blks.size<=I->Runs (go (.pt kbn kmd [(0,.p (.new H 0)),(1,a2.v),(2,a3.v),(7,.i a4),(8,a5.v),(20,.i a6),(21,.i a7)]) h) (kvj h0 r)
theorem kbe6{r:kd3}{o:kfv⊕kd3}{x1c0:List Nat}{z1c1:Int}{x1c2 x1c3 x2 x3:List Nat}(e:klm x1c0 z1c1 x1c2 x1c3 x2 x3=some o)(C:GoodS (kk6 r) r o):kk6 r (.fn x1c0 z1c1 x1c2 x1c3 x2 x3):=by intro h I K Q a2 a3 i1 b1 y F H n2 U;rw[kbhl];unfold klm at e;refine qw rfl (qw (qbc b1 0 rfl qck) ?_);rw[y.len];obtain⟨m4,V,e⟩:=qbs.1 e;refine Runs.mk V kda λs4 H4 W Z=>?_;cases e;exact C Z b1 y F H n2 U W (qbn _)
theorem k5p{r:kd3}{o:kfv⊕kd3}{x1c0:List Nat}{z1c1:Int}{x1c2 x1c3 x2 x3:List Nat}{a4:Int}{x5:List Nat}{a6 a7:Int}(e:kiy x1c0 z1c1 x1c2 x1c3 x2 x3 a4 x5 a6 a7=some o)(Q:GoodS (kk6 r) r o):kk6 r (.p4 x1c0 z1c1 x1c2 x1c3 x2 x3 a4 x5 a6 a7):=by
 intro h0 h cc cd ce a2 a3 a5 i5 i1 I b1 C ag ah n2 n3 v5 y;rw[kbel];unfold kiy at e;rw[(n2.grow I).len];rw[v5.nats.len];refine qba (λk8=>?_) (λk8=>?_)
 ·replace e:=(condT k8).symm.trans e;refine qba (λk9=>?_) (λk9=>?_)
  ·replace e:=(condT k9).symm.trans e;obtain⟨cf,ak,e⟩:=qbs.1 e;obtain⟨ch,ba,bb⟩:=(n2.grow I).atI ak;refine qw ba (qw (rdc bb qcl) ?_);obtain⟨ci,aa,e⟩:=qbs.1 e;obtain⟨_,cj,bc,rfl,al,ac⟩:=kqa v5 (n3.grow I) (qbg n3 y) aa;refine qw bc ?_;obtain⟨bd,ck,e⟩:=qbs.1 e;have F:=bd.down;refine qw rfl (qw rfl (qw (qbc ((I.updr y ac).has b1) 0 rfl qck) ?_));obtain⟨cl,ad,e⟩:=qbs.1 e;refine qw (al.idx (by simp only[qb4,F]) ad) (qw (al.rd (by simp only[qb4,F]) ad qcl) (qw rfl (qw (qbc ((I.updr y ac).has b1) 1 rfl qcl) ?_)));obtain⟨be,ae,e⟩:=qbs.1 e;obtain⟨_,cm,am,rfl,an,bf⟩:=kqa al (C.grow (I.updr y ac)) (qbg C y) ae;refine qw am ?_;obtain⟨bg,cn,e⟩:=qbs.1 e;have U:=bg.down;refine qw rfl ?_;obtain⟨cp,W,e⟩:=qbs.1 e;obtain⟨cq,ap,bh⟩:=an.cutW (by simp only[qb4,U,F]) W;refine qw ap ?_;obtain⟨cr,Z,e⟩:=qbs.1 e;have ai:=k00 Z;obtain⟨ct,bi,ay,bj⟩:=an.copyV (bh.nats an (by have:=(koj W).2.2.2;simpa only[qb4,U,F]using this)) Z;refine qw bi ?_;obtain⟨cu,az,e⟩:=qbs.1 e;refine qw (ay.idx (by simp only[qb4,ai,U,F]) az) ?_;obtain⟨cv,bk,e⟩:=qbs.1 e;refine qbf ay (by simp only[qb4,ai,U,F]) az bk λcw bm bn=>?_;cases e;have bp:=((((I.updr y ac).updr y bf).updr y bj).updr y bn);exact Q bp b1 C ag ah n2 n3 bm y
  ·replace e:=(condF k9).symm.trans e;obtain⟨p10,ak,e⟩:=qbs.1 e;obtain⟨_,bq,aq,rfl,ar,af⟩:=kqa v5 (n3.grow I) (qbg n3 y) ak;refine qw aq ?_;obtain⟨br,cx,e⟩:=qbs.1 e;have H:=br.down;refine qw rfl (qw rfl (qw (qbc ((I.updr y af).has b1) 0 rfl qck) ?_));obtain⟨cy,aa,e⟩:=qbs.1 e;refine qw (ar.idx (by simp only[qb4,H]) aa) (qw (ar.rd (by simp only[qb4,H]) aa qcl) (qw rfl (qw (qbc ((I.updr y af).has b1) 1 rfl qcl) ?_)));obtain⟨p12,ad,e⟩:=qbs.1 e;obtain⟨_,bt,au,rfl,aw,bu⟩:=kqa ar (C.grow (I.updr y af)) (qbg C y) ad;refine qw au ?_;obtain⟨bv,cz,e⟩:=qbs.1 e;have V:=bv.down;refine qw rfl ?_;obtain⟨be,ae,e⟩:=qbs.1 e;obtain⟨c0,am,bw⟩:=aw.cutW (by simp only[qb4,V,H]) ae;refine qw am ?_;obtain⟨c1,W,e⟩:=qbs.1 e;have aj:=k00 W;obtain⟨c2,ap,a0,bx⟩:=aw.copyV (bw.nats aw (by have:=(koj ae).2.2.2;simpa only[qb4,V,H]using this)) W;refine qw ap ?_;obtain⟨c3,Z,e⟩:=qbs.1 e;refine qw (a0.idx (by simp only[qb4,aj,V,H]) Z) ?_;obtain⟨c4,bz,e⟩:=qbs.1 e;refine qbf a0 (by simp only[qb4,aj,V,H]) Z bz λc5 b0 b5=>?_;cases e;have b6:=((((I.updr y af).updr y bu).updr y bx).updr y b5);exact Q b6 b1 C ag ah n2 n3 b0 y
 ·replace e:=(condF k8).symm.trans e;obtain⟨s9,e9,n9,o9⟩:=k6r v5.nats;refine qw e9 (qw (seen qck) (qw rfl (qw (qbc (I.has b1) 0 rfl qck) ?_)));obtain⟨bq,aq,K⟩:=kco n9 (C.grow I);refine qw aq (qw (seen qcl) ?_);refine qba (λax=>?_) (λax=>?_)
  ·replace e:=(condT ax).symm.trans e;refine qw rfl (qw (qbc ((I.trans K).has b1) 0 rfl qck) ?_);obtain⟨b7,bt,au,b8,b9,ca⟩:=kkk (n9.grow K) (C.grow (I.trans K));refine qw au (qw rfl (qw (seen qck) (qw (seen qcl) ?_)));cases e;cases Q;have cb:=((I.trans K).trans b9);exact qu ⟨b7,rfl,b8,cb,(ca.of_le (I.trans K))⟩
  ·replace e:=(condF ax).symm.trans e;cases e;cases Q;exact qu ⟨s9,rfl,(n9.grow K),(I.trans K),((o9 _ (v5.own y)).of_le (qk _))⟩
theorem kbbn{s:kfv}{r:kd3}(C:Iter kdi s r):kk6 r s:=qbe (λs o e y=>by
 cases s with
 | fn x1c0 z1c1 x1c2 x1c3 x2 x3=>exact @kbe6 _ _ x1c0 z1c1 x1c2 x1c3 x2 x3 e y
 | p4 x1c0 z1c1 x1c2 x1c3 x2 x3 a4 x5 a6 a7=>exact @k5p _ _ x1c0 z1c1 x1c2 x1c3 x2 x3 a4 x5 a6 a7 e y
 ) C
theorem kkz{h:AH}{y C F a2 a3:Sl}{Q:Nat}{x1c0:List Nat}{z1c1:Int}{x1c2 x1c3 x2 x3:List Nat}(b1:h.has Q [y.v,.int .u64 z1c1,C.v,F.v] kcu)(H:Nats h y x1c0)(I:Nats h C x1c2)(K:Nats h F x1c3)(n2:Nats h a2 x2)(U:Nats h a3 x3){r:kd3}(q:runP kdi (.fn x1c0 z1c1 x1c2 x1c3 x2 x3)=some r):Runs (go (.fn kbn [.p (.new Q 0),a2.v,a3.v]) h) (kvj h r):=kbbn (kd5 q) b1 H I K n2 U
end Go.Ab
set_option maxRecDepth 10000
namespace Go.Ab
open Go.Proofs Go.Num
theorem getD0(xs:List Nat):xs.getD 0 0=xs.headD 0:=by cases xs<;>rfl
theorem kxr{b:Nat}{xs:List Nat}(h:∀x∈xs,x<b)(y:0<b):xs.headD 0=num b xs%b:=by
 cases xs with
 | nil=>simp[num]
 | cons x xs =>rw[kq8,Nat.add_mul_mod_self_left,Nat.mod_eq_of_lt (h x (by simp))];rfl
def montR(y ys ns:List Nat)(v x:Nat):List Nat :=
 let p:=addMul y ys x 0
 (addMul p ns (p.headD 0*v%B) 0).tail++[0]
theorem kbg6{y ys ns:List Nat}{v x k:Nat}(lt:∀t∈y,t<B)(W:y.length=k+2)(hx:x<B)(hv:(num B ns*v+1)%B=0)(hY:num B ys<B^k)(hN:num B ns<B^k)(hT:num B y<num B ys+num B ns) :
  (montR y ys ns v x).length=k+2/\(∀t∈montR y ys ns v x,t<B)/\(∃m,m<B/\num B y+num B ys*x+num B ns*m=num B (montR y ys ns v x)*B):=by
 have B0:0<B:=by decide
 unfold montR;dsimp only;generalize hp:addMul y ys x 0=p;generalize K:num B y=T at *
 generalize Q:num B ys=Y at *
 generalize U:num B ns=N at *
 have Z:p.length=k+2:=by rw[<- hp,kk4,W]
 have V:∀t∈p,t<B:=by rw[<- hp];exact kni _ _ _ _
 have e1:Y*x<=B^k*B:=Nat.mul_le_mul (by omega) (by omega);have e3:B^(k+2)=B^k*B*B:=by rw[Nat.pow_succ,Nat.pow_succ]
 have e4:B^k*B*4<=B^k*B*B:=Nat.mul_le_mul_left _ (by decide);have e5:B^k*2<=B^k*B:=Nat.mul_le_mul_left _ (by decide)
 have np:num B p=T+Y*x:=by rw[<- hp,krk,K,Q,W,Nat.add_zero];refine Nat.mod_eq_of_lt ?_;omega
 have hh:p.headD 0=(T+Y*x)%B:=by rw[kxr V B0,np]
 rw[hh];generalize hm:(T+Y*x)%B*v%B=m;have mB:m<B:=by rw[<- hm];exact Nat.mod_lt _ B0
 have e2:N*m<=B^k*B:=Nat.mul_le_mul (by omega) (by omega);generalize F:addMul p ns m 0=H;have aa:H.length=k+2:=by rw[<- F,kk4,Z]
 have C:∀t∈H,t<B:=by rw[<- F];exact kni _ _ _ _
 have I:num B H=T+Y*x+N*m:=by rw[<- F,krk,np,U,Z,Nat.add_zero];refine Nat.mod_eq_of_lt ?_;omega
 have h0:H.headD 0=0:=by rw[kxr C B0,I,<- hm];exact k8u B0 hv
 refine⟨by simp;omega,?_,m,mB,?_⟩
 ·intro t ht;rcases qb2.1 ht with h | h
  ·exact C t (List.mem_of_mem_tail h)
  ·rw[List.mem_singleton.1 h];exact B0
 ·rw[<- I,klz B H,h0,show [0]=List.replicate 1 0 from rfl,kgk,Nat.zero_add,Nat.mul_comm]
theorem kbkp{p:List Nat}{k:Nat}(h:p.length=k+2):List.take (k+1) (List.drop 1 p)=p.tail:=by rw[List.drop_one,List.take_of_length_le (by simp;omega)]
theorem kbi1{p:List Nat}{k:Nat}(h:p.length=k+2):∃z,overW p p.tail=some (p.tail++[z]):=by
 unfold overW;rw[if_pos (by simp)];have y:(p.drop p.tail.length).length=1:=by simp;omega
 obtain⟨z,C⟩:=List.length_eq_one_iff.1 y;exact⟨z,by rw[C]⟩
theorem ku5{xs:List Nat}{i:Nat}(h:xs.length<=i):xs.getD i 0=0:=by simp[List.getD,List.getElem?_eq_none h]
theorem kh7{xs ys:List Nat}(y:rt xs=true)(C:rt ys=true):cmpN xs ys=cmp (num B xs) (num B ys):=by unfold cmpN;rw[if_pos ⟨y,C⟩]
theorem kbd5(b:Nat){xs:List Nat}(i:Nat):num b (xs.take (i+1))=num b (xs.take i)+b^i*xs.getD i 0:=by
 rcases Nat.lt_or_ge i xs.length with h | h
 ·rw[kc2 b h,kcb h]
 ·rw[List.take_of_length_le (by omega),List.take_of_length_le h,ku5 h];simp
section
variable{ns xs ys ones nexts:List Nat}{v k N X Y:Nat}
theorem kbch(hk:k<=60)(ln:ns.length=k)(F:∀t∈ns,t<B)(lx:∀t∈xs,t<B)(ly:∀t∈ys,t<B)(ac:v<B)(hv:(num B ns*v+1)%B=0)(hY:num B ys<num B ns){y:List Nat}(lt:∀t∈y,t<B)(Q:y.length=k+2){i:Nat}(hi:i<k)(hT:num B y<num B ys+num B ns) :
  kiy ns (v:Int) ones nexts xs ys (k:Int) y (k:Int) (i:Int)=some (.inl (.p4 ns (v:Int) ones nexts xs ys (k:Int) (montR y ys ns v (xs.getD i 0)) (k:Int) ((i+1:Nat):Int))):=by
 have hN:num B ns<B^k:=ln▸num_lt B1 F
 have run:∀x:Nat,x<B->∀p,addMul y ys x 0=p->∀q,addMul p ns (p.headD 0*v%B) 0=q->
   p.length=k+2/\q.length=k+2/\runP keu (.fn y ys (x:Int))=some p/\runP keu (.fn p ns (IntKind.wrap .u64 (((List.getD p 0 0:Nat):Int)*(v:Int))))=some q:=by
  intro x U p hp q hq;have C:p.length=k+2:=by rw[<- hp,kk4,Q]
  refine⟨C,by rw[<- hq,kk4,C],?_,?_⟩
  ·rw[kzs lt ly U (by omega),hp]
  ·rw[<- Int.natCast_mul,wrapU,getD0];have:(((p.headD 0*v:Nat):Int))%18446744073709551616=((p.headD 0*v%B:Nat):Int):=rfl;rw[this,kzs (hp▸kni _ _ _ _) F (Nat.mod_lt _ (by decide)) (by omega),hq]
 unfold kiy;rw[condT (by rw[qbu];omega)]
 have H:∀q:List Nat,q.length=k+2->∀r:Option (kfv⊕kd3),r=((cutP y.length 1 (y.length:Int)).bind λI=>(overW q (List.take I.2 (List.drop I.1 q))).bind λV=>(inI y.length (IntKind.wrap .i64 ((k:Int)+1))).bind λW=>(u64P 0).bind λZ=>some (.inl (.p4 ns (v:Int) ones nexts xs ys (k:Int) (List.set V W Z) (k:Int) (IntKind.wrap .i64 ((i:Int)+1)))))->
   r=some (.inl (.p4 ns (v:Int) ones nexts xs ys (k:Int) (q.tail++[0]) (k:Int) ((i+1:Nat):Int))):=by
  intro q lq r hr;rw[hr,Q];have c:=kv4 (len:=k+2) (lo:=1) (n:=k+1) (by omega) (by omega);rw[show 1+(k+1)=k+2 from by omega]at c;rw[show((1:Nat):Int)=1 from rfl]at c;obtain⟨z,hz⟩:=kbi1 lq;rw[c,qbr];dsimp only;rw[kbkp lq,hz,qbr,ko (by omega),kx (by omega),qbr,show u64P 0=some 0 from rfl,qbr,ko (by omega)];have:=koh q.tail z 0 [] (n:=k+1) (by simp;omega);rw[this,List.append_nil]
 by_cases U:i<xs.length
 ·have aa:=lx xs[i] (qb0 _);obtain⟨C,K,r1,r2⟩:=run xs[i] aa _ rfl _ rfl;rw[condT (by rw[qbu];omega),kb4 U,qbr,r1,qbr,ky (by rw[C,Q]),qbr,show(0:Int)=((0:Nat):Int)from rfl,kx (by omega),qbr,r2,qbr,ky (by rw[C,K]),qbr];refine(H _ K _ rfl).trans ?_;unfold montR;rw[kcb U]
 ·obtain⟨C,K,r1,r2⟩:=run 0 (by decide) _ rfl _ rfl;rw[show((0:Nat):Int)=0 from rfl]at r1;rw[condF (by rw[qbt];omega),r1,qbr,ky (by rw[C,Q]),qbr,show(0:Int)=((0:Nat):Int)from rfl,kx (by omega),qbr,r2,qbr,ky (by rw[C,K]),qbr];refine(H _ K _ rfl).trans ?_;unfold montR;rw[ku5 (show xs.length<=i from by omega)]
theorem k3g(hk:k<=60)(H:ns.length=k)(y:∀t∈ns,t<B)(tn:Trim ns)(Q:∀t∈xs,t<B)(ly:∀t∈ys,t<B)(F:v<B)(hv:(num B ns*v+1)%B=0)(U:num B ns%2=1)(hX:xs.length<=k)(hY:num B ys<num B ns) :
  ∀(d i:Nat),i+d=k->∀ts:List Nat,(∀t∈ts,t<B)->ts.length=k+2->num B ts<num B ys+num B ns->(∃M,num B ts*B^i=num B (xs.take i)*num B ys+num B ns*M)->
   Iter kdi (.p4 ns (v:Int) ones nexts xs ys (k:Int) ts (k:Int) (i:Int)) (digs B (redc (num B ns) (64*k) (num B xs*num B ys)))
 | 0,i,V,ts,lt,W,I,⟨M,C⟩=>by
  have V:i=k:=by omega
  subst V;have hN:num B ns<B^i:=H▸num_lt B1 y
  have aa:B^i*2<=B^64:=by
   calc B^i*2<=B^i*B:=Nat.mul_le_mul_left _ (by decide)
    _=B^(i+1):=(Nat.pow_succ ..).symm
    _<=B^64:=Nat.pow_le_pow_right (by decide) (by omega)
  have rn:rt ns=true:=rt_iff.2 ⟨by omega,tn⟩;have rT:rt (digs B (num B ts))=true:=kn (by omega);rw[List.take_of_length_le hX]at C;have Z:B^i=2^(64*i):=by rw[show B=2^64 from rfl,<- Nat.pow_mul]
  rw[Z]at C;refine .done ?_;show kiy _ _ _ _ _ _ _ _ _ _=_;unfold kiy;rw[condF (by rw[qbt];omega),kh7 rT rn,kg B2];by_cases K:num B ts<num B ns
  ·have:cmp (num B ts) (num B ns)=-1:=by unfold cmp;rw[if_pos K]
   rw[this,show decide ((-1:Int)>=0)=false from rfl,cond_false];rw[<- kx8 U K (by rw[C,Nat.add_mul_mod_self_left])]
  ·have:decide (cmp (num B ts) (num B ns)>=0)=true:=by
    unfold cmp;rw[if_neg K];split<;>rfl
   rw[this,cond_true];unfold subN;rw[if_pos ⟨rT,rn⟩,kg B2,if_neg K];rw[<- kx8 (r:=num B ts-num B ns) U (by omega)];rw[Nat.sub_mul,C,<- Nat.add_mul_mod_self_left (_-_) (num B ns) (2^(64*i)),Nat.sub_add_cancel]
   ·rw[Nat.add_mul_mod_self_left]
   ·rw[<- C];exact Nat.mul_le_mul_right _ (by omega)
 | d+1,i,V,ts,lt,W,I,⟨M,C⟩=>by
  have hN:num B ns<B^k:=H▸num_lt B1 y
  have hx:xs.getD i 0<B:=by
   rcases Nat.lt_or_ge i xs.length with h | h
   ·rw[kcb h];exact Q _ (qb0 _)
   ·rw[ku5 h];decide
  obtain⟨o1,o2,m,hm,o3⟩:=kbg6 (v:=v) (ns:=ns) (ys:=ys) lt W hx hv (by omega) hN I;refine .next (kbch hk H y Q ly F hv hY lt W (by omega) I) (k3g hk H y tn Q ly F hv U hX hY d (i+1) (by omega) _ o2 o1 ?_ ⟨M+B^i*m,?_⟩)
  ·have:=kbgu I hx hm;rwa[o3,Nat.mul_div_cancel _ (by decide)]at this
  ·rw[kbd5,Nat.pow_succ];have:=k56 C o3;rw[this,Nat.mul_comm (B^i) m,Nat.mul_comm m]
theorem kbfd(hk:k<=60)(F:ns.length=k)(y:∀t∈ns,t<B)(H:Trim ns)(I:∀t∈xs,t<B)(K:∀t∈ys,t<B)(C:v<B)(hv:(num B ns*v+1)%B=0)(Q:num B ns%2=1)(U:xs.length<=k)(V:num B ys<num B ns) :
  runP kdi (.fn ns (v:Int) ones nexts xs ys)=some (digs B (redc (num B ns) (64*k) (num B xs*num B ys))):=by
 refine kc4 (.next (s':=.p4 ns (v:Int) ones nexts xs ys (k:Int) (List.replicate (k+2) 0) (k:Int) ((0:Nat):Int)) ?_ (k3g hk F y H I K C hv Q U V k 0 (by omega) _ ?_ (by simp) ?_ ⟨0,?_⟩))
 ·show klm _ _ _ _ _ _=_;unfold klm;rw[F,show((k:Int)+2)=((k+2:Nat):Int)from by omega,kb0 (by omega),kdw (by omega),qbr];rfl
 ·intro t W;rw[List.eq_of_mem_replicate W];decide
 ·have:num B (List.replicate (k+2) 0)=0:=by have:=kgk B [] (k+2);simpa[num]using this
  rw[this];omega
 ·have:num B (List.replicate (k+2) 0)=0:=by have:=kgk B [] (k+2);simpa[num]using this
  simp[this,num]
end
end Go.Ab
set_option maxRecDepth 10000
namespace Go.Ab
open IntKind (wrap)
open Go.Proofs Go.Num
theorem Bl.det{x m n:Nat}(a:Bl x m)(b:Bl x n):m=n:=Nat.le_antisymm (a.le b.1) (b.le a.1)
theorem kpx{a:Int}{h:AH}(c:0<=a/\a<18446744073709551616):go (.fn kfr [.int .u64 a]) h=some (.i ((bl (Int.toNat a):Nat):Int),h):=by obtain⟨x,rfl⟩:∃x:Nat,a=(x:Int):=⟨a.toNat,by omega⟩;obtain⟨n,e,b⟩:=k2s (x:=x) (by omega) (h:=h);rw[e,Int.toNat_natCast,b.det (bl_Bl x)]
inductive kjv
 | fn (x1:List Nat)
 | no
abbrev khc:=Int
noncomputable def kme(x1:List Nat):Option (kjv⊕khc):=cond (!(rt x1)) (some (.inr 0)) (cond (decide ((List.length x1:Int)=0)) (some (.inr 0)) ((atI x1 (wrap .i64 ((List.length x1:Int)-1))).bind λy=>(need (0<=((y:Int))/\((y:Int))<18446744073709551616)).bind λC=>some (.inr (wrap .i64 ((wrap .i64 (64*(wrap .i64 ((List.length x1:Int)-1))))+(((bl (Int.toNat ((y:Int))):Nat):Int)))))))
noncomputable def ku0:kjv->Option (kjv⊕khc)
 | .fn x1=>kme x1
 | .no=>none
@[reducible] def kua(h0:AH)(r:khc)(v:AV)(h':AH):Prop:=v=.i r/\Grow h0 h'
def ktq(r:khc):kjv->Prop
 | .fn x1=>∀{h:AH}{a1:Sl},Nats h a1 x1->Runs (go (.fn kjt [a1.v]) h) (kua h r)
 | .no=>True
theorem kbdk{r:khc}{o:kjv⊕khc}{x1:List Nat}(e:kme x1=some o)(y:GoodS (ktq r) r o):ktq r (.fn x1):=by
 intro h a1 n1;rw[kbbm];unfold kme at e;rw[n1.len];refine qw (kbt n1) (qw (seen rfl) ?_);refine qba (λF=>?_) (λF=>?_)
 ·replace e:=(condT F).symm.trans e;cases e;cases y;exact qu ⟨rfl,(qk _)⟩
 ·replace e:=(condF F).symm.trans e;refine qba (λH=>?_) (λH=>?_)
  ·replace e:=(condT H).symm.trans e;cases e;cases y;exact qu ⟨rfl,(qk _)⟩
  ·replace e:=(condF H).symm.trans e;obtain⟨V,K,e⟩:=qbs.1 e;obtain⟨W,Q,U⟩:=n1.atI K;refine qw Q (qw (rdc U qcl) ?_);obtain⟨C,I,e⟩:=qbs.1 e;refine qw (kpx  C.down) (qw (seen qcl) ?_);cases e;cases y;exact qu ⟨rfl,(qk _)⟩
theorem kbbu{s:kjv}{r:khc}(C:Iter ku0 s r):ktq r s:=qbe (λs o e y=>by
 cases s with
 | fn x1=>exact @kbdk _ _ x1 e y
 | no=>exact True.intro
 ) C
theorem k47{h:AH}{a1:Sl}{x1:List Nat}(n1:Nats h a1 x1){r:khc}(q:runP ku0 (.fn x1)=some r):Runs (go (.fn kjt [a1.v]) h) (kua h r):=kbbu (kd5 q) n1
inductive kjs
 | fn (x1:List Nat) (a2:Int)
 | no
abbrev kha:=Bool
noncomputable def kmp(x1:List Nat)(a2:Int):Option (kjs⊕kha):=cond ((rt x1)) (cond (decide (a2>=0)) (cond (decide ((wrap .i64 (Int.tdiv a2 64))<(List.length x1:Int))) ((atI x1 (wrap .i64 (Int.tdiv a2 64))).bind λy=>cond (decide ((Int.tmod a2 64)<0)) (none) (some (.inr (decide ((iand .u64 (ishr .u64 ((y:Int)) (Int.tmod a2 64)) 1)=1))))) (some (.inr false))) (some (.inr false))) (some (.inr false))
noncomputable def krl:kjs->Option (kjs⊕kha)
 | .fn x1 a2=>kmp x1 a2
 | .no=>none
@[reducible] def kvw(h0:AH)(r:kha)(v:AV)(h':AH):Prop:=v=.bool r/\Grow h0 h'
def kss(r:kha):kjs->Prop
 | .fn x1 a2=>∀{h:AH}{a1:Sl},Nats h a1 x1->Runs (go (.fn ki1 [a1.v,.i a2]) h) (kvw h r)
 | .no=>True
theorem kbjb{r:kha}{o:kjs⊕kha}{x1:List Nat}{a2:Int}(e:kmp x1 a2=some o)(y:GoodS (kss r) r o):kss r (.fn x1 a2):=by
 intro h a1 n1;rw[kbcr];unfold kmp at e;rw[n1.len];refine qw (kbt n1) (qw (seen rfl) ?_);refine qba (λC=>?_) (λC=>?_)
 ·replace e:=(condT C).symm.trans e;refine qba (λF=>?_) (λF=>?_)
  ·replace e:=(condT F).symm.trans e;refine qba (λH=>?_) (λH=>?_)
   ·replace e:=(condT H).symm.trans e;obtain⟨V,K,e⟩:=qbs.1 e;obtain⟨W,Q,U⟩:=n1.atI K;refine qw Q (qw (rdc U qcl) ?_);refine qba (λI=>?_) (λI=>?_)
    ·replace e:=(condT I).symm.trans e;cases e
    ·replace e:=(condF I).symm.trans e;cases e;cases y;exact qu ⟨rfl,(qk _)⟩
   ·replace e:=(condF H).symm.trans e;cases e;cases y;exact qu ⟨rfl,(qk _)⟩
  ·replace e:=(condF F).symm.trans e;cases e;cases y;exact qu ⟨rfl,(qk _)⟩
 ·replace e:=(condF C).symm.trans e;cases e;cases y;exact qu ⟨rfl,(qk _)⟩
theorem kbea{s:kjs}{r:kha}(C:Iter krl s r):kss r s:=qbe (λs o e y=>by
 cases s with
 | fn x1 a2=>exact @kbjb _ _ x1 a2 e y
 | no=>exact True.intro
 ) C
theorem kbcb{h:AH}{a1:Sl}{x1:List Nat}{a2:Int}(n1:Nats h a1 x1){r:kha}(q:runP krl (.fn x1 a2)=some r):Runs (go (.fn ki1 [a1.v,.i a2]) h) (kvw h r):=kbea (kd5 q) n1
end Go.Ab
set_option maxRecDepth 10000
namespace Go.Ab
open Go.Proofs Go.Num
def bitsN(xs:List Nat):Nat:=if rt xs=true then bl (num B xs)else 0
def bitN(xs:List Nat)(i:Int):Bool:=rt xs&&(decide (0<=i)&&(num B xs).testBit i.toNat)
theorem kse{xs:List Nat}(l:∀x∈xs,x<B):∀i:Nat,num B xs/B^i=num B (xs.drop i)
 | 0=>by simp
 | i+1=>by
  rw[Nat.pow_succ,Nat.mul_comm,<- Nat.div_div_eq_div_mul,klz B xs]
  have h:xs.headD 0<B:=by
   cases xs with
   | nil=>decide
   | cons x xs=>exact l x (by simp)
  rw[Nat.add_mul_div_left _ _ (show 0<B by decide),Nat.div_eq_of_lt h,Nat.zero_add,kse (xs:=xs.tail) (λx y=>l x (List.mem_of_mem_tail y)) i];rw[<- List.drop_one,List.drop_drop,Nat.add_comm]
theorem B_pow2(i:Nat):B^i=2^(64*i):=by rw[show B=2^64 from rfl,<- Nat.pow_mul]
theorem bl_num{xs:List Nat}(l:∀x∈xs,x<B)(h:xs.length≠0)(h0:xs[xs.length-1]≠0):bl (num B xs)=64*(xs.length-1)+bl xs[xs.length-1]:=by
 have y:=kse l (xs.length-1);rw[qcd (by omega),show xs.length-1+1=xs.length from by omega,List.drop_length,B_pow2]at y;have e:num B xs/2^(64*(xs.length-1))=xs[xs.length-1]:=by rw[y];simp[num]
 refine(bl_Bl _).det (Bl.up (n:=bl xs[xs.length-1]) ?_ ?_)
 ·rw[e];exact bl_Bl _
 ·rw[e];omega
theorem bl_le{x m:Nat}(h:x<2^m):bl x<=m:=(bl_Bl x).le h
theorem kbj4{xs:List Nat}(h:rt xs=true)(y:xs.length≠0):xs[xs.length-1]≠0:=by have t:=(rt_iff.1 h).2 (λe=>y (by rw[e];rfl));rwa[List.getLast_eq_getElem]at t
theorem kbjd{xs:List Nat}(l:∀x∈xs,x<B):runP ku0 (.fn xs)=some ((bitsN xs:Nat):Int):=by
 refine kc4 (.done ?_);show kme _=_;unfold kme bitsN;by_cases y:rt xs=true
 ·rw[y,if_pos rfl,show(!true)=false from rfl,cond_false];have H:=(rt_iff.1 y).1;by_cases C:xs.length=0
  ·rw[condT (by rw[qbu];omega),List.length_eq_zero_iff.1 C];rfl
  ·have F:=l xs[xs.length-1] (qb0 _);have I:xs[xs.length-1]<18446744073709551616:=F;have K:=bl_le (x:=xs[xs.length-1]) (m:=64) F;rw[condF (by rw[qbt];omega),show((xs.length:Int)-1)=((xs.length-1:Nat):Int)from by omega,kb0 (by omega),kb4 (by omega),qbr];have Q:0<=((xs[xs.length-1]:Nat):Int)/\((xs[xs.length-1]:Nat):Int)<18446744073709551616:=by omega
   simp only[ky Q,qbr];rw[Int.toNat_natCast,bl_num l C (kbj4 y C),show(64*((xs.length-1:Nat):Int))=((64*(xs.length-1):Nat):Int)from by omega,kb0 (by omega),<- Int.natCast_add,kb0 (by omega)]
 ·rw[if_neg y,show rt xs=false from by simpa using y];rfl
theorem k3i{h:AH}{s:Sl}{xs:List Nat}(n:Nats h s xs):Runs (go (.fn kjt [s.v]) h) (kua h (bitsN xs)):=k47 n (kbjd n.lt)
theorem kv6{x:Nat}(y:x<18446744073709551616):iand .u64 (x:Int) 1=((x%2:Nat):Int):=by unfold iand;rw[show IntKind.bits .u64=64 from rfl,wrapU];have C:BitVec.ofInt 64 (x:Int)=BitVec.ofNat 64 x:=rfl;have F:BitVec.ofInt 64 1=BitVec.ofNat 64 1:=rfl;rw[C,F,BitVec.toNat_and,BitVec.toNat_ofNat,BitVec.toNat_ofNat];rw[Nat.mod_eq_of_lt (show x<2^64 from y),Nat.mod_eq_of_lt (show 1<2^64 from by decide),Nat.and_one_is_mod];omega
theorem k58{xs:List Nat}(l:∀x∈xs,x<B){q r:Nat}(hq:q<xs.length)(C:r<64):(num B xs).testBit (64*q+r)=decide (xs[q]/2^r%2=1):=by
 rw[Nat.testBit_eq_decide_div_mod_eq,Nat.pow_add,<- Nat.div_div_eq_div_mul,<- B_pow2,kse l,qcd hq,kq8];generalize num B (xs.drop (q+1))=Y;congr 2
 have e:B=2^r*(2^(63-r)*2):=by rw[<- Nat.pow_succ,<- Nat.pow_add,show r+(63-r).succ=64 from by omega]
 have y:xs[q]+B*Y=xs[q]+2^r*(2^(63-r)*2*Y):=by rw[<- Nat.mul_assoc,<- e]
 rw[y,Nat.add_mul_div_left _ _ (Nat.pow_pos (by decide)),show 2^(63-r)*2*Y=2*(2^(63-r)*Y)from by rw[Nat.mul_comm (2^(63-r)) 2,Nat.mul_assoc],Nat.add_mul_mod_self_left]
theorem k7a{xs:List Nat}(l:∀x∈xs,x<B){i:Nat}(hq:xs.length<=i/64):(num B xs).testBit i=false:=by refine Nat.testBit_lt_two_pow ?_;have y:=num_lt B1 l;rw[B_pow2]at y;have C:2^(64*xs.length)<=2^i:=Nat.pow_le_pow_right (by decide) (by omega);omega
theorem tdiv64(n:Nat):Int.tdiv (n:Int) 64=((n/64:Nat):Int):=rfl
theorem tmod64(n:Nat):Int.tmod (n:Int) 64=((n%64:Nat):Int):=rfl
theorem kbhg{xs:List Nat}{i:Int}(h:rt xs=false):bitN xs i=false:=by unfold bitN;rw[h];rfl
theorem kbln{xs:List Nat}{i:Int}(h:i<0):bitN xs i=false:=by unfold bitN;rw[show decide (0<=i)=false from by rw[qbt];omega];cases rt xs<;>rfl
theorem km5{xs:List Nat}{i:Nat}(h:rt xs=true):bitN xs (i:Int)=(num B xs).testBit i:=by unfold bitN;rw[h,show decide (0<=(i:Int))=true from by rw[qbu];omega];rfl
theorem kbfk{xs:List Nat}(l:∀x∈xs,x<B){i:Int}(H:i<=9223372036854775807):runP krl (.fn xs i)=some (bitN xs i):=by
 refine kc4 (.done ?_);show kmp _ _=_;unfold kmp;by_cases y:rt xs=true
 ·rw[y,cond_true];by_cases h0:i<0
  ·rw[condF (by rw[qbt];omega),kbln h0]
  ·obtain⟨j,rfl⟩:∃j:Nat,i=(j:Int):=⟨i.toNat,by omega⟩;rw[condT (by rw[qbu];omega),km5 y,tdiv64,tmod64,kb0 (by omega)];by_cases hq:j/64<xs.length
   ·have C:xs[j/64]<18446744073709551616:=l _ (qb0 _);have F:xs[j/64]/2^(j%64)<18446744073709551616:=qbq (Nat.div_le_self _ _) C;rw[condT (by rw[qbu];omega),kb4 hq,qbr,condF (by rw[qbt];omega),kb8,Nat.min_eq_left (by omega),kv6 F];have:=k58 l hq (Nat.mod_lt j (show 0<64 by decide));rw[Nat.div_add_mod]at this;rw[this];generalize xs[j/64]/2^(j%64)=z;congr 3;exact propext (by omega)
   ·rw[condF (by rw[qbt];omega),k7a l (by omega)]
 ·rw[show rt xs=false from by simpa using y,cond_false,kbhg (by simpa using y)]
theorem kuo{h:AH}{s:Sl}{xs:List Nat}(n:Nats h s xs){i:Int}(y:i<=9223372036854775807):Runs (go (.fn ki1 [s.v,.i i]) h) (kvw h (bitN xs i)):=kbcb n (kbfk n.lt y)
def belowF(xs ns:List Nat):Bool:=rt xs&&decide (cmpN xs ns<0)
theorem kbii{h:AH}{i p:Nat}{a y s2 s3:Sl}{z:Int}{xs ns:List Nat}(b:h.has i [y.v,.int .u64 z,s2.v,s3.v] kcu)(hp:h.has p [.p (.new i 0)] kpz)(m:Nats h y ns)(n:Nats h a xs) :
  Runs (go (.fn kd6 [a.v,.p (.new p 0)]) h) λv h'=>v=.bool (!belowF xs ns)/\Grow h h':=by
 rw[kblh];refine qw (kbt n) (qw (seen rfl) ?_);unfold belowF;refine qba (λk=>?_) (λk=>?_)
 ·rw[show rt xs=false from by simpa using k];exact qu ⟨rfl,qk _⟩
 ·rw[show rt xs=true from by simpa using k,Bool.true_and];refine qw rfl (qw (qbd hp rfl rfl) (qw rfl (qw (qbc b 0 rfl qck) ?_)));obtain⟨h',e,g⟩:=kco n m;refine qw e (qw (seen qcl) ?_);refine qu ⟨?_,g⟩;congr 1;rw[Bool.eq_iff_iff];simp
theorem kbev{h:AH}{i j:Nat}{a K s2 s3:Sl}{z:Int}{xs ns ones nexts:List Nat}{e:TypeId}(b:h.has i [K.v,.int .u64 z,s2.v,s3.v] kcu)(m:Nats h K ns)(U:Nats h s2 ones)(V:Nats h s3 nexts)(c:h.has j [a.v] e)(n:Nats h a xs) :
  Runs (go (.fn krj [.p (.new i 0),(⟨some (.new j 0),1,.is 1⟩:Sl).v]) h) λv h'=>v=.bool (belowF xs ns)/\Grow h h':=by
 rw[kbcx];refine qx λI b1 F=>?_
 have key:Runs (go (.fn khb [(⟨some (.new j 0),1,.is 1⟩:Sl).v,.func (.func kd6) [] [.p (.new h.blks.size 0)]]) I) λv h'=>v=.bool (!belowF xs ns)/\Grow I h':=by
  rw[kbks]
  have y:Runs (go (.fn kcd [(⟨some (.new j 0),1,.is 1⟩:Sl).v,.func (.func kd6) [] [.p (.new h.blks.size 0)]]) I) λv h'=>v=.i (if belowF xs ns=true then -1 else 0)/\Grow I h':=by
   rw[k9k,kx6];refine qz rfl ?_;refine qw (show idx (some (Ref.new j 0)) 1 0 1=some ((Ref.new j 0).add 0)from rfl) (qw (qbc (F.has c) 0 rfl qck) ?_);obtain⟨_,Q,H,rfl,C⟩:=kbii (F.has b) b1 (m.grow F) (n.grow F);refine qw H (qw (seen rfl) ?_);cases W:belowF xs ns
   ·refine qz rfl ?_;exact qu ⟨rfl,C⟩
   ·refine q0 rfl ?_;rw[kx6];refine q0 (show decide (IntKind.wrap .i64 (0+1)<((1:Nat):Int))=false from by decide) ?_;exact qu ⟨rfl,C⟩
  obtain⟨_,Q,H,rfl,C⟩:=y;refine qw H (qw (seen qcl) ?_);refine qu ⟨?_,C⟩;cases belowF xs ns<;>rfl
 obtain⟨_,Q,H,rfl,C⟩:=key;refine qw H (qw (seen rfl) ?_);refine qu ⟨?_,F.trans C⟩;cases belowF xs ns<;>rfl
end Go.Ab
