/- Words and laws that the last text joins. -/
import Derived.Test.YtgldlogiggpbgaaGreatDoorPS30
import Derived.Test.YtgldlogiggpbgaaGreatDoorPAbsT
set_option linter.unusedVariables false
set_option linter.unusedSimpArgs false
set_option linter.unusedSectionVars false
set_option maxRecDepth 10000
namespace Go.Ab
open Go.Proofs Go.Num
def k57(xs ys:List Nat)(r:List Nat×Int):Prop:=(rt xs=true/\rt ys=true/\2<=num B ys->InvAns (num B ys) (num B xs) (num B ys) (num B xs%num B ys) r)/\(¬(rt xs=true/\rt ys=true/\2<=num B ys)->r=([],1))
theorem kbih{ys:List Nat}(z:∀y∈ys,y<B)(t:Trim ys):ys=digs B (num B ys):=(kd3 B2 z t).symm
theorem kyd{xs ys:List Nat}(lx:∀x∈xs,x<B)(W:∀y∈ys,y<B):∃r,Iter kq5 (.fn xs ys) r/\Iter kui (.fn xs ys) r/\k57 xs ys r:=by
 cases F:rt xs with
 | false =>
  refine⟨([],1),.done ?_,.done ?_,λh=>absurd h.1 (by simp[F]),λ_=>rfl⟩
  ·show kes _ _=_;unfold kes;rw[F];rfl
  ·show kgc _ _=_;unfold kgc;rw[F];rfl
 | true =>
  cases G:rt ys with
  | false =>
   refine⟨([],1),.done ?_,.done ?_,λh=>absurd h.2.1 (by simp[G]),λ_=>rfl⟩
   ·show kes _ _=_;unfold kes;rw[F,G];rfl
   ·show kgc _ _=_;unfold kgc;rw[F,G];rfl
  | true =>
   obtain⟨Z,ty⟩:=rt_iff.1 G;obtain⟨n,I⟩:∃n,n=num B ys:=⟨_,rfl⟩;have H:ys=digs B n:=by rw[I];exact kbih W ty
   have z:n<B^64:=by rw[I];exact kq0 W G
   have aa:=kjy;have c1:cmpN ys [1]=cmp n 1:=by rw[H,<- klb];exact kp6 z (by omega)
   have c2:cmpN ys (digs B 2)=cmp n 2:=by rw[H];exact kp6 z (by omega)
   have p2:u64P 2=some 2:=kbg (n:=2) (by decide);by_cases h2:2<=n
   ·have U:ys≠[]:=by
     rintro rfl
     simp[num]at I;omega
    have hm:=Nat.mod_lt (num B xs) (show 0<n by omega)
    have E0:Eu n (num B xs) n (num B xs%n) (-1) 0 1:=by
     refine⟨.inr rfl,by omega,by omega,?_,?_⟩
     ·rw[Int.natCast_zero,Int.mul_zero,Int.zero_mul,Int.zero_sub];exact Int.dvd_neg.2 (Int.dvd_refl _)
     ·rw[Int.natCast_one,Int.mul_one,Int.neg_neg,Int.one_mul];have:=Nat.div_add_mod (num B xs) n;refine⟨((num B xs/n:Nat):Int),?_⟩;rw[<- Int.natCast_mul];omega
    obtain⟨r,K,Q,V⟩:=kbip z h2 (num B xs%n) n (-1) 0 1 z (by omega) (by omega) E0;have dv:(divN xs ys).2.1=digs B (num B xs%n):=by rw[kvn F G U,I]
    have e0:intD (-1*((0:Nat):Int))=(false,[]):=k9s;have e1:intD (-(-1*((1:Nat):Int)))=ofI 1:=by rw[kbkm (by decide)];rfl
    rw[e0,e1]at K Q;refine⟨r,.next ?_ K,.next ?_ Q,λ_=>by rw[<- I];exact V,λh=>absurd ⟨F,G,I▸h2⟩ h⟩
    ·show kes _ _=_;unfold kes;rw[F,G,condF (by rfl),condF (by rfl),kif,qbv,c1,condF (by rw[qbx,cmp_le];omega),kp (by decide),qbv,dv,<- H]
    ·show kgc _ _=_;unfold kgc;rw[F,G,condF (by rfl),condF (by rfl),p2,qbv,c2,condF (by rw[qbx,cmp_lt];omega),kp (by omega),qbv,kp (by decide),qbv,dv,<- H]
   ·refine⟨([],1),.done ?_,.done ?_,λh=>absurd (I▸h.2.2) h2,λ_=>rfl⟩
    ·show kes _ _=_;unfold kes;rw[F,G,condF (by rfl),condF (by rfl),kif,qbv,c1,condT (by rw[qby,cmp_le];omega)]
    ·show kgc _ _=_;unfold kgc;rw[F,G,condF (by rfl),condF (by rfl),p2,qbv,c2,condT (by rw[qby,cmp_lt];omega)]
noncomputable def invN(xs ys:List Nat):List Nat×Int:=by
 classical
 exact if h:(∀x∈xs,x<B)/\(∀y∈ys,y<B)then(kyd h.1 h.2).choose else([],0)
theorem kwv{xs ys:List Nat}(z:∀x∈xs,x<B)(F:∀y∈ys,y<B):Iter kq5 (.fn xs ys) (invN xs ys)/\Iter kui (.fn xs ys) (invN xs ys)/\k57 xs ys (invN xs ys):=by unfold invN;rw[dif_pos ⟨z,F⟩];exact(kyd z F).choose_spec
theorem k6k{h:AH}{s t:Sl}{xs ys:List Nat}(n:Nats h s xs)(m:Nats h t ys):Runs (go (.fn kf7 [s.v,t.v]) h) (kt0 h (invN xs ys)):=kbjm (kwv n.lt m.lt).1 n m
def atL(y:List (List Nat))(i:Int):Option (List Nat):=if 0<=i then y[i.toNat]? else none
def ke8(x1:List Nat):Bool:=cond (!(rt x1)) (true) (decide ((List.length x1:Int)>8))
theorem kre{h:AH}{a1:Sl}{x1:List Nat}(n1:Nats h a1 x1)  : Runs (go (.fn kkw [a1.v]) h) λv h'=>v=.bool (ke8 x1)/\Grow h h':=by
 rw[kbqv];rw[n1.len];refine qy (kcf n1) (qy (seen rfl) ?_);refine qbc (λy=>?_) (λy=>?_)
 ·have z:ke8 x1=true:=by unfold ke8;exact(condT y).trans rfl
  rw[z];exact qx ⟨rfl,(qk _)⟩
 ·have z:ke8 x1=decide ((List.length x1:Int)>8):=by unfold ke8;exact(condF y).trans rfl
  rw[z];exact qx ⟨rfl,(qk _)⟩
def ki7(x1:List Nat):Bool:=decide ((cmpN x1 [1])<=0)
theorem kxx{h:AH}{a1:Sl}{x1:List Nat}(n1:Nats h a1 x1)  : Runs (go (.fn krz [a1.v]) h) λv h'=>v=.bool (ki7 x1)/\Grow h h':=by
 rw[kbq7];refine qz λH b2 y=>?_;obtain⟨I,F,G⟩:=keg (n1.grow y) (Nats.of_has (xs:=[1]) b2 (by decide) (by decide));refine qy F (qy (seen qcr) ?_);have z:ki7 x1=decide ((cmpN x1 [1])<=0):=by unfold ki7;exact rfl
 rw[z];exact qx ⟨rfl,(y.trans G)⟩
inductive kjo
 | fn (x1:List Nat) (x2:List Nat) (x3:List Nat) (x4:List Nat)
 | no
abbrev kim:=List Nat×Int
noncomputable def kf1(x1 x2 x3 x4:List Nat):Option (kjo⊕kim):=cond (((ke8 x1))) (some (.inr ([],1))) (cond (((ke8 x3))) (some (.inr ([],1))) (cond (((ke8 x2))) (some (.inr ([],1))) (cond (((ke8 x4))) (some (.inr ([],1))) (cond (((ki7 x2))) (some (.inr ([],1))) (cond (((ki7 x4))) (some (.inr ([],1))) (cond (decide ((cmpN x1 x2)>=0)) (some (.inr ([],1))) (cond (decide ((cmpN x3 x4)>=0)) (some (.inr ([],1))) (cond (!decide (((invN x2 x4).2)=0)) (some (.inr ([],((invN x2 x4).2)))) (some (.inr ((addN ((mulN x2 ((floorI (((kbl (((kbd ((fromI false x3).1) ((fromI false x3).2) ((fromI false x1).1) ((fromI false x1).2)).1)) ((kbd ((fromI false x3).1) ((fromI false x3).2) ((fromI false x1).1) ((fromI false x1).2)).2.1) ((fromI false ((invN x2 x4).1)).1) ((fromI false ((invN x2 x4).1)).2)).1)) ((kbl (((kbd ((fromI false x3).1) ((fromI false x3).2) ((fromI false x1).1) ((fromI false x1).2)).1)) ((kbd ((fromI false x3).1) ((fromI false x3).2) ((fromI false x1).1) ((fromI false x1).2)).2.1) ((fromI false ((invN x2 x4).1)).1) ((fromI false ((invN x2 x4).1)).2)).2.1) ((fromI false x4).1) ((fromI false x4).2)).2.2.2.1)).1) x1).1,((addN ((mulN x2 ((floorI (((kbl (((kbd ((fromI false x3).1) ((fromI false x3).2) ((fromI false x1).1) ((fromI false x1).2)).1)) ((kbd ((fromI false x3).1) ((fromI false x3).2) ((fromI false x1).1) ((fromI false x1).2)).2.1) ((fromI false ((invN x2 x4).1)).1) ((fromI false ((invN x2 x4).1)).2)).1)) ((kbl (((kbd ((fromI false x3).1) ((fromI false x3).2) ((fromI false x1).1) ((fromI false x1).2)).1)) ((kbd ((fromI false x3).1) ((fromI false x3).2) ((fromI false x1).1) ((fromI false x1).2)).2.1) ((fromI false ((invN x2 x4).1)).1) ((fromI false ((invN x2 x4).1)).2)).2.1) ((fromI false x4).1) ((fromI false x4).2)).2.2.2.1)).1) x1).2))))))))))))
noncomputable def krt:kjo->Option (kjo⊕kim)
 | .fn x1 x2 x3 x4=>kf1 x1 x2 x3 x4
 | .no=>none
@[reducible] def k59(h0:AH)(r:kim)(v:AV)(h':AH):Prop:=∃s1:Sl,v=.tup [s1.v,.i r.2]/\Nats h' s1 r.1/\Grow h0 h'/\Own h0 s1
def kxe(r:kim):kjo->Prop
 | .fn x1 x2 x3 x4=>∀{h:AH}{a1:Sl}{a2:Sl}{a3:Sl}{a4:Sl},Nats h a1 x1->Nats h a2 x2->Nats h a3 x3->Nats h a4 x4->Runs (go (.fn kp8 [a1.v,a2.v,a3.v,a4.v]) h) (k59 h r)
 | .no=>True
theorem kbj8{r:kim}{o:kjo⊕kim}{x1 x2 x3 x4:List Nat}(e:kf1 x1 x2 x3 x4=some o)(ag:GoodS (kxe r) r o):kxe r (.fn x1 x2 x3 x4):=by
 intro h a1 a2 a3 a4 n1 n2 n3 n4;rw[kbmn];unfold kf1 at e;obtain⟨_,H5,e5,rfl,V⟩:=kre n1;refine qy e5 (qy (seen rfl) ?_);refine qbc (λk6=>?_) (λk6=>?_)
 ·replace e:=(condT k6).symm.trans e;cases e;cases ag;exact qx ⟨(⟨none,0,.is 0⟩:Sl),rfl,(qu _),V,(qr _)⟩
 ·replace e:=(condF k6).symm.trans e;obtain⟨_,H7,e7,rfl,W⟩:=kre (n3.grow V);refine qy e7 (qy (seen rfl) ?_);refine qbc (λk8=>?_) (λk8=>?_)
  ·replace e:=(condT k8).symm.trans e;cases e;cases ag;exact qx ⟨(⟨none,0,.is 0⟩:Sl),rfl,(qu _),(V.trans W),(qr _)⟩
  ·replace e:=(condF k8).symm.trans e;obtain⟨_,H9,e9,rfl,Z⟩:=kre (n2.grow (V.trans W));refine qy e9 (qy (seen rfl) ?_);refine qbc (λa0=>?_) (λa0=>?_)
   ·replace e:=(condT a0).symm.trans e;cases e;cases ag;exact qx ⟨(⟨none,0,.is 0⟩:Sl),rfl,(qu _),((V.trans W).trans Z),(qr _)⟩
   ·replace e:=(condF a0).symm.trans e;obtain⟨_,c2,bz,rfl,y⟩:=kre (n4.grow ((V.trans W).trans Z));refine qy bz (qy (seen rfl) ?_);refine qbc (λba=>?_) (λba=>?_)
    ·replace e:=(condT ba).symm.trans e;cases e;cases ag;exact qx ⟨(⟨none,0,.is 0⟩:Sl),rfl,(qu _),(((V.trans W).trans Z).trans y),(qr _)⟩
    ·replace e:=(condF ba).symm.trans e;obtain⟨_,c3,b0,rfl,z⟩:=kxx (n2.grow (((V.trans W).trans Z).trans y));refine qy b0 (qy (seen rfl) ?_);refine qbc (λbb=>?_) (λbb=>?_)
     ·replace e:=(condT bb).symm.trans e;cases e;cases ag;exact qx ⟨(⟨none,0,.is 0⟩:Sl),rfl,(qu _),((((V.trans W).trans Z).trans y).trans z),(qr _)⟩
     ·replace e:=(condF bb).symm.trans e;obtain⟨_,c4,b5,rfl,F⟩:=kxx (n4.grow ((((V.trans W).trans Z).trans y).trans z));refine qy b5 (qy (seen rfl) ?_);refine qbc (λbc=>?_) (λbc=>?_)
      ·replace e:=(condT bc).symm.trans e;cases e;cases ag;exact qx ⟨(⟨none,0,.is 0⟩:Sl),rfl,(qu _),(((((V.trans W).trans Z).trans y).trans z).trans F),(qr _)⟩
      ·replace e:=(condF bc).symm.trans e;obtain⟨c5,b6,G⟩:=keg (n1.grow (((((V.trans W).trans Z).trans y).trans z).trans F)) (n2.grow (((((V.trans W).trans Z).trans y).trans z).trans F));refine qy b6 (qy (seen qcr) ?_);refine qbc (λbd=>?_) (λbd=>?_)
       ·replace e:=(condT bd).symm.trans e;cases e;cases ag;exact qx ⟨(⟨none,0,.is 0⟩:Sl),rfl,(qu _),((((((V.trans W).trans Z).trans y).trans z).trans F).trans G),(qr _)⟩
       ·replace e:=(condF bd).symm.trans e;obtain⟨c6,b7,H⟩:=keg (n3.grow ((((((V.trans W).trans Z).trans y).trans z).trans F).trans G)) (n4.grow ((((((V.trans W).trans Z).trans y).trans z).trans F).trans G));refine qy b7 (qy (seen qcr) ?_);refine qbc (λbe=>?_) (λbe=>?_)
        ·replace e:=(condT be).symm.trans e;cases e;cases ag;exact qx ⟨(⟨none,0,.is 0⟩:Sl),rfl,(qu _),(((((((V.trans W).trans Z).trans y).trans z).trans F).trans G).trans H),(qr _)⟩
        ·replace e:=(condF be).symm.trans e;obtain⟨_,c7,b8,c8,rfl,b9,I,c9⟩:=k6k (n2.grow (((((((V.trans W).trans Z).trans y).trans z).trans F).trans G).trans H)) (n4.grow (((((((V.trans W).trans Z).trans y).trans z).trans F).trans G).trans H));refine qy b8 (qy rfl (qy (seen qcq) (qy (seen qcr) ?_)));refine qbc (λbf=>?_) (λbf=>?_)
         ·replace e:=(condT bf).symm.trans e;cases e;cases ag;exact qx ⟨(⟨none,0,.is 0⟩:Sl),rfl,(qu _),((((((((V.trans W).trans Z).trans y).trans z).trans F).trans G).trans H).trans I),(qr _)⟩
         ·replace e:=(condF bf).symm.trans e;obtain⟨da,db,ca,cb,K,dc⟩:=kcb (n3.grow ((((((((V.trans W).trans Z).trans y).trans z).trans F).trans G).trans H).trans I)) false;refine qy ca (qy rfl ?_);refine qba rfl ?_;refine qy (seenAt rfl rfl) (qy (seenAt rfl qcq) ?_);obtain⟨dd,de,cc,cd,Q,df⟩:=kcb (n1.grow (((((((((V.trans W).trans Z).trans y).trans z).trans F).trans G).trans H).trans I).trans K)) false;refine qy cc (qy rfl ?_);refine qba rfl ?_;refine qy (seenAt rfl rfl) (qy (seenAt rfl qcq) ?_);obtain⟨_,dg,ce,dh,rfl,cf,U,di⟩:=k55 (cb.grow Q) cd ((fromI false x3).1) ((fromI false x1).1);refine qy ce (qy rfl (qy rfl ?_));refine qba rfl ?_;refine qy (seenAt rfl rfl) (qy (seenAt rfl qcq) (qy (seen qcr) ?_));refine qz λdj ch aa=>?_;refine q0 ch rfl λdk bg ab=>?_;refine qz λdl ap ad=>?_;refine qy (qbe (ad.has bg) 0 rfl rfl) (qy (qbe (ad.has bg) 1 rfl qcq) ?_);obtain⟨dm,dn,ci,bj,ac,cj⟩:=kcb (b9.grow (((((K.trans Q).trans U).trans aa).updr (qbs (((K.trans Q).trans U)).size (qbr _)) ab).trans ad)) false;refine qy ci (qy rfl ?_);refine qba rfl ?_;refine qy (seenAt rfl rfl) (qy (seenAt rfl qcq) ?_);refine qbd (ac.same (ad.has bg) 0 2) ?_;refine qbd (ac.same ap 0 0) ?_;obtain⟨_,dp,ck,dq,rfl,cl,ae,cm⟩:=k05 (cf.grow (((aa.updr (qbr _) ab).trans ad).trans ac)) bj (((kbd ((fromI false x3).1) ((fromI false x3).2) ((fromI false x1).1) ((fromI false x1).2)).1)) ((fromI false ((invN x2 x4).1)).1);refine qy ck (qy rfl (qy rfl ?_));refine qba rfl ?_;refine qy (seenAt rfl rfl) (qy (seenAt rfl qcq) (qy (seen qcr) ?_));refine qbd (ae.same (ac.has ap) 0 0) ?_;refine q0 ((ac.trans ae).has ap) rfl λdr bh ah=>?_;have bu:=(bj.grow ae).upda (qbi cj (ap).lt) ah;have au:=cl.upda (qbi cm (ac.has ap).lt) ah;refine qz λdt al aj=>?_;refine qz λdu ao ai=>?_;refine qy (qbe ((aj.trans ai).has bh) 0 rfl rfl) (qy (qbe ((aj.trans ai).has bh) 1 rfl qcq) ?_);obtain⟨dv,dw,cn,bk,af,bn⟩:=kcb (n4.grow (((((((((((((((((((V.trans W).trans Z).trans y).trans z).trans F).trans G).trans H).trans I).trans K).trans Q).trans U).trans aa).updr (qbs ((((((((((((V.trans W).trans Z).trans y).trans z).trans F).trans G).trans H).trans I).trans K).trans Q).trans U)).size (qbr _)) ab).trans ad).trans ac).trans ae).updr (qbs ((((((((((((((V.trans W).trans Z).trans y).trans z).trans F).trans G).trans H).trans I).trans K).trans Q).trans U).trans aa).updr (qbs ((((((((((((V.trans W).trans Z).trans y).trans z).trans F).trans G).trans H).trans I).trans K).trans Q).trans U)).size (qbr _)) ab)).size (qbr _)) ah).trans aj).trans ai)) false;refine qy cn (qy rfl ?_);refine qba rfl ?_;refine qy (seenAt rfl rfl) (qy (seenAt rfl qcq) ?_);refine qbd (af.same ((aj.trans ai).has bh) 0 2) ?_;refine qbd (af.same ao 0 0) ?_;refine qbd (af.same (ai.has al) 0 0) ?_;obtain⟨_,dx,cp,dy,c1,rfl,cq,bq,ak,br,az⟩:=k0h (au.grow ((aj.trans ai).trans af)) bk (((kbl (((kbd ((fromI false x3).1) ((fromI false x3).2) ((fromI false x1).1) ((fromI false x1).2)).1)) ((kbd ((fromI false x3).1) ((fromI false x3).2) ((fromI false x1).1) ((fromI false x1).2)).2.1) ((fromI false ((invN x2 x4).1)).1) ((fromI false ((invN x2 x4).1)).2)).1)) ((fromI false x4).1);refine qy cp (qy rfl (qy rfl ?_));refine qba rfl ?_;refine qy (seenAt rfl rfl) (qy (seenAt rfl qcq) (qy rfl ?_));refine qba rfl ?_;refine qy (seenAt rfl rfl) (qy (seenAt rfl qcq) (qy (seen qcr) ?_));refine qbd (ak.same (af.has ao) 0 0) ?_;refine qbd (ak.same ((ai.trans af).has al) 0 0) ?_;refine q0 (((ai.trans af).trans ak).has al) rfl λdz cr am=>?_;have aw:=(bk.grow ak).upda (qbi bn (ai.has al).lt) am;have ax:=cq.upda (qbi br ((ai.trans af).has al).lt) am;have aq:=bq.upda (qbi az ((ai.trans af).has al).lt) am;have ay:=qw ((af.trans ak).has ao) (Nat.ne_of_gt (qbt (al).lt (qbr _))) am;refine q0 ay rfl λd0 ct an=>?_;have bv:=aw.upda (qbi bn (ao).lt) an;have bw:=ax.upda (qbi br (af.has ao).lt) an;have ar:=aq.upda (qbi az (af.has ao).lt) an;have bx:=qw cr (Nat.ne_of_lt (qbt (al).lt (qbr _))) an;refine qy (qbe ct 1 rfl qcq) ?_;obtain⟨d1,d2,cu,cv,bi,d3⟩:=kfu (n2.grow (((((((((((((((((((((((V.trans W).trans Z).trans y).trans z).trans F).trans G).trans H).trans I).trans K).trans Q).trans U).trans aa).updr (qbs ((((((((((((V.trans W).trans Z).trans y).trans z).trans F).trans G).trans H).trans I).trans K).trans Q).trans U)).size (qbr _)) ab).trans ad).trans ac).trans ae).updr (qbs ((((((((((((((V.trans W).trans Z).trans y).trans z).trans F).trans G).trans H).trans I).trans K).trans Q).trans U).trans aa).updr (qbs ((((((((((((V.trans W).trans Z).trans y).trans z).trans F).trans G).trans H).trans I).trans K).trans Q).trans U)).size (qbr _)) ab)).size (qbr _)) ah).trans aj).trans ai).trans af).trans ak).updr (qbs ((((((((((((((((((V.trans W).trans Z).trans y).trans z).trans F).trans G).trans H).trans I).trans K).trans Q).trans U).trans aa).updr (qbs ((((((((((((V.trans W).trans Z).trans y).trans z).trans F).trans G).trans H).trans I).trans K).trans Q).trans U)).size (qbr _)) ab).trans ad).trans ac).trans ae).updr (qbs ((((((((((((((V.trans W).trans Z).trans y).trans z).trans F).trans G).trans H).trans I).trans K).trans Q).trans U).trans aa).updr (qbs ((((((((((((V.trans W).trans Z).trans y).trans z).trans F).trans G).trans H).trans I).trans K).trans Q).trans U)).size (qbr _)) ab)).size (qbr _)) ah)).size (qbr _)) am).updr (qbs (((((((((((((((((((V.trans W).trans Z).trans y).trans z).trans F).trans G).trans H).trans I).trans K).trans Q).trans U).trans aa).updr (qbs ((((((((((((V.trans W).trans Z).trans y).trans z).trans F).trans G).trans H).trans I).trans K).trans Q).trans U)).size (qbr _)) ab).trans ad).trans ac).trans ae).updr (qbs ((((((((((((((V.trans W).trans Z).trans y).trans z).trans F).trans G).trans H).trans I).trans K).trans Q).trans U).trans aa).updr (qbs ((((((((((((V.trans W).trans Z).trans y).trans z).trans F).trans G).trans H).trans I).trans K).trans Q).trans U)).size (qbr _)) ab)).size (qbr _)) ah).trans aj)).size (qbr _)) an)) ar;refine qy cu (qy rfl (qy (seen qcq) (qy (seen qcr) ?_)));obtain⟨cw,d4,cx,cy,cz,c0⟩:=kqi cv (n1.grow ((((((((((((((((((((((((V.trans W).trans Z).trans y).trans z).trans F).trans G).trans H).trans I).trans K).trans Q).trans U).trans aa).updr (qbs ((((((((((((V.trans W).trans Z).trans y).trans z).trans F).trans G).trans H).trans I).trans K).trans Q).trans U)).size (qbr _)) ab).trans ad).trans ac).trans ae).updr (qbs ((((((((((((((V.trans W).trans Z).trans y).trans z).trans F).trans G).trans H).trans I).trans K).trans Q).trans U).trans aa).updr (qbs ((((((((((((V.trans W).trans Z).trans y).trans z).trans F).trans G).trans H).trans I).trans K).trans Q).trans U)).size (qbr _)) ab)).size (qbr _)) ah).trans aj).trans ai).trans af).trans ak).updr (qbs ((((((((((((((((((V.trans W).trans Z).trans y).trans z).trans F).trans G).trans H).trans I).trans K).trans Q).trans U).trans aa).updr (qbs ((((((((((((V.trans W).trans Z).trans y).trans z).trans F).trans G).trans H).trans I).trans K).trans Q).trans U)).size (qbr _)) ab).trans ad).trans ac).trans ae).updr (qbs ((((((((((((((V.trans W).trans Z).trans y).trans z).trans F).trans G).trans H).trans I).trans K).trans Q).trans U).trans aa).updr (qbs ((((((((((((V.trans W).trans Z).trans y).trans z).trans F).trans G).trans H).trans I).trans K).trans Q).trans U)).size (qbr _)) ab)).size (qbr _)) ah)).size (qbr _)) am).updr (qbs (((((((((((((((((((V.trans W).trans Z).trans y).trans z).trans F).trans G).trans H).trans I).trans K).trans Q).trans U).trans aa).updr (qbs ((((((((((((V.trans W).trans Z).trans y).trans z).trans F).trans G).trans H).trans I).trans K).trans Q).trans U)).size (qbr _)) ab).trans ad).trans ac).trans ae).updr (qbs ((((((((((((((V.trans W).trans Z).trans y).trans z).trans F).trans G).trans H).trans I).trans K).trans Q).trans U).trans aa).updr (qbs ((((((((((((V.trans W).trans Z).trans y).trans z).trans F).trans G).trans H).trans I).trans K).trans Q).trans U)).size (qbr _)) ab)).size (qbr _)) ah).trans aj)).size (qbr _)) an).trans bi));refine qy cx (qy rfl (qy (seen qcq) (qy (seen qcr) ?_)));cases e;cases ag;exact qx ⟨cw,rfl,cy,(((((((((((((((((((((((((V.trans W).trans Z).trans y).trans z).trans F).trans G).trans H).trans I).trans K).trans Q).trans U).trans aa).updr (qbs ((((((((((((V.trans W).trans Z).trans y).trans z).trans F).trans G).trans H).trans I).trans K).trans Q).trans U)).size (qbr _)) ab).trans ad).trans ac).trans ae).updr (qbs ((((((((((((((V.trans W).trans Z).trans y).trans z).trans F).trans G).trans H).trans I).trans K).trans Q).trans U).trans aa).updr (qbs ((((((((((((V.trans W).trans Z).trans y).trans z).trans F).trans G).trans H).trans I).trans K).trans Q).trans U)).size (qbr _)) ab)).size (qbr _)) ah).trans aj).trans ai).trans af).trans ak).updr (qbs ((((((((((((((((((V.trans W).trans Z).trans y).trans z).trans F).trans G).trans H).trans I).trans K).trans Q).trans U).trans aa).updr (qbs ((((((((((((V.trans W).trans Z).trans y).trans z).trans F).trans G).trans H).trans I).trans K).trans Q).trans U)).size (qbr _)) ab).trans ad).trans ac).trans ae).updr (qbs ((((((((((((((V.trans W).trans Z).trans y).trans z).trans F).trans G).trans H).trans I).trans K).trans Q).trans U).trans aa).updr (qbs ((((((((((((V.trans W).trans Z).trans y).trans z).trans F).trans G).trans H).trans I).trans K).trans Q).trans U)).size (qbr _)) ab)).size (qbr _)) ah)).size (qbr _)) am).updr (qbs (((((((((((((((((((V.trans W).trans Z).trans y).trans z).trans F).trans G).trans H).trans I).trans K).trans Q).trans U).trans aa).updr (qbs ((((((((((((V.trans W).trans Z).trans y).trans z).trans F).trans G).trans H).trans I).trans K).trans Q).trans U)).size (qbr _)) ab).trans ad).trans ac).trans ae).updr (qbs ((((((((((((((V.trans W).trans Z).trans y).trans z).trans F).trans G).trans H).trans I).trans K).trans Q).trans U).trans aa).updr (qbs ((((((((((((V.trans W).trans Z).trans y).trans z).trans F).trans G).trans H).trans I).trans K).trans Q).trans U)).size (qbr _)) ab)).size (qbr _)) ah).trans aj)).size (qbr _)) an).trans bi).trans cz),(c0.of_le ((((((((((((((((((((((((V.trans W).trans Z).trans y).trans z).trans F).trans G).trans H).trans I).trans K).trans Q).trans U).trans aa).updr (qbs ((((((((((((V.trans W).trans Z).trans y).trans z).trans F).trans G).trans H).trans I).trans K).trans Q).trans U)).size (qbr _)) ab).trans ad).trans ac).trans ae).updr (qbs ((((((((((((((V.trans W).trans Z).trans y).trans z).trans F).trans G).trans H).trans I).trans K).trans Q).trans U).trans aa).updr (qbs ((((((((((((V.trans W).trans Z).trans y).trans z).trans F).trans G).trans H).trans I).trans K).trans Q).trans U)).size (qbr _)) ab)).size (qbr _)) ah).trans aj).trans ai).trans af).trans ak).updr (qbs ((((((((((((((((((V.trans W).trans Z).trans y).trans z).trans F).trans G).trans H).trans I).trans K).trans Q).trans U).trans aa).updr (qbs ((((((((((((V.trans W).trans Z).trans y).trans z).trans F).trans G).trans H).trans I).trans K).trans Q).trans U)).size (qbr _)) ab).trans ad).trans ac).trans ae).updr (qbs ((((((((((((((V.trans W).trans Z).trans y).trans z).trans F).trans G).trans H).trans I).trans K).trans Q).trans U).trans aa).updr (qbs ((((((((((((V.trans W).trans Z).trans y).trans z).trans F).trans G).trans H).trans I).trans K).trans Q).trans U)).size (qbr _)) ab)).size (qbr _)) ah)).size (qbr _)) am).updr (qbs (((((((((((((((((((V.trans W).trans Z).trans y).trans z).trans F).trans G).trans H).trans I).trans K).trans Q).trans U).trans aa).updr (qbs ((((((((((((V.trans W).trans Z).trans y).trans z).trans F).trans G).trans H).trans I).trans K).trans Q).trans U)).size (qbr _)) ab).trans ad).trans ac).trans ae).updr (qbs ((((((((((((((V.trans W).trans Z).trans y).trans z).trans F).trans G).trans H).trans I).trans K).trans Q).trans U).trans aa).updr (qbs ((((((((((((V.trans W).trans Z).trans y).trans z).trans F).trans G).trans H).trans I).trans K).trans Q).trans U)).size (qbr _)) ab)).size (qbr _)) ah).trans aj)).size (qbr _)) an).trans bi))⟩
theorem kbgc{s:kjo}{r:kim}(z:Iter krt s r):kxe r s:=qbf (λs o e y=>by
 cases s with
 | fn x1 x2 x3 x4=>exact @kbj8 _ _ x1 x2 x3 x4 e y
 | no=>exact True.intro
 ) z
inductive ko1
 | fn (x1:List Nat) (x2:List Nat) (x3:List Nat) (x4:List Nat)
 | p3 (x1:List Nat) (x2:List Nat) (x3:List Nat) (x4:List Nat) (x5:List (List Nat)) (a6:Int)
abbrev klg:=List Nat×Int
noncomputable def kbmj(x1 x2 x3 x4:List Nat):Option (ko1⊕klg):=some (.inl (.p3 x1 x2 x3 x4 [x1,x2,x3,x4] 0))
noncomputable def kja(x1 x2 x3 x4:List Nat)(x5:List (List Nat))(a6:Int):Option (ko1⊕klg):=cond (decide (a6<4)) ((atL x5 a6).bind λF=>cond (!(rt F)) (some (.inr ([],1))) ((atL x5 a6).bind λy=>cond (decide ((List.length y:Int)>8)) (some (.inr ([],1))) (some (.inl (.p3 x1 x2 x3 x4 x5 (IntKind.wrap .i64 (a6+1))))))) ((u64P 2).bind λz=>cond (decide ((cmpN x2 (digs B z))<0)) (some (.inr ([],1))) (cond (decide ((cmpN x4 (digs B z))<0)) (some (.inr ([],1))) (cond (decide ((cmpN x1 x2)>=0)) (some (.inr ([],1))) (cond (decide ((cmpN x3 x4)>=0)) (some (.inr ([],1))) (cond (!decide (((invN x2 x4).2)=0)) (some (.inr ([],((invN x2 x4).2)))) (some (.inr ((addN x1 ((mulN x2 ((floorI (((kbl (((kbd ((fromI false x3).1) ((fromI false x3).2) ((fromI false x1).1) ((fromI false x1).2)).1)) ((kbd ((fromI false x3).1) ((fromI false x3).2) ((fromI false x1).1) ((fromI false x1).2)).2.1) ((fromI false ((invN x2 x4).1)).1) ((fromI false ((invN x2 x4).1)).2)).1)) ((kbl (((kbd ((fromI false x3).1) ((fromI false x3).2) ((fromI false x1).1) ((fromI false x1).2)).1)) ((kbd ((fromI false x3).1) ((fromI false x3).2) ((fromI false x1).1) ((fromI false x1).2)).2.1) ((fromI false ((invN x2 x4).1)).1) ((fromI false ((invN x2 x4).1)).2)).2.1) ((fromI false x4).1) ((fromI false x4).2)).2.2.2.1)).1)).1,0))))))))
noncomputable def kk9:ko1->Option (ko1⊕klg)
 | .fn x1 x2 x3 x4=>kbmj x1 x2 x3 x4
 | .p3 x1 x2 x3 x4 x5 a6=>kja x1 x2 x3 x4 x5 a6
def CrtOk(x1 x2 x3 x4:List Nat):Prop:=(rt x1=true/\x1.length<=8)/\(rt x2=true/\x2.length<=8)/\(rt x3=true/\x3.length<=8)/\(rt x4=true/\x4.length<=8)/\2<=num B x2/\2<=num B x4/\num B x1<num B x2/\num B x3<num B x4
def ky3(x1 x2 x3 x4:List Nat)(r:List Nat×Int):Prop :=
 (r.2≠0->r.1=[])/\
 (CrtOk x1 x2 x3 x4->Nat.gcd (num B x4) (num B x2%num B x4)=1->r.2=0)/\
 (r.2=0->∃X,r=(digs B X,0)/\CrtOk x1 x2 x3 x4/\X<num B x2*num B x4/\X%num B x2=num B x1/\X%num B x4=num B x3)
theorem kba8{a b m n w k:Nat}(y:w*m%n=1)(hb:b<n)(hk:((b:Int)-(a:Int))*(w:Int)%(n:Int)=(k:Int)):(a+m*k)%n=b:=by
 have H:(n:Int)≠0:=by omega
 have z:((w:Int)*(m:Int))%(n:Int)=1:=by rw[<- Int.natCast_mul,<- Int.natCast_emod,y];rfl
 have F:((m:Int)*(k:Int))%(n:Int)=((b:Int)-(a:Int))%(n:Int):=by
  rw[<- hk,Int.mul_emod,Int.emod_emod_of_dvd _ (Int.dvd_refl _),<- Int.mul_emod]
  have:(m:Int)*(((b:Int)-(a:Int))*(w:Int))=((b:Int)-(a:Int))*((w:Int)*(m:Int)):=by rw[Int.mul_left_comm,Int.mul_comm (m:Int)]
  rw[this,Int.mul_emod,z,Int.mul_one,Int.emod_emod_of_dvd _ (Int.dvd_refl _)]
 have G:((a:Int)+(m:Int)*(k:Int))%(n:Int)=(b:Int):=by rw[Int.add_emod,F,<- Int.add_emod,show(a:Int)+((b:Int)-(a:Int))=(b:Int)from by omega];exact Int.emod_eq_of_lt (by omega) (by omega)
 have I:(((a+m*k)%n:Nat):Int)=(b:Int):=by rw[Int.natCast_emod,Int.natCast_add,Int.natCast_mul];exact G
 omega
theorem pow8{xs:List Nat}(h:∀x∈xs,x<B)(y:xs.length<=8):num B xs<B^8:=by have h1:=num_lt B1 h;have h2:B^xs.length<=B^8:=Nat.pow_le_pow_right B1 y;omega
theorem B16:B^8*B^8*2<=B^64:=by
 rw[<- Nat.pow_add]
 have h1:B^16*B<=B^64:=by rw[<- Nat.pow_succ];exact Nat.pow_le_pow_right B1 (by decide)
 have h2:B^16*2<=B^16*B:=Nat.mul_le_mul_left _ B2;exact qbs h2 h1
theorem k6q{a b w n:Nat}(z:a<B^8)(hb:b<B^8)(y:w<B^8)(F:n<B^8)(G:0<n):∃k:Nat,k<n/\((b:Int)-(a:Int))*(w:Int)%(n:Int)=(k:Int)/\
  (floorI (((kbl (((kbd ((fromI false (digs B b)).1) ((fromI false (digs B b)).2) ((fromI false (digs B a)).1) ((fromI false (digs B a)).2)).1)) ((kbd ((fromI false (digs B b)).1) ((fromI false (digs B b)).2) ((fromI false (digs B a)).1) ((fromI false (digs B a)).2)).2.1) ((fromI false (digs B w)).1) ((fromI false (digs B w)).2)).1)) ((kbl (((kbd ((fromI false (digs B b)).1) ((fromI false (digs B b)).2) ((fromI false (digs B a)).1) ((fromI false (digs B a)).2)).1)) ((kbd ((fromI false (digs B b)).1) ((fromI false (digs B b)).2) ((fromI false (digs B a)).1) ((fromI false (digs B a)).2)).2.1) ((fromI false (digs B w)).1) ((fromI false (digs B w)).2)).2.1) ((fromI false (digs B n)).1) ((fromI false (digs B n)).2)).2.2.2.1=digs B k:=by
 have H:=B16;have I:1<=B^8:=Nat.pow_pos B1;have p16:B^8*1<=B^8*B^8:=Nat.mul_le_mul_left _ I;have f:∀{x:Nat},x<B^8->fromI false (digs B x)=intD (x:Int):=λ{x} Q=>by rw[kdo (by omega)];rfl
 have K:((b:Int)-(a:Int)).natAbs<B^8:=by omega
 have hp:(((b:Int)-(a:Int))*(w:Int)).natAbs<B^64:=by rw[Int.natAbs_mul,Int.natAbs_natCast];have:=Nat.mul_lt_mul_of_lt_of_lt K y;omega
 have h0:=Int.emod_nonneg (((b:Int)-(a:Int))*(w:Int)) (show(n:Int)≠0 by omega);have h1:=Int.emod_lt_of_pos (((b:Int)-(a:Int))*(w:Int)) (show 0<(n:Int) by omega);obtain⟨k,hk⟩:∃k:Nat,((b:Int)-(a:Int))*(w:Int)%(n:Int)=(k:Int):=⟨_,(Int.toNat_of_nonneg h0).symm⟩;refine⟨k,by omega,hk,?_⟩;rw[f hb,f z,f y,f F,kxw (by rw[Int.natAbs_natCast];omega) (by rw[Int.natAbs_natCast];omega),if_pos (by omega)];dsimp only;rw[k4z (by omega) (by rw[Int.natAbs_natCast];omega),if_pos hp];dsimp only;rw[k0a hp (by rw[Int.natAbs_natCast];omega) (by omega),hk];dsimp only;rw[ko9]
theorem crt_1{x:List Nat}:ke8 x=false↔rt x=true/\x.length<=8:=by
 unfold ke8;cases rt x with
 | false=>simp
 | true =>simp only[Bool.not_true,cond_false,true_and,qbx];omega
theorem kt3{xs ys:List Nat}(y:rt xs=true)(z:rt ys=true):cmpN xs ys=cmp (num B xs) (num B ys):=by unfold cmpN;rw[if_pos ⟨y,z⟩]
theorem kbkz:num B (digs B 2)=2:=kg B2 2
theorem crt_2{x:List Nat}(h:rt x=true):ki7 x=false↔2<=num B x:=by unfold ki7;rw[kt3 h (by decide),qbx,cmp_le,show num B [1]=1 from by simp[num]];omega
theorem kkm{xs ys:List Nat}(y:rt xs=true)(z:rt ys=true):decide (cmpN xs ys>=0)=false↔num B xs<num B ys:=by rw[kt3 y z,qbx,cmp_ge];omega
theorem ks5:u64P 2=some 2:=kbg (n:=2) (by decide)
theorem rt_two:rt (digs B 2)=true:=kv (by have:=kjy;omega)
theorem kru{xs:List Nat}(y:rt xs=true):decide (cmpN xs (digs B 2)<0)=false↔2<=num B xs:=by rw[kt3 y rt_two,qbx,cmp_lt,kbkz];omega
theorem k6y{x1 x2 x3 x4:List Nat}(h:¬CrtOk x1 x2 x3 x4):Iter krt (.fn x1 x2 x3 x4) ([],1):=by refine .done ?_;show kf1 _ _ _ _=_;unfold kf1;refine kci (λ_=>rfl) λH=>?_;refine kci (λ_=>rfl) λI=>?_;refine kci (λ_=>rfl) λK=>?_;refine kci (λ_=>rfl) λQ=>?_;refine kci (λ_=>rfl) λU=>?_;refine kci (λ_=>rfl) λV=>?_;refine kci (λ_=>rfl) λW=>?_;refine kci (λ_=>rfl) λZ=>?_;exfalso;have F:=crt_1.1 H;have y:=crt_1.1 K;have G:=crt_1.1 I;have z:=crt_1.1 Q;exact h ⟨F,y,G,z,(crt_2 y.1).1 U,(crt_2 z.1).1 V,(kkm F.1 y.1).1 W,(kkm G.1 z.1).1 Z⟩
theorem kod{x1 x2 x3 x4:List Nat}{L:List (List Nat)}{r:klg}(Q:L.length=4){i:Nat}(U:i<4)(F:¬(rt (L[i]'(by omega))=true/\(L[i]'(by omega)).length<=8)->r=([],1))
  (K:(rt (L[i]'(by omega))=true/\(L[i]'(by omega)).length<=8)->Iter kk9 (.p3 x1 x2 x3 x4 L ((i+1:Nat):Int)) r):Iter kk9 (.p3 x1 x2 x3 x4 L (i:Int)) r:=by
 have G:atL L (i:Int)=some (L[i]'(by omega)):=by unfold atL;rw[if_pos (by omega),Int.toNat_natCast,qb6]
 generalize L[i]'(by omega)=y at *
 have z:∀o,cond (!(rt y)) (some (.inr ([],1))) (cond (decide ((List.length y:Int)>8)) (some (.inr ([],1))) (some (.inl (.p3 x1 x2 x3 x4 L ((i+1:Nat):Int)))))=o->kk9 (.p3 x1 x2 x3 x4 L (i:Int))=o:=by intro o H;show kja _ _ _ _ _ _=_;unfold kja;rw[condT (by rw[qby];omega),G,qbv,qbv,ki (by omega)];exact H
 by_cases g:rt y=true/\y.length<=8
 ·refine .next (z _ ?_) (K g);rw[g.1,condF (by rfl),condF (by rw[qbx];omega)]
 ·refine .done (z _ ?_);rw[F g];cases I:rt y with
  | false=>rfl
  | true =>have:¬y.length<=8:=λh=>g ⟨I,h⟩;rw[condF (by rfl),condT (by rw[qby];omega)]
theorem kxj{x1 x2 x3 x4:List Nat}{r:klg}(y:¬((rt x1=true/\x1.length<=8)/\(rt x2=true/\x2.length<=8)/\(rt x3=true/\x3.length<=8)/\(rt x4=true/\x4.length<=8))->r=([],1))
  (K:((rt x1=true/\x1.length<=8)/\(rt x2=true/\x2.length<=8)/\(rt x3=true/\x3.length<=8)/\(rt x4=true/\x4.length<=8))->kja x1 x2 x3 x4 [x1,x2,x3,x4] 4=some (.inr r)):Iter kk9 (.fn x1 x2 x3 x4) r:=by
 refine .next (s':=.p3 x1 x2 x3 x4 [x1,x2,x3,x4] ((0:Nat):Int)) rfl ?_;refine kod rfl (by omega) (λh=>y λg=>h g.1) λz=>?_;refine kod rfl (by omega) (λh=>y λg=>h g.2.1) λF=>?_;refine kod rfl (by omega) (λh=>y λg=>h g.2.2.1) λG=>?_;refine kod rfl (by omega) (λh=>y λg=>h g.2.2.2) λH=>?_;exact .done (K ⟨z,F,G,H⟩)
theorem crt_fn{x1 x2 x3 x4:List Nat}(l1:∀x∈x1,x<B)(l2:∀x∈x2,x<B)(l3:∀x∈x3,x<B)(l4:∀x∈x4,x<B) :
  ∃r,Iter krt (.fn x1 x2 x3 x4) r/\Iter kk9 (.fn x1 x2 x3 x4) r/\ky3 x1 x2 x3 x4 r:=by
 by_cases G:CrtOk x1 x2 x3 x4
 ·obtain⟨F,y,H,z,hm,hn,ha,hb⟩:=id G;have k1:=crt_1.2 F;have k2:=crt_1.2 y;have k3:=crt_1.2 H;have k4:=crt_1.2 z;have W:=(crt_2 y.1).2 hm;have Z:=(crt_2 z.1).2 hn;have Q:=(kkm F.1 y.1).2 ha;have U:=(kkm H.1 z.1).2 hb;have q5:=(kru y.1).2 hm;have q6:=(kru z.1).2 hn;have S:=(kwv l2 l4).2.2.1 ⟨y.1,z.1,hn⟩;have I:decide ((4:Int)<4)=false:=rfl;by_cases hg:Nat.gcd (num B x4) (num B x2%num B x4)=1
  ·obtain⟨w,hw,V,aa⟩:=S.2 hg;have a8:=pow8 l1 F.2;have m8:=pow8 l2 y.2;have b8:=pow8 l3 H.2;have n8:=pow8 l4 z.2;obtain⟨k,hk,ab,K⟩:=k6q (a:=num B x1) (b:=num B x3) (w:=w) (n:=num B x4) a8 b8 (by omega) n8 (by omega);rw[kd3 B2 l1 (rt_iff.1 F.1).2,kd3 B2 l3 (rt_iff.1 H.1).2,kd3 B2 l4 (rt_iff.1 z.1).2]at K;have af:=B16;have p16:B^8*1<=B^8*B^8:=Nat.mul_le_mul_left _ (Nat.pow_pos B1);have ac:num B x2*num B x4<B^8*B^8:=Nat.mul_lt_mul_of_lt_of_lt m8 n8
   have hX:num B x1+num B x2*k<num B x2*num B x4:=by have:num B x2*(k+1)<=num B x2*num B x4:=Nat.mul_le_mul_left _ hk;rw[Nat.mul_add,Nat.mul_one]at this;omega
   have em:mulN x2 (digs B k)=(digs B (num B x2*k),0):=by unfold mulN;rw[if_pos ⟨y.1,kv (by omega)⟩,kg B2,kj8 (by omega)]
   have ad:addN (digs B (num B x2*k)) x1=(digs B (num B x1+num B x2*k),0):=by unfold addN;rw[if_pos ⟨kv (by omega),F.1⟩,kg B2,Nat.add_comm,kj8 (by omega)]
   have ae:addN x1 (digs B (num B x2*k))=(digs B (num B x1+num B x2*k),0):=by unfold addN;rw[if_pos ⟨F.1,kv (by omega)⟩,kg B2,kj8 (by omega)]
   refine⟨(digs B (num B x1+num B x2*k),0),.done ?_,kxj (λh=>absurd ⟨F,y,H,z⟩ h) λ_=>?_,λh=>absurd rfl h,λ_ _=>rfl,λ_=>⟨_,rfl,G,hX,?_,?_⟩⟩
   ·show kf1 _ _ _ _=_;unfold kf1;rw[k1,k2,k3,k4,W,Z,Q,U];simp only[cond_false];rw[V];dsimp only;rw[condF (by rfl),K,em];dsimp only;rw[ad]
   ·unfold kja;rw[I,cond_false,ks5,qbv,q5,q6,Q,U];simp only[cond_false];rw[V];dsimp only;rw[condF (by rfl),K,em];dsimp only;rw[ae]
   ·rw[Nat.add_mul_mod_self_left,Nat.mod_eq_of_lt ha]
   ·exact kba8 aa hb ab
  ·have V:=S.1 hg;refine⟨([],6),.done ?_,kxj (λh=>absurd ⟨F,y,H,z⟩ h) λ_=>?_,λ_=>rfl,λ_ h=>absurd h hg,λh=>by cases h⟩
   ·show kf1 _ _ _ _=_;unfold kf1;rw[k1,k2,k3,k4,W,Z,Q,U,V];rfl
   ·unfold kja;rw[I,cond_false,ks5,qbv,q5,q6,Q,U,V];rfl
 ·refine⟨([],1),k6y G,kxj (λ_=>rfl) λg=>?_,λ_=>rfl,λh=>absurd h G,λh=>by cases h⟩;obtain⟨F,y,H,z⟩:=g;unfold kja;rw[show decide ((4:Int)<4)=false from rfl,cond_false,ks5,qbv];refine kci (λ_=>rfl) λW=>?_;refine kci (λ_=>rfl) λZ=>?_;refine kci (λ_=>rfl) λQ=>?_;refine kci (λ_=>rfl) λU=>?_;exact absurd ⟨F,y,H,z,(kru y.1).1 W,(kru z.1).1 Z,(kkm F.1 y.1).1 Q,(kkm H.1 z.1).1 U⟩ G
noncomputable def crtN(x1 x2 x3 x4:List Nat):List Nat×Int:=by
 classical
 exact if h:(∀x∈x1,x<B)/\(∀x∈x2,x<B)/\(∀x∈x3,x<B)/\(∀x∈x4,x<B)then(crt_fn h.1 h.2.1 h.2.2.1 h.2.2.2).choose else([],0)
theorem k4s{x1 x2 x3 x4:List Nat}(y:∀x∈x1,x<B)(z:∀x∈x2,x<B)(F:∀x∈x3,x<B)(G:∀x∈x4,x<B):Iter krt (.fn x1 x2 x3 x4) (crtN x1 x2 x3 x4)/\Iter kk9 (.fn x1 x2 x3 x4) (crtN x1 x2 x3 x4)/\ky3 x1 x2 x3 x4 (crtN x1 x2 x3 x4):=by unfold crtN;rw[dif_pos ⟨y,z,F,G⟩];exact(crt_fn y z F G).choose_spec
theorem k6r{h:AH}{a b c d:Sl}{x1 x2 x3 x4:List Nat}(n1:Nats h a x1)(n2:Nats h b x2)(y:Nats h c x3)(z:Nats h d x4):Runs (go (.fn kp8 [a.v,b.v,c.v,d.v]) h) (k59 h (crtN x1 x2 x3 x4)):=kbgc (k4s n1.lt n2.lt y.lt z.lt).1 n1 n2 y z
end Go.Ab
namespace Go.Ab
variable{P:Program}
inductive All2{α β:Type}(R:α->β->Prop):List α->List β->Prop
 | nil:All2 R [] []
 | cons {a:α} {b:β} {ls:List α} {bs:List β}:R a b->All2 R ls bs->All2 R (a::ls) (b::bs)
section
variable{α β:Type}{R S:α->β->Prop}
theorem All2.imp(f:∀a b,R a b->S a b){ls:List α}{bs:List β}(a:All2 R ls bs):All2 S ls bs:=by
 induction a with
 | nil=>exact .nil
 | cons h _ ih=>exact .cons (f _ _ h) ih
theorem All2.length{ls:List α}{bs:List β}(a:All2 R ls bs):ls.length=bs.length:=by
 induction a with
 | nil=>rfl
 | cons h _ ih=>simp[ih]
theorem All2.get{ls:List α}{bs:List β}(a:All2 R ls bs):∀{i:Nat}{y:β},bs[i]?=some y->∃x,ls[i]?=some x/\R x y:=by
 induction a with
 | nil=>intro i y h;simp at h
 | cons h _ ih =>
  intro i y z;cases i with
  | zero=>cases z;exact⟨_,rfl,h⟩
  | succ i=>exact ih z
theorem All2.snoc{ls:List α}{bs:List β}(a:All2 R ls bs){x:α}{y:β}(h:R x y):All2 R (ls++[x]) (bs++[y]):=by
 induction a with
 | nil=>exact .cons h .nil
 | cons h' _ ih=>exact .cons h' ih
end
structure El(α:Type) where
 w:Nat
 pos:0<w
 has:AH->List AV->α->Prop
 av:Nat->List AV->α->Prop
 len:∀{h:AH}{cs:List AV}{a:α},has h cs a->cs.length=w
 grow:∀{h h':AH}{cs:List AV}{a:α},Grow h h'->has h cs a->has h' cs a
 upd:∀{h h':AH}{i:Nat}{cs:List AV}{a:α},has h cs a->av i cs a->Upd h h' i->has h' cs a
 new:∀{h:AH}{i:Nat}{cs:List AV}{a:α},has h cs a->h.blks.size<=i->av i cs a
def El.int(k:IntKind):El Int where
 w:=1
 pos:=by decide
 has _ cs n:=cs=[.int k n]
 av _ _ _:=True
 len e:=by rw[e];rfl
 grow _ e:=e
 upd e _ _:=e
 new _ _:=trivial
def El.bool:El Bool where
 w:=1
 pos:=by decide
 has _ cs b:=cs=[.bool b]
 av _ _ _:=True
 len e:=by rw[e];rfl
 grow _ e:=e
 upd e _ _:=e
 new _ _:=trivial
theorem Sl.vs_inj{s t:Sl}(h:[Sl.v s]=[Sl.v t]):s=t:=by
 cases s;cases t;simp only[Sl.v,List.cons.injEq,AV.slice.injEq,and_true]at h;obtain⟨rfl,rfl,rfl⟩:=h;rfl
def El.nats:El (List Nat) where
 w:=1
 pos:=by decide
 has h cs xs:=∃s,cs=[Sl.v s]/\Nats h s xs
 av i cs xs:=∃s,cs=[Sl.v s]/\Av s i xs
 len:=λ⟨s,e,_⟩=>by rw[e];rfl
 grow g:=λ⟨s,e,n⟩=>⟨s,e,n.grow g⟩
 upd:=λ⟨s,e,n⟩ ⟨t,y,a⟩ u=>by rw[e]at y;cases Sl.vs_inj y;exact⟨s,e,n.upda a u⟩
 new:=λ⟨s,e,n⟩ z=>⟨s,e,qbh n z⟩
def El.pair{α β:Type}(A:El α)(B:El β):El (α×β) where
 w:=A.w+B.w
 pos:=by have:=A.pos;omega
 has h cs p:=∃y z,cs=y++z/\A.has h y p.1/\B.has h z p.2
 av i cs p:=∃y z,cs=y++z/\y.length=A.w/\A.av i y p.1/\B.av i z p.2
 len:=λ⟨y,z,e,a,b⟩=>by rw[e,qb2,A.len a,B.len b]
 grow g:=λ⟨y,z,e,a,b⟩=>⟨y,z,e,A.grow g a,B.grow g b⟩
 upd:=λ⟨y,z,e,a,b⟩ ⟨d1,H,F,l,a',b'⟩ u=>by rw[e]at F;obtain⟨rfl,rfl⟩:=List.append_inj F (by rw[A.len a,l]);exact⟨y,z,e,A.upd a a' u,B.upd b b' u⟩
 new:=λ⟨y,z,e,a,b⟩ G=>⟨y,z,e,A.len a,A.new a G,B.new b G⟩
theorem kfj{w:Nat}:∀{rows:List (List AV)},(∀r∈rows,r.length=w)->rows.flatten.length=rows.length*w
 | [],_=>by simp
 | r::rows,h=>by rw[List.flatten_cons,qb2,kfj (λq hq=>h q (by simp[hq])),h r (by simp),qb4,Nat.add_mul];omega
theorem kqx{w:Nat}:∀{rows:List (List AV)},(∀r∈rows,r.length=w)->∀{i:Nat}{r:List AV}{k:Nat}{v:AV},rows[i]?=some r->r[k]?=some v->rows.flatten[i*w+k]?=some v
 | [],_,i,r,k,v,y,_=>by simp at y
 | q::rows,h,0,r,k,v,y,hk=>by
  cases y;rw[List.flatten_cons,List.getElem?_append_left (by have:=(qcg.1 hk).1;omega)]
  simpa using hk
 | q::rows,h,i+1,r,k,v,y,hk=>by have:=kqx (λq hq=>h q (by simp[hq])) (show rows[i]?=some r from y) hk;rw[List.flatten_cons,List.getElem?_append_right (by rw[h q (by simp),Nat.add_mul];omega),h q (by simp),show(i+1)*w+k-w=i*w+k from by rw[Nat.add_mul];omega];exact this
theorem All2.rows{α:Type}{E:El α}{h:AH}{rows:List (List AV)}{xs:List α}(a:All2 (E.has h) rows xs):∀r∈rows,r.length=E.w:=by
 induction a with
 | nil=>simp
 | cons h' _ ih =>
  intro r y;rcases qb8.1 y with rfl | y
  ·exact E.len h'
  ·exact ih r y
structure Seq{α:Type}(E:El α)(h:AH)(s:Sl)(xs:List α):Prop where
 rows:∃rows,Cells h s E.w rows.flatten/\All2 (E.has h) rows xs
 len:s.len=xs.length
 short:xs.length<=9223372036854775807
theorem Seq.grow{α:Type}{E:El α}{h h':AH}{s:Sl}{xs:List α}(n:Seq E h s xs)(g:Grow h h'):Seq E h' s xs:=by obtain⟨⟨rows,c,a⟩,l,y⟩:=n;exact⟨⟨rows,c.grow g,a.imp λ_ _=>E.grow g⟩,l,y⟩
theorem Seq.nil{α:Type}(E:El α)(h:AH):Seq E h ⟨none,0,.is 0⟩ []:=⟨⟨[],Cells.nil h _,.nil⟩,rfl,by simp⟩
def atX{α:Type}(xs:List α)(i:Int):Option α:=if 0<=i then xs[i.toNat]? else none
theorem kzv{α:Type}{xs:List α}{i:Int}{y:α}(q:atX xs i=some y):∃j:Nat,i=(j:Int)/\xs[j]?=some y:=by
 unfold atX at q;split at q
 ·exact⟨i.toNat,by omega,q⟩
 ·cases q
theorem khc{α:Type}{xs:List α}{i:Nat}(h:i<xs.length):atX xs (i:Int)=some xs[i]:=by unfold atX;rw[if_pos (by omega),Int.toNat_natCast,qb6 h]
structure Lies(h:AH)(r:Ref)(cs:List AV):Prop where
 at':∀k v,cs[k]?=some v->h.cell (r.add k)=some v
theorem Lies.rd{A:Type}{f:AV->Option A}{h h':AH}{r:Ref}{cs:List AV}(l:Lies h r cs)(g:Grow h h')(k:Nat){v:AV}{x:A}(hk:cs[k]?=some v)(y:f v=some x):(h'.cell (r.add k)).bind f=some x:=by rw[g.cell_some (l.at' k v hk)];exact y
theorem Lies.rd0{A:Type}{f:AV->Option A}{h h':AH}{r:Ref}{cs:List AV}(l:Lies h r cs)(g:Grow h h'){v:AV}{x:A}(hk:cs[0]?=some v)(y:f v=some x):(h'.cell r).bind f=some x:=by have:=l.rd g 0 hk y;rwa[Ref.add_zero]at this
theorem Seq.at{α:Type}{E:El α}{h:AH}{s:Sl}{xs:List α}(n:Seq E h s xs){i:Int}{y:α}(q:atX xs i=some y):∃(r:Ref)(cs:List AV),idx s.ref xs.length i E.w=some r/\E.has h cs y/\Lies h r cs:=by
 obtain⟨⟨rows,c,a⟩,l,U⟩:=n;obtain⟨j,rfl,z⟩:=kzv q;obtain⟨cs,G,F⟩:=a.get z;have H:=(qcg.1 z).1;have I:=a.rows;have key:∀k v,cs[k]?=some v->∃r,s.ref=some r/\h.cell (r.add (j*E.w+k))=some v:=λk v hk=>c.get _ _ (kqx I G hk);cases hs:s.ref with
 | none =>
  exfalso;cases cs with
  | nil=>have:=E.len F;have:=E.pos;simp at *;omega
  | cons v vs =>
   obtain⟨r,e,_⟩:=key 0 v rfl;rw[hs]at e;cases e
 | some r =>
  refine⟨r.add (j*E.w),cs,?_,F,⟨λk v hk=>?_⟩⟩
  ·rw[keq _ _ _ _ (by omega) (by omega)];simp
  ·obtain⟨V,e,K⟩:=key k v hk;rw[hs]at e;cases e;rw[Ref.add_add];exact K
structure GL{α:Type}(E:El α)(elem:TypeId)(h:AH)(s:Sl)(i:Nat)(xs:List α):Prop where
 rows:∃rows,Cells h s E.w rows.flatten/\All2 (λcs a=>E.has h cs a/\E.av i cs a) rows xs
 len:s.len=xs.length
 own:s.cap=.is s.len\/(s.ref=some (.new i 0)/\s.cap=.opn E.w/\∃bs,h.has i bs elem)
 loc:∀r,s.ref=some r->∃o,r=.new i o
theorem GL.nil{α:Type}(E:El α)(elem:TypeId)(h:AH)(i:Nat):GL E elem h ⟨none,0,.is 0⟩ i []:=⟨⟨[],Cells.nil h _,.nil⟩,rfl,.inl rfl,λr y=>by cases y⟩
theorem GL.one{α:Type}{E:El α}{elem e:TypeId}{h:AH}{i:Nat}{cs:List AV}{x:α}(b:h.has i cs e)(c:E.has h cs x)(a:E.av i cs x):GL E elem h ⟨some (.new i 0),1,.is 1⟩ i [x]:=⟨⟨[cs],qp (by simpa using b) (by simp[E.len c]),.cons ⟨c,a⟩ .nil⟩,rfl,.inl rfl,λr y=>by cases y;exact⟨_,rfl⟩⟩
theorem GL.grow{α:Type}{E:El α}{elem:TypeId}{h h':AH}{s:Sl}{i:Nat}{xs:List α}(v:GL E elem h s i xs)(g:Grow h h'):GL E elem h' s i xs:=by obtain⟨⟨rows,c,a⟩,l,o,lo⟩:=v;exact⟨⟨rows,c.grow g,a.imp λ_ _ p=>⟨E.grow g p.1,p.2⟩⟩,l,o.imp id λ⟨y,z,bs,b⟩=>⟨y,z,bs,g.has b⟩,lo⟩
theorem GL.seq{α:Type}{E:El α}{elem:TypeId}{h:AH}{s:Sl}{i:Nat}{xs:List α}(v:GL E elem h s i xs)(hs:xs.length<=9223372036854775807):Seq E h s xs:=by obtain⟨⟨rows,c,a⟩,l,o,lo⟩:=v;exact⟨⟨rows,c,a.imp λ_ _ p=>p.1⟩,l,hs⟩
theorem AH.kill_Upd(h:AH)(i:Nat):Upd h (h.kill (some (.new i 0))) i :=
 ⟨rfl,by simp[AH.kill],λj y _=>by show(h.blks.setIfInBounds i .dead)[j]?=_;rw[Array.getElem?_setIfInBounds_ne (λx=>y x.symm)]⟩
theorem GL.push{α:Type}{E:El α}{elem:TypeId}{h:AH}{s:Sl}{i:Nat}{xs:List α}(v:GL E elem h s i xs){cs:List AV}{x:α}(c:E.has h cs x)(a:E.av i cs x)(z:growOk P (xs.length+1) elem E.w=true) :
  ∃s' h',kx P s cs 1 elem E.w h=some (s'.v,h')/\GL E elem h' s' h.blks.size (xs++[x])/\Upd h h' i:=by
 obtain⟨⟨rows,F,U⟩,l,o,lo⟩:=v;rw[<- l]at z;have V:(s.len+1)*E.w=(rows.flatten++cs).length:=by rw[Nat.add_mul,F.len,qb2,E.len c,Nat.one_mul]
 have fr:rows.flatten++cs=(rows++[cs]).flatten:=by simp
 rcases o with e | ⟨G,Z,bs,b⟩
 ·rw[kiy e (by omega) z F];refine⟨_,_,rfl,⟨⟨rows++[cs],⟨rfl,by rw[<- fr];exact V,λj w H=>⟨_,rfl,?_⟩⟩,?_⟩,by simp[l],.inr ⟨rfl,rfl,rows.flatten++cs,qm _ _ _⟩,λr I=>by cases I;exact⟨_,rfl⟩⟩,(ql _ _).toUpd i⟩
  ·rw[fr]
   simpa using H
  ·refine All2.snoc (U.imp λ_ _ p=>?_) ⟨E.grow (ql _ _) c,E.new c (qbr _)⟩;exact⟨E.grow (ql _ _) p.1,E.new p.1 (qbr _)⟩
 ·have K:kx P s cs 1 elem E.w h=some (Sl.v ⟨some (.new h.blks.size 0),s.len+1,.opn E.w⟩,(h.kill s.ref).push (.cells (rows.flatten++cs) elem)):=by
   unfold kx;simp only[Z];rw[show Nat.beq 1 0=false from rfl,show Nat.beq E.w E.w=true from Nat.beq_refl _];simp only[cond_false,z,Bool.and_true,cond_true,G,show h.blks[i]?=_ from b];have y:=F.gets;rw[G]at y;simp only[y,qbv];rw[show Nat.beq elem elem=true from Nat.beq_refl _,cond_true];have:(AH.kill h (some (Ref.new i 0))).blks.size=h.blks.size:=by simp[AH.kill]
   simp[AH.next,this,Sl.v];rfl
  rw[K,G];have W:(h.kill (some (.new i 0))).blks.size=h.blks.size:=by simp[AH.kill]
  have u:Upd h (h.kill (some (.new i 0))) i:=AH.kill_Upd h i;refine⟨_,_,rfl,⟨⟨rows++[cs],⟨rfl,by rw[<- fr];exact V,λj w H=>⟨_,rfl,?_⟩⟩,?_⟩,by simp[l],.inr ⟨rfl,rfl,rows.flatten++cs,?_⟩,λr I=>by cases I;exact⟨_,rfl⟩⟩,u.trans ((ql _ _).toUpd i)⟩
  ·rw[fr,<- W]
   simpa using H
  ·refine All2.snoc (U.imp λ_ _ p=>?_) ⟨E.grow (ql _ _) (E.upd c a u),E.new c (qbr _)⟩;exact⟨E.grow (ql _ _) (E.upd p.1 p.2 u),E.new p.1 (qbr _)⟩
  ·have:=qm (h.kill (some (.new i 0))) (rows.flatten++cs) elem;rw[W]at this;exact this
theorem kdk{h:AH}{i n:Nat}{cs:List AV}{e elem:TypeId}(b:h.has i cs e)(y:n*P.cellsOf elem=cs.length):kbb P elem (Sl.v ⟨some (.new i 0),n,.is n⟩) h=some (cs,n):=kih (qp b y)
section
variable{Q:AV->AH->Prop}
theorem Runs.putAt{h:AH}{i o:Nat}{cs cs' vs:List AV}{e:TypeId}{K:AH->Option (AV×AH)}(b:h.has i cs e)(y:o+vs.length<=cs.length)(z:cs.take o++vs++cs.drop (o+vs.length)=cs')(H:∀h',h'.has i cs' e->Upd h h' i->Runs (K h') Q):Runs ((h.puts ((Ref.new i 0).add o) vs).bind K) Q:=by subst z;rw[qj,Nat.zero_add,b.puts y];exact H _ (qo b _ e) (AH.upd_Upd h i _ e)
abbrev qbl:=@Runs.putAt
end
end Go.Ab
namespace Go.Ab
def overW(xs ys:List Nat):Option (List Nat):=if ys.length<=xs.length then some (ys++xs.drop ys.length)else none
theorem kyu{xs ys zs:List Nat}(q:overW xs ys=some zs):zs.length=xs.length:=by
 unfold overW at q;split at q
 ·cases q;simp;omega
 ·cases q
theorem Vec.copyV{h:AH}{s t:Sl}{i:Nat}{xs ys zs:List Nat}(v:Vec h t i xs)(m:Nats h s ys)(q:overW xs ys=some zs):∃h',copyH s t 1 h=some h'/\Vec h' t i zs/\Upd h h' i:=by
 unfold overW at q;split at q
 ·rename_i y;cases q;have z:(⟨some (.new i 0),ys.length,.is ys.length⟩:Sl).fit 1:=qbr _;have w:Win ⟨some (.new i 0),ys.length,.is ys.length⟩ i 0 ys.length:=⟨rfl,rfl,z⟩;obtain⟨h',e,v',u⟩:=v.copyW (zs:=ys++xs.drop ys.length) w m (by unfold setW;rw[if_pos ⟨by omega,rfl⟩];simp);refine⟨h',?_,v',u⟩;rw[<- e];unfold copyH;rw[m.len,v.is,Nat.min_self,Nat.min_eq_left y]
 ·cases q
variable{P:Program}
def UpdO(h h':AH):Option Nat->Prop
 | none=>Grow h h'
 | some k=>Upd h h' k
def AvO(s:Sl)(xs:List Nat):Option Nat->Prop
 | none=>True
 | some k=>Av s k xs
def LeO(n:Nat):Option Nat->Prop
 | none=>True
 | some k=>n<=k
def LtO(n:Nat):Option Nat->Prop
 | none=>True
 | some k=>k<n
def NeO(j:Nat):Option Nat->Prop
 | none=>True
 | some k=>j≠k
theorem LeO.trans{m n:Nat}(h:m<=n):∀{i:Option Nat},LeO n i->LeO m i
 | none,_=>trivial
 | some k,l=>qbs h l
theorem NeO.of_lt{j n:Nat}:∀{i:Option Nat},LtO n i->n<=j->NeO j i
 | none,_,_=>trivial
 | some k,l,h=>by have:k<n:=l;show j≠k;omega
theorem AvO.of_base{h0:AH}{s:Sl}{xs:List Nat}(n:Nats h0 s xs):∀{i:Option Nat},LeO h0.blks.size i->AvO s xs i
 | none,_=>trivial
 | some k,l=>qbh n l
theorem AvO.of_own{h1:AH}{s:Sl}{xs:List Nat}(o:Own h1 s):∀{i:Option Nat},LtO h1.blks.size i->AvO s xs i
 | none,_=>trivial
 | some k,l=>qbi o l
theorem Grow.updo{h h1 h2:AH}(g:Grow h h1):∀{i:Option Nat},LeO h.blks.size i->UpdO h1 h2 i->Grow h h2
 | none,_,u=>g.trans u
 | some k,l,u=>g.updr l u
theorem AH.has.updo{h1 h2:AH}{j:Nat}{cs:List AV}{e:TypeId}(b:h1.has j cs e):∀{i:Option Nat},NeO j i->UpdO h1 h2 i->h2.has j cs e
 | none,_,u=>u.has b
 | some k,l,u=>qw b l u
theorem Nats.updo{h1 h2:AH}{s:Sl}{xs:List Nat}(b:Nats h1 s xs):∀{i:Option Nat},AvO s xs i->UpdO h1 h2 i->Nats h2 s xs
 | none,_,u=>b.grow u
 | some k,l,u=>b.upda l u
def GO{α:Type}(E:El α)(elem:TypeId)(h:AH)(s:Sl)(i:Option Nat)(xs:List α):Prop :=
 xs.length<=9223372036854775807/\match i with
 | none=>s=⟨none,0,.is 0⟩/\xs=[]
 | some k=>GL E elem h s k xs/\k<h.blks.size
def AvE{α:Type}(E:El α)(cs:List AV)(x:α):Option Nat->Prop
 | none=>True
 | some k=>E.av k cs x
variable{α:Type}{E:El α}{elem:TypeId}
theorem GO.one{h:AH}{i:Nat}{cs:List AV}{x:α}{e:TypeId}(b:h.has i cs e)(c:E.has h cs x)(a:E.av i cs x):GO E elem h ⟨some (.new i 0),1,.is 1⟩ (some i) [x]:=⟨by simp,GL.one b c a,b.lt⟩
theorem GO.grow{h h':AH}{s:Sl}:∀{i:Option Nat}{xs:List α},GO E elem h s i xs->Grow h h'->GO E elem h' s i xs
 | .none,_,v,g=>v
 | .some k,_,⟨l,v,lt⟩,g=>⟨l,v.grow g,qbt lt g.size⟩
theorem GO.lt{h:AH}{s:Sl}:∀{i:Option Nat}{xs:List α},GO E elem h s i xs->LtO h.blks.size i
 | .none,_,_=>trivial
 | .some k,_,v=>v.2.2
theorem GO.seq{h:AH}{s:Sl}:∀{i:Option Nat}{xs:List α},GO E elem h s i xs->Seq E h s xs
 | .none,xs,⟨_,y,z⟩=>by
  subst y;subst z;exact Seq.nil E h
 | .some k,_,v=>v.2.1.seq v.1
theorem GL.lt{h:AH}{s:Sl}{i:Nat}{x:α}{xs:List α}(v:GL E elem h s i (xs++[x])):i<h.blks.size:=by
 obtain⟨⟨rows,c,a⟩,l,o,lo⟩:=v;have y:rows.length=xs.length+1:=by have:=All2.length a;simpa using this
 have z:=kfj (w:=E.w) (rows:=rows) (All2.rows (a.imp λ_ _ p=>p.1));have hp:=E.pos
 have h0:0<rows.flatten.length:=by rw[z,y];exact Nat.mul_pos (by omega) hp
 obtain⟨r,F,G⟩:=c.get 0 _ (qb6 h0);obtain⟨k,rfl⟩:=lo r F;have:=AH.cell_inn G;rw[qj]at this;exact this
theorem kzd{n m:Nat}(h:growOk P n elem m=true):n<=9223372036854775807:=by unfold growOk at h;rw[qcb,qby]at h;have:=h.1.2;simp only[ky]at this;omega
theorem GO.push{h:AH}{s:Sl}{i:Option Nat}{xs:List α}(v:GO E elem h s i xs){cs:List AV}{x:α}(c:E.has h cs x)(a:AvE E cs x i)(y:growOk P (xs.length+1) elem E.w=true) :
  ∃s' h',kx P s cs 1 elem E.w h=some (s'.v,h')/\GO E elem h' s' (some h.blks.size) (xs++[x])/\UpdO h h' i:=by
 have z:=kzd y;cases i with
 | none =>
  obtain⟨_,F,G⟩:=v;subst F;subst G;obtain⟨s',h',e,v',u⟩:=(GL.nil E elem h h.blks.size).push c (E.new c (qbr _)) y;exact⟨s',h',e,⟨by simp,v',v'.lt⟩,(qk h).updr (qbr _) u⟩
 | some k =>obtain⟨s',h',e,v',u⟩:=v.2.1.push c a y;exact⟨s',h',e,⟨by simpa using z,v',v'.lt⟩,u⟩
theorem AvE.nats{s:Sl}{xs:List Nat}:∀{i:Option Nat},AvO s xs i->AvE El.nats [s.v] xs i
 | .none,_=>trivial
 | .some k,a=>⟨s,rfl,a⟩
end Go.Ab
namespace Go.Ab
variable{P:Program}
abbrev Fp:=Nat->Prop
def Fp.no:Fp:=λ_=>False
def Fp.all:Fp:=λ_=>True
def Fp.or(S T:Fp):Fp:=λj=>S j\/T j
def Fp.below(n:Nat):Fp:=λj=>j<n
def Fp.from(n:Nat):Fp:=λj=>n<=j
def Fp.sl(s:Sl)(xs:List Nat):Fp:=λj=>¬Av s j xs
theorem Fp.not_no{i:Nat}:¬Fp.no i:=λh=>h
abbrev qbm:=@Fp.not_no
def NotO(S:Fp):Option Nat->Prop
 | none=>True
 | some k=>¬S k
theorem NotO.no:∀{i:Option Nat},NotO Fp.no i
 | none=>trivial
 | some _=>qbm
structure Ef(α:Type) where
 w:Nat
 pos:0<w
 has:AH->Fp->List AV->α->Prop
 len:∀{h:AH}{S:Fp}{cs:List AV}{a:α},has h S cs a->cs.length=w
 grow:∀{h h':AH}{S:Fp}{cs:List AV}{a:α},Grow h h'->has h S cs a->has h' S cs a
 mono:∀{h:AH}{S T:Fp}{cs:List AV}{a:α},(∀j,S j->T j)->has h S cs a->has h T cs a
 upd:∀{h h':AH}{S:Fp}{i:Nat}{cs:List AV}{a:α},¬S i->Upd h h' i->has h S cs a->has h' S cs a
 bound:∀{h:AH}{S:Fp}{cs:List AV}{a:α},has h S cs a->has h (λj=>S j/\j<h.blks.size) cs a
def Ef.int(k:IntKind):Ef Int where
 w:=1
 pos:=by decide
 has _ _ cs n:=cs=[.int k n]
 len e:=by rw[e];rfl
 grow _ e:=e
 mono _ e:=e
 upd _ _ e:=e
 bound e:=e
def Ef.bool:Ef Bool where
 w:=1
 pos:=by decide
 has _ _ cs b:=cs=[.bool b]
 len e:=by rw[e];rfl
 grow _ e:=e
 mono _ e:=e
 upd _ _ e:=e
 bound e:=e
def Ef.str:Ef ByteArray where
 w:=1
 pos:=by decide
 has _ _ cs b:=cs=[.str b]
 len e:=by rw[e];rfl
 grow _ e:=e
 mono _ e:=e
 upd _ _ e:=e
 bound e:=e
def Ef.nats:Ef (List Nat) where
 w:=1
 pos:=by decide
 has h S cs xs:=∃s,cs=[Sl.v s]/\Nats h s xs/\∀j,¬Av s j xs->S j
 len:=λ⟨s,e,_,_⟩=>by rw[e];rfl
 grow g:=λ⟨s,e,n,a⟩=>⟨s,e,n.grow g,a⟩
 mono m:=λ⟨s,e,n,a⟩=>⟨s,e,n,λj k=>m j (a j k)⟩
 upd no u:=λ⟨s,e,n,a⟩=>⟨s,e,n.upda (Classical.byContradiction λk=>no (a _ k)) u,a⟩
 bound:=λ{h} _ _ _ ⟨s,e,n,a⟩=>⟨s,e,n,λj k=>⟨a j k,by
  rcases Nat.lt_or_ge j h.blks.size with h1 | h1
  ·exact h1
  ·exact absurd (qbh n h1) k⟩⟩
def Ef.pair{α β:Type}(A:Ef α)(B:Ef β):Ef (α×β) where
 w:=A.w+B.w
 pos:=by have:=A.pos;omega
 has h S cs p:=∃y z,cs=y++z/\A.has h S y p.1/\B.has h S z p.2
 len:=λ⟨y,z,e,a,b⟩=>by rw[e,qb2,A.len a,B.len b]
 grow g:=λ⟨y,z,e,a,b⟩=>⟨y,z,e,A.grow g a,B.grow g b⟩
 mono m:=λ⟨y,z,e,a,b⟩=>⟨y,z,e,A.mono m a,B.mono m b⟩
 upd no u:=λ⟨y,z,e,a,b⟩=>⟨y,z,e,A.upd no u a,B.upd no u b⟩
 bound:=λ⟨y,z,e,a,b⟩=>⟨y,z,e,A.bound a,B.bound b⟩
theorem All2.set{α β:Type}{R:α->β->Prop}{l:List α}{m:List β}(a:All2 R l m){x:α}{y:β}(h:R x y):∀j:Nat,All2 R (l.set j x) (m.set j y):=by
 induction a with
 | nil=>intro j;exact .nil
 | cons h1 h2 ih =>
  intro j;cases j with
  | zero=>exact .cons h h2
  | succ j=>exact .cons h1 (ih j)
def RefIn(S:Fp)(s:Sl)(n:Nat):Prop:=n=0\/∀j o,s.ref=some (.new j o)->S j
structure Sq{α:Type}(E:Ef α)(h:AH)(S:Fp)(s:Sl)(xs:List α):Prop where
 rows:∃rows,Cells h s E.w rows.flatten/\All2 (E.has h S) rows xs
 len:s.len=xs.length
 short:xs.length<=9223372036854775807
 at':RefIn S s xs.length
variable{α:Type}{E:Ef α}
theorem Ef.rows{h:AH}{S:Fp}{rows:List (List AV)}{xs:List α}(a:All2 (E.has h S) rows xs):∀r∈rows,r.length=E.w:=by
 induction a with
 | nil=>simp
 | cons h' _ ih =>
  intro r y;rcases qb8.1 y with rfl | y
  ·exact E.len h'
  ·exact ih r y
theorem Cells.updn{h h':AH}{s:Sl}{n:Nat}{flat:List AV}(c:Cells h s n flat){i:Nat}(F:∀o,s.ref≠some (.new i o))(u:Upd h h' i):Cells h' s n flat :=
 ⟨c.fit,c.len,λk v hv=>by
  obtain⟨r,z,G⟩:=c.get k v hv;refine⟨r,z,u.cell G λo y=>?_⟩;cases r with
  | old a=>cases y
  | new j p =>simp only[qj,Ref.new.injEq]at y;exact F p (by rw[z,y.1])⟩
theorem Sq.grow{h h':AH}{S:Fp}{s:Sl}{xs:List α}(n:Sq E h S s xs)(g:Grow h h'):Sq E h' S s xs:=by obtain⟨⟨rows,c,a⟩,l,y,at'⟩:=n;exact⟨⟨rows,c.grow g,a.imp λ_ _=>E.grow g⟩,l,y,at'⟩
theorem Sq.mono{h:AH}{S T:Fp}{s:Sl}{xs:List α}(n:Sq E h S s xs)(m:∀j,S j->T j):Sq E h T s xs:=by obtain⟨⟨rows,c,a⟩,l,y,at'⟩:=n;exact⟨⟨rows,c,a.imp λ_ _=>E.mono m⟩,l,y,at'.imp id λf j o e=>m j (f j o e)⟩
theorem Sq.nil(E:Ef α)(h:AH)(S:Fp):Sq E h S ⟨none,0,.is 0⟩ []:=⟨⟨[],Cells.nil h _,.nil⟩,rfl,by simp,.inl rfl⟩
abbrev qbn:=@Sq.nil
theorem Sq.upd{h h':AH}{S:Fp}{s:Sl}{xs:List α}(n:Sq E h S s xs){i:Nat}(no:¬S i)(u:Upd h h' i):Sq E h' S s xs:=by
 obtain⟨⟨rows,c,a⟩,l,z,at'⟩:=n;refine⟨⟨rows,?_,a.imp λ_ _=>E.upd no u⟩,l,z,at'⟩;rcases at' with e | f
 ·have y:rows.length=0:=by rw[All2.length a,e]
  have y:rows=[]:=List.length_eq_zero_iff.1 y;subst y;exact⟨c.fit,c.len,λk v hv=>by simp at hv⟩
 ·exact c.updn (λo F=>no (f i o F)) u
theorem Sq.bound{h:AH}{S:Fp}{s:Sl}{xs:List α}(n:Sq E h S s xs):Sq E h (λj=>S j/\j<h.blks.size) s xs:=by
 obtain⟨⟨rows,c,a⟩,l,F,at'⟩:=n;refine⟨⟨rows,c,a.imp λ_ _=>E.bound⟩,l,F,?_⟩;rcases Nat.eq_zero_or_pos xs.length with e | e
 ·exact .inl e
 ·refine .inr λj o y=>⟨(at'.resolve_left (by omega)) j o y,?_⟩;have G:=kfj (w:=E.w) (rows:=rows) (Ef.rows a)
  have h0:0<rows.flatten.length:=by rw[G,All2.length a];exact Nat.mul_pos e E.pos
  obtain⟨r,z,H⟩:=c.get 0 _ (qb6 h0);rw[y]at z;cases z;have:=AH.cell_inn H;rw[qj]at this;exact this
def Ef.seq{α:Type}(E:Ef α):Ef (List α) where
 w:=1
 pos:=by decide
 has h S cs xs:=∃s,cs=[Sl.v s]/\Sq E h S s xs
 len:=λ⟨s,e,_⟩=>by rw[e];rfl
 grow g:=λ⟨s,e,n⟩=>⟨s,e,n.grow g⟩
 mono m:=λ⟨s,e,n⟩=>⟨s,e,n.mono m⟩
 upd no u:=λ⟨s,e,n⟩=>⟨s,e,n.upd no u⟩
 bound:=λ⟨s,e,n⟩=>⟨s,e,n.bound⟩
theorem Sq.at{h:AH}{S:Fp}{s:Sl}{xs:List α}(n:Sq E h S s xs){i:Int}{y:α}(q:atX xs i=some y):∃(r:Ref)(cs:List AV),idx s.ref xs.length i E.w=some r/\E.has h S cs y/\Lies h r cs:=by
 obtain⟨⟨rows,c,a⟩,l,Q,at'⟩:=n;obtain⟨j,rfl,z⟩:=kzv q;obtain⟨cs,G,F⟩:=a.get z;have H:=(qcg.1 z).1;have I:=Ef.rows a;have key:∀k v,cs[k]?=some v->∃r,s.ref=some r/\h.cell (r.add (j*E.w+k))=some v:=λk v hk=>c.get _ _ (kqx I G hk);cases hs:s.ref with
 | none =>
  exfalso;cases cs with
  | nil=>have:=E.len F;have:=E.pos;simp at *;omega
  | cons v vs =>
   obtain⟨r,e,_⟩:=key 0 v rfl;rw[hs]at e;cases e
 | some r =>
  refine⟨r.add (j*E.w),cs,?_,F,⟨λk v hk=>?_⟩⟩
  ·rw[keq _ _ _ _ (by omega) (by omega)];simp
  ·obtain⟨U,e,K⟩:=key k v hk;rw[hs]at e;cases e;rw[Ref.add_add];exact K
theorem Sq.lit{h:AH}{S:Fp}{i n:Nat}{rows:List (List AV)}{e:TypeId}{xs:List α}(b:h.has i rows.flatten e)(a:All2 (E.has h S) rows xs)(y:xs.length=n)(hs:n<=9223372036854775807:=by decide):Sq E h (Fp.or (λj=>j=i) S) ⟨some (.new i 0),n,.is n⟩ xs:=by
 refine⟨⟨rows,qp b ?_,a.imp λ_ _=>E.mono λj k=>.inr k⟩,y.symm,by omega,.inr λj o e=>?_⟩
 ·rw[kfj (Ef.rows a),All2.length a,y]
 ·cases e;exact .inl rfl
def GF{α:Type}(E:Ef α)(elem:TypeId)(h:AH)(S:Fp)(s:Sl)(i:Option Nat)(xs:List α):Prop :=
 xs.length<=9223372036854775807/\match i with
 | none=>s=⟨none,0,.is 0⟩/\xs=[]
 | some k=>¬S k/\s.ref=some (.new k 0)/\s.len=xs.length/\∃rows e,h.has k rows.flatten e/\(s.cap=.is s.len\/s.cap=.opn E.w/\e=elem)/\All2 (E.has h S) rows xs
variable{elem:TypeId}
theorem GF.none(E:Ef α)(elem:TypeId)(h:AH)(S:Fp):GF E elem h S ⟨none,0,.is 0⟩ none []:=⟨by simp,rfl,rfl⟩
theorem GF.grow{h h':AH}{S:Fp}{s:Sl}:∀{i:Option Nat}{xs:List α},GF E elem h S s i xs->Grow h h'->GF E elem h' S s i xs
 | .none,_,v,g=>v
 | .some k,_,⟨l,a,r,ln,rows,e,b,c,r2⟩,g=>⟨l,a,r,ln,rows,e,g.has b,c,r2.imp λ_ _=>E.grow g⟩
theorem GF.lt{h:AH}{S:Fp}{s:Sl}:∀{i:Option Nat}{xs:List α},GF E elem h S s i xs->LtO h.blks.size i
 | .none,_,_=>trivial
 | .some k,_,⟨l,a,r,ln,rows,e,b,c,r2⟩=>b.lt
theorem GF.mono{h:AH}{S T:Fp}{s:Sl}:∀{i:Option Nat}{xs:List α},GF E elem h S s i xs->(∀j,S j->T j)->NotO T i->GF E elem h T s i xs
 | .none,_,v,_,_=>v
 | .some k,_,⟨l,a,r,ln,rows,e,b,c,r2⟩,m,no=>⟨l,no,r,ln,rows,e,b,c,r2.imp λ_ _=>E.mono m⟩
def Fp.opt(i:Option Nat):Fp:=λj=>i=some j
theorem GF.sq{h:AH}{S:Fp}{s:Sl}:∀{i:Option Nat}{xs:List α},GF E elem h S s i xs->Sq E h (Fp.or (Fp.opt i) S) s xs
 | .none,xs,⟨_,F,G⟩=>by
  subst F;subst G;exact qbn E h _
 | .some k,_,⟨l,a,r,ln,rows,e,b,c,r2⟩=>by
  have y:=qp (n:=E.w) (m:=s.len) b (by rw[kfj (Ef.rows r2),All2.length r2,ln]);refine⟨⟨rows,⟨?_,?_,?_⟩,r2.imp λ_ _=>E.mono λj x=>.inr x⟩,ln,l,.inr λj o z=>?_⟩
  ·rcases c with c | c
   ·unfold Sl.fit;rw[c];exact qbr _
   ·unfold Sl.fit;rw[c.1]
  ·exact y.len
  ·rw[r];exact y.get
  ·rw[r]at z;cases z;exact .inl rfl
theorem GF.len{h:AH}{S:Fp}{s:Sl}{i:Option Nat}{xs:List α}(v:GF E elem h S s i xs):s.len=xs.length:=v.sq.len
theorem GF.own{h h0:AH}{S:Fp}{s:Sl}:∀{i:Option Nat}{xs:List α},GF E elem h S s i xs->LeO h0.blks.size i->Own h0 s
 | .none,_,v,_=>λr y=>by rw[v.2.1]at y;cases y
 | .some k,_,⟨_,_,r,_⟩,l=>λq hq=>by rw[r]at hq;cases hq;exact⟨k,0,rfl,l⟩
theorem GF.upd{h h':AH}{S:Fp}{s:Sl}{i:Nat}(u:Upd h h' i)(no:¬S i):∀{j:Option Nat}{xs:List α},GF E elem h S s j xs->(∀k,j=some k->k≠i)->GF E elem h' S s j xs
 | .none,_,v,_=>v
 | .some k,_,⟨l,a,r,ln,rows,e,b,c,r2⟩,ne=>⟨l,a,r,ln,rows,e,b.updr (ne k rfl) u,c,r2.imp λ_ _=>E.upd no u⟩
theorem GF.set{h:AH}{S T:Fp}{s:Sl}{i:Option Nat}{xs:List α}(v:GF E elem h S s i xs){cs:List AV}{x:α}(c:E.has h T cs x)(no:NotO T i){z:Int}{j:Nat}(q:inI xs.length z=some j) :
  ∃r h',idx s.ref xs.length z E.w=some r/\h.puts r cs=some h'/\GF E elem h' (Fp.or S T) s i (xs.set j x)/\UpdO h h' i:=by
 obtain⟨V,W⟩:=ko7 q;cases i with
 | none =>
  obtain⟨_,e1,Z⟩:=v;subst Z;simp at W
 | some k =>
  obtain⟨l,a,r,ln,rows,e,b,cp,r2⟩:=v;have aa:=All2.length r2;have H:=Ef.rows r2;have Q:=E.len c;have I:=kfj H
  have K:j*E.w+cs.length<=rows.flatten.length:=by rw[I,Q,<- Nat.succ_mul];exact Nat.mul_le_mul_right _ (by omega)
  have F:∀(G:List (List AV))(n:Nat),(∀r∈G,r.length=E.w)->G.flatten.take (n*E.w)=(G.take n).flatten/\G.flatten.drop (n*E.w)=(G.drop n).flatten:=by
   intro G
   induction G with
   | nil=>intro n _;simp
   | cons r G ih =>
    intro n U;cases n with
    | zero=>simp
    | succ n =>
     have h1:=ih n λq hq=>U q (by simp[hq]);have h2:=U r (by simp);rw[Nat.succ_mul,List.flatten_cons,List.take_succ_cons,List.drop_succ_cons,List.flatten_cons,<- h1.1,<- h1.2];constructor
     ·rw[List.take_append,h2,List.take_of_length_le (by omega),Nat.add_sub_cancel]
     ·rw[List.drop_append,h2,List.drop_eq_nil_of_le (by omega),Nat.add_sub_cancel,List.nil_append]
  have key:rows.flatten.take (j*E.w)++cs++rows.flatten.drop (j*E.w+cs.length)=(rows.set j cs).flatten:=by
   have h3:j*E.w+cs.length=(j+1)*E.w:=by rw[Q,Nat.succ_mul]
   rw[h3,(F rows j H).1,(F rows (j+1) H).2,List.set_eq_take_append_cons_drop,if_pos (by omega)];simp
  refine⟨.new k (j*E.w),h.upd k (rows.set j cs).flatten e,?_,?_,⟨by simpa using l,λx=>x.elim a no,r,by simpa using ln,rows.set j cs,e,qo b _ _,cp,?_⟩,AH.upd_Upd h k _ e⟩
  ·rw[r,V,keq _ _ _ _ (by omega) (by omega)];simp
  ·rw[b.puts K,key]
  ·have:All2 (λcs a=>E.has h (Fp.or S T) cs a) (rows.set j cs) (xs.set j x):=All2.set (r2.imp λ_ _=>E.mono λj k=>.inl k) (E.mono (λj k=>.inr k) c) j;exact this.imp λ_ _ y=>E.upd (λx=>x.elim a no) (AH.upd_Upd h k _ e) y
theorem GF.push{h:AH}{S T:Fp}{s:Sl}{i:Option Nat}{xs:List α}(v:GF E elem h S s i xs){cs:List AV}{x:α}(c:E.has h T cs x)(no:NotO T i)(F:growOk P (xs.length+1) elem E.w=true) :
  ∃s' h',kx P s cs 1 elem E.w h=some (s'.v,h')/\GF E elem h' (λj=>(Fp.or S T) j/\j<h.blks.size) s' (some h.blks.size) (xs++[x])/\UpdO h h' i:=by
 have Q:=kzd F;have hw:=E.len c;have H:¬((Fp.or S T) h.blks.size/\h.blks.size<h.blks.size):=λk=>Nat.lt_irrefl _ k.2;cases i with
 | none =>
  obtain⟨_,Z,e2⟩:=v;subst Z;subst e2;rw[kiy (c:=0) rfl (by simp) (by simpa using F) (Cells.nil h E.w)];refine⟨_,_,rfl,⟨by simp,H,rfl,by simp,[cs],elem,?_,.inr ⟨rfl,rfl⟩,.cons ?_ .nil⟩,ql _ _⟩
  ·simpa using qm h cs elem
  ·refine E.grow (ql _ _) (E.mono (λj k=>⟨.inr k.1,k.2⟩) (E.bound c))
 | some k =>
  have sq:=v.sq;obtain⟨l,a,r,G,rows,e,b,U,r2⟩:=v;have hr:=Ef.rows r2
  have V:Cells h s E.w rows.flatten:=by
   have W:=qp (n:=E.w) (m:=s.len) b (by rw[kfj hr,All2.length r2,G]);refine⟨?_,W.len,by rw[r];exact W.get⟩;rcases U with c | c
   ·unfold Sl.fit;rw[c];exact qbr _
   ·unfold Sl.fit;rw[c.1]
  rw[<- G]at F;rcases U with I | ⟨I,rfl⟩
  ·rw[kiy I (by omega) F V];refine⟨_,_,rfl,⟨by simpa using Q,H,rfl,by simp[G],rows++[cs],elem,?_,.inr ⟨rfl,rfl⟩,All2.snoc (r2.imp λ_ _ y=>?_) ?_⟩,(ql _ _).toUpd k⟩
   ·have:=qm h (rows.flatten++cs) elem
    simpa using this
   ·exact E.grow (ql _ _) (E.mono (λj q=>⟨.inl q.1,q.2⟩) (E.bound y))
   ·exact E.grow (ql _ _) (E.mono (λj q=>⟨.inr q.1,q.2⟩) (E.bound c))
  ·have K:kx P s cs 1 e E.w h=some (Sl.v ⟨some (.new h.blks.size 0),s.len+1,.opn E.w⟩,(h.kill s.ref).push (.cells (rows.flatten++cs) e)):=by
    unfold kx;simp only[I];rw[show Nat.beq 1 0=false from rfl,show Nat.beq E.w E.w=true from Nat.beq_refl _];simp only[cond_false,F,Bool.and_true,cond_true,r,show h.blks[k]?=_ from b];have z:=V.gets;rw[r]at z;simp only[z,qbv];rw[show Nat.beq e e=true from Nat.beq_refl _,cond_true];have:(AH.kill h (some (Ref.new k 0))).blks.size=h.blks.size:=by simp[AH.kill]
    simp[AH.next,this,Sl.v];rfl
   rw[K,r];have sz:(h.kill (some (.new k 0))).blks.size=h.blks.size:=by simp[AH.kill]
   have u:Upd h (h.kill (some (.new k 0))) k:=AH.kill_Upd h k;refine⟨_,_,rfl,⟨by simpa using Q,H,rfl,by simp[G],rows++[cs],e,?_,.inr ⟨rfl,rfl⟩,All2.snoc (r2.imp λ_ _ y=>?_) ?_⟩,u.trans ((ql _ _).toUpd k)⟩
   ·have:=qm (h.kill (some (.new k 0))) (rows.flatten++cs) e;rw[sz]at this
    simpa using this
   ·exact E.grow (ql _ _) (E.mono (λj q=>⟨.inl q.1,q.2⟩) (E.upd (λq=>a q.1) u (E.bound y)))
   ·exact E.grow (ql _ _) (E.mono (λj q=>⟨.inr q.1,q.2⟩) (E.upd (λq=>no q.1) u (E.bound c)))
end Go.Ab
namespace Go.Ab
variable{P:Program}
theorem k4k{h:AH}:∀(n:Nat){r:Ref}{es:List AV},h.gets r n=some es->es.length=n/\∀(k:Nat)(v:AV),es[k]?=some v->h.cell (r.add k)=some v
 | 0,r,es,e=>by
  simp only[AH.gets,qcd]at e;subst e;exact⟨rfl,λk v hv=>by simp at hv⟩
 | n+1,r,es,e=>by
  simp only[AH.gets,qbw,Option.map_eq_some_iff]at e;obtain⟨v,z,l,F,rfl⟩:=e;obtain⟨h1,h2⟩:=k4k n F;refine⟨by simp[h1],λk u y=>?_⟩;cases k with
  | zero =>
   simp at y;subst y;rw[Ref.add_zero];exact z
  | succ k =>have:=h2 k u (by simpa using y);rw[<- this,Ref.add_add,Nat.add_comm]
theorem Sq.of_arg{α:Type}{E:Ef α}{S:Fp}{h:AH}{t e:TypeId}{cs:List AV}(hu:P.underlying t=some (.slice e))(hw:P.cellsOf e=E.w)(elem:∀es,ArgT P h e es->∃a,E.has h S es a)(a:ArgT P h t cs):∃(s:Sl)(xs:List α),cs=[s.v]/\Sq E h S s xs:=by
 rcases a.slice hu with rfl | ⟨F,len,cap,rfl,h1,h2,V⟩
 ·exact⟨⟨none,0,.is 0⟩,[],rfl,qbn _ _ _⟩
 ·rw[hw]at V
  have mk:∀n,n<=len->∃(rows:List (List AV))(xs:List α),rows.length=n/\All2 (E.has h S) rows xs/\∀(i:Nat)(r:List AV),rows[i]?=some r->h.gets (.old (F.add (i*E.w))) E.w=some r:=by
   intro n
   induction n with
   | zero=>exactλ_=>⟨[],[],rfl,.nil,λi r y=>by simp at y⟩
   | succ n ih =>
    intro hn;obtain⟨rows,xs,G,H,K⟩:=ih (by omega);obtain⟨es,k1,k2⟩:=V n (by omega);obtain⟨x,k3⟩:=elem es k2;refine⟨rows++[es],xs++[x],by simp[G],H.snoc k3,λi r y=>?_⟩;by_cases Q:i<rows.length
    ·rw[List.getElem?_append_left Q]at y;exact K i r y
    ·rw[List.getElem?_append_right (by omega)]at y
     have:i=n:=by
      rcases Nat.eq_zero_or_pos (i-rows.length)with h0 | h0
      ·omega
      ·rw[List.getElem?_eq_none (by simp;omega)]at y;cases y
     subst this;rw[G,Nat.sub_self]at y;simp at y;subst y;exact k1
  obtain⟨rows,xs,G,H,K⟩:=mk len (qbr _);have I:=Ef.rows H;have z:=All2.length H;refine⟨⟨some (.old F),len,.is cap⟩,xs,rfl,⟨⟨rows,⟨h1,by rw[kfj I,G],λk v hv=>⟨_,rfl,?_⟩⟩,H⟩,by rw[<- z,G],?_,.inr λj o U=>by cases U⟩⟩
  ·have hk:k<rows.length*E.w:=by
    rw[<- kfj I];exact(qcg.1 hv).1
   have y:k/E.w<rows.length:=Nat.div_lt_of_lt_mul (by rw[Nat.mul_comm];exact hk);have U:k%E.w<E.w:=Nat.mod_lt _ E.pos;have W:=qb6 y;have Z:(rows[k/E.w])[k%E.w]?=some ((rows[k/E.w])[k%E.w]'(by rw[I _ (qb5 _)];exact U)):=qb6 _;have e3:=kqx I W Z
   have e4:k/E.w*E.w+k%E.w=k:=by rw[Nat.mul_comm];exact Nat.div_add_mod k E.w
   rw[e4,hv]at e3;have e5:=(k4k E.w (K _ _ W)).2 _ _ Z;rw[<- Option.some.inj e3]at e5
   have e6:(Ref.old (F.add (k/E.w*E.w))).add (k%E.w)=(Ref.old F).add k:=by rw[show Ref.old (F.add (k/E.w*E.w))=(Ref.old F).add (k/E.w*E.w)from rfl,Ref.add_add,e4]
   rw[<- e6];exact e5
  ·have hm:maxLen=9223372036854775807:=by decide
   rw[<- z,G];rw[hm]at h2;exact qbs h1 h2
end Go.Ab
namespace Go.Ab
theorem All2.drop{α β:Type}{R:α->β->Prop}{l:List α}{m:List β}(a:All2 R l m):∀k:Nat,All2 R (l.drop k) (m.drop k):=by
 induction a with
 | nil=>intro k;simp;exact .nil
 | cons h t ih =>
  intro k;cases k with
  | zero=>exact .cons h t
  | succ k=>exact ih k
theorem All2.take{α β:Type}{R:α->β->Prop}{l:List α}{m:List β}(a:All2 R l m):∀k:Nat,All2 R (l.take k) (m.take k):=by
 induction a with
 | nil=>intro k;simp;exact .nil
 | cons h t ih =>
  intro k;cases k with
  | zero=>exact .nil
  | succ k=>exact .cons h (ih k)
theorem k47{w:Nat}:∀{rows:List (List AV)},(∀r∈rows,r.length=w)->∀k:Nat,rows.flatten.drop (k*w)=(rows.drop k).flatten
 | [],_,k=>by simp
 | r::rows,h,0=>by simp
 | r::rows,h,k+1=>by rw[List.flatten_cons,List.drop_succ_cons,<- k47 (λq hq=>h q (by simp[hq])) k,Nat.add_mul,Nat.one_mul,Nat.add_comm,<- List.drop_drop,List.drop_left' (h r (by simp))]
theorem kyp{w:Nat}:∀{rows:List (List AV)},(∀r∈rows,r.length=w)->∀k:Nat,rows.flatten.take (k*w)=(rows.take k).flatten
 | [],_,k=>by simp
 | r::rows,h,0=>by simp
 | r::rows,h,k+1=>by rw[List.flatten_cons,List.take_succ_cons,List.flatten_cons,<- kyp (λq hq=>h q (by simp[hq])) k,Nat.add_mul,Nat.one_mul,Nat.add_comm (k*w)];have y:=h r (by simp);rw[List.take_append,List.take_of_length_le (by omega),y];congr 2;omega
theorem kbpd{s s':Sl}{l m:Int}{w:Nat}(e:cutSl s l m w=some s'){j o:Nat}(y:s'.ref=some (.new j o)):∃F,s.ref=some (.new j F):=by
 have key:∀{a:Nat},(s.ref.map (·.add a))=some (Ref.new j o)->∃F,s.ref=some (.new j F):=λ{a} h=>by
  cases hs:s.ref with
  | none=>rw[hs]at h;cases h
  | some r =>
   rw[hs,Option.map_some,qcd]at h;cases r with
   | new i p =>
    simp only[qj,Ref.new.injEq]at h;exact⟨p,by rw[h.1]⟩
   | old a'=>cases h
 unfold cutSl at e;split at e
 ·rename_i c G;cases z:decide (0<=l/\l<=m/\m<=(c:Int))with
  | false=>rw[z]at e;cases e
  | true =>
   rw[z,cond_true,qcd]at e;rw[<- e]at y;dsimp only at y;split at y
   ·exact⟨o,y⟩
   ·exact key y
 ·rename_i H G;cases hb:Nat.beq H w with
  | false=>rw[hb]at e;cases e
  | true =>
   rw[hb,cond_true]at e;cases z:decide (0<=l/\l<=m/\m<=(s.len:Int))with
   | false=>rw[z]at e;cases e
   | true =>rw[z,cond_true,qcd]at e;rw[<- e]at y;exact key y
theorem Sq.cut{α:Type}{E:Ef α}{h:AH}{S:Fp}{s:Sl}{xs:List α}(n:Sq E h S s xs){l m:Nat}(h1:l<=m)(h2:m<=xs.length):∃s',cutSl s (l:Int) (m:Int) E.w=some s'/\Sq E h S s' ((xs.drop l).take (m-l))/\∀h0,Own h0 s->Own h0 s':=by
 obtain⟨⟨rows,c,a⟩,F,U,at'⟩:=n;have z:=Ef.rows a;obtain⟨s',e,G,H,o⟩:=c.cut h1 (by rw[F];exact h2);refine⟨s',e,⟨⟨(rows.drop l).take (m-l),?_,(a.drop l).take _⟩,by rw[G,qci,qch];omega,by rw[qci,qch];omega,?_⟩,o⟩
 ·rw[<- kyp (λr y=>z r (List.mem_of_mem_drop y)),<- k47 z];exact H
 ·rcases at' with h0 | h0
  ·left
   rw[qci,qch];omega
  ·right
   intro j V I;obtain⟨K,Q⟩:=kbpd e I;exact h0 j K Q
theorem AH.setBlk_get{h:AH}{l:Nat}{b:ABlk}(y:l<h.blks.size):(h.setBlk l b).blks[l]?=some b:=by simp[AH.setBlk,y]
abbrev qbo:=@AH.setBlk_get
theorem AH.setBlk_ne{h:AH}{l i:Nat}{b:ABlk}(y:i≠l):(h.setBlk l b).blks[i]?=h.blks[i]?:=by simp only[AH.setBlk];rw[Array.getElem?_setIfInBounds_ne (λe=>y e.symm)]
theorem AH.setBlk_size(h:AH)(l:Nat)(b:ABlk):(h.setBlk l b).blks.size=h.blks.size:=by simp[AH.setBlk]
theorem AH.setBlk_setBlk(h:AH)(l:Nat)(b c:ABlk):(h.setBlk l b).setBlk l c=h.setBlk l c:=by simp[AH.setBlk]
theorem AH.setBlk_same{h:AH}{l:Nat}{b:ABlk}(hb:h.blks[l]?=some b):h.setBlk l b=h:=by
 obtain⟨y,z⟩:=qcf.1 hb
 have:h.blks.setIfInBounds l b=h.blks:=by
  apply Array.ext
  ·simp
  ·intro i h1 h2;rw[Array.getElem_setIfInBounds];split
   ·subst_vars;rfl
   ·rfl
 unfold AH.setBlk;rw[this]
theorem Grow.setBlk{h h1:AH}(g:Grow h h1){l:Nat}(z:h.blks.size<=l)(b:ABlk):Grow h (h1.setBlk l b):=⟨g.old,by rw[AH.setBlk_size];exact g.size,λi y=>by rw[AH.setBlk_ne (by omega)];exact g.blk i y⟩
theorem kp2{h:AH}{l:Nat}{y:Option Code}{f:FuncId}{fr:Fr}{ps:Array Tmp}{bs bd:Code}{d:Nat}(hb:h.blks[l]?=some (.loop .ready y f fr ps bs bd d)) :
  beginA l h=some (h.setBlk l (.loop .busy y f fr ps bs bd d)):=by
 simp only[beginA,hb]
theorem klf{h:AH}{l:Nat}{y:LoopState}{z:Option Code}{f:FuncId}{fr:Fr}{ps:Array Tmp}{bs bd:Code}{d:Nat}(hb:h.blks[l]?=some (.loop y z f fr ps bs bd d))(j:Option Code) :
  kcq l j h=some (.bool j.isNone,h.setBlk l (.loop (cond j.isNone .ready .done) j f fr ps bs bd d)):=by
 simp only[kcq,hb]
theorem kn8{h:AH}{l:Nat}{y:Option Code}{f:FuncId}{fr:Fr}{ps:Array Tmp}{bs bd:Code}{d:Nat}(hb:h.blks[l]?=some (.loop .ready y f fr ps bs bd d)):kdd l h=some (y,h.setBlk l .dead):=by simp only[kdd,hb];rfl
theorem kbc0{h:AH}{l:Nat}{y:Option Code}{f:FuncId}{fr:Fr}{ps:Array Tmp}{bs bd:Code}{d:Nat}(hb:h.blks[l]?=some (.loop .done y f fr ps bs bd d)):kdd l h=some (y,h.setBlk l .dead):=by simp only[kdd,hb];rfl
theorem kq8{R:Type}{f:FuncId}{a c:List AV}{k:FuncId->List AV->List AV->Option R}:funcK (.func (.func f) a c) k=k f a c:=rfl
theorem Runs.newM{P:AV->AH->Prop}{h:AH}{b:ABlk}{K:Nat->AH->Option (AV×AH)}(H:∀h',h'.blks[h.blks.size]?=some b->Grow h h'->Runs (K h.blks.size h') P):Runs (newM h b K) P:=H _ (by simp[AH.alloc]) (ql h _)
variable{P:Program}
structure Md(T:Fp)(h h':AH):Prop where
 old:h'.old=h.old
 size:h.blks.size<=h'.blks.size
 blk:∀j,j<h.blks.size->¬T j->h'.blks[j]?=h.blks[j]?
theorem Md.refl(T:Fp)(h:AH):Md T h h:=⟨rfl,qbr _,λ_ _ _=>rfl⟩
theorem Grow.md{h h':AH}(g:Grow h h')(T:Fp):Md T h h':=⟨g.old,g.size,λj y _=>g.blk j y⟩
theorem Upd.md{h h':AH}{i:Nat}(u:Upd h h' i){T:Fp}(t:T i):Md T h h':=⟨u.old,u.size,λj y n=>u.blk j (λe=>n (e▸t)) y⟩
theorem UpdO.md{h h':AH}{T:Fp}:∀{i:Option Nat},UpdO h h' i->(∀k,i=some k->T k)->Md T h h'
 | none,u,_=>Grow.md u T
 | some k,u,t=>Upd.md u (t k rfl)
theorem Md.grow{h h':AH}{T:Fp}(m:Md T h h')(n:∀j,j<h.blks.size->¬T j):Grow h h':=⟨m.old,m.size,λj y=>m.blk j y (n j y)⟩
theorem Md.mono{h h':AH}{S T:Fp}(m:Md S h h')(f:∀j,j<h.blks.size->S j->T j):Md T h h':=⟨m.old,m.size,λj y n=>m.blk j y λs=>n (f j y s)⟩
theorem Md.next{h h1 h2:AH}{S T:Fp}(a:Md S h h1)(b:Md T h1 h2)(f:∀j,j<h.blks.size->T j->S j):Md S h h2:=⟨b.old.trans a.old,qbs a.size b.size,λj y n=>(b.blk j (qbt y a.size) λt=>n (f j y t)).trans (a.blk j y n)⟩
theorem Md.trans{h h1 h2:AH}{T:Fp}(a:Md T h h1)(b:Md T h1 h2):Md T h h2:=a.next b λ_ _ t=>t
theorem Md.thenG{h h1 h2:AH}{T:Fp}(a:Md T h h1)(b:Grow h1 h2):Md T h h2:=a.next (b.md Fp.no) λ_ _ t=>t.elim
theorem Grow.thenM{h h1 h2:AH}{T:Fp}(a:Grow h h1)(b:Md T h1 h2):Md T h h2:=(a.md T).trans b
def Dis(S T:Fp):Prop:=∀j,S j->T j->False
theorem Dis.symm{S T:Fp}(d:Dis S T):Dis T S:=λj a b=>d j b a
theorem Dis.no{S:Fp}:Dis S Fp.no:=λ_ _ b=>b
theorem Dis.mono{S T S' y:Fp}(d:Dis S T)(f:∀j,S' j->S j)(g:∀j,y j->T j):Dis S' y:=λj a b=>d j (f j a) (g j b)
theorem Md.has{h h':AH}{T:Fp}(m:Md T h h'){i:Nat}{cs:List AV}{e:TypeId}(b:h.has i cs e)(n:¬T i):h'.has i cs e:=(m.blk i b.lt n).trans b
theorem Md.get{h h':AH}{T:Fp}(m:Md T h h'){i:Nat}{b:ABlk}(e:h.blks[i]?=some b)(n:¬T i):h'.blks[i]?=some b:=(m.blk i (qcf.1 e).1 n).trans e
def mixA(h h':AH)(k:Nat):AH:=⟨h'.old,((List.range h.blks.size).map λi=>(if i<k then h'.blks[i]? else h.blks[i]?).getD .dead).toArray⟩
theorem kgu(h h':AH)(k:Nat):(mixA h h' k).blks.size=h.blks.size:=by simp[mixA]
theorem kkh{h h':AH}{k i:Nat}(hs:h.blks.size<=h'.blks.size)(y:i<h.blks.size):(mixA h h' k).blks[i]?=if i<k then h'.blks[i]? else h.blks[i]?:=by
 have z:i<h'.blks.size:=qbt y hs;simp only[mixA,List.getElem?_toArray,List.getElem?_map,List.getElem?_range y,Option.map_some];split
 ·rw[Array.getElem?_eq_getElem z];rfl
 ·rw[Array.getElem?_eq_getElem y];rfl
theorem Ef.md{α:Type}(E:Ef α){h h':AH}{S T:Fp}{cs:List AV}{a:α}(m:Md T h h')(d:Dis S T)(e:E.has h S cs a):E.has h' S cs a:=by
 have key:∀k,k<=h.blks.size->E.has (mixA h h' k) S cs a:=by
  intro k
  induction k with
  | zero =>
   intro _;refine E.grow ⟨m.old,by rw[kgu];exact qbr _,λi y=>?_⟩ e;rw[kkh m.size y,if_neg (by omega)]
  | succ k ih =>
   intro hk;have z:=ih (by omega);by_cases F:S k
   ·have G:¬T k:=λt=>d k F t;refine E.grow (show Grow (mixA h h' k) (mixA h h' (k+1))from⟨rfl,by rw[kgu,kgu];exact qbr _,λi y=>?_⟩) z;rw[kgu]at y;rw[kkh m.size y,kkh m.size y];by_cases h1:i=k
    ·subst h1;rw[if_pos (by omega),if_neg (by omega),m.blk i y G]
    ·by_cases h2:i<k
     ·rw[if_pos (by omega),if_pos h2]
     ·rw[if_neg (by omega),if_neg h2]
   ·refine E.upd F (show Upd (mixA h h' k) (mixA h h' (k+1)) k from⟨rfl,by rw[kgu,kgu];exact qbr _,λi H y=>?_⟩) z;rw[kgu]at y;rw[kkh m.size y,kkh m.size y];by_cases h2:i<k
    ·rw[if_pos (by omega),if_pos h2]
    ·rw[if_neg (by omega),if_neg h2]
 refine E.grow (show Grow (mixA h h' h.blks.size) h' from⟨rfl,by rw[kgu];exact m.size,λi y=>?_⟩) (key _ (qbr _));rw[kgu]at y;rw[kkh m.size y,if_pos y]
section
variable{α:Type}{E:Ef α}
theorem Sq.md{h h':AH}{S T:Fp}{s:Sl}{xs:List α}(n:Sq E h S s xs)(m:Md T h h')(d:Dis S T):Sq E h' S s xs:=by obtain⟨s',e,y⟩:=Ef.md (Ef.seq E) m d (show(Ef.seq E).has h S [s.v] xs from⟨s,rfl,n⟩);cases Sl.vs_inj e;exact y
theorem Nats.mdE{h h':AH}{S T:Fp}{s:Sl}{xs:List Nat}(n:Nats h s xs)(a:∀j,¬Av s j xs->S j)(m:Md T h h')(d:Dis S T):Nats h' s xs:=by obtain⟨s',e,y,_⟩:=Ef.md Ef.nats m d (show Ef.nats.has h S [s.v] xs from⟨s,rfl,n,a⟩);cases Sl.vs_inj e;exact y
theorem GF.md{elem:TypeId}{h h':AH}{S T:Fp}{s:Sl}(m:Md T h h')(d:Dis S T):∀{j:Option Nat}{xs:List α},GF E elem h S s j xs->(∀k,j=some k->¬T k)->GF E elem h' S s j xs
 | .none,_,v,_=>v
 | .some k,_,⟨l,a,r,ln,rows,e,b,c,r2⟩,ne=>⟨l,a,r,ln,rows,e,m.has b (ne k rfl),c,r2.imp λ_ _=>E.md m d⟩
theorem kuu{elem:TypeId}{h:AH}{S:Fp}{s:Sl}{xs:List α}{k:Nat}(n:Sq E h S s xs)(K:P.cellsOf elem=E.w)(Q:growOk P xs.length elem E.w=true)(b:h.has k [] elem)(G:∀j,S j->j<k) :
  ∃p s' i h',kbb P elem s.v h=some p/\kx P ⟨some (.new k 0),0,.is 0⟩ p.1 p.2 elem E.w h=some (Sl.v s',h')/\GF E elem h' S s' (some i) xs/\Grow h h'/\k<=i:=by
 obtain⟨⟨rows,c,a⟩,H,Z,at'⟩:=n;have fl:rows.flatten.length=rows.length*E.w:=kfj (Ef.rows a);have U:s.len=rows.length:=by rw[H,All2.length a]
 have y:=c;rw[<- K]at y;refine⟨(rows.flatten,s.len),?_⟩;by_cases V:rows.length=0
 ·have z:rows=[]:=List.length_eq_zero_iff.1 V;subst z
  have W:xs=[]:=by have:=All2.length a;simp at this;exact List.length_eq_zero_iff.1 this.symm
  subst W;refine⟨⟨some (.new k 0),0,.is 0⟩,k,h,kih y,?_,⟨by simp,λx=>Nat.lt_irrefl _ (G _ x),rfl,rfl,[],elem,by simpa using b,.inl rfl,.nil⟩,qk h,qbr _⟩;rw[U];rfl
 ·have F:=kiy (P:=P) (h:=h) (s:=⟨some (.new k 0),0,.is 0⟩) (c:=0) (n:=s.len) (m:=E.w) (elem:=elem) (cs:=rows.flatten) (old:=[]) rfl (by dsimp only;omega) (by dsimp only;rw[Nat.zero_add,H];exact Q) ⟨qbr _,by simp,λi v hv=>by simp at hv⟩;have I:=ql h (.cells ([]++rows.flatten) elem);have hk:=b.lt;refine⟨_,h.blks.size,_,kih y,F,⟨by omega,λx=>?_,rfl,by dsimp only;omega,rows,elem,qm h ([]++rows.flatten) elem,.inr ⟨rfl,rfl⟩,a.imp λ_ _=>E.grow I⟩,I,Nat.le_of_lt hk⟩;have:=G _ x;omega
theorem Runs.clone{elem:TypeId}{h:AH}{S:Fp}{s:Sl}{xs:List α}(n:Sq E h S s xs)(F:P.cellsOf elem=E.w)(G:growOk P xs.length elem E.w=true) :
  Runs (_root_.cond s.ref.isNone (some ((⟨none,0,.is 0⟩:Sl).v,h)) (newK h (.cells [] elem) λr h2=>(kbb P elem s.v h2).bind λp=>(kx P (⟨some r,0,.is 0⟩:Sl) p.1 p.2 elem E.w h2).bind λq=>(AV.asSl q.1).bind λl=>some (l.v,q.2)))
   λv h'=>∃(s':Sl)(i:Option Nat),v=s'.v/\GF E elem h' (λj=>S j/\j<h.blks.size) s' i xs/\Grow h h'/\LeO h.blks.size i:=by
 have nb:=n.bound;cases H:s.ref with
 | none =>
  have h0:xs=[]:=by
   obtain⟨⟨rows,c,a⟩,V,W,at'⟩:=nb;cases xs with
   | nil=>rfl
   | cons x xs =>
    exfalso;cases a with
    | cons h1 h2 =>
     rename_i r0 Z;have y:=E.len h1;have h4:=E.pos;cases r0 with
     | nil=>simp at y;omega
     | cons v vs =>obtain⟨r,e,_⟩:=c.get 0 v (by simp);rw[H]at e;cases e
  subst h0;exact⟨_,_,rfl,⟨none,0,.is 0⟩,none,rfl,GF.none E elem h _,qk h,trivial⟩
 | some r =>refine qbb rfl ?_;refine qz λh2 b2 z=>?_;obtain⟨p,s',i,y,I,K,v,Q,U⟩:=kuu (nb.grow z) F G b2 λj x=>x.2;refine qy I (qy K (qy qcq ?_));exact qx ⟨s',some i,rfl,v,z.trans Q,U⟩
end
end Go.Ab
namespace Go.Ab
def kvGet{A:Type}:List (Int×A)->Int->Option A
 | [],_=>none
 | (k,v)::t,n=>if n=k then some v else kvGet t n
def kvPut{A:Type}:List (Int×A)->Int->A->List (Int×A)
 | [],n,v=>[(n,v)]
 | (k,w)::t,n,v=>if n=k then(k,v)::t else(k,w)::kvPut t n v
def kvDel{A:Type}:List (Int×A)->Int->List (Int×A)
 | [],_=>[]
 | (k,w)::t,n=>if n=k then t else(k,w)::kvDel t n
theorem kbhk{A:Type}(l:List (Int×A))(n m:Int)(v:A):kvGet (kvPut l n v) m=if m=n then some v else kvGet l m:=by
 induction l with
 | nil=>simp[kvPut,kvGet]
 | cons p t ih =>
  obtain⟨k,w⟩:=p;simp only[kvPut];by_cases h:n=k
  ·subst h;rw[if_pos rfl];simp only[kvGet];by_cases h2:m=n
   ·rw[if_pos h2,if_pos h2]
   ·rw[if_neg h2,if_neg h2,if_neg h2]
  ·rw[if_neg h];simp only[kvGet,ih];by_cases h2:m=k
   ·rw[if_pos h2,if_pos h2,if_neg (by omega)]
   ·rw[if_neg h2,if_neg h2]
theorem k4o{A:Type}{l:List (Int×A)}{n:Int}(v:A)(h:kvGet l n=none):kvPut l n v=l++[(n,v)]:=by
 induction l with
 | nil=>rfl
 | cons p t ih =>
  obtain⟨k,w⟩:=p;simp only[kvGet]at h;by_cases e:n=k
  ·rw[if_pos e]at h;cases h
  ·rw[if_neg e]at h;simp only[kvPut,if_neg e,ih h,List.cons_append]
theorem k49{A:Type}{l:List (Int×A)}{n:Int}{w:A}(v:A)(h:kvGet l n=some w):(kvPut l n v).length=l.length:=by
 induction l with
 | nil=>cases h
 | cons p t ih =>
  obtain⟨k,u⟩:=p;simp only[kvGet]at h;by_cases e:n=k
  ·simp only[kvPut,if_pos e,qb4]
  ·rw[if_neg e]at h;simp only[kvPut,if_neg e,qb4,ih h]
def Kv(es:List AEnt)(l:List (Int×AV)):Prop:=es.map (λe=>(e.key,e.val))=l.map λp=>(AV.int .i64 p.1,p.2)
theorem Kv.nil:Kv [] []:=rfl
theorem Kv.len{es:List AEnt}{l:List (Int×AV)}(k:Kv es l):es.length=l.length:=by
 have:=congrArg List.length k
 simpa using this
theorem kqu{n:Int}:∀{es:List AEnt}{l:List (Int×AV)}(j:Nat),Kv es l->
  (findA .i64 n es j=some none/\kvGet l n=none/\(∀v b,Kv (es++[⟨.int .i64 n,v,b⟩]) (kvPut l n v))/\kvDel l n=l)\/
  ∃t v,findA .i64 n es j=some (some (j+t,v))/\t<es.length/\kvGet l n=some v/\(∀w,Kv (es.modify t λe=>⟨.int .i64 n,w,e.born⟩) (kvPut l n w))/\Kv (es.eraseIdx t) (kvDel l n)
 | [],l,j,k=>by
  cases l with
  | nil=>exact .inl ⟨rfl,rfl,λv b=>rfl,rfl⟩
  | cons p t=>simp[Kv]at k
 | e::es,l,j,k=>by
  cases l with
  | nil=>simp[Kv]at k
  | cons p t =>
   obtain⟨m,w⟩:=p;simp only[Kv,List.map_cons,List.cons.injEq,qce]at k;obtain⟨⟨y,z⟩,F⟩:=k;have ih:=kqu (n:=n) (j+1) (show Kv es t from F);simp only[findA,y,decide_true,cond_true,kvGet,kvPut,kvDel];by_cases h:n=m
   ·subst h
    right
    refine⟨0,e.val,by simp,by simp,by rw[if_pos rfl,z],λu=>?_,?_⟩
    ·simp only[if_true];simp only[Kv,List.modify_zero_cons,List.map_cons];rw[show es.map _=t.map _ from F]
    ·simp only[if_true];exact F
   ·rw[qb0 h,cond_false];simp only[if_neg h];rcases ih with⟨a,b,c,d⟩ | ⟨x,v,a,b,c,d,f⟩
    ·left
     refine⟨a,b,λv G=>?_,by rw[d]⟩;have:=c v G;simp only[Kv,List.map_append,List.cons_append,List.map_cons]at this|-;rw[this,y,z]
    ·right
     refine⟨x+1,v,by rw[a];congr 3;omega,by simp;omega,c,λu=>?_,?_⟩
     ·have:=d u;simp only[Kv,List.modify_succ_cons,List.map_cons]at this|-;rw[this,y,z]
     ·simp only[Kv,List.eraseIdx_cons_succ,List.map_cons]at f|-;rw[f,y,z]
def MapIs(h:AH)(i:Nat)(l:List (Int×AV)):Prop:=∃es ck,h.blks[i]?=some (.map es ck)/\Kv es l
theorem MapIs.lt{h:AH}{i:Nat}{l:List (Int×AV)}(m:MapIs h i l):i<h.blks.size:=by obtain⟨es,y,e,_⟩:=m;exact(qcf.1 e).1
theorem MapIs.md{h h':AH}{i:Nat}{l:List (Int×AV)}{T:Fp}(m:MapIs h i l)(d:Md T h h')(n:¬T i):MapIs h' i l:=by obtain⟨es,y,e,k⟩:=m;exact⟨es,y,d.get e n,k⟩
theorem MapIs.grow{h h':AH}{i:Nat}{l:List (Int×AV)}(m:MapIs h i l)(g:Grow h h'):MapIs h' i l:=m.md (g.md Fp.no) qbm
theorem AH.setBlk_Upd{h:AH}{i:Nat}(b:ABlk):Upd h (h.setBlk i b) i:=⟨rfl,by rw[AH.setBlk_size];exact qbr _,λj y _=>AH.setBlk_ne y⟩
abbrev qbp:=@AH.setBlk_Upd
section
variable{h:AH}{i:Nat}{l:List (Int×AV)}
theorem MapIs.at(m:MapIs h i l):∃es y,h.mapAt i=some (es,y)/\Kv es l:=by obtain⟨es,y,e,k⟩:=m;exact⟨es,y,by simp only[AH.mapAt,e],k⟩
theorem MapIs.get(m:MapIs h i l)(n:Int):mapGet h (some i) .i64 n=some (kvGet l n):=by
 obtain⟨es,y,e,k⟩:=m.at;simp only[mapGet,e,qbv];rcases kqu (n:=n) 0 k with⟨a,b,_⟩ | ⟨t,v,a,_,b,_⟩
 ·rw[a,b];rfl
 ·rw[a,b];rfl
theorem MapIs.put(m:MapIs h i l)(n:Int)(v:AV):∃h',mapPut h i .i64 n v=some h'/\MapIs h' i (kvPut l n v)/\Upd h h' i:=by
 have y:=m.lt;obtain⟨es,z,e,k⟩:=m.at;simp only[mapPut,e,qbv];rcases kqu (n:=n) 0 k with⟨a,b,c,_⟩ | ⟨t,w,a,_,b,c,_⟩
 ·rw[a];exact⟨_,rfl,⟨_,_,qbo y,c v z⟩,qbp _⟩
 ·rw[a,Nat.zero_add];exact⟨_,rfl,⟨_,_,qbo y,c v⟩,qbp _⟩
theorem MapIs.del(m:MapIs h i l)(n:Int):∃h',mapDel h (some i) .i64 n=some h'/\MapIs h' i (kvDel l n)/\Upd h h' i:=by
 have y:=m.lt;obtain⟨es,z,e,k⟩:=m.at;simp only[mapDel,e,qbv];rcases kqu (n:=n) 0 k with⟨a,b,_,c⟩ | ⟨t,w,a,_,b,_,c⟩
 ·rw[a];exact⟨_,rfl,⟨_,_,qbo y,by rw[c];exact k⟩,qbp _⟩
 ·rw[a,Nat.zero_add];exact⟨_,rfl,⟨_,_,qbo y,c⟩,qbp _⟩
theorem MapIs.size(m:MapIs h i l):mapLen h (some i)=some l.length:=by obtain⟨es,y,e,k⟩:=m.at;simp only[mapLen,e,Option.map_some,k.len]
theorem MapIs.clear(m:MapIs h i l):∃h',klc h (some i)=some h'/\MapIs h' i []/\Upd h h' i:=by have y:=m.lt;obtain⟨es,z,e,k⟩:=m.at;simp only[klc,e,Option.map_some];exact⟨_,rfl,⟨_,_,qbo y,Kv.nil⟩,qbp _⟩
end
section
variable{P:AV->AH->Prop}
theorem Runs.call{x:Option (AV×AH)}{Q:AV->AH->Prop}{K:AV×AH->Option (AV×AH)}(r:Runs x Q)(H:∀v h',Q v h'->Runs (K (v,h')) P):Runs (x.bind K) P:=by obtain⟨v,h',e,q⟩:=r;subst e;exact H v h' q
theorem Runs.newMap{h:AH}{K:Nat->AH->Option (AV×AH)}(H:∀h',MapIs h' h.blks.size []->Grow h h'->Runs (K h.blks.size h') P):Runs (Go.Ab.newM h (.map [] 0) K) P:=Runs.newM λh' e g=>H h' ⟨[],0,e,Kv.nil⟩ g
theorem kf4{n:Nat}{G:Int->AH->Option (AV×AH)}{p:Nat->Bool}{h0:AH}
  (step:∀(i:Nat)(h:AH)(P:AV->AH->Prop),i<n->Grow h0 h->(∀h',Grow h0 h'->p i=true->P (.int .i64 (i:Int)) h')->(∀h',Grow h0 h'->p i=false->Runs (G ((i+1:Nat):Int) h') P)->Runs (G (i:Int) h) P)
  (done:∀(h:AH),Grow h0 h->G (n:Int) h=some (.int .i64 (-1),h)):∀(k i:Nat),i+k=n->∀{h:AH},Grow h0 h->(∀j,j<i->p j=false)->
  Runs (G (i:Int) h) λv h'=>Grow h0 h'/\((v=.int .i64 (-1)/\∀j,j<n->p j=false)\/∃j,j<n/\v=.int .i64 (j:Int)/\p j=true/\∀t,t<j->p t=false):=by
 intro k
 induction k with
 | zero =>
  intro i z h g hp;have:i=n:=by omega
  subst this;rw[done h g];exact qx ⟨g,.inl ⟨rfl,hp⟩⟩
 | succ k ih =>
  intro i z h g hp;refine step i h _ (by omega) g (λh' y e=>⟨y,.inr ⟨i,by omega,rfl,e,hp⟩⟩) λh' y e=>ih (i+1) (by omega) y λj F=>?_;rcases Nat.lt_or_ge j i with h1 | h1
  ·exact hp j h1
  ·have:j=i:=by omega
   subst this;exact e
theorem Runs.contains{α:Type}{xs:List α}{p:α->Bool}{x:Option (AV×AH)}{h0:AH}(R:Runs x λv h'=>Grow h0 h'/\((v=.int .i64 (-1)/\∀j,j<xs.length->(xs[j]?).any p=false)\/∃j,j<xs.length/\v=.int .i64 (j:Int)/\(xs[j]?).any p=true/\∀t,t<j->(xs[t]?).any p=false)) :
  Runs (x.bind λq=>((some q.1).bind (AV.asInt .i64)).bind λn=>some (.bool (decide (n>=0)),q.2)) λv h'=>v=.bool (xs.any p)/\Grow h0 h':=by
 refine R.call λv h' ⟨g,d⟩=>?_;rcases d with⟨rfl,a⟩ | ⟨j,z,rfl,a,_⟩
 ·refine qy (seen qcr) (qx ⟨?_,g⟩)
  have:xs.any p=false:=by
   rw[List.any_eq_false];intro y G;obtain⟨t,F,rfl⟩:=List.getElem_of_mem G;have:=a t F;rw[qb6 F]at this
   simpa using this
  rw[this];exact congrArg AV.bool (qb0 (by omega))
 ·refine qy (seen qcr) (qx ⟨?_,g⟩)
  have:xs.any p=true:=by rw[List.any_eq_true];rw[qb6 z]at a;exact⟨xs[j],qb5 z,by simpa using a⟩
  rw[this];exact congrArg AV.bool (qbz (by omega))
abbrev qbq:=@Runs.contains
end
abbrev EI:Ef Int:=Ef.int .i64
section
variable{h:AH}{S:Fp}{s:Sl}
theorem Sq.int{k:IntKind}{xs:List Int}(n:Sq (Ef.int k) h S s xs){i:Nat}(z:i<xs.length):∃r:Ref,idx s.ref s.len (i:Int) 1=some r/\(h.cell r).bind (AV.asInt k)=some xs[i]:=by obtain⟨r,cs,F,y,l⟩:=n.at (khc z);have y:cs=[.int k xs[i]]:=y;subst y;rw[n.len];exact⟨r,F,l.rd0 (qk _) rfl qcr⟩
theorem Sq.sl{α:Type}{E:Ef α}{xs:List (List α)}(n:Sq (Ef.seq E) h S s xs){i:Nat}(y:i<xs.length):∃(r:Ref)(s':Sl),idx s.ref s.len (i:Int) 1=some r/\(h.cell r).bind AV.asSl=some s'/\(h.cell (r.add 0)).bind AV.asSl=some s'/\Sq E h S s' xs[i]:=by obtain⟨r,cs,z,⟨s',rfl,F⟩,l⟩:=n.at (khc y);rw[n.len];exact⟨r,s',z,l.rd0 (qk _) rfl qcq,l.rd (qk _) 0 rfl qcq,F⟩
theorem Sq.nats{xs:List (List Nat)}(n:Sq Ef.nats h S s xs){i:Nat}(y:i<xs.length):∃(r:Ref)(s':Sl),idx s.ref s.len (i:Int) 1=some r/\(h.cell r).bind AV.asSl=some s'/\Nats h s' xs[i]/\∀j,¬Av s' j xs[i]->S j:=by obtain⟨r,cs,z,⟨s',rfl,F,a⟩,l⟩:=n.at (khc y);rw[n.len];exact⟨r,s',z,l.rd0 (qk _) rfl qcq,F,a⟩
end
theorem kbij{P:Program}{h:AH}{t e:TypeId}{cs:List AV}{k:IntKind}(S:Fp)(z:P.underlying t=some (.slice e))(F:P.underlying e=some (.int k))(G:P.cellsOf e=1)(a:ArgT P h t cs):∃(s:Sl)(xs:List Int),cs=[s.v]/\Sq (Ef.int k) h S s xs :=
 Sq.of_arg (E:=Ef.int k) z G (λes t=>by obtain⟨y,rfl,w⟩:=t.int F;exact⟨y,rfl⟩) a
structure Nd where
 leaf:Bool
 weight:Int
 party:Int
 feature:Int
 cut:Int
 left:Int
 right:Int
 deriving DecidableEq
def Nd.cells(x:Nd):List AV:=[.bool x.leaf,.int .i64 x.weight,.int .i64 x.party,.int .i64 x.feature,.int .i64 x.cut,.int .i64 x.left,.int .i64 x.right]
@[reducible] def Ef.nd:Ef Nd where
 w:=7
 pos:=by decide
 has _ _ cs x:=cs=x.cells
 len e:=by rw[e];rfl
 grow _ e:=e
 mono _ e:=e
 upd _ _ e:=e
 bound e:=e
theorem k86{α:Type}{xs:List α}{i:Nat}(y:i<xs.length)(p:α->Bool):(xs.drop i).all p=(p xs[i]&&(xs.drop (i+1)).all p):=by rw[qcj y,List.all_cons]
theorem ku4{α:Type}{xs:List α}{i:Nat}(y:xs.length<=i)(p:α->Bool):(xs.drop i).all p=true:=by rw[List.drop_of_length_le y];rfl
theorem ktz{n i:Nat}(y:i<n)(p:Nat->Bool):((List.range n).drop i).all p=(p i&&((List.range n).drop (i+1)).all p):=by rw[k86 (by simpa using y),List.getElem_range]
def Kp(es:List AEnt)(l:List (Int×Int)):Prop:=es.map (λe=>(e.key,e.val))=l.map λp=>(AV.agg [.int .i64 p.1,.int .i64 p.2],AV.bool true)
theorem kta{a b:Int}:∀{es:List AEnt}{l:List (Int×Int)}(j:Nat),Kp es l->
  (findP .i64 a b es j=some none/\(a,b)∉l)\/∃t,findP .i64 a b es j=some (some (t,.bool true))/\(a,b)∈l
 | [],l,j,k=>by
  cases l with
  | nil=>exact .inl ⟨rfl,by simp⟩
  | cons p t=>simp[Kp]at k
 | e::es,l,j,k=>by
  cases l with
  | nil=>simp[Kp]at k
  | cons p t =>
   obtain⟨x,y⟩:=p;simp only[Kp,List.map_cons,List.cons.injEq,qce]at k;obtain⟨⟨z,F⟩,G⟩:=k;have ih:=kta (a:=a) (b:=b) (j+1) (show Kp es t from G);simp only[findP,z,decide_true,Bool.and_self,cond_true];by_cases h:a=x/\b=y
   ·obtain⟨rfl,rfl⟩:=h
    right
    exact⟨j,by simp[F],by simp⟩
   ·have hb:(decide (a=x)&&decide (b=y))=false:=by
     rw[Bool.and_eq_false_iff,qbx,qbx];exact Classical.not_and_iff_not_or_not.1 h
    have H:((a,b)∈(x,y)::t)↔(a,b)∈t:=by rw[qb8,qce];exact or_iff_right h
    rw[hb,cond_false,H];exact ih
def MapP(h:AH)(i:Nat)(l:List (Int×Int)):Prop:=∃es ck,h.blks[i]?=some (.map es ck)/\Kp es l
section
variable{h:AH}{i:Nat}{l:List (Int×Int)}
theorem MapP.lt(m:MapP h i l):i<h.blks.size:=by obtain⟨es,y,e,_⟩:=m;exact(qcf.1 e).1
theorem MapP.md{h':AH}{T:Fp}(m:MapP h i l)(d:Md T h h')(n:¬T i):MapP h' i l:=by obtain⟨es,y,e,k⟩:=m;exact⟨es,y,d.get e n,k⟩
theorem MapP.get(m:MapP h i l)(a b:Int):kk5 h (some i) .i64 a b=some (if(a,b)∈l then some (.bool true)else none):=by
 obtain⟨es,y,e,k⟩:=m;simp only[kk5,AH.mapAt,e,qbv];rcases kta (a:=a) (b:=b) 0 k with⟨q,n⟩ | ⟨t,q,n⟩
 ·rw[q,if_neg n];rfl
 ·rw[q,if_pos n];rfl
theorem MapP.put(m:MapP h i l){a b:Int}(n:(a,b)∉l):∃h',kmk h i .i64 a b (.bool true)=some h'/\MapP h' i (l++[(a,b)])/\Upd h h' i:=by
 have y:=m.lt;obtain⟨es,F,e,k⟩:=m;simp only[kmk,AH.mapAt,e,qbv];rcases kta (a:=a) (b:=b) 0 k with⟨q,_⟩ | ⟨t,q,z⟩
 ·rw[q];refine⟨_,rfl,⟨_,_,qbo y,?_⟩,qbp _⟩;unfold Kp at k|-;simp[k]
 ·exact absurd z n
end
theorem Runs.newP{P:AV->AH->Prop}{h:AH}{K:Nat->AH->Option (AV×AH)}(H:∀h',MapP h' h.blks.size []->Grow h h'->Runs (K h.blks.size h') P):Runs (Go.Ab.newM h (.map [] 0) K) P:=Runs.newM λh' e g=>H h' ⟨[],0,e,rfl⟩ g
end Go.Ab
namespace Go.Num
def half(n:Nat):Nat:=(n+1)/2
theorem kbj9{n:Nat}(y:n%2=1)(e:Nat):(2^e*half n^e)%n=1%n:=by rw[<- Nat.mul_pow,show 2*half n=n+1 from by unfold half;omega,Nat.pow_mod,Nat.add_mod_left,<- Nat.pow_mod,Nat.one_pow]
def redc(n e z:Nat):Nat:=z*half n^e%n
theorem kjh(n e z:Nat):redc n e (z%n)=redc n e z:=by unfold redc;rw[Nat.mod_mul_mod]
theorem kpk{n:Nat}(y:n%2=1)(e x:Nat):redc n e (x*2^e)=x%n:=by unfold redc;rw[Nat.mul_assoc,Nat.mul_mod,kbj9 y,<- Nat.mul_mod,Nat.mul_one]
theorem kyj{n e r z:Nat}(y:n%2=1)(F:r<n)(h:(r*2^e)%n=z%n):r=redc n e z:=by rw[<- kjh,<- h,kjh,kpk y,Nat.mod_eq_of_lt F]
theorem kbmm{n e x y:Nat}(z:n%2=1):redc n e (x*2^e%n*(y*2^e%n))=x*y*2^e%n:=by rw[<- kjh,<- Nat.mul_mod,kjh,show x*2^e*(y*2^e)=x*y*2^e*2^e from by simp only[Nat.mul_assoc,Nat.mul_comm,Nat.mul_left_comm],kpk z]
theorem kbh1{n e a:Nat}(y:n%2=1):redc n e (a*(2^e*2^e%n))=a*2^e%n:=by rw[<- kjh,Nat.mul_mod_mod,kjh,<- Nat.mul_assoc,kpk y]
theorem kbnb{n e x:Nat}(y:n%2=1):redc n e (x*2^e%n*1)=x%n:=by rw[Nat.mul_one,kjh,kpk y]
theorem kbk6{b T Y x N v:Nat}(hb:0<b)(hv:(N*v+1)%b=0):(T+Y*x+N*((T+Y*x)%b*v%b))%b=0:=by
 generalize T+Y*x=U
 have y:(U+N*(U%b*v%b))%b=(U+N*(U*v))%b:=by rw[Nat.add_mod,Nat.mul_mod_mod_aux N U v b,<- Nat.add_mod]
 rw[y,show U+N*(U*v)=U*(N*v+1)from by rw[Nat.mul_add,Nat.mul_one,Nat.add_comm];simp only[Nat.mul_comm,Nat.mul_left_comm],Nat.mul_mod,hv,Nat.mul_zero,Nat.zero_mod]
where
 Nat.mul_mod_mod_aux (N U v b:Nat):N*(U%b*v%b)%b=N*(U*v)%b:=by rw[Nat.mul_mod_mod,<- Nat.mul_mod_mod,Nat.mod_mul_mod,Nat.mul_mod_mod]
theorem kbch{b T Y x N m:Nat}(y:T<Y+N)(z:x<b)(F:m<b):(T+Y*x+N*m)/b<Y+N:=by
 have hb:0<b:=by omega
 rw[Nat.div_lt_iff_lt_mul hb];have h1:Y*x<=Y*(b-1):=Nat.mul_le_mul_left _ (by omega);have h2:N*m<=N*(b-1):=Nat.mul_le_mul_left _ (by omega);obtain⟨c,rfl⟩:∃c,b=c+1:=⟨b-1,by omega⟩;rw[Nat.add_mul,Nat.mul_add Y,Nat.mul_add N,Nat.mul_one,Nat.mul_one];simp only[Nat.add_sub_cancel]at h1 h2;omega
theorem k9t{b p T Y x X N M m y:Nat}(h:T*p=X*Y+N*M)(e:T+Y*x+N*m=y*b):y*(p*b)=(X+p*x)*Y+N*(M+p*m):=by
 have:y*(p*b)=(y*b)*p:=by simp only[Nat.mul_assoc,Nat.mul_comm,Nat.mul_left_comm]
 rw[this,<- e,Nat.add_mul,Nat.add_mul,h,Nat.add_mul,Nat.mul_add];simp only[Nat.mul_assoc,Nat.mul_comm,Nat.mul_left_comm];omega
theorem newton{n x p w:Nat}(z:w=p*p)(h:(n*x)%p=1%p):∀y:Int,(y%(w:Int))=((x:Int)*(2-(n:Int)*x))%(w:Int)->((n:Int)*y)%(w:Int)=1%(w:Int):=by
 intro y F;have h1:((n:Int)*x)%(p:Int)=1%(p:Int):=by exact_mod_cast h
 have h2:(p:Int)∣((n:Int)*x-1):=(Int.emod_emod_of_dvd_aux h1);obtain⟨c,H⟩:=h2;have G:(n:Int)*x=1+p*c:=by omega
 rw[<- Int.mul_emod_aux (n:Int) y (w:Int),F,Int.mul_emod_aux]
 have e:(n:Int)*((x:Int)*(2-(n:Int)*x))=1+(w:Int)*(-(c*c)):=by
  rw[<- Int.mul_assoc,G,z]
  push_cast
  have:(1+(p:Int)*c)*(2-(1+p*c))=1-(p*c)*(p*c):=by generalize (p:Int)*c=t;rw[Int.mul_sub,Int.add_mul 1 t (1+t),Int.mul_add,Int.mul_add];omega
  rw[this,Int.mul_neg,Int.sub_eq_add_neg];congr 2;simp only[Int.mul_assoc,Int.mul_comm,Int.mul_left_comm]
 rw[e,Int.add_mul_emod_self_left]
where
 Int.emod_emod_of_dvd_aux {a p:Int} (h:a%p=1%p):p∣a-1:=Int.dvd_of_emod_eq_zero (by rw[Int.sub_emod,h,Int.sub_self,Int.zero_emod])
 Int.mul_emod_aux (a y w:Int):a*(y%w)%w=a*y%w:=by rw[Int.mul_emod,Int.emod_emod,<- Int.mul_emod]
end Go.Num
set_option maxRecDepth 10000
namespace Go.Ab
open Go.Proofs Go.Num
theorem kxz{h:AH}{s:Sl}{xs:List Nat}(n:Nats h s xs):∀(k:Nat),k<=xs.length->(∀i,k<=i->(K:i<xs.length)->xs[i]=0)->
  ∃s',go (.pt kia kpo [(0,s.v),(3,.i (k:Int))]) h=some (s'.v,h)/\Nats h s' (digs B (num B xs))/\∀h0,Own h0 s->Own h0 s'
 | 0,hk,y=>by
  rw[kyq];obtain⟨s',z,F,G⟩:=n.cut (l:=0) (n:=0) (qbr _) hk;have:=kkp B2 n.lt y hk (.inl rfl);simp at z;simp only[Int.natCast_zero,gt_iff_lt,Int.lt_irrefl,decide_false,cond_false,z,qbv];refine⟨s',rfl,?_,G⟩;rw[<- this]
  simpa using F
 | k+1,hk,y=>by
  rw[kyq];obtain⟨r,z,F⟩:=n.at (i:=k) (by omega);have hs:=n.short;rw[km3 (by omega)];rw[show(decide (((k+1:Nat):Int)>0))=true from by rw[qby];omega];simp only[cond_true,z,F,qbv,kc];by_cases H:xs[k]=0
  ·rw[H,show(decide (((0:Nat):Int)=0))=true from rfl,cond_true];refine kxz n k (by omega) λi K I=>?_;rcases Nat.lt_or_ge k i with h1 | h1
   ·exact y i (by omega) I
   ·have:i=k:=by omega
    subst this;exact H
  ·obtain⟨s',G,Q,U⟩:=n.cut (l:=0) (n:=k+1) (by omega) hk;have V:=kkp B2 n.lt y hk (.inr ⟨by omega,by simpa using H⟩);rw[show(decide (((xs[k]:Nat):Int)=0))=false from by rw[qbx];omega];simp only[cond_false];rw[show cutSl s 0 ((k+1:Nat):Int) 1=some s' from G];refine⟨s',rfl,?_,U⟩;rw[<- V]
   simpa using Q
theorem kbd7{h:AH}{s:Sl}{xs:List Nat}(n:Nats h s xs):∃s',go (.fn kia [s.v]) h=some (s'.v,h)/\Nats h s' (digs B (num B xs))/\∀h0,Own h0 s->Own h0 s':=by rw[k8n,n.len];exact kxz n xs.length (qbr _) λi h1 h2=>by omega
end Go.Ab
set_option maxRecDepth 10000
namespace Go.Ab
open IntKind (wrap)
open Go.Proofs Go.Num
inductive khr
 | fn (x1:List Nat) (x2:List Nat) (a3:Int)
 | p2 (x1:List Nat) (x2:List Nat) (a3:Int) (a4:Int) (a5:Int) (a6:Int)
abbrev ker:=List Nat
noncomputable def kt6(x1 x2:List Nat)(a3:Int):Option (khr⊕ker):=some (.inl (.p2 x1 x2 a3 0 (List.length x1:Int) 0))
noncomputable def khl(x1 x2:List Nat)(a3 a4 a5 a6:Int):Option (khr⊕ker):=cond (decide (a6<a5)) (cond (decide (a6<(List.length x2:Int))) ((atI x2 a6).bind λQ=>(add64P ((mul64 ((Q:Int)) a3).2) a4 0).bind λy=>(inI (List.length x1) a6).bind λz=>(add64P (((List.getD x1 z 0:Nat):Int)) (y.1) 0).bind λF=>(inI (List.length x1) a6).bind λG=>(u64P (F.1)).bind λH=>some (.inl (.p2 (List.set x1 G H) x2 a3 (wrap .u64 ((wrap .u64 (((mul64 ((Q:Int)) a3).1)+(y.2)))+(F.2))) a5 (wrap .i64 (a6+1))))) ((add64P 0 a4 0).bind λp9=>(inI (List.length x1) a6).bind λI=>(add64P (((List.getD x1 I 0:Nat):Int)) (p9.1) 0).bind λy=>(inI (List.length x1) a6).bind λz=>(u64P (y.1)).bind λK=>some (.inl (.p2 (List.set x1 z K) x2 a3 (wrap .u64 ((wrap .u64 (0+(p9.2)))+(y.2))) a5 (wrap .i64 (a6+1)))))) (some (.inr x1))
noncomputable def keu:khr->Option (khr⊕ker)
 | .fn x1 x2 a3=>kt6 x1 x2 a3
 | .p2 x1 x2 a3 a4 a5 a6=>khl x1 x2 a3 a4 a5 a6
@[reducible] def kv0(h0:AH)(a:Sl)(i:Nat)(r:ker)(v:AV)(h':AH):Prop:=v=.tup []/\Vec h' a i r/\Upd h0 h' i
def kmb(r:ker):khr->Prop
 | .fn x1 x2 a3=>∀{h:AH}{a1:Sl}{a2:Sl}{y:Nat},Vec h a1 y x1->Nats h a2 x2->Av a2 y x2->Runs (go (.fn kdv [a1.v,a2.v,.int .u64 a3]) h) (kv0 h a1 y r)
 | .p2 x1 x2 a3 a4 a5 a6=>∀{h0 h:AH}{a1:Sl}{a2:Sl}{y:Nat},Upd h0 h y->Vec h a1 y x1->Nats h a2 x2->Av a2 y x2->Runs (go (.pt kdv klt [(0,a1.v),(1,a2.v),(2,.int .u64 a3),(6,.int .u64 a4),(12,.i a5),(13,.i a6)]) h) (kv0 h0 a1 y r)
theorem kbex{r:ker}{o:khr⊕ker}{x1 x2:List Nat}{a3:Int}(e:kt6 x1 x2 a3=some o)(z:GoodS (kmb r) r o):kmb r (.fn x1 x2 a3):=by intro h a1 a2 G F n2 y;rw[kbnn];unfold kt6 at e;rw[F.nats.len];cases e;exact z ((qk _).toUpd _) F n2 y
theorem k7j{r:ker}{o:khr⊕ker}{x1 x2:List Nat}{a3 a4 a5 a6:Int}(e:khl x1 x2 a3 a4 a5 a6=some o)(z:GoodS (kmb r) r o):kmb r (.p2 x1 x2 a3 a4 a5 a6):=by
 intro h0 h a1 a2 i1 Z G n2 y;rw[kbdt];unfold khl at e;rw[G.nats.len];rw[n2.len];refine qbc (λk7=>?_) (λk7=>?_)
 ·replace e:=(condT k7).symm.trans e;refine qbc (λk8=>?_) (λk8=>?_)
  ·replace e:=(condT k8).symm.trans e;obtain⟨y9,q9,e⟩:=qbw.1 e;obtain⟨r9,j9,l9⟩:=n2.atI q9;refine qy j9 (qy (rdc l9 qcr) (qy (kwb ((y9:Int)) a3) (qy rfl (qy (seen qcr) (qy (seen qcr) ?_)))));obtain⟨aa,H,e⟩:=qbw.1 e;refine qy (kfw H) (qy rfl (qy (seen qcr) (qy (seen qcr) ?_)));obtain⟨ab,F,e⟩:=qbw.1 e;refine qy (G.idx rfl F) (qy (G.rd rfl F qcr) ?_);obtain⟨ah,ac,e⟩:=qbw.1 e;refine qy (kfw ac) (qy rfl (qy (seen qcr) (qy (seen qcr) ?_)));obtain⟨ai,Q,e⟩:=qbw.1 e;refine qy (G.idx rfl Q) ?_;obtain⟨aj,ad,e⟩:=qbw.1 e;refine qbg G rfl Q ad λak ae U=>?_;have I:=n2.upda y U;cases e;exact z (Z.trans U) ae I y
  ·replace e:=(condF k8).symm.trans e;obtain⟨p9,q9,e⟩:=qbw.1 e;refine qy (kfw q9) (qy rfl (qy (seen qcr) (qy (seen qcr) ?_)));obtain⟨al,V,e⟩:=qbw.1 e;refine qy (G.idx rfl V) (qy (G.rd rfl V qcr) ?_);obtain⟨aa,H,e⟩:=qbw.1 e;refine qy (kfw H) (qy rfl (qy (seen qcr) (qy (seen qcr) ?_)));obtain⟨ab,F,e⟩:=qbw.1 e;refine qy (G.idx rfl F) ?_;obtain⟨am,af,e⟩:=qbw.1 e;refine qbg G rfl F af λan ag W=>?_;have K:=n2.upda y W;cases e;exact z (Z.trans W) ag K y
 ·replace e:=(condF k7).symm.trans e;cases e;cases z;exact qx ⟨rfl,G,Z⟩
theorem kbe5{s:khr}{r:ker}(z:Iter keu s r):kmb r s:=qbf (λs o e y=>by
 cases s with
 | fn x1 x2 a3=>exact @kbex _ _ x1 x2 a3 e y
 | p2 x1 x2 a3 a4 a5 a6=>exact @k7j _ _ x1 x2 a3 a4 a5 a6 e y
 ) z
theorem kqy{h:AH}{a1 a2:Sl}{z:Nat}{x1 x2:List Nat}{a3:Int}(F:Vec h a1 z x1)(n2:Nats h a2 x2)(y:Av a2 z x2){r:ker}(q:runP keu (.fn x1 x2 a3)=some r):Runs (go (.fn kdv [a1.v,a2.v,.int .u64 a3]) h) (kv0 h a1 z r):=kbe5 (ke5 q) F n2 y
end Go.Ab
set_option maxRecDepth 10000
namespace Go.Ab
open Go.Proofs Go.Num
def addMul:List Nat->List Nat->Nat->Nat->List Nat
 | [],_,_,_=>[]
 | t::ts,ys,a,c=>(t+ys.headD 0*a+c)%B::addMul ts ys.tail a ((t+ys.headD 0*a+c)/B)
theorem km8:∀(y ys:List Nat)(a c:Nat),(addMul y ys a c).length=y.length
 | [],_,_,_=>rfl
 | t::y,ys,a,c=>by rw[addMul,qb4,qb4,km8]
theorem kr8:∀(y ys:List Nat)(a c:Nat),∀x∈addMul y ys a c,x<B
 | [],_,_,_,x,h=>by cases h
 | t::y,ys,a,c,x,h=>by
  rw[addMul]at h;rcases qb8.1 h with rfl | h
  ·exact Nat.mod_lt _ (by decide)
  ·exact kr8 y _ _ _ x h
theorem kot(b x:Nat)(xs:List Nat):num b (x::xs)=x+b*num b xs:=rfl
theorem knk(b:Nat)(ys:List Nat):num b ys=ys.headD 0+b*num b ys.tail:=by
 cases ys with
 | nil=>simp[num]
 | cons y ys=>rfl
theorem kvy:∀(z ys:List Nat)(a c:Nat),num B (addMul z ys a c)=(num B z+num B ys*a+c)%B^z.length
 | [],ys,a,c=>by simp[addMul,num,Nat.mod_one]
 | t::z,ys,a,c=>by
  rw[addMul,kot,kvy z,kot,knk B ys,qb4,Nat.pow_succ,Nat.mul_comm (B^z.length) B,Nat.mod_mul];generalize ys.headD 0=y;generalize num B ys.tail=Y;generalize num B z=T
  have e:t+B*T+(y+B*Y)*a+c=(t+y*a+c)+B*(T+Y*a):=by rw[Nat.add_mul,Nat.mul_add,Nat.mul_assoc];omega
  rw[e,Nat.add_mul_mod_self_left,Nat.add_mul_div_left _ _ (show 0<B from by decide)];congr 3;omega
theorem kbjk{t o c:Nat}(y:o<18446744073709551616)(z:c<18446744073709551616)(h:(o+t+c)/18446744073709551616<18446744073709551616) :
  (o+(t%18446744073709551616+c+0)%18446744073709551616+0)%18446744073709551616=(o+t+c)%18446744073709551616/\
  IntKind.wrap .u64 (IntKind.wrap .u64 (((t/18446744073709551616:Nat):Int)+(((t%18446744073709551616+c+0)/18446744073709551616:Nat):Int))+(((o+(t%18446744073709551616+c+0)%18446744073709551616+0)/18446744073709551616:Nat):Int))=(((o+t+c)/18446744073709551616:Nat):Int):=by
 rw[wrapU,wrapU];omega
theorem kbes{o c:Nat}(y:o<18446744073709551616)(z:c<18446744073709551616) :
  (o+(0+c+0)%18446744073709551616+0)%18446744073709551616=(o+c)%18446744073709551616/\
  IntKind.wrap .u64 (IntKind.wrap .u64 (0+(((0+c+0)/18446744073709551616:Nat):Int))+(((o+(0+c+0)%18446744073709551616+0)/18446744073709551616:Nat):Int))=(((o+c)/18446744073709551616:Nat):Int):=by
 rw[wrapU,wrapU];omega
theorem kr0{α:Type}(l:List α)(x y:α)(r:List α){n:Nat}(h:n=l.length):(l++x::r).set n y=(l++[y])++r:=by subst h;simp
theorem kzu{ys:List Nat}{a:Nat}(Q:a<B)(ly:∀y∈ys,y<B):∀(z l:List Nat)(c:Nat),(∀t∈z,t<B)->c<B->l.length+z.length<=8796093022208->
  Iter keu (.p2 (l++z) ys (a:Int) (c:Int) ((l.length+z.length:Nat):Int) (l.length:Int)) (l++addMul z (ys.drop l.length) a c)
 | [],l,c,_,_,_=>by
  refine .done ?_;show khl _ _ _ _ _ _=_;unfold khl;rw[condF (by rw[qbx];simp)];rfl
 | t::z,l,c,lt,I,hn=>by
  have K:=lt t (by simp);have aa:l.length+z.length+1<=8796093022208:=by simpa[Nat.add_assoc]using hn
  have U:l.length<(l++t::z).length:=by simp
  have hg:List.getD (l++t::z) l.length 0=t:=by rw[kbp U];simp
  have V:=λ(G:Nat) (H:G<B) (x:Nat)=>kzu Q ly z (l++[x]) G (λt h=>lt t (by simp[h])) H (by simp;omega)
  have key:∀(G x:Nat),G<B->khl (l++t::z) ys (a:Int) (c:Int) ((l.length+(t::z).length:Nat):Int) (l.length:Int)=some (.inl (.p2 ((l++[x])++z) ys (a:Int) (G:Int) ((l.length+(t::z).length:Nat):Int) ((l.length+1:Nat):Int)))->
    x=(t+(ys.drop l.length).headD 0*a+c)%B->G=(t+(ys.drop l.length).headD 0*a+c)/B->Iter keu (.p2 (l++t::z) ys (a:Int) (c:Int) ((l.length+(t::z).length:Nat):Int) (l.length:Int)) (l++addMul (t::z) (ys.drop l.length) a c):=λG x H h1 hx W=>by
   refine .next h1 ?_;have:=V G H x;have e1:(l++[x]).length+z.length=l.length+(t::z).length:=by simp;omega
   have e2:(l++[x]).length=l.length+1:=by simp
   rw[e1,e2]at this;rw[addMul,<- hx,<- W,List.tail_drop]
   simpa using this
  by_cases hi:l.length<ys.length
  ·have hy:=ly ys[l.length] (qb5 _);have Z:(ys.drop l.length).headD 0=ys[l.length]:=by rw[qcj hi];rfl
   rw[Z]at key;have F:(t+ys[l.length]*a+c)/B<B:=by rw[Nat.add_comm t];exact kwf hy Q K I
   obtain⟨c1,c2⟩:=kbjk (t:=ys[l.length]*a) K I F;refine key _ _ F ?_ rfl rfl;unfold khl;rw[condT (by rw[qby];rw[qb4];omega),condT (by rw[qby];omega),kbv hi,qbv,kxc hy Q];dsimp only;have a1:=kg9 (ys[l.length]*a%B) c (c:=0) (by omega);have a2:=kg9 t ((ys[l.length]*a%B+c+0)%18446744073709551616) (c:=0) (by omega);rw[show((0:Nat):Int)=0 from rfl]at a1 a2;rw[a1,qbv,kba U,qbv,hg];dsimp only;rw[a2,qbv,qbv];dsimp only;rw[c1,c2,kbg (Nat.mod_lt _ (by decide)),qbv,ki (by omega),kr0 l t _ z rfl]
  ·have Z:(ys.drop l.length).headD 0=0:=by rw[List.drop_eq_nil_of_le (by omega)];rfl
   simp only[Z,Nat.zero_mul,Nat.add_zero]at key
   have F:(t+c)/B<B:=by have:t<18446744073709551616:=K;have:c<18446744073709551616:=I;show(t+c)/18446744073709551616<18446744073709551616;omega
   obtain⟨c1,c2⟩:=kbes K I;refine key _ _ F ?_ rfl rfl;unfold khl;rw[condT (by rw[qby];rw[qb4];omega),condF (by rw[qbx];omega)];have a1:=kg9 0 c (c:=0) (by omega);have a2:=kg9 t ((0+c+0)%18446744073709551616) (c:=0) (by omega);rw[show((0:Nat):Int)=0 from rfl]at a1 a2;rw[a1,qbv,kba U,qbv,hg];dsimp only;rw[a2,qbv,qbv];dsimp only;rw[c1,c2,kbg (Nat.mod_lt _ (by decide)),qbv,ki (by omega),kr0 l t _ z rfl]
theorem k1x{z ys:List Nat}{a:Nat}(lt:∀t∈z,t<B)(F:∀y∈ys,y<B)(G:a<B)(H:z.length<=8796093022208):runP keu (.fn z ys (a:Int))=some (addMul z ys a 0):=by
 refine kei (.next rfl ?_);have:=kzu G F z [] 0 lt (by decide) (by simpa using H)
 simpa using this
end Go.Ab
set_option maxRecDepth 10000
namespace Go.Ab
open IntKind (wrap)
open Go.Proofs Go.Num
inductive kgy
 | fn (x1c0:List Nat) (z1c1:Int) (x1c2:List Nat) (x1c3:List Nat) (x2:List Nat) (x3:List Nat)
 | p4 (x1c0:List Nat) (z1c1:Int) (x1c2:List Nat) (x1c3:List Nat) (x2:List Nat) (x3:List Nat) (a4:Int) (x5:List Nat) (a6:Int) (a7:Int)
abbrev kd7:=List Nat
noncomputable def knm(x1c0:List Nat)(z1c1:Int)(x1c2 x1c3 x2 x3:List Nat):Option (kgy⊕kd7):=(mkI (wrap .i64 ((List.length x1c0:Int)+2)) (wrap .i64 ((List.length x1c0:Int)+2))).bind λy=>some (.inl (.p4 x1c0 z1c1 x1c2 x1c3 x2 x3 (List.length x1c0:Int) (List.replicate y 0) (List.length x1c0:Int) 0))
noncomputable def kiq(x1c0:List Nat)(z1c1:Int)(x1c2 x1c3 x2 x3:List Nat)(a4:Int)(x5:List Nat)(a6 a7:Int):Option (kgy⊕kd7):=cond (decide (a7<a6)) (cond (decide (a7<(List.length x2:Int))) ((atI x2 a7).bind λG=>(runP keu (.fn x5 x3 ((G:Int)))).bind λz=>(need (List.length z=List.length x5)).bind λaa=>(inI (List.length x5) 0).bind λH=>(runP keu (.fn z x1c0 (wrap .u64 ((((List.getD z H 0:Nat):Int))*z1c1)))).bind λy=>(need (List.length y=List.length z)).bind λab=>(cutP (List.length x5) 1 (List.length x5:Int)).bind λF=>(overW y (List.take F.2 (List.drop F.1 y))).bind λI=>(inI (List.length x5) (wrap .i64 (a4+1))).bind λK=>(u64P 0).bind λQ=>some (.inl (.p4 x1c0 z1c1 x1c2 x1c3 x2 x3 a4 (List.set I K Q) a6 (wrap .i64 (a7+1))))) ((runP keu (.fn x5 x3 0)).bind λp10=>(need (List.length p10=List.length x5)).bind λac=>(inI (List.length x5) 0).bind λU=>(runP keu (.fn p10 x1c0 (wrap .u64 ((((List.getD p10 U 0:Nat):Int))*z1c1)))).bind λp12=>(need (List.length p12=List.length p10)).bind λad=>(cutP (List.length x5) 1 (List.length x5:Int)).bind λy=>(overW p12 (List.take y.2 (List.drop y.1 p12))).bind λV=>(inI (List.length x5) (wrap .i64 (a4+1))).bind λW=>(u64P 0).bind λZ=>some (.inl (.p4 x1c0 z1c1 x1c2 x1c3 x2 x3 a4 (List.set V W Z) a6 (wrap .i64 (a7+1)))))) (cond (decide ((cmpN (digs B (num B x5)) x1c0)>=0)) (some (.inr ((subN (digs B (num B x5)) x1c0).1))) (some (.inr (digs B (num B x5)))))
noncomputable def kdh:kgy->Option (kgy⊕kd7)
 | .fn x1c0 z1c1 x1c2 x1c3 x2 x3=>knm x1c0 z1c1 x1c2 x1c3 x2 x3
 | .p4 x1c0 z1c1 x1c2 x1c3 x2 x3 a4 x5 a6 a7=>kiq x1c0 z1c1 x1c2 x1c3 x2 x3 a4 x5 a6 a7
@[reducible] def kuq(h0:AH)(r:kd7)(v:AV)(h':AH):Prop:=∃s1:Sl,v=s1.v/\Nats h' s1 r/\Grow h0 h'/\Own h0 s1
def knf(r:kd7):kgy->Prop
 | .fn x1c0 z1c1 x1c2 x1c3 x2 x3=>∀{h:AH}{y:Sl}{z:Sl}{F:Sl}{a2:Sl}{a3:Sl}{G:Nat},h.has G [y.v,.int .u64 z1c1,z.v,F.v] kc3->Nats h y x1c0->Nats h z x1c2->Nats h F x1c3->Nats h a2 x2->Nats h a3 x3->Runs (go (.fn kbn [.p (.new G 0),a2.v,a3.v]) h) (kuq h r)
 | .p4 x1c0 z1c1 x1c2 x1c3 x2 x3 a4 x5 a6 a7=>∀{h0 h:AH}{y:Sl}{z:Sl}{F:Sl}{a2:Sl}{a3:Sl}{a5:Sl}{H:Nat}{G:Nat},Grow h0 h->h0.has G [y.v,.int .u64 z1c1,z.v,F.v] kc3->Nats h0 y x1c0->Nats h0 z x1c2->Nats h0 F x1c3->Nats h0 a2 x2->Nats h0 a3 x3->Vec h a5 H x5->h0.blks.size<=H->Runs (go (.pt kbn knn [(0,.p (.new G 0)),(1,a2.v),(2,a3.v),(7,.i a4),(8,a5.v),(20,.i a6),(21,.i a7)]) h) (kuq h0 r)
theorem kbjr{r:kd7}{o:kgy⊕kd7}{x1c0:List Nat}{z1c1:Int}{x1c2 x1c3 x2 x3:List Nat}(e:knm x1c0 z1c1 x1c2 x1c3 x2 x3=some o)(z:GoodS (knf r) r o):knf r (.fn x1c0 z1c1 x1c2 x1c3 x2 x3):=by intro h H I K a2 a3 Z b1 y F G n2 Q;rw[kba7];unfold knm at e;refine qy rfl (qy (qbe b1 0 rfl qcq) ?_);rw[y.len];obtain⟨m4,U,e⟩:=qbw.1 e;refine Runs.mk U kcz λs4 H4 V W=>?_;cases e;exact z W b1 y F G n2 Q V (qbr _)
theorem kbcn{r:kd7}{o:kgy⊕kd7}{x1c0:List Nat}{z1c1:Int}{x1c2 x1c3 x2 x3:List Nat}{a4:Int}{x5:List Nat}{a6 a7:Int}(e:kiq x1c0 z1c1 x1c2 x1c3 x2 x3 a4 x5 a6 a7=some o)(K:GoodS (knf r) r o):knf r (.p4 x1c0 z1c1 x1c2 x1c3 x2 x3 a4 x5 a6 a7):=by
 intro h0 h cc cd ce a2 a3 a5 i5 i1 H b1 z ae af n2 n3 v5 y;rw[kbkk];unfold kiq at e;rw[(n2.grow H).len];rw[v5.nats.len];refine qbc (λk8=>?_) (λk8=>?_)
 ·replace e:=(condT k8).symm.trans e;refine qbc (λk9=>?_) (λk9=>?_)
  ·replace e:=(condT k9).symm.trans e;obtain⟨cf,ai,e⟩:=qbw.1 e;obtain⟨ch,ay,az⟩:=(n2.grow H).atI ai;refine qy ay (qy (rdc az qcr) ?_);obtain⟨ci,Z,e⟩:=qbw.1 e;obtain⟨_,cj,a0,rfl,aj,aa⟩:=kqy v5 (n3.grow H) (qbh n3 y) Z;refine qy a0 ?_;obtain⟨ba,ck,e⟩:=qbw.1 e;have F:=ba.down;refine qy rfl (qy rfl (qy (qbe ((H.updr y aa).has b1) 0 rfl qcq) ?_));obtain⟨cl,ab,e⟩:=qbw.1 e;refine qy (aj.idx (by simp only[qb9,F]) ab) (qy (aj.rd (by simp only[qb9,F]) ab qcr) (qy rfl (qy (qbe ((H.updr y aa).has b1) 1 rfl qcr) ?_)));obtain⟨bb,ac,e⟩:=qbw.1 e;obtain⟨_,cm,ak,rfl,al,bc⟩:=kqy aj (z.grow (H.updr y aa)) (qbh z y) ac;refine qy ak ?_;obtain⟨bd,cn,e⟩:=qbw.1 e;have Q:=bd.down;refine qy rfl ?_;obtain⟨cp,V,e⟩:=qbw.1 e;obtain⟨cq,am,be⟩:=al.cutW (by simp only[qb9,Q,F]) V;refine qy am ?_;obtain⟨cr,W,e⟩:=qbw.1 e;have ag:=kyu W;obtain⟨ct,bf,au,bg⟩:=al.copyV (be.nats al (by have:=(kry V).2.2.2;simpa only[qb9,Q,F]using this)) W;refine qy bf ?_;obtain⟨cu,aw,e⟩:=qbw.1 e;refine qy (au.idx (by simp only[qb9,ag,Q,F]) aw) ?_;obtain⟨cv,bh,e⟩:=qbw.1 e;refine qbg au (by simp only[qb9,ag,Q,F]) aw bh λcw bi bj=>?_;cases e;have bk:=((((H.updr y aa).updr y bc).updr y bg).updr y bj);exact K bk b1 z ae af n2 n3 bi y
  ·replace e:=(condF k9).symm.trans e;obtain⟨p10,ai,e⟩:=qbw.1 e;obtain⟨_,bn,an,rfl,ao,ad⟩:=kqy v5 (n3.grow H) (qbh n3 y) ai;refine qy an ?_;obtain⟨bq,cx,e⟩:=qbw.1 e;have G:=bq.down;refine qy rfl (qy rfl (qy (qbe ((H.updr y ad).has b1) 0 rfl qcq) ?_));obtain⟨cy,Z,e⟩:=qbw.1 e;refine qy (ao.idx (by simp only[qb9,G]) Z) (qy (ao.rd (by simp only[qb9,G]) Z qcr) (qy rfl (qy (qbe ((H.updr y ad).has b1) 1 rfl qcr) ?_)));obtain⟨p12,ab,e⟩:=qbw.1 e;obtain⟨_,br,ap,rfl,aq,bu⟩:=kqy ao (z.grow (H.updr y ad)) (qbh z y) ab;refine qy ap ?_;obtain⟨bv,cz,e⟩:=qbw.1 e;have U:=bv.down;refine qy rfl ?_;obtain⟨bb,ac,e⟩:=qbw.1 e;obtain⟨c0,ak,bw⟩:=aq.cutW (by simp only[qb9,U,G]) ac;refine qy ak ?_;obtain⟨c1,V,e⟩:=qbw.1 e;have ah:=kyu V;obtain⟨c2,am,ax,bx⟩:=aq.copyV (bw.nats aq (by have:=(kry ac).2.2.2;simpa only[qb9,U,G]using this)) V;refine qy am ?_;obtain⟨c3,W,e⟩:=qbw.1 e;refine qy (ax.idx (by simp only[qb9,ah,U,G]) W) ?_;obtain⟨c4,bz,e⟩:=qbw.1 e;refine qbg ax (by simp only[qb9,ah,U,G]) W bz λc5 b0 b5=>?_;cases e;have b6:=((((H.updr y ad).updr y bu).updr y bx).updr y b5);exact K b6 b1 z ae af n2 n3 b0 y
 ·replace e:=(condF k8).symm.trans e;obtain⟨s9,e9,n9,o9⟩:=kbd7 v5.nats;refine qy e9 (qy (seen qcq) (qy rfl (qy (qbe (H.has b1) 0 rfl qcq) ?_)));obtain⟨bn,an,I⟩:=keg n9 (z.grow H);refine qy an (qy (seen qcr) ?_);refine qbc (λar=>?_) (λar=>?_)
  ·replace e:=(condT ar).symm.trans e;refine qy rfl (qy (qbe ((H.trans I).has b1) 0 rfl qcq) ?_);obtain⟨b7,br,ap,b8,b9,ca⟩:=kjw (n9.grow I) (z.grow (H.trans I));refine qy ap (qy rfl (qy (seen qcq) (qy (seen qcr) ?_)));cases e;cases K;have cb:=((H.trans I).trans b9);exact qx ⟨b7,rfl,b8,cb,(ca.of_le (H.trans I))⟩
  ·replace e:=(condF ar).symm.trans e;cases e;cases K;exact qx ⟨s9,rfl,(n9.grow I),(H.trans I),((o9 _ (v5.own y)).of_le (qk _))⟩
theorem kbg2{s:kgy}{r:kd7}(z:Iter kdh s r):knf r s:=qbf (λs o e y=>by
 cases s with
 | fn x1c0 z1c1 x1c2 x1c3 x2 x3=>exact @kbjr _ _ x1c0 z1c1 x1c2 x1c3 x2 x3 e y
 | p4 x1c0 z1c1 x1c2 x1c3 x2 x3 a4 x5 a6 a7=>exact @kbcn _ _ x1c0 z1c1 x1c2 x1c3 x2 x3 a4 x5 a6 a7 e y
 ) z
theorem km1{h:AH}{y z F a2 a3:Sl}{K:Nat}{x1c0:List Nat}{z1c1:Int}{x1c2 x1c3 x2 x3:List Nat}(b1:h.has K [y.v,.int .u64 z1c1,z.v,F.v] kc3)(G:Nats h y x1c0)(H:Nats h z x1c2)(I:Nats h F x1c3)(n2:Nats h a2 x2)(Q:Nats h a3 x3){r:kd7}(q:runP kdh (.fn x1c0 z1c1 x1c2 x1c3 x2 x3)=some r):Runs (go (.fn kbn [.p (.new K 0),a2.v,a3.v]) h) (kuq h r):=kbg2 (ke5 q) b1 G H I n2 Q
end Go.Ab
set_option maxRecDepth 10000
namespace Go.Ab
open Go.Proofs Go.Num
theorem getD0(xs:List Nat):xs.getD 0 0=xs.headD 0:=by cases xs<;>rfl
theorem k4d{b:Nat}{xs:List Nat}(h:∀x∈xs,x<b)(hb:0<b):xs.headD 0=num b xs%b:=by
 cases xs with
 | nil=>simp[num]
 | cons x xs =>rw[kot,Nat.add_mul_mod_self_left,Nat.mod_eq_of_lt (h x (by simp))];rfl
def montR(y ys ns:List Nat)(v x:Nat):List Nat :=
 let p:=addMul y ys x 0
 (addMul p ns (p.headD 0*v%B) 0).tail++[0]
theorem kbla{y ys ns:List Nat}{v x k:Nat}(lt:∀t∈y,t<B)(V:y.length=k+2)(hx:x<B)(hv:(num B ns*v+1)%B=0)(hY:num B ys<B^k)(hN:num B ns<B^k)(hT:num B y<num B ys+num B ns) :
  (montR y ys ns v x).length=k+2/\(∀t∈montR y ys ns v x,t<B)/\(∃m,m<B/\num B y+num B ys*x+num B ns*m=num B (montR y ys ns v x)*B):=by
 have B0:0<B:=by decide
 unfold montR;dsimp only;generalize hp:addMul y ys x 0=p;generalize I:num B y=T at *
 generalize K:num B ys=Y at *
 generalize Q:num B ns=N at *
 have W:p.length=k+2:=by rw[<- hp,km8,V]
 have U:∀t∈p,t<B:=by rw[<- hp];exact kr8 _ _ _ _
 have e1:Y*x<=B^k*B:=Nat.mul_le_mul (by omega) (by omega);have e3:B^(k+2)=B^k*B*B:=by rw[Nat.pow_succ,Nat.pow_succ]
 have e4:B^k*B*4<=B^k*B*B:=Nat.mul_le_mul_left _ (by decide);have e5:B^k*2<=B^k*B:=Nat.mul_le_mul_left _ (by decide)
 have Z:num B p=T+Y*x:=by rw[<- hp,kvy,I,K,V,Nat.add_zero];refine Nat.mod_eq_of_lt ?_;omega
 have hh:p.headD 0=(T+Y*x)%B:=by rw[k4d U B0,Z]
 rw[hh];generalize hm:(T+Y*x)%B*v%B=m;have mB:m<B:=by rw[<- hm];exact Nat.mod_lt _ B0
 have e2:N*m<=B^k*B:=Nat.mul_le_mul (by omega) (by omega);generalize F:addMul p ns m 0=G;have aa:G.length=k+2:=by rw[<- F,km8,W]
 have z:∀t∈G,t<B:=by rw[<- F];exact kr8 _ _ _ _
 have H:num B G=T+Y*x+N*m:=by rw[<- F,kvy,Z,Q,W,Nat.add_zero];refine Nat.mod_eq_of_lt ?_;omega
 have h0:G.headD 0=0:=by rw[k4d z B0,H,<- hm];exact kbk6 B0 hv
 refine⟨by simp;omega,?_,m,mB,?_⟩
 ·intro t ht;rcases qb7.1 ht with h | h
  ·exact z t (List.mem_of_mem_tail h)
  ·rw[List.mem_singleton.1 h];exact B0
 ·rw[<- H,knk B G,h0,show [0]=List.replicate 1 0 from rfl,kfq,Nat.zero_add,Nat.mul_comm]
theorem kbpr{p:List Nat}{k:Nat}(h:p.length=k+2):List.take (k+1) (List.drop 1 p)=p.tail:=by rw[List.drop_one,List.take_of_length_le (by simp;omega)]
theorem kbby{p:List Nat}{k:Nat}(h:p.length=k+2):∃z,overW p p.tail=some (p.tail++[z]):=by
 unfold overW;rw[if_pos (by simp)];have y:(p.drop p.tail.length).length=1:=by simp;omega
 obtain⟨z,F⟩:=List.length_eq_one_iff.1 y;exact⟨z,by rw[F]⟩
theorem kxb{xs:List Nat}{i:Nat}(h:xs.length<=i):xs.getD i 0=0:=by simp[List.getD,List.getElem?_eq_none h]
theorem kl6{xs ys:List Nat}(y:rt xs=true)(z:rt ys=true):cmpN xs ys=cmp (num B xs) (num B ys):=by unfold cmpN;rw[if_pos ⟨y,z⟩]
theorem k68(b:Nat){xs:List Nat}(i:Nat):num b (xs.take (i+1))=num b (xs.take i)+b^i*xs.getD i 0:=by
 rcases Nat.lt_or_ge i xs.length with h | h
 ·rw[kc0 b h,kbp h]
 ·rw[List.take_of_length_le (by omega),List.take_of_length_le h,kxb h];simp
section
variable{ns xs ys ones nexts:List Nat}{v k N X Y:Nat}
theorem kbdu(hk:k<=60)(ln:ns.length=k)(G:∀t∈ns,t<B)(lx:∀t∈xs,t<B)(ly:∀t∈ys,t<B)(ab:v<B)(hv:(num B ns*v+1)%B=0)(hY:num B ys<num B ns){y:List Nat}(lt:∀t∈y,t<B)(Q:y.length=k+2){i:Nat}(hi:i<k)(hT:num B y<num B ys+num B ns) :
  kiq ns (v:Int) ones nexts xs ys (k:Int) y (k:Int) (i:Int)=some (.inl (.p4 ns (v:Int) ones nexts xs ys (k:Int) (montR y ys ns v (xs.getD i 0)) (k:Int) ((i+1:Nat):Int))):=by
 have hN:num B ns<B^k:=ln▸num_lt B1 G
 have run:∀x:Nat,x<B->∀p,addMul y ys x 0=p->∀q,addMul p ns (p.headD 0*v%B) 0=q->
   p.length=k+2/\q.length=k+2/\runP keu (.fn y ys (x:Int))=some p/\runP keu (.fn p ns (IntKind.wrap .u64 (((List.getD p 0 0:Nat):Int)*(v:Int))))=some q:=by
  intro x U p hp q hq;have F:p.length=k+2:=by rw[<- hp,km8,Q]
  refine⟨F,by rw[<- hq,km8,F],?_,?_⟩
  ·rw[k1x lt ly U (by omega),hp]
  ·rw[<- Int.natCast_mul,wrapU,getD0];have:(((p.headD 0*v:Nat):Int))%18446744073709551616=((p.headD 0*v%B:Nat):Int):=rfl;rw[this,k1x (hp▸kr8 _ _ _ _) G (Nat.mod_lt _ (by decide)) (by omega),hq]
 unfold kiq;rw[condT (by rw[qby];omega)]
 have H:∀q:List Nat,q.length=k+2->∀r:Option (kgy⊕kd7),r=((cutP y.length 1 (y.length:Int)).bind λI=>(overW q (List.take I.2 (List.drop I.1 q))).bind λV=>(inI y.length (IntKind.wrap .i64 ((k:Int)+1))).bind λW=>(u64P 0).bind λZ=>some (.inl (.p4 ns (v:Int) ones nexts xs ys (k:Int) (List.set V W Z) (k:Int) (IntKind.wrap .i64 ((i:Int)+1)))))->
   r=some (.inl (.p4 ns (v:Int) ones nexts xs ys (k:Int) (q.tail++[0]) (k:Int) ((i+1:Nat):Int))):=by
  intro q lq r hr;rw[hr,Q];have c:=k0d (len:=k+2) (lo:=1) (n:=k+1) (by omega) (by omega);rw[show 1+(k+1)=k+2 from by omega]at c;rw[show((1:Nat):Int)=1 from rfl]at c;obtain⟨z,hz⟩:=kbby lq;rw[c,qbv];dsimp only;rw[kbpr lq,hz,qbv,ki (by omega),kba (by omega),qbv,show u64P 0=some 0 from rfl,qbv,ki (by omega)];have:=kr0 q.tail z 0 [] (n:=k+1) (by simp;omega);rw[this,List.append_nil]
 by_cases U:i<xs.length
 ·have aa:=lx xs[i] (qb5 _);obtain⟨F,K,r1,r2⟩:=run xs[i] aa _ rfl _ rfl;rw[condT (by rw[qby];omega),kbv U,qbv,r1,qbv,kp (by rw[F,Q]),qbv,show(0:Int)=((0:Nat):Int)from rfl,kba (by omega),qbv,r2,qbv,kp (by rw[F,K]),qbv];refine(H _ K _ rfl).trans ?_;unfold montR;rw[kbp U]
 ·obtain⟨F,K,r1,r2⟩:=run 0 (by decide) _ rfl _ rfl;rw[show((0:Nat):Int)=0 from rfl]at r1;rw[condF (by rw[qbx];omega),r1,qbv,kp (by rw[F,Q]),qbv,show(0:Int)=((0:Nat):Int)from rfl,kba (by omega),qbv,r2,qbv,kp (by rw[F,K]),qbv];refine(H _ K _ rfl).trans ?_;unfold montR;rw[kxb (show xs.length<=i from by omega)]
theorem k3u(hk:k<=60)(G:ns.length=k)(y:∀t∈ns,t<B)(Z:Trim ns)(K:∀t∈xs,t<B)(ly:∀t∈ys,t<B)(F:v<B)(hv:(num B ns*v+1)%B=0)(Q:num B ns%2=1)(hX:xs.length<=k)(hY:num B ys<num B ns) :
  ∀(d i:Nat),i+d=k->∀ts:List Nat,(∀t∈ts,t<B)->ts.length=k+2->num B ts<num B ys+num B ns->(∃M,num B ts*B^i=num B (xs.take i)*num B ys+num B ns*M)->
   Iter kdh (.p4 ns (v:Int) ones nexts xs ys (k:Int) ts (k:Int) (i:Int)) (digs B (redc (num B ns) (64*k) (num B xs*num B ys)))
 | 0,i,U,ts,lt,V,H,⟨M,z⟩=>by
  have U:i=k:=by omega
  subst U;have hN:num B ns<B^i:=G▸num_lt B1 y
  have aa:B^i*2<=B^64:=by
   calc B^i*2<=B^i*B:=Nat.mul_le_mul_left _ (by decide)
    _=B^(i+1):=(Nat.pow_succ ..).symm
    _<=B^64:=Nat.pow_le_pow_right (by decide) (by omega)
  have rn:rt ns=true:=rt_iff.2 ⟨by omega,Z⟩;have rT:rt (digs B (num B ts))=true:=kv (by omega);rw[List.take_of_length_le hX]at z;have W:B^i=2^(64*i):=by rw[show B=2^64 from rfl,<- Nat.pow_mul]
  rw[W]at z;refine .done ?_;show kiq _ _ _ _ _ _ _ _ _ _=_;unfold kiq;rw[condF (by rw[qbx];omega),kl6 rT rn,kg B2];by_cases I:num B ts<num B ns
  ·have:cmp (num B ts) (num B ns)=-1:=by unfold cmp;rw[if_pos I]
   rw[this,show decide ((-1:Int)>=0)=false from rfl,cond_false];rw[<- kyj Q I (by rw[z,Nat.add_mul_mod_self_left])]
  ·have:decide (cmp (num B ts) (num B ns)>=0)=true:=by
    unfold cmp;rw[if_neg I];split<;>rfl
   rw[this,cond_true];unfold subN;rw[if_pos ⟨rT,rn⟩,kg B2,if_neg I];rw[<- kyj (r:=num B ts-num B ns) Q (by omega)];rw[Nat.sub_mul,z,<- Nat.add_mul_mod_self_left (_-_) (num B ns) (2^(64*i)),Nat.sub_add_cancel]
   ·rw[Nat.add_mul_mod_self_left]
   ·rw[<- z];exact Nat.mul_le_mul_right _ (by omega)
 | d+1,i,U,ts,lt,V,H,⟨M,z⟩=>by
  have hN:num B ns<B^k:=G▸num_lt B1 y
  have hx:xs.getD i 0<B:=by
   rcases Nat.lt_or_ge i xs.length with h | h
   ·rw[kbp h];exact K _ (qb5 _)
   ·rw[kxb h];decide
  obtain⟨o1,o2,m,hm,o3⟩:=kbla (v:=v) (ns:=ns) (ys:=ys) lt V hx hv (by omega) hN H;refine .next (kbdu hk G y K ly F hv hY lt V (by omega) H) (k3u hk G y Z K ly F hv Q hX hY d (i+1) (by omega) _ o2 o1 ?_ ⟨M+B^i*m,?_⟩)
  ·have:=kbch H hx hm;rwa[o3,Nat.mul_div_cancel _ (by decide)]at this
  ·rw[k68,Nat.pow_succ];have:=k9t z o3;rw[this,Nat.mul_comm (B^i) m,Nat.mul_comm m]
theorem kbgx(hk:k<=60)(F:ns.length=k)(y:∀t∈ns,t<B)(G:Trim ns)(H:∀t∈xs,t<B)(I:∀t∈ys,t<B)(z:v<B)(hv:(num B ns*v+1)%B=0)(K:num B ns%2=1)(Q:xs.length<=k)(U:num B ys<num B ns) :
  runP kdh (.fn ns (v:Int) ones nexts xs ys)=some (digs B (redc (num B ns) (64*k) (num B xs*num B ys))):=by
 refine kei (.next (s':=.p4 ns (v:Int) ones nexts xs ys (k:Int) (List.replicate (k+2) 0) (k:Int) ((0:Nat):Int)) ?_ (k3u hk F y G H I z hv K Q U k 0 (by omega) _ ?_ (by simp) ?_ ⟨0,?_⟩))
 ·show knm _ _ _ _ _ _=_;unfold knm;rw[F,show((k:Int)+2)=((k+2:Nat):Int)from by omega,kbe (by omega),kdt (by omega),qbv];rfl
 ·intro t V;rw[List.eq_of_mem_replicate V];decide
 ·have:num B (List.replicate (k+2) 0)=0:=by have:=kfq B [] (k+2);simpa[num]using this
  rw[this];omega
 ·have:num B (List.replicate (k+2) 0)=0:=by have:=kfq B [] (k+2);simpa[num]using this
  simp[this,num]
end
end Go.Ab
set_option maxRecDepth 10000
namespace Go.Ab
open IntKind (wrap)
open Go.Proofs Go.Num
theorem Bl.det{x m n:Nat}(a:Bl x m)(b:Bl x n):m=n:=Nat.le_antisymm (a.le b.1) (b.le a.1)
theorem kwk{a:Int}{h:AH}(c:0<=a/\a<18446744073709551616):go (.fn khk [.int .u64 a]) h=some (.i ((bl (Int.toNat a):Nat):Int),h):=by obtain⟨x,rfl⟩:∃x:Nat,a=(x:Int):=⟨a.toNat,by omega⟩;obtain⟨n,e,b⟩:=k2o (x:=x) (by omega) (h:=h);rw[e,Int.toNat_natCast,b.det (bl_Bl x)]
inductive kkl
 | fn (x1:List Nat)
 | no
abbrev kg3:=Int
noncomputable def kng(x1:List Nat):Option (kkl⊕kg3):=cond (!(rt x1)) (some (.inr 0)) (cond (decide ((List.length x1:Int)=0)) (some (.inr 0)) ((atI x1 (wrap .i64 ((List.length x1:Int)-1))).bind λy=>(need (0<=((y:Int))/\((y:Int))<18446744073709551616)).bind λz=>some (.inr (wrap .i64 ((wrap .i64 (64*(wrap .i64 ((List.length x1:Int)-1))))+(((bl (Int.toNat ((y:Int))):Nat):Int)))))))
noncomputable def ku0:kkl->Option (kkl⊕kg3)
 | .fn x1=>kng x1
 | .no=>none
@[reducible] def ksl(h0:AH)(r:kg3)(v:AV)(h':AH):Prop:=v=.i r/\Grow h0 h'
def kxp(r:kg3):kkl->Prop
 | .fn x1=>∀{h:AH}{a1:Sl},Nats h a1 x1->Runs (go (.fn khw [a1.v]) h) (ksl h r)
 | .no=>True
theorem kbqu{r:kg3}{o:kkl⊕kg3}{x1:List Nat}(e:kng x1=some o)(y:GoodS (kxp r) r o):kxp r (.fn x1):=by
 intro h a1 n1;rw[kbkg];unfold kng at e;rw[n1.len];refine qy (kcf n1) (qy (seen rfl) ?_);refine qbc (λF=>?_) (λF=>?_)
 ·replace e:=(condT F).symm.trans e;cases e;cases y;exact qx ⟨rfl,(qk _)⟩
 ·replace e:=(condF F).symm.trans e;refine qbc (λG=>?_) (λG=>?_)
  ·replace e:=(condT G).symm.trans e;cases e;cases y;exact qx ⟨rfl,(qk _)⟩
  ·replace e:=(condF G).symm.trans e;obtain⟨U,I,e⟩:=qbw.1 e;obtain⟨V,K,Q⟩:=n1.atI I;refine qy K (qy (rdc Q qcr) ?_);obtain⟨z,H,e⟩:=qbw.1 e;refine qy (kwk  z.down) (qy (seen qcr) ?_);cases e;cases y;exact qx ⟨rfl,(qk _)⟩
theorem k80{s:kkl}{r:kg3}(z:Iter ku0 s r):kxp r s:=qbf (λs o e y=>by
 cases s with
 | fn x1=>exact @kbqu _ _ x1 e y
 | no=>exact True.intro
 ) z
theorem k8w{h:AH}{a1:Sl}{x1:List Nat}(n1:Nats h a1 x1){r:kg3}(q:runP ku0 (.fn x1)=some r):Runs (go (.fn khw [a1.v]) h) (ksl h r):=k80 (ke5 q) n1
inductive kk6
 | fn (x1:List Nat) (a2:Int)
 | no
abbrev kg6:=Bool
noncomputable def kms(x1:List Nat)(a2:Int):Option (kk6⊕kg6):=cond ((rt x1)) (cond (decide (a2>=0)) (cond (decide ((wrap .i64 (Int.tdiv a2 64))<(List.length x1:Int))) ((atI x1 (wrap .i64 (Int.tdiv a2 64))).bind λy=>cond (decide ((Int.tmod a2 64)<0)) (none) (some (.inr (decide ((iand .u64 (ishr .u64 ((y:Int)) (Int.tmod a2 64)) 1)=1))))) (some (.inr false))) (some (.inr false))) (some (.inr false))
noncomputable def kwx:kk6->Option (kk6⊕kg6)
 | .fn x1 a2=>kms x1 a2
 | .no=>none
@[reducible] def ksn(h0:AH)(r:kg6)(v:AV)(h':AH):Prop:=v=.bool r/\Grow h0 h'
def kwo(r:kg6):kk6->Prop
 | .fn x1 a2=>∀{h:AH}{a1:Sl},Nats h a1 x1->Runs (go (.fn kj0 [a1.v,.i a2]) h) (ksn h r)
 | .no=>True
theorem kbhc{r:kg6}{o:kk6⊕kg6}{x1:List Nat}{a2:Int}(e:kms x1 a2=some o)(y:GoodS (kwo r) r o):kwo r (.fn x1 a2):=by
 intro h a1 n1;rw[kbqm];unfold kms at e;rw[n1.len];refine qy (kcf n1) (qy (seen rfl) ?_);refine qbc (λz=>?_) (λz=>?_)
 ·replace e:=(condT z).symm.trans e;refine qbc (λF=>?_) (λF=>?_)
  ·replace e:=(condT F).symm.trans e;refine qbc (λG=>?_) (λG=>?_)
   ·replace e:=(condT G).symm.trans e;obtain⟨U,I,e⟩:=qbw.1 e;obtain⟨V,K,Q⟩:=n1.atI I;refine qy K (qy (rdc Q qcr) ?_);refine qbc (λH=>?_) (λH=>?_)
    ·replace e:=(condT H).symm.trans e;cases e
    ·replace e:=(condF H).symm.trans e;cases e;cases y;exact qx ⟨rfl,(qk _)⟩
   ·replace e:=(condF G).symm.trans e;cases e;cases y;exact qx ⟨rfl,(qk _)⟩
  ·replace e:=(condF F).symm.trans e;cases e;cases y;exact qx ⟨rfl,(qk _)⟩
 ·replace e:=(condF z).symm.trans e;cases e;cases y;exact qx ⟨rfl,(qk _)⟩
theorem kbmh{s:kk6}{r:kg6}(z:Iter kwx s r):kwo r s:=qbf (λs o e y=>by
 cases s with
 | fn x1 a2=>exact @kbhc _ _ x1 a2 e y
 | no=>exact True.intro
 ) z
theorem kbms{h:AH}{a1:Sl}{x1:List Nat}{a2:Int}(n1:Nats h a1 x1){r:kg6}(q:runP kwx (.fn x1 a2)=some r):Runs (go (.fn kj0 [a1.v,.i a2]) h) (ksn h r):=kbmh (ke5 q) n1
end Go.Ab
set_option maxRecDepth 10000
namespace Go.Ab
open Go.Proofs Go.Num
def bitsN(xs:List Nat):Nat:=if rt xs=true then bl (num B xs)else 0
def bitN(xs:List Nat)(i:Int):Bool:=rt xs&&(decide (0<=i)&&(num B xs).testBit i.toNat)
theorem kw7{xs:List Nat}(l:∀x∈xs,x<B):∀i:Nat,num B xs/B^i=num B (xs.drop i)
 | 0=>by simp
 | i+1=>by
  rw[Nat.pow_succ,Nat.mul_comm,<- Nat.div_div_eq_div_mul,knk B xs]
  have h:xs.headD 0<B:=by
   cases xs with
   | nil=>decide
   | cons x xs=>exact l x (by simp)
  rw[Nat.add_mul_div_left _ _ (show 0<B by decide),Nat.div_eq_of_lt h,Nat.zero_add,kw7 (xs:=xs.tail) (λx y=>l x (List.mem_of_mem_tail y)) i];rw[<- List.drop_one,List.drop_drop,Nat.add_comm]
theorem B_pow2(i:Nat):B^i=2^(64*i):=by rw[show B=2^64 from rfl,<- Nat.pow_mul]
theorem bl_num{xs:List Nat}(l:∀x∈xs,x<B)(h:xs.length≠0)(h0:xs[xs.length-1]≠0):bl (num B xs)=64*(xs.length-1)+bl xs[xs.length-1]:=by
 have y:=kw7 l (xs.length-1);rw[qcj (by omega),show xs.length-1+1=xs.length from by omega,List.drop_length,B_pow2]at y;have e:num B xs/2^(64*(xs.length-1))=xs[xs.length-1]:=by rw[y];simp[num]
 refine(bl_Bl _).det (Bl.up (n:=bl xs[xs.length-1]) ?_ ?_)
 ·rw[e];exact bl_Bl _
 ·rw[e];omega
theorem bl_le{x m:Nat}(h:x<2^m):bl x<=m:=(bl_Bl x).le h
theorem kbki{xs:List Nat}(h:rt xs=true)(y:xs.length≠0):xs[xs.length-1]≠0:=by have t:=(rt_iff.1 h).2 (λe=>y (by rw[e];rfl));rwa[List.getLast_eq_getElem]at t
theorem kbjf{xs:List Nat}(l:∀x∈xs,x<B):runP ku0 (.fn xs)=some ((bitsN xs:Nat):Int):=by
 refine kei (.done ?_);show kng _=_;unfold kng bitsN;by_cases y:rt xs=true
 ·rw[y,if_pos rfl,show(!true)=false from rfl,cond_false];have F:=(rt_iff.1 y).1;by_cases z:xs.length=0
  ·rw[condT (by rw[qby];omega),List.length_eq_zero_iff.1 z];rfl
  ·have hb:=l xs[xs.length-1] (qb5 _);have G:xs[xs.length-1]<18446744073709551616:=hb;have H:=bl_le (x:=xs[xs.length-1]) (m:=64) hb;rw[condF (by rw[qbx];omega),show((xs.length:Int)-1)=((xs.length-1:Nat):Int)from by omega,kbe (by omega),kbv (by omega),qbv];have I:0<=((xs[xs.length-1]:Nat):Int)/\((xs[xs.length-1]:Nat):Int)<18446744073709551616:=by omega
   simp only[kp I,qbv];rw[Int.toNat_natCast,bl_num l z (kbki y z),show(64*((xs.length-1:Nat):Int))=((64*(xs.length-1):Nat):Int)from by omega,kbe (by omega),<- Int.natCast_add,kbe (by omega)]
 ·rw[if_neg y,show rt xs=false from by simpa using y];rfl
theorem kwa{h:AH}{s:Sl}{xs:List Nat}(n:Nats h s xs):Runs (go (.fn khw [s.v]) h) (ksl h (bitsN xs)):=k8w n (kbjf n.lt)
theorem kbcz{x:Nat}(h:0<x):bl x=bl (x/2)+1:=by
 by_cases h2:x/2=0
 ·have:x=1:=by omega
  subst this;decide
 ·have:=Bl.up (x:=x) (k:=1) (n:=bl (x/2)) (by rw[Nat.pow_one];exact bl_Bl _) (by rw[Nat.pow_one];omega);rw[(bl_Bl x).det this];omega
theorem k5z{x:Nat}(y:x<18446744073709551616):iand .u64 (x:Int) 1=((x%2:Nat):Int):=by unfold iand;rw[show IntKind.bits .u64=64 from rfl,wrapU];have z:BitVec.ofInt 64 (x:Int)=BitVec.ofNat 64 x:=rfl;have F:BitVec.ofInt 64 1=BitVec.ofNat 64 1:=rfl;rw[z,F,BitVec.toNat_and,BitVec.toNat_ofNat,BitVec.toNat_ofNat];rw[Nat.mod_eq_of_lt (show x<2^64 from y),Nat.mod_eq_of_lt (show 1<2^64 from by decide),Nat.and_one_is_mod];omega
theorem kbq9{xs:List Nat}(l:∀x∈xs,x<B){q r:Nat}(hq:q<xs.length)(z:r<64):(num B xs).testBit (64*q+r)=decide (xs[q]/2^r%2=1):=by
 rw[Nat.testBit_eq_decide_div_mod_eq,Nat.pow_add,<- Nat.div_div_eq_div_mul,<- B_pow2,kw7 l,qcj hq,kot];generalize num B (xs.drop (q+1))=Y;congr 2
 have e:B=2^r*(2^(63-r)*2):=by rw[<- Nat.pow_succ,<- Nat.pow_add,show r+(63-r).succ=64 from by omega]
 have y:xs[q]+B*Y=xs[q]+2^r*(2^(63-r)*2*Y):=by rw[<- Nat.mul_assoc,<- e]
 rw[y,Nat.add_mul_div_left _ _ (Nat.pow_pos (by decide)),show 2^(63-r)*2*Y=2*(2^(63-r)*Y)from by rw[Nat.mul_comm (2^(63-r)) 2,Nat.mul_assoc],Nat.add_mul_mod_self_left]
theorem k9l{xs:List Nat}(l:∀x∈xs,x<B){i:Nat}(hq:xs.length<=i/64):(num B xs).testBit i=false:=by refine Nat.testBit_lt_two_pow ?_;have h1:=num_lt B1 l;rw[B_pow2]at h1;have h2:2^(64*xs.length)<=2^i:=Nat.pow_le_pow_right (by decide) (by omega);omega
theorem tdiv64(n:Nat):Int.tdiv (n:Int) 64=((n/64:Nat):Int):=rfl
theorem tmod64(n:Nat):Int.tmod (n:Int) 64=((n%64:Nat):Int):=rfl
theorem kbib{xs:List Nat}{i:Int}(h:rt xs=false):bitN xs i=false:=by unfold bitN;rw[h];rfl
theorem kbpa{xs:List Nat}{i:Int}(h:i<0):bitN xs i=false:=by unfold bitN;rw[show decide (0<=i)=false from by rw[qbx];omega];cases rt xs<;>rfl
theorem kvg{xs:List Nat}{i:Nat}(h:rt xs=true):bitN xs (i:Int)=(num B xs).testBit i:=by unfold bitN;rw[h,show decide (0<=(i:Int))=true from by rw[qby];omega];rfl
theorem kbbp{xs:List Nat}(l:∀x∈xs,x<B){i:Int}(F:i<=9223372036854775807):runP kwx (.fn xs i)=some (bitN xs i):=by
 refine kei (.done ?_);show kms _ _=_;unfold kms;by_cases y:rt xs=true
 ·rw[y,cond_true];by_cases h0:i<0
  ·rw[condF (by rw[qbx];omega),kbpa h0]
  ·obtain⟨j,rfl⟩:∃j:Nat,i=(j:Int):=⟨i.toNat,by omega⟩;rw[condT (by rw[qby];omega),kvg y,tdiv64,tmod64,kbe (by omega)];by_cases hq:j/64<xs.length
   ·have hb:xs[j/64]<18446744073709551616:=l _ (qb5 _);have h2:xs[j/64]/2^(j%64)<18446744073709551616:=qbu (Nat.div_le_self _ _) hb;rw[condT (by rw[qby];omega),kbv hq,qbv,condF (by rw[qbx];omega),kb9,Nat.min_eq_left (by omega),k5z h2];have:=kbq9 l hq (Nat.mod_lt j (show 0<64 by decide));rw[Nat.div_add_mod]at this;rw[this];generalize xs[j/64]/2^(j%64)=z;congr 3;exact propext (by omega)
   ·rw[condF (by rw[qbx];omega),k9l l (by omega)]
 ·rw[show rt xs=false from by simpa using y,cond_false,kbib (by simpa using y)]
theorem kzw{h:AH}{s:Sl}{xs:List Nat}(n:Nats h s xs){i:Int}(y:i<=9223372036854775807):Runs (go (.fn kj0 [s.v,.i i]) h) (ksn h (bitN xs i)):=kbms n (kbbp n.lt y)
def belowF(xs ns:List Nat):Bool:=rt xs&&decide (cmpN xs ns<0)
theorem k7x{h:AH}{i p:Nat}{a y s2 s3:Sl}{z:Int}{xs ns:List Nat}(b:h.has i [y.v,.int .u64 z,s2.v,s3.v] kc3)(hp:h.has p [.p (.new i 0)] krg)(m:Nats h y ns)(n:Nats h a xs) :
  Runs (go (.fn ked [a.v,.p (.new p 0)]) h) λv h'=>v=.bool (!belowF xs ns)/\Grow h h':=by
 rw[kbl1];refine qy (kcf n) (qy (seen rfl) ?_);unfold belowF;refine qbc (λk=>?_) (λk=>?_)
 ·rw[show rt xs=false from by simpa using k];exact qx ⟨rfl,qk _⟩
 ·rw[show rt xs=true from by simpa using k,Bool.true_and];refine qy rfl (qy (AH.has.rd0 hp rfl rfl) (qy rfl (qy (qbe b 0 rfl qcq) ?_)));obtain⟨h',e,g⟩:=keg n m;refine qy e (qy (seen qcr) ?_);refine qx ⟨?_,g⟩;congr 1;rw[Bool.eq_iff_iff];simp
theorem k7l{h:AH}{i j:Nat}{a K s2 s3:Sl}{z:Int}{xs ns ones nexts:List Nat}{e:TypeId}(b:h.has i [K.v,.int .u64 z,s2.v,s3.v] kc3)(m:Nats h K ns)(U:Nats h s2 ones)(V:Nats h s3 nexts)(c:h.has j [a.v] e)(n:Nats h a xs) :
  Runs (go (.fn kue [.p (.new i 0),(⟨some (.new j 0),1,.is 1⟩:Sl).v]) h) λv h'=>v=.bool (belowF xs ns)/\Grow h h':=by
 rw[kbol];refine qz λI b1 G=>?_
 have key:Runs (go (.fn kcx [(⟨some (.new j 0),1,.is 1⟩:Sl).v,.func (.func ked) [] [.p (.new h.blks.size 0)]]) I) λv h'=>v=.bool (!belowF xs ns)/\Grow I h':=by
  rw[kbey]
  have y:Runs (go (.fn kbi [(⟨some (.new j 0),1,.is 1⟩:Sl).v,.func (.func ked) [] [.p (.new h.blks.size 0)]]) I) λv h'=>v=.i (if belowF xs ns=true then -1 else 0)/\Grow I h':=by
   rw[kbkw,k48];refine qba rfl ?_;refine qy (show idx (some (Ref.new j 0)) 1 0 1=some ((Ref.new j 0).add 0)from rfl) (qy (qbe (G.has c) 0 rfl qcq) ?_);obtain⟨_,Q,H,rfl,F⟩:=k7x (G.has b) b1 (m.grow G) (n.grow G);refine qy H (qy (seen rfl) ?_);cases hb:belowF xs ns
   ·refine qba rfl ?_;exact qx ⟨rfl,F⟩
   ·refine qbb rfl ?_;rw[k48];refine qbb (show decide (IntKind.wrap .i64 (0+1)<((1:Nat):Int))=false from by decide) ?_;exact qx ⟨rfl,F⟩
  obtain⟨_,Q,H,rfl,F⟩:=y;refine qy H (qy (seen qcr) ?_);refine qx ⟨?_,F⟩;cases belowF xs ns<;>rfl
 obtain⟨_,Q,H,rfl,F⟩:=key;refine qy H (qy (seen rfl) ?_);refine qx ⟨?_,G.trans F⟩;cases belowF xs ns<;>rfl
end Go.Ab
set_option maxRecDepth 10000
namespace Go.Ab
open IntKind (wrap)
open Go.Proofs Go.Num
inductive kdw
 | fn (x1c0:List Nat) (z1c1:Int) (x1c2:List Nat) (x1c3:List Nat) (x2:List Nat) (x3:List Nat)
 | p7 (x1c0:List Nat) (z1c1:Int) (x1c2:List Nat) (x1c3:List Nat) (x2:List Nat) (x4:List (List Nat)) (x5:List Nat) (a6:Int)
 | p12 (x1:List Nat) (x2c0:List Nat) (z2c1:Int) (x2c2:List Nat) (x2c3:List Nat) (x3:List (List Nat)) (x4:List Nat) (a5:Int)
 | p16 (x1:List Nat) (x2c0:List Nat) (z2c1:Int) (x2c2:List Nat) (x2c3:List Nat) (x3:List (List Nat)) (x4:List Nat) (a5:Int) (a6:Int) (a7:Int)
abbrev kcl:=List Nat×Int
noncomputable def kmq(x1c0:List Nat)(z1c1:Int)(x1c2 x1c3 x2 x3:List Nat):Option (kdw⊕kcl):=cond (!((belowF x2 x1c0))) (some (.inr ([],1))) (cond (!(rt x3)) (some (.inr ([],1))) (cond (decide ((List.length x3:Int)>8)) (some (.inr ([],1))) ((runP kdh (.fn x1c0 z1c1 x1c2 x1c3 x2 x1c3)).bind λp17=>some (.inl (.p7 x1c0 z1c1 x1c2 x1c3 x3 [x1c2] p17 0)))))
noncomputable def kiz(x1c0:List Nat)(z1c1:Int)(x1c2 x1c3 x2:List Nat)(x4:List (List Nat))(x5:List Nat)(a6:Int):Option (kdw⊕kcl):=cond (decide (a6<15)) ((atX x4 (wrap .i64 ((List.length x4:Int)-1))).bind λy=>(runP kdh (.fn x1c0 z1c1 x1c2 x1c3 y x5)).bind λp9=>(need (growOk Pg (List.length x4+1) kj 1=true)).bind λz=>some (.inl (.p7 x1c0 z1c1 x1c2 x1c3 x2 (x4++[p9]) x5 (wrap .i64 (a6+1))))) (some (.inl (.p12 x2 x1c0 z1c1 x1c2 x1c3 x4 x1c2 (wrap .i64 (Int.tdiv (wrap .i64 ((wrap .i64 ((((bitsN x2:Nat):Int))+4))-1)) 4)))))
noncomputable def kin(x1 x2c0:List Nat)(z2c1:Int)(x2c2 x2c3:List Nat)(x3:List (List Nat))(x4:List Nat)(a5:Int):Option (kdw⊕kcl):=cond (decide (a5>0)) (some (.inl (.p16 x1 x2c0 z2c1 x2c2 x2c3 x3 x4 a5 0 0))) ((u64P 1).bind λy=>(runP kdh (.fn x2c0 z2c1 x2c2 x2c3 x4 [y])).bind λp9=>some (.inr (p9,0)))
noncomputable def ki6(x1 x2c0:List Nat)(z2c1:Int)(x2c2 x2c3:List Nat)(x3:List (List Nat))(x4:List Nat)(a5 a6 a7:Int):Option (kdw⊕kcl):=cond (decide (a7<4)) ((runP kdh (.fn x2c0 z2c1 x2c2 x2c3 x4 x4)).bind λp9=>(need (((wrap .i64 ((wrap .i64 ((wrap .i64 (a5*4))-1))-a7)):Int)<=9223372036854775807)).bind λy=>cond (((bitN x1 (wrap .i64 ((wrap .i64 ((wrap .i64 (a5*4))-1))-a7))))) (cond (decide ((wrap .i64 (3-a7))<0)) (none) (some (.inl (.p16 x1 x2c0 z2c1 x2c2 x2c3 x3 p9 a5 (ior .i64 a6 (ishl .i64 1 (wrap .i64 (3-a7)))) (wrap .i64 (a7+1)))))) (some (.inl (.p16 x1 x2c0 z2c1 x2c2 x2c3 x3 p9 a5 a6 (wrap .i64 (a7+1)))))) ((atX x3 a6).bind λz=>(runP kdh (.fn x2c0 z2c1 x2c2 x2c3 x4 z)).bind λp10=>some (.inl (.p12 x1 x2c0 z2c1 x2c2 x2c3 x3 p10 (wrap .i64 (a5-1)))))
noncomputable def ki2:kdw->Option (kdw⊕kcl)
 | .fn x1c0 z1c1 x1c2 x1c3 x2 x3=>kmq x1c0 z1c1 x1c2 x1c3 x2 x3
 | .p7 x1c0 z1c1 x1c2 x1c3 x2 x4 x5 a6=>kiz x1c0 z1c1 x1c2 x1c3 x2 x4 x5 a6
 | .p12 x1 x2c0 z2c1 x2c2 x2c3 x3 x4 a5=>kin x1 x2c0 z2c1 x2c2 x2c3 x3 x4 a5
 | .p16 x1 x2c0 z2c1 x2c2 x2c3 x3 x4 a5 a6 a7=>ki6 x1 x2c0 z2c1 x2c2 x2c3 x3 x4 a5 a6 a7
@[reducible] def kld(h0:AH)(r:kcl)(v:AV)(h':AH):Prop:=∃s1:Sl,v=.tup [s1.v,.i r.2]/\Nats h' s1 r.1/\Grow h0 h'/\Own h0 s1
def kgo(r:kcl):kdw->Prop
 | .fn x1c0 z1c1 x1c2 x1c3 x2 x3=>∀{h:AH}{y:Sl}{z:Sl}{F:Sl}{a2:Sl}{a3:Sl}{K:Nat},h.has K [y.v,.int .u64 z1c1,z.v,F.v] kc3->Nats h y x1c0->Nats h z x1c2->Nats h F x1c3->Nats h a2 x2->Nats h a3 x3->Runs (go (.fn kce [.p (.new K 0),a2.v,a3.v]) h) (kld h r)
 | .p7 x1c0 z1c1 x1c2 x1c3 x2 x4 x5 a6=>∀{h0 h:AH}{y:Sl}{z:Sl}{F:Sl}{a2:Sl}{a4:Sl}{a5:Sl}{i4:Option Nat}{K:Nat},Grow h0 h->h0.has K [y.v,.int .u64 z1c1,z.v,F.v] kc3->Nats h0 y x1c0->Nats h0 z x1c2->Nats h0 F x1c3->Nats h0 a2 x2->GO El.nats kj h a4 i4 x4->Nats h a5 x5->LeO h0.blks.size i4->AvO a5 x5 i4->Runs (go (.pt kce kp9 [(0,.p (.new K 0)),(2,a2.v),(8,.func (.func kbn) [.p (.new K 0)] []),(9,a4.v),(10,a5.v),(44,.i a6)]) h) (kld h0 r)
 | .p12 x1 x2c0 z2c1 x2c2 x2c3 x3 x4 a5=>∀{h0 h:AH}{a1:Sl}{G:Sl}{H:Sl}{I:Sl}{a3:Sl}{a4:Sl}{i2:Nat},Grow h0 h->Nats h0 a1 x1->h0.has i2 [G.v,.int .u64 z2c1,H.v,I.v] kc3->Nats h0 G x2c0->Nats h0 H x2c2->Nats h0 I x2c3->Seq El.nats h a3 x3->Nats h a4 x4->Runs (go (.pt kce koz [(2,a1.v),(8,.func (.func kbn) [.p (.new i2 0)] []),(9,a3.v),(11,a4.v),(12,.i a5)]) h) (kld h0 r)
 | .p16 x1 x2c0 z2c1 x2c2 x2c3 x3 x4 a5 a6 a7=>∀{h0 h:AH}{a1:Sl}{G:Sl}{H:Sl}{I:Sl}{a3:Sl}{a4:Sl}{i2:Nat},Grow h0 h->Nats h0 a1 x1->h0.has i2 [G.v,.int .u64 z2c1,H.v,I.v] kc3->Nats h0 G x2c0->Nats h0 H x2c2->Nats h0 I x2c3->Seq El.nats h a3 x3->Nats h a4 x4->Runs (go (.pt kce knv [(2,a1.v),(8,.func (.func kbn) [.p (.new i2 0)] []),(9,a3.v),(11,a4.v),(12,.i a5),(13,.i a6),(72,.i a7)]) h) (kld h0 r)
theorem kbqi{r:kcl}{o:kdw⊕kcl}{x1c0:List Nat}{z1c1:Int}{x1c2 x1c3 x2 x3:List Nat}(e:kmq x1c0 z1c1 x1c2 x1c3 x2 x3=some o)(F:GoodS (kgo r) r o):kgo r (.fn x1c0 z1c1 x1c2 x1c3 x2 x3):=by
 intro h ai aj ak a2 a3 i1 b1 K G Q n2 n3;rw[kbo3];unfold kmq at e;rw[n3.len];refine qz λH4 b4 H=>?_;obtain⟨_,H5,e5,rfl,W⟩:=k7l (H.has b1) (K.grow H) (G.grow H) (Q.grow H) b4 (n2.grow H);refine qy e5 (qy (seen rfl) ?_);refine qbc (λk6=>?_) (λk6=>?_)
 ·replace e:=(condT k6).symm.trans e;cases e;cases F;exact qx ⟨(⟨none,0,.is 0⟩:Sl),rfl,(qu _),(H.trans W),(qr _)⟩
 ·replace e:=(condF k6).symm.trans e;refine qy (kcf (n3.grow (H.trans W))) (qy (seen rfl) ?_);refine qbc (λk8=>?_) (λk8=>?_)
  ·replace e:=(condT k8).symm.trans e;cases e;cases F;exact qx ⟨(⟨none,0,.is 0⟩:Sl),rfl,(qu _),(H.trans W),(qr _)⟩
  ·replace e:=(condF k8).symm.trans e;refine qbc (λk9=>?_) (λk9=>?_)
   ·replace e:=(condT k9).symm.trans e;cases e;cases F;exact qx ⟨(⟨none,0,.is 0⟩:Sl),rfl,(qu _),(H.trans W),(qr _)⟩
   ·replace e:=(condF k9).symm.trans e;refine qy rfl (qy (qbe ((H.trans W).has b1) 2 rfl qcq) ?_);refine qz λal ab ac=>?_;refine qy rfl ?_;have I:=((H.trans W).trans ac);have U:=I.has b1;refine qy (qbe U 3 rfl qcq) ?_;have V:=K.grow I;have y:=G.grow I;have z:=Q.grow I;have Z:=n2.grow I;obtain⟨p17,ad,e⟩:=qbw.1 e;obtain⟨_,am,ae,an,rfl,af,aa,ag⟩:=km1 U V y z Z z ad;refine qy ae (qy (seen qcq) ?_);cases e;have ah:=(I.trans aa);exact F ah b1 K G Q n3 (GO.one (aa.has ab) ⟨_,rfl,(y.grow aa)⟩ (AvE.nats (i:=some (H5.blks.size)) (qbh G (qbs ((H.trans W)).size (qbr _))))) af (qbs ((H.trans W)).size (qbr _)) (qbi ag (ab).lt)
theorem kbkv{r:kcl}{o:kdw⊕kcl}{x1c0:List Nat}{z1c1:Int}{x1c2 x1c3 x2:List Nat}{x4:List (List Nat)}{x5:List Nat}{a6:Int}(e:kiz x1c0 z1c1 x1c2 x1c3 x2 x4 x5 a6=some o)(K:GoodS (kgo r) r o):kgo r (.p7 x1c0 z1c1 x1c2 x1c3 x2 x4 x5 a6):=by
 intro h0 h ai aj ak a2 a4 a5 i4 i1 H b1 F y G n2 Q n5 ac U;rw[kba3];unfold kiz at e;rw[(Q).seq.len];refine qbc (λk7=>?_) (λk7=>?_)
 ·replace e:=(condT k7).symm.trans e;obtain⟨y8,q8,e⟩:=qbw.1 e;obtain⟨r8,al,j8,E8,l8⟩:=((Q).seq).at q8;obtain⟨s8,rfl,n8⟩:=E8;refine qy j8 (qy (l8.rd0 (qk _) rfl qcq) ?_);obtain⟨p9,q9,e⟩:=qbw.1 e;obtain⟨_,H9,e9,s9,rfl,n9,W,o9⟩:=km1 (H.has b1) (F.grow H) (y.grow H) (G.grow H) n8 n5 q9;refine qy e9 (qy (seen qcq) ?_);refine qz λam Z z=>?_;refine qy (kdk Z (by rw[kj4];rfl)) ?_;obtain⟨ad,an,e⟩:=qbw.1 e;obtain⟨ao,ap,ae,af,I⟩:=GO.push (E:=El.nats) (Q.grow (W.trans z)) ⟨_,rfl,(n9.grow z)⟩ (AvE.nats (AvO.of_own o9 (Q).lt)) ad.down;refine qy ae ?_;have V:=(n5.grow (W.trans z)).updo U I;have ag:=(n9.grow z).updo (AvO.of_own o9 (Q).lt) I;have ab:=AH.has.updo Z (NeO.of_lt ((Q.grow W)).lt (qbr _)) I;refine qy qcq ?_;have aa:=((H.trans W).trans z);cases e;have ah:=(aa.updo ac I);exact K ah b1 F y G n2 af V (LeO.trans (aa).size (qbr _)) (AvO.of_base n5 (LeO.trans ((W.trans z)).size (qbr _)))
 ·replace e:=(condF k7).symm.trans e;refine qy rfl (qy (qbe (H.has b1) 2 rfl qcq) ?_);obtain⟨_,H8,e8,rfl,g8⟩:=kwa (n2.grow H);refine qy e8 (qy (seen qcr) ?_);cases e;exact K (H.trans g8) n2 b1 F y G (((Q.grow g8)).seq) (y.grow (H.trans g8))
theorem kbg7{r:kcl}{o:kdw⊕kcl}{x1 x2c0:List Nat}{z2c1:Int}{x2c2 x2c3:List Nat}{x3:List (List Nat)}{x4:List Nat}{a5:Int}(e:kin x1 x2c0 z2c1 x2c2 x2c3 x3 x4 a5=some o)(y:GoodS (kgo r) r o):kgo r (.p12 x1 x2c0 z2c1 x2c2 x2c3 x3 x4 a5):=by
 intro h0 h a1 U V W a3 a4 i2 H n1 b2 z F G n3 Z;rw[kbh4];unfold kin at e;refine qbc (λK=>?_) (λK=>?_)
 ·replace e:=(condT K).symm.trans e;cases e;exact y H n1 b2 z F G n3 Z
 ·replace e:=(condF K).symm.trans e;refine qz λH7 b7 I=>?_;obtain⟨w8,z8,e⟩:=qbw.1 e;obtain⟨p9,q9,e⟩:=qbw.1 e;obtain⟨_,H9,e9,s9,rfl,n9,g9,o9⟩:=km1 ((H.trans I).has b2) (z.grow (H.trans I)) (F.grow (H.trans I)) (G.grow (H.trans I)) (Z.grow I) (qbk b7 z8) q9;refine qy e9 (qy (seen qcq) ?_);cases e;cases y;have Q:=((H.trans I).trans g9);exact qx ⟨s9,rfl,n9,Q,(o9.of_le (H.trans I))⟩
theorem kbdg{r:kcl}{o:kdw⊕kcl}{x1 x2c0:List Nat}{z2c1:Int}{x2c2 x2c3:List Nat}{x3:List (List Nat)}{x4:List Nat}{a5 a6 a7:Int}(e:ki6 x1 x2c0 z2c1 x2c2 x2c3 x3 x4 a5 a6 a7=some o)(I:GoodS (kgo r) r o):kgo r (.p16 x1 x2c0 z2c1 x2c2 x2c3 x3 x4 a5 a6 a7):=by
 intro h0 h a1 ag ah ai a3 a4 i2 H n1 b2 z F G W n4;rw[kbb4];unfold ki6 at e;rw[W.len];refine qbc (λk8=>?_) (λk8=>?_)
 ·replace e:=(condT k8).symm.trans e;obtain⟨p9,q9,e⟩:=qbw.1 e;obtain⟨_,H9,e9,s9,rfl,n9,Z,o9⟩:=km1 (H.has b2) (z.grow H) (F.grow H) (G.grow H) n4 n4 q9;refine qy e9 (qy (seen qcq) ?_);obtain⟨K,aa,e⟩:=qbw.1 e;obtain⟨_,ab,Q,rfl,y⟩:=kzw (n1.grow (H.trans Z))  K.down;refine qy Q (qy (seen rfl) ?_);refine qbc (λU=>?_) (λU=>?_)
  ·replace e:=(condT U).symm.trans e;refine qbc (λV=>?_) (λV=>?_)
   ·replace e:=(condT V).symm.trans e;cases e
   ·replace e:=(condF V).symm.trans e;cases e;have ac:=((H.trans Z).trans y);exact I ac n1 b2 z F G (W.grow (Z.trans y)) (n9.grow y)
  ·replace e:=(condF U).symm.trans e;cases e;have ad:=((H.trans Z).trans y);exact I ad n1 b2 z F G (W.grow (Z.trans y)) (n9.grow y)
 ·replace e:=(condF k8).symm.trans e;obtain⟨y9,q9,e⟩:=qbw.1 e;obtain⟨r9,aj,j9,E9,l9⟩:=(W).at q9;obtain⟨s9,rfl,n9⟩:=E9;refine qy j9 (qy (l9.rd0 (qk _) rfl qcq) ?_);obtain⟨p10,ae,e⟩:=qbw.1 e;obtain⟨_,ab,Q,ak,rfl,af,y,al⟩:=km1 (H.has b2) (z.grow H) (F.grow H) (G.grow H) n4 n9 ae;refine qy Q (qy (seen qcq) ?_);cases e;exact I (H.trans y) n1 b2 z F G (W.grow y) af
theorem kbbg{s:kdw}{r:kcl}(z:Iter ki2 s r):kgo r s:=qbf (λs o e y=>by
 cases s with
 | fn x1c0 z1c1 x1c2 x1c3 x2 x3=>exact @kbqi _ _ x1c0 z1c1 x1c2 x1c3 x2 x3 e y
 | p7 x1c0 z1c1 x1c2 x1c3 x2 x4 x5 a6=>exact @kbkv _ _ x1c0 z1c1 x1c2 x1c3 x2 x4 x5 a6 e y
 | p12 x1 x2c0 z2c1 x2c2 x2c3 x3 x4 a5=>exact @kbg7 _ _ x1 x2c0 z2c1 x2c2 x2c3 x3 x4 a5 e y
 | p16 x1 x2c0 z2c1 x2c2 x2c3 x3 x4 a5 a6 a7=>exact @kbdg _ _ x1 x2c0 z2c1 x2c2 x2c3 x3 x4 a5 a6 a7 e y
 ) z
theorem kbhn{h:AH}{y z F a2 a3:Sl}{K:Nat}{x1c0:List Nat}{z1c1:Int}{x1c2 x1c3 x2 x3:List Nat}(b1:h.has K [y.v,.int .u64 z1c1,z.v,F.v] kc3)(G:Nats h y x1c0)(H:Nats h z x1c2)(I:Nats h F x1c3)(n2:Nats h a2 x2)(Q:Nats h a3 x3){r:kcl}(q:runP ki2 (.fn x1c0 z1c1 x1c2 x1c3 x2 x3)=some r):Runs (go (.fn kce [.p (.new K 0),a2.v,a3.v]) h) (kld h r):=kbbg (ke5 q) b1 G H I n2 Q
end Go.Ab
