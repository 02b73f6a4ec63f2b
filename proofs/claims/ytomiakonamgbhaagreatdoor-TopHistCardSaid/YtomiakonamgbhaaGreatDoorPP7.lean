/- Words and laws that the last text joins. -/
import Derived.Test.YtomiakonamgbhaaGreatDoorPS52
import Derived.Test.YtomiakonamgbhaaGreatDoorPS33
import Derived.Test.YtomiakonamgbhaaGreatDoorPU1
set_option linter.unusedVariables false
set_option linter.unusedSimpArgs false
set_option linter.unusedSectionVars false
set_option maxRecDepth 10000
namespace Go.Ab
open IntKind (wrap)
open Go.Proofs Go.Num
inductive kdm
 | fn (x1c0:List Nat) (z1c1:Int) (x1c2:List Nat) (x1c3:List Nat) (x2:List Nat) (x3:List Nat)
 | p7 (x1c0:List Nat) (z1c1:Int) (x1c2:List Nat) (x1c3:List Nat) (x2:List Nat) (x4:List (List Nat)) (x5:List Nat) (a6:Int)
 | p12 (x1:List Nat) (x2c0:List Nat) (z2c1:Int) (x2c2:List Nat) (x2c3:List Nat) (x3:List (List Nat)) (x4:List Nat) (a5:Int)
 | p16 (x1:List Nat) (x2c0:List Nat) (z2c1:Int) (x2c2:List Nat) (x2c3:List Nat) (x3:List (List Nat)) (x4:List Nat) (a5:Int) (a6:Int) (a7:Int)
abbrev kcm:=List Nat×Int
noncomputable def kk9(x1c0:List Nat)(z1c1:Int)(x1c2 x1c3 x2 x3:List Nat):Option (kdm⊕kcm):=cond (!((belowF x2 x1c0))) (some (.inr ([],1))) (cond (!(rt x3)) (some (.inr ([],1))) (cond (decide ((List.length x3:Int)>8)) (some (.inr ([],1))) ((runP kdi (.fn x1c0 z1c1 x1c2 x1c3 x2 x1c3)).bind λp17=>some (.inl (.p7 x1c0 z1c1 x1c2 x1c3 x3 [x1c2] p17 0)))))
noncomputable def ki0(x1c0:List Nat)(z1c1:Int)(x1c2 x1c3 x2:List Nat)(x4:List (List Nat))(x5:List Nat)(a6:Int):Option (kdm⊕kcm):=cond (decide (a6<15)) ((atX x4 (wrap .i64 ((List.length x4:Int)-1))).bind λy=>(runP kdi (.fn x1c0 z1c1 x1c2 x1c3 y x5)).bind λp9=>(need (growOk Pg (List.length x4+1) kr 1=true)).bind λC=>some (.inl (.p7 x1c0 z1c1 x1c2 x1c3 x2 (x4++[p9]) x5 (wrap .i64 (a6+1))))) (some (.inl (.p12 x2 x1c0 z1c1 x1c2 x1c3 x4 x1c2 (wrap .i64 (Int.tdiv (wrap .i64 ((wrap .i64 ((((bitsN x2:Nat):Int))+4))-1)) 4)))))
noncomputable def kim(x1 x2c0:List Nat)(z2c1:Int)(x2c2 x2c3:List Nat)(x3:List (List Nat))(x4:List Nat)(a5:Int):Option (kdm⊕kcm):=cond (decide (a5>0)) (some (.inl (.p16 x1 x2c0 z2c1 x2c2 x2c3 x3 x4 a5 0 0))) ((u64P 1).bind λy=>(runP kdi (.fn x2c0 z2c1 x2c2 x2c3 x4 [y])).bind λp9=>some (.inr (p9,0)))
noncomputable def khh(x1 x2c0:List Nat)(z2c1:Int)(x2c2 x2c3:List Nat)(x3:List (List Nat))(x4:List Nat)(a5 a6 a7:Int):Option (kdm⊕kcm):=cond (decide (a7<4)) ((runP kdi (.fn x2c0 z2c1 x2c2 x2c3 x4 x4)).bind λp9=>(need (((wrap .i64 ((wrap .i64 ((wrap .i64 (a5*4))-1))-a7)):Int)<=9223372036854775807)).bind λy=>cond (((bitN x1 (wrap .i64 ((wrap .i64 ((wrap .i64 (a5*4))-1))-a7))))) (cond (decide ((wrap .i64 (3-a7))<0)) (none) (some (.inl (.p16 x1 x2c0 z2c1 x2c2 x2c3 x3 p9 a5 (ior .i64 a6 (ishl .i64 1 (wrap .i64 (3-a7)))) (wrap .i64 (a7+1)))))) (some (.inl (.p16 x1 x2c0 z2c1 x2c2 x2c3 x3 p9 a5 a6 (wrap .i64 (a7+1)))))) ((atX x3 a6).bind λC=>(runP kdi (.fn x2c0 z2c1 x2c2 x2c3 x4 C)).bind λp10=>some (.inl (.p12 x1 x2c0 z2c1 x2c2 x2c3 x3 p10 (wrap .i64 (a5-1)))))
noncomputable def kiq:kdm->Option (kdm⊕kcm)
 | .fn x1c0 z1c1 x1c2 x1c3 x2 x3=>kk9 x1c0 z1c1 x1c2 x1c3 x2 x3
 | .p7 x1c0 z1c1 x1c2 x1c3 x2 x4 x5 a6=>ki0 x1c0 z1c1 x1c2 x1c3 x2 x4 x5 a6
 | .p12 x1 x2c0 z2c1 x2c2 x2c3 x3 x4 a5=>kim x1 x2c0 z2c1 x2c2 x2c3 x3 x4 a5
 | .p16 x1 x2c0 z2c1 x2c2 x2c3 x3 x4 a5 a6 a7=>khh x1 x2c0 z2c1 x2c2 x2c3 x3 x4 a5 a6 a7
@[reducible] def kms(h0:AH)(r:kcm)(v:AV)(h':AH):Prop:=∃s1:Sl,v=.tup [s1.v,.i r.2]/\Nats h' s1 r.1/\Grow h0 h'/\Own h0 s1
def kf7(r:kcm):kdm->Prop
 | .fn x1c0 z1c1 x1c2 x1c3 x2 x3=>∀{h:AH}{y:Sl}{C:Sl}{F:Sl}{a2:Sl}{a3:Sl}{Q:Nat},h.has Q [y.v,.int .u64 z1c1,C.v,F.v] kcu->Nats h y x1c0->Nats h C x1c2->Nats h F x1c3->Nats h a2 x2->Nats h a3 x3->Runs (go (.fn kca [.p (.new Q 0),a2.v,a3.v]) h) (kms h r)
 | .p7 x1c0 z1c1 x1c2 x1c3 x2 x4 x5 a6=>∀{h0 h:AH}{y:Sl}{C:Sl}{F:Sl}{a2:Sl}{a4:Sl}{a5:Sl}{i4:Option Nat}{Q:Nat},Grow h0 h->h0.has Q [y.v,.int .u64 z1c1,C.v,F.v] kcu->Nats h0 y x1c0->Nats h0 C x1c2->Nats h0 F x1c3->Nats h0 a2 x2->GO El.nats kr h a4 i4 x4->Nats h a5 x5->LeO h0.blks.size i4->AvO a5 x5 i4->Runs (go (.pt kca kpd [(0,.p (.new Q 0)),(2,a2.v),(8,.func (.func kbn) [.p (.new Q 0)] []),(9,a4.v),(10,a5.v),(44,.i a6)]) h) (kms h0 r)
 | .p12 x1 x2c0 z2c1 x2c2 x2c3 x3 x4 a5=>∀{h0 h:AH}{a1:Sl}{H:Sl}{I:Sl}{K:Sl}{a3:Sl}{a4:Sl}{i2:Nat},Grow h0 h->Nats h0 a1 x1->h0.has i2 [H.v,.int .u64 z2c1,I.v,K.v] kcu->Nats h0 H x2c0->Nats h0 I x2c2->Nats h0 K x2c3->Seq El.nats h a3 x3->Nats h a4 x4->Runs (go (.pt kca kqe [(2,a1.v),(8,.func (.func kbn) [.p (.new i2 0)] []),(9,a3.v),(11,a4.v),(12,.i a5)]) h) (kms h0 r)
 | .p16 x1 x2c0 z2c1 x2c2 x2c3 x3 x4 a5 a6 a7=>∀{h0 h:AH}{a1:Sl}{H:Sl}{I:Sl}{K:Sl}{a3:Sl}{a4:Sl}{i2:Nat},Grow h0 h->Nats h0 a1 x1->h0.has i2 [H.v,.int .u64 z2c1,I.v,K.v] kcu->Nats h0 H x2c0->Nats h0 I x2c2->Nats h0 K x2c3->Seq El.nats h a3 x3->Nats h a4 x4->Runs (go (.pt kca kkt [(2,a1.v),(8,.func (.func kbn) [.p (.new i2 0)] []),(9,a3.v),(11,a4.v),(12,.i a5),(13,.i a6),(72,.i a7)]) h) (kms h0 r)
theorem k57{r:kcm}{o:kdm⊕kcm}{x1c0:List Nat}{z1c1:Int}{x1c2 x1c3 x2 x3:List Nat}(e:kk9 x1c0 z1c1 x1c2 x1c3 x2 x3=some o)(F:GoodS (kf7 r) r o):kf7 r (.fn x1c0 z1c1 x1c2 x1c3 x2 x3):=by
 intro h ak al am a2 a3 i1 b1 Q H U n2 n3;rw[kbau];unfold kk9 at e;rw[n3.len];refine qx λH4 b4 I=>?_;obtain⟨_,H5,e5,rfl,Z⟩:=kbev (I.has b1) (Q.grow I) (H.grow I) (U.grow I) b4 (n2.grow I);refine qw e5 (qw (seen rfl) ?_);refine qba (λk6=>?_) (λk6=>?_)
 ·replace e:=(condT k6).symm.trans e;cases e;cases F;exact qu ⟨(⟨none,0,.is 0⟩:Sl),rfl,(qq _),(I.trans Z),(qp _)⟩
 ·replace e:=(condF k6).symm.trans e;refine qw (kbt (n3.grow (I.trans Z))) (qw (seen rfl) ?_);refine qba (λk8=>?_) (λk8=>?_)
  ·replace e:=(condT k8).symm.trans e;cases e;cases F;exact qu ⟨(⟨none,0,.is 0⟩:Sl),rfl,(qq _),(I.trans Z),(qp _)⟩
  ·replace e:=(condF k8).symm.trans e;refine qba (λk9=>?_) (λk9=>?_)
   ·replace e:=(condT k9).symm.trans e;cases e;cases F;exact qu ⟨(⟨none,0,.is 0⟩:Sl),rfl,(qq _),(I.trans Z),(qp _)⟩
   ·replace e:=(condF k9).symm.trans e;refine qw rfl (qw (qbc ((I.trans Z).has b1) 2 rfl qck) ?_);refine qx λan ad ae=>?_;refine qw rfl ?_;have K:=((I.trans Z).trans ae);have V:=K.has b1;refine qw (qbc V 3 rfl qck) ?_;have W:=Q.grow K;have y:=H.grow K;have C:=U.grow K;have aa:=n2.grow K;obtain⟨p17,af,e⟩:=qbs.1 e;obtain⟨_,ap,ag,aq,rfl,ah,ac,ai⟩:=kkz V W y C aa C af;refine qw ag (qw (seen qck) ?_);cases e;have aj:=(K.trans ac);exact F aj b1 Q H U n3 (GO.one (ac.has ad) ⟨_,rfl,(y.grow ac)⟩ (AvE.nats (i:=some (H5.blks.size)) (qbg H (qbo ((I.trans Z)).size (qbn _))))) ah (qbo ((I.trans Z)).size (qbn _)) (qbh ai (ad).lt)
theorem k7v{r:kcm}{o:kdm⊕kcm}{x1c0:List Nat}{z1c1:Int}{x1c2 x1c3 x2:List Nat}{x4:List (List Nat)}{x5:List Nat}{a6:Int}(e:ki0 x1c0 z1c1 x1c2 x1c3 x2 x4 x5 a6=some o)(Q:GoodS (kf7 r) r o):kf7 r (.p7 x1c0 z1c1 x1c2 x1c3 x2 x4 x5 a6):=by
 intro h0 h ak al am a2 a4 a5 i4 i1 I b1 F y H n2 U n5 ae V;rw[kbkz];unfold ki0 at e;rw[(U).seq.len];refine qba (λk7=>?_) (λk7=>?_)
 ·replace e:=(condT k7).symm.trans e;obtain⟨y8,q8,e⟩:=qbs.1 e;obtain⟨r8,an,j8,E8,l8⟩:=((U).seq).at q8;obtain⟨s8,rfl,n8⟩:=E8;refine qw j8 (qw (l8.rd0 (qk _) rfl qck) ?_);obtain⟨p9,q9,e⟩:=qbs.1 e;obtain⟨_,H9,e9,s9,rfl,n9,Z,o9⟩:=kkz (I.has b1) (F.grow I) (y.grow I) (H.grow I) n8 n5 q9;refine qw e9 (qw (seen qck) ?_);refine qx λap aa C=>?_;refine qw (kfe aa (by rw[kur];rfl)) ?_;obtain⟨af,aq,e⟩:=qbs.1 e;obtain⟨ar,au,ag,ah,K⟩:=GO.push (E:=El.nats) (U.grow (Z.trans C)) ⟨_,rfl,(n9.grow C)⟩ (AvE.nats (AvO.of_own o9 (U).lt)) af.down;refine qw ag ?_;have W:=(n5.grow (Z.trans C)).updo V K;have ai:=(n9.grow C).updo (AvO.of_own o9 (U).lt) K;have ad:=AH.has.updo aa (NeO.of_lt ((U.grow Z)).lt (qbn _)) K;refine qw qck ?_;have ac:=((I.trans Z).trans C);cases e;have aj:=(ac.updo ae K);exact Q aj b1 F y H n2 ah W (LeO.trans (ac).size (qbn _)) (AvO.of_base n5 (LeO.trans ((Z.trans C)).size (qbn _)))
 ·replace e:=(condF k7).symm.trans e;refine qw rfl (qw (qbc (I.has b1) 2 rfl qck) ?_);obtain⟨_,H8,e8,rfl,g8⟩:=k3i (n2.grow I);refine qw e8 (qw (seen qcl) ?_);cases e;exact Q (I.trans g8) n2 b1 F y H (((U.grow g8)).seq) (y.grow (I.trans g8))
theorem k4b{r:kcm}{o:kdm⊕kcm}{x1 x2c0:List Nat}{z2c1:Int}{x2c2 x2c3:List Nat}{x3:List (List Nat)}{x4:List Nat}{a5:Int}(e:kim x1 x2c0 z2c1 x2c2 x2c3 x3 x4 a5=some o)(y:GoodS (kf7 r) r o):kf7 r (.p12 x1 x2c0 z2c1 x2c2 x2c3 x3 x4 a5):=by
 intro h0 h a1 V W Z a3 a4 i2 I n1 b2 C F H n3 n4;rw[k90];unfold kim at e;refine qba (λQ=>?_) (λQ=>?_)
 ·replace e:=(condT Q).symm.trans e;cases e;exact y I n1 b2 C F H n3 n4
 ·replace e:=(condF Q).symm.trans e;refine qx λH7 b7 K=>?_;obtain⟨w8,z8,e⟩:=qbs.1 e;obtain⟨p9,q9,e⟩:=qbs.1 e;obtain⟨_,H9,e9,s9,rfl,n9,g9,o9⟩:=kkz ((I.trans K).has b2) (C.grow (I.trans K)) (F.grow (I.trans K)) (H.grow (I.trans K)) (n4.grow K) (qbk b7 z8) q9;refine qw e9 (qw (seen qck) ?_);cases e;cases y;have U:=((I.trans K).trans g9);exact qu ⟨s9,rfl,n9,U,(o9.of_le (I.trans K))⟩
theorem kbgp{r:kcm}{o:kdm⊕kcm}{x1 x2c0:List Nat}{z2c1:Int}{x2c2 x2c3:List Nat}{x3:List (List Nat)}{x4:List Nat}{a5 a6 a7:Int}(e:khh x1 x2c0 z2c1 x2c2 x2c3 x3 x4 a5 a6 a7=some o)(K:GoodS (kf7 r) r o):kf7 r (.p16 x1 x2c0 z2c1 x2c2 x2c3 x3 x4 a5 a6 a7):=by
 intro h0 h a1 ah ai aj a3 a4 i2 I n1 b2 C F H Z n4;rw[kbgz];unfold khh at e;rw[Z.len];refine qba (λk8=>?_) (λk8=>?_)
 ·replace e:=(condT k8).symm.trans e;obtain⟨p9,q9,e⟩:=qbs.1 e;obtain⟨_,H9,e9,s9,rfl,n9,g9,o9⟩:=kkz (I.has b2) (C.grow I) (F.grow I) (H.grow I) n4 n4 q9;refine qw e9 (qw (seen qck) ?_);obtain⟨Q,aa,e⟩:=qbs.1 e;obtain⟨_,ac,U,rfl,y⟩:=kuo (n1.grow (I.trans g9))  Q.down;refine qw U (qw (seen rfl) ?_);refine qba (λV=>?_) (λV=>?_)
  ·replace e:=(condT V).symm.trans e;refine qba (λW=>?_) (λW=>?_)
   ·replace e:=(condT W).symm.trans e;cases e
   ·replace e:=(condF W).symm.trans e;cases e;have ad:=((I.trans g9).trans y);exact K ad n1 b2 C F H (Z.grow (g9.trans y)) (n9.grow y)
  ·replace e:=(condF V).symm.trans e;cases e;have ae:=((I.trans g9).trans y);exact K ae n1 b2 C F H (Z.grow (g9.trans y)) (n9.grow y)
 ·replace e:=(condF k8).symm.trans e;obtain⟨y9,q9,e⟩:=qbs.1 e;obtain⟨r9,ak,j9,E9,l9⟩:=(Z).at q9;obtain⟨s9,rfl,n9⟩:=E9;refine qw j9 (qw (l9.rd0 (qk _) rfl qck) ?_);obtain⟨p10,af,e⟩:=qbs.1 e;obtain⟨_,ac,U,al,rfl,ag,y,am⟩:=kkz (I.has b2) (C.grow I) (F.grow I) (H.grow I) n4 n9 af;refine qw U (qw (seen qck) ?_);cases e;exact K (I.trans y) n1 b2 C F H (Z.grow y) ag
theorem k4z{s:kdm}{r:kcm}(C:Iter kiq s r):kf7 r s:=qbe (λs o e y=>by
 cases s with
 | fn x1c0 z1c1 x1c2 x1c3 x2 x3=>exact @k57 _ _ x1c0 z1c1 x1c2 x1c3 x2 x3 e y
 | p7 x1c0 z1c1 x1c2 x1c3 x2 x4 x5 a6=>exact @k7v _ _ x1c0 z1c1 x1c2 x1c3 x2 x4 x5 a6 e y
 | p12 x1 x2c0 z2c1 x2c2 x2c3 x3 x4 a5=>exact @k4b _ _ x1 x2c0 z2c1 x2c2 x2c3 x3 x4 a5 e y
 | p16 x1 x2c0 z2c1 x2c2 x2c3 x3 x4 a5 a6 a7=>exact @kbgp _ _ x1 x2c0 z2c1 x2c2 x2c3 x3 x4 a5 a6 a7 e y
 ) C
theorem kwn{h:AH}{y C F a2 a3:Sl}{Q:Nat}{x1c0:List Nat}{z1c1:Int}{x1c2 x1c3 x2 x3:List Nat}(b1:h.has Q [y.v,.int .u64 z1c1,C.v,F.v] kcu)(H:Nats h y x1c0)(I:Nats h C x1c2)(K:Nats h F x1c3)(n2:Nats h a2 x2)(U:Nats h a3 x3){r:kcm}(q:runP kiq (.fn x1c0 z1c1 x1c2 x1c3 x2 x3)=some r):Runs (go (.fn kca [.p (.new Q 0),a2.v,a3.v]) h) (kms h r):=k4z (kd5 q) b1 H I K n2 U
end Go.Ab
set_option maxRecDepth 10000
namespace Go.Ab
open Go.Proofs Go.Num
theorem kup{n:Nat}(h:n<=1000000):growOk Pg n kr 1=true:=by
 unfold growOk;rw[kbhh,kbfh];have y:n*24<=kbb:=by simp only[kbb];omega
 have C:n<=kbb:=by simp only[kbb];omega
 simp[y,C]
theorem kbk1:∀c:_root_.Fin 4,∀m:_root_.Fin (2^c.val),ior .i64 ((m.val*2^(4-c.val):Nat):Int) (ishl .i64 1 (IntKind.wrap .i64 (3-(c.val:Int))))=(((2*m.val+1)*2^(3-c.val):Nat):Int):=by decide +kernel
theorem kbfj(E j:Nat):E/2^j=2*(E/2^(j+1))+(E.testBit j).toNat:=by rw[Nat.testBit_eq_decide_div_mod_eq,Nat.pow_succ,<- Nat.div_div_eq_div_mul];generalize E/2^j=z;have:=Nat.mod_two_eq_zero_or_one z;rcases this with h | h<;>rw[h]<;>simp<;>omega
structure RingOk(N k v:Nat):Prop where
 hk:k<=60
 lt:N<B^k
 one:1<N
 odd:N%2=1
 hv:v<B
 inv:(N*v+1)%B=0
 len:(digs B N).length=k
def form(N k u:Nat):List Nat:=digs B (u*2^(64*k)%N)
def kdc(N k A j:Nat):List (List Nat):=(List.range (j+1)).map λi=>form N k (A^i)
section
variable{N k v:Nat}{ones nexts:List Nat}
theorem RingOk.prod(r:RingOk N k v){X Y:Nat}(y:X<N)(C:Y<N):runP kdi (.fn (digs B N) (v:Int) ones nexts (digs B X) (digs B Y))=some (digs B (redc N (64*k) (X*Y))):=by
 have:=kbfd (ns:=digs B N) (xs:=digs B X) (ys:=digs B Y) (ones:=ones) (nexts:=nexts) r.hk r.len (kcf B2 N) (khs B2 N) (kcf B2 X) (kcf B2 Y) r.hv
  (by rw[kg B2];exact r.inv) (by rw[kg B2];exact r.odd) ((kbg B2 X k).2 (Nat.lt_trans y r.lt)) (by rw[kg B2,kg B2];exact C)
 simpa only[kg B2]using this
theorem RingOk.forms(r:RingOk N k v)(x y:Nat):runP kdi (.fn (digs B N) (v:Int) ones nexts (form N k x) (form N k y))=some (form N k (x*y)):=by
 have C:0<N:=by have:=r.one;omega
 unfold form;rw[r.prod (Nat.mod_lt _ C) (Nat.mod_lt _ C),kbae r.odd]
theorem RingOk.into(r:RingOk N k v){a:Nat}(y:a<N):runP kdi (.fn (digs B N) (v:Int) ones nexts (digs B a) (digs B (2^(64*k)*2^(64*k)%N)))=some (form N k a):=by
 have C:0<N:=by have:=r.one;omega
 unfold form;rw[r.prod y (Nat.mod_lt _ C),k9t r.odd]
theorem RingOk.out(r:RingOk N k v)(x:Nat):runP kdi (.fn (digs B N) (v:Int) ones nexts (form N k x) [1])=some (digs B (x%N)):=by
 have y:0<N:=by have:=r.one;omega
 have C:([1]:List Nat)=digs B 1:=by rw[ke9 B2 (by decide),show 1/B=0 from rfl,kbu];rfl
 unfold form;rw[C,r.prod (Nat.mod_lt _ y) r.one,kbka r.odd]
theorem kbgd(A j:Nat):kdc N k A (j+1)=kdc N k A j++[form N k (A^(j+1))]:=by unfold kdc;rw[List.range_succ,List.map_append];rfl
theorem k0e{A j i:Nat}(h:i<=j):atX (kdc N k A j) (i:Int)=some (form N k (A^i)):=by unfold kdc;rw[kgy (by rw[qby,qch];omega),List.getElem_map,List.getElem_range]
theorem k1x(r:RingOk N k v){es:List Nat}(le:∀x∈es,x<B)(I:rt es=true){A t:Nat}(Z:t<=100000)(K:Iter kiq (.p12 es (digs B N) (v:Int) ones nexts (kdc N k A 15) (form N k (A^(num B es/2^(4*t)))) (t:Int)) (digs B (A^num B es%N),0)) :
  ∀(d c m q:Nat),c+d=4->num B es/2^(4*(t+1)-c)=q*2^c+m->m<2^c->
   Iter kiq (.p16 es (digs B N) (v:Int) ones nexts (kdc N k A 15) (form N k (A^(q*2^c))) ((t+1:Nat):Int) ((m*2^(4-c):Nat):Int) (c:Int)) (digs B (A^num B es%N),0)
 | 0,c,m,q,C,hq,F=>by
  have C:c=4:=by omega
  subst C;refine .next ?_ K;show khh _ _ _ _ _ _ _ _ _ _=_;unfold khh;have H:(2:Nat)^4=16:=rfl;rw[H]at F;rw[condF (by decide),show m*2^(4-4)=m from by simp,k0e (by omega),qbr,r.forms,qbr,show(((t+1:Nat):Int)-1)=(t:Int)from by omega,kb0 (by omega),<- Nat.pow_add,<- hq,show 4*(t+1)-4=4*t from by omega]
 | d+1,c,m,q,C,hq,F=>by
  have Q:=kbfj (num B es) (4*(t+1)-(c+1));rw[show 4*(t+1)-(c+1)+1=4*(t+1)-c from by omega,hq]at Q;have U:=kbk1 ⟨c,by omega⟩ ⟨m,F⟩;dsimp only at U;have V:q*2^(c+1)=q*2^c+q*2^c:=by rw[Nat.pow_succ,<- Nat.mul_assoc];omega
  have e2:m*2^(4-c)=2*m*2^(4-(c+1)):=by rw[show 4-c=4-(c+1)+1 from by omega,Nat.pow_succ,Nat.mul_comm (2^(4-(c+1))) 2,<- Nat.mul_assoc,Nat.mul_comm m 2]
  have hi:(IntKind.wrap .i64 ((IntKind.wrap .i64 ((IntKind.wrap .i64 (((t+1:Nat):Int)*4))-1))-(c:Int)))=((4*(t+1)-(c+1):Nat):Int):=by rw[show((t+1:Nat):Int)*4=((4*(t+1):Nat):Int)from by omega,kb0 (by omega),show((4*(t+1):Nat):Int)-1=((4*(t+1)-1:Nat):Int)from by omega,kb0 (by omega),show((4*(t+1)-1:Nat):Int)-(c:Int)=((4*(t+1)-(c+1):Nat):Int)from by omega,kb0 (by omega)]
  have aa:2^(c+1)=2*2^c:=by rw[Nat.pow_succ];omega
  have y:((4*(t+1)-(c+1):Nat):Int)<=9223372036854775807:=by omega
  have step:khh es (digs B N) (v:Int) ones nexts (kdc N k A 15) (form N k (A^(q*2^c))) ((t+1:Nat):Int) ((m*2^(4-c):Nat):Int) (c:Int) =
    some (.inl (.p16 es (digs B N) (v:Int) ones nexts (kdc N k A 15) (form N k (A^(q*2^(c+1)))) ((t+1:Nat):Int) (((2*m+((num B es).testBit (4*(t+1)-(c+1))).toNat)*2^(4-(c+1)):Nat):Int) ((c+1:Nat):Int))):=by
   unfold khh;rw[condT (by rw[qbu];omega),r.forms,qbr,hi,ky y,qbr,km5 I,ko (by omega),<- Nat.pow_add,<- V];cases W:(num B es).testBit (4*(t+1)-(c+1))
   ·rw[cond_false,e2];rfl
   ·rw[cond_true,condF (by rw[qbt,show(3:Int)-(c:Int)=((3-c:Nat):Int)from by omega,kb0 (by omega)];omega),U,show 4-(c+1)=3-c from by omega];rfl
  refine .next step (k1x r le I Z K d (c+1) _ q (by omega) ?_ ?_)
  ·rw[Q,V];omega
  ·cases(num B es).testBit (4*(t+1)-(c+1))
   ·show 2*m+0<_;omega
   ·show 2*m+1<_;omega
theorem kx0(r:RingOk N k v){es:List Nat}(le:∀x∈es,x<B)(y:rt es=true){A:Nat}:∀t:Nat,t<=100000->
  Iter kiq (.p12 es (digs B N) (v:Int) ones nexts (kdc N k A 15) (form N k (A^(num B es/2^(4*t)))) (t:Int)) (digs B (A^num B es%N),0)
 | 0,_=>by
  refine .done ?_;show kim _ _ _ _ _ _ _ _=_;unfold kim;rw[condF (by decide),show u64P 1=some 1 from rfl,qbr,r.out,qbr,Nat.mul_zero,Nat.pow_zero,Nat.div_one]
 | t+1,C=>by have K:=kx0 r le y (A:=A) t (by omega);have:=k1x r le y (by omega) K 4 0 0 (num B es/2^(4*(t+1))) (by omega) (by simp) (by simp);rw[Nat.pow_zero,Nat.mul_one,Nat.zero_mul]at this;refine .next ?_ this;show kim _ _ _ _ _ _ _ _=_;unfold kim;rw[condT (by rw[qbu];omega)];rfl
theorem exp_p7(r:RingOk N k v)(I:ones=form N k 1){es:List Nat}(le:∀x∈es,x<B)(y:rt es=true){A:Nat}:∀(d j:Nat),j+d=15->
  Iter kiq (.p7 (digs B N) (v:Int) ones nexts es (kdc N k A j) (form N k A) (j:Int)) (digs B (A^num B es%N),0)
 | 0,j,F=>by
  have F:j=15:=by omega
  subst F;have H:=(rt_iff.1 y).1;have C:=num_lt B1 le;rw[B_pow2]at C
  have W:bitsN es<=64*64:=by unfold bitsN;rw[if_pos y];exact qbo (bl_le C) (Nat.mul_le_mul_left _ H)
  have K:num B es<2^bitsN es:=by unfold bitsN;rw[if_pos y];exact(bl_Bl _).1
  have:=kx0 r le y (A:=A) (ones:=ones) (nexts:=nexts) ((bitsN es+3)/4) (by omega)
  have Q:num B es/2^(4*((bitsN es+3)/4))=0:=by refine Nat.div_eq_of_lt (qbp K (Nat.pow_le_pow_right (by decide) (by omega)))
  rw[Q,Nat.pow_zero,<- I]at this;refine .next ?_ this;show ki0 _ _ _ _ _ _ _ _=_;unfold ki0;rw[condF (by decide),show((bitsN es:Nat):Int)+4=((bitsN es+4:Nat):Int)from by omega,kb0 (by omega),show((bitsN es+4:Nat):Int)-1=((bitsN es+3:Nat):Int)from by omega,kb0 (by omega),show Int.tdiv ((bitsN es+3:Nat):Int) 4=(((bitsN es+3)/4:Nat):Int)from rfl,kb0 (by omega)]
 | d+1,j,F=>by
  have U:(kdc N k A j).length=j+1:=by unfold kdc;simp
  refine .next ?_ (exp_p7 r I le y d (j+1) (by omega));show ki0 _ _ _ _ _ _ _ _=_;unfold ki0;have V:growOk Pg (j+1+1) kr 1=true:=kup (by omega);rw[condT (by rw[qbu];omega),U,show((j+1:Nat):Int)-1=(j:Int)from by omega,kb0 (by omega),k0e (qbn _),qbr,r.forms,qbr,ky V,qbr,ko (by omega),kbgd,Nat.pow_succ]
theorem kxb(r:RingOk N k v){A:Nat}(hA:A<N){es:List Nat}(le:∀x∈es,x<B)(C:rt es=true)(H:es.length<=8) :
  runP kiq (.fn (digs B N) (v:Int) (form N k 1) (digs B (2^(64*k)*2^(64*k)%N)) (digs B A) es)=some (digs B (A^num B es%N),0):=by
 have:=exp_p7 r rfl (nexts:=digs B (2^(64*k)*2^(64*k)%N)) le C (A:=A) 15 0 (by omega);refine kc4 (.next ?_ this);show kk9 _ _ _ _ _ _=_;have y:N<B^64:=qbp r.lt (Nat.pow_le_pow_right (by decide) (by have:=r.hk;omega))
 have F:belowF (digs B A) (digs B N)=true:=by unfold belowF;rw[kn (Nat.lt_trans hA y),kh7 (kn (Nat.lt_trans hA y)) (kn y),kg B2,kg B2];unfold cmp;rw[if_pos hA];rfl
 unfold kk9;rw[F,C,show(!true)=false from rfl,cond_false,cond_false,condF (by rw[qbt];omega),r.into hA,qbr];simp[kdc,form]
end
inductive kkm
 | fn (x1c0:List Nat) (z1c1:Int) (x1c2:List Nat) (x1c3:List Nat) (a2:Int)
 | no
abbrev kg8:=List Nat
noncomputable def kma(x1c0:List Nat)(z1c1:Int)(x1c2 x1c3:List Nat)(a2:Int):Option (kkm⊕kg8):=(mkI (IntKind.wrap .i64 ((IntKind.wrap .i64 (a2*(List.length x1c0:Int)))+1)) (IntKind.wrap .i64 ((IntKind.wrap .i64 (a2*(List.length x1c0:Int)))+1))).bind λy=>(inI (List.length (List.replicate y 0)) (IntKind.wrap .i64 (a2*(List.length x1c0:Int)))).bind λC=>(u64P 1).bind λF=>some (.inr ((divN (List.set (List.replicate y 0) C F) x1c0).2.1))
noncomputable def kuw:kkm->Option (kkm⊕kg8)
 | .fn x1c0 z1c1 x1c2 x1c3 a2=>kma x1c0 z1c1 x1c2 x1c3 a2
 | .no=>none
@[reducible] def kyp(h0:AH)(r:kg8)(v:AV)(h':AH):Prop:=∃s1:Sl,v=s1.v/\Nats h' s1 r/\Grow h0 h'/\Own h0 s1
def kvp(r:kg8):kkm->Prop
 | .fn x1c0 z1c1 x1c2 x1c3 a2=>∀{h:AH}{y:Sl}{C:Sl}{F:Sl}{H:Nat},h.has H [y.v,.int .u64 z1c1,C.v,F.v] kcu->Nats h y x1c0->Nats h C x1c2->Nats h F x1c3->Runs (go (.fn kl9 [.p (.new H 0),.i a2]) h) (kyp h r)
 | .no=>True
theorem kba1{r:kg8}{o:kkm⊕kg8}{x1c0:List Nat}{z1c1:Int}{x1c2 x1c3:List Nat}{a2:Int}(e:kma x1c0 z1c1 x1c2 x1c3 a2=some o)(F:GoodS (kvp r) r o):kvp r (.fn x1c0 z1c1 x1c2 x1c3 a2):=by intro h V W Z i1 b1 y aa ac;rw[k4j];unfold kma at e;refine qw rfl (qw (qbc b1 0 rfl qck) ?_);rw[y.len];obtain⟨m3,q3,e⟩:=qbs.1 e;refine Runs.mk q3 kda λs3 H3 I C=>?_;rw[I.nats.len];refine qw rfl (qw (qbc (C.has b1) 0 rfl qck) ?_);rw[(y.grow C).len];obtain⟨j4,q4,e⟩:=qbs.1 e;refine qw (I.idx rfl q4) ?_;obtain⟨w5,z5,e⟩:=qbs.1 e;refine qbf I rfl q4 z5 λH5 v5 H=>?_;refine qw rfl (qw (qbc ((C.updr (qbn _) H).has b1) 0 rfl qck) ?_);obtain⟨s6,K,H6,e6,n6,Q,g6,o6,U⟩:=kd4 v5.nats (y.grow (C.updr (qbn _) H));refine qw e6 (qw rfl (qw (seen qck) (qw (seen qck) (qw (seen qcl) ?_))));cases e;cases F;have G7:=((C.updr (qbn _) H).trans g6);exact qu ⟨K,rfl,Q,G7,(U.of_le (C.updr (qbn _) H))⟩
theorem kbg5{s:kkm}{r:kg8}(C:Iter kuw s r):kvp r s:=qbe (λs o e y=>by
 cases s with
 | fn x1c0 z1c1 x1c2 x1c3 a2=>exact @kba1 _ _ x1c0 z1c1 x1c2 x1c3 a2 e y
 | no=>exact True.intro
 ) C
theorem kzm{h:AH}{y C F:Sl}{Q:Nat}{x1c0:List Nat}{z1c1:Int}{x1c2 x1c3:List Nat}{a2:Int}(b1:h.has Q [y.v,.int .u64 z1c1,C.v,F.v] kcu)(H:Nats h y x1c0)(I:Nats h C x1c2)(K:Nats h F x1c3){r:kg8}(q:runP kuw (.fn x1c0 z1c1 x1c2 x1c3 a2)=some r):Runs (go (.fn kl9 [.p (.new Q 0),.i a2]) h) (kyp h r):=kbg5 (kd5 q) b1 H I K
theorem kbh9(n:Nat):num B (List.replicate n 0++[1])=B^n:=by
 have h:num B (List.replicate n 0)=0:=by have:=kgk B [] n;simpa[num]using this
 rw[kfh,h,qb5];simp[num]
theorem k0p{ns y C:List Nat}(z:Int){p k:Nat}(hk:ns.length=k)(hp:p<=2)(F:k<=8)(h0:k≠0)(r:rt ns=true):runP kuw (.fn ns z y C (p:Int))=some (digs B (B^(p*k)%num B ns)):=by
 have H:p*k<=2*8:=Nat.mul_le_mul hp F;refine kc4 (.done ?_);show kma ns z y C (p:Int)=_;unfold kma;have e:IntKind.wrap .i64 ((p:Int)*(k:Int))=((p*k:Nat):Int):=by rw[<- Int.natCast_mul,kb0 (by omega)]
 rw[hk,e,ko (by omega),kdw (by omega),qbr,qb5,kx (by omega),qbr,show u64P 1=some 1 from rfl,qbr]
 have hs:(List.replicate (p*k+1) 0).set (p*k) 1=List.replicate (p*k) 0++[1]:=by rw[List.replicate_succ'];have:=koh (List.replicate (p*k) 0) 0 1 [] (n:=p*k) (by simp);rw[this,List.append_nil]
 have I:rt (List.replicate (p*k) 0++[1])=true:=rt_iff.2 ⟨by simp;omega,λh=>by simp⟩;rw[hs,kr2 I r (λe=>h0 (by rw[<- hk,e];rfl)),kbh9]
theorem kbib(n x:Int):IntKind.wrap .u64 (x*IntKind.wrap .u64 (2-IntKind.wrap .u64 (n*x)))=(x*(2-n*x))%18446744073709551616:=by
 rw[wrapU,wrapU,wrapU]
 have:(2-n*x%18446744073709551616)%18446744073709551616=(2-n*x)%18446744073709551616:=by generalize n*x=t;omega
 rw[this,newton.Int.mul_emod_aux]
theorem k8p{n x i:Nat}(I:i<6)(h:(n*x)%2^(2^i)=1%2^(2^i)):∃y:Nat,y<18446744073709551616/\(((x:Int)*(2-(n:Int)*(x:Int)))%18446744073709551616)=(y:Int)/\(n*y)%2^(2^(i+1))=1%2^(2^(i+1)):=by
 have K:=Int.emod_nonneg ((x:Int)*(2-(n:Int)*(x:Int))) (show(18446744073709551616:Int)≠0 by decide);have Q:=Int.emod_lt_of_pos ((x:Int)*(2-(n:Int)*(x:Int))) (show(0:Int)<18446744073709551616 by decide);refine⟨(((x:Int)*(2-(n:Int)*(x:Int)))%18446744073709551616).toNat,by omega,by omega,?_⟩;have F:(2:Nat)^(2^(i+1))=2^(2^i)*2^(2^i):=by rw[<- Nat.pow_add,Nat.pow_succ,Nat.mul_two]
 have H:(2:Nat)^(2^(i+1))∣18446744073709551616:=Nat.pow_dvd_pow 2 (show 2^(i+1)<=2^6 from Nat.pow_le_pow_right (by decide) (by omega));generalize (2:Nat)^(2^(i+1))=w at F H|-;have C:(w:Int)∣18446744073709551616:=Int.natCast_dvd_natCast.2 H;have:=newton F h (((x:Int)*(2-(n:Int)*(x:Int)))%18446744073709551616) (Int.emod_emod_of_dvd _ C);have e:((((x:Int)*(2-(n:Int)*(x:Int)))%18446744073709551616).toNat:Int)=((x:Int)*(2-(n:Int)*(x:Int)))%18446744073709551616:=by omega
 rw[<- e]at this;generalize (((x:Int)*(2-(n:Int)*(x:Int)))%18446744073709551616).toNat=y at this|-;rw[<- Int.natCast_mul]at this;exact Int.ofNat.inj this
theorem k9f{n x:Nat}(h:(n*x)%2^(2^6)=1%2^(2^6)):∃v:Nat,v<18446744073709551616/\IntKind.wrap .u64 (0-(x:Int))=(v:Int)/\(n*v+1)%18446744073709551616=0:=by
 rw[wrapU];refine⟨((0-(x:Int))%18446744073709551616).toNat,by omega,by omega,?_⟩;have e:((((0-(x:Int))%18446744073709551616).toNat:Nat):Int)=(0-(x:Int))%18446744073709551616:=by omega
 have h':(n*x)%18446744073709551616=1:=h
 have k:((n:Int)*((0-(x:Int))%18446744073709551616)+1)%18446744073709551616=0:=by rw[Int.add_emod,newton.Int.mul_emod_aux,<- Int.add_emod,Int.zero_sub,Int.mul_neg,<- Int.natCast_mul];omega
 rw[<- e]at k;generalize ((0-(x:Int))%18446744073709551616).toNat=y at k|-;rw[<- Int.natCast_mul]at k;omega
def NewP(h:AH)(ns:List Nat)(w:AV)(h':AH):Prop:=∃(j v:Nat)(y s2 s3:Sl),w=.tup [.p (.new j 0),.i 0]/\v<B/\(num B ns*v+1)%B=0/\h'.has j [y.v,.int .u64 (v:Int),s2.v,s3.v] kcu/\Nats h' y ns/\Nats h' s2 (digs B (B^(1*ns.length)%num B ns))/\Nats h' s3 (digs B (B^(2*ns.length)%num B ns))/\Grow h h'
theorem kyj{h0 h:AH}{s:Sl}{ns:List Nat}(n:Nats h s ns)(I:0<ns.length)(K:ns.length<=8)(r:rt ns=true)(g:Grow h0 h):∀(d i x:Nat),i+d=6->x<18446744073709551616->(ns[0]*x)%2^(2^i)=1%2^(2^i)->
  Runs (go (.pt ker kj1 [(0,s.v),(4,.int .u64 (x:Int)),(40,.i (i:Int))]) h) (NewP h0 ns)
 | 0,i,x,Q,hx,e=>by
  have Q:i=6:=by omega
  subst Q;obtain⟨v,v1,v2,v3⟩:=k9f e;rw[kxf];refine q0 (by decide) ?_;obtain⟨s1,Z,H,n1,g1,o1⟩:=kkf n (by omega);refine qw H (qw (seen qck) ?_);rw[v2];refine qx λh2 b2 g2=>?_;obtain⟨_,h3,e3,s3,rfl,n3,g3,o3⟩:=kzm b2 (n1.grow g2) (qq _) (qq _) (k0p (v:Int) rfl (show 1<=2 by decide) K (by omega) r);refine qw e3 (qw (seen qck) ?_);refine Runs.putAt (o:=2) (cs':=[s1.v,.int .u64 (v:Int),s3.v,nV]) (vs:=[s3.v]) (g3.has b2) (by simp) rfl λh4 b4 u4=>?_;have C:=n3.upda (qbh o3 b2.lt) u4;have gg:Grow Z h4:=(g2.trans g3).updr (qbn _) u4;obtain⟨_,h5,e5,U,rfl,n5,V,o5⟩:=kzm (a2:=((2:Nat):Int)) b4 (n1.grow gg) C (qq _) (k0p (v:Int) rfl (show 2<=2 by decide) K (by omega) r);refine qw e5 (qw (seen qck) ?_);refine Runs.putAt (o:=3) (cs':=[s1.v,.int .u64 (v:Int),s3.v,U.v]) (vs:=[U.v]) (V.has b4) (by simp) rfl λh6 b6 W=>?_;have F:Grow Z h6:=(gg.trans V).updr (qbn _) W;refine qu ⟨_,v,s1,s3,U,rfl,v1,?_,b6,n1.grow F,(C.grow V).upda (qbh o3 b2.lt) W,n5.upda (qbh o5 b4.lt) W,(g.trans g1).trans F⟩;rw[klz B ns,Nat.add_mul,Nat.mul_assoc,Nat.add_right_comm,Nat.add_mul_mod_self_left]
  have:ns.headD 0=ns[0]:=by
   cases ns with
   | nil=>simp at I
   | cons y ys=>rfl
  rw[this];exact v3
 | d+1,i,x,Q,hx,e=>by rw[kxf];refine qz (by rw[qbu];omega) ?_;obtain⟨q,H,e2⟩:=n.at (i:=0) I;rw[n.len]at H|-;refine qw H (qw (rdc e2 qcl) ?_);obtain⟨y,y1,y2,y3⟩:=k8p (by omega) e;rw[kbib,y2,ko (by omega)];exact kyj n I K r g d (i+1) y (by omega) y1 y3
theorem kxe{h:AH}{s:Sl}{ns:List Nat}(n:Nats h s ns)(r:rt ns=true)(hn:ns.length≠0)(W:ns.length<=8)(F:num B ns%2=1)(Z:1<num B ns):Runs (go (.fn ker [s.v]) h) (NewP h ns):=by
 have hp:0<ns.length:=by omega
 have hd:ns.headD 0=ns[0]:=by
  cases ns with
  | nil=>simp at hp
  | cons y ys=>rfl
 have I:ns[0]<18446744073709551616:=n.lt _ (qb0 _)
 have C:ns[0]%2=1:=by rw[klz B ns,hd]at F;have:(ns[0]+18446744073709551616*num B ns.tail)%2=1:=F;omega
 have hs:(ns[0]*ns[0])%2^(2^0)=1%2^(2^0):=by show(ns[0]*ns[0])%2=1;rw[Nat.mul_mod,C]
 have rd:∀{K:Ref->Option (AV×AH)}{Q:AV->AH->Prop},(∀q,h.cell q=some (.int .u64 ((ns[0]:Nat):Int))->Runs (K q) Q)->Runs ((idx s.ref ns.length 0 1).bind K) Q:=by intro K Q H;obtain⟨q,U,e2⟩:=n.at (i:=0) hp;rw[n.len]at U;exact qw U (H q e2)
 rw[k80];refine qw (kbt n) (qw (seen rfl) ?_);rw[show s.len=ns.length from n.len];refine q0 (by rw[r];rfl) ?_;refine q0 (by rw[qbt];omega) ?_;refine q0 (by rw[qbt];omega) ?_;refine rd λq hq=>?_;refine qw (rdc hq qcl) ?_;refine q0 (by rw[kv6 I,qbt];omega) ?_;have V:Runs (go (.pt ker kj1 [(0,s.v),(4,.int .u64 ((ns[0]:Nat):Int)),(40,.i 0)]) h) (NewP h ns):=kyj n hp W r (qk h) 6 0 ns[0] rfl I hs;refine qba (λk=>?_) (λk=>?_)
 ·refine rd λq hq=>?_;refine qw (rdc hq qcl) ?_;refine q0 ?_ ?_
  ·rw[qbt];intro e;have hl:ns.length=1:=by rw[qbu]at k;omega
   obtain⟨y,hy⟩:=List.length_eq_one_iff.1 hl;subst hy;simp[num]at Z e;omega
  ·refine rd λq hq=>?_;refine qw (rdc hq qcl) ?_;exact V
 ·refine rd λq hq=>?_;refine qw (rdc hq qcl) ?_;exact V
def kbd(x1:List Nat):List Nat:=(mulN x1 x1).1
theorem kml{h:AH}{a1:Sl}{x1:List Nat}(n1:Nats h a1 x1)  : Runs (go (.fn kik [a1.v]) h) λv h'=>∃s1:Sl,v=s1.v/\Nats h' s1 (kbd x1)/\Grow h h'/\Own h s1:=by
 rw[k4a];obtain⟨s2,H,y,n2,C,F⟩:=kd7 n1 n1;refine qw y (qw rfl (qw (seen qck) (qw (seen qcl) ?_)));have z:kbd x1=(mulN x1 x1).1:=by unfold kbd;exact rfl
 rw[z];exact qu ⟨s2,rfl,n2,C,(F.of_le (qk _))⟩
def kz(x1:List Nat):Bool:=cond ((rt x1)) (cond (((bitN x1 0))) (cond (decide ((((bitsN x1:Nat):Int))>=15)) (decide ((((bitsN x1:Nat):Int))<=80)) (false)) (false)) (false)
theorem krr{h:AH}{a1:Sl}{x1:List Nat}(n1:Nats h a1 x1)  : Runs (go (.fn kl7 [a1.v]) h) λv h'=>v=.bool (kz x1)/\Grow h h':=by
 rw[k8j];obtain⟨_,U,K,rfl,y⟩:=k3i n1;refine qw K (qw (seen qcl) (qw (kbt (n1.grow y)) (qw (seen rfl) ?_)));refine qba (λC=>?_) (λC=>?_)
 ·obtain⟨_,V,Q,rfl,H⟩:=kuo (n1.grow y) (i:=0) (by decide);refine qw Q (qw (seen rfl) ?_);refine qba (λF=>?_) (λF=>?_)
  ·refine qba (λI=>?_) (λI=>?_)
   ·have z:kz x1=decide ((((bitsN x1:Nat):Int))<=80):=by unfold kz;exact(condT C).trans ((condT F).trans ((condT I).trans rfl))
    rw[z];exact qu ⟨rfl,(y.trans H)⟩
   ·have z:kz x1=false:=by unfold kz;exact(condT C).trans ((condT F).trans ((condF I).trans rfl))
    rw[z];exact qu ⟨rfl,(y.trans H)⟩
  ·have z:kz x1=false:=by unfold kz;exact(condT C).trans ((condF F).trans rfl)
   rw[z];exact qu ⟨rfl,(y.trans H)⟩
 ·have z:kz x1=false:=by unfold kz;exact(condF C).trans rfl
  rw[z];exact qu ⟨rfl,y⟩
def kc6(x1 x2:List Nat):Bool:=cond ((rt x2)) (decide ((cmpN x2 x1)<0)) (false)
theorem kbe9{h:AH}{a1:Sl}{x1:List Nat}{a2:Sl}{x2:List Nat}(n1:Nats h a1 x1)(n2:Nats h a2 x2)  : Runs (go (.fn krc [a1.v,a2.v]) h) λv h'=>v=.bool (kc6 x1 x2)/\Grow h h':=by
 rw[kbjz];refine qw (kbt n2) (qw (seen rfl) ?_);refine qba (λy=>?_) (λy=>?_)
 ·obtain⟨H,C,F⟩:=kco n2 n1;refine qw C (qw (seen qcl) ?_);have z:kc6 x1 x2=decide ((cmpN x2 x1)<0):=by unfold kc6;exact(condT y).trans rfl
  rw[z];exact qu ⟨rfl,F⟩
 ·have z:kc6 x1 x2=false:=by unfold kc6;exact(condF y).trans rfl
  rw[z];exact qu ⟨rfl,(qk _)⟩
def kbr(x1 x2 x3:List Nat):Bool:=cond (!(rt x1)) (false) (cond (decide ((List.length x1:Int)=0)) (false) (cond (decide ((cmpN x1 x3)>=0)) (false) (decide ((cmpN ((gcdN x1 x2).1) [1])=0))))
theorem k3a{h:AH}{a1:Sl}{x1:List Nat}{a2:Sl}{x2:List Nat}{a3:Sl}{x3:List Nat}(n1:Nats h a1 x1)(n2:Nats h a2 x2)(W:Nats h a3 x3)  : Runs (go (.fn kqo [a1.v,a2.v,a3.v]) h) λv h'=>v=.bool (kbr x1 x2 x3)/\Grow h h':=by
 rw[kba8];rw[n1.len];refine qw (kbt n1) (qw (seen rfl) ?_);refine qba (λy=>?_) (λy=>?_)
 ·have z:kbr x1 x2 x3=false:=by unfold kbr;exact(condT y).trans rfl
  rw[z];exact qu ⟨rfl,(qk _)⟩
 ·refine qba (λF=>?_) (λF=>?_)
  ·have z:kbr x1 x2 x3=false:=by unfold kbr;exact(condF y).trans ((condT F).trans rfl)
   rw[z];exact qu ⟨rfl,(qk _)⟩
  ·obtain⟨H7,Z,H⟩:=kco n1 W;refine qw Z (qw (seen qcl) ?_);refine qba (λI=>?_) (λI=>?_)
   ·have z:kbr x1 x2 x3=false:=by unfold kbr;exact(condF y).trans ((condF F).trans ((condT I).trans rfl))
    rw[z];exact qu ⟨rfl,H⟩
   ·obtain⟨_,H9,e9,s9,rfl,n9,g9,o9⟩:=ko7 (n1.grow H) (n2.grow H);refine qw e9 (qw rfl (qw (seen qck) (qw (seen qcl) ?_)));refine qx λaa K C=>?_;obtain⟨ac,Q,U⟩:=kco (n9.grow C) (Nats.of_has (xs:=[1]) K (by decide) (by decide));refine qw Q (qw (seen qcl) ?_);have z:kbr x1 x2 x3=decide ((cmpN ((gcdN x1 x2).1) [1])=0):=by unfold kbr;exact(condF y).trans ((condF F).trans ((condF I).trans rfl))
    rw[z];have V:=(((H.trans g9).trans C).trans U);exact qu ⟨rfl,V⟩
def kb3(x1 x2:List Nat):Bool:=cond (((kz x1))) (((kbr x2 x1 (kbd x1)))) (false)
theorem k1l{h:AH}{a1:Sl}{x1:List Nat}{a2:Sl}{x2:List Nat}(n1:Nats h a1 x1)(n2:Nats h a2 x2)  : Runs (go (.fn kpm [a1.v,a2.v]) h) λv h'=>v=.bool (kb3 x1 x2)/\Grow h h':=by
 rw[kbef];obtain⟨_,V,e3,rfl,y⟩:=krr n1;refine qw e3 (qw (seen rfl) ?_);refine qba (λC=>?_) (λC=>?_)
 ·obtain⟨_,W,H,Z,rfl,I,F,o5⟩:=kml (n1.grow y);refine qw H (qw (seen qck) ?_);obtain⟨_,H6,K,rfl,Q⟩:=k3a (n2.grow (y.trans F)) (n1.grow (y.trans F)) I;refine qw K (qw (seen rfl) ?_);have z:kb3 x1 x2=((kbr x2 x1 (kbd x1))):=by unfold kb3;exact(condT C).trans rfl
  rw[z];have U:=((y.trans F).trans Q);exact qu ⟨rfl,U⟩
 ·have z:kb3 x1 x2=false:=by unfold kb3;exact(condF C).trans rfl
  rw[z];exact qu ⟨rfl,y⟩
def ko4(x1 x2 x3:List Nat):List Nat:=(divN ((mulN x2 x3).1) (kbd x1)).2.1
theorem kbgt{h:AH}{a1:Sl}{x1:List Nat}{a2:Sl}{x2:List Nat}{a3:Sl}{x3:List Nat}(n1:Nats h a1 x1)(n2:Nats h a2 x2)(K:Nats h a3 x3)  : Runs (go (.fn kuv [a1.v,a2.v,a3.v]) h) λv h'=>∃s1:Sl,v=s1.v/\Nats h' s1 (ko4 x1 x2 x3)/\Grow h h'/\Own h s1:=by
 rw[kbj5];obtain⟨s4,H4,Q,U,y,o4⟩:=kd7 n2 K;refine qw Q (qw rfl (qw (seen qck) (qw (seen qcl) ?_)));obtain⟨_,H5,V,s5,rfl,W,C,o5⟩:=kml (n1.grow y);refine qw V (qw (seen qck) ?_);obtain⟨s6,F,H6,Z,n6,H,g6,o6,I⟩:=kd4 (U.grow C) W;refine qw Z (qw rfl (qw (seen qck) (qw (seen qck) (qw (seen qcl) ?_))));have z:ko4 x1 x2 x3=(divN ((mulN x2 x3).1) (kbd x1)).2.1:=by unfold ko4;exact rfl
 rw[z];have G7:=((y.trans C).trans g6);exact qu ⟨F,rfl,H,G7,(I.of_le (y.trans C))⟩
def kfp(x1 x2:List Nat):List Nat:=(addN ((mulN x2 x1).1) [1]).1
theorem k2a{h:AH}{a1:Sl}{x1:List Nat}{a2:Sl}{x2:List Nat}(n1:Nats h a1 x1)(n2:Nats h a2 x2)  : Runs (go (.fn kor [a1.v,a2.v]) h) λv h'=>∃s1:Sl,v=s1.v/\Nats h' s1 (kfp x1 x2)/\Grow h h'/\Own h s1:=by
 rw[kbj3];obtain⟨s3,W,e3,F,C,Z⟩:=kd7 n2 n1;refine qw e3 (qw rfl (qw (seen qck) (qw (seen qcl) ?_)));refine qx λH4 b4 y=>?_;obtain⟨H,H5,I,K,Q,U⟩:=kkr (F.grow y) (Nats.of_has (xs:=[1]) b4 (by decide) (by decide));refine qw I (qw rfl (qw (seen qck) (qw (seen qcl) ?_)));have z:kfp x1 x2=(addN ((mulN x2 x1).1) [1]).1:=by unfold kfp;exact rfl
 rw[z];have V:=((C.trans y).trans Q);exact qu ⟨H,rfl,K,V,(U.of_le (C.trans y))⟩
def kip(x1 x2 x3:List Nat):List Nat:=(divN ((mulN x1 x2).1) x3).2.1
def powOk(xs es ns:List Nat):Prop:=rt xs=true/\rt es=true/\rt ns=true/\ns.length<=30/\1<num B ns/\num B xs<num B ns
def powN(xs es ns:List Nat):List Nat:=digs B (num B xs^num B es%num B ns)
theorem keo{a b:Nat}(C:a<B^30)(F:b<B^30):mulN (digs B a) (digs B b)=(digs B (a*b),0):=by
 have y:a*b<B^64:=by
  calc a*b<B^30*B^30:=Nat.mul_lt_mul_of_lt_of_lt C F
   _=B^60:=by rw[<- Nat.pow_add]
   _<=B^64:=Nat.pow_le_pow_right (by decide) (by decide)
 have up:∀{c:Nat},c<B^30->c<B^64:=λh=>qbp h (Nat.pow_le_pow_right (by decide) (by decide));unfold mulN;rw[if_pos ⟨kn (up C),kn (up F)⟩,kg B2,kg B2];unfold told;rw[if_pos y]
theorem kq7{xs:List Nat}(l:∀x∈xs,x<B)(r:rt xs=true):digs B (num B xs)=xs:=kdd B2 l (rt_iff.1 r).2
theorem ku3{ns:List Nat}(l:∀x∈ns,x<B)(h:kz ns=true):rt ns=true/\num B ns%2=1/\16384<=num B ns/\num B ns<2^80:=by
 unfold kz at h;simp only[Bool.cond_eq_true_distrib,Bool.cond_false_right,qb6,qbu]at h;obtain⟨y,C,F,H⟩:=h;have I:bitsN ns=bl (num B ns):=by unfold bitsN;rw[if_pos y]
 rw[I]at F H;obtain⟨b1,b2⟩:=bl_Bl (num B ns);refine⟨y,?_,?_,?_⟩
 ·rw[show(0:Int)=((0:Nat):Int)from rfl,km5 y,Nat.testBit_zero,qbu]at C;exact C
 ·rcases b2 with b2 | b2
  ·omega
  ·exact qbo (Nat.pow_le_pow_right (n:=2) (i:=14) (by decide) (by omega)) b2
 ·exact qbp b1 (Nat.pow_le_pow_right (by decide) (by omega))
theorem k1n{ns:List Nat}(l:∀x∈ns,x<B)(h:kz ns=true):kbd ns=digs B (num B ns*num B ns)/\num B ns*num B ns<B^3/\1<num B ns*num B ns/\num B ns*num B ns%2=1:=by
 obtain⟨H,I,F,C⟩:=ku3 l h;have y:num B ns<B^30:=Nat.lt_trans C (by decide);refine⟨?_,?_,?_,?_⟩
 ·unfold kbd;have:=keo y y;rw[kq7 l H]at this;rw[this]
 ·calc num B ns*num B ns<2^80*2^80:=Nat.mul_lt_mul_of_lt_of_lt C C
   _<B^3:=by decide
 ·calc 1<16384*16384:=by decide
   _<=num B ns*num B ns:=Nat.mul_le_mul F F
 ·rw[Nat.mul_mod,I]
def kov(ns xs es:List Nat):Prop:=kz ns=true/\rt xs=true/\num B xs<num B ns*num B ns/\rt es=true/\es.length<=8
theorem kbg0{h:AH}{s t u:Sl}{ns xs es:List Nat}(Q:Nats h s ns)(U:Nats h t xs)(ne:Nats h u es)(c:kov ns xs es) :
  Runs (go (.fn ksu [s.v,t.v,u.v]) h) λv h'=>∃s1:Sl,v=s1.v/\Nats h' s1 (powN xs es (kbd ns))/\Grow h h'/\Own h s1:=by
 obtain⟨c1,c2,c3,c4,c5⟩:=c;obtain⟨q1,V,W,Z⟩:=k1n Q.lt c1;have H:num B ns*num B ns≠0:=by omega
 rw[kbit];obtain⟨_,h1,e1,s1,rfl,n1,C,o1⟩:=kml Q;refine qw e1 (qw (seen qck) ?_);rw[q1]at n1|-;have aa:(digs B (num B ns*num B ns)).length<=3:=(kbg B2 _ 3).2 V;have y:num B (digs B (num B ns*num B ns))=num B ns*num B ns:=kg B2 _;obtain⟨_,h2,e2,j,v,s0,s2,s3,rfl,v1,v2,b,m0,I,K,F⟩:=kxe n1 (kn (qbp V (Nat.pow_le_pow_right (by decide) (by decide)))) (λe=>H (by rw[List.length_eq_zero_iff]at e;exact(kcr B2).1 e)) (by omega) (by rw[y];exact Z) (by rw[y];exact W);refine qw e2 (qw rfl (qw (seen rfl) (qw (seen qcl) ?_)));rw[y]at v2 I K;have ring:RingOk (num B ns*num B ns) (digs B (num B ns*num B ns)).length v:=⟨by omega,by have:=num_lt B1 (kcf B2 (num B ns*num B ns));rwa[y]at this,W,Z,v1,v2,rfl⟩
 have f1:digs B (B^(1*(digs B (num B ns*num B ns)).length)%(num B ns*num B ns))=form (num B ns*num B ns) (digs B (num B ns*num B ns)).length 1:=by unfold form;rw[Nat.one_mul,Nat.one_mul,B_pow2]
 have f2:B^(2*(digs B (num B ns*num B ns)).length)=2^(64*(digs B (num B ns*num B ns)).length)*2^(64*(digs B (num B ns*num B ns)).length):=by rw[Nat.two_mul,Nat.pow_add,B_pow2]
 rw[f1]at I;rw[f2]at K;have it:=kxb ring c3 ne.lt c4 c5;rw[kq7 U.lt c2]at it;obtain⟨_,h3,e3,s4,rfl,n4,g4,o4⟩:=kwn b m0 I K (U.grow (C.trans F)) (ne.grow (C.trans F)) it;refine qw e3 (qw rfl (qw (seen qck) (qw (seen qcl) ?_)));refine qu ⟨s4,rfl,?_,(C.trans F).trans g4,o4.of_le (C.trans F)⟩;unfold powN;rw[y];exact n4
inductive ktj
 | fn (x1:List Nat) (x2:List Nat)
 | no
abbrev kxy:=List Nat
noncomputable def ku4(x1 x2:List Nat):Option (ktj⊕kxy):=(need (powOk x2 x1 (kbd x1))).bind λy=>some (.inr (powN x2 x1 (kbd x1)))
noncomputable def kza:ktj->Option (ktj⊕kxy)
 | .fn x1 x2=>ku4 x1 x2
 | .no=>none
inductive kj3
 | fn (x1:List Nat) (x2:List Nat) (x3:List Nat)
 | no
abbrev kg6:=List Nat×Int
noncomputable def kmm(x1 x2 x3:List Nat):Option (kj3⊕kg6):=cond (!((kz x1))) (some (.inr ([],1))) (cond (!((kc6 x1 x2))) (some (.inr ([],10))) (cond (!((kbr x3 x1 x1))) (some (.inr ([],1))) ((need (kov x1 x3 x1)).bind λy=>some (.inr ((ko4 x1 (kfp x1 x2) (powN x3 x1 (kbd x1))),0)))))
noncomputable def ks4:kj3->Option (kj3⊕kg6)
 | .fn x1 x2 x3=>kmm x1 x2 x3
 | .no=>none
@[reducible] def kug(h0:AH)(r:kg6)(v:AV)(h':AH):Prop:=∃s1:Sl,v=.tup [s1.v,.i r.2]/\Nats h' s1 r.1/\Grow h0 h'/\Own h0 s1
def kvq(r:kg6):kj3->Prop
 | .fn x1 x2 x3=>∀{h:AH}{a1:Sl}{a2:Sl}{a3:Sl},Nats h a1 x1->Nats h a2 x2->Nats h a3 x3->Runs (go (.fn kko [a1.v,a2.v,a3.v]) h) (kug h r)
 | .no=>True
theorem k9a{r:kg6}{o:kj3⊕kg6}{x1 x2 x3:List Nat}(e:kmm x1 x2 x3=some o)(C:GoodS (kvq r) r o):kvq r (.fn x1 x2 x3):=by
 intro h a1 a2 a3 n1 n2 n3;rw[kbfx];unfold kmm at e;obtain⟨_,H4,e4,rfl,H⟩:=krr n1;refine qw e4 (qw (seen rfl) ?_);refine qba (λk5=>?_) (λk5=>?_)
 ·replace e:=(condT k5).symm.trans e;cases e;cases C;exact qu ⟨(⟨none,0,.is 0⟩:Sl),rfl,(qq _),H,(qp _)⟩
 ·replace e:=(condF k5).symm.trans e;obtain⟨_,H6,e6,rfl,W⟩:=kbe9 (n1.grow H) (n2.grow H);refine qw e6 (qw (seen rfl) ?_);refine qba (λk7=>?_) (λk7=>?_)
  ·replace e:=(condT k7).symm.trans e;cases e;cases C;exact qu ⟨(⟨none,0,.is 0⟩:Sl),rfl,(qq _),(H.trans W),(qp _)⟩
  ·replace e:=(condF k7).symm.trans e;obtain⟨_,H8,e8,rfl,g8⟩:=k3a (n3.grow (H.trans W)) (n1.grow (H.trans W)) (n1.grow (H.trans W));refine qw e8 (qw (seen rfl) ?_);refine qba (λk9=>?_) (λk9=>?_)
   ·replace e:=(condT k9).symm.trans e;cases e;cases C;have F:=((H.trans W).trans g8);exact qu ⟨(⟨none,0,.is 0⟩:Sl),rfl,(qq _),F,(qp _)⟩
   ·replace e:=(condF k9).symm.trans e;have F:=((H.trans W).trans g8);have y:=n1.grow F;have K:=n2.grow F;obtain⟨_,an,ac,ap,rfl,ad,I,aq⟩:=k2a y K;refine qw ac (qw (seen qck) ?_);have Z:=(F.trans I);have Q:=n3.grow Z;obtain⟨U,ae,e⟩:=qbs.1 e;obtain⟨_,ar,af,au,rfl,ag,V,aw⟩:=kbg0 (y.grow I) Q (y.grow I)  U.down;refine qw af (qw (seen qck) ?_);obtain⟨_,ax,ah,ai,rfl,aj,ak,al⟩:=kbgt (y.grow (I.trans V)) (ad.grow V) ag;refine qw ah (qw (seen qck) ?_);cases e;cases C;have aa:=(Z.trans V);have am:=(aa.trans ak);exact qu ⟨ai,rfl,aj,am,(al.of_le aa)⟩
theorem kbfv{s:kj3}{r:kg6}(C:Iter ks4 s r):kvq r s:=qbe (λs o e y=>by
 cases s with
 | fn x1 x2 x3=>exact @k9a _ _ x1 x2 x3 e y
 | no=>exact True.intro
 ) C
theorem kbdj{h:AH}{a1 a2 a3:Sl}{x1 x2 x3:List Nat}(n1:Nats h a1 x1)(n2:Nats h a2 x2)(y:Nats h a3 x3){r:kg6}(q:runP ks4 (.fn x1 x2 x3)=some r):Runs (go (.fn kko [a1.v,a2.v,a3.v]) h) (kug h r):=kbfv (kd5 q) n1 n2 y
inductive krz
 | fn (x1:List Nat) (x2:List Nat) (x3:List Nat)
 | no
abbrev kwz:=List Nat×Int
noncomputable def kti(x1 x2 x3:List Nat):Option (krz⊕kwz):=cond (!((kz x1))) (some (.inr ([],1))) (cond (!((kc6 x1 x2))) (some (.inr ([],10))) (cond (!((kbr x3 x1 x1))) (some (.inr ([],1))) ((runP kza (.fn x1 x3)).bind λp16=>some (.inr ((kip (kfp x1 x2) p16 (kbd x1)),0)))))
noncomputable def k8d:krz->Option (krz⊕kwz)
 | .fn x1 x2 x3=>kti x1 x2 x3
 | .no=>none
theorem kv8{xs ys:List Nat}(y:rt xs=true)(C:rt ys=true)(h:cmpN xs ys<0):num B xs<num B ys:=by
 rw[kh7 y C]at h;unfold cmp at h;split at h
 ·assumption
 ·split at h<;>simp at h
theorem k44{cs ns bs:List Nat}(h:kbr cs ns bs=true)(F:rt bs=true):rt cs=true/\num B cs<num B bs:=by
 unfold kbr at h;cases y:rt cs with
 | false=>rw[y]at h;cases h
 | true =>
  rw[y]at h;refine⟨rfl,kv8 y F ?_⟩;simp only[Bool.not_true,cond_false]at h;by_cases h0:decide ((cs.length:Int)=0)=true
  ·rw[h0]at h;cases h
  ·rw[Bool.not_eq_true]at h0;rw[h0,cond_false]at h;by_cases C:decide (cmpN cs bs>=0)=true
   ·rw[C]at h;cases h
   ·rw[qbu]at C;omega
section
variable{ns xs es:List Nat}(ln:∀x∈ns,x<B)(le:∀x∈es,x<B)
include ln le
theorem kbeo(m:kz ns=true)(F:rt xs=true)(H:num B xs<num B ns*num B ns)(y:rt es=true)(Q:num B es<=num B ns):kov ns xs es/\powOk xs es (kbd ns):=by
 obtain⟨Z,m2,m3,U⟩:=ku3 ln m;obtain⟨C,I,V,q4⟩:=k1n ln m
 have W:es.length<=8:=by have:=(kbg B2 (num B es) 8).2 (qbq Q (Nat.lt_trans U (by decide)));rwa[kq7 le y]at this
 have h3:(kbd ns).length<=3:=by rw[C];exact(kbg B2 _ 3).2 I
 have K:num B (kbd ns)=num B ns*num B ns:=by rw[C,kg B2]
 refine⟨⟨m,F,H,y,W⟩,F,y,?_,by omega,by rw[K];exact V,by rw[K];exact H⟩;rw[C];exact kn (qbp I (Nat.pow_le_pow_right (by decide) (by decide)))
end
section
variable{ns xs ys:List Nat}(ln:∀x∈ns,x<B)(lx:∀x∈xs,x<B)(ly:∀x∈ys,x<B)
theorem kyr(ln:∀x∈ns,x<B)(lx:∀x∈xs,x<B)(m:kz ns=true)(a:kbr xs ns ns=true):kov ns xs ns/\powOk xs ns (kbd ns):=by obtain⟨y,C,F,H⟩:=ku3 ln m;obtain⟨a1,a2⟩:=k44 a y;refine kbeo ln ln m a1 (qbp a2 ?_) y (qbn _);have:=Nat.mul_le_mul_left (num B ns) (show 1<=num B ns by omega);omega
def encF(ns y C:List Nat):List Nat×Int:=cond (!kz ns) ([],1) (cond (!kc6 ns y) ([],10) (cond (!kbr C ns ns) ([],1) (kip (kfp ns y) (powN C ns (kbd ns)) (kbd ns),0)))
include ln lx
theorem k93(m:kz ns=true)(a:kbr xs ns ns=true):runP kza (.fn ns xs)=some (powN xs ns (kbd ns)):=by refine kc4 (.done ?_);show ku4 _ _=_;unfold ku4;rw[ky (kyr ln lx m a).2];rfl
theorem k99(y:List Nat):Iter ks4 (.fn ns y xs) (encF ns y xs)/\Iter k8d (.fn ns y xs) (encF ns y xs):=by
 refine⟨.done ?_,.done ?_⟩
 ·show kmm _ _ _=_;unfold kmm encF;cases m:kz ns
  ·rfl
  cases p:kc6 ns y
  ·rfl
  cases a:kbr xs ns ns
  ·rfl
  rw[ky (kyr ln lx m a).1];rfl
 ·show kti _ _ _=_;unfold kti encF;cases m:kz ns
  ·rfl
  cases p:kc6 ns y
  ·rfl
  cases a:kbr xs ns ns
  ·rfl
  rw[k93 ln lx m a];rfl
end
section
variable{h:AH}{s t u:Sl}{ns xs ys:List Nat}(n:Nats h s ns)(m:Nats h t xs)(k:Nats h u ys)
include n m k
theorem kzj:Runs (go (.fn kko [s.v,t.v,u.v]) h) (kug h (encF ns xs ys)):=kbdj n m k (kc4 (k99 n.lt k.lt xs).1)
end
theorem enc_5:encF [17947] [5] [1]=([89736],0):=by decide +kernel
end Go.Ab
namespace Go.Num
def Cg(n a b:Nat):Prop:=a%n=b%n
theorem Cg.rfl{n a:Nat}:Cg n a a:=Eq.refl _
theorem Cg.symm{n a b:Nat}(h:Cg n a b):Cg n b a:=Eq.symm h
theorem Cg.trans{n a b c:Nat}(h:Cg n a b)(k:Cg n b c):Cg n a c:=Eq.trans h k
theorem Cg.of_eq{n a b:Nat}(h:a=b):Cg n a b:=by subst h;exact Cg.rfl
theorem Cg.mod{n a:Nat}:Cg n (a%n) a:=Nat.mod_mod _ _
theorem Cg.add{n a b c d:Nat}(h:Cg n a b)(k:Cg n c d):Cg n (a+c) (b+d):=by
 unfold Cg at *
 rw[Nat.add_mod,h,k,<- Nat.add_mod]
theorem Cg.mul{n a b c d:Nat}(h:Cg n a b)(k:Cg n c d):Cg n (a*c) (b*d):=by
 unfold Cg at *
 rw[Nat.mul_mod,h,k,<- Nat.mul_mod]
theorem Cg.pow{n a b:Nat}(h:Cg n a b):∀k:Nat,Cg n (a^k) (b^k)
 | 0=>Cg.rfl
 | k+1=>(h.pow k).mul h
theorem Cg.add_mul{n a b:Nat}:Cg n (a+n*b) a:=by unfold Cg;rw[Nat.add_mul_mod_self_left]
theorem Cg.of_dvd{m n a b:Nat}(d:m∣n)(h:Cg n a b):Cg m a b:=by
 unfold Cg at *
 rw[<- Nat.mod_mod_of_dvd a d,h,Nat.mod_mod_of_dvd b d]
theorem Cg.eq{n a b:Nat}(h:Cg n a b)(y:a<n)(C:b<n):a=b:=by unfold Cg at h;rwa[Nat.mod_eq_of_lt y,Nat.mod_eq_of_lt C]at h
theorem Cg.dvd_sub{n a b:Nat}(h:Cg n a b)(y:b<=a):n∣a-b:=Nat.dvd_of_mod_eq_zero (Nat.sub_mod_eq_zero_of_mod_eq h)
theorem Cg.of_dvd_sub{n a b:Nat}(y:b<=a)(h:n∣a-b):Cg n a b:=by
 obtain⟨c,C⟩:=h;have:a=b+n*c:=by omega
 rw[this];exact Cg.add_mul
theorem Cg.cancel_le{n a b c:Nat}(co:Nat.Coprime n c)(y:b<=a)(h:Cg n (a*c) (b*c)):Cg n a b:=by have C:=h.dvd_sub (Nat.mul_le_mul_right _ y);rw[<- Nat.sub_mul]at C;exact Cg.of_dvd_sub y (Nat.Coprime.dvd_of_dvd_mul_right co C)
theorem Cg.cancel{n a b c:Nat}(co:Nat.Coprime n c)(h:Cg n (a*c) (b*c)):Cg n a b:=by
 rcases Nat.le_total b a with y | y
 ·exact Cg.cancel_le co y h
 ·exact(Cg.cancel_le co y h.symm).symm
theorem Cg.cancel_left{n a b c:Nat}(co:Nat.Coprime n c)(h:Cg n (c*a) (c*b)):Cg n a b:=by rw[Nat.mul_comm c,Nat.mul_comm c]at h;exact h.cancel co
theorem Cg.div{m n a b:Nat}(y:0<m)(h:Cg (m*n) (m*a) (m*b)):Cg n a b:=by
 unfold Cg at *
 rw[Nat.mul_mod_mul_left,Nat.mul_mod_mul_left]at h;exact Nat.eq_of_mul_eq_mul_left y h
theorem Cg.times{m n a b:Nat}(h:Cg n a b):Cg (m*n) (m*a) (m*b):=by
 unfold Cg at *
 rw[Nat.mul_mod_mul_left,Nat.mul_mod_mul_left,h]
theorem Cg.cancel_add{n a b c:Nat}(h:Cg n (c+a) (c+b)):Cg n a b:=by
 rcases Nat.le_total b a with y | y
 ·refine Cg.of_dvd_sub y ?_;have:=h.dvd_sub (by omega);rwa[Nat.add_sub_add_left]at this
 ·refine(Cg.of_dvd_sub y ?_).symm;have:=h.symm.dvd_sub (by omega);rwa[Nat.add_sub_add_left]at this
theorem Cg.both{m n a b:Nat}(co:Nat.Coprime m n)(h:Cg m a b)(k:Cg n a b):Cg (m*n) a b:=by
 rcases Nat.le_total b a with y | y
 ·exact Cg.of_dvd_sub y (co.mul_dvd_of_dvd_of_dvd (h.dvd_sub y) (k.dvd_sub y))
 ·exact(Cg.of_dvd_sub y (co.mul_dvd_of_dvd_of_dvd (h.symm.dvd_sub y) (k.symm.dvd_sub y))).symm
def prodL:List Nat->Nat
 | []=>1
 | x::xs=>x*prodL xs
theorem k4i{l m:List Nat}(h:l.Perm m):prodL l=prodL m:=by
 induction h with
 | nil=>rfl
 | cons x _ ih=>rw[prodL,prodL,ih]
 | swap x y l=>simp only[prodL];rw[Nat.mul_left_comm]
 | trans _ _ i j=>rw[i,j]
theorem kru:∀{l m:List Nat},l.Nodup->(∀x∈l,x∈m)->l.length=m.length->l.Perm m
 | [],m,_,_,h=>by
  have:m=[]:=List.length_eq_zero_iff.1 h.symm;subst this;exact .nil
 | x::l,m,H,hs,h=>by
  have C:x∈m:=hs x (by simp);obtain⟨I,K⟩:=List.nodup_cons.1 H;have Q:(m.erase x).length=l.length:=by rw[List.length_erase_of_mem C,<- h];simp
  refine List.Perm.trans (List.Perm.cons x (kru K (λy F=>?_) Q.symm)) (List.perm_cons_erase C).symm;have:y≠x:=λe=>I (e▸F);exact(List.mem_erase_of_ne this).2 (hs y (by simp[F]))
def IsPrime(p:Nat):Prop:=2<=p/\∀d,d∣p->d=1\/d=p
theorem IsPrime.coprime{p a:Nat}(h:IsPrime p)(y:¬p∣a):Nat.Coprime p a:=by
 rcases h.2 _ (Nat.gcd_dvd_left p a)with e | e
 ·exact e
 ·exact absurd (e▸Nat.gcd_dvd_right p a) y
theorem IsPrime.dvd_mul{p a b:Nat}(h:IsPrime p)(d:p∣a*b):p∣a\/p∣b:=by
 by_cases y:p∣a
 ·exact .inl y
 ·exact .inr ((h.coprime y).dvd_of_dvd_mul_left d)
theorem k3x{p a:Nat}:∀l:List Nat,Cg p (prodL (l.map λi=>a*i%p)) (a^l.length*prodL l)
 | []=>Cg.of_eq (by simp[prodL])
 | x::l=>by have:=(Cg.mod (n:=p) (a:=a*x)).mul (k3x (p:=p) (a:=a) l);refine this.trans (Cg.of_eq ?_);rw[List.length_cons,Nat.pow_succ,prodL];simp only[Nat.mul_assoc,Nat.mul_comm,Nat.mul_left_comm]
theorem k1s{p:Nat}(h:IsPrime p):∀l:List Nat,(∀x∈l,¬p∣x)->¬p∣prodL l
 | [],_,d=>by
  have:=Nat.le_of_dvd (by decide) d;have:=h.1;simp[prodL]at *
  omega
 | x::l,C,d=>by
  rcases h.dvd_mul d with e | e
  ·exact C x (by simp) e
  ·exact k1s h l (λy F=>C y (by simp[F])) e
theorem kr0{f:Nat->Nat}:∀{l:List Nat},l.Nodup->(∀x∈l,∀y∈l,f x=f y->x=y)->(l.map f).Nodup
 | [],_,_=>by simp
 | x::l,H,C=>by obtain⟨I,K⟩:=List.nodup_cons.1 H;rw[List.map_cons,List.nodup_cons];refine⟨λQ=>?_,kr0 K λa U b V=>C a (by simp[U]) b (by simp[V])⟩;obtain⟨y,F,e⟩:=List.mem_map.1 Q;exact I (C y (by simp[F]) x (by simp) e▸F)
theorem fermat{p a:Nat}(h:IsPrime p)(H:¬p∣a):Cg p (a^(p-1)) 1:=by
 have hp:=h.1;have I:(List.range' 1 (p-1)).length=p-1:=by simp
 have C:∀x,x∈List.range' 1 (p-1)↔1<=x/\x<p:=λx=>by rw[List.mem_range'_1];omega
 have nd:∀x,1<=x/\x<p->¬p∣x:=λx F d=>by have:=Nat.le_of_dvd (by omega) d;omega
 have inj:∀x∈List.range' 1 (p-1),∀y∈List.range' 1 (p-1),a*x%p=a*y%p->x=y:=λx F y K e=>by have Q:=(C x).1 F;have U:=(C y).1 K;exact(Cg.cancel_left (h.coprime H) e).eq Q.2 U.2
 have V:((List.range' 1 (p-1)).map λi=>a*i%p).Perm (List.range' 1 (p-1)):=by
  refine kru (kr0 List.nodup_range' inj) (λz W=>?_) (by simp);obtain⟨x,F,e⟩:=List.mem_map.1 W;subst e;rw[C];refine⟨?_,Nat.mod_lt _ (by omega)⟩;rcases Nat.eq_zero_or_pos (a*x%p)with e | e
  ·rcases h.dvd_mul (Nat.dvd_of_mod_eq_zero e)with d | d
   ·exact absurd d H
   ·exact absurd d (nd x ((C x).1 F))
  ·exact e
 have e:=k3x (p:=p) (a:=a) (List.range' 1 (p-1));rw[k4i V,I]at e;have co:Nat.Coprime p (prodL (List.range' 1 (p-1))):=h.coprime (k1s h _ λx F=>nd x ((C x).1 F));refine(Cg.cancel co ?_).symm;rw[Nat.one_mul];exact e
theorem binom1(n x:Nat):∀k:Nat,Cg (n*n) ((1+n*x)^k) (1+n*(x*k))
 | 0=>Cg.of_eq (by simp)
 | k+1=>by
  have:=(binom1 n x k).mul (Cg.rfl (n:=n*n) (a:=1+n*x));refine this.trans ?_
  have e:(1+n*(x*k))*(1+n*x)=1+n*(x*(k+1))+n*n*(x*k*x):=by rw[Nat.add_mul,Nat.mul_add,Nat.mul_add,Nat.mul_add];simp only[Nat.mul_assoc,Nat.mul_comm,Nat.mul_left_comm,Nat.one_mul,Nat.mul_one,Nat.mul_add];omega
  rw[e];exact Cg.add_mul
theorem k9v{n f:Nat}(co:Nat.Coprime n f)(C:1<n):∃g,g<n/\Cg n (f*g) 1:=by
 have F:((List.range n).map λi=>f*i%n).Perm (List.range n):=by
  refine kru (kr0 List.nodup_range λx H y I e=>?_) (λz K=>?_) (by simp)
  ·exact(Cg.cancel_left co e).eq (List.mem_range.1 H) (List.mem_range.1 I)
  ·obtain⟨x,_,e⟩:=List.mem_map.1 K;subst e;exact List.mem_range.2 (Nat.mod_lt _ (by omega))
 have Q:1∈(List.range n).map λi=>f*i%n:=F.mem_iff.2 (List.mem_range.2 C);obtain⟨g,U,e⟩:=List.mem_map.1 Q;exact⟨g,List.mem_range.1 U,by unfold Cg;rw[e,Nat.mod_eq_of_lt C]⟩
def Hid(n f c m:Nat):Prop:=m<n/\Cg (n*n) (c^f) (1+n*(m*f))
theorem Hid.cg{n f c d m:Nat}(h:Hid n f c m)(e:Cg (n*n) c d):Hid n f d m:=⟨h.1,(e.symm.pow f).trans h.2⟩
theorem Hid.uniq{n f c x y:Nat}(co:Nat.Coprime n f)(C:0<n)(h:Hid n f c x)(k:Hid n f c y):x=y:=by have e:=(h.2.symm.trans k.2).cancel_add;exact((e.div C).cancel co).eq h.1 k.1
theorem Hid.mul{n f c d x y:Nat}(C:0<n)(h:Hid n f c x)(k:Hid n f d y):Hid n f (c*d) ((x+y)%n):=by
 refine⟨Nat.mod_lt _ C,?_⟩;rw[Nat.mul_pow];refine(h.2.mul k.2).trans ?_
 have e:(1+n*(x*f))*(1+n*(y*f))=1+n*((x+y)*f)+n*n*(x*f*(y*f)):=by rw[Nat.add_mul,Nat.mul_add,Nat.mul_add,Nat.add_mul x y,Nat.mul_add];simp only[Nat.mul_assoc,Nat.mul_comm,Nat.mul_left_comm,Nat.one_mul,Nat.mul_one];omega
 rw[e];refine Cg.add_mul.trans (Cg.rfl.add (Cg.times ?_));exact(Cg.mod.symm).mul Cg.rfl
theorem Hid.shown{n f m:Nat}(h:m<n):Hid n f (m*n+1) m:=⟨h,by rw[Nat.add_comm,Nat.mul_comm m n];exact binom1 n m f⟩
structure KeyOk(p q:Nat):Prop where
 hp:IsPrime p
 hq:IsPrime q
 ne:p≠q
 co:Nat.Coprime (p*q) ((p-1)*(q-1))
theorem KeyOk.swap{p q:Nat}(k:KeyOk p q):KeyOk q p:=⟨k.hq,k.hp,λe=>k.ne e.symm,by rw[Nat.mul_comm q p,Nat.mul_comm (q-1)];exact k.co⟩
section
variable{p q:Nat}(k:KeyOk p q)
include k
theorem KeyOk.not_dvd:¬p∣q:=λd=>by
 rcases k.hq.2 p d with e | e
 ·have:=k.hp.1;omega
 ·exact k.ne e
theorem KeyOk.copq:Nat.Coprime p q:=k.hp.coprime k.not_dvd
theorem KeyOk.pos:1<p*q:=by have:=Nat.mul_le_mul k.hp.1 k.hq.1;omega
theorem KeyOk.cof:Nat.Coprime p (q-1):=Nat.Coprime.coprime_dvd_left (Nat.dvd_mul_right p q) (Nat.Coprime.coprime_dvd_right (Nat.dvd_mul_left (q-1) (p-1)) k.co)
theorem KeyOk.ndq:¬p∣q*(p-1):=λd=>by
 rcases k.hp.dvd_mul d with d | d
 ·exact k.not_dvd d
 ·have:=Nat.le_of_dvd (by have:=k.hp.1;omega) d;have:=k.hp.1;omega
theorem KeyOk.unit{c:Nat}(h:Nat.Coprime c (p*q)):¬p∣c:=λd=>by have y:p∣Nat.gcd c (p*q):=Nat.dvd_gcd d (Nat.dvd_mul_right p q);rw[h]at y;have:=Nat.le_of_dvd (by decide) y;have:=k.hp.1;omega
theorem KeyOk.euler{c:Nat}(h:Nat.Coprime c (p*q)):Cg (p*q) (c^((p-1)*(q-1))) 1:=by
 refine Cg.both k.copq ?_ ?_
 ·rw[Nat.pow_mul];refine((fermat k.hp (k.unit h)).pow _).trans (Cg.of_eq (Nat.one_pow _))
 ·rw[Nat.mul_comm,Nat.pow_mul];refine((fermat k.hq (k.swap.unit (by rw[Nat.mul_comm];exact h))).pow _).trans (Cg.of_eq (Nat.one_pow _))
omit k in
theorem kvl{n u:Nat}(y:1<n)(h:Cg n u 1):u=1+n*(u/n):=by unfold Cg at h;rw[Nat.mod_eq_of_lt y]at h;have:=Nat.div_add_mod u n;omega
theorem KeyOk.hid{c:Nat}(h:Nat.Coprime c (p*q)):∃m,Hid (p*q) ((p-1)*(q-1)) c m:=by
 obtain⟨g,F,y⟩:=k9v k.co k.pos;have e:=kvl k.pos (k.euler h);generalize H:(p-1)*(q-1)=f at *
 generalize I:p*q=n at *
 refine⟨c^f/n*g%n,Nat.mod_lt _ (by have:=k.pos;omega),?_⟩;refine(Cg.of_eq e).trans (Cg.rfl.add (Cg.times ?_));refine Cg.trans ?_ ((Cg.mod.symm).mul Cg.rfl);have C:c^f/n*g*f=c^f/n*(f*g):=by simp only[Nat.mul_assoc,Nat.mul_comm,Nat.mul_left_comm]
 rw[C];have:=(Cg.rfl (n:=n) (a:=c^f/n)).mul y.symm;rwa[Nat.mul_one]at this
theorem KeyOk.hider{r:Nat}(h:Nat.Coprime r (p*q)):Hid (p*q) ((p-1)*(q-1)) (r^(p*q)) 0:=by
 have e:=kvl k.pos (k.euler h);generalize y:(p-1)*(q-1)=f at *
 generalize C:p*q=n at *
 refine⟨by have:=k.pos;omega,?_⟩;rw[<- Nat.pow_mul,Nat.mul_comm n f,Nat.pow_mul,e];refine(binom1 n _ n).trans ?_;rw[Nat.zero_mul,Nat.mul_zero];have:n*(r^f/n*n)=n*n*(r^f/n):=by simp only[Nat.mul_assoc,Nat.mul_comm,Nat.mul_left_comm]
 rw[this];exact Cg.add_mul
def sayP(p x:Nat):Nat:=(x%(p*p))^(p-1)%(p*p)/p
theorem KeyOk.say{x:Nat}(h:¬p∣x):(x%(p*p))^(p-1)%(p*p)=1+p*sayP p x/\sayP p x<p/\Cg (p*p) (x^(p-1)) (1+p*sayP p x):=by
 have hp:=k.hp.1;have y:Cg (p*p) ((x%(p*p))^(p-1)%(p*p)) (x^(p-1)):=Cg.mod.trans (Cg.mod.pow _);have F:Cg p ((x%(p*p))^(p-1)%(p*p)) 1:=(y.of_dvd (Nat.dvd_mul_right p p)).trans (fermat k.hp h);have C:=kvl (by omega:1<p) F;refine⟨C,?_,?_⟩
 ·unfold sayP;rw[Nat.div_lt_iff_lt_mul (by omega)];exact Nat.mod_lt _ (Nat.mul_pos (by omega) (by omega))
 ·exact y.symm.trans (Cg.of_eq C)
theorem KeyOk.say_one:Cg p (sayP p (1*(p*q)+1)) (q*(p-1)):=by
 have hp:=k.hp.1
 have nd:¬p∣1*(p*q)+1:=λd=>by have:p∣1:=(Nat.dvd_add_right (Nat.dvd_trans (Nat.dvd_mul_right p q) (Nat.dvd_mul_left _ _))).1 d;have:=Nat.le_of_dvd (by decide) this;omega
 obtain⟨_,_,e⟩:=k.say nd;have y:1*(p*q)+1=1+p*q:=by omega
 rw[y]at e|-;exact((e.symm.trans (binom1 p q (p-1))).cancel_add).div (by omega)
theorem KeyOk.part{c m:Nat}(h:Nat.Coprime c (p*q))(d:Hid (p*q) ((p-1)*(q-1)) c m):Cg p (sayP p c) (m*sayP p (1*(p*q)+1)):=by
 have hp:=k.hp.1;obtain⟨_,_,e⟩:=k.say (k.unit h)
 have C:Cg (p*p) (c^((p-1)*(q-1))) (1+p*(sayP p c*(q-1))):=by rw[Nat.pow_mul];exact(e.pow _).trans (binom1 p _ _)
 have F:Cg (p*p) (c^((p-1)*(q-1))) (1+p*q*(m*((p-1)*(q-1)))):=d.2.of_dvd (Nat.mul_dvd_mul (Nat.dvd_mul_right p q) (Nat.dvd_mul_right p q));have e3:=(C.symm.trans F).cancel_add;rw[Nat.mul_assoc]at e3;have y:=e3.div (by omega);have H:q*(m*((p-1)*(q-1)))=m*(q*(p-1))*(q-1):=by simp only[Nat.mul_assoc,Nat.mul_comm,Nat.mul_left_comm]
 rw[H]at y;refine(y.cancel k.cof).trans ?_;exact Cg.rfl.mul k.say_one.symm
theorem KeyOk.say_unit:Nat.Coprime p (sayP p (1*(p*q)+1)):=k.hp.coprime λd=>k.ndq (by have e:=k.say_one;unfold Cg at e;rw[Nat.mod_eq_zero_of_dvd d]at e;exact Nat.dvd_of_mod_eq_zero e.symm)
theorem KeyOk.found{c m i:Nat}(h:Nat.Coprime c (p*q))(d:Hid (p*q) ((p-1)*(q-1)) c m)(y:Cg p (sayP p (1*(p*q)+1)*i) 1):sayP p c*i%p=m%p:=by have e:=(k.part h d).mul (Cg.rfl (n:=p) (a:=i));refine e.trans ?_;rw[Nat.mul_assoc];have:=(Cg.rfl (n:=p) (a:=m)).mul y;rwa[Nat.mul_one]at this
end
def Least(n d:Nat):Prop:=2<=d/\d∣n/\∀e,2<=e->e∣n->d<=e
theorem Least.uniq{n d e:Nat}(a:Least n d)(b:Least n e):d=e:=Nat.le_antisymm (a.2.2 e b.1 b.2.1) (b.2.2 d a.1 a.2.1)
theorem k0u{n:Nat}(h:2<=n):∃d,Least n d:=by
 have key:∀k,(∃d,d<=k/\2<=d/\d∣n)->∃d,Least n d:=by
  intro k
  induction k with
  | zero=>rintro ⟨d,C,y,_⟩;omega
  | succ k ih =>
   rintro ⟨d,C,y,F⟩
   by_cases hk:∃e,e<=k/\2<=e/\e∣n
   ·exact ih hk
   ·refine⟨d,y,F,λe H I=>?_⟩;rcases Nat.lt_or_ge e d with h | h
    ·exact absurd ⟨e,by omega,H,I⟩ hk
    ·exact h
 exact key n ⟨n,Nat.le_refl _,h,Nat.dvd_refl _⟩
noncomputable def leastN(n:Nat):Nat:=by
 classical
 exact if h:∃d,Least n d then h.choose else 0
theorem kid{n d:Nat}(h:Least n d):leastN n=d:=by unfold leastN;have y:∃d,Least n d:=⟨d,h⟩;rw[dif_pos y];exact y.choose_spec.uniq h
theorem k45{n:Nat}(h:2<=n):Least n (leastN n):=by obtain⟨d,y⟩:=k0u h;rw[kid y];exact y
theorem Least.prime{n d:Nat}(h:Least n d):IsPrime d:=⟨h.1,λe y=>by
 rcases Nat.eq_zero_or_pos e with h0 | h0
 ·rw[h0]at y;have:=Nat.eq_zero_of_zero_dvd y;have:=h.1;omega
 ·rcases Nat.lt_or_ge e 2 with C | C
  ·left;omega
  ·right
   exact Nat.le_antisymm (Nat.le_of_dvd (by have:=h.1;omega) y) (h.2.2 e C (Nat.dvd_trans y h.2.1))⟩
theorem klf{n:Nat}(h:2<=n)(no:∀e,2<=e->e*e<=n->¬e∣n):Least n n:=by
 obtain⟨d,y⟩:=k0u h;rcases Nat.lt_or_ge n (d*d)with F | F
 ·obtain⟨c,C⟩:=y.2.1
  have:c=1:=by
   rcases Nat.lt_or_ge c 2 with H | H
   ·rcases Nat.eq_zero_or_pos c with h0 | h0
    ·rw[h0]at C;omega
    ·omega
   ·have I:=y.2.2 c H ⟨d,by rw[C,Nat.mul_comm]⟩;have:d*d<=d*c:=Nat.mul_le_mul_left _ I;omega
  rw[this,Nat.mul_one]at C;rw[<- C]at y;exact y
 ·exact absurd y.2.1 (no d y.1 F)
theorem kpy{n d:Nat}(h:2<=d)(y:d∣n)(no:∀e,2<=e->e<d->¬e∣n):Least n d:=⟨h,y,λe C F=>by
 rcases Nat.lt_or_ge e d with h' | h'
 ·exact absurd F (no e C h')
 ·exact h'⟩
theorem kyl{n:Nat}(h:2<=n):leastN n=n↔IsPrime n:=by
 constructor
 ·intro e;have:=(k45 h).prime;rwa[e]at this
 ·intro hp;refine kid ⟨h,Nat.dvd_refl _,λe F y=>?_⟩;rcases hp.2 e y with C | C<;>omega
end Go.Num
set_option maxRecDepth 10000
namespace Go.Ab
open IntKind (wrap)
open Go.Proofs Go.Num
section
variable{h:AH}{l i2 i3 n:Nat}
noncomputable def lnote(st:LoopState)(y:Option Code)(n i2 i3:Nat)(g:AV):ABlk:=kc9 ktf kct 0 st y [(0,.int .u64 (n:Int)),(1,.p (.new i2 0)),(2,.p (.new i3 0)),(4,.int .u64 (n:Int)),(5,g)]
noncomputable def lfin(h:AH)(l n i2 i3:Nat)(g:AV)(d:Nat):AH:=(h.upd i3 [.int .u64 (d:Int)] kf).setBlk l (lnote .done (some .ret) n i2 i3 g)
theorem rdU{h:AH}{i:Nat}{x:Int}{e:TypeId}(b:h.has i [.int .u64 x] e):(h.cell (.new i 0)).bind (AV.asInt .u64)=some x:=b.rd0 rfl rfl
theorem wrapSq{d:Nat}(y:d<4294967296):wrap .u64 ((d:Int)*(d:Int))=((d*d:Nat):Int):=by rw[<- Int.natCast_mul,wrapU];have:d*d<18446744073709551616:=qbp (Nat.mul_lt_mul'' y y) (by decide);omega
theorem kpo{g:AV}(C:h.blks[l]?=some (lnote .ready none n i2 i3 g))(b2:h.has i2 [.int .u64 (n:Int)] kf)(b3:h.has i3 [.int .u64 0] kf){d:Nat}(V:0<d) :
  go (.round l [.int .u64 (d:Int)]) h=if d∣n then some (.bool false,lfin h l n i2 i3 g d)else some (.bool true,h):=by
 have U:l<h.blks.size:=(qca.1 C).1;have n2:i2≠l:=λe=>by rw[e]at b2;rw[AH.has,C]at b2;cases b2
 have H:i3≠l:=λe=>by rw[e]at b3;rw[AH.has,C]at b3;cases b3
 rw[k7e l none _ _ _ _ _ _ _ C,kq2 (h:=h) C,qbr];generalize hq:h.setBlk l _=h';have I:h'.has i2 [.int .u64 (n:Int)] kf:=by rw[AH.has,<- hq,AH.setBlk_ne n2];exact b2
 have K:h'.has i3 [.int .u64 0] kf:=by rw[AH.has,<- hq,AH.setBlk_ne H];exact b3
 have bl:h'.blks[l]?=some (lnote .busy none n i2 i3 g):=by rw[<- hq];exact qbl U
 rw[rdU I,qbr,condF (by rw[qbt];omega)];have F:Int.tmod (n:Int) (d:Int)=((n%d:Nat):Int):=rfl;rw[F];by_cases y:d∣n
 ·rw[if_pos y,condT (by rw[qbu,Nat.mod_eq_zero_of_dvd y];rfl),K.puts_all (vs:=[AV.int .u64 (d:Int)]) rfl,qbr]
  have Q:(h'.upd i3 [AV.int .u64 (d:Int)] kf).blks[l]?=some (lnote .busy none n i2 i3 g):=by simp only[AH.upd];rw[Array.getElem?_setIfInBounds_ne H];exact bl
  rw[kk0 Q]
  have e:(h'.upd i3 [AV.int .u64 (d:Int)] kf)=(h.upd i3 [AV.int .u64 (d:Int)] kf).setBlk l (lnote .busy none n i2 i3 g):=by rw[<- hq];simp only[AH.upd,AH.setBlk];rw[Array.setIfInBounds_comm _ _ H.symm];rfl
  rw[e,AH.setBlk_setBlk];rfl
 ·rw[if_neg y,condF (by rw[qbt];intro e;exact y (Nat.dvd_of_mod_eq_zero (by omega))),kk0 bl];rw[<- hq,AH.setBlk_setBlk];show some (AV.bool true,h.setBlk l (lnote .ready none n i2 i3 g))=_;rw[AH.setBlk_same C]
def Found(h:AH)(l n i2 i3:Nat)(g:AV)(x:Option (AV×AH)):Prop:=(x=some (.tup [],h)/\Least n n)\/x=some (.tup [],lfin h l n i2 i3 g (leastN n))
theorem wheel{g:AV}(I:2<=n)(hn:n<1099511627776)(hb:h.blks[l]?=some (lnote .ready none n i2 i3 g))(b2:h.has i2 [.int .u64 (n:Int)] kf)(b3:h.has i3 [.int .u64 0] kf){Z:Nat}(W:h.has Z [.int .u64 (n:Int)] kf) :
  ∀k d,1048600<=d+6*k->d<=1048600->5<=d->d%6=5->(∀e,2<=e->e<d->¬e∣n)->Found h l n i2 i3 g (go (.pt kb6 kl3 [(0,.func (.yield l) [] []),(1,.p (.new Z 0)),(5,.int .u64 (d:Int))]) h):=by
 intro k
 induction k with
 | zero =>
  intro d h1 h2 h5 h6 no;rw[ks6,rdU W,qbr,wrapSq (by omega)];have:1048600*1048600<=d*d:=Nat.mul_le_mul (by omega) (by omega);rw[condF (by rw[qbt];omega)];refine .inl ⟨rfl,klf I λe C U=>?_⟩
  exact no e C (by
   rcases Nat.lt_or_ge e d with h | h
   ·exact h
   ·have:d*d<=e*e:=Nat.mul_le_mul h h;omega)
 | succ k ih =>
  intro d h1 h2 h5 h6 no;rw[ks6,rdU W,qbr,wrapSq (by omega)];by_cases ac:d*d<=n
  ·rw[condT (by rw[qbu];omega),kpo hb b2 b3 (by omega)]
   have aa:d<1048576:=by
    rcases Nat.lt_or_ge d 1048576 with h | h
    ·exact h
    ·have:1048576*1048576<=d*d:=Nat.mul_le_mul h h;omega
   by_cases H:d∣n
   ·rw[if_pos H,qbr];refine .inr ?_;rw[kid (kpy (by omega) H no)];rfl
   ·rw[if_neg H,qbr];show Found h l n i2 i3 g (((h.cell (.new Z 0)).bind (AV.asInt .u64)).bind _);rw[rdU W,qbr]
    have w2:wrap .u64 ((d:Int)+2)=((d+2:Nat):Int):=by rw[show((d:Int)+2)=((d+2:Nat):Int)from by omega,wrapU];omega
    have w6:wrap .u64 ((d:Int)+6)=((d+6:Nat):Int):=by rw[show((d:Int)+6)=((d+6:Nat):Int)from by omega,wrapU];omega
    rw[w2,w6,wrapSq (by omega)];have F:∀e,e%2=0->¬e∣n:=λe C hv=>no 2 (by omega) (by omega) (Nat.dvd_trans (Nat.dvd_of_mod_eq_zero C) hv);have K:∀e,e%3=0->¬e∣n:=λe C hv=>no 3 (by omega) (by omega) (Nat.dvd_trans (Nat.dvd_of_mod_eq_zero C) hv)
    have Q:∀e,2<=e->e<d+2->¬e∣n:=λe C hl hv=>by
     rcases Nat.lt_or_ge e d with h | h
     ·exact no e C h hv
     ·rcases Nat.lt_or_ge d e with h' | h'
      ·exact F e (by omega) hv
      ·have:e=d:=by omega
       subst this;exact H hv
    by_cases ad:(d+2)*(d+2)<=n
    ·rw[condT (by rw[qbu];omega),kpo hb b2 b3 (by omega)];by_cases y:d+2∣n
     ·rw[if_pos y,qbr];refine .inr ?_;rw[kid (kpy (by omega) y Q)];rfl
     ·rw[if_neg y,qbr];refine ih (d+6) (by omega) (by omega) (by omega) (by omega) λe C hl hv=>?_;rcases Nat.lt_or_ge e (d+2)with h | h
      ·exact Q e C h hv
      ·have:e=d+2\/e=d+3\/e=d+4\/e=d+5:=by omega
       rcases this with rfl | rfl | rfl | rfl
       ·exact y hv
       ·exact F _ (by omega) hv
       ·exact K _ (by omega) hv
       ·exact F _ (by omega) hv
    ·rw[condF (by rw[qbt];omega)]
     have V:Least n n:=klf I λe C U hv=>by
      rcases Nat.lt_or_ge e (d+2)with h | h
      ·exact Q e C h hv
      ·have:(d+2)*(d+2)<=e*e:=Nat.mul_le_mul h h;omega
     refine .inl ⟨?_,V⟩;rw[ks6,rdU W,qbr,wrapSq (by omega)];have:(d+2)*(d+2)<=(d+6)*(d+6):=Nat.mul_le_mul (by omega) (by omega);rw[condF (by rw[qbt];omega)]
  ·rw[condF (by rw[qbt];omega)];refine .inl ⟨rfl,klf I λe C U hv=>?_⟩;rcases Nat.lt_or_ge e d with h | h
   ·exact no e C h hv
   ·have:d*d<=e*e:=Nat.mul_le_mul h h;omega
theorem small{g:AV}(y:2<=n)(hn:n<1099511627776)(I:h.blks[l]?=some (lnote .ready none n i2 i3 g))(b2:h.has i2 [.int .u64 (n:Int)] kf)(b3:h.has i3 [.int .u64 0] kf){F j:Nat}(K:h.has F [.int .u64 (n:Int)] kf)(Z:h.has j [.int .u64 2,.int .u64 3] kf) :
  Found h l n i2 i3 g (go (.pt kb6 khm [(0,.func (.yield l) [] []),(1,.p (.new F 0)),(6,(⟨some (.new j 0),2,.is 2⟩:Sl).v),(7,.i 2),(8,.i 0)]) h):=by
 have r2:=kpo (d:=2) I b2 b3 (by decide);have r3:=kpo (d:=3) I b2 b3 (by decide);have e0:idx (⟨some (.new j 0),2,.is 2⟩:Sl).ref (⟨some (.new j 0),2,.is 2⟩:Sl).len 0 1=some (.new j 0):=rfl;have e1:idx (⟨some (.new j 0),2,.is 2⟩:Sl).ref (⟨some (.new j 0),2,.is 2⟩:Sl).len 1 1=some (.new j 1):=rfl;have l0:(h.cell (Ref.new j 0)).bind (AV.asInt .u64)=some 2:=by rw[Z.cell];rfl
 have l1:(h.cell (Ref.new j 1)).bind (AV.asInt .u64)=some 3:=by rw[Z.cell];rfl
 have w4:wrap .u64 ((2:Int)*2)=4:=by decide
 have w9:wrap .u64 ((3:Int)*3)=9:=by decide
 have i1:wrap .i64 ((0:Int)+1)=1:=by decide
 have Q:wrap .i64 ((1:Int)+1)=2:=by decide
 rw[ksd,condT (show decide ((0:Int)<2)=true from rfl),e0,qbr,l0,qbr,rdU K,qbr,w4];by_cases h4:n<4
 ·rw[condT (by rw[qbu];omega)];refine .inl ⟨rfl,klf y λe U V=>?_⟩;have:2*2<=e*e:=Nat.mul_le_mul U U;omega
 ·rw[condF (by rw[qbt];omega),show(2:Int)=((2:Nat):Int)from rfl,r2];by_cases C:2∣n
  ·rw[if_pos C,qbr];refine .inr ?_;rw[kid (d:=2) (kpy (by decide) C λe h1 h2=>by omega)];rfl
  ·rw[if_neg C,qbr];show Found h l n i2 i3 g (go (.pt kb6 khm [(0,.func (.yield l) [] []),(1,.p (.new F 0)),(6,(⟨some (.new j 0),2,.is 2⟩:Sl).v),(7,.i 2),(8,.i (wrap .i64 ((0:Int)+1)))]) h);rw[i1,ksd,condT (show decide ((1:Int)<2)=true from rfl),e1,qbr,l1,qbr,rdU K,qbr,w9];by_cases h9:n<9
   ·rw[condT (by rw[qbu];omega)];refine .inl ⟨rfl,klf y λe U V=>?_⟩;rcases Nat.lt_or_ge e 3 with h | h
    ·have:e=2:=by omega
     subst this;exact C
    ·have:3*3<=e*e:=Nat.mul_le_mul h h;omega
   ·rw[condF (by rw[qbt];omega),show(3:Int)=((3:Nat):Int)from rfl,r3];by_cases H:3∣n
    ·rw[if_pos H,qbr];refine .inr ?_
     have W:∀e,2<=e->e<3->¬e∣n:=λe h1 h2=>by
      have:e=2:=by omega
      subst this;exact C
     rw[kid (d:=3) (kpy (by decide) H W)];rfl
    ·rw[if_neg H,qbr];show Found h l n i2 i3 g (go (.pt kb6 khm [(0,.func (.yield l) [] []),(1,.p (.new F 0)),(6,(⟨some (.new j 0),2,.is 2⟩:Sl).v),(7,.i 2),(8,.i (wrap .i64 ((1:Int)+1)))]) h);rw[Q,ksd,condF (show decide ((2:Int)<2)=false from rfl)];refine wheel y hn I b2 b3 K 174766 5 (by omega) (by omega) (by omega) (by omega) λe h1 h2 hv=>?_;have:e=2\/e=3\/e=4:=by omega
     rcases this with rfl | rfl | rfl
     ·exact C hv
     ·exact H hv
     ·exact C (Nat.dvd_trans (by decide) hv)
end
theorem a_none{a1:Int}{a2 a3:Ref}{a4:Int}{a5:AV}{h:AH}:go (.pt kct (((none:Option Code).map Item.code).toList++kls) [(0,.int .u64 a1),(1,.ptr (some a2)),(2,.ptr (some a3)),(4,.int .u64 a4),(5,a5)]) h =
 ((h.cell a2).bind (AV.asInt .u64)).bind λC=>(h.puts a3 [.int .u64 C]).bind λy=>((y.cell a3).bind (AV.asInt .u64)).bind λF=>some (.int .u64 F,y):=k6y a1 a2 a3 a4 a5 h
theorem kbcz{n:Nat}(Z:2<=n)(hn:n<1099511627776)(h:AH):Runs (go (.fn kct [.int .u64 (n:Int)]) h) λv h'=>v=.int .u64 ((leastN n:Nat):Int)/\Grow h h':=by
 rw[kbhw];refine qx λC b1 g1=>qx λI b2 g2=>?_;have V:=g2.has b1;refine qw (rdU V) ?_;rw[k7q];show Runs (newK I (.cells [.int .u64 (n:Int)] kf) λaa y=>go (.pt kct ktl [(0,.int .u64 (n:Int)),(1,.p (.new h.blks.size 0)),(2,.p (.new C.blks.size 0)),(4,.int .u64 (n:Int)),(5,.func (.func kb6) [] [.ptr (some aa)])]) y) _;refine qx λy b3 g3=>?_;rw[kbcv,kp5];refine Runs.newM λQ hb W=>?_;rw[kbif];have c1:Q.has h.blks.size [.int .u64 (n:Int)] kf:=W.has (g3.has V);have c2:Q.has C.blks.size [.int .u64 0] kf:=W.has (g3.has b2);have c3:Q.has I.blks.size [.int .u64 (n:Int)] kf:=W.has b3;have ae:h.blks.size<C.blks.size:=b1.lt;have af:C.blks.size<I.blks.size:=b2.lt;have ag:I.blks.size<y.blks.size:=b3.lt;have ac:y.blks.size<Q.blks.size:=(qca.1 hb).1;have gA:Grow h Q:=((g1.trans g2).trans g3).trans W;generalize hg:(AV.func (.func kb6) [] [AV.ptr (some (Ref.new I.blks.size 0))])=gv at hb;show Runs ((go (.fn kb6 [.func (.yield y.blks.size) [] [],.p (.new I.blks.size 0)]) Q).bind _) _;rw[kbb9];generalize hK:(λq8:AV×AH=>(kc0 y.blks.size q8.2).bind λp9=>go (.pt kct ((p9.1.map Item.code).toList++kls) [(0,.int .u64 (n:Int)),(1,.p (.new h.blks.size 0)),(2,.p (.new C.blks.size 0)),(4,.int .u64 (n:Int)),(5,gv)]) p9.2)=K;show Runs ((newK Q (.cells [.int .u64 2,.int .u64 3] kf) λad F=>(go (.pt kb6 khm [(0,.func (.yield y.blks.size) [] []),(1,.p (.new I.blks.size 0)),(6,(⟨some ad,2,.is 2⟩:Sl).v),(7,.i 2),(8,.i 0)]) F).bind K)) _;refine qx λF b5 H=>?_;have U:F.blks[y.blks.size]?=some (lnote .ready none n h.blks.size C.blks.size gv):=(H.blk _ ac).trans hb;have gB:=gA.trans H;rcases small Z hn U (H.has c1) (H.has c2) (H.has c3) b5 with⟨e,hl⟩ | e
 ·rw[e,<- hK];show Runs ((kc0 y.blks.size F).bind _) _;rw[kos U,qbr,a_none];have d1:(F.setBlk y.blks.size .dead).has h.blks.size [.int .u64 (n:Int)] kf:=by rw[AH.has,AH.setBlk_ne (by omega)];exact H.has c1
  have d2:(F.setBlk y.blks.size .dead).has C.blks.size [.int .u64 0] kf:=by rw[AH.has,AH.setBlk_ne (by omega)];exact H.has c2
  refine qw (rdU d1) (qy d2 rfl λh6 b6 u6=>qw (rdU b6) (qu ⟨by rw[kid hl],?_⟩));exact(gB.setBlk (l:=y.blks.size) (by omega) .dead).updr (by omega) u6
 ·rw[e,<- hK];have f1:(lfin F y.blks.size n h.blks.size C.blks.size gv (leastN n)).blks[y.blks.size]?=some (lnote .done (some .ret) n h.blks.size C.blks.size gv):=qbl (by simp only[AH.upd];simp;exact(qca.1 U).1);show Runs ((kc0 y.blks.size _).bind _) _;rw[k9w f1,qbr,k84]
  have f2:((lfin F y.blks.size n h.blks.size C.blks.size gv (leastN n)).setBlk y.blks.size .dead).has C.blks.size [.int .u64 ((leastN n:Nat):Int)] kf:=by rw[AH.has,AH.setBlk_ne (by omega)];unfold lfin;rw[AH.setBlk_ne (by omega)];exact qn (H.has c2) _ _
  refine qw (rdU f2) (qu ⟨rfl,?_⟩);exact((gB.upd (by omega) _ _).setBlk (by omega) _).setBlk (by omega) _
end Go.Ab
set_option maxRecDepth 10000
namespace Go.Ab
open Go.Proofs Go.Num
theorem kbkn{a:Int}{h:AH}(c:(2:Int)<=a/\a<1099511627776):Runs (go (.fn kct [.int .u64 a]) h) λv h'=>v=.int .u64 ((leastN (Int.toNat a):Nat):Int)/\Grow h h':=by obtain⟨x,rfl⟩:∃x:Nat,a=(x:Int):=⟨a.toNat,by omega⟩;exact kbcz (by omega) (by omega) h
inductive kjx
 | fn (a1:Int)
 | no
abbrev kg7:=Bool
noncomputable def kl8(a1:Int):Option (kjx⊕kg7):=cond (decide (a1<128)) (some (.inr true)) (cond (decide (a1>=1099511627776)) (some (.inr true)) ((need ((2:Int)<=a1/\a1<1099511627776)).bind λy=>some (.inr (!decide ((((leastN (Int.toNat a1):Nat):Int))=a1)))))
noncomputable def k28:kjx->Option (kjx⊕kg7)
 | .fn a1=>kl8 a1
 | .no=>none
@[reducible] def kw3(h0:AH)(r:kg7)(v:AV)(h':AH):Prop:=v=.bool r/\Grow h0 h'
def kso(r:kg7):kjx->Prop
 | .fn a1=>∀{h:AH},Runs (go (.fn kkq [.int .u64 a1]) h) (kw3 h r)
 | .no=>True
theorem kbba{r:kg7}{o:kjx⊕kg7}{a1:Int}(e:kl8 a1=some o)(y:GoodS (kso r) r o):kso r (.fn a1):=by
 intro h;rw[k6v];unfold kl8 at e;refine qba (λF=>?_) (λF=>?_)
 ·replace e:=(condT F).symm.trans e;cases e;cases y;exact qu ⟨rfl,(qk _)⟩
 ·replace e:=(condF F).symm.trans e;refine qba (λH=>?_) (λH=>?_)
  ·replace e:=(condT H).symm.trans e;cases e;cases y;exact qu ⟨rfl,(qk _)⟩
  ·replace e:=(condF H).symm.trans e;obtain⟨C,I,e⟩:=qbs.1 e;obtain⟨_,U,K,rfl,Q⟩:=kbkn  C.down;refine qw K (qw (seen qcl) ?_);cases e;cases y;exact qu ⟨rfl,Q⟩
theorem kbbk{s:kjx}{r:kg7}(C:Iter k28 s r):kso r s:=qbe (λs o e y=>by
 cases s with
 | fn a1=>exact @kbba _ _ a1 e y
 | no=>exact True.intro
 ) C
theorem kbg4{h:AH}{a1:Int}  {r:kg7}(q:runP k28 (.fn a1)=some r):Runs (go (.fn kkq [.int .u64 a1]) h) (kw3 h r):=kbbk (kd5 q)
noncomputable def oddF(a:Int):Bool:=cond (decide (a<128)) true (cond (decide (a>=1099511627776)) true (!decide (((leastN (Int.toNat a):Nat):Int)=a)))
theorem kze{h:AH}(a:Int):Runs (go (.fn kkq [.int .u64 a]) h) λv h'=>v=.bool (oddF a)/\Grow h h':=kbg4 (kc4 (.done (by
 show kl8 a=_;unfold kl8 oddF;by_cases y:a<128
 ·rw[qbv y];rfl
 ·rw[qbw y];by_cases C:a>=1099511627776
  ·rw[qbv C];rfl
  ·rw[qbw C,ky (by omega)];rfl)))
inductive kj9
 | fn (a1:Int) (a2:Int)
 | no
abbrev kgs:=Int
noncomputable def km3(a1 a2:Int):Option (kj9⊕kgs):=cond (((oddF a1))) (some (.inr 9)) (cond (((oddF a2))) (some (.inr 9)) (cond (decide (a1=a2)) (some (.inr 9)) ((need (0<=a1/\a1<18446744073709551616)).bind λQ=>(need (0<=a2/\a2<18446744073709551616)).bind λy=>cond (!decide ((((bl (Int.toNat a1):Nat):Int))=(((bl (Int.toNat a2):Nat):Int)))) (some (.inr 9)) ((u64P a1).bind λC=>(u64P a2).bind λF=>(u64P (IntKind.wrap .u64 (a1-1))).bind λH=>(u64P (IntKind.wrap .u64 (a2-1))).bind λI=>(u64P 1).bind λK=>cond (!decide ((cmpN ((gcdN ((mulN [C] [F]).1) ((mulN [H] [I]).1)).1) [K])=0)) (some (.inr 9)) (some (.inr 0))))))
noncomputable def krg:kj9->Option (kj9⊕kgs)
 | .fn a1 a2=>km3 a1 a2
 | .no=>none
@[reducible] def ktw(h0:AH)(r:kgs)(v:AV)(h':AH):Prop:=v=.i r/\Grow h0 h'
def kto(r:kgs):kj9->Prop
 | .fn a1 a2=>∀{h:AH},Runs (go (.fn kl2 [.agg [.int .u64 a1,.int .u64 a2]]) h) (ktw h r)
 | .no=>True
theorem kbcj{r:kgs}{o:kj9⊕kgs}{a1 a2:Int}(e:km3 a1 a2=some o)(y:GoodS (kto r) r o):kto r (.fn a1 a2):=by
 intro h;rw[k51];unfold km3 at e;refine qx λH3 b3 g3=>?_;refine qw (qbc b3 0 rfl qcl) ?_;obtain⟨_,H4,e4,rfl,F⟩:=kze a1;refine qw e4 (qw (seen rfl) ?_);refine qba (λk5=>?_) (λk5=>?_)
 ·replace e:=(condT k5).symm.trans e;cases e;cases y;exact qu ⟨rfl,(g3.trans F)⟩
 ·replace e:=(condF k5).symm.trans e;refine qw (qbc (F.has b3) 1 rfl qcl) ?_;obtain⟨_,H6,e6,rfl,H⟩:=kze a2;refine qw e6 (qw (seen rfl) ?_);refine qba (λk7=>?_) (λk7=>?_)
  ·replace e:=(condT k7).symm.trans e;cases e;cases y;have G8:=((g3.trans F).trans H);exact qu ⟨rfl,G8⟩
  ·replace e:=(condF k7).symm.trans e;refine qw (qbc ((F.trans H).has b3) 0 rfl qcl) (qw (qbc ((F.trans H).has b3) 1 rfl qcl) ?_);refine qba (λk8=>?_) (λk8=>?_)
   ·replace e:=(condT k8).symm.trans e;cases e;cases y;have G9:=((g3.trans F).trans H);exact qu ⟨rfl,G9⟩
   ·replace e:=(condF k8).symm.trans e;refine qw (qbc ((F.trans H).has b3) 0 rfl qcl) (qw (qbc ((F.trans H).has b3) 1 rfl qcl) ?_);obtain⟨ah,bj,e⟩:=qbs.1 e;refine qw (kpx  ah.down) (qw (seen qcl) ?_);refine qbb ((qk _).same ((F.trans H).has b3) 1 1) ?_;obtain⟨W,ak,e⟩:=qbs.1 e;refine qw (kpx  W.down) (qw (seen qcl) ?_);refine qba (λZ=>?_) (λZ=>?_)
    ·replace e:=(condT Z).symm.trans e;cases e;cases y;have al:=((g3.trans F).trans H);exact qu ⟨rfl,al⟩
    ·replace e:=(condF Z).symm.trans e;refine qw (qbc ((F.trans H).has b3) 0 rfl qcl) ?_;refine qx λbk am aa=>?_;have an:=((F.trans H).trans aa);have C:=an.has b3;refine qw (qbc C 1 rfl qcl) ?_;refine qx λbm ap I=>?_;obtain⟨bn,aq,e⟩:=qbs.1 e;obtain⟨bp,ar,e⟩:=qbs.1 e;obtain⟨bq,br,au,aw,K,bt⟩:=kd7 (qbk (I.has am) aq) (qbk ap ar);refine qw au (qw rfl (qw (seen qck) (qw (seen qcl) (qw (qbc ((I.trans K).has C) 0 rfl qcl) ?_))));refine qx λbu ax Q=>?_;have ay:=((I.trans K).trans Q);have ac:=ay.has C;refine qw (qbc ac 1 rfl qcl) ?_;refine qx λbv az U=>?_;obtain⟨bw,a0,e⟩:=qbs.1 e;obtain⟨bx,ba,e⟩:=qbs.1 e;obtain⟨bz,b0,bb,bc,ad,b5⟩:=kd7 (qbk (U.has ax) a0) (qbk az ba);refine qw bb (qw rfl (qw (seen qck) (qw (seen qcl) ?_)));have bd:=((Q.trans U).trans ad);have V:=aw.grow bd;obtain⟨_,b6,be,b7,rfl,bf,ai,b8⟩:=ko7 V bc;refine qw be (qw rfl (qw (seen qck) (qw (seen qcl) ?_)));refine qx λb9 bg ae=>?_;obtain⟨ca,bh,e⟩:=qbs.1 e;obtain⟨cb,bi,aj⟩:=kco (bf.grow ae) (qbk bg bh);refine qw bi (qw (seen qcl) ?_);refine qba (λaf=>?_) (λaf=>?_)
     ·replace e:=(condT af).symm.trans e;cases e;cases y;have ag:=(((((((((((g3.trans F).trans H).trans aa).trans I).trans K).trans Q).trans U).trans ad).trans ai).trans ae).trans aj);exact qu ⟨rfl,ag⟩
     ·replace e:=(condF af).symm.trans e;cases e;cases y;have ag:=(((((((((((g3.trans F).trans H).trans aa).trans I).trans K).trans Q).trans U).trans ad).trans ai).trans ae).trans aj);exact qu ⟨rfl,ag⟩
theorem kbhf{s:kj9}{r:kgs}(C:Iter krg s r):kto r s:=qbe (λs o e y=>by
 cases s with
 | fn a1 a2=>exact @kbcj _ _ a1 a2 e y
 | no=>exact True.intro
 ) C
theorem kbd6{h:AH}{a1 a2:Int}  {r:kgs}(q:runP krg (.fn a1 a2)=some r):Runs (go (.fn kl2 [.agg [.int .u64 a1,.int .u64 a2]]) h) (ktw h r):=kbhf (kd5 q)
theorem kfd{x:Nat}(h0:0<x)(h:x<B):digs B x=[x]:=by rw[ke9 B2 (by omega),Nat.mod_eq_of_lt h,Nat.div_eq_of_lt h,kbu]
theorem kpr{x:Nat}(h0:0<x)(h:x<B):rt [x]=true:=by rw[<- kfd h0 h];exact kn (qbp h (by decide))
theorem kfc{a:Nat}(h:a<1099511627776):a<B^30:=qbp h (by decide)
noncomputable def badF(a b:Int):Bool:=oddF a||(oddF b||(decide (a=b)||(!decide (bl a.toNat=bl b.toNat)||!decide (Nat.gcd (a.toNat*b.toNat) ((a.toNat-1)*(b.toNat-1))=1))))
noncomputable def keyF(a b:Int):Int:=cond (badF a b) 9 0
theorem koz{a:Int}(h:oddF a=false):∃p:Nat,a=(p:Int)/\128<=p/\p<1099511627776/\leastN p=p:=by
 unfold oddF at h;by_cases y:a<128
 ·rw[qbv y]at h;cases h
 ·rw[qbw y,cond_false]at h;by_cases C:a>=1099511627776
  ·rw[qbv C]at h;cases h
  ·rw[qbw C,cond_false]at h;have F:((leastN (Int.toNat a):Nat):Int)=a:=by simpa using h
   exact⟨a.toNat,by omega,by omega,by omega,by omega⟩
theorem B40:(1099511627776:Nat)<B:=by decide
theorem k42{p q:Nat}(hp:128<=p)(y:p<1099511627776)(hq:128<=q)(C:q<1099511627776) :
  (gcdN ((mulN [p] [q]).1) ((mulN [p-1] [q-1]).1)).1=digs B (Nat.gcd (p*q) ((p-1)*(q-1))):=by
 have F:=B40;have lt:∀{a b:Nat},a<1099511627776->b<1099511627776->a*b<B^2:=λH I=>qbp (Nat.mul_lt_mul'' H I) (by decide)
 have K:mulN [p] [q]=(digs B (p*q),0):=by rw[<- kfd (x:=p) (by omega) (by omega),<- kfd (x:=q) (by omega) (by omega),keo (kfc y) (kfc C)]
 have Q:mulN [p-1] [q-1]=(digs B ((p-1)*(q-1)),0):=by rw[<- kfd (x:=p-1) (by omega) (by omega),<- kfd (x:=q-1) (by omega) (by omega),keo (kfc (by omega)) (kfc (by omega))]
 have r1:rt (digs B (p*q))=true:=kn (qbp (lt y C) (Nat.pow_le_pow_right (by decide) (by decide)));have r2:rt (digs B ((p-1)*(q-1)))=true:=kn (qbp (lt (by omega) (by omega)) (Nat.pow_le_pow_right (by decide) (by decide)));rw[K,Q];unfold gcdN;rw[if_pos ⟨r1,r2⟩,kg B2,kg B2]
theorem gcd_lt{p q:Nat}(hp:128<=p)(y:p<1099511627776)(hq:128<=q)(C:q<1099511627776):Nat.gcd (p*q) ((p-1)*(q-1))<B^64:=by have F:Nat.gcd (p*q) ((p-1)*(q-1))<=p*q:=Nat.gcd_le_left _ (Nat.mul_pos (by omega) (by omega));have H:p*q<1099511627776*1099511627776:=Nat.mul_lt_mul'' y C;exact qbq F (qbp H (by decide))
theorem k2j{g:Nat}(h:g<B^64):decide (cmpN (digs B g) [1]=0)=decide (g=1):=by
 rw[kh7 (kn h) (by decide),kg B2];have:num B [1]=1:=by decide
 rw[this,decide_eq_decide];unfold cmp;split
 ·omega
 ·split<;>omega
theorem ksa{p:Nat}(y:1<=p)(h:p<B):IntKind.wrap .u64 ((p:Int)-1)=((p-1:Nat):Int):=by
 have e:((p:Int)-1)=((p-1:Nat):Int):=by omega
 rw[e,wrapU];have:p-1<18446744073709551616:=qbq (Nat.sub_le _ _) h;omega
theorem u64P_B{p:Nat}(h:p<B):u64P (p:Int)=some p:=kbm h
theorem kbgw(a b:Int):Iter krg (.fn a b) (keyF a b):=by
 refine .done ?_;show km3 a b=_;unfold km3 keyF badF;cases H:oddF a
 case true=>rfl
 cases I:oddF b
 case true=>rfl
 obtain⟨p,rfl,y,p2,p3⟩:=koz H;obtain⟨q,rfl,C,F,V⟩:=koz I;have K:=B40;rw[cond_false,cond_false,Bool.false_or,Bool.false_or];cases Q:decide ((p:Int)=(q:Int))
 case true=>rfl
 rw[cond_false,Bool.false_or,ky (by omega),qbr,ky (by omega),qbr,Int.toNat_natCast,Int.toNat_natCast];have U:decide (((bl p:Nat):Int)=((bl q:Nat):Int))=decide (bl p=bl q):=by rw[decide_eq_decide];omega
 rw[U];cases W:decide (bl p=bl q)
 case false=>rfl
 rw[Bool.not_true,cond_false,Bool.false_or,u64P_B (by omega),qbr,u64P_B (by omega),qbr,ksa (by omega) (by omega),ksa (by omega) (by omega),u64P_B (by omega),qbr,u64P_B (by omega),qbr,show u64P 1=some 1 from rfl,qbr,k42 y p2 C F,k2j (gcd_lt y p2 C F)];cases decide (Nat.gcd (p*q) ((p-1)*(q-1))=1)<;>rfl
theorem k7n{h:AH}(a b:Int):Runs (go (.fn kl2 [.agg [.int .u64 a,.int .u64 b]]) h) (ktw h (keyF a b)):=kbd6 (kc4 (kbgw a b))
inductive kkp
 | fn (a1:Int) (a2:Int)
 | no
abbrev kg1:=List Nat×Int
noncomputable def kla(a1 a2:Int):Option (kkp⊕kg1):=cond (!decide (((keyF a1 a2))=0)) (some (.inr ([],((keyF a1 a2))))) ((u64P a1).bind λy=>(u64P a2).bind λC=>some (.inr ((mulN [y] [C]).1,((mulN [y] [C]).2))))
noncomputable def kri:kkp->Option (kkp⊕kg1)
 | .fn a1 a2=>kla a1 a2
 | .no=>none
@[reducible] def ktm(h0:AH)(r:kg1)(v:AV)(h':AH):Prop:=∃s1:Sl,v=.tup [s1.v,.i r.2]/\Nats h' s1 r.1/\Grow h0 h'/\Own h0 s1
def kuf(r:kg1):kkp->Prop
 | .fn a1 a2=>∀{h:AH},Runs (go (.fn kjl [.agg [.int .u64 a1,.int .u64 a2]]) h) (ktm h r)
 | .no=>True
theorem kbd3{r:kg1}{o:kkp⊕kg1}{a1 a2:Int}(e:kla a1 a2=some o)(y:GoodS (kuf r) r o):kuf r (.fn a1 a2):=by
 intro h;rw[kbb5];unfold kla at e;refine qx λH3 b3 Z=>?_;refine qw (qbc b3 0 rfl qcl) (qw (qbc b3 1 rfl qcl) ?_);obtain⟨_,H4,e4,rfl,F⟩:=k7n a1 a2;refine qw e4 (qw (seen qcl) ?_);refine qba (λH=>?_) (λH=>?_)
 ·replace e:=(condT H).symm.trans e;cases e;cases y;exact qu ⟨(⟨none,0,.is 0⟩:Sl),rfl,(qq _),(Z.trans F),(qp _)⟩
 ·replace e:=(condF H).symm.trans e;refine qw (qbc (F.has b3) 0 rfl qcl) ?_;refine qx λH6 b6 g6=>?_;refine qw (qbc ((F.trans g6).has b3) 1 rfl qcl) ?_;refine qx λH7 b7 g7=>?_;obtain⟨w8,z8,e⟩:=qbs.1 e;obtain⟨w9,z9,e⟩:=qbs.1 e;obtain⟨I,aa,K,Q,U,V⟩:=kd7 (qbk (g7.has b6) z8) (qbk b7 z9);refine qw K (qw rfl (qw (seen qck) (qw (seen qcl) ?_)));cases e;cases y;have C:=(((Z.trans F).trans g6).trans g7);have W:=(C.trans U);exact qu ⟨I,rfl,Q,W,(V.of_le C)⟩
theorem kbfp{s:kkp}{r:kg1}(C:Iter kri s r):kuf r s:=qbe (λs o e y=>by
 cases s with
 | fn a1 a2=>exact @kbd3 _ _ a1 a2 e y
 | no=>exact True.intro
 ) C
theorem kbko{h:AH}{a1 a2:Int}  {r:kg1}(q:runP kri (.fn a1 a2)=some r):Runs (go (.fn kjl [.agg [.int .u64 a1,.int .u64 a2]]) h) (ktm h r):=kbfp (kd5 q)
noncomputable def pubF(a b:Int):List Nat×Int:=cond (badF a b) ([],9) (digs B (a.toNat*b.toNat),0)
theorem kul{a b:Int}(h:badF a b=false):∃p q:Nat,a=(p:Int)/\b=(q:Int)/\128<=p/\p<1099511627776/\leastN p=p/\128<=q/\q<1099511627776/\leastN q=q/\p≠q/\bl p=bl q/\Nat.gcd (p*q) ((p-1)*(q-1))=1:=by
 unfold badF at h;rw[Bool.or_eq_false_iff,Bool.or_eq_false_iff,Bool.or_eq_false_iff,Bool.or_eq_false_iff]at h;obtain⟨C,F,y,H,I⟩:=h;obtain⟨p,rfl,K,p2,p3⟩:=koz C;obtain⟨q,rfl,Q,U,V⟩:=koz F;refine⟨p,q,rfl,rfl,K,p2,p3,Q,U,V,?_,?_,?_⟩
 ·intro e;subst e;simp at y
 ·simpa using H
 ·simpa using I
theorem kbku{p q:Nat}(hp:128<=p)(y:p<1099511627776)(hq:128<=q)(C:q<1099511627776):mulN [p] [q]=(digs B (p*q),0):=by have F:=B40;rw[<- kfd (x:=p) (by omega) (by omega),<- kfd (x:=q) (by omega) (by omega),keo (kfc y) (kfc C)]
theorem kbhr(a b:Int):Iter kri (.fn a b) (pubF a b):=by
 refine .done ?_;show kla a b=_;unfold kla keyF pubF;cases y:badF a b
 ·obtain⟨p,q,rfl,rfl,C,p2,-,F,H,-,-,-,-⟩:=kul y;have I:=B40;rw[cond_false,condF (show(!decide ((0:Int)=0))=false from rfl),u64P_B (by omega),qbr,u64P_B (by omega),qbr,kbku C p2 F H];rfl
 ·rfl
theorem kzz{h:AH}(a b:Int):Runs (go (.fn kjl [.agg [.int .u64 a,.int .u64 b]]) h) (ktm h (pubF a b)):=kbko (kc4 (kbhr a b))
theorem kbft{h:AH}{x:AV}(a:ArgV Pg h ke4 x):∃m n:Int,x=.agg [.int .u64 m,.int .u64 n]:=by
 unfold ArgV at a;rw[k2h]at a;obtain⟨cs,rfl,t⟩:=a;obtain⟨y,C⟩:=t.struct k2h;rw[kbcl]at y
 match cs,y with
 | [K,x1],_ =>simp[kr3]at C;obtain⟨h0,F⟩:=C;obtain⟨m,H,_⟩:=h0.int k1k;obtain⟨n,I,_⟩:=F.int k1k;cases H;cases I;exact⟨m,n,rfl⟩
def RingAt(h:AH)(j N:Nat):Prop:=∃(v:Nat)(y s2 s3:Sl),RingOk N (digs B N).length v/\h.has j [y.v,.int .u64 (v:Int),s2.v,s3.v] kcu/\Nats h y (digs B N)/\Nats h s2 (form N (digs B N).length 1)/\
 Nats h s3 (digs B (2^(64*(digs B N).length)*2^(64*(digs B N).length)%N))
theorem RingAt.grow{h h':AH}{j N:Nat}(r:RingAt h j N)(g:Grow h h'):RingAt h' j N:=by obtain⟨v,y,s2,s3,a,b,c,d,e⟩:=r;exact⟨v,y,s2,s3,a,g.has b,c.grow g,d.grow g,e.grow g⟩
theorem kbc7{h:AH}{s:Sl}{N:Nat}(n:Nats h s (digs B N))(C:N<B^8)(F:1<N)(H:N%2=1):Runs (go (.fn ker [s.v]) h) λw h'=>∃j,w=.tup [.p (.new j 0),.i 0]/\RingAt h' j N/\Grow h h':=by
 have y:num B (digs B N)=N:=kg B2 _;have U:(digs B N).length<=8:=(kbg B2 _ 8).2 C;obtain⟨_,V,W,j,v,Z,s2,s3,rfl,v1,I,b,m0,K,Q,g2⟩:=kxe n (kn (qbp C (Nat.pow_le_pow_right (by decide) (by decide)))) (λe=>by rw[List.length_eq_zero_iff]at e;have:=(kcr B2).1 e;omega) U (by rw[y];exact H) (by rw[y];exact F);refine⟨_,V,W,j,rfl,⟨v,Z,s2,s3,?_,b,m0,?_,?_⟩,g2⟩
 ·rw[y]at I;exact⟨by omega,by have:=num_lt B1 (kcf B2 N);rwa[y]at this,F,H,v1,I,rfl⟩
 ·rw[y]at K;unfold form;rw[Nat.one_mul,<- B_pow2];rwa[Nat.one_mul]at K
 ·rw[y]at Q;rw[<- Nat.pow_add,<- Nat.two_mul,show 2*(64*(digs B N).length)=64*(2*(digs B N).length)from by omega,<- B_pow2];exact Q
theorem kbjk{h:AH}{j N A:Nat}(r:RingAt h j N)(hA:A<N){t u:Sl}{es:List Nat}(n:Nats h t (digs B A))(m:Nats h u es)(y:rt es=true)(C:es.length<=8) :
  Runs (go (.fn kca [.p (.new j 0),t.v,u.v]) h) λw h'=>∃s':Sl,w=.tup [s'.v,.i 0]/\Nats h' s' (digs B (A^num B es%N))/\Grow h h'/\Own h s':=by
 obtain⟨v,U,s2,s3,a,b,c,d,e⟩:=r;obtain⟨_,F,e3,H,rfl,I,K,Q⟩:=kwn b c d e n m (kxb a hA m.lt y C);exact⟨_,F,e3,H,rfl,I,K,Q⟩
theorem kdr{h:AH}{i x:Nat}{e:TypeId}(b:h.has i [.int .u64 (x:Int)] e)(C:x<B):Nats h (⟨some (.new i 0),1,.is 1⟩:Sl) [x]:=Nats.of_has (xs:=[x]) b (by intro y F;rw[List.mem_singleton.1 F];exact C) (by simp)
theorem kwj{p:Nat}(hp:0<p)(y:p<1099511627776):kbd [p]=digs B (p*p):=by unfold kbd;rw[<- kfd (x:=p) hp (Nat.lt_trans y B40),keo (kfc y) (kfc y)]
theorem sq_lt{p:Nat}(y:p<1099511627776):p*p<B^2:=qbp (Nat.mul_lt_mul'' y y) (by decide)
theorem up64{a:Nat}(h:a<B^2):a<B^64:=qbp h (Nat.pow_le_pow_right (by decide) (by decide))
theorem kof{xs:List Nat}(F:∀x∈xs,x<B)(y:rt xs=true){m:Nat}(h0:0<m)(C:m<B^64):divN xs (digs B m)=(digs B (num B xs/m),digs B (num B xs%m),0):=by unfold divN;rw[if_pos ⟨y,kn C⟩,if_neg (λe=>by have:=(kcr B2).1 e;omega),kg B2]
section
variable{h:AH}{p i2 i3 i4 j:Nat}{s:Sl}
structure SayAt(h:AH)(p i2 i3 i4 j:Nat)(s:Sl):Prop where
 b2:h.has i2 [s.v] kr
 n2:Nats h s [p]
 b3:h.has i3 [.p (.new j 0)] kpz
 ring:RingAt h j (p*p)
 b4:h.has i4 [.int .u64 (p:Int)] kf
theorem SayAt.grow{h':AH}(a:SayAt h p i2 i3 i4 j s)(g:Grow h h'):SayAt h' p i2 i3 i4 j s:=⟨g.has a.b2,a.n2.grow g,g.has a.b3,a.ring.grow g,g.has a.b4⟩
theorem say_is(a:SayAt h p i2 i3 i4 j s){q:Nat}(k:KeyOk p q)(p1:128<=p)(p2:p<1099511627776){t:Sl}{xs:List Nat}(n:Nats h t xs)(hx:rt xs=true)(nd:¬p∣num B xs) :
  Runs (go (.fn kpq [t.v,.p (.new i2 0),.p (.new i3 0),.p (.new i4 0)]) h) λw h'=>∃s':Sl,w=s'.v/\Nats h' s' (digs B (sayP p (num B xs)))/\Grow h h'/\Own h s':=by
 have aa:=B40;have F:0<p*p:=Nat.mul_pos (by omega) (by omega);rw[kbj7];refine qw (a.b2.rd0 (f:=AV.asSl) rfl qck) ?_;obtain⟨_,h1,e1,s1,rfl,n1,W,o1⟩:=kml a.n2;refine qw e1 (qw (seen qck) ?_);rw[kwj (by omega) p2]at n1;obtain⟨sa,sb,h2,Z,na,nb,g2,-,-⟩:=kd4 (n.grow W) n1;rw[kof n.lt hx F (up64 (sq_lt p2))]at Z na nb;have K:=W.trans g2;refine qw Z (qw rfl (qw (seen qck) (qw (seen qck) (qw (seen qcl) (qw ((K.has a.b3).rd0 (f:=AV.asPtr) rfl rfl) (qw ((K.has a.b4).rd0 (f:=AV.asInt .u64) rfl qcl) ?_))))));rw[ksa (by omega) (by omega)];refine qx λh3 b3 g3=>?_;have ne:Nats h3 (⟨some (.new h2.blks.size 0),1,.is 1⟩:Sl) [p-1]:=kdr b3 (by omega);have G3:=K.trans g3;obtain⟨_,h4,e4,s4,rfl,n4,g4,-⟩:=kbjk (a.ring.grow G3) (Nat.mod_lt _ F) (nb.grow g3) ne (kpr (by omega) (by omega)) (by simp);refine qw e4 (qw rfl (qw (seen qck) (qw (seen qcl) ?_)));refine qx λh5 b5 g5=>?_;have Q:Nats h5 (⟨some (.new h4.blks.size 0),1,.is 1⟩:Sl) [1]:=kdr b5 (by decide);obtain⟨s6,h6,U,H,g6,-⟩:=kkk (n4.grow g5) Q;obtain⟨u1,u2,-⟩:=k.say nd;have C:∀y:Nat,num B [y]=y:=λy=>by simp[num]
 rw[C,u1]at H U;generalize hy:sayP p (num B xs)=y at *
 have hu:1+p*y<B^64:=by
  have:p*y<p*p:=Nat.mul_lt_mul_of_pos_left u2 (by omega);have:=sq_lt p2
  exact qbp (show 1+p*y<B^3 from by
   have:B^2+1<B^3:=by decide
   omega) (Nat.pow_le_pow_right (by decide) (by decide))
 have es:subN (digs B (1+p*y)) [1]=(digs B (p*y),0):=by unfold subN;rw[if_pos ⟨kn hu,by decide⟩,kg B2,C,if_neg (by omega),Nat.add_sub_cancel_left]
 rw[es]at H U;refine qw U (qw rfl (qw (seen qck) (qw (seen qcl) ?_)));have I:=((G3.trans g4).trans g5).trans g6;refine qw ((I.has a.b2).rd0 (f:=AV.asSl) rfl qck) ?_;have V:p*y<B^64:=by omega
 have np:=a.n2.grow I;rw[<- kfd (x:=p) (by omega) (by omega)]at np;obtain⟨sc,sd,h7,e7,nc,ac,g7,oc,-⟩:=kd4 H np;rw[kof H.lt (kn V) (by omega) (qbp (show p<B from by omega) (by decide)),kg B2,Nat.mul_div_cancel_left _ (show 0<p from by omega)]at e7 nc;refine qw e7 (qw rfl (qw (seen qck) (qw (seen qck) (qw (seen qcl) ?_))));exact qu ⟨sc,rfl,nc,I.trans g7,oc.of_le I⟩
end
theorem kdt(y:Nat):num B [y]=y:=by simp[num]
section
variable{p q:Nat}(k:KeyOk p q)(p1:128<=p)(p2:p<1099511627776)(q2:q<1099511627776)
include k p1 p2 q2
omit k p1 in
theorem kbdo:kfp (digs B (p*q)) [1]=digs B (1*(p*q)+1):=by
 have y:p*q<B^2:=qbp (Nat.mul_lt_mul'' p2 q2) (by decide)
 have C:1*(p*q)+1<B^64:=by
  have:B^2+1<B^64:=by decide
  omega
 unfold kfp;rw[<- kkj,keo (by decide) (qbp y (Nat.pow_le_pow_right (by decide) (by decide)))];unfold addN told;rw[if_pos ⟨kn (by omega),kn (by decide)⟩,kg B2,kg B2];rw[if_pos C]
theorem k23{h:AH}{s t:Sl}{cs:List Nat}(nc:Nats h s cs)(nn:Nats h t (digs B (p*q)))(rc:rt cs=true)(co:Nat.Coprime (num B cs) (p*q)){m:Nat}(d:Hid (p*q) ((p-1)*(q-1)) (num B cs) m) :
  Runs (go (.fn kpu [s.v,t.v,.int .u64 (p:Int)]) h) λw h'=>∃s':Sl,w=s'.v/\Nats h' s' (digs B (m%p))/\Grow h h'/\Own h s':=by
 have bq:=B40;have bd:1<p*p:=qbp (by decide) (Nat.mul_le_mul p1 p1)
 have odd:p%2=1:=by
  rcases Nat.mod_two_eq_zero_or_one p with e | e
  ·rcases k.hp.2 2 (Nat.dvd_of_mod_eq_zero e)with h | h<;>omega
  ·exact e
 rw[kbcf];refine qx λh4 b4 g4=>?_;refine qw (b4.rd0 (f:=AV.asInt .u64) rfl qcl) ?_;refine qx λh6 b6 g6=>?_;refine qx λh7 b7 g7=>?_;have l4:h.blks.size<h4.blks.size:=b4.lt;have l6:h4.blks.size<h6.blks.size:=b6.lt;have l7:h6.blks.size<h7.blks.size:=b7.lt;refine qy b7 rfl λh8 b8 u8=>?_;have G7:=(g4.trans g6).trans g7;have G8:Grow h h8:=G7.updr (by omega) u8;have c4:h8.has h.blks.size [.int .u64 (p:Int)] kf:=(g7.has (g6.has b4)).updr (by omega) u8;have c6:h8.has h4.blks.size [.int .u64 (p:Int)] kf:=(g7.has b6).updr (by omega) u8;have l8:h7.blks.size<=h8.blks.size:=u8.size;generalize hs:(⟨some (.new h4.blks.size 0),1,.is 1⟩:Sl)=ps at *
 have np:Nats h8 ps [p]:=by rw[<- hs];exact kdr c6 (by omega)
 refine qw (b8.rd0 (f:=AV.asSl) rfl qck) ?_;obtain⟨_,h9,e9,s9,rfl,n9,g9,-⟩:=kml np;refine qw e9 (qw (seen qck) ?_);rw[kwj (by omega) p2]at n9;obtain⟨_,y,be,j,rfl,ak,aa⟩:=kbc7 n9 (qbp (sq_lt p2) (by decide)) bd (by rw[Nat.mul_mod,odd]);refine qw be (qw rfl (qw (seen rfl) (qw (seen qcl) ?_)));refine qx λbf al am=>?_;have br:y.blks.size<bf.blks.size:=al.lt;have lA:=g9.size;have lB:=aa.size
 have bt:j<y.blks.size:=by obtain⟨_,_,_,_,_,bb,_⟩:=ak;exact bb.lt
 refine qy al rfl λH bg I=>?_;have GG:=(g9.trans aa).trans am;have d4:=(GG.has c4).updr (i:=y.blks.size) (by omega) I;have d6:=(GG.has c6).updr (i:=y.blks.size) (by omega) I;have d8:=(GG.has b8).updr (i:=y.blks.size) (by omega) I;have gU:Grow y H:=am.updr (qbn _) I;have bh:RingAt H j (p*p):=ak.grow gU;have an:Grow h H:=((G8.trans g9).trans aa).trans gU;have ap:SayAt H p h6.blks.size y.blks.size h.blks.size j ps:=⟨d8,by rw[<- hs];exact kdr d6 (by omega),bg,bh,d4⟩;refine qw (d8.rd0 (f:=AV.asSl) rfl qck) ?_;refine qx λbu bi C=>?_;refine qbb (C.same d8 0 1) ?_;obtain⟨_,bv,bj,bw,rfl,aq,ac,-⟩:=k2a (nn.grow (an.trans C)) (kdr bi (x:=1) (by decide));refine qw bj (qw (seen qck) ?_);rw[kbdo p2 q2]at aq;refine qbb (ac.same (C.has d8) 0 1) ?_
 have ar:1*(p*q)+1<B^64:=by
  have h1:p*q<B^2:=qbp (Nat.mul_lt_mul'' p2 q2) (by decide);have:B^2+1<B^64:=by decide
  omega
 have ad:¬p∣num B (digs B (1*(p*q)+1)):=by rw[kg B2];intro hd;have:p∣1:=(Nat.dvd_add_right (Nat.dvd_trans (Nat.dvd_mul_right p q) (by rw[Nat.one_mul];exact Nat.dvd_refl _))).1 hd;have:=Nat.le_of_dvd (by decide) this;omega
 have F:=ap.grow (C.trans ac);obtain⟨_,bx,bk,bz,rfl,ae,af,-⟩:=say_is F k p1 p2 aq (kn ar) ad;refine qw bk (qw (seen qck) ?_);rw[kg B2]at ae;refine qbb (af.same F.b2 0 1) ?_;have K:=F.grow af;have Q:∀{x:Nat},¬p∣x->sayP p x<p:=λh=>(k.say h).2.1;rw[kg B2]at ad;have hA:=Q ad;have U:=K.n2;obtain⟨_,b0,au,b5,rfl,aw,ax,-⟩:=k2n ae U;have sp:=(kvo ae.lt U.lt).2.2.1 ⟨kn (Nat.lt_trans hA (qbp (show p<B from by omega) (by decide))),kpr (by omega) (by omega),by rw[kdt];omega⟩;rw[kdt,kg B2]at sp
 obtain⟨w,w1,w2,w3⟩:=sp.2 (by rw[Nat.gcd_comm,<- Nat.gcd_rec];exact k.say_unit)
 rw[w2]at au aw;refine qw au (qw rfl (qw (seen qck) (qw (seen qcl) ?_)));have V:=K.grow ax;have ay:¬p∣num B cs:=k.unit co;have az:=((((an.trans C).trans ac).trans af).trans ax);obtain⟨_,b9,bm,ca,rfl,bn,ag,-⟩:=say_is V k p1 p2 (nc.grow az) rc ay;refine qw bm (qw (seen qck) ?_);obtain⟨cb,cc,a0,ah,ba,-⟩:=kd7 bn (aw.grow ag);have hC:=Q ay;rw[keo (kfc (by omega)) (kfc (by omega))]at a0 ah;refine qw a0 (qw rfl (qw (seen qck) (qw (seen qcl) ?_)));have W:=(V.grow ag).grow ba;refine qw (W.b2.rd0 (f:=AV.asSl) rfl qck) ?_;have Z:=W.n2;rw[<- kfd (x:=p) (by omega) (by omega)]at Z;obtain⟨sx,sy,cd,ai,nx,ny,bp,ox,oy⟩:=kd4 ah Z;have aj:sayP p (num B cs)*w<B^64:=qbp (Nat.mul_lt_mul'' (show _<1099511627776 from by omega) (show w<1099511627776 from by omega)) (by decide);rw[kof ah.lt (kn aj) (by omega) (qbp (show p<B from by omega) (by decide)),kg B2]at ai ny
 rw[k.found co d (i:=w) (by show _%p=1%p;rw[Nat.mul_comm,w3,Nat.mod_eq_of_lt (show 1<p from by omega)])]at ai ny
 refine qw ai (qw rfl (qw (seen qck) (qw (seen qck) (qw (seen qcl) ?_))));have bc:=(az.trans ag).trans ba;exact qu ⟨sy,rfl,ny,bc.trans bp,oy.of_le bc⟩
end
noncomputable def hidOf(p q c:Nat):Nat:=by
 classical
 exact if h:∃m,Hid (p*q) ((p-1)*(q-1)) c m then h.choose else 0
theorem kez{p q:Nat}(k:KeyOk p q):0<p*q:=by have:=k.pos;omega
theorem k1e{p q c:Nat}(k:KeyOk p q)(h:Nat.Coprime c (p*q)):Hid (p*q) ((p-1)*(q-1)) c (hidOf p q c):=by unfold hidOf;have y:=k.hid h;rw[dif_pos y];exact y.choose_spec
theorem kz2{p q c m:Nat}(k:KeyOk p q)(h:Hid (p*q) ((p-1)*(q-1)) c m):hidOf p q c=m:=by unfold hidOf;have y:∃m,Hid (p*q) ((p-1)*(q-1)) c m:=⟨m,h⟩;rw[dif_pos y];exact y.choose_spec.uniq k.co (kez k) h
theorem k3d{p q:Nat}(C:128<=p)(hp:leastN p=p)(F:128<=q)(hq:leastN q=q)(ne:p≠q)(y:Nat.gcd (p*q) ((p-1)*(q-1))=1):KeyOk p q:=⟨(kyl (by omega)).1 hp,(kyl (by omega)).1 hq,ne,y⟩
theorem krw{cs ns bs:List Nat}(H:∀x∈cs,x<B)(I:rt ns=true)(Z:∀x∈ns,x<B)(K:rt bs=true):kbr cs ns bs=true↔rt cs=true/\cs≠[]/\num B cs<num B bs/\Nat.gcd (num B cs) (num B ns)=1:=by
 unfold kbr;cases C:rt cs with
 | false=>simp
 | true =>
  rw[Bool.not_true,cond_false];by_cases h0:(List.length cs:Int)=0
  ·rw[qbv h0,cond_true];have:cs=[]:=List.length_eq_zero_iff.1 (by omega);simp[this]
  ·rw[qbw h0,cond_false,kh7 C K];have y:cs≠[]:=λe=>h0 (by simp[e])
   have Q:Nat.gcd (num B cs) (num B ns)<B^64:=by have U:=knl H C;have V:0<num B cs:=kyx B1 (rt_iff.1 C).2 y;exact qbq (Nat.gcd_le_left _ V) U
   have W:decide (cmpN ((gcdN cs ns).1) [1]=0)=decide (Nat.gcd (num B cs) (num B ns)=1):=by unfold gcdN;rw[if_pos ⟨C,I⟩,k2j Q]
   rw[W];by_cases F:num B cs<num B bs
   ·have:cmp (num B cs) (num B bs)<0:=cmp_lt.2 F;rw[qbw (show¬cmp (num B cs) (num B bs)>=0 from by omega),cond_false];simp[y,F]
   ·have:¬cmp (num B cs) (num B bs)<0:=λh=>F (cmp_lt.1 h);rw[qbv (show cmp (num B cs) (num B bs)>=0 from by omega),cond_true];simp[F]
theorem kq0{N:Nat}(h:N<B^30):kbd (digs B N)=digs B (N*N):=by unfold kbd;rw[keo h h]
theorem key_lt{p q:Nat}(p2:p<1099511627776)(y:q<1099511627776):p*q<B^2:=qbp (Nat.mul_lt_mul'' p2 y) (by decide)
theorem klq{p q:Nat}(p2:p<1099511627776)(y:q<1099511627776):p*q<B^30:=qbp (key_lt p2 y) (Nat.pow_le_pow_right (by decide) (by decide))
theorem key_sq{p q:Nat}(p2:p<1099511627776)(y:q<1099511627776):p*q*(p*q)<B^4:=qbp (Nat.mul_lt_mul'' (key_lt p2 y) (key_lt p2 y)) (by decide)
theorem kn1{p q:Nat}(p2:p<1099511627776)(y:q<1099511627776){cs:List Nat}(C:∀x∈cs,x<B) :
  kb3 (digs B (p*q)) cs=true↔kz (digs B (p*q))=true/\rt cs=true/\cs≠[]/\num B cs<p*q*(p*q)/\Nat.Coprime (num B cs) (p*q):=by
 unfold kb3;rw[kq0 (klq p2 y)];cases kz (digs B (p*q))with
 | false=>simp
 | true =>rw[cond_true,krw C (kn (up64 (key_lt p2 y))) (kcf B2 _) (kn (qbp (key_sq p2 y) (Nat.pow_le_pow_right (by decide) (by decide)))),kg B2,kg B2];simp[Nat.Coprime]
noncomputable def decF(a b:Int)(cs:List Nat):List Nat×Int:=cond (badF a b) ([],9) (cond (!kb3 (digs B (a.toNat*b.toNat)) cs) ([],11) (digs B (hidOf a.toNat b.toNat (num B cs)),0))
@[reducible] def kbf8(h0:AH)(r:List Nat×Int)(v:AV)(h':AH):Prop:=∃s1:Sl,v=.tup [s1.v,.i r.2]/\Nats h' s1 r.1/\Grow h0 h'/\Own h0 s1
theorem kbex{p q m:Nat}(k:KeyOk p q)(p1:128<=p)(p2:p<1099511627776)(q1:128<=q)(q2:q<1099511627776)(U:m<p*q):crtN (digs B (m%p)) [p] (digs B (m%q)) [q]=(digs B m,0):=by
 have V:=B40;have F:m%p<B:=Nat.lt_trans (Nat.mod_lt _ (by omega)) (by omega);have H:m%q<B:=Nat.lt_trans (Nat.mod_lt _ (by omega)) (by omega);have one:∀{x:Nat},x<B->∀y∈[x],y<B:=λh y W=>by rw[List.mem_singleton.1 W];exact h
 obtain⟨-,-,-,s2,s3⟩:=kyu (x1:=digs B (m%p)) (x2:=[p]) (x3:=digs B (m%q)) (x4:=[q]) (kcf B2 _) (one (by omega)) (kcf B2 _) (one (by omega));have I:∀{x:Nat},x<B->(digs B x).length<=8:=λh=>(kbg B2 _ 8).2 (qbp h (by decide));have r1:∀{x:Nat},x<B->rt (digs B x)=true:=λh=>kn (qbp h (by decide))
 have Z:CrtOk (digs B (m%p)) [p] (digs B (m%q)) [q]:=by
  refine⟨⟨r1 F,I F⟩,⟨kpr (by omega) (by omega),by simp⟩,⟨r1 H,I H⟩,⟨kpr (by omega) (by omega),by simp⟩,?_,?_,?_,?_⟩
  ·rw[kdt];omega
  ·rw[kdt];omega
  ·rw[kdt,kg B2];exact Nat.mod_lt _ (by omega)
  ·rw[kdt,kg B2];exact Nat.mod_lt _ (by omega)
 have C:Nat.gcd q p=1:=by rw[Nat.gcd_comm];exact k.copq
 obtain⟨X,e1,-,K,e3,Q⟩:=s3 (s2 Z (by rw[kdt,kdt,Nat.gcd_comm,<- Nat.gcd_rec];exact C));rw[kdt,kdt]at K;rw[kdt,kg B2]at e3;rw[kdt,kg B2]at Q;have:Cg (p*q) X m:=Cg.both k.copq e3 Q;rw[e1,this.eq K U]
theorem k9q{h:AH}{s:Sl}{cs:List Nat}(n:Nats h s cs)(a b:Int):Runs (go (.fn kvr [.agg [.int .u64 a,.int .u64 b],s.v]) h) (kbf8 h (decF a b cs)):=by
 rw[k6e];refine qx λh4 b4 g4=>?_;refine qw (b4.rd 0 (f:=AV.asInt .u64) rfl qcl) (qw (b4.rd 1 (f:=AV.asInt .u64) rfl qcl) ?_);obtain⟨_,h7,e7,s7,rfl,n7,g7,o7⟩:=kzz (h:=h4) a b;refine qw e7 (qw rfl (qw (seen qck) (qw (seen qcl) ?_)));have I:∀h:AH,Nats h (⟨none,0,.is 0⟩:Sl) []:=λh=>qq h;cases hb:badF a b with
 | true =>
  have e:pubF a b=([],9):=by unfold pubF;rw[hb];rfl
  rw[e];refine qz rfl ?_;have K:decF a b cs=([],9):=by unfold decF;rw[hb];rfl
  rw[K];exact qu ⟨(⟨none,0,.is 0⟩:Sl),rfl,I _,g4.trans g7,qp _⟩
 | false =>
  have e:pubF a b=(digs B (a.toNat*b.toNat),0):=by unfold pubF;rw[hb];rfl
  rw[e]at n7|-;refine q0 rfl ?_;obtain⟨p,q,rfl,rfl,p1,p2,p3,q1,q2,q3,ne,-,hg⟩:=kul hb;rw[Int.toNat_natCast,Int.toNat_natCast]at n7;have k:=k3d p1 p3 q1 q3 ne hg;obtain⟨_,aw,ah,rfl,Q⟩:=k1l n7 (n.grow (g4.trans g7));refine qw ah (qw (seen rfl) ?_)
  have K:decF (p:Int) (q:Int) cs=cond (!kb3 (digs B (p*q)) cs) ([],11) (digs B (hidOf p q (num B cs)),0):=by unfold decF;rw[hb,cond_false,Int.toNat_natCast,Int.toNat_natCast]
  rw[K];cases hv:kb3 (digs B (p*q)) cs with
  | false =>
   refine qz rfl ?_;exact qu ⟨(⟨none,0,.is 0⟩:Sl),rfl,I _,(g4.trans g7).trans Q,qp _⟩
  | true =>
   refine q0 rfl ?_;obtain⟨-,rc,-,-,co⟩:=(kn1 p2 q2 n.lt).1 hv;have hm:=k1e k co;have ai:Nat.Coprime (num B cs) (q*p):=by rw[Nat.mul_comm];exact co
   have aj:Hid (q*p) ((q-1)*(p-1)) (num B cs) (hidOf p q (num B cs)):=by rw[Nat.mul_comm q p,Nat.mul_comm (q-1)];exact hm
   have aa:=(g7.trans Q);have c4:=aa.has b4;refine qw (c4.rd 0 (f:=AV.asInt .u64) rfl qcl) (qw (c4.rd 1 (f:=AV.asInt .u64) rfl qcl) ?_);refine qx λax ak U=>qx λac V F=>?_;have H:=F.has (U.has c4);have W:=F.has ak;refine qw (H.rd 0 (f:=AV.asInt .u64) rfl qcl) (qw (H.rd 0 (f:=AV.asInt .u64) rfl qcl) (qw (H.rd 1 (f:=AV.asInt .u64) rfl qcl) (qw (H.rd 1 (f:=AV.asInt .u64) rfl qcl) ?_)));have Z:Grow h ac:=((g4.trans aa).trans U).trans F;have nn:Nats ac s7 (digs B (p*q)):=n7.grow ((Q.trans U).trans F);obtain⟨_,ay,al,az,rfl,am,y,-⟩:=k23 k p1 p2 q2 (n.grow Z) nn rc co hm;refine qw al (qw (seen qck) ?_);refine qbb (y.same H 1 1) (qbb (y.same H 1 1) (qbb (y.same H 0 1) (qbb (y.same V 0 0) (qbb (y.same W 0 0) ?_))));have ad:=nn.grow y;rw[Nat.mul_comm p q]at ad;obtain⟨_,a0,an,ba,rfl,ap,C,-⟩:=k23 k.swap q1 q2 p2 (n.grow (Z.trans y)) ad rc ai aj;refine qw an (qw (seen qck) ?_);refine qbb (C.same (y.has H) 1 1) (qbb (C.same (y.has H) 0 1) (qbb (C.same (y.has V) 0 0) (qbb (C.same (y.has W) 0 0) ?_)));have bb:=B40;obtain⟨_,bc,ae,aq,rfl,af,ar,au⟩:=k36 (am.grow C) (kdr (C.has (y.has W)) (by omega)) ap (kdr (C.has (y.has V)) (by omega));rw[kbex k p1 p2 q1 q2 hm.1]at ae af;refine qw ae (qw rfl (qw (seen qck) (qw (seen qcl) ?_)));refine qbb rfl ?_;have ag:=(Z.trans y).trans C;exact qu ⟨aq,rfl,af,ag.trans ar,au.of_le ag⟩
theorem kv5{X Y:Nat}(y:X<B^64)(C:Y<B^64)(h0:0<Y):(divN (digs B X) (digs B Y)).2.1=digs B (X%Y):=by rw[kof (kcf B2 X) (kn y) h0 C,kg B2]
theorem kz7{p q:Nat}(k:KeyOk p q)(p2:p<1099511627776)(W:q<1099511627776){y H:List Nat}(lm:∀x∈y,x<B)(lr:∀x∈H,x<B)(C:(encF (digs B (p*q)) y H).2=0) :
  kz (digs B (p*q))=true/\rt y=true/\num B y<p*q/\Nat.Coprime (num B H) (p*q)/\
  encF (digs B (p*q)) y H=(digs B ((num B y*(p*q)+1)*(num B H^(p*q)%(p*q*(p*q)))%(p*q*(p*q))),0):=by
 have I:=key_lt p2 W;have hS:=key_sq p2 W;have h0:=kez k;have Z:rt (digs B (p*q))=true:=kn (up64 I);have K:∀{x:Nat},x<B^4->x<B^30:=λh=>qbp h (Nat.pow_le_pow_right (by decide) (by decide));have F:∀{x:Nat},x<B^30->x<B^64:=λh=>qbp h (Nat.pow_le_pow_right (by decide) (by decide));unfold encF at C|-;cases m:kz (digs B (p*q))with
 | false=>rw[m]at C;cases C
 | true =>
  rw[m]at C;rw[Bool.not_true,cond_false]at C|-;cases ip:kc6 (digs B (p*q)) y with
  | false=>rw[ip]at C;cases C
  | true =>
   rw[ip]at C;rw[Bool.not_true,cond_false]at C|-;cases al:kbr H (digs B (p*q)) (digs B (p*q))with
   | false=>rw[al]at C;cases C
   | true =>
    rw[Bool.not_true,cond_false]
    have hp:rt y=true/\num B y<p*q:=by
     unfold kc6 at ip;cases V:rt y with
     | false=>rw[V]at ip;cases ip
     | true =>rw[V,cond_true,qbu]at ip;have:=kv8 V Z ip;rw[kg B2]at this;exact⟨rfl,this⟩
    obtain⟨a1,-,-,a4⟩:=(krw lr Z (kcf B2 _) Z).1 al;rw[kg B2]at a4;refine⟨rfl,hp.1,hp.2,a4,?_⟩
    have Q:num B y*(p*q)+1<B^30:=by
     have:num B y*(p*q)<B^4:=qbp (Nat.mul_lt_mul'' (Nat.lt_trans hp.2 I) I) (by decide);have:B^4+1<B^30:=by decide
     omega
    have hs:kfp (digs B (p*q)) y=digs B (num B y*(p*q)+1):=by
     unfold kfp
     have e:mulN y (digs B (p*q))=(digs B (num B y*(p*q)),0):=by have:=keo (a:=num B y) (b:=p*q) (K (Nat.lt_trans hp.2 (qbp I (by decide)))) (klq p2 W);rwa[kq7 lm hp.1]at this
     rw[e];unfold addN told;have e1:num B [1]=1:=by decide
     rw[if_pos ⟨kn (F (by omega)),by decide⟩,kg B2,e1,if_pos (F Q)]
    have aa:powN H (digs B (p*q)) (kbd (digs B (p*q)))=digs B (num B H^(p*q)%(p*q*(p*q))):=by unfold powN;rw[kq0 (klq p2 W),kg B2,kg B2]
    rw[hs,aa,kq0 (klq p2 W)];unfold kip;have V:num B H^(p*q)%(p*q*(p*q))<B^4:=Nat.lt_trans (Nat.mod_lt _ (Nat.mul_pos h0 h0)) hS;rw[keo Q (K V)]
    have U:(num B y*(p*q)+1)*(num B H^(p*q)%(p*q*(p*q)))<B^64:=by
     calc _<B^30*B^30:=Nat.mul_lt_mul'' Q (K V)
      _=B^60:=by rw[<- Nat.pow_add]
      _<=B^64:=Nat.pow_le_pow_right (by decide) (by decide)
    rw[kv5 U (F (K hS)) (Nat.mul_pos h0 h0)]
theorem k5s{p q:Nat}(k:KeyOk p q)(p2:p<1099511627776)(U:q<1099511627776){y H:List Nat}(lm:∀x∈y,x<B)(lr:∀x∈H,x<B)(he:(encF (digs B (p*q)) y H).2=0) :
  kb3 (digs B (p*q)) (encF (digs B (p*q)) y H).1=true/\rt y=true/\hidOf p q (num B (encF (digs B (p*q)) y H).1)=num B y:=by
 obtain⟨m,rm,I,co,e⟩:=kz7 k p2 U lm lr he;have h0:=kez k;have V:0<p*q*(p*q):=Nat.mul_pos h0 h0;rw[e];dsimp only;generalize hM:num B y=M at *
 generalize hR:num B H=R at *
 generalize hC:(M*(p*q)+1)*(R^(p*q)%(p*q*(p*q)))%(p*q*(p*q))=C
 have cg:Cg (p*q*(p*q)) ((M*(p*q)+1)*R^(p*q)) C:=by rw[<- hC];exact(Cg.mul Cg.rfl Cg.mod.symm).trans Cg.mod.symm
 have hid:Hid (p*q) ((p-1)*(q-1)) C M:=by have F:=(Hid.mul h0 (Hid.shown (f:=(p-1)*(q-1)) I) (k.hider co)).cg cg;rwa[Nat.add_zero,Nat.mod_eq_of_lt I]at F
 have W:Cg (p*q) C (R^(p*q)):=by
  have F:Cg (p*q) ((M*(p*q)+1)*R^(p*q)) C:=cg.of_dvd (Nat.dvd_mul_right _ _)
  have Z:Cg (p*q) (M*(p*q)+1) 1:=by rw[Nat.add_comm,Nat.mul_comm M];exact Cg.add_mul
  have h3:=Cg.mul Z (Cg.rfl (n:=p*q) (a:=R^(p*q)));rw[Nat.one_mul]at h3;exact F.symm.trans h3
 have K:Nat.Coprime C (p*q):=by have F:Nat.Coprime (R^(p*q)) (p*q):=Nat.Coprime.pow_left _ co;unfold Nat.Coprime at F|-;have Z:C%(p*q)=R^(p*q)%(p*q):=W;rw[Nat.gcd_comm,Nat.gcd_rec,Z,<- Nat.gcd_rec,Nat.gcd_comm];exact F
 have Q:C<p*q*(p*q):=by rw[<- hC];exact Nat.mod_lt _ V
 have CB:C<B^64:=Nat.lt_trans Q (qbp (key_sq p2 U) (Nat.pow_le_pow_right (by decide) (by decide)));refine⟨(kn1 p2 U (kcf B2 _)).2 ⟨m,kn CB,?_,?_,?_⟩,rm,?_⟩
 ·intro hn;have:C=0:=(kcr B2).1 hn;rw[this,Nat.coprime_zero_left]at K;have:=k.pos;omega
 ·rw[kg B2];exact Q
 ·rw[kg B2];exact K
 ·rw[kg B2];exact kz2 k hid
theorem kbco{X Y N:Nat}(C:X<B^30)(F:Y<B^30)(H:N<B^64)(h0:0<N):kip (digs B X) (digs B Y) (digs B N)=digs B (X*Y%N):=by
 unfold kip;rw[keo C F]
 have y:X*Y<B^64:=by
  calc _<B^30*B^30:=Nat.mul_lt_mul'' C F
   _=B^60:=by rw[<- Nat.pow_add]
   _<=B^64:=Nat.pow_le_pow_right (by decide) (by decide)
 rw[kv5 y H h0]
theorem k5b{n a b:Nat}(h:Cg n a b)(c:Nat.Coprime a n):Nat.Coprime b n:=by unfold Nat.Coprime at c|-;have y:a%n=b%n:=h;rw[Nat.gcd_comm,Nat.gcd_rec,<- y,<- Nat.gcd_rec,Nat.gcd_comm];exact c
section
variable{p q:Nat}(k:KeyOk p q)(p2:p<1099511627776)(q2:q<1099511627776)(hb:badF (p:Int) (q:Int)=false)(may:kz (digs B (p*q))=true)
include k p2 q2 hb may
theorem dec_of{X M:Nat}(co:Nat.Coprime X (p*q))(hid:Hid (p*q) ((p-1)*(q-1)) X M):decF (p:Int) (q:Int) (digs B (X%(p*q*(p*q))))=(digs B M,0):=by
 have h0:=kez k;have H:0<p*q*(p*q):=Nat.mul_pos h0 h0;generalize I:X%(p*q*(p*q))=C;have cg:Cg (p*q*(p*q)) X C:=by rw[<- I];exact Cg.mod.symm
 have y:Nat.Coprime C (p*q):=k5b (cg.of_dvd (Nat.dvd_mul_right _ _)) co;have F:C<p*q*(p*q):=by rw[<- I];exact Nat.mod_lt _ H
 have K:C<B^64:=Nat.lt_trans F (qbp (key_sq p2 q2) (Nat.pow_le_pow_right (by decide) (by decide)))
 have v:kb3 (digs B (p*q)) (digs B C)=true:=(kn1 p2 q2 (kcf B2 _)).2 ⟨may,kn K,λQ=>by have:C=0:=(kcr B2).1 Q;rw[this,Nat.coprime_zero_left]at y;have:=k.pos;omega,by rw[kg B2];exact F,by rw[kg B2];exact y⟩
 unfold decF;rw[hb,cond_false,Int.toNat_natCast,Int.toNat_natCast,v,Bool.not_true,cond_false,kg B2,kz2 k (hid.cg cg)]
end
end Go.Ab
namespace Go.Heap
variable{α:Type}
variable(key:α->Int)
def at'(l:List α)(i:Nat):Int:=((l[i]?).map key).getD 0
end Go.Heap
set_option maxRecDepth 10000
namespace Go.Ab
open Go.Proofs Go.Num
abbrev Fr3:=Bool×List Nat×List Nat
theorem kbk4{n:Nat}(h:n<=1000000):growOk Pg n T.int 1=true:=by
 unfold growOk;rw[k1a,kw1];have y:n*8<=kbb:=by simp only[kbb];omega
 have C:n<=kbb:=by simp only[kbb];omega
 simp[y,C]
structure Off(h:AH)(t:Sl)(xs:List Nat)(iB iO:Nat)(oi:Option Nat):Prop where
 n:Nats h t xs
 b:Av t iB xs
 o:Av t iO xs
 g:AvO t xs oi
theorem Off.grow{h h':AH}{t:Sl}{xs:List Nat}{iB iO:Nat}{oi:Option Nat}(x:Off h t xs iB iO oi)(g:Grow h h'):Off h' t xs iB iO oi:=⟨x.n.grow g,x.b,x.o,x.g⟩
theorem Off.updB{h h':AH}{t:Sl}{xs:List Nat}{iB iO:Nat}{oi:Option Nat}(x:Off h t xs iB iO oi)(u:Upd h h' iB):Off h' t xs iB iO oi:=⟨x.n.upda x.b u,x.b,x.o,x.g⟩
theorem Off.updO{h h':AH}{t:Sl}{xs:List Nat}{iB iO:Nat}{oi:Option Nat}(x:Off h t xs iB iO oi)(u:Upd h h' iO):Off h' t xs iB iO oi:=⟨x.n.upda x.o u,x.b,x.o,x.g⟩
theorem Off.updG{h h':AH}{t:Sl}{xs:List Nat}{iB iO:Nat}{oi:Option Nat}(x:Off h t xs iB iO oi)(u:UpdO h h' oi):Off h' t xs iB iO oi:=⟨x.n.updo x.g u,x.b,x.o,x.g⟩
theorem Off.anew{h:AH}{t:Sl}{xs:List Nat}{iB iO:Nat}{oi:Option Nat}(x:Off h t xs iB iO oi){k:Nat}{h0:AH}(y:Nats h0 t xs)(hk:h0.blks.size<=k):Off h t xs iB iO (some k):=⟨x.n,x.b,x.o,qbg y hk⟩
structure BestAt(h0 h:AH)(iA iB iO:Nat)(oi:Option Nat)(G N:Int)(st:List Int×Fr3):Prop where
 grow:Grow h0 h
 hA:h.has iA [.i G,.i N] kw
 best:∃t1 t2:Sl,h.has iB [.bool st.2.1,t1.v,t2.v] kbc/\Off h t1 st.2.2.1 iB iO oi/\Off h t2 st.2.2.2 iB iO oi
 outs:∃s:Sl,h.has iO [s.v] kcj/\GF (Ef.int .i64) T.int h Fp.no s oi st.1
 ab:iA≠iB
 ao:iA≠iO
 bo:iB≠iO
 na:NeO iA oi
 nb:NeO iB oi
 no:NeO iO oi
 la:h0.blks.size<=iA
 lb:h0.blks.size<=iB
 lo:h0.blks.size<=iO
 lg:LeO h0.blks.size oi
theorem GF.toNo{k:IntKind}{elem:TypeId}{h:AH}{S:Fp}{s:Sl}:∀{i:Option Nat}{xs:List Int},GF (Ef.int k) elem h S s i xs->GF (Ef.int k) elem h Fp.no s i xs
 | .none,_,v=>v
 | .some _,_,⟨l,a,r,ln,rows,e,b,c,r2⟩=>⟨l,id,r,ln,rows,e,b,c,r2.imp λ_ _ x=>x⟩
def askF(i:Int)(g:Fr3)(st:List Int×Fr3):List Int×Fr3 :=
 if khk g.1 g.2.1 g.2.2 st.2.1 st.2.2.1 st.2.2.2>0 then([i],g)
 else if khk g.1 g.2.1 g.2.2 st.2.1 st.2.2.1 st.2.2.2=0/\st.1.length>0 then(st.1++[i],st.2)else st
theorem ask_is{h0 h:AH}{iA iB iO:Nat}{oi:Option Nat}{G N:Int}{st:List Int×Fr3}(e:BestAt h0 h iA iB iO oi G N st)(aq:st.1.length<=100000){g:Fr3}{u1 u2:Sl}(o1:Off h u1 g.2.1 iB iO oi)(o2:Off h u2 g.2.2 iB iO oi)(i:Int) :
  Runs (go (.fn kfi [.i i,.agg [.bool g.1,u1.v,u2.v],.p (.new iB 0),.p (.new iO 0)]) h) λv h'=>v=.tup []/\∃af,BestAt h0 h' iA iB iO af G N (askF i g st):=by
 obtain⟨t1,t2,bB,x1,x2⟩:=e.best;obtain⟨s,bO,gf⟩:=e.outs;rw[k4p];refine qx λh7 b7 Z=>?_;refine qw (b7.rd 0 (f:=AV.asBool) rfl rfl) (qw (b7.rd 1 (f:=AV.asSl) rfl qck) (qw (b7.rd 2 (f:=AV.asSl) rfl qck) ?_));have cB:=Z.has bB;refine qw (cB.rd 0 (f:=AV.asBool) rfl rfl) (qw (cB.rd 1 (f:=AV.asSl) rfl qck) (qw (cB.rd 2 (f:=AV.asSl) rfl qck) ?_));obtain⟨_,C,ag,rfl,W⟩:=k7u (o1.n.grow Z) (o2.n.grow Z) (x1.n.grow Z) (x2.n.grow Z) g.1 st.2.1;refine qw ag (qw (seen qcl) ?_);dsimp only;have y:=Z.trans W;have G0:=e.grow.trans y;have dB:=W.has cB;have dO:=y.has bO;have dA:=y.has e.hA;have lB:iB<h.blks.size:=bB.lt;have lO:iO<h.blks.size:=bO.lt;have lA:iA<h.blks.size:=e.hA.lt;have sz:=y.size;refine qba (λk=>?_) (λk=>?_)
 ·
  rw[qbu]at k;have e7:=W.has b7;refine qw (e7.rd 0 (f:=AV.asBool) rfl rfl) (qw (e7.rd 1 (f:=AV.asSl) rfl qck) (qw (e7.rd 2 (f:=AV.asSl) rfl qck) ?_));refine qx λah aa F=>?_;refine qbb (F.same e7 0 3) ?_;have ar:C.blks.size<ah.blks.size:=aa.lt;refine qy (F.has dO) rfl λau ai I=>?_;have f7:=(F.has e7).updr (i:=iO) (by omega) I;refine qbb (kjg (F.has e7) f7 0 3) ?_;have fB:=(F.has dB).updr (i:=iO) e.bo I;refine qy fB rfl λaj ak Q=>?_;refine qu ⟨rfl,some C.blks.size,?_⟩;have ea:askF i g st=([i],g):=by unfold askF;rw[if_pos k]
  rw[ea]
  have up:∀{t:Sl}{xs:List Nat},Off h t xs iB iO oi->Off aj t xs iB iO (some C.blks.size):=λx =>((((x.anew x.n (by omega)).grow y).grow F).updO I).updB Q
  refine⟨?_,?_,⟨u1,u2,ak,up o1,up o2⟩,⟨_,ai.updr (λe'=>e.bo e'.symm) Q,?_⟩,e.ab,e.ao,e.bo,?_,?_,?_,e.la,e.lb,e.lo,?_⟩
  ·exact((G0.trans F).updr e.lo I).updr e.lb Q
  ·exact((F.has dA).updr e.ao I).updr e.ab Q
  ·have ac:=(aa.updr (i:=iO) (by omega) I).updr (i:=iB) (by omega) Q;exact GF.one ac rfl id
  ·show iA≠C.blks.size;omega
  ·show iB≠C.blks.size;omega
  ·show iO≠C.blks.size;omega
  ·exact G0.size
 ·rw[qbt]at k
  have same:askF i g st=st->BestAt h0 C iA iB iO oi G N (askF i g st):=λhs=>by rw[hs];exact⟨G0,dA,⟨t1,t2,dB,x1.grow y,x2.grow y⟩,⟨s,dO,gf.grow y⟩,e.ab,e.ao,e.bo,e.na,e.nb,e.no,e.la,e.lb,e.lo,e.lg⟩
  refine qba (λk0=>?_) (λk0=>?_)
  ·rw[qbu]at k0;refine qw (dO.rd0 (f:=AV.asSl) rfl qck) ?_;rw[gf.len];refine qba (λkl=>?_) (λkl=>?_)
   ·rw[qbu]at kl;refine qw (dO.rd0 (f:=AV.asSl) rfl qck) ?_;refine qx λK ad H=>?_;refine qw (kfe (n:=1) ad (by rw[kja];rfl)) ?_;obtain⟨s',al,am,ae,U⟩:=((gf.grow y).grow H).push (P:=Pg) (T:=Fp.no) (cs:=[.i i]) (x:=i) rfl NotO.no (kbk4 (by omega));refine qw am (qw (seen qck) ?_);dsimp only;have aw:=y.trans H;have ax:C.blks.size<K.blks.size:=ad.lt;have hO:=(H.has dO).updo e.no U;refine qy hO rfl λan ap V=>?_;refine qu ⟨rfl,some K.blks.size,?_⟩
    have ea:askF i g st=(st.1++[i],st.2):=by unfold askF;rw[if_neg k,if_pos ⟨k0,by omega⟩]
    rw[ea]
    have up:∀{t:Sl}{xs:List Nat},Off h t xs iB iO oi->Off an t xs iB iO (some K.blks.size):=λx =>(((((x.grow y).grow H).updG U).anew x.n (by omega)).updO V)
    have Gu:Grow h0 al:=(G0.trans H).updo e.lg U;refine⟨Gu.updr e.lo V,((H.has dA).updo e.na U).updr e.ao V,⟨t1,t2,((H.has dB).updo e.nb U).updr e.bo V,up x1,up x2⟩,⟨s',ap,?_⟩,e.ab,e.ao,e.bo,?_,?_,?_,e.la,e.lb,e.lo,?_⟩
    ·refine(ae.toNo).upd V id λk hk=>?_;cases hk;omega
    ·show iA≠K.blks.size;omega
    ·show iB≠K.blks.size;omega
    ·show iO≠K.blks.size;omega
    ·exact(G0.trans H).size
   ·rw[qbt]at kl;refine qu ⟨rfl,oi,same ?_⟩;unfold askF;rw[if_neg k,if_neg (λh=>kl (by omega))]
  ·rw[qbt]at k0;refine qu ⟨rfl,oi,same ?_⟩;unfold askF;rw[if_neg k,if_neg (λh=>k0 h.1)]
abbrev Fr3.of(g:Frc):Fr3:=(g.1,g.2.1,g.2.2.1)
def kj4(l G N:Int)(x:Int×Int)(i:Int)(st:List Int×Fr3):List Int×Fr3:=if x.2>0/\x.2<N then askF i (Fr3.of (gainF l x.1 x.2 G N)) st else st
def bestGo(l G N:Int):List (Int×Int)->Int->List Int×Fr3->List Int×Int
 | [],_,st=>(st.1,0)
 | x::xs,i,st=>if(gainF l x.1 x.2 G N).2.2.2=0 then bestGo l G N xs (i+1) (kj4 l G N x i st)else([],1)
abbrev E2:Ef (Int×Int):=Ef.pair (Ef.int .i64) (Ef.int .i64)
def IntsP(h0:AH)(r:List Int×Int)(v:AV)(h':AH):Prop:=∃s1:Sl,v=.tup [s1.v,.i r.2]/\Sq (Ef.int .i64) h' Fp.all s1 r.1/\Grow h0 h'
theorem BestAt.more{h0 h h':AH}{iA iB iO:Nat}{oi:Option Nat}{G N:Int}{st:List Int×Fr3}(e:BestAt h0 h iA iB iO oi G N st)(g:Grow h h'):BestAt h0 h' iA iB iO oi G N st:=by obtain⟨t1,t2,y,x1,x2⟩:=e.best;obtain⟨s,C,F⟩:=e.outs;exact⟨e.grow.trans g,g.has e.hA,⟨t1,t2,g.has y,x1.grow g,x2.grow g⟩,⟨s,g.has C,F.grow g⟩,e.ab,e.ao,e.bo,e.na,e.nb,e.no,e.la,e.lb,e.lo,e.lg⟩
theorem kbem(i:Int)(g:Fr3)(st:List Int×Fr3):(askF i g st).1.length<=st.1.length+1:=by
 unfold askF;split
 ·simp
 ·split
  ·simp
  ·simp
theorem E2_at{h:AH}{S:Fp}{s:Sl}{xs:List (Int×Int)}(n:Sq E2 h S s xs){i:Nat}(y:i<xs.length):∃r:Ref,idx s.ref s.len (i:Int) 2=some r/\h.cell (r.add 0)=some (.i xs[i].1)/\h.cell (r.add 1)=some (.i xs[i].2):=by obtain⟨r,cs,C,F,e3⟩:=n.at (i:=(i:Int)) (kgy y);obtain⟨H,I,rfl,rfl,rfl⟩:=F;rw[n.len];exact⟨r,C,e3.at' 0 _ rfl,e3.at' 1 _ rfl⟩
theorem kbct{h0:AH}{iA iB iO:Nat}{l G N:Int}{s:Sl}{xs:List (Int×Int)}(n0:Sq E2 h0 Fp.all s xs)(ak:xs.length<=16384):∀(k i:Nat),i+k=xs.length->∀{h:AH}{oi:Option Nat}{st:List Int×Fr3},BestAt h0 h iA iB iO oi G N st->st.1.length<=i->
  Runs (go (.pt kel khe [(0,.i l),(6,.p (.new iA 0)),(10,.p (.new iO 0)),(13,.func (.func kfi) [] [.p (.new iB 0),.p (.new iO 0)]),(47,s.v),(48,.i (xs.length:Int)),(49,.i (i:Int))]) h) (IntsP h0 (bestGo l G N (xs.drop i) (i:Int) st)):=by
 intro k
 induction k with
 | zero =>
  intro i hi h oi st e hl;rw[kxi];obtain⟨t,bO,gf⟩:=e.outs;refine q0 (by rw[qbt];omega) ?_;refine qw (bO.rd0 (f:=AV.asSl) rfl qck) ?_;rw[List.drop_of_length_le (by omega)];exact qu ⟨t,rfl,gf.sq.mono λ_ _=>trivial,e.grow⟩
 | succ k ih =>
  intro i hi h oi st e hl;have hx:i<xs.length:=by omega
  rw[kxi];refine qz (by rw[qbu];omega) ?_;obtain⟨r,e1,c0,c1⟩:=E2_at (n0.grow e.grow) hx;refine qw e1 (qw (rdc c0 qcl) (qw (rdc c1 qcl) ?_));refine qx λal ad ae=>?_;refine qy ad rfl λH I af=>?_;have K:Grow h H:=ae.updr (qbn _) af;refine qw (I.rd 0 (f:=AV.asInt .i64) rfl qcl) (qw (I.rd 1 (f:=AV.asInt .i64) rfl qcl) ?_);have U:=K.has e.hA;refine qw (U.rd 0 (f:=AV.asInt .i64) rfl qcl) (qw (U.rd 1 (f:=AV.asInt .i64) rfl qcl) ?_);obtain⟨_,V,ag,u1,u2,rfl,n1,n2,W,w1,w2⟩:=k9d (h:=H) l xs[i].1 xs[i].2 G N;refine qw ag (qw rfl (qw rfl ?_));refine qz rfl ?_;refine qw rfl (qw qck (qw qck (qw (seen qcl) ?_)));dsimp only;refine qx λam ah Z=>?_;refine qy ah rfl λy Q aa=>?_;have F:Grow V y:=Z.updr (qbn _) aa;have C:Grow h y:=(K.trans W).trans F;rw[qcd hx];rcases kbc0 l xs[i].1 xs[i].2 G N with er | er
  ·rw[er];refine q0 rfl ?_
   have ai:bestGo l G N (xs[i]::xs.drop (i+1)) (i:Int) st=bestGo l G N (xs.drop (i+1)) ((i+1:Nat):Int) (kj4 l G N xs[i] (i:Int) st):=by rw[bestGo,if_pos er];rfl
   rw[ai,ko (by omega)];have ac:=(W.trans F).has I
   have skip:¬(xs[i].2>0/\xs[i].2<N)->Runs (go (.pt kel khe [(0,.i l),(6,.p (.new iA 0)),(10,.p (.new iO 0)),(13,.func (.func kfi) [] [.p (.new iB 0),.p (.new iO 0)]),(47,s.v),(48,.i (xs.length:Int)),(49,.i ((i+1:Nat):Int))]) y) (IntsP h0 (bestGo l G N (xs.drop (i+1)) ((i+1:Nat):Int) (kj4 l G N xs[i] (i:Int) st))):=λhn=>by unfold kj4;rw[if_neg hn];exact ih (i+1) (by omega) (e.more C) (by omega)
   refine qw (ac.rd 1 (f:=AV.asInt .i64) rfl qcl) ?_;refine qba (λk1=>?_) (λk1=>?_)
   ·rw[qbu]at k1;refine qw (ac.rd 1 (f:=AV.asInt .i64) rfl qcl) (qw ((C.has e.hA).rd 1 (f:=AV.asInt .i64) rfl qcl) ?_);refine qba (λk2=>?_) (λk2=>?_)
    ·rw[qbu]at k2;refine qw (Q.rd 0 (f:=AV.asBool) rfl rfl) (qw (Q.rd 1 (f:=AV.asSl) rfl qck) (qw (Q.rd 2 (f:=AV.asSl) rfl qck) ?_));obtain⟨t1,t2,bB,x1,x2⟩:=e.best;obtain⟨so,bO,gf⟩:=e.outs;have lB:=bB.lt;have lO:=bO.lt;have sz:=K.size
     have off:∀{u:Sl}{ys:List Nat},Nats V u ys->Own H u->Off y u ys iB iO oi:=λnn ww =>
      ⟨(nn.grow Z).upda (qbg nn (qbn _)) aa,qbh ww (by omega),qbh ww (by omega),AvO.of_own ww (by
       have:=gf.lt;revert this;cases oi with
       | none=>exactλ_=>trivial
       | some q=>exactλhq=>qbp hq sz)⟩
     obtain⟨_,an,aj,rfl,ap,e'⟩:=ask_is (g:=Fr3.of (gainF l xs[i].1 xs[i].2 G N)) (e.more C) (by omega) (off n1 w1) (off n2 w2) (i:Int);refine qw aj (qw rfl ?_)
     have hs:kj4 l G N xs[i] (i:Int) st=askF (i:Int) (Fr3.of (gainF l xs[i].1 xs[i].2 G N)) st:=by unfold kj4;rw[if_pos ⟨k1,k2⟩]
     rw[hs];exact ih (i+1) (by omega) e' (qbo (kbem _ _ _) (by omega))
    ·rw[qbt]at k2;exact skip λhh=>k2 hh.2
   ·rw[qbt]at k1;exact skip λhh=>k1 hh.1
  ·rw[er];refine qz rfl ?_;rw[bestGo,if_neg (by rw[er];decide)];exact qu ⟨⟨none,0,.is 0⟩,rfl,Sq.nil _ _ _,e.grow.trans C⟩
def gammaF(γ:Int):Fr3:=Fr3.of (kbh (ofI γ).1 (ofI γ).2 [1])
def bestF(l γ G N:Int)(xs:List (Int×Int)):List Int×Int:=cond (!kbf G N) ([],1) (cond (!kb7 l) ([],1) (cond (decide (γ<0)) ([],1) (cond (decide (γ>1048576)) ([],1) (cond (decide ((xs.length:Int)>16384)) ([],1) (bestGo l G N xs 0 ([],gammaF γ))))))
theorem kv1{h:AH}{s:Sl}{xs:List (Int×Int)}(n:Sq E2 h Fp.all s xs)(l γ G N:Int):Runs (go (.fn kel [.i l,.i γ,.agg [.i G,.i N],s.v]) h) (IntsP h (bestF l γ G N xs)):=by
 have y:∀{h':AH},Grow h h'->bestF l γ G N xs=([],1)->Runs (some (.tup [nV,.i 1],h')) (IntsP h (bestF l γ G N xs)):=λg e=>by rw[e];exact qu ⟨⟨none,0,.is 0⟩,rfl,Sq.nil _ _ _,g⟩
 rw[kbcc];refine qx λh6 b6 g6=>?_;refine qw (b6.rd 0 (f:=AV.asInt .i64) rfl qcl) (qw (b6.rd 1 (f:=AV.asInt .i64) rfl qcl) ?_);obtain⟨_,h9,e9,rfl,g9⟩:=kmb (h:=h6) G N;refine qw e9 (qw (seen rfl) ?_);refine qba (λH=>?_) (λH=>?_)
 ·exact y (g6.trans g9) (by unfold bestF;rw[H];rfl)
 obtain⟨_,I,aj,rfl,K⟩:=kvc (h:=h9) l;refine qw aj (qw (seen rfl) ?_);have C:=(g6.trans g9).trans K;refine qba (λV=>?_) (λV=>?_)
 ·exact y C (by unfold bestF;rw[H,cond_false,V];rfl)
 refine qba (λW=>?_) (λW=>?_)
 ·exact y C (by unfold bestF;rw[H,cond_false,V,cond_false,W];rfl)
 refine qba (λZ=>?_) (λZ=>?_)
 ·exact y C (by unfold bestF;rw[H,cond_false,V,cond_false,W,cond_false,Z];rfl)
 rw[n.len];refine qba (λk5=>?_) (λk5=>?_)
 ·exact y C (by unfold bestF;rw[H,cond_false,V,cond_false,W,cond_false,Z,cond_false,k5];rfl)
 have ef:bestF l γ G N xs=bestGo l G N xs 0 ([],gammaF γ):=by unfold bestF;rw[H,cond_false,V,cond_false,W,cond_false,Z,cond_false,k5,cond_false]
 rw[ef];rw[qbt]at W Z k5;dsimp only;refine qx λaa ac ad=>?_;obtain⟨ak,al,am,an,ae,ax⟩:=ku2 (h:=aa) γ (by omega);refine qw am (qw rfl ?_);refine qz rfl ?_;refine qw rfl (qw qck ?_);dsimp only;refine qx λaf ap Q=>?_;have n1:Nats af (⟨some (.new al.blks.size 0),1,.is 1⟩:Sl) [1]:=Nats.of_has (xs:=[1]) ap (by decide) (by simp);obtain⟨_,F,aq,u1,u2,rfl,m1,m2,ag,w1,w2⟩:=ku6 (an.grow Q) n1 (ofI γ).1;refine qw aq (qw rfl (qw rfl ?_));refine qz rfl ?_;refine qw rfl (qw qck (qw qck (qw (seen qcl) ?_)));dsimp only;refine qx λay ar ah=>?_;refine qy ar rfl λU au ai=>?_;have l6:h.blks.size<h6.blks.size:=b6.lt;have s9:=g9.size;have az:=K.size;have a0:I.blks.size<aa.blks.size:=ac.lt;have ak:=ae.size;have ba:=Q.size;have bb:=ag.size;have gU:Grow F U:=ah.updr (qbn _) ai
 have off:∀{u:Sl}{ys:List Nat},Nats F u ys->Own af u->Off U u ys F.blks.size I.blks.size none:=λnn ww =>⟨(nn.grow ah).upda (qbg nn (qbn _)) ai,qbg nn (qbn _),qbh ww (by omega),trivial⟩
 have gX:=((ae.trans Q).trans ag).trans gU
 have aw:BestAt h U h.blks.size F.blks.size I.blks.size none G N ([],gammaF γ):=by refine⟨(C.trans ad).trans gX,gX.has (ad.has ((g9.trans K).has b6)),⟨u1,u2,au,off m1 w1,off m2 w2⟩,⟨_,gX.has ac,GF.none _ _ _ _⟩,?_,?_,?_,trivial,trivial,trivial,?_,?_,?_,trivial⟩<;>omega
 have:=kbct n (by omega) (l:=l) (s:=s) xs.length 0 (by omega) aw (qbn _)
 simpa using this
theorem k2y{h:AH}{S T:Fp}{s t:Sl}{xs:List Int}(n:Sq (Ef.int .i64) h S s xs)(m:Sq (Ef.int .i64) h T t xs):∀(k i:Nat),i+k=xs.length->
  go (.pt kia knx [(0,s.v),(1,t.v),(5,.i (i:Int))]) h=some (.bool true,h)
 | 0,i,C=>by
  rw[k1v,condF (by rw[qbt,n.len];omega)]
 | k+1,i,C=>by
  have y:i<xs.length:=by omega
  obtain⟨r1,F,a1,rfl,H⟩:=n.at (i:=(i:Int)) (kgy y);obtain⟨r2,cs2,a2,rfl,I⟩:=m.at (i:=(i:Int)) (kgy y);have hs:=n.short;rw[k1v,condT (by rw[qbu,n.len];omega),n.len,m.len,show idx s.ref xs.length (i:Int) 1=some r1 from a1,qbr,H.rd0 (qk h) (f:=AV.asInt .i64) rfl qcl,qbr,show idx t.ref xs.length (i:Int) 1=some r2 from a2,qbr,I.rd0 (qk h) (f:=AV.asInt .i64) rfl qcl,qbr,condF (by simp),ko (by omega)];exact k2y n m k (i+1) (by omega)
theorem kbc3{h:AH}{S T:Fp}{s t:Sl}{xs:List Int}(n:Sq (Ef.int .i64) h S s xs)(m:Sq (Ef.int .i64) h T t xs):go (.fn kia [s.v,t.v]) h=some (.bool true,h):=by rw[kbby,condF (by rw[n.len,m.len];simp)];exact k2y n m xs.length 0 (by omega)
end Go.Ab
set_option maxRecDepth 10000
namespace Go.Ab
open Go.Proofs
def idsR(l:List Int):Bool:=decide (l.length<=256)&&(!(l.any λx=>decide (x<0)||decide (x>1073741824))&&decide l.Nodup)
structure Tb where
 ids:List Int
 bins:List Int
 cols:List (List Int)
def colR(t:Tb)(i:Nat):Bool:=!decide (t.bins.getD i 0<2)&&!decide (t.bins.getD i 0>32)&&decide ((t.cols.getD i []).length=t.ids.length)&&!((t.cols.getD i []).any λx=>decide (x<0)||decide (x>=t.bins.getD i 0))
def tabR(t:Tb):Bool:=idsR t.ids&&!decide (t.cols.length>16)&&decide (t.bins.length=t.cols.length)&&(List.range t.cols.length).all (colR t)
structure TabAt(h:AH)(S:Fp)(s1 s2 s3:Sl)(t:Tb):Prop where
 ids:Sq EI h S s1 t.ids
 bins:Sq EI h S s2 t.bins
 cols:Sq (Ef.seq EI) h S s3 t.cols
theorem TabAt.md{h h':AH}{S T:Fp}{s1 s2 s3:Sl}{t:Tb}(n:TabAt h S s1 s2 s3 t)(m:Md T h h')(d:Dis S T):TabAt h' S s1 s2 s3 t:=⟨n.ids.md m d,n.bins.md m d,n.cols.md m d⟩
theorem TabAt.grow{h h':AH}{S:Fp}{s1 s2 s3:Sl}{t:Tb}(n:TabAt h S s1 s2 s3 t)(g:Grow h h'):TabAt h' S s1 s2 s3 t:=⟨n.ids.grow g,n.bins.grow g,n.cols.grow g⟩
section
variable{h0:AH}{S:Fp}{s:Sl}{xs:List Int}
theorem kba9(n:Sq EI h0 S s xs):Runs (go (.fn kdu [s.v,.func (.func kdv) [] []]) h0) λv h'=>v=.bool (xs.any λx=>decide (x<0)||decide (x>1073741824))/\Grow h0 h':=by
 rw[k8m];refine Runs.contains (xs:=xs) ?_;rw[kbcd,n.len];refine kl1 (n:=xs.length) (G:=λz h=>go (.pt kbp kcq [(0,s.v),(1,.func (.func kdv) [] []),(7,.i (xs.length:Int)),(8,.i z)]) h) (λi h P F g y C=>?_) (λh g=>?_) xs.length 0 (by omega) (qk h0) (λj K=>by omega)
 ·obtain⟨r,H,I⟩:=(n.grow g).int F;rw[qb1 F]at y C;simp only[Option.any_some]at y C;show Runs (go _ _) _;rw[k2g];refine qz (qbv (by omega)) (qw H (qw I ?_))
  have key:go (.fn kdv [.i xs[i]]) h=some (.bool (decide (xs[i]<0)||decide (xs[i]>1073741824)),h):=by rw[k61];cases decide (xs[i]<0)<;>rfl
  refine qw key (qw (seen rfl) ?_);rw[ko (by have:=n.short;omega)];exact qba (λc=>qu (y h g c)) λc=>C h g c
 ·rw[k2g,condF (qbw (by omega))]
theorem kbe3(n:Sq EI h0 S s xs)(hl:xs.length<=256){m:Nat}(Z:h0.blks.size<=m):∀(k i:Nat),i+k=xs.length->∀{h:AH}{l:List (Int×AV)},Grow h0 h->MapIs h m l->(∀x,(kvGet l x).isSome=true↔x∈xs.take i)->l.length<=i->(l.length=i↔(xs.take i).Nodup)->
  Runs (go (.pt khy kp7 [(3,.map (some m)),(7,s.v),(8,.i (xs.length:Int)),(9,.i (i:Int))]) h) λv h'=>Grow h0 h'/\v=.map (some m)/\∃l,MapIs h' m l/\(l.length=xs.length↔xs.Nodup):=by
 intro k
 induction k with
 | zero =>
  intro i C h l g M hk K F;rw[kw7];refine q0 (qbw (by omega)) (qu ⟨g,rfl,l,M,?_⟩);rw[show i=xs.length from by omega,List.take_length]at F;exact F
 | succ k ih =>
  intro i C h l g M hk K F;have H:i<xs.length:=by omega
  obtain⟨r,e1,e2⟩:=(n.grow g).int H;rw[kw7];refine qz (qbv (by omega)) (qw e1 (qw e2 ?_));obtain⟨h1,e3,M1,u1⟩:=M.put xs[i] (.i (i:Int));refine qw e3 ?_;rw[ko (by omega)];have V:xs.take (i+1)=xs.take i++[xs[i]]:=qce H;have C:=hk xs[i];refine ih (i+1) (by omega) (g.updr Z u1) M1 (λx=>?_) ?_ ?_
  ·rw[k9l,V,qb2,List.mem_singleton];by_cases I:x=xs[i]
   ·rw[if_pos I];exact⟨λ_=>.inr I,λ_=>rfl⟩
   ·rw[if_neg I,hk x];exact⟨.inl,λh=>h.resolve_right I⟩
  ·cases y:kvGet l xs[i]with
   | none=>rw[kxv _ y];simp;omega
   | some w=>rw[k2i _ y];omega
  ·rw[V,List.nodup_append];cases y:kvGet l xs[i]with
   | none =>
    rw[y]at C;have Q:xs[i]∉xs.take i:=λh=>by simpa using C.2 h
    rw[kxv _ y];simp only[qbx,List.length_singleton];constructor
    ·intro e;refine⟨F.1 (by omega),by simp,λa ha b W=>?_⟩;rw[List.mem_singleton]at W;subst W
     rintro rfl
     exact Q ha
    ·intro e;rw[F.2 e.1]
   | some w =>
    rw[y]at C;have U:xs[i]∈xs.take i:=C.1 rfl;rw[k2i _ y];constructor
    ·intro e;omega
    ·intro e;exact absurd rfl (e.2.2 _ U _ (by simp))
theorem k95(n:Sq EI h0 S s xs):Runs (go (.fn kux [s.v]) h0) λv h'=>v=.bool (idsR xs)/\Grow h0 h':=by
 rw[kbdl,n.len];unfold idsR;refine qba (λc=>?_) (λc=>?_)
 ·rw[qbu]at c;rw[qbv (show xs.length<=256 by omega),Bool.true_and];refine(kba9 n).call λv y ⟨e,C⟩=>?_;subst e;refine qw (seen rfl) ?_;refine qba (λF=>?_) (λF=>?_)
  ·rw[F,Bool.true_and]
   have key:Runs (go (.fn khy [s.v]) y) λv h'=>Grow y h'/\∃m l,v=.map (some m)/\MapIs h' m l/\(l.length=xs.length↔xs.Nodup):=by rw[kbcq,n.len];refine Runs.newMap λK M H=>?_;exact(kbe3 (n.grow C) (by omega) (m:=y.blks.size) (qbn _) xs.length 0 (by omega) (l:=[]) H M (λx=>by simp[kvGet]) (qbn _) (by simp)).imp λv h' ⟨g,e,l,M,I⟩=>⟨g,_,l,e,M,I⟩
   refine key.call λv K ⟨H,m,l,e,M,I⟩=>?_;subst e;refine qw (seen rfl) (qw M.size (qu ⟨congrArg AV.bool ?_,C.trans H⟩));rw[decide_eq_decide,<- I];omega
  ·rw[F,Bool.false_and];exact qu ⟨rfl,C⟩
 ·rw[qbt]at c;rw[qbw (show¬xs.length<=256 by omega),Bool.false_and];exact qu ⟨rfl,qk _⟩
end
theorem k9p{h0:AH}{S:Fp}{s:Sl}{xs:List Int}(n:Sq EI h0 S s xs){b:Nat}{z:Int}{e:TypeId}(I:h0.has b [.i z] e):Runs (go (.fn kdu [s.v,.func (.func kdq) [] [.p (.new b 0)]]) h0) λv h'=>v=.bool (xs.any λx=>decide (x<0)||decide (x>=z))/\Grow h0 h':=by
 rw[k71];refine Runs.contains (xs:=xs) ?_;rw[k67,n.len];refine kl1 (n:=xs.length) (G:=λy h=>go (.pt kbp kcq [(0,s.v),(1,.func (.func kdq) [] [.p (.new b 0)]),(7,.i (xs.length:Int)),(8,.i y)]) h) (λi h P H g C F=>?_) (λh g=>?_) xs.length 0 (by omega) (qk h0) (λj W=>by omega)
 ·obtain⟨r,K,Q⟩:=(n.grow g).int H;rw[qb1 H]at C F;simp only[Option.any_some]at C F;show Runs (go _ _) _;rw[kys];refine qz (qbv (by omega)) (qw K (qw Q ?_))
  have key:Runs (go (.fn kdq [.i xs[i],.p (.new b 0)]) h) λv h'=>v=.bool (decide (xs[i]<0)||decide (xs[i]>=z))/\h'=h:=by
   rw[k65];cases decide (xs[i]<0)
   ·refine q0 rfl (qw rfl (qw ((g.has I).rd0 rfl qcl) ?_));exact qu ⟨rfl,rfl⟩
   ·exact qu ⟨rfl,rfl⟩
  refine key.call λv h' ⟨U,V⟩=>?_;subst U;subst V;refine qw (seen rfl) ?_;rw[ko (by have:=n.short;omega)];exact qba (λc=>qu (C _ g c)) λc=>F _ g c
 ·rw[kys,condF (qbw (by omega))]
section
variable{h0:AH}{S:Fp}{s1 s2 s3:Sl}{t:Tb}
theorem kbg8(n:TabAt h0 S s1 s2 s3 t)(hl:t.cols.length<=16)(hb:t.bins.length=t.cols.length){b:Nat}(V:h0.blks.size<=b):∀(k i:Nat),i+k=t.cols.length->∀{h:AH},Grow h0 h->h.has b [s1.v,s2.v,s3.v] kb5->
  Runs (go (.pt kg9 kow [(1,.p (.new b 0)),(27,s3.v),(28,.i (t.cols.length:Int)),(29,.i (i:Int))]) h) λv h'=>v=.bool (((List.range t.cols.length).drop i).all (colR t))/\Grow h0 h':=by
 intro k
 induction k with
 | zero =>
  intro i W h g B;rw[kw6];refine q0 (qbw (by omega)) (qu ⟨?_,g⟩);rw[kwu (by simp;omega)]
 | succ k ih =>
  intro i W h g B;have I:i<t.cols.length:=by omega
  have C:i<t.bins.length:=by omega
  obtain⟨r,s',Z,e2,-,U⟩:=(n.cols.grow g).sl I;obtain⟨r2,e3,e4⟩:=(n.bins.grow g).int C;rw[kw6];refine qz (qbv (by omega)) (qw Z (qw e2 (qcm B 1 rfl (qw e3 (qw e4 ?_)))));refine qx λh1 b1 g1=>qy b1 rfl λh2 b2 u2=>?_;have G:Grow h h2:=g1.updr (qbn _) u2;have B2:=G.has B;rw[kzo I]
  have F:colR t i=(!decide (t.bins[i]<2)&&!decide (t.bins[i]>32)&&decide (t.cols[i].length=t.ids.length)&&!(t.cols[i].any λx=>decide (x<0)||decide (x>=t.bins[i]))):=by simp[colR,List.getD,C,I]
  rw[F];refine qw (b2.rd0 rfl qcl) (qba (λc=>qu ⟨by rw[c];rfl,g.trans G⟩) λc=>?_);refine qw (b2.rd0 rfl qcl) (qba (λH=>qu ⟨by rw[c,H];rfl,g.trans G⟩) λH=>?_);refine qcm B2 0 rfl ?_;rw[U.len,n.ids.len];refine qba (λy=>qu ⟨?_,g.trans G⟩) λy=>?_
  ·have:¬t.cols[i].length=t.ids.length:=by simpa[Int.ofNat_inj]using y
   rw[c,H,qbw this];rfl
  have y:t.cols[i].length=t.ids.length:=by simpa[Int.ofNat_inj]using y
  refine(k9p (U.grow G) b2).call λv h3 ⟨ev,K⟩=>?_;subst ev;refine qw (seen rfl) (qba (λQ=>qu ⟨by rw[c,H,qbv y,Q];rfl,(g.trans G).trans K⟩) λQ=>?_);rw[c,H,qbv y,Q,ko (by omega)];exact ih (i+1) (by omega) ((g.trans G).trans K) (K.has B2)
theorem kv0(n:TabAt h0 S s1 s2 s3 t):Runs (go (.fn kg9 [.agg [s1.v,s2.v,s3.v]]) h0) λv h'=>v=.bool (tabR t)/\Grow h0 h':=by
 rw[k6u];refine qx λK b4 F=>qcm b4 0 rfl ?_;refine(k95 (n.ids.grow F)).call λv Q ⟨I,H⟩=>?_;subst I;have B:=H.has b4;have G:=F.trans H;unfold tabR;refine qw (seen rfl) (qba (λc=>qu ⟨by rw[show idsR t.ids=false by simpa using c];rfl,G⟩) λc=>?_);rw[show idsR t.ids=true by simpa using c,Bool.true_and];refine qcm B 2 rfl ?_;rw[n.cols.len];refine qba (λC=>qu ⟨?_,G⟩) λC=>?_
 ·rw[qbu]at C;rw[qbv (show t.cols.length>16 by omega)];rfl
 rw[qbt]at C;rw[qbw (show¬t.cols.length>16 by omega)];refine qcm B 1 rfl (qcm B 2 rfl ?_);rw[n.bins.len,n.cols.len];refine qba (λy=>qu ⟨?_,G⟩) λy=>?_
 ·have:¬t.bins.length=t.cols.length:=by simpa[Int.ofNat_inj]using y
  rw[qbw this];rfl
 have y:t.bins.length=t.cols.length:=by simpa[Int.ofNat_inj]using y
 rw[qbv y];refine qcm B 2 rfl ?_;rw[n.cols.len];exact kbg8 n (by omega) y (qbn _) t.cols.length 0 (by omega) G B
theorem k6t{s:Sl}{xs:List Int}(n:Sq EI h0 S s xs)(x:Int)(hl:xs.length<=1000000):∀(k i:Nat),i+k=xs.length->(∀j (C:j<xs.length),j<i->xs[j]≠x)->
  ∃z,go (.pt khf kqz [(0,s.v),(1,.i x),(5,.i (i:Int))]) h0=some (.i z,h0)/\∀t (I:t<xs.length),xs[t]=x->(z=(t:Int)↔∀j (C:j<xs.length),j<t->xs[j]≠x):=by
 intro k
 induction k with
 | zero =>
  intro i Q F;refine⟨-1,?_,λt I e=>absurd e (F t I (by omega))⟩;rw[k2q,n.len,condF (qbw (by omega))]
 | succ k ih =>
  intro i Q F;have H:i<xs.length:=by omega
  obtain⟨r,U,V⟩:=n.int H;rw[k2q,U,n.len,condT (qbv (by omega)),qbr,V,qbr];by_cases K:xs[i]=x
  ·rw[condT (qbv K)];refine⟨_,rfl,λt I e=>⟨λh j C W=>F j C (by omega),λh=>?_⟩⟩;rcases Nat.lt_trichotomy i t with y | y | y
   ·exact absurd K (h i H y)
   ·rw[y]
   ·exact absurd e (F t I y)
  ·rw[condF (qbw K),ko (by omega)];refine ih (i+1) (by omega) λj C Z=>?_;by_cases y:j=i
   ·subst y;exact K
   ·exact F j C (by omega)
theorem kbbi{s:Sl}{xs:List Int}(n:Sq EI h0 S s xs)(hl:xs.length<=256):∀(k i:Nat),i+k=xs.length->(∀j (C:j<xs.length),j<i->0<=xs[j]/\xs[j]<=1073741824)->(xs.take i).Nodup->
  go (.pt kin knh [(0,s.v),(3,.i (i:Int))]) h0=some (.bool (!(xs.any λx=>decide (x<0)||decide (x>1073741824))&&decide xs.Nodup),h0):=by
 intro k
 induction k with
 | zero =>
  intro i hi U I;rw[k1z,n.len,condF (qbw (by omega))]
  have V:(xs.any λx=>decide (x<0)||decide (x>1073741824))=false:=by rw[List.any_eq_false];intro x hx;obtain⟨j,C,rfl⟩:=List.getElem_of_mem hx;have:=U j C (by omega);simp;omega
  rw[show i=xs.length by omega,List.take_length]at I;rw[V,qbv I];rfl
 | succ k ih =>
  intro i hi U I;have y:i<xs.length:=by omega
  obtain⟨r,W,e2⟩:=n.int y;rw[k1z,W,n.len,condT (qbv (by omega))];rw[n.len]at W;simp only[qbr,W,e2]
  have F:(xs[i]<0\/xs[i]>1073741824)->(xs.any λx=>decide (x<0)||decide (x>1073741824))=true:=λh=>by rw[List.any_eq_true];exact⟨xs[i],qb0 y,by simpa using h⟩
  by_cases Z:xs[i]<0
  ·rw[condT (qbv Z),F (.inl Z)];rfl
  rw[condF (qbw Z)];by_cases c2:xs[i]>1073741824
  ·rw[condT (qbv c2),F (.inr c2)];rfl
  rw[condF (qbw c2)];obtain⟨z,e3,K⟩:=k6t n xs[i] (by omega) xs.length 0 (by omega) λj C h=>by omega
  have K:=K i y rfl
  have hu:go (.fn khf [s.v,.i xs[i]]) h0=some (.i z,h0):=by rw[kbjv];exact e3
  rw[hu];simp only[qbr,kc];have ht:xs.take (i+1)=xs.take i++[xs[i]]:=qce y;by_cases Q:z=(i:Int)
  ·rw[condF (by rw[qbv Q];rfl),ko (by omega)];refine ih (i+1) (by omega) (λj C H=>?_) ?_
   ·by_cases V:j=i
    ·subst V;omega
    ·exact U j C (by omega)
   ·rw[ht,List.nodup_append];refine⟨I,by simp,λa ha b hb=>?_⟩;rw[List.mem_singleton]at hb;subst hb
    rintro rfl
    obtain⟨j,C,e⟩:=List.getElem_of_mem ha;rw[List.getElem_take]at e;rw[qcc]at C;exact K.1 Q j (by omega) (by omega) e
  ·rw[condT (by rw[qbw Q];rfl)]
   have:¬xs.Nodup:=λh=>Q (K.2 λj C H e=>by have:=(List.nodup_iff_pairwise_ne.1 h);rw[List.pairwise_iff_getElem]at this;exact this j i C y H e)
   rw[qbw this,Bool.and_false]
theorem kbf3{s:Sl}{xs:List Int}(n:Sq EI h0 S s xs):go (.fn kin [s.v]) h0=some (.bool (idsR xs),h0):=by
 rw[k75,n.len];unfold idsR;by_cases c:xs.length>256
 ·rw[condT (qbv (by omega)),qbw (by omega)];rfl
 ·rw[condF (qbw (by omega)),qbv (show xs.length<=256 by omega),Bool.true_and];exact kbbi n (by omega) xs.length 0 (by omega) (λj y h=>by omega) (by simp)
theorem k5w(n:TabAt h0 S s1 s2 s3 t){b:Nat}(B:h0.has b [s1.v,s2.v,s3.v] kb5){i:Nat}(K:i<t.cols.length)(hl:t.cols.length<=16)(hb:t.bins.length=t.cols.length)(hi:t.cols[i].length=t.ids.length)(I:t.ids.length<=256):∀(k j:Nat),j+k=t.ids.length->
  go (.pt kd1 kq6 [(1,.p (.new b 0)),(4,.i (i:Int)),(5,.i (j:Int))]) h0=cond ((t.cols[i].drop j).any λx=>decide (x<0)||decide (x>=t.bins[i])) (some (.bool false,h0)) (go (.pt kd1 km1 [(1,.p (.new b 0)),(4,.i ((i+1:Nat):Int))]) h0):=by
 have H:i<t.bins.length:=by omega
 obtain⟨r,s',Q,U,-,V⟩:=n.cols.sl K;obtain⟨r2,e3,W⟩:=n.bins.int H;intro k
 induction k with
 | zero =>
  intro j Z;rw[kwy,B.rd 0 rfl qck,qbr,n.ids.len,condF (qbw (by omega)),ko (by omega),List.drop_of_length_le (by omega)];rfl
 | succ k ih =>
  intro j Z;have y:j<t.cols[i].length:=by omega
  obtain⟨r3,e5,e6⟩:=V.int y;rw[kwy,B.rd 0 rfl qck,qbr,n.ids.len,condT (qbv (by omega)),B.rd 2 rfl qck];simp only[qbr,Q,U,e5,e6,B.rd 1 rfl qck,e3,W];rw[qcd y,List.any_cons];by_cases C:t.cols[i][j]<0
  ·rw[condT (qbv C),qbv C];rfl
  rw[condF (qbw C),qbw C,Bool.false_or];by_cases F:t.cols[i][j]>=t.bins[i]
  ·rw[condT (qbv F),qbv F];rfl
  rw[condF (qbw F),qbw F,Bool.false_or,ko (by omega)];exact ih (j+1) (by omega)
theorem k8g(n:TabAt h0 S s1 s2 s3 t){b:Nat}(B:h0.has b [s1.v,s2.v,s3.v] kb5)(V:t.cols.length<=16)(W:t.bins.length=t.cols.length)(y:t.ids.length<=256):∀(k i:Nat),i+k=t.cols.length->
  go (.pt kd1 km1 [(1,.p (.new b 0)),(4,.i (i:Int))]) h0=some (.bool (((List.range t.cols.length).drop i).all (colR t)),h0):=by
 intro k
 induction k with
 | zero =>
  intro i Z;rw[k0l,B.rd 2 rfl qck,qbr,n.cols.len,condF (qbw (by omega)),kwu (by simp;omega)]
 | succ k ih =>
  intro i Z;have H:i<t.cols.length:=by omega
  have C:i<t.bins.length:=by omega
  obtain⟨r,s',e1,e2,-,n'⟩:=n.cols.sl H;obtain⟨r2,e3,U⟩:=n.bins.int C
  have F:colR t i=(!decide (t.bins[i]<2)&&!decide (t.bins[i]>32)&&decide (t.cols[i].length=t.ids.length)&&!(t.cols[i].any λx=>decide (x<0)||decide (x>=t.bins[i]))):=by simp[colR,List.getD,C,H]
  rw[kzo H,F];rw[k0l,B.rd 2 rfl qck,qbr,n.cols.len,condT (qbv (by omega)),B.rd 1 rfl qck,qbr,e3,qbr,U,qbr];simp only[qbr,B.rd 0 rfl qck,e1,e2,e3,U];by_cases I:t.bins[i]<2
  ·rw[condT (qbv I),qbv I];rfl
  rw[condF (qbw I),qbw I];by_cases K:t.bins[i]>32
  ·rw[condT (qbv K),qbv K];rfl
  rw[condF (qbw K),qbw K,n'.len,n.ids.len];by_cases Q:t.cols[i].length=t.ids.length
  ·rw[condF (by rw[qbv (by omega)];rfl),qbv Q,show(0:Int)=((0:Nat):Int)from rfl,k5w n B H V W Q y t.ids.length 0 (by omega),List.drop_zero];cases(t.cols[i].any λx=>decide (x<0)||decide (x>=t.bins[i]))with
   | true=>rfl
   | false=>rw[cond_false,ih (i+1) (by omega)];rfl
  ·rw[condT (by rw[qbw (by omega)];rfl),qbw Q];rfl
theorem k9r(n:TabAt h0 S s1 s2 s3 t):Runs (go (.fn kd1 [.agg [s1.v,s2.v,s3.v]]) h0) λv h'=>v=.bool (tabR t)/\Grow h0 h':=by
 rw[kbjc];refine qx λH B G=>qcm B 0 rfl ?_;refine qw (kbf3 (n.ids.grow G)) ?_;unfold tabR;refine qw (seen rfl) (qba (λc=>qu ⟨by rw[show idsR t.ids=false by simpa using c];rfl,G⟩) λc=>?_);have c:idsR t.ids=true:=by simpa using c
 rw[c,Bool.true_and];refine qcm B 2 rfl ?_;rw[n.cols.len];refine qba (λF=>qu ⟨?_,G⟩) λF=>?_
 ·rw[qbu]at F;rw[qbv (show t.cols.length>16 by omega)];rfl
 rw[qbt]at F;rw[qbw (show¬t.cols.length>16 by omega)];refine qcm B 1 rfl (qcm B 2 rfl ?_);rw[n.bins.len,n.cols.len];refine qba (λy=>qu ⟨?_,G⟩) λy=>?_
 ·have:¬t.bins.length=t.cols.length:=by simpa[Int.ofNat_inj]using y
  rw[qbw this];rfl
 have y:t.bins.length=t.cols.length:=by simpa[Int.ofNat_inj]using y
 rw[qbv y]
 have C:t.ids.length<=256:=by unfold idsR at c;simp at c;exact c.1
 have:=k8g (n.grow G) B (by omega) y C t.cols.length 0 (by omega);exact⟨_,_,this,rfl,G⟩
end
end Go.Ab
namespace Go.Ab
theorem ky6:∀(n w:Nat),w≠0->w<2^n->∃k m,k<n/\w=2^(k+1)*m+2^k:=by
 intro n
 induction n with
 | zero=>intro w h0 h;omega
 | succ n ih =>
  intro w h0 h;rcases Nat.mod_two_eq_zero_or_one w with e | e
  ·obtain⟨k,m,hk,y⟩:=ih (w/2) (by omega) (by rw[Nat.pow_succ]at h;omega);refine⟨k+1,m,by omega,?_⟩;have:w=2*(w/2):=by omega
   rw[this,y,Nat.mul_add,<- Nat.mul_assoc,<- Nat.pow_succ',<- Nat.pow_succ']
  ·exact⟨0,w/2,by omega,by simp;omega⟩
theorem kjz{k m:Nat}(j:Nat):(2^(k+1)*m+2^k).testBit j=if j<k then false else if j=k then true else m.testBit (j-(k+1)):=by
 rw[Nat.testBit_two_pow_mul_add _ (Nat.pow_lt_pow_right (by decide) (Nat.lt_succ_self k)),Nat.testBit_two_pow]
 grind
theorem k4e(k m:Nat):(2^(k+1)*m+2^k)&&&(2^(k+1)*m+2^k-1)=2^(k+1)*m:=by
 have hp:0<2^k:=Nat.two_pow_pos k;have e:2^(k+1)*m+2^k-1=2^(k+1)*m+(2^k-1):=by omega
 rw[e];apply Nat.eq_of_testBit_eq;intro j;rw[Nat.testBit_and,kjz,Nat.testBit_two_pow_mul_add _ (by rw[Nat.pow_succ];omega),Nat.testBit_two_pow_sub_one,Nat.testBit_two_pow_mul]
 grind
theorem kbht{k m n:Nat}(h:2^(k+1)*m+2^k<2^n):(2^(k+1)*m+2^k)&&&(2^n-(2^(k+1)*m+2^k))=2^k:=by
 have hk:k<n:=by
  rcases Nat.lt_or_ge k n with y | y
  ·exact y
  ·have:=Nat.pow_le_pow_right (n:=2) (by decide) y;omega
 obtain⟨d,rfl⟩:∃d,n=(k+1)+d:=⟨n-(k+1),by omega⟩
 have F:m<2^d:=by
  rcases Nat.lt_or_ge m (2^d)with y | y
  ·exact y
  ·have:=Nat.mul_le_mul_left (2^(k+1)) y;rw[<- Nat.pow_add]at this;exact absurd h (Nat.not_lt.2 (Nat.le_trans this (Nat.le_add_right _ _)))
 have e:2^(k+1+d)-(2^(k+1)*m+2^k)=2^(k+1)*(2^d-(m+1))+2^k:=by
  have a:2^(k+1+d)=2^(k+1)*2^d:=Nat.pow_add ..;have b:2^(k+1)*2^d=2^(k+1)*(2^d-(m+1))+2^(k+1)*(m+1):=by rw[<- Nat.mul_add];congr 1;omega
  have c:2^(k+1)*(m+1)=2^(k+1)*m+2^(k+1):=by rw[Nat.mul_add,Nat.mul_one]
  have f:2^(k+1)=2^k+2^k:=by rw[Nat.pow_succ];omega
  omega
 rw[e];apply Nat.eq_of_testBit_eq;intro j;rw[Nat.testBit_and,kjz,kjz,Nat.testBit_two_pow];by_cases y:j<k
 ·have:¬k=j:=by omega
  simp[y,this]
 ·by_cases C:j=k
  ·subst C;simp
  ·have:¬k=j:=by omega
   rw[if_neg y,if_neg C,if_neg y,if_neg C,Nat.testBit_two_pow_sub_succ F];simp[this];intro a b;exact a
def ones(w:Nat):List Nat:=(List.range 64).filter w.testBit
theorem kbjt{p q:Nat->Bool}{k:Nat}:∀{n:Nat},k<n->p k=true->(∀j,j<k->p j=false)->(∀j,j<n->q j=(p j&&decide (j≠k)))->(List.range n).filter p=k::(List.range n).filter q:=by
 intro n
 induction n with
 | zero=>intro h;omega
 | succ n ih =>
  intro h hp C hq;rw[List.range_succ,List.filter_append,List.filter_append];by_cases e:k=n
  ·subst e;have a:(List.range k).filter p=[]:=List.filter_eq_nil_iff.2 λj y=>by rw[C j (List.mem_range.1 y)];simp
   have b:(List.range k).filter q=[]:=List.filter_eq_nil_iff.2 λj y=>by have:=List.mem_range.1 y;rw[hq j (by omega),C j this];simp
   rw[a,b];have:q k=false:=by rw[hq k (by omega)];simp
   simp[hp,this]
  ·rw[ih (by omega) hp C λj y=>hq j (by omega)];have:q n=p n:=by rw[hq n (by omega)];simp;intro _;omega
   simp[this,List.filter_cons]
theorem k1b:ones 0=[]:=by unfold ones;exact List.filter_eq_nil_iff.2 λj _=>by simp
theorem kvz{k m:Nat}(hk:k<64):ones (2^(k+1)*m+2^k)=k::ones (2^(k+1)*m):=by
 unfold ones;refine kbjt hk (by rw[kjz];simp) (λj F=>by rw[kjz];simp[F]) λj _=>?_;rw[kjz,Nat.testBit_two_pow_mul];by_cases y:j<k
 ·have:¬k+1<=j:=by omega
  simp[y,this]
 ·by_cases C:j=k
  ·subst C;have:¬j+1<=j:=by omega
   simp[this]
  ·have:k+1<=j:=by omega
   simp[y,C,this]
end Go.Ab
set_option maxRecDepth 10000
namespace Go.Ab
open Go.Proofs
theorem kr6{a b:Nat}(y:a<18446744073709551616)(C:b<18446744073709551616):iand .u64 (a:Int) (b:Int)=((a&&&b:Nat):Int):=by unfold iand;rw[show IntKind.bits .u64=64 from rfl,wrapU];have F:BitVec.ofInt 64 (a:Int)=BitVec.ofNat 64 a:=rfl;have H:BitVec.ofInt 64 (b:Int)=BitVec.ofNat 64 b:=rfl;rw[F,H,BitVec.toNat_and,BitVec.toNat_ofNat,BitVec.toNat_ofNat,Nat.mod_eq_of_lt (show a<2^64 from y),Nat.mod_eq_of_lt (show b<2^64 from C)];have:a&&&b<=a:=Nat.and_le_left;omega
theorem or_nat{a b:Nat}(y:a<18446744073709551616)(C:b<18446744073709551616):ior .u64 (a:Int) (b:Int)=((a|||b:Nat):Int):=by unfold ior;rw[show IntKind.bits .u64=64 from rfl,wrapU];have F:BitVec.ofInt 64 (a:Int)=BitVec.ofNat 64 a:=rfl;have H:BitVec.ofInt 64 (b:Int)=BitVec.ofNat 64 b:=rfl;rw[F,H,BitVec.toNat_or,BitVec.toNat_ofNat,BitVec.toNat_ofNat,Nat.mod_eq_of_lt (show a<2^64 from y),Nat.mod_eq_of_lt (show b<2^64 from C)];have:a|||b<2^64:=Nat.or_lt_two_pow y C;omega
theorem k0f(x n:Nat):ishr .u64 (x:Int) (n:Int)=((x/2^min n 64:Nat):Int):=by
 unfold ishr;rw[Int.toNat_natCast,show IntKind.bits .u64=64 from rfl];have:((2:Int)^min n 64)=((2^min n 64:Nat):Int):=by simp
 rw[this,Int.fdiv_eq_ediv_of_nonneg _ (Int.natCast_nonneg _)];exact(Int.natCast_ediv _ _).symm
theorem k46{n:Nat}(y:n<64):ishl .u64 1 (n:Int)=((2^n:Nat):Int):=by
 unfold ishl;rw[Int.toNat_natCast,show IntKind.bits .u64=64 from rfl,Nat.min_eq_left (by omega),wrapU];have C:(1:Int)*(2:Int)^n=((2^n:Nat):Int):=by simp
 have F:2^n<2^64:=Nat.pow_lt_pow_right (by decide) y;rw[C];generalize 2^n=q at *
 omega
def tzTab:List Nat:=[0,1,56,2,57,49,28,3,61,58,42,50,38,29,17,4,62,47,59,36,45,43,51,22,53,39,33,30,24,18,12,5,63,55,48,27,60,41,37,16,46,35,44,21,52,32,23,11,54,26,40,15,34,20,31,10,25,14,19,9,13,8,7,6]
theorem tz_idx:∀k:_root_.Fin 64,tzTab.getD ((2^k.val*285870213051353865%18446744073709551616)/288230376151711744) 0=k.val:=by decide +kernel
def Tab(h:AH):Prop:=∀k:Nat,k<64->h.cell (.old ⟨Gl.math_bits_deBruijn64tab,k,none⟩)=some (.int .u8 ((tzTab.getD k 0:Nat):Int))
theorem Tab.md{h h':AH}{T:Fp}(t:Tab h)(m:Md T h h'):Tab h':=λk hk=>by rw[<- t k hk];simp only[AH.cell,m.old]
theorem Tab.grow{h h':AH}(t:Tab h)(g:Grow h h'):Tab h':=t.md (g.md Fp.no)
theorem tz_is{h:AH}(T:Tab h){k m:Nat}(hk:k<64)(C:2^(k+1)*m+2^k<18446744073709551616):go (.fn kva [.int .u64 ((2^(k+1)*m+2^k:Nat):Int)]) h=some (.i (k:Int),h):=by
 rw[k30];have hp:=Nat.two_pow_pos k;have H:=kbht (k:=k) (m:=m) (n:=64) C;generalize Z:2^(k+1)*m+2^k=W at *
 have I:0<W:=by omega
 have K:IntKind.wrap .u64 (0-(W:Int))=((18446744073709551616-W:Nat):Int):=by rw[wrapU];omega
 rw[condF (qbw (by omega)),K,kr6 C (by omega),H]
 have Q:IntKind.wrap .u64 (((2^k:Nat):Int)*285870213051353865)=((2^k*285870213051353865%18446744073709551616:Nat):Int):=by rw[wrapU,show((2^k:Nat):Int)*285870213051353865=((2^k*285870213051353865:Nat):Int)from by simp];rfl
 have F:=tz_idx ⟨k,hk⟩;dsimp only at F;rw[Q,show(58:Int)=((58:Nat):Int)from rfl,k0f,show 2^min 58 64=288230376151711744 from rfl];generalize U:2^k*285870213051353865%18446744073709551616/288230376151711744=J at *
 have y:J<64:=by rw[<- U,Nat.div_lt_iff_lt_mul (by decide)];exact Nat.mod_lt _ (by decide)
 have V:idx (some (Ref.old ⟨Gl.math_bits_deBruijn64tab,0,none⟩)) 64 (J:Int) 1=some (.old ⟨Gl.math_bits_deBruijn64tab,J,none⟩):=by rw[kej _ _ _ _ (by omega) (by omega),Int.toNat_natCast,Nat.mul_one];simp[Ref.add,Addr.add];exactλh=>h.symm
 rw[V,qbr,T J y,F];show some (AV.int .i64 (IntKind.wrap .i64 (k:Int)),h)=_;rw[wrap64 (by omega) (by omega)]
def wbit(w:List Nat)(i:Nat):Bool:=(w.getD (i/64) 0).testBit (i%64)
def btR(n:Int)(w:List Nat):Bool:=decide (0<=n)&&(decide (n<=65536)&&(decide (w.length=(n.toNat+63)/64)&&(List.range (64*w.length)).all λi=>decide (i<n.toNat)||!wbit w i))
theorem kbdv{x k:Nat}:x<2^k↔∀i,k<=i->x.testBit i=false:=⟨λh i y=>Nat.testBit_lt_two_pow (qbp h (Nat.pow_le_pow_right (by decide) y)),λh=>Nat.lt_pow_two_of_testBit x h⟩
section
variable{h0:AH}{s:Sl}{w:List Nat}{n:Int}
theorem Nats.rdN{h:AH}(N:Nats h s w){i:Nat}(y:i<w.length):∃r:Ref,idx s.ref s.len (i:Int) 1=some r/\(h.cell r).bind (AV.asInt .u64)=some (w[i]:Int):=by obtain⟨r,C,F⟩:=N.at y;exact⟨r,C,rdc F qcl⟩
theorem koq(N:Nats h0 s w):Runs (go (.fn kj8 [.agg [.i n,s.v]]) h0) λv h'=>v=.bool (btR n w)/\Grow h0 h':=by
 rw[kbds];refine qx λh1 b1 y=>qcn b1 0 rfl (qba (λc=>?_) λc=>?_)
 ·rw[qbu]at c;refine qu ⟨?_,y⟩;unfold btR;rw[qbw (by omega)];rfl
 rw[qbt]at c;refine qcn b1 0 rfl (qba (λF=>?_) λF=>?_)
 ·rw[qbu]at F;refine qu ⟨?_,y⟩;unfold btR;rw[qbw (show¬n<=65536 by omega)];simp
 rw[qbt]at F;obtain⟨z,rfl⟩:∃z:Nat,n=(z:Int):=⟨n.toNat,by omega⟩;have W:=N.grow y;refine qcm b1 1 rfl (qcn b1 0 rfl ?_);rw[N.len,wrap64 (n:=(z:Int)+64) (by omega) (by omega),wrap64 (n:=(z:Int)+64-1) (by omega) (by omega),show(z:Int)+64-1=((z+63:Nat):Int)from by omega,show Int.tdiv ((z+63:Nat):Int) 64=(((z+63)/64:Nat):Int)from rfl,wrap64 (by omega) (by omega)]
 have Z:btR (z:Int) w=(decide (w.length=(z+63)/64)&&(List.range (64*w.length)).all λi=>decide (i<z)||!wbit w i):=by unfold btR;rw[qbv (show(0:Int)<=(z:Int) by omega),qbv (show(z:Int)<=65536 by omega),Int.toNat_natCast];rfl
 rw[Z];refine qba (λI=>?_) λI=>?_
 ·refine qu ⟨?_,y⟩;rw[qcf,qbt]at I;rw[qbw (by omega)];rfl
 rw[qcg,qbu]at I;have hl:w.length=(z+63)/64:=by omega
 rw[qbv hl,Bool.true_and];refine qcn b1 0 rfl ?_;rw[show Int.tmod (z:Int) 64=((z%64:Nat):Int)from rfl];refine qba (λK=>?_) λK=>?_
 ·rw[qbu]at K;refine qu ⟨congrArg AV.bool ?_,y⟩;symm;rw[List.all_eq_true];intro i C;rw[qci]at C;rw[qbv (by omega)];rfl
 rw[qbt]at K;have C:z/64<w.length:=by omega
 obtain⟨r,U,e2⟩:=W.rdN C;refine qcm b1 1 rfl (qcm b1 1 rfl ?_);rw[N.len,show((w.length:Nat):Int)-1=((z/64:Nat):Int)from by omega,wrap64 (by omega) (by omega)];rw[N.len]at U;refine qw U (qw e2 (qcn b1 0 rfl ?_));rw[show Int.tmod (z:Int) 64=((z%64:Nat):Int)from rfl,k0f];refine q0 (qbw (by omega)) (qu ⟨congrArg AV.bool ?_,y⟩);rw[Bool.eq_iff_iff,qbu,List.all_eq_true,Nat.min_eq_left (by omega)]
 have hx:((w[z/64]/2^(z%64):Nat):Int)=0↔w[z/64]<2^(z%64):=by have:=Nat.div_eq_zero_iff (a:=w[z/64]) (b:=2^(z%64));have:=Nat.two_pow_pos (z%64);omega
 rw[hx,kbdv];have V:w.getD (z/64) 0=w[z/64]:=by simp[List.getD,C]
 constructor
 ·intro H i Q;rw[qci]at Q;rcases Nat.lt_or_ge i z with h | h
  ·rw[qbv h];rfl
  ·have:i/64=z/64:=by omega
   unfold wbit;rw[this,V,H (i%64) (by omega)];simp
 ·intro H j hj;rcases Nat.lt_or_ge j 64 with h | h
  ·have:=H (64*(z/64)+j) (by rw[qci];omega);unfold wbit at this;rw[qbw (by omega),show(64*(z/64)+j)/64=z/64 from by omega,show(64*(z/64)+j)%64=j from by omega,V]at this
   simpa using this
  ·exact Nat.testBit_lt_two_pow (qbp (N.lt _ (qb0 C)) (show 2^64<=2^j from Nat.pow_le_pow_right (by decide) h))
end
end Go.Ab
