/- Words and laws that the last text joins. -/
import Derived.Test.YtgldlogiggpbgaaGreatDoorPS2
import Derived.Test.YtgldlogiggpbgaaGreatDoorPAbsT
set_option linter.unusedVariables false
set_option linter.unusedSimpArgs false
set_option linter.unusedSectionVars false
set_option maxRecDepth 10000
namespace Go.Ab
open IntKind (wrap)
open Go.Proofs Go.Num
theorem kbct{z lo y s:Nat}(V:y*2^s<18446744073709551616)(F:lo<18446744073709551616)(G:z<y)(hs:s<=63) :
  z*2^s+lo/2^(64-s)<y*2^s/\(z*2^s+lo/2^(64-s))*18446744073709551616+lo*2^s%18446744073709551616=(z*18446744073709551616+lo)*2^s/\lo/2^(64-s)<2^s/\z*2^s<18446744073709551616:=by
 have p:0<2^s:=Nat.pow_pos (by decide);have e:2^(64-s)*2^s=18446744073709551616:=by rw[<- Nat.pow_add,show 64-s+s=64 from by omega]
 have H:lo/2^(64-s)<2^s:=by rw[Nat.div_lt_iff_lt_mul (Nat.pow_pos (by decide)),Nat.mul_comm,e];exact F
 have I:(z+1)*2^s<=y*2^s:=Nat.mul_le_mul_right _ G;rw[Nat.add_mul,Nat.one_mul]at I;refine⟨by omega,?_,H,by omega⟩
 have K:lo*2^s/18446744073709551616=lo/2^(64-s):=by rw[<- e,Nat.mul_div_mul_right _ _ p]
 have Q:=Nat.div_add_mod (lo*2^s) 18446744073709551616;rw[K]at Q;have U:z*18446744073709551616*2^s=z*2^s*18446744073709551616:=Nat.mul_right_comm _ _ _;rw[Nat.add_mul,Nat.add_mul,U];omega
theorem k9e{y z:Nat}(h:y*4294967296+z<18446744073709551616):wrap .u64 ((wrap .u64 ((y:Int)*4294967296))+(z:Int))=((y*4294967296+z:Nat):Int):=by rw[wrapU,wrapU];omega
theorem k6u{Q lo y:Nat}(hy:y<18446744073709551616)(af:lo<18446744073709551616)(aa:Q<y) :
  Iter kfo (.fn Q lo y) ((((Q*18446744073709551616+lo)/y:Nat):Int),(((Q*18446744073709551616+lo)%y:Nat):Int)):=by
 refine .next (s':=.p3 Q lo y) ?_ ?_
 ·show knh _ _ _=_;unfold knh;rw[condF (by rw[qbx];omega)]
 by_cases h0:Q=0
 ·subst h0;refine .done ?_;show ki4 _ _ _=_;unfold ki4;have hd:=Nat.div_le_self lo y;rw[condF (by rw[qbx];omega),condT (by rfl),condF (by rw[qbx];omega),condF (by rw[qbx];omega),ktd,kboz,kco (by omega),Nat.zero_mul,Nat.zero_add]
 obtain⟨hs,aj,ab⟩:=kzi hy (by omega);have I:64-bl y<=64:=by omega
 obtain⟨p1,p2,p3,p4⟩:=kbct ab af aa hs;have ws:wrap .u64 ((64-bl (Int.toNat (y:Int)):Nat):Int)=((64-bl y:Nat):Int):=by rw[Int.toNat_natCast];exact kco (by omega)
 have wt:wrap .u64 (64-((64-bl y:Nat):Int))=((64-(64-bl y):Nat):Int):=by rw[wrapU];omega
 generalize ak:64-bl y=s at *
 have ey:ishl .u64 (y:Int) (s:Int)=((y*2^s:Nat):Int):=by rw[kjs _ _ I,Nat.mod_eq_of_lt ab]
 have eh:ishl .u64 (Q:Int) (s:Int)=((Q*2^s:Nat):Int):=by rw[kjs _ _ I,Nat.mod_eq_of_lt p4]
 have el:ishl .u64 (lo:Int) (s:Int)=((lo*2^s%18446744073709551616:Nat):Int):=kjs _ _ I;have er:ishr .u64 (lo:Int) ((64-s:Nat):Int)=((lo/2^(64-s):Nat):Int):=by rw[kb9,Nat.min_eq_left (by omega)]
 have eo:=krw p4 p3 I;generalize ah:Q*2^s+lo/2^(64-s)=F at *
 have ai:=Nat.mod_lt (lo*2^s) (show 0<18446744073709551616 by omega);generalize hl:lo*2^s%18446744073709551616=G at *
 generalize hv:y*2^s=v at *
 have ac:∀x:Nat,ishr .u64 (x:Int) 32=((x/4294967296:Nat):Int):=λx=>kb9 x 32;have ag:F*18446744073709551616+G=(F*4294967296+G/4294967296)*4294967296+G%4294967296:=by omega
 have U:v=v/4294967296*4294967296+v%4294967296:=by omega
 have V:0<v:=by omega
 have H:0<v/4294967296:=by omega
 have K:v/4294967296<4294967296:=by omega
 have ad:v%4294967296<4294967296:=by omega
 have ae:G/4294967296<4294967296:=by omega
 have Z:G%4294967296<4294967296:=by omega
 have first:F/(v/4294967296)<8589934592:=by rw[Nat.div_lt_iff_lt_mul H];omega
 have hm:=Nat.mod_lt (F*4294967296+G/4294967296) V
 have W:(F*4294967296+G/4294967296)%v/(v/4294967296)<8589934592:=by rw[Nat.div_lt_iff_lt_mul H];omega
 have td:=kbnm (w:=F*4294967296+G/4294967296) V Z;rw[<- ag,p2]at td;have p:=Nat.pow_pos (a:=2) (n:=s) (by decide);rw[<- hv,Nat.mul_div_mul_right _ _ p,Nat.mul_mod_mul_right,hv]at td;refine .next (s':=.p17 v s (v/4294967296:Nat) (v%4294967296:Nat) F (G/4294967296:Nat) (G%4294967296:Nat) (F/(v/4294967296):Nat) (F%(v/4294967296):Nat)) ?_ ?_
 ·show ki4 _ _ _=_;unfold ki4
  rw[condF (by rw[qbx];omega),condF (by rw[qbx];omega),kp (by omega),qbv,ws,wt,ey,eh,el,er,eo,ac,ac,kmg (show v<_ by omega),kmg (show G<_ by omega),
   condF (by rw[qbx];omega),condF (by rw[qbx];omega),condF (by rw[qbx];omega),condF (by rw[qbx];omega),condF (by rw[qbx];omega),ktd]
  have d1:=Nat.div_add_mod F (v/4294967296);have d2:=Nat.div_le_self F (v/4294967296);rw[Nat.mul_comm]at d1;rw[kco (n:=F/(v/4294967296)) (by omega),<- Int.natCast_mul];generalize F/(v/4294967296)*(v/4294967296)=z at *
  generalize F%(v/4294967296)=z2 at *
  rw[kco (n:=z) (by omega),show(F:Int)-(z:Int)=(z2:Int)from by omega,kco (by omega)]
 ·refine div17 U H K ad p1 ae ?_ _ _ (by rw[Nat.mul_comm];exact Nat.div_add_mod _ _) (k2k H U p1 ae rfl (by omega)) (Nat.lt_trans (Nat.mod_lt _ H) K) first
  rw[kbpz rfl V (by omega) H];refine div24 U H K ad hm Z ?_ _ _ (by rw[Nat.mul_comm];exact Nat.div_add_mod _ _) (k2k H U hm Z rfl (by omega)) (Nat.lt_trans (Nat.mod_lt _ H) K) W;unfold fin24;rw[condF (by rw[qbx];omega),un_eq rfl V (by omega),<- td.2,kb9,Nat.min_eq_left I,Nat.mul_div_cancel _ p]
  have hq:(Q*18446744073709551616+lo)/y<18446744073709551616:=by rw[Nat.div_lt_iff_lt_mul (by omega)];have:(Q+1)*18446744073709551616<=y*18446744073709551616:=Nat.mul_le_mul_right _ aa;omega
  have w:wrap .u64 ((wrap .u64 ((((F*4294967296+G/4294967296)/v:Nat):Int)*4294967296))+((((F*4294967296+G/4294967296)%v*4294967296+G%4294967296)/v:Nat):Int))=(((Q*18446744073709551616+lo)/y:Nat):Int):=by rw[td.1]at hq|-;exact k9e hq
  rw[w]
theorem kbe2{z lo y:Nat}(H:y<18446744073709551616)(F:lo<18446744073709551616)(G:z<y){h:AH}:∃h',go (.fn kbw [.int .u64 (z:Int),.int .u64 (lo:Int),.int .u64 (y:Int)]) h=some (.tup [.int .u64 (((z*18446744073709551616+lo)/y:Nat):Int),.int .u64 (((z*18446744073709551616+lo)%y:Nat):Int)],h')/\Grow h h':=by obtain⟨_,h',e,rfl,g⟩:=kbq3 (k6u H F G) (h:=h);exact⟨h',e,g⟩
end Go.Ab
set_option maxRecDepth 10000
namespace Go.Ab
open Go.Proofs Go.Num
def div64P(h l d:Int):Option (Int×Int):=if 0<=l/\l<18446744073709551616/\0<=h/\h<d/\d<18446744073709551616 then some ((h*18446744073709551616+l)/d,(h*18446744073709551616+l)%d)else none
theorem k1i{z lo y:Nat}(H:y<18446744073709551616)(F:lo<18446744073709551616)(G:z<y):div64P (z:Int) (lo:Int) (y:Int)=some ((((z*18446744073709551616+lo)/y:Nat):Int),(((z*18446744073709551616+lo)%y:Nat):Int)):=by unfold div64P;rw[if_pos (by omega)];rfl
theorem k1g{a b c:Int}{p:Int×Int}{h:AH}(q:div64P a b c=some p):∃h',go (.fn kbw [.int .u64 a,.int .u64 b,.int .u64 c]) h=some (.tup [.int .u64 p.1,.int .u64 p.2],h')/\Grow h h':=by
 unfold div64P at q;split at q
 ·rename_i z;cases q;obtain⟨F,rfl⟩:∃x:Nat,a=(x:Int):=⟨a.toNat,by omega⟩;obtain⟨lo,rfl⟩:∃x:Nat,b=(x:Int):=⟨b.toNat,by omega⟩;obtain⟨y,rfl⟩:∃x:Nat,c=(x:Int):=⟨c.toNat,by omega⟩;exact kbe2 (by omega) (by omega) (by omega)
 ·cases q
end Go.Ab
set_option maxRecDepth 10000
namespace Go.Ab
open IntKind (wrap)
open Go.Proofs Go.Num
inductive kg0
 | fn (x1:List Nat) (a2:Int)
 | p4 (x1:List Nat) (a2:Int) (x3:List Nat) (a4:Int) (a5:Int)
abbrev kfc:=List Nat×Int
noncomputable def kmc(x1:List Nat)(a2:Int):Option (kg0⊕kfc):=(mkI (List.length x1:Int) (List.length x1:Int)).bind λy=>some (.inl (.p4 x1 a2 (List.replicate y 0) 0 (wrap .i64 ((List.length x1:Int)-1))))
noncomputable def kjf(x1:List Nat)(a2:Int)(x3:List Nat)(a4 a5:Int):Option (kg0⊕kfc):=cond (decide (a5>=0)) ((atI x1 a5).bind λF=>(div64P a4 ((F:Int)) a2).bind λz=>(inI (List.length x3) a5).bind λG=>(u64P (z.1)).bind λy=>some (.inl (.p4 x1 a2 (List.set x3 G y) (z.2) (wrap .i64 (a5-1))))) (some (.inr (digs B (num B x3),a4)))
noncomputable def kuh:kg0->Option (kg0⊕kfc)
 | .fn x1 a2=>kmc x1 a2
 | .p4 x1 a2 x3 a4 a5=>kjf x1 a2 x3 a4 a5
@[reducible] def k5b(h0:AH)(r:kfc)(v:AV)(h':AH):Prop:=∃s1:Sl,v=.tup [s1.v,.int .u64 r.2]/\Nats h' s1 r.1/\Grow h0 h'/\Own h0 s1
def kl1(r:kfc):kg0->Prop
 | .fn x1 a2=>∀{h:AH}{a1:Sl},Nats h a1 x1->Runs (go (.fn kgm [a1.v,.int .u64 a2]) h) (k5b h r)
 | .p4 x1 a2 x3 a4 a5=>∀{h0 h:AH}{a1:Sl}{a3:Sl}{i3:Nat},Grow h0 h->Nats h a1 x1->Vec h a3 i3 x3->h0.blks.size<=i3->Av a1 i3 x1->Runs (go (.pt kgm kq2 [(0,a1.v),(1,.int .u64 a2),(6,a3.v),(7,.int .u64 a4),(8,.i a5)]) h) (k5b h0 r)
theorem kbez{r:kfc}{o:kg0⊕kfc}{x1:List Nat}{a2:Int}(e:kmc x1 a2=some o)(y:GoodS (kl1 r) r o):kl1 r (.fn x1 a2):=by intro h a1 n1;rw[kbmd];unfold kmc at e;rw[n1.len];obtain⟨H,F,e⟩:=qbw.1 e;refine Runs.mk F kcz λs3 I G z=>?_;cases e;exact y z (n1.grow z) G (qbr _) (qbh n1 (qbr _))
theorem kblc{r:kfc}{o:kg0⊕kfc}{x1:List Nat}{a2:Int}{x3:List Nat}{a4 a5:Int}(e:kjf x1 a2 x3 a4 a5=some o)(z:GoodS (kl1 r) r o):kl1 r (.p4 x1 a2 x3 a4 a5):=by
 intro h0 h a1 a3 i3 W n1 H F y;rw[k7z];unfold kjf at e;rw[n1.len];rw[H.nats.len];refine qbc (λQ=>?_) (λQ=>?_)
 ·replace e:=(condT Q).symm.trans e;obtain⟨y7,q7,e⟩:=qbw.1 e;obtain⟨r7,j7,l7⟩:=n1.atI q7;refine qy j7 (qy (rdc l7 qcr) ?_);obtain⟨p8,q8,e⟩:=qbw.1 e;obtain⟨H8,e8,K⟩:=k1g q8;refine qy e8 (qy rfl (qy (seen qcr) (qy (seen qcr) ?_)));obtain⟨j9,Z,e⟩:=qbw.1 e;refine qy ((H.grow K).idx rfl Z) ?_;obtain⟨aa,U,e⟩:=qbw.1 e;refine qbg (H.grow K) rfl Z U λab V I=>?_;have G:=(n1.grow K).upda y I;cases e;exact z ((W.trans K).updr F I) G V F y
 ·replace e:=(condF Q).symm.trans e;obtain⟨s7,e7,n7,o7⟩:=kd0 H.nats;refine qy e7 (qy (seen qcq) ?_);cases e;cases z;exact qx ⟨s7,rfl,n7,W,((o7 _ (H.own F)).of_le (qk _))⟩
theorem k9p{s:kg0}{r:kfc}(z:Iter kuh s r):kl1 r s:=qbf (λs o e y=>by
 cases s with
 | fn x1 a2=>exact @kbez _ _ x1 a2 e y
 | p4 x1 a2 x3 a4 a5=>exact @kblc _ _ x1 a2 x3 a4 a5 e y
 ) z
inductive khm
 | fn (x1:List Nat) (a2:Int)
 | p3 (a1:Int) (x2:List Nat) (x3:List Nat) (a4:Int) (a5:Int)
abbrev kev:=List Nat
noncomputable def klu(x1:List Nat)(a2:Int):Option (khm⊕kev):=(mkI (wrap .i64 ((List.length x1:Int)+1)) (wrap .i64 ((List.length x1:Int)+1))).bind λy=>some (.inl (.p3 a2 (List.replicate y 0) x1 (List.length x1:Int) 0))
noncomputable def kf6(a1:Int)(x2 x3:List Nat)(a4 a5:Int):Option (khm⊕kev):=cond (decide (a5<a4)) ((atI x3 a5).bind λH=>(inI (List.length x2) a5).bind λI=>cond (decide (a1<0)) (none) ((inI (List.length x2) a5).bind λy=>(u64P (ior .u64 (((List.getD x2 I 0:Nat):Int)) (ishl .u64 ((H:Int)) a1))).bind λz=>cond (decide (a1>0)) (cond (decide ((wrap .u64 (64-a1))<0)) (none) ((inI (List.length x2) (wrap .i64 (a5+1))).bind λF=>(u64P (ishr .u64 ((H:Int)) (wrap .u64 (64-a1)))).bind λG=>some (.inl (.p3 a1 (List.set (List.set x2 y z) F G) x3 a4 (wrap .i64 (a5+1)))))) (some (.inl (.p3 a1 (List.set x2 y z) x3 a4 (wrap .i64 (a5+1))))))) (some (.inr x2))
noncomputable def kkt:khm->Option (khm⊕kev)
 | .fn x1 a2=>klu x1 a2
 | .p3 a1 x2 x3 a4 a5=>kf6 a1 x2 x3 a4 a5
@[reducible] def kw9(h0:AH)(r:kev)(v:AV)(h':AH):Prop:=∃s1:Sl,∃y:Nat,v=s1.v/\Vec h' s1 y r/\Grow h0 h'/\h0.blks.size<=y
def km5(r:kev):khm->Prop
 | .fn x1 a2=>∀{h:AH}{a1:Sl},Nats h a1 x1->Runs (go (.fn kfs [a1.v,.int .u64 a2]) h) (kw9 h r)
 | .p3 a1 x2 x3 a4 a5=>∀{h0 h:AH}{a2:Sl}{a3:Sl}{i2:Nat},Grow h0 h->Vec h a2 i2 x2->Nats h a3 x3->h0.blks.size<=i2->Av a3 i2 x3->Runs (go (.pt kfs knc [(1,.int .u64 a1),(5,a2.v),(12,a3.v),(13,.i a4),(14,.i a5)]) h) (kw9 h0 r)
theorem kbfg{r:kev}{o:khm⊕kev}{x1:List Nat}{a2:Int}(e:klu x1 a2=some o)(y:GoodS (km5 r) r o):km5 r (.fn x1 a2):=by intro h a1 n1;rw[kba2];unfold klu at e;rw[n1.len];obtain⟨H,F,e⟩:=qbw.1 e;refine Runs.mk F kcz λs3 I G z=>?_;cases e;exact y z G (n1.grow z) (qbr _) (qbh n1 (qbr _))
theorem kbat{r:kev}{o:khm⊕kev}{a1:Int}{x2 x3:List Nat}{a4 a5:Int}(e:kf6 a1 x2 x3 a4 a5=some o)(F:GoodS (km5 r) r o):km5 r (.p3 a1 x2 x3 a4 a5):=by
 intro h0 h a2 a3 i2 g0 V n3 z y;rw[kbeu];unfold kf6 at e;rw[V.nats.len];rw[n3.len];refine qbc (λk6=>?_) (λk6=>?_)
 ·replace e:=(condT k6).symm.trans e;obtain⟨y7,q7,e⟩:=qbw.1 e;obtain⟨r7,j7,l7⟩:=n3.atI q7;refine qy j7 (qy (rdc l7 qcr) ?_);obtain⟨j8,q8,e⟩:=qbw.1 e;refine qy (V.idx rfl q8) (qy (V.rd rfl q8 qcr) ?_);refine qbc (λk9=>?_) (λk9=>?_)
  ·replace e:=(condT k9).symm.trans e;cases e
  ·replace e:=(condF k9).symm.trans e;obtain⟨ae,W,e⟩:=qbw.1 e;refine qy (V.idx rfl W) ?_;obtain⟨af,ab,e⟩:=qbw.1 e;refine qbg V rfl W ab λag H I=>?_;have G:=n3.upda y I;refine qbc (λK=>?_) (λK=>?_)
   ·replace e:=(condT K).symm.trans e;refine qbc (λQ=>?_) (λQ=>?_)
    ·replace e:=(condT Q).symm.trans e;cases e
    ·replace e:=(condF Q).symm.trans e;obtain⟨ah,Z,e⟩:=qbw.1 e;refine qy (H.idx (by simp only[qb9]) Z) ?_;obtain⟨ai,ac,e⟩:=qbw.1 e;refine qbg H (by simp only[qb9]) Z ac λaj ad aa=>?_;have U:=G.upda y aa;cases e;exact F ((g0.updr z I).updr z aa) ad U z y
   ·replace e:=(condF K).symm.trans e;cases e;exact F (g0.updr z I) H G z y
 ·replace e:=(condF k6).symm.trans e;cases e;cases F;exact qx ⟨a2,i2,rfl,V,g0,z⟩
theorem kbk1{s:khm}{r:kev}(z:Iter kkt s r):km5 r s:=qbf (λs o e y=>by
 cases s with
 | fn x1 a2=>exact @kbfg _ _ x1 a2 e y
 | p3 a1 x2 x3 a4 a5=>exact @kbat _ _ a1 x2 x3 a4 a5 e y
 ) z
theorem ky7{h:AH}{a1:Sl}{x1:List Nat}{a2:Int}(n1:Nats h a1 x1){r:kev}(q:runP kkt (.fn x1 a2)=some r):Runs (go (.fn kfs [a1.v,.int .u64 a2]) h) (kw9 h r):=kbk1 (ke5 q) n1
inductive kgj
 | fn (a1:Int) (a2:Int) (a3:Int) (a4:Int) (a5:Int)
 | p4 (a1:Int) (a2:Int) (a3:Int) (a4:Int) (a5:Int)
abbrev ke4:=Int
noncomputable def kii(a1 a2 a3 a4 a5:Int):Option (kgj⊕ke4):=cond (decide (a1>=a4)) (some (.inr 18446744073709551615)) ((div64P a1 a2 a4).bind λp7=>some (.inl (.p4 a3 a4 a5 (p7.1) (p7.2))))
noncomputable def kgb(a1 a2 a3 a4 a5:Int):Option (kgj⊕ke4):=cond (decide (((mul64 a4 a3).1)<a5)) (some (.inr a4)) (cond (decide (((mul64 a4 a3).1)=a5)) (cond (decide (((mul64 a4 a3).2)<=a1)) (some (.inr a4)) (cond (decide ((wrap .u64 (a5+a2))<a5)) (some (.inr (wrap .u64 (a4-1)))) (some (.inl (.p4 a1 a2 a3 (wrap .u64 (a4-1)) (wrap .u64 (a5+a2))))))) (cond (decide ((wrap .u64 (a5+a2))<a5)) (some (.inr (wrap .u64 (a4-1)))) (some (.inl (.p4 a1 a2 a3 (wrap .u64 (a4-1)) (wrap .u64 (a5+a2)))))))
noncomputable def kky:kgj->Option (kgj⊕ke4)
 | .fn a1 a2 a3 a4 a5=>kii a1 a2 a3 a4 a5
 | .p4 a1 a2 a3 a4 a5=>kgb a1 a2 a3 a4 a5
@[reducible] def kt4(h0:AH)(r:ke4)(v:AV)(h':AH):Prop:=v=.int .u64 r/\Grow h0 h'
def knq(r:ke4):kgj->Prop
 | .fn a1 a2 a3 a4 a5=>∀{h:AH},Runs (go (.fn kgl [.int .u64 a1,.int .u64 a2,.int .u64 a3,.int .u64 a4,.int .u64 a5]) h) (kt4 h r)
 | .p4 a1 a2 a3 a4 a5=>∀{h0 h:AH},Grow h0 h->Runs (go (.pt kgl klk [(2,.int .u64 a1),(3,.int .u64 a2),(4,.int .u64 a3),(11,.int .u64 a4),(12,.int .u64 a5)]) h) (kt4 h0 r)
theorem kbi8{r:ke4}{o:kgj⊕ke4}{a1 a2 a3 a4 a5:Int}(e:kii a1 a2 a3 a4 a5=some o)(y:GoodS (knq r) r o):knq r (.fn a1 a2 a3 a4 a5):=by
 intro h;rw[kbkt];unfold kii at e;refine qbc (λz=>?_) (λz=>?_)
 ·replace e:=(condT z).symm.trans e;cases e;cases y;exact qx ⟨rfl,(qk _)⟩
 ·replace e:=(condF z).symm.trans e;obtain⟨p7,F,e⟩:=qbw.1 e;obtain⟨I,G,H⟩:=k1g F;refine qy G (qy rfl (qy (seen qcr) (qy (seen qcr) ?_)));cases e;exact y H
theorem kblg{r:ke4}{o:kgj⊕ke4}{a1 a2 a3 a4 a5:Int}(e:kgb a1 a2 a3 a4 a5=some o)(y:GoodS (knq r) r o):knq r (.p4 a1 a2 a3 a4 a5):=by
 intro h0 h G;rw[kbmx];unfold kgb at e;refine qy (kwb a4 a3) (qy rfl (qy (seen qcr) (qy (seen qcr) ?_)));refine qbc (λH=>?_) (λH=>?_)
 ·replace e:=(condT H).symm.trans e;cases e;cases y;exact qx ⟨rfl,G⟩
 ·replace e:=(condF H).symm.trans e;refine qbc (λI=>?_) (λI=>?_)
  ·replace e:=(condT I).symm.trans e;refine qbc (λz=>?_) (λz=>?_)
   ·replace e:=(condT z).symm.trans e;cases e;cases y;exact qx ⟨rfl,G⟩
   ·replace e:=(condF z).symm.trans e;refine qbc (λF=>?_) (λF=>?_)
    ·replace e:=(condT F).symm.trans e;cases e;cases y;exact qx ⟨rfl,G⟩
    ·replace e:=(condF F).symm.trans e;cases e;exact y G
  ·replace e:=(condF I).symm.trans e;refine qbc (λz=>?_) (λz=>?_)
   ·replace e:=(condT z).symm.trans e;cases e;cases y;exact qx ⟨rfl,G⟩
   ·replace e:=(condF z).symm.trans e;cases e;exact y G
theorem kbo0{s:kgj}{r:ke4}(z:Iter kky s r):knq r s:=qbf (λs o e y=>by
 cases s with
 | fn a1 a2 a3 a4 a5=>exact @kbi8 _ _ a1 a2 a3 a4 a5 e y
 | p4 a1 a2 a3 a4 a5=>exact @kblg _ _ a1 a2 a3 a4 a5 e y
 ) z
theorem kbcw{h:AH}  {a1 a2 a3 a4 a5:Int}  {r:ke4}(q:runP kky (.fn a1 a2 a3 a4 a5)=some r):Runs (go (.fn kgl [.int .u64 a1,.int .u64 a2,.int .u64 a3,.int .u64 a4,.int .u64 a5]) h) (kt4 h r):=kbo0 (ke5 q)
end Go.Ab
set_option maxRecDepth 10000
namespace Go.Ab
open Go.Proofs Go.Num
def padD(b:Nat):Nat->Nat->List Nat
 | 0,_=>[]
 | k+1,n=>n%b::padD b k (n/b)
theorem ksb(b:Nat):∀k n,(padD b k n).length=k
 | 0,_=>rfl
 | k+1,n=>by simp[padD,ksb b k]
theorem k5r{b:Nat}(hb:0<b):∀k n,∀x∈padD b k n,x<b
 | 0,_=>by simp[padD]
 | k+1,n=>by
  intro x y;rcases qb8.1 y with rfl | y
  ·exact Nat.mod_lt _ hb
  ·exact k5r hb k _ x y
theorem kut{b:Nat}(hb:0<b):∀(k n:Nat),n<b^k->num b (padD b k n)=n
 | 0,n,h=>by
  rw[Nat.pow_zero]at h;have:n=0:=by omega
  subst this;rfl
 | k+1,n,h=>by rw[padD,num,kut hb k (n/b) (by rw[Nat.div_lt_iff_lt_mul hb,<- Nat.pow_succ];exact h)];exact Nat.mod_add_div n b
theorem kx7{b:Nat}(hb:0<b):∀{zs:List Nat},(∀x∈zs,x<b)->padD b zs.length (num b zs)=zs
 | [],_=>rfl
 | z::zs,h=>by have y:=h z (by simp);rw[qb4,padD,num,Nat.add_mul_mod_self_left,Nat.mod_eq_of_lt y,Nat.add_mul_div_left _ _ hb,Nat.div_eq_of_lt y,Nat.zero_add,kx7 hb λx F=>h x (by simp[F])]
theorem Sl.v_inj{s t:Sl}(e:s.v=t.v):s=t:=by
 cases s;cases t;simp only[Sl.v,AV.slice.injEq]at e;simp only[Sl.mk.injEq];exact e
theorem k46{h:AH}{s:Sl}{xs:List Nat}(n:Nats h s xs){i:Nat}(b:InB s i):∀(k:Nat),k<=xs.length->∃s',go (.pt kbq kmt [(0,s.v),(3,.i (k:Int))]) h=some (s'.v,h)/\InB s' i
 | 0,hk=>by
  rw[kob];obtain⟨s',y,_,_⟩:=n.cut (l:=0) (n:=0) (qbr _) hk;have b':=b.cut y;simp at y;simp only[Int.natCast_zero,gt_iff_lt,Int.lt_irrefl,decide_false,cond_false,y,qbv];exact⟨s',rfl,b'⟩
 | k+1,hk=>by
  rw[kob];obtain⟨r,y,F⟩:=n.at (i:=k) (by omega);have hs:=n.short;rw[km3 (by omega)];rw[show(decide (((k+1:Nat):Int)>0))=true from by rw[qby];omega];simp only[cond_true,y,F,qbv,kc];by_cases G:xs[k]=0
  ·rw[G,show(decide (((0:Nat):Int)=0))=true from rfl,cond_true];exact k46 n b k (by omega)
  ·obtain⟨s',z,_,_⟩:=n.cut (l:=0) (n:=k+1) (by omega) hk;rw[show(decide (((xs[k]:Nat):Int)=0))=false from by rw[qbx];omega];simp only[cond_false];rw[show cutSl s 0 ((k+1:Nat):Int) 1=some s' from z];exact⟨s',rfl,b.cut z⟩
theorem kps{h:AH}{s:Sl}{i:Nat}{xs:List Nat}(v:Vec h s i xs):∃s',go (.fn kbq [s.v]) h=some (s'.v,h)/\Nats h s' (digs B (num B xs))/\InB s' i:=by obtain⟨s',e,n,_⟩:=kd0 v.nats;obtain⟨s2,y,b⟩:=k46 v.nats v.inB xs.length (qbr _);rw[kso,v.len,y]at e;have:s2=s':=Sl.v_inj (Prod.mk.inj (Option.some.inj e)).1;subst this;exact⟨s2,by rw[kso,v.len,y],n,b⟩
theorem B0:0<B:=by decide
theorem ktf{a:Int}{x:Nat}{h:AH}(q:u64P a=some x):∃(s':Sl)(h':AH),go (.fn kfe [.int .u64 a]) h=some (s'.v,h')/\Nats h' s' (digs B x)/\Grow h h'/\Own h s':=by obtain⟨rfl,y⟩:=krx q;exact ktn y
theorem kbd6{h:AH}{s t:Sl}{xs ys:List Nat}(n:Nats h s xs)(m:Nats h t ys)(c:xs.length<=1073741824/\ys.length<=xs.length/\num B ys<=num B xs) :
  ∃(s':Sl)(h':AH),go (.fn kdp [s.v,t.v]) h=some (s'.v,h')/\Nats h' s' (padD B xs.length (num B xs-num B ys))/\Grow h h'/\Own h s':=by
 obtain⟨s',h',zs,e,y,g,o,v,l⟩:=kqe n m c.1 c.2.1 c.2.2;refine⟨s',h',e,?_,g,o⟩;rw[<- v,<- l,kx7 B0 y.lt];exact y
end Go.Ab
set_option maxRecDepth 10000
namespace Go.Ab
open IntKind (wrap)
open Go.Proofs Go.Num
inductive kd2
 | fn (x1:List Nat) (x2:List Nat)
 | p6 (a1:Int) (x2:List Nat) (x3:List Nat) (a4:Int) (x5:List Nat) (a6:Int)
 | p10 (a1:Int) (x2:List Nat) (x3:List Nat) (a4:Int) (x5:List Nat) (a6:Int) (a7:Int) (x8:Nat×Nat)
 | p18 (a1:Int) (x2:List Nat) (x3:List Nat) (x4:List Nat) (a5:Int) (a6:Int)
abbrev kch:=List Nat×List Nat
noncomputable def klx(x1 x2:List Nat):Option (kd2⊕kch):=(atI x2 (wrap .i64 ((List.length x2:Int)-1))).bind λy=>(need (0<=((y:Int))/\((y:Int))<18446744073709551616)).bind λF=>(runP kkt (.fn x1 (wrap .u64 (((64-bl (Int.toNat ((y:Int))):Nat):Int))))).bind λz=>(runP kkt (.fn x2 (wrap .u64 (((64-bl (Int.toNat ((y:Int))):Nat):Int))))).bind λp6=>(mkI (wrap .i64 ((List.length z:Int)-(List.length (digs B (num B p6)):Int))) (wrap .i64 ((List.length z:Int)-(List.length (digs B (num B p6)):Int)))).bind λG=>some (.inl (.p6 (wrap .u64 (((64-bl (Int.toNat ((y:Int))):Nat):Int))) z (digs B (num B p6)) (List.length (digs B (num B p6)):Int) (List.replicate G 0) (wrap .i64 ((List.length (List.replicate G 0):Int)-1))))
noncomputable def kjg(a1:Int)(x2 x3:List Nat)(a4:Int)(x5:List Nat)(a6:Int):Option (kd2⊕kch):=cond (decide (a6>=0)) ((inI (List.length x2) (wrap .i64 (a6+a4))).bind λI=>(inI (List.length x2) (wrap .i64 ((wrap .i64 (a6+a4))-1))).bind λK=>(inI (List.length x2) (wrap .i64 ((wrap .i64 (a6+a4))-2))).bind λz=>(atI x3 (wrap .i64 (a4-1))).bind λF=>(atI x3 (wrap .i64 (a4-2))).bind λG=>(runP kky (.fn (((List.getD x2 I 0:Nat):Int)) (((List.getD x2 K 0:Nat):Int)) (((List.getD x2 z 0:Nat):Int)) ((F:Int)) ((G:Int)))).bind λH=>(cutP (List.length x2) a6 (wrap .i64 ((wrap .i64 (a6+a4))+1))).bind λy=>some (.inl (.p10 a1 x2 x3 a4 x5 a6 H (y.1,y.2)))) ((mkI (List.length (digs B (num B x2)):Int) (List.length (digs B (num B x2)):Int)).bind λQ=>some (.inl (.p18 a1 x5 (digs B (num B x2)) (List.replicate Q 0) (List.length (digs B (num B x2)):Int) 0)))
noncomputable def kh5(a1:Int)(x2 x3:List Nat)(a4:Int)(x5:List Nat)(a6 a7:Int)(x8:Nat×Nat):Option (kd2⊕kch):=(u64P a7).bind λp9=>(need (List.length x3+List.length (digs B p9)<=8796093022208)).bind λy=>(need (List.length (List.take x8.2 (List.drop x8.1 x2))<=8796093022208)).bind λz=>(need (Trim (digs B (num B (List.take x8.2 (List.drop x8.1 x2)))))).bind λF=>(need (Trim (digs B (num B x3*num B (digs B p9))))).bind λG=>cond (decide ((cmp (num B (digs B (num B (List.take x8.2 (List.drop x8.1 x2))))) (num B (digs B (num B x3*num B (digs B p9)))))>=0)) ((need (List.length (List.take x8.2 (List.drop x8.1 x2))<=1073741824/\List.length (digs B (num B x3*num B (digs B p9)))<=List.length (List.take x8.2 (List.drop x8.1 x2))/\num B (digs B (num B x3*num B (digs B p9)))<=num B (List.take x8.2 (List.drop x8.1 x2)))).bind λH=>(setW x2 x8.1 x8.2 (padD B (List.length (List.take x8.2 (List.drop x8.1 x2))) (num B (List.take x8.2 (List.drop x8.1 x2))-num B (digs B (num B x3*num B (digs B p9)))))).bind λI=>(inI (List.length x5) a6).bind λK=>(u64P a7).bind λQ=>some (.inl (.p6 a1 I x3 a4 (List.set x5 K Q) (wrap .i64 (a6-1))))) (some (.inl (.p10 a1 x2 x3 a4 x5 a6 (wrap .u64 (a7-1)) (x8.1,x8.2))))
noncomputable def kez(a1:Int)(x2 x3 x4:List Nat)(a5 a6:Int):Option (kd2⊕kch):=cond (decide (a6<a5)) ((atI x3 a6).bind λK=>cond (decide (a1<0)) (none) ((inI (List.length x4) a6).bind λy=>(u64P (ishr .u64 ((K:Int)) a1)).bind λz=>cond (decide (a1>0)) (cond (decide ((wrap .i64 (a6+1))<(List.length x3:Int))) ((inI (List.length x4) a6).bind λF=>(atI x3 (wrap .i64 (a6+1))).bind λG=>cond (decide ((wrap .u64 (64-a1))<0)) (none) ((inI (List.length x4) a6).bind λH=>(u64P (ior .u64 (((List.getD (List.set x4 y z) F 0:Nat):Int)) (ishl .u64 ((G:Int)) (wrap .u64 (64-a1))))).bind λI=>some (.inl (.p18 a1 x2 x3 (List.set (List.set x4 y z) H I) a5 (wrap .i64 (a6+1)))))) (some (.inl (.p18 a1 x2 x3 (List.set x4 y z) a5 (wrap .i64 (a6+1)))))) (some (.inl (.p18 a1 x2 x3 (List.set x4 y z) a5 (wrap .i64 (a6+1))))))) (some (.inr (digs B (num B x2),digs B (num B x4))))
noncomputable def kk0:kd2->Option (kd2⊕kch)
 | .fn x1 x2=>klx x1 x2
 | .p6 a1 x2 x3 a4 x5 a6=>kjg a1 x2 x3 a4 x5 a6
 | .p10 a1 x2 x3 a4 x5 a6 a7 x8=>kh5 a1 x2 x3 a4 x5 a6 a7 x8
 | .p18 a1 x2 x3 x4 a5 a6=>kez a1 x2 x3 x4 a5 a6
@[reducible] def kr6(h0:AH)(r:kch)(v:AV)(h':AH):Prop:=∃s1:Sl,∃s2:Sl,v=.tup [s1.v,s2.v]/\Nats h' s1 r.1/\Nats h' s2 r.2/\Grow h0 h'/\Own h0 s1/\Own h0 s2
def kgs(r:kch):kd2->Prop
 | .fn x1 x2=>∀{h:AH}{a1:Sl}{a2:Sl},Nats h a1 x1->Nats h a2 x2->Runs (go (.fn kcd [a1.v,a2.v]) h) (kr6 h r)
 | .p6 a1 x2 x3 a4 x5 a6=>∀{h0 h:AH}{a2:Sl}{a3:Sl}{a5:Sl}{i2:Nat}{y:Nat},Grow h0 h->Vec h a2 i2 x2->Nats h a3 x3->Vec h a5 y x5->h0.blks.size<=i2->h0.blks.size<=y->Av a3 i2 x3->Av a3 y x3->i2≠y->Runs (go (.pt kcd kog [(6,.int .u64 a1),(7,a2.v),(8,a3.v),(9,.i a4),(10,a5.v),(11,.i a6)]) h) (kr6 h0 r)
 | .p10 a1 x2 x3 a4 x5 a6 a7 x8=>∀{h0 h:AH}{a2:Sl}{a3:Sl}{a5:Sl}{a8:Sl}{i2:Nat}{y:Nat},Grow h0 h->Vec h a2 i2 x2->Nats h a3 x3->Vec h a5 y x5->h0.blks.size<=i2->h0.blks.size<=y->Win a8 i2 x8.1 x8.2->x8.1+x8.2<=List.length x2->Av a3 i2 x3->Av a3 y x3->i2≠y->Runs (go (.pt kcd kpf [(6,.int .u64 a1),(7,a2.v),(8,a3.v),(9,.i a4),(10,a5.v),(11,.i a6),(12,.int .u64 a7),(13,a8.v)]) h) (kr6 h0 r)
 | .p18 a1 x2 x3 x4 a5 a6=>∀{h0 h:AH}{a2:Sl}{a3:Sl}{a4:Sl}{i2:Nat}{i4:Nat},Grow h0 h->Vec h a2 i2 x2->Nats h a3 x3->Vec h a4 i4 x4->h0.blks.size<=i2->h0.blks.size<=i4->Av a3 i2 x3->Av a3 i4 x3->i2≠i4->Runs (go (.pt kcd kkj [(6,.int .u64 a1),(10,a2.v),(15,a3.v),(16,a4.v),(112,.i a5),(113,.i a6)]) h) (kr6 h0 r)
theorem kbk4{r:kch}{o:kd2⊕kch}{x1 x2:List Nat}(e:klx x1 x2=some o)(y:GoodS (kgs r) r o):kgs r (.fn x1 x2):=by intro h a1 a2 n1 n2;rw[kblo];unfold klx at e;rw[n2.len];obtain⟨Z,q3,e⟩:=qbw.1 e;obtain⟨r3,j3,l3⟩:=n2.atI q3;refine qy j3 (qy (rdc l3 qcr) ?_);obtain⟨z,K,e⟩:=qbw.1 e;refine qy (k4e ((Z:Int))  z.down) (qy (seen qcr) ?_);obtain⟨p5,q5,e⟩:=qbw.1 e;obtain⟨_,H5,e5,s5,j5,rfl,F,H,o5⟩:=ky7 n1 q5;refine qy e5 (qy (seen qcq) ?_);rw[F.nats.len];obtain⟨p6,q6,e⟩:=qbw.1 e;obtain⟨_,H6,e6,s6,j6,rfl,Q,G,o6⟩:=ky7 (n2.grow H) q6;refine qy e6 (qy (seen qcq) ?_);obtain⟨s7,e7,U,V⟩:=kps Q;refine qy e7 (qy (seen qcq) ?_);rw[U.len];obtain⟨m8,q8,e⟩:=qbw.1 e;refine Runs.mk q8 kcz λs8 H8 W I=>?_;rw[W.nats.len];cases e;exact y ((H.trans G).trans I) (F.grow (G.trans I)) (U.grow I) W o5 (qbs ((H.trans G)).size (qbr _)) (Av.of_in V (Nat.ne_of_gt (qbt (F).inn o6))) (Av.of_in V (Nat.ne_of_lt (qbt (Q).inn (qbr _)))) (Nat.ne_of_lt (qbt ((F.grow G)).inn (qbr _)))
theorem kbbn{r:kch}{o:kd2⊕kch}{a1:Int}{x2 x3:List Nat}{a4:Int}{x5:List Nat}{a6:Int}(e:kjg a1 x2 x3 a4 x5 a6=some o)(G:GoodS (kgs r) r o):kgs r (.p6 a1 x2 x3 a4 x5 a6):=by
 intro h0 h a2 a3 a5 i2 i5 Z y V v5 aa K H I z;rw[k7k];unfold kjg at e;rw[y.nats.len];rw[V.len];refine qbc (λk7=>?_) (λk7=>?_)
 ·replace e:=(condT k7).symm.trans e;obtain⟨j8,q8,e⟩:=qbw.1 e;refine qy (y.idx rfl q8) (qy (y.rd rfl q8 qcr) ?_);obtain⟨j9,W,e⟩:=qbw.1 e;refine qy (y.idx rfl W) (qy (y.rd rfl W qcr) ?_);obtain⟨al,Q,e⟩:=qbw.1 e;refine qy (y.idx rfl Q) (qy (y.rd rfl Q qcr) ?_);obtain⟨am,ab,e⟩:=qbw.1 e;obtain⟨an,ac,ad⟩:=V.atI ab;refine qy ac (qy (rdc ad qcr) ?_);obtain⟨ao,ae,e⟩:=qbw.1 e;obtain⟨ap,af,ag⟩:=V.atI ae;refine qy af (qy (rdc ag qcr) ?_);obtain⟨aq,ah,e⟩:=qbw.1 e;obtain⟨_,ar,ai,rfl,F⟩:=kbcw ah;refine qy ai (qy (seen qcr) ?_);obtain⟨au,U,e⟩:=qbw.1 e;obtain⟨aw,aj,ak⟩:=(y.grow F).cutW rfl U;refine qy aj ?_;cases e;exact G (Z.trans F) (y.grow F) (V.grow F) (v5.grow F) aa K ak (kry U).2.2.2 H I z
 ·replace e:=(condF k7).symm.trans e;obtain⟨s8,e8,n8,i8⟩:=kps y;refine qy e8 (qy (seen qcq) ?_);rw[n8.len];obtain⟨m9,W,e⟩:=qbw.1 e;refine Runs.mk W kcz λs9 H9 v9 g9=>?_;cases e;exact G (Z.trans g9) (v5.grow g9) (n8.grow g9) v9 K (qbs (Z).size (qbr _)) (Av.of_in i8 z) (Av.of_in i8 (Nat.ne_of_lt (qbt (y).inn (qbr _)))) (Nat.ne_of_lt (qbt (v5).inn (qbr _)))
theorem kbi6{r:kch}{o:kd2⊕kch}{a1:Int}{x2 x3:List Nat}{a4:Int}{x5:List Nat}{a6 a7:Int}{x8:Nat×Nat}(e:kh5 a1 x2 x3 a4 x5 a6 a7 x8=some o)(af:GoodS (kgs r) r o):kgs r (.p10 a1 x2 x3 a4 x5 a6 a7 x8):=by
 intro h0 h a2 a3 a5 a8 i2 i5 g0 W n3 v5 ag ah w8 ai Q U F;rw[kbbr];unfold kh5 at e;rw[v5.nats.len];obtain⟨p9,q9,e⟩:=qbw.1 e;obtain⟨s9,H9,e9,n9,G,o9⟩:=ktf q9;refine qy e9 (qy (seen qcq) ?_);obtain⟨aj,bh,e⟩:=qbw.1 e;obtain⟨b7,b8,bi,ak,y,aw⟩:=ku3 (n3.grow G) n9  aj.down;refine qy bi (qy (seen qcq) ?_);obtain⟨al,bj,e⟩:=qbw.1 e;obtain⟨b9,ca,bk,ax,z,Z⟩:=khs (w8.nats (W.grow (G.trans y)) ai)  al.down;refine qy bk (qy (seen qcq) ?_);obtain⟨cb,bn,ay,az⟩:=kd0 ax;refine qy bn (qy (seen qcq) ?_);obtain⟨am,bq,e⟩:=qbw.1 e;obtain⟨an,br,e⟩:=qbw.1 e;refine qy (krs ay (ak.grow z)  am.down an.down) (qy (seen qcr) ?_);refine qbc (λao=>?_) (λao=>?_)
 ·replace e:=(condT ao).symm.trans e;obtain⟨ap,bu,e⟩:=qbw.1 e;obtain⟨cc,cd,bv,a0,H,ba⟩:=kbd6 (w8.nats (W.grow ((G.trans y).trans z)) ai) (ak.grow z)  ap.down;refine qy bv (qy (seen qcq) ?_);obtain⟨ce,bb,e⟩:=qbw.1 e;have b6:=kya bb;obtain⟨cf,bw,bx,I⟩:=(W.grow (((G.trans y).trans z).trans H)).copyW w8 a0 bb;refine qy bw ?_;have aq:=(n3.grow (((G.trans y).trans z).trans H)).upda Q I;have ar:=(n9.grow ((y.trans z).trans H)).upda (qbi o9 (W).inn) I;have aa:=(ak.grow (z.trans H)).upda (qbi aw ((W.grow G)).inn) I;have ab:=(ax.grow H).upda (qbi Z ((W.grow (G.trans y))).inn) I;have ac:=(ay.grow H).upda (qbi (az _ Z) ((W.grow (G.trans y))).inn) I;have ad:=a0.upda (qbi ba ((W.grow ((G.trans y).trans z))).inn) I;have V:=(v5.grow (((G.trans y).trans z).trans H)).updr (Ne.symm F) I;obtain⟨ch,bc,e⟩:=qbw.1 e;refine qy (V.idx rfl bc) ?_;obtain⟨ci,bz,e⟩:=qbw.1 e;refine qbg V rfl bc bz λcj b0 K=>?_;have au:=aq.upda U K;have b5:=ar.upda (qbi o9 (v5).inn) K;have bd:=aa.upda (qbi aw ((v5.grow G)).inn) K;have be:=ab.upda (qbi Z ((v5.grow (G.trans y))).inn) K;have bf:=ac.upda (qbi (az _ Z) ((v5.grow (G.trans y))).inn) K;have bg:=ad.upda (qbi ba ((v5.grow ((G.trans y).trans z))).inn) K;have ae:=bx.updr F K;cases e;exact af ((((((g0.trans G).trans y).trans z).trans H).updr ag I).updr ah K) ae au b0 ag ah Q U F
 ·replace e:=(condF ao).symm.trans e;cases e;exact af (((g0.trans G).trans y).trans z) (W.grow ((G.trans y).trans z)) (n3.grow ((G.trans y).trans z)) (v5.grow ((G.trans y).trans z)) ag ah w8 ai Q U F
theorem kbab{r:kch}{o:kd2⊕kch}{a1:Int}{x2 x3 x4:List Nat}{a5 a6:Int}(e:kez a1 x2 x3 x4 a5 a6=some o)(K:GoodS (kgs r) r o):kgs r (.p18 a1 x2 x3 x4 a5 a6):=by
 intro h0 h a2 a3 a4 i2 i4 g0 v2 n3 v4 V G H y z;rw[k64];unfold kez at e;rw[n3.len];rw[v4.nats.len];refine qbc (λk7=>?_) (λk7=>?_)
 ·replace e:=(condT k7).symm.trans e;obtain⟨y8,q8,e⟩:=qbw.1 e;obtain⟨r8,j8,l8⟩:=n3.atI q8;refine qy j8 (qy (rdc l8 qcr) ?_);refine qbc (λk9=>?_) (λk9=>?_)
  ·replace e:=(condT k9).symm.trans e;cases e
  ·replace e:=(condF k9).symm.trans e;obtain⟨an,ae,e⟩:=qbw.1 e;refine qy (v4.idx rfl ae) ?_;obtain⟨ao,ah,e⟩:=qbw.1 e;refine qbg v4 rfl ae ah λap Q U=>?_;have F:=n3.upda y U;have I:=v2.updr z U;refine qbc (λW=>?_) (λW=>?_)
   ·replace e:=(condT W).symm.trans e;refine qbc (λZ=>?_) (λZ=>?_)
    ·replace e:=(condT Z).symm.trans e;obtain⟨aq,af,e⟩:=qbw.1 e;refine qy (Q.idx (by simp only[qb9]) af) (qy (Q.rd (by simp only[qb9]) af qcr) ?_);obtain⟨ar,ai,e⟩:=qbw.1 e;obtain⟨au,aj,ak⟩:=F.atI ai;refine qy aj (qy (rdc ak qcr) ?_);refine qbc (λaa=>?_) (λaa=>?_)
     ·replace e:=(condT aa).symm.trans e;cases e
     ·replace e:=(condF aa).symm.trans e;obtain⟨aw,ag,e⟩:=qbw.1 e;refine qy (Q.idx (by simp only[qb9]) ag) ?_;obtain⟨ax,al,e⟩:=qbw.1 e;refine qbg Q (by simp only[qb9]) ag al λay am ab=>?_;have ac:=F.upda y ab;have ad:=I.updr z ab;cases e;exact K ((g0.updr G U).updr G ab) ad ac am V G H y z
    ·replace e:=(condF Z).symm.trans e;cases e;exact K (g0.updr G U) I F Q V G H y z
   ·replace e:=(condF W).symm.trans e;cases e;exact K (g0.updr G U) I F Q V G H y z
 ·replace e:=(condF k7).symm.trans e;obtain⟨s8,e8,n8,i8⟩:=kps v2;refine qy e8 (qy (seen qcq) ?_);obtain⟨s9,e9,n9,i9⟩:=kps v4;refine qy e9 (qy (seen qcq) ?_);cases e;cases K;exact qx ⟨s8,s9,rfl,n8,n9,g0,((i8.own V).of_le (qk _)),((i9.own G).of_le (qk _))⟩
theorem kbbv{s:kd2}{r:kch}(z:Iter kk0 s r):kgs r s:=qbf (λs o e y=>by
 cases s with
 | fn x1 x2=>exact @kbk4 _ _ x1 x2 e y
 | p6 a1 x2 x3 a4 x5 a6=>exact @kbbn _ _ a1 x2 x3 a4 x5 a6 e y
 | p10 a1 x2 x3 a4 x5 a6 a7 x8=>exact @kbi6 _ _ a1 x2 x3 a4 x5 a6 a7 x8 e y
 | p18 a1 x2 x3 x4 a5 a6=>exact @kbab _ _ a1 x2 x3 x4 a5 a6 e y
 ) z
end Go.Ab
set_option maxRecDepth 10000
namespace Go.Ab
open Go.Proofs Go.Num
theorem kbnz{d q r y x Q R:Nat}(h1:r*18446744073709551616+x=q*d+y)(h2:R=d*Q+r):x+18446744073709551616*R=d*(q+18446744073709551616*Q)+y:=by rw[h2,Nat.mul_add,Nat.mul_add];have z:18446744073709551616*(d*Q)=d*(18446744073709551616*Q):=Nat.mul_left_comm _ _ _;rw[z,Nat.mul_comm d q];omega
theorem kxa{o:List Nat}{i w:Nat}(h:i<o.length):(o.set i w).drop i=w::o.drop (i+1):=by rw[qcj (by simpa using h),List.getElem_set_self,List.drop_set_of_lt (by omega)]
theorem kxq{xs:List Nat}{d:Nat}(K:∀x∈xs,x<B)(Q:d<B)(y:0<d)(V:xs.length<=8796093022208) :
  ∀(i:Nat)(o:List Nat)(r:Nat),i<=xs.length->o.length=xs.length->r<d->num B (xs.drop i)=d*num B (o.drop i)+r->
   Iter kuh (.p4 xs d o r ((i:Int)-1)) (digs B (num B xs/d),((num B xs%d:Nat):Int))
 | 0,o,r,W,lo,z,e=>by
  refine .done ?_;show kjf _ _ _ _ _=_;unfold kjf;rw[List.drop_zero,List.drop_zero]at e;rw[condF (by rw[qbx];omega),e,Nat.mul_add_div y,Nat.div_eq_of_lt z,Nat.add_zero,Nat.mul_add_mod,Nat.mod_eq_of_lt z]
 | i+1,o,r,W,lo,z,e=>by
  have F:i<xs.length:=by omega
  have G:i<o.length:=by omega
  have Z:=K xs[i] (qb5 _);have H:d<18446744073709551616:=Q;have I:xs[i]<18446744073709551616:=Z
  have hq:(r*18446744073709551616+xs[i])/d<18446744073709551616:=by rw[Nat.div_lt_iff_lt_mul y];have:(r+1)*18446744073709551616<=d*18446744073709551616:=Nat.mul_le_mul_right _ z;omega
  refine .next (s':=.p4 xs d (o.set i ((r*18446744073709551616+xs[i])/d)) ((r*18446744073709551616+xs[i])%d:Nat) ((i:Int)-1)) ?_ (kxq K Q y V i _ _ (by omega) (by simpa using lo) (Nat.mod_lt _ y) ?_)
  ·show kjf _ _ _ _ _=_;unfold kjf;rw[condT (by rw[qby];omega),show((i+1:Nat):Int)-1=(i:Int)from by omega,kbv F,qbv,k1i H I z,qbv,kba G,qbv];dsimp only;rw[kbg hq,qbv,wrap64 (by omega) (by omega)]
  ·rw[kxa G,qcj F];simp only[num];have U:=Nat.div_add_mod (r*18446744073709551616+xs[i]) d;rw[Nat.mul_comm d]at U;exact kbnz U.symm e
theorem k8u{xs:List Nat}{d:Nat}(F:∀x∈xs,x<B)(G:d<B)(y:0<d)(z:xs.length<=8796093022208):Iter kuh (.fn xs d) (digs B (num B xs/d),((num B xs%d:Nat):Int)):=by refine .next (s':=.p4 xs d (List.replicate xs.length 0) ((0:Nat):Int) ((xs.length:Int)-1)) ?_ (kxq F G y z xs.length _ _ (qbr _) (by simp) y (by simp[num]));show kmc _ _=_;unfold kmc;rw[kdt z,qbv,wrap64 (by omega) (by omega)];rfl
theorem kbe9{h:AH}{s:Sl}{xs:List Nat}(n:Nats h s xs){d:Nat}(z:d<B)(y:0<d)(F:xs.length<=8796093022208):∃(s':Sl)(h':AH),go (.fn kgm [s.v,.int .u64 (d:Int)]) h=some (.tup [s'.v,.int .u64 ((num B xs%d:Nat):Int)],h')/\Nats h' s' (digs B (num B xs/d))/\Grow h h'/\Own h s':=by obtain⟨_,h',e,s',rfl,G,g,o⟩:=k9p (k8u n.lt z y F) n;exact⟨s',h',e,G,g,o⟩
theorem kvq(a b:Int):ior .u64 a b=ior .u64 b a:=by unfold ior;rw[BitVec.or_comm]
theorem kboe{x n:Nat}(y:x<18446744073709551616)(z:n<=63):x*2^n%18446744073709551616=x%2^(64-n)*2^n/\x*2^n/18446744073709551616=x/2^(64-n)/\x/2^(64-n)<2^n/\x%2^(64-n)*2^n<18446744073709551616:=by
 have p:0<2^n:=Nat.pow_pos (by decide);have p2:0<2^(64-n):=Nat.pow_pos (by decide);have e:2^(64-n)*2^n=18446744073709551616:=by rw[<- Nat.pow_add,show 64-n+n=64 from by omega]
 refine⟨?_,?_,?_,?_⟩
 ·rw[<- e,Nat.mul_mod_mul_right]
 ·rw[<- e,Nat.mul_div_mul_right _ _ p]
 ·rw[Nat.div_lt_iff_lt_mul p2,Nat.mul_comm,e];exact y
 ·have:=Nat.mul_lt_mul_of_pos_right (Nat.mod_lt x p2) p;rw[e]at this;exact this
theorem up_alg{P c l hgh t n0 n1 n2 X:Nat}(h1:n1+P*c=n0+P*(l+c))(h2:n2+P*18446744073709551616*0=n1+P*18446744073709551616*hgh)(y:t=hgh*18446744073709551616+l)(z:n0=X):n2=X+P*t:=by rw[Nat.mul_add]at h1;rw[y,Nat.mul_add,Nat.mul_comm hgh,<- Nat.mul_assoc];omega
theorem kwc{xs:List Nat}{n:Nat}(U:∀x∈xs,x<B)(V:n<=63)(hl:xs.length<8796093022208) :
  ∀(d i:Nat)(o:List Nat),i+d=xs.length->o.length=xs.length+1->(∀y∈o,y<B)->Empty o (i+1)->(∀h:i<o.length,o[i]<2^n)->num B o=num B (xs.take i)*2^n->
   ∃r,Iter kkt (.p3 n o xs xs.length i) r/\r.length=xs.length+1/\(∀y∈r,y<B)/\num B r=num B xs*2^n
 | 0,i,o,W,lo,to,zo,ho,e=>by
  have W:i=xs.length:=by omega
  subst W;rw[List.take_length]at e;refine⟨o,.done ?_,lo,to,e⟩;show kf6 _ _ _ _ _=_;unfold kf6;rw[condF (by rw[qbx];omega)]
 | d+1,i,o,W,lo,to,zo,ho,e=>by
  have H:i<xs.length:=by omega
  have z:i<o.length:=by omega
  have hx:xs[i]<18446744073709551616:=U xs[i] (qb5 _);have hc:=ho z;obtain⟨u1,u2,u3,u4⟩:=kboe hx V;have shl:ishl .u64 (xs[i]:Int) (n:Int)=((xs[i]%2^(64-n)*2^n:Nat):Int):=by rw[kjs _ _ (by omega),u1]
  have io:ior .u64 (o[i]:Int) ((xs[i]%2^(64-n)*2^n:Nat):Int)=((xs[i]%2^(64-n)*2^n+o[i]:Nat):Int):=by rw[kvq,krw u4 hc (by omega)]
  have Q:xs[i]%2^(64-n)*2^n+o[i]<18446744073709551616:=by
   have p:0<2^n:=Nat.pow_pos (by decide);have p2:0<2^(64-n):=Nat.pow_pos (by decide);have e:2^(64-n)*2^n=18446744073709551616:=by rw[<- Nat.pow_add,show 64-n+n=64 from by omega]
   have:=Nat.mul_le_mul_right (2^n) (Nat.mod_lt xs[i] p2);rw[e,Nat.succ_mul]at this;omega
  generalize ac:xs[i]%2^(64-n)*2^n=l at *
  have I:i+1<(o.set i (l+o[i])).length:=by simp;omega
  have h1:=kk8 (b:=B) z (l+o[i])
  have hz:(o.set i (l+o[i]))[i+1]=0:=by rw[List.getElem_set_ne (by omega)];exact zo _ (by omega) (by omega)
  have G:xs[i]*2^n=xs[i]/2^(64-n)*18446744073709551616+l:=by have:=Nat.div_add_mod (xs[i]*2^n) 18446744073709551616;rw[u2,u1,Nat.mul_comm]at this;exact this.symm
  have F:num B (xs.take (i+1))*2^n=num B (xs.take i)*2^n+B^i*(xs[i]*2^n):=by rw[kc0 B H,Nat.add_mul,Nat.mul_assoc]
  have hB:xs[i]/2^(64-n)<18446744073709551616:=qbu (Nat.div_le_self _ _) hx;by_cases Z:n=0
  ·
   have hh:xs[i]/2^(64-n)=0:=by subst Z;rw[Nat.pow_zero]at u3;omega
   obtain⟨r,it,r1,r2,r3⟩:=kwc U V hl d (i+1) (o.set i (l+o[i])) (by omega) (by simpa using lo) (set_lt to Q) (by intro t K hk;rw[List.getElem_set_ne (by omega)];exact zo t (by simpa using K) (by omega)) (by intro K;rw[hz];exact Nat.pow_pos (by decide)) (by rw[F,G,hh];exact up_alg (hgh:=0) h1 (by omega) rfl e)
   refine⟨r,.next ?_ it,r1,r2,r3⟩;show kf6 _ _ _ _ _=_;unfold kf6;rw[condT (by rw[qby];omega),kbv H,qbv,kba z,qbv,condF (by rw[qbx];omega),qbv,ke0 z,shl,io,kbg Q,qbv,condF (by rw[qbx];omega),ki (by omega)]
  ·have h2:=kk8 (b:=B) I (xs[i]/2^(64-n));rw[hz]at h2
   obtain⟨r,it,r1,r2,r3⟩:=kwc U V hl d (i+1) ((o.set i (l+o[i])).set (i+1) (xs[i]/2^(64-n))) (by omega) (by simpa using lo) (set_lt (set_lt to Q) hB) (by intro t K hk;rw[List.getElem_set_ne (by omega),List.getElem_set_ne (by omega)];exact zo t (by simpa using K) (by omega)) (by intro K;rw[List.getElem_set_self];exact u3) (by rw[F];rw[Nat.pow_succ]at h2;exact up_alg h1 h2 G e)
   refine⟨r,.next ?_ it,r1,r2,r3⟩;have aa:ishr .u64 (xs[i]:Int) ((64-n:Nat):Int)=((xs[i]/2^(64-n):Nat):Int):=by rw[kb9,Nat.min_eq_left (by omega)]
   have ab:IntKind.wrap .u64 (64-(n:Int))=((64-n:Nat):Int):=by rw[wrapU];omega
   show kf6 _ _ _ _ _=_;unfold kf6;rw[condT (by rw[qby];omega),kbv H,qbv,kba z,qbv,condF (by rw[qbx];omega),qbv,ke0 z,shl,io,kbg Q,qbv,condT (by rw[qby];omega),ab,condF (by rw[qbx];omega),ki (by omega),kba (by omega),qbv,aa,kbg hB,qbv]
theorem k42{xs:List Nat}{n:Nat}(z:∀x∈xs,x<B)(F:n<=63)(G:xs.length<8796093022208):∃r,Iter kkt (.fn xs n) r/\r.length=xs.length+1/\(∀y∈r,y<B)/\num B r=num B xs*2^n:=by
 obtain⟨r,H,k⟩:=kwc z F G xs.length 0 (List.replicate (xs.length+1) 0) (by omega) (by simp) (λy I=>by rw[List.eq_of_mem_replicate I];exact B0) (λt K hk=>by simp) (λK=>by simp;exact Nat.pow_pos (by decide)) (by
  have:=kfq B [] (xs.length+1)
  simpa[num]using this)
 refine⟨r,.next ?_ H,k⟩;show klu _ _=_;unfold klu;rw[ki (by omega),kdt (by omega),qbv];rfl
theorem kn_hi2{b y z W r0 q r:Nat}(hv:0<y*b+z)(e:q*y+r=W)(t:b*r+r0<q*z):(W*b+r0)/(y*b+z)<=q-1/\1<=q:=by
 have h1:(W*b+r0)/(y*b+z)<q:=by rw[Nat.div_lt_iff_lt_mul hv,kn_mul (v:=y*b+z) rfl,<- e,Nat.add_mul,Nat.mul_comm r b];omega
 generalize (W*b+r0)/(y*b+z)=k at *
 omega
theorem kyx{d1 d0 W r0:Nat}(h1:d1<18446744073709551616)(F:0<d1)(h0:d0<18446744073709551616)(K:r0<18446744073709551616) :
  ∀(q r:Nat),q*d1+r=W->q<18446744073709551616->r<18446744073709551616->(W*18446744073709551616+r0)/(d1*18446744073709551616+d0)<=q->
   ∃g:Nat,Iter kky (.p4 r0 d1 d0 q r) (g:Int)/\g<18446744073709551616/\(W*18446744073709551616+r0)/(d1*18446744073709551616+d0)<=g
 | q,r,e,hq,Q,y=>by
  have G:mul64 (q:Int) (d0:Int)=(((q*d0/18446744073709551616:Nat):Int),((q*d0%18446744073709551616:Nat):Int)):=kxc hq h0;by_cases c1:q*d0/18446744073709551616<r
  ·refine⟨q,.done ?_,hq,y⟩;show kgb _ _ _ _ _=_;unfold kgb;rw[G];dsimp only;rw[condT (by rw[qby];omega)]
  by_cases c2:q*d0/18446744073709551616=r/\q*d0%18446744073709551616<=r0
  ·refine⟨q,.done ?_,hq,y⟩;show kgb _ _ _ _ _=_;unfold kgb;rw[G];dsimp only;rw[condF (by rw[qbx];omega),condT (by rw[qby];omega),condT (by rw[qby];omega)]
  have t:18446744073709551616*r+r0<q*d0:=by
   generalize q*d0=t at *
   omega
  obtain⟨H,k2⟩:=kn_hi2 (by omega) e t;obtain⟨p,rfl⟩:∃p,q=p+1:=⟨q-1,by omega⟩;rw[Nat.add_sub_cancel]at H
  have U:p*d1+(r+d1)=W:=by rw[Nat.add_mul,Nat.one_mul]at e;omega
  have V:IntKind.wrap .u64 (((p+1:Nat):Int)-1)=(p:Int):=by rw[wrapU];omega
  have step:∀o,cond (decide ((IntKind.wrap .u64 ((r:Int)+(d1:Int)))<(r:Int))) (some (Sum.inr (α:=kgj) (p:Int))) (some (.inl (.p4 r0 d1 d0 p (IntKind.wrap .u64 ((r:Int)+(d1:Int))))))=o->kky (.p4 r0 d1 d0 ((p+1:Nat):Int) r)=o:=by intro o z;show kgb _ _ _ _ _=_;unfold kgb;rw[G];dsimp only;rw[V,condF (by rw[qbx];omega)];refine kci (λ_=>?_) λ_=>z;rw[condF (by rw[qbx];rename_i h;rw[qby]at h;omega)];exact z
  by_cases z:r+d1<18446744073709551616
  ·have I:IntKind.wrap .u64 ((r:Int)+(d1:Int))=((r+d1:Nat):Int):=by rw[wrapU];omega
   obtain⟨g,Z,k3,k4⟩:=kyx h1 F h0 K p (r+d1) U (by omega) z H;refine⟨g,.next (step _ ?_) Z,k3,k4⟩;rw[I,condF (by rw[qbx];omega)]
  ·have I:IntKind.wrap .u64 ((r:Int)+(d1:Int))=((r+d1-18446744073709551616:Nat):Int):=by rw[wrapU];omega
   refine⟨p,.done (step _ ?_),by omega,H⟩;rw[I,condT (by rw[qby];omega)]
termination_by q=>q
theorem kba0{r2 r1 r0 d1 d0:Nat}(h2:r2<18446744073709551616)(F:r1<18446744073709551616)(G:r0<18446744073709551616)(h1:d1<18446744073709551616)(y:0<d1)(h0:d0<18446744073709551616) :
  ∃g:Nat,Iter kky (.fn r2 r1 r0 d1 d0) (g:Int)/\g<18446744073709551616/\(g=18446744073709551615\/((r2*18446744073709551616+r1)*18446744073709551616+r0)/(d1*18446744073709551616+d0)<=g):=by
 by_cases V:d1<=r2
 ·refine⟨18446744073709551615,.done ?_,by omega,.inl rfl⟩;show kii _ _ _ _ _=_;unfold kii;rw[condT (by rw[qby];omega)];rfl
 ·have z:r2<d1:=by omega
  have hq:(r2*18446744073709551616+r1)/d1<18446744073709551616:=by rw[Nat.div_lt_iff_lt_mul y];have:(r2+1)*18446744073709551616<=d1*18446744073709551616:=Nat.mul_le_mul_right _ z;omega
  have W:=Nat.mod_lt (r2*18446744073709551616+r1) y
  have first:((r2*18446744073709551616+r1)*18446744073709551616+r0)/(d1*18446744073709551616+d0)<=(r2*18446744073709551616+r1)/d1:=by
   rw[Nat.le_div_iff_mul_le y];have H:=Nat.div_mul_le_self ((r2*18446744073709551616+r1)*18446744073709551616+r0) (d1*18446744073709551616+d0);rw[kn_mul (v:=d1*18446744073709551616+d0) rfl]at H
   have I:((r2*18446744073709551616+r1)*18446744073709551616+r0)/(d1*18446744073709551616+d0)*d1*18446744073709551616<(r2*18446744073709551616+r1+1)*18446744073709551616:=by rw[Nat.add_mul _ 1];omega
   have:=Nat.lt_of_mul_lt_mul_right I;omega
  obtain⟨g,K,Q,U⟩:=kyx h1 y h0 G ((r2*18446744073709551616+r1)/d1) ((r2*18446744073709551616+r1)%d1) (by rw[Nat.mul_comm];exact Nat.div_add_mod _ _) hq (by omega) first
  refine⟨g,.next ?_ K,Q,.inr U⟩;show kii _ _ _ _ _=_;unfold kii;rw[condF (by rw[qbx];omega),k1i h1 F z,qbv]
theorem kmm{s:Nat}(hs:s<=64):2^(64-s)*2^s=18446744073709551616:=by rw[<- Nat.pow_add,show 64-s+s=64 from by omega]
theorem kbnw{s:Nat}(hs:s<=64)(t:List Nat):num B t%2^s=t.getD 0 0%2^s:=by
 cases t with
 | nil=>rfl
 | cons x t =>
  show(x+B*num B t)%2^s=x%2^s
  have e:B*num B t=2^s*(2^(64-s)*num B t):=by rw[<- Nat.mul_assoc,Nat.mul_comm (2^s),kmm hs]
  rw[e,Nat.add_mul_mod_self_left]
theorem kbek{s x:Nat}(hs:s<=64)(t:List Nat):(x+B*num B t)/2^s=(t.getD 0 0%2^s*2^(64-s)+x/2^s)+B*(num B t/2^s):=by
 have p:0<2^s:=Nat.pow_pos (by decide);have F:=kbnw hs t;have y:=Nat.div_add_mod (num B t) (2^s);rw[F]at y;generalize t.getD 0 0%2^s=z at *
 generalize num B t/2^s=q at *
 have e:x+B*num B t=x+2^s*(B*q+2^(64-s)*z):=by rw[<- y,Nat.mul_add,Nat.mul_add,Nat.mul_left_comm B,<- Nat.mul_assoc (2^s) (2^(64-s)),Nat.mul_comm (2^s) (2^(64-s)),kmm hs]
 rw[e,Nat.add_mul_div_left _ _ p,Nat.mul_comm (2^(64-s))];omega
theorem kbqe{s x z:Nat}(hs:s<=64)(y:x<18446744073709551616):z%2^s*2^(64-s)+x/2^s<18446744073709551616/\x/2^s<2^(64-s)/\z%2^s*2^(64-s)<18446744073709551616:=by
 have p:0<2^s:=Nat.pow_pos (by decide);have e:=kmm hs;have h1:x/2^s<2^(64-s):=by rw[Nat.div_lt_iff_lt_mul p,e];exact y
 have h2:=Nat.mul_le_mul_right (2^(64-s)) (Nat.mod_lt z p);rw[Nat.mul_comm (2^s),e,Nat.succ_mul]at h2;generalize x/2^s=f at *
 omega
theorem kph{q L:List Nat}{s:Nat}(Q:∀x∈L,x<B)(hs:s<=63)(U:L.length<=8796093022208) :
  ∀(d i:Nat)(o:List Nat),i+d=L.length->o.length=L.length->num B (o.take i)+B^i*(num B (L.drop i)/2^s)=num B L/2^s->
   Iter kk0 (.p18 s q L o L.length i) (digs B (num B q),digs B (num B L/2^s))
 | 0,i,o,V,lo,e=>by
  have V:i=L.length:=by omega
  subst V;refine .done ?_;show kez _ _ _ _ _ _=_;unfold kez;rw[condF (by rw[qbx];omega)];rw[List.take_of_length_le (by omega),List.drop_of_length_le (by omega)]at e;simp only[num,Nat.zero_div,Nat.mul_zero,Nat.add_zero]at e;rw[e]
 | d+1,i,o,V,lo,e=>by
  have F:i<L.length:=by omega
  have y:i<o.length:=by omega
  have hx:L[i]<18446744073709551616:=Q L[i] (qb5 _);obtain⟨w1,w2,w3⟩:=kbqe (z:=(L.drop (i+1)).getD 0 0) (show s<=64 by omega) hx;have hg:(L.drop (i+1)).getD 0 0=L.getD (i+1) 0:=by simp[List.getD]
  have inv:∀w,w=(L.drop (i+1)).getD 0 0%2^s*2^(64-s)+L[i]/2^s->num B ((o.set i w).take (i+1))+B^(i+1)*(num B (L.drop (i+1))/2^s)=num B L/2^s:=by intro w hw;rw[qcj F]at e;simp only[num]at e;rw[kbek (by omega),<- hw]at e;rw[kc0 B (by simpa using y),List.getElem_set_self,List.take_set_of_le (qbr i),Nat.pow_succ,Nat.mul_assoc];rw[Nat.mul_add]at e;omega
  have sr:ishr .u64 (L[i]:Int) (s:Int)=((L[i]/2^s:Nat):Int):=by rw[kb9,Nat.min_eq_left (by omega)]
  have G:L[i]/2^s<18446744073709551616:=qbu (Nat.div_le_self _ _) hx;by_cases W:s=0
  ·subst W;refine .next (s':=.p18 ((0:Nat):Int) q L (o.set i (L[i]/2^0)) L.length ((i+1:Nat):Int)) ?_ (kph Q hs U d (i+1) _ (by omega) (by simpa using lo) (inv _ (by rw[Nat.pow_zero,Nat.mod_one];omega)));show kez _ _ _ _ _ _=_;unfold kez;rw[condT (by rw[qby];omega),kbv F,qbv,condF (by rfl),kba y,qbv,sr,kbg G,qbv,condF (by rfl),ki (by omega)]
  by_cases H:i+1<L.length
  ·have I:L.getD (i+1) 0=L[i+1]:=ke0 H;rw[hg,I]at w1 w3 inv;refine .next (s':=.p18 s q L (o.set i (L[i+1]%2^s*2^(64-s)+L[i]/2^s)) L.length ((i+1:Nat):Int)) ?_ (kph Q hs U d (i+1) _ (by omega) (by simpa using lo) (inv _ rfl));show kez _ _ _ _ _ _=_;unfold kez;have Z:IntKind.wrap .u64 (64-(s:Int))=((64-s:Nat):Int):=by rw[wrapU];omega
   have sl:ishl .u64 (L[i+1]:Int) ((64-s:Nat):Int)=((L[i+1]%2^s*2^(64-s):Nat):Int):=by rw[kjs _ _ (by omega)];congr 1;rw[<- kmm (show s<=64 by omega),Nat.mul_comm (2^(64-s)) (2^s),Nat.mul_mod_mul_right]
   have io:ior .u64 ((L[i]/2^s:Nat):Int) ((L[i+1]%2^s*2^(64-s):Nat):Int)=((L[i+1]%2^s*2^(64-s)+L[i]/2^s:Nat):Int):=by rw[kvq,krw w3 w2 (by omega)]
   have K:i<(o.set i (L[i]/2^s)).length:=by simpa using y
   rw[condT (by rw[qby];omega),kbv F,qbv,condF (by rw[qbx];omega),kba y,qbv,sr,kbg G,qbv,condT (by rw[qby];omega),ki (by omega),condT (by rw[qby];omega),qbv,kbv H,qbv,Z,condF (by rw[qbx];omega),qbv,ke0 K,List.getElem_set_self,sl,io,kbg w1,qbv,List.set_set]
  ·have I:L.getD (i+1) 0=0:=by simp[List.getD,List.getElem?_eq_none (Nat.le_of_not_lt H)]
   rw[hg,I]at inv;refine .next (s':=.p18 s q L (o.set i (L[i]/2^s)) L.length ((i+1:Nat):Int)) ?_ (kph Q hs U d (i+1) _ (by omega) (by simpa using lo) (inv _ (by rw[Nat.zero_mod];omega)));show kez _ _ _ _ _ _=_;unfold kez;rw[condT (by rw[qby];omega),kbv F,qbv,condF (by rw[qbx];omega),kba y,qbv,sr,kbg G,qbv,condT (by rw[qby];omega),ki (by omega),condF (by rw[qbx];omega)]
theorem cmp_ge{a b:Nat}:cmp a b>=0↔b<=a:=by
 unfold cmp;by_cases h:a<b
 ·rw[if_pos h];omega
 ·rw[if_neg h];by_cases h2:a=b
  ·rw[if_pos h2];omega
  ·rw[if_neg h2];omega
theorem kbdv{xs ys:List Nat}{lo n:Nat}(h:lo+n<=xs.length)(y:ys.length=n):setW xs lo n ys=some (xs.take lo++ys++xs.drop (lo+n)):=by unfold setW;rw[if_pos ⟨h,y⟩]
theorem k5u{s:Int}{r d q:List Nat}{j:Nat}{res:kch}(U:∀x∈r,x<B)(W:∀x∈d,x<B)(V:j<q.length)(Z:j+(d.length+1)<=r.length)(G:r.length<=1073741823)(H:q.length<=1073741823)(y:0<num B d)
  (K:Iter kk0 (.p6 s (r.take j++padD B (d.length+1) (num B ((r.drop j).take (d.length+1))%num B d)++r.drop (j+(d.length+1))) d d.length (q.set j (num B ((r.drop j).take (d.length+1))/num B d)) ((j:Int)-1)) res) :
  ∀g:Nat,g<18446744073709551616->num B ((r.drop j).take (d.length+1))/num B d<=g->Iter kk0 (.p10 s r d d.length q j g (j,d.length+1)) res
 | g,I,Q=>by
  have z:((r.drop j).take (d.length+1)).length=d.length+1:=by simp;omega
  have tw:∀x∈(r.drop j).take (d.length+1),x<B:=λx hx=>U x (List.mem_of_mem_drop (List.mem_of_mem_take hx));have hP:=num_lt B1 tw;rw[z]at hP
  have lg:(digs B g).length<=1:=by rw[kbc B2,Nat.pow_one];exact I
  by_cases F:num B d*g<=num B ((r.drop j).take (d.length+1))
  ·have hq:num B ((r.drop j).take (d.length+1))/num B d=g:=Nat.le_antisymm Q (by rw[Nat.le_div_iff_mul_le y,Nat.mul_comm];exact F)
   have hm:num B ((r.drop j).take (d.length+1))-num B d*g=num B ((r.drop j).take (d.length+1))%num B d:=by have:=Nat.div_add_mod (num B ((r.drop j).take (d.length+1))) (num B d);rw[hq]at this;omega
   rw[hq]at K;refine .next ?_ K;show kh5 _ _ _ _ _ _ _ _=_;unfold kh5
   have lp:(digs B (num B d*g)).length<=d.length+1:=by rw[kbc B2];omega
   rw[kbg I,qbv,kp (by omega),qbv,kp (by rw[z];omega),qbv,kp (kej B2 _),qbv,kp (kej B2 _),qbv];dsimp only;rw[kg B2,kg B2,kg B2,condT (by rw[qby,cmp_ge];exact F),kp (by rw[z];exact⟨by omega,lp,F⟩),qbv,z,hm,kbdv (by omega) (ksb _ _ _),qbv,kba V,qbv,qbv,wrap64 (by omega) (by omega)]
  ·obtain⟨p,rfl⟩:∃p,g=p+1:=⟨g-1,by
    rcases Nat.eq_zero_or_pos g with e | e
    ·subst e;rw[Nat.mul_zero]at F;omega
    ·omega⟩
   have aa:num B ((r.drop j).take (d.length+1))/num B d<p+1:=by rw[Nat.div_lt_iff_lt_mul y,Nat.mul_comm];omega
   refine .next (s':=.p10 s r d d.length q j p (j,d.length+1)) ?_ (k5u U W V Z G H y K p (by omega) (by omega));show kh5 _ _ _ _ _ _ _ _=_;unfold kh5;rw[kbg I,qbv,kp (by omega),qbv,kp (by rw[z];omega),qbv,kp (kej B2 _),qbv,kp (kej B2 _),qbv];dsimp only;rw[kg B2,kg B2,kg B2,condF (by rw[qbx,cmp_ge];exact F),show IntKind.wrap .u64 (((p+1:Nat):Int)-1)=(p:Int)from by rw[wrapU];omega]
termination_by g=>g
end Go.Ab
set_option maxRecDepth 10000
namespace Go.Ab
open IntKind (wrap)
open Go.Proofs Go.Num
theorem kbhu{b:Nat}{zs:List Nat}{n:Nat}(h:zs.length=n+2):num b zs=num b (zs.take n)+b^n*(zs[n+1]*b+zs[n]):=by
 have e:num b zs=num b (zs.take (n+1+1)):=by rw[List.take_of_length_le (by omega)]
 rw[e,kc0 b (by omega),kc0 b (by omega),Nat.pow_succ,Nat.mul_add,Nat.mul_assoc,Nat.mul_comm b];omega
theorem kbj0{b:Nat}{zs:List Nat}{n:Nat}(h:zs.length=n+3):num b zs=num b (zs.take n)+b^n*((zs[n+2]*b+zs[n+1])*b+zs[n]):=by
 have e:num b zs=num b (zs.take (n+1+1+1)):=by rw[List.take_of_length_le (by omega)]
 rw[e,kc0 b (by omega),kc0 b (by omega),kc0 b (by omega)];have y:b^(n+1)*zs[n+1]=b^n*(zs[n+1]*b):=by rw[Nat.pow_succ,Nat.mul_assoc,Nat.mul_comm b]
 have z:b^(n+1+1)*zs[n+1+1]=b^n*(zs[n+2]*b*b):=by rw[Nat.pow_succ,Nat.pow_succ,Nat.mul_assoc,Nat.mul_assoc,Nat.mul_comm b,Nat.mul_comm b]
 rw[y,z,Nat.add_mul,Nat.mul_add,Nat.mul_add];omega
theorem top_le{E T D p e:Nat}(hp:p<E)(y:0<D):(p+E*T)/(e+E*D)<=T/D:=by
 have z:0<E:=by omega
 have hv:0<e+E*D:=by have:=Nat.mul_pos z y;omega
 have h1:T<(T/D+1)*D:=by rw[Nat.mul_comm];exact Nat.lt_mul_div_succ T y
 have h2:E*(T+1)<=E*((T/D+1)*D):=Nat.mul_le_mul_left _ h1;rw[Nat.mul_add,Nat.mul_one]at h2
 have F:(p+E*T)/(e+E*D)<T/D+1:=by rw[Nat.div_lt_iff_lt_mul hv,Nat.mul_add,Nat.mul_left_comm _ E D];omega
 omega
theorem kbj3{y P low z X F n1:Nat}(h1:n1+y*(z*18446744073709551616)*F=X)(h2:n1=low+z*P):low+z*(P%y)+y*z*(P/y+18446744073709551616*F)=X:=by
 have G:=Nat.div_add_mod P y;have K:z*P=z*(y*(P/y))+z*(P%y):=by rw[<- Nat.mul_add,G]
 have H:y*z*(P/y)=z*(y*(P/y)):=by rw[Nat.mul_comm y z,Nat.mul_assoc]
 have I:y*(z*18446744073709551616)*F=y*z*(18446744073709551616*F):=by rw[<- Nat.mul_assoc y,Nat.mul_assoc (y*z)]
 rw[Nat.mul_add,H,<- I];omega
theorem kz6{s X m k:Nat}{d:List Nat}(hs:s<=63)(hk:d.length=k+2)(H:∀x∈d,x<B)(ht:Trim d)(hm:m<=536870911)(aa:k<=536870000) :
  ∀(i:Nat)(r q:List Nat),i<=m->r.length=m+(k+2)->q.length=m->(∀x∈r,x<B)->num B r+num B d*B^i*num B (q.drop i)=X->num B r<num B d*B^i->
   Iter kk0 (.p6 s r d d.length q ((i:Int)-1)) (digs B (X/num B d),digs B (X%num B d/2^s))
 | 0,r,q,hi,lr,lq,tr,e,lt=>by
  rw[List.drop_zero,Nat.pow_zero,Nat.mul_one]at e;rw[Nat.pow_zero,Nat.mul_one]at lt;have F:0<num B d:=by omega
  have hq:X/num B d=num B q:=by rw[<- e,Nat.add_mul_div_left _ _ F,Nat.div_eq_of_lt lt,Nat.zero_add]
  have hr:X%num B d=num B r:=by rw[<- e,Nat.add_mul_mod_self_left,Nat.mod_eq_of_lt lt]
  rw[hq,hr];have hl:=kma tr;have key:=kph (q:=q) (kbr B2 (num B r)) hs (by omega) (digs B (num B r)).length 0 (List.replicate (digs B (num B r)).length 0) (by omega) (by simp) (by simp[num]);rw[kg B2]at key;refine .next ?_ key;show kjg _ _ _ _ _ _=_;unfold kjg;rw[condF (by rw[qbx];omega),kdt (by omega),qbv];rfl
 | j+1,r,q,hi,lr,lq,tr,e,lt=>by
  have F:0<num B d:=by
   rcases Nat.eq_zero_or_pos (num B d)with h | h
   ·rw[h,Nat.zero_mul]at lt;omega
   ·exact h
  have ab:=num_lt B1 H;rw[hk]at ab;have lw:((r.drop j).take (d.length+1)).length=k+3:=by simp;omega
  have tw:∀x∈(r.drop j).take (d.length+1),x<B:=λx y=>tr x (List.mem_of_mem_drop (List.mem_of_mem_take y));have z:(r.take j).length=j:=by simp;omega
  have er:num B r=num B (r.take j)+B^j*num B ((r.drop j).take (d.length+1))+B^(j+(d.length+1))*num B (r.drop (j+(d.length+1))):=by
   have e1:num B r=num B (r.take j++((r.drop j).take (d.length+1)++(r.drop j).drop (d.length+1))):=by rw[List.take_append_drop,List.take_append_drop]
   rw[kcj,kcj,z,lw,List.drop_drop]at e1;have e3:j+(k+3)=j+(d.length+1):=by omega
   rw[e1,Nat.mul_add (B^j),<- Nat.mul_assoc (B^j),<- Nat.pow_add,e3];omega
  have I:=num_lt (b:=B) B1 (xs:=r.take j) λx y=>tr x (List.mem_of_mem_take y);rw[z]at I
  have G:num B (r.drop (j+(d.length+1)))=0:=by
   rcases Nat.eq_zero_or_pos (num B (r.drop (j+(d.length+1))))with h | h
   ·exact h
   ·exfalso;have h1:B^(j+(d.length+1))*1<=B^(j+(d.length+1))*num B (r.drop (j+(d.length+1))):=Nat.mul_le_mul_left _ h;have h2:num B d*B^(j+1)<=B^(k+2)*B^(j+1):=Nat.mul_le_mul_right _ (by omega);rw[<- Nat.pow_add,show k+2+(j+1)=j+(d.length+1)from by omega]at h2;omega
  rw[G,Nat.mul_zero,Nat.add_zero]at er
  have hP:num B ((r.drop j).take (d.length+1))<num B d*B:=by
   have h1:B^j*num B ((r.drop j).take (d.length+1))<B^j*(num B d*B):=by
    have:num B d*B^(j+1)=B^j*(num B d*B):=by rw[Nat.pow_succ,Nat.mul_left_comm]
    omega
   exact Nat.lt_of_mul_lt_mul_left h1
  have hq:num B ((r.drop j).take (d.length+1))/num B d<18446744073709551616:=by rw[Nat.div_lt_iff_lt_mul F,Nat.mul_comm];exact hP
  have i2:j+(k+2)<r.length:=by omega
  have i1:j+(k+1)<r.length:=by omega
  have i0:j+k<r.length:=by omega
  have g2:((r.drop j).take (d.length+1))[k+2]=r[j+(k+2)]:=by simp
  have g1:((r.drop j).take (d.length+1))[k+1]=r[j+(k+1)]:=by simp
  have g0:((r.drop j).take (d.length+1))[k]=r[j+k]:=by simp
  have K:=kbj0 (b:=B) lw;rw[g2,g1,g0]at K;have Q:=kbhu (b:=B) hk
  have U:0<d[k+1]:=by
   have ac:d≠[]:=by intro h;rw[h]at hk;simp at hk
   have:=ht ac;rw[List.getLast_eq_getElem]at this;have e:d.length-1=k+1:=by omega
   simp only[e]at this;omega
  have ad:(((r.drop j).take (d.length+1)).take k).length=k:=by simp;omega
  have V:=num_lt (b:=B) B1 (xs:=((r.drop j).take (d.length+1)).take k) λx y=>tw x (List.mem_of_mem_take y);rw[ad]at V;have tl:=top_le (E:=B^k) (T:=(r[j+(k+2)]*B+r[j+(k+1)])*B+r[j+k]) (D:=d[k+1]*B+d[k]) (e:=num B (d.take k)) V (by have:1*B<=d[k+1]*B:=Nat.mul_le_mul_right _ U;have:=B0;omega);rw[<- K,<- Q]at tl;obtain⟨g,ae,af,ag⟩:=kba0 (r2:=r[j+(k+2)]) (r1:=r[j+(k+1)]) (r0:=r[j+k]) (d1:=d[k+1]) (d0:=d[k]) (tr _ (qb5 _)) (tr _ (qb5 _)) (tr _ (qb5 _)) (H _ (qb5 _)) U (H _ (qb5 _))
  have ah:num B ((r.drop j).take (d.length+1))/num B d<=g:=by
   rcases ag with h | h
   ·omega
   ·exact qbs tl h
  have W:=Nat.mod_lt (num B ((r.drop j).take (d.length+1))) F
  have ai:num B (padD B (d.length+1) (num B ((r.drop j).take (d.length+1))%num B d))=num B ((r.drop j).take (d.length+1))%num B d:=by refine kut B0 _ _ ?_;have:B^(k+2)<=B^(d.length+1):=Nat.pow_le_pow_right B1 (by omega);omega
  have nr:num B (r.take j++padD B (d.length+1) (num B ((r.drop j).take (d.length+1))%num B d)++r.drop (j+(d.length+1)))=num B (r.take j)+B^j*(num B ((r.drop j).take (d.length+1))%num B d):=by rw[kcj,kcj,G,Nat.mul_zero,Nat.add_zero,z,ai]
  have Z:j<q.length:=by omega
  have IH:=kz6 (s:=s) (X:=X) hs hk H ht hm aa j (r.take j++padD B (d.length+1) (num B ((r.drop j).take (d.length+1))%num B d)++r.drop (j+(d.length+1))) (q.set j (num B ((r.drop j).take (d.length+1))/num B d)) (by omega) (by simp[ksb];omega) (by simpa using lq) (by
    intro x y;rcases qb7.1 y with y | y
    ·rcases qb7.1 y with y | y
     ·exact tr x (List.mem_of_mem_take y)
     ·exact k5r B0 _ _ x y
    ·exact tr x (List.mem_of_mem_drop y)) (by
    rw[nr,kxa Z];simp only[num];rw[Nat.pow_succ]at e;exact kbj3 e er) (by
    rw[nr];have:B^j*(num B ((r.drop j).take (d.length+1))%num B d+1)<=B^j*num B d:=Nat.mul_le_mul_left _ W;rw[Nat.mul_add,Nat.mul_one,Nat.mul_comm _ (num B d)]at this;omega)
  refine .next (s':=.p10 s r d d.length q j g (j,d.length+1)) ?_ (k5u tr H Z (by omega) (by omega) (by omega) F IH g af ah);show kjg _ _ _ _ _ _=_;unfold kjg;have w0:wrap .i64 ((j:Int)+(d.length:Int))=((j+(k+2):Nat):Int):=by rw[wrap64 (by omega) (by omega)];omega
  rw[condT (by rw[qby];omega),show((j+1:Nat):Int)-1=(j:Int)from by omega,w0];rw[show wrap .i64 (((j+(k+2):Nat):Int)-1)=((j+(k+1):Nat):Int)from by rw[wrap64 (by omega) (by omega)];omega];rw[show wrap .i64 (((j+(k+2):Nat):Int)-2)=((j+k:Nat):Int)from by rw[wrap64 (by omega) (by omega)];omega];rw[show wrap .i64 ((d.length:Int)-1)=((k+1:Nat):Int)from by rw[wrap64 (by omega) (by omega)];omega];rw[show wrap .i64 ((d.length:Int)-2)=(k:Int)from by rw[wrap64 (by omega) (by omega)];omega];rw[show wrap .i64 (((j+(k+2):Nat):Int)+1)=((j+(d.length+1):Nat):Int)from by rw[wrap64 (by omega) (by omega)];omega];rw[kba i2,qbv,kba i1,qbv,kba i0,qbv,kbv (by omega),qbv,kbv (by omega),qbv,ke0 i2,ke0 i1,ke0 i0,kei ae,qbv,k0d (by omega) (by omega),qbv]
end Go.Ab
set_option maxRecDepth 10000
namespace Go.Ab
open Go.Proofs Go.Num
theorem kbpy{xs ys:List Nat}(lx:∀x∈xs,x<B)(K:∀x∈ys,x<B)(ty:Trim ys)(hy:2<=ys.length)(ae:xs.length<=64)(af:ys.length<=xs.length) :
  Iter kk0 (.fn xs ys) (digs B (num B xs/num B ys),digs B (num B xs%num B ys)):=by
 obtain⟨k,hk⟩:∃k,ys.length=k+2:=⟨ys.length-2,by omega⟩;have y:k+1<ys.length:=by omega
 have Q:0<ys[k+1]:=by
  have U:ys≠[]:=by intro h;rw[h]at hk;simp at hk
  have:=ty U;rw[List.getLast_eq_getElem]at this;have e:ys.length-1=k+1:=by omega
  simp only[e]at this;omega
 have V:ys[k+1]<18446744073709551616:=K _ (qb5 _);obtain⟨hs,W,Z⟩:=kzi V Q;obtain⟨r,aa,lr,tr,vr⟩:=k42 (n:=64-bl ys[k+1]) lx hs (by omega);obtain⟨p,ab,lp,tp,H⟩:=k42 (n:=64-bl ys[k+1]) K hs (by omega);have z:64-bl ys[k+1]<=63:=hs;generalize ac:64-bl ys[k+1]=s at *
 have ps:0<2^s:=Nat.pow_pos (by decide);have F:=kmm (show s<=64 by omega)
 have ag:num B ys=num B (ys.take (k+1))+B^(k+1)*ys[k+1]:=by
  have:num B ys=num B (ys.take (k+1+1)):=by rw[List.take_of_length_le (by omega)]
  rw[this,kc0 B y]
 have G:=num_lt (b:=B) B1 (xs:=ys.take (k+1)) λx hx=>K x (List.mem_of_mem_take hx);have ad:(ys.take (k+1)).length=k+1:=by simp;omega
 rw[ad]at G
 have y1:ys[k+1]+1<=2^(64-s):=by have:ys[k+1]<2^(64-s):=Nat.lt_of_mul_lt_mul_right (a:=2^s) (by rw[F];exact Z);omega
 have up:num B ys*2^s<B^(k+2):=by
  have h1:num B ys<B^(k+1)*(ys[k+1]+1):=by rw[Nat.mul_add,Nat.mul_one];omega
  have h2:B^(k+1)*(ys[k+1]+1)<=B^(k+1)*2^(64-s):=Nat.mul_le_mul_left _ y1;have I:num B ys*2^s<B^(k+1)*2^(64-s)*2^s:=Nat.mul_lt_mul_of_pos_right (by omega) ps;rw[Nat.mul_assoc,F]at I;exact I
 have lo:B^(k+1)*9223372036854775808<=num B ys*2^s:=by
  have h1:B^(k+1)*ys[k+1]<=num B ys:=by omega
  have h2:=Nat.mul_le_mul_right (2^s) h1;rw[Nat.mul_assoc]at h2;exact qbs (Nat.mul_le_mul_left _ W) h2
 have ld:(digs B (num B p)).length=k+2:=by
  rw[H];refine Nat.le_antisymm ((kbc B2 _ _).2 up) ?_;rcases Nat.lt_or_ge (digs B (num B ys*2^s)).length (k+2)with h | h
  ·have:=(kbc B2 (num B ys*2^s) (k+1)).1 (by omega);omega
  ·exact h
 have hX:num B r<num B p*B^(xs.length+1-(k+2)):=by rw[vr,H];have h1:num B xs*2^s<B^xs.length*2^s:=Nat.mul_lt_mul_of_pos_right (num_lt B1 lx) ps;have h2:B^xs.length*2^s<=B^xs.length*9223372036854775808:=Nat.mul_le_mul_left _ (show 2^s<=2^63 from Nat.pow_le_pow_right (by decide) z);have I:=Nat.mul_le_mul_right (B^(xs.length+1-(k+2))) lo;rw[Nat.mul_right_comm,<- Nat.pow_add,show k+1+(xs.length+1-(k+2))=xs.length from by omega]at I;omega
 have key:=kz6 (s:=s) (X:=num B xs*2^s) (m:=xs.length+1-(k+2)) (k:=k) (d:=digs B (num B p)) z ld (kbr B2 _) (kej B2 _) (by omega) (by omega) (xs.length+1-(k+2)) r (List.replicate (xs.length+1-(k+2)) 0) (qbr _) (by rw[lr];omega) (by simp) tr (by simp[num,vr]) (by rw[kg B2];exact hX);rw[kg B2,H,Nat.mul_div_mul_right _ _ ps,Nat.mul_mod_mul_right,Nat.mul_div_cancel _ ps]at key;refine .next ?_ key;show klx _ _=_;unfold klx;have w1:IntKind.wrap .i64 ((ys.length:Int)-1)=((k+1:Nat):Int):=by rw[wrap64 (by omega) (by omega)];omega
 have w2:IntKind.wrap .u64 ((s:Nat):Int)=(s:Int):=kco (by omega);have w3:IntKind.wrap .i64 ((r.length:Int)-((digs B (num B p)).length:Int))=((xs.length+1-(k+2):Nat):Int):=by rw[lr,ld,wrap64 (by omega) (by omega)];omega
 rw[w1,kbv y,qbv,kp (by omega),qbv,Int.toNat_natCast,ac,w2,kei aa,qbv,kei ab,qbv,w3,kdt (by omega),qbv,<- H,qca,wrap64 (by omega) (by omega)]
theorem kbd2{h:AH}{s t:Sl}{xs ys:List Nat}(n:Nats h s xs)(m:Nats h t ys)(ty:Trim ys)(F:2<=ys.length)(y:xs.length<=64)(z:ys.length<=xs.length) :
  ∃(a b:Sl)(h':AH),go (.fn kcd [s.v,t.v]) h=some (.tup [a.v,b.v],h')/\Nats h' a (digs B (num B xs/num B ys))/\Nats h' b (digs B (num B xs%num B ys))/\Grow h h'/\Own h a/\Own h b:=by
 obtain⟨_,h',e,a,b,rfl,k⟩:=kbbv (kbpy n.lt m.lt ty F y z) n m;exact⟨a,b,h',e,k⟩
theorem k85{h:AH}{i:Nat}{a b:Sl}{xs ys:List Nat}(c:h.has i [a.v,b.v] kj)(n:Nats h a xs)(m:Nats h b ys):go (.fn khp [(⟨some (.new i 0),2,.is 2⟩:Sl).v]) h=some (.bool (rt xs&&rt ys),h):=by
 have r:Rows h ⟨some (.new i 0),2,.is 2⟩ [(a,xs),(b,ys)]:=⟨qp c rfl,λp hp=>by
  simp at hp;rcases hp with rfl | rfl
  ·exact n
  ·exact m,by simp⟩
 rw[kle r];simp
theorem kbm3{h:AH}{s:Sl}{xs:List Nat}(n:Nats h s xs)(d:Int)(c:0<d/\d<18446744073709551616/\xs.length<=8796093022208):∃(s':Sl)(h':AH),go (.fn kgm [s.v,.int .u64 d]) h=some (.tup [s'.v,.int .u64 ((num B xs%d.toNat:Nat):Int)],h')/\Nats h' s' (digs B (num B xs/d.toNat))/\Grow h h'/\Own h s':=by obtain⟨x,rfl⟩:∃x:Nat,d=(x:Int):=⟨d.toNat,by omega⟩;rw[Int.toNat_natCast];exact kbe9 n (show x<18446744073709551616 by omega) (by omega) c.2.2
theorem Nats.of_has1{h:AH}{i:Nat}{e:TypeId}{v:Int}{x:Nat}(b:h.has i [.int .u64 v] e)(z:u64P v=some x):Nats h ⟨some (.new i 0),1,.is 1⟩ [x]:=by obtain⟨rfl,y⟩:=krx z;exact Nats.of_has (xs:=[x]) b (by simpa using y) (by simp)
abbrev qbk:=@Nats.of_has1
theorem k7s{h:AH}{s:Sl}{xs:List Nat}(n:Nats h s xs):kbb Pg kf s.v h=some (xs.map u64,xs.length):=by have c:=n.cells;rw[<- kkz]at c;rw[kih c,n.len]
theorem kbbq{h h0:AH}{i:Nat}{e:TypeId}{v:Int}{x:Nat}{s:Sl}{xs:List Nat}(b:h.has i [.int .u64 v] e)(z:u64P v=some x)(n:Nats h s xs)(K:Grow h0 h)(Q:h0.blks.size<=i)(H:xs.length<=1073741824) :
  ∃(s':Sl)(h':AH),kx Pg (⟨some (.new i 0),1,.is 1⟩:Sl) (xs.map u64) xs.length kf 1 h=some (s'.v,h')/\Nats h' s' (x::xs)/\Grow h h'/\Own h0 s':=by
 have n1:=qbk b z;obtain⟨rfl,I⟩:=krx z;cases xs with
 | nil =>
  obtain⟨s',U,c,o⟩:=k4u (P:=Pg) (elem:=kf) (m:=1) (by omega) n1.cells;exact⟨s',h,U,⟨c,by simpa using I,by simp⟩,qk h,o h0 λr G=>by cases G;exact⟨_,_,rfl,Q⟩⟩
 | cons y ys =>
  refine⟨_,_,kiy (c:=1) rfl (by simp) (kw6 (by simp at H|-;omega)) n1.cells,⟨⟨rfl,by simp;omega,λk w F=>⟨_,rfl,?_⟩⟩,?_,?_⟩,ql _ _,λr G=>?_⟩
  ·have:=AH.cell_push h ([u64 x]++(y::ys).map u64) kf k;rw[qj,Nat.zero_add];rw[List.map_cons,List.map_nil];rw[this]
   simpa using F
  ·intro w F;rcases qb8.1 F with rfl | F
   ·exact I
   ·exact n.lt w F
  ·have:=n.short;simp at H|-;omega
  ·cases G;exact⟨_,_,rfl,K.size⟩
end Go.Ab
set_option maxRecDepth 10000
namespace Go.Ab
open IntKind (wrap)
open Go.Proofs Go.Num
inductive kke
 | fn (x1:List Nat) (x2:List Nat)
 | no
abbrev kiw:=List Nat×List Nat×Int
noncomputable def knu(x1 x2:List Nat):Option (kke⊕kiw):=cond (!((rt x1&&rt x2))) (some (.inr ([],[],1))) (cond (decide ((List.length x2:Int)=0)) (some (.inr ([],[],3))) ((need (Trim x1)).bind λK=>(need (Trim x2)).bind λQ=>cond (decide ((cmp (num B x1) (num B x2))<0)) ((need (List.length x1<=8796093022208)).bind λU=>some (.inr ([],x1,0))) (cond (decide ((List.length x2:Int)=1)) ((atI x2 0).bind λy=>(need (0<((y:Int))/\((y:Int))<18446744073709551616/\List.length x1<=8796093022208)).bind λz=>(u64P (((num B x1%Int.toNat ((y:Int)):Nat):Int))).bind λp12=>some (.inr (digs B (num B x1/Int.toNat ((y:Int))),digs B p12,0))) ((need (Trim x2)).bind λF=>(need (2<=List.length x2)).bind λG=>(need (List.length x1<=64)).bind λH=>(need (List.length x2<=List.length x1)).bind λI=>some (.inr (digs B (num B x1/num B x2),digs B (num B x1%num B x2),0))))))
noncomputable def k06:kke->Option (kke⊕kiw)
 | .fn x1 x2=>knu x1 x2
 | .no=>none
@[reducible] def kbdn(h0:AH)(r:kiw)(v:AV)(h':AH):Prop:=∃s1:Sl,∃s2:Sl,v=.tup [s1.v,s2.v,.i r.2.2]/\Nats h' s1 r.1/\Nats h' s2 r.2.1/\Grow h0 h'/\Own h0 s1/\Own h0 s2
def ku7(r:kiw):kke->Prop
 | .fn x1 x2=>∀{h:AH}{a1:Sl}{a2:Sl},Nats h a1 x1->Nats h a2 x2->Runs (go (.fn kdx [a1.v,a2.v]) h) (kbdn h r)
 | .no=>True
theorem kblt{r:kiw}{o:kke⊕kiw}{x1 x2:List Nat}(e:knu x1 x2=some o)(z:GoodS (ku7 r) r o):ku7 r (.fn x1 x2):=by
 intro h a1 a2 n1 n2;rw[kbh2];unfold knu at e;rw[n2.len];refine qz λH3 b3 y=>?_;refine qy (k85 b3 (n1.grow y) (n2.grow y)) (qy (seen rfl) ?_);refine qbc (λk5=>?_) (λk5=>?_)
 ·replace e:=(condT k5).symm.trans e;cases e;cases z;exact qx ⟨(⟨none,0,.is 0⟩:Sl),(⟨none,0,.is 0⟩:Sl),rfl,(qu _),(qu _),y,(qr _),(qr _)⟩
 ·replace e:=(condF k5).symm.trans e;refine qbc (λk6=>?_) (λk6=>?_)
  ·replace e:=(condT k6).symm.trans e;cases e;cases z;exact qx ⟨(⟨none,0,.is 0⟩:Sl),(⟨none,0,.is 0⟩:Sl),rfl,(qu _),(qu _),y,(qr _),(qr _)⟩
  ·replace e:=(condF k6).symm.trans e;obtain⟨Q,bc,e⟩:=qbw.1 e;obtain⟨U,bd,e⟩:=qbw.1 e;refine qy (krs (n1.grow y) (n2.grow y)  Q.down U.down) (qy (seen qcr) ?_);refine qbc (λk8=>?_) (λk8=>?_)
   ·replace e:=(condT k8).symm.trans e;obtain⟨V,be,e⟩:=qbw.1 e;obtain⟨s9,H9,e9,n9,g9,o9⟩:=khs (n1.grow y)  V.down;refine qy e9 (qy (seen qcq) ?_);cases e;cases z;exact qx ⟨(⟨none,0,.is 0⟩:Sl),s9,rfl,(qu _),n9,(y.trans g9),(qr _),(o9.of_le y)⟩
   ·replace e:=(condF k8).symm.trans e;refine qbc (λk9=>?_) (λk9=>?_)
    ·replace e:=(condT k9).symm.trans e;obtain⟨ad,ae,e⟩:=qbw.1 e;obtain⟨bf,af,ag⟩:=(n2.grow y).atI ae;refine qy af (qy (rdc ag qcr) ?_);obtain⟨F,ah,e⟩:=qbw.1 e;obtain⟨ai,bg,aj,ak,W,al⟩:=kbm3 (n1.grow y) ((ad:Int))  F.down;refine qy aj (qy rfl (qy (seen qcq) (qy (seen qcr) ?_)));obtain⟨p12,am,e⟩:=qbw.1 e;obtain⟨an,bh,ao,ap,Z,aq⟩:=ktf am;refine qy ao (qy (seen qcq) ?_);cases e;cases z;exact qx ⟨ai,an,rfl,(ak.grow Z),ap,((y.trans W).trans Z),(al.of_le y),(aq.of_le (y.trans W))⟩
    ·replace e:=(condF k9).symm.trans e;obtain⟨G,ar,e⟩:=qbw.1 e;obtain⟨H,au,e⟩:=qbw.1 e;obtain⟨I,aw,e⟩:=qbw.1 e;obtain⟨K,ax,e⟩:=qbw.1 e;obtain⟨ay,aa,bi,az,a0,ab,ba,bb,ac⟩:=kbd2 (n1.grow y) (n2.grow y)  G.down H.down I.down K.down;refine qy az (qy rfl (qy (seen qcq) (qy (seen qcq) ?_)));cases e;cases z;exact qx ⟨ay,aa,rfl,a0,ab,(y.trans ba),(bb.of_le y),(ac.of_le y)⟩
theorem kbml{s:kke}{r:kiw}(z:Iter k06 s r):ku7 r s:=qbf (λs o e y=>by
 cases s with
 | fn x1 x2=>exact @kblt _ _ x1 x2 e y
 | no=>exact True.intro
 ) z
inductive ke1
 | fn (x1:List Nat) (x2:List Nat)
 | p4 (x1:List Nat) (x2:List Nat) (x3:List Nat) (x4:List Nat) (a5:Int)
 | p9 (x1:List Nat) (x2:List Nat) (x3:List Nat) (x4:List Nat) (a5:Int) (a6:Int) (a7:Int)
abbrev kc1:=List Nat×List Nat
noncomputable def knd(x1 x2:List Nat):Option (ke1⊕kc1):=(mkI (List.length x1:Int) (List.length x1:Int)).bind λy=>some (.inl (.p4 x1 x2 (List.replicate y 0) [] (wrap .i64 ((List.length x1:Int)-1))))
noncomputable def kiv(x1 x2 x3 x4:List Nat)(a5:Int):Option (ke1⊕kc1):=cond (decide (a5>=0)) ((atI x1 a5).bind λG=>(u64P ((G:Int))).bind λy=>(need (List.length x4<=1073741824)).bind λH=>(need (∀x∈(y::x4),x<D)).bind λz=>some (.inl (.p9 x1 x2 x3 (digs D (num D (y::x4))) a5 0 65535))) ((need (∀x∈x3,x<D)).bind λF=>some (.inr (digs D (num D x3),x4)))
noncomputable def kig(x1 x2 x3 x4:List Nat)(a5 a6 a7:Int):Option (ke1⊕kc1):=cond (decide (a6<a7)) ((u64P (wrap .u64 (Int.tdiv (wrap .u64 ((wrap .u64 (a6+a7))+1)) 2))).bind λy=>(need (∀x∈x2,x<D)).bind λF=>(need (∀x∈[y],x<D)).bind λG=>(need (List.length x2+List.length [y]<=8796093022208)).bind λH=>(need (∀x∈(digs D (num D x2*num D [y])),x<D)).bind λI=>(need (∀x∈x4,x<D)).bind λK=>(need (Trim (digs D (num D x2*num D [y])))).bind λQ=>(need (Trim x4)).bind λU=>cond (decide ((cmp (num D (digs D (num D x2*num D [y]))) (num D x4))<=0)) (some (.inl (.p9 x1 x2 x3 x4 a5 (wrap .u64 (Int.tdiv (wrap .u64 ((wrap .u64 (a6+a7))+1)) 2)) a7))) (some (.inl (.p9 x1 x2 x3 x4 a5 a6 (wrap .u64 ((wrap .u64 (Int.tdiv (wrap .u64 ((wrap .u64 (a6+a7))+1)) 2))-1)))))) ((inI (List.length x3) a5).bind λj9=>(u64P a6).bind λy=>(u64P a6).bind λz=>(need (∀x∈x2,x<D)).bind λV=>(need (∀x∈[z],x<D)).bind λW=>(need (List.length x2+List.length [z]<=8796093022208)).bind λZ=>(need (∀x∈x4,x<D)).bind λaa=>(need (∀x∈(digs D (num D x2*num D [z])),x<D)).bind λab=>(need (List.length x4<=1073741824)).bind λac=>(need (List.length (digs D (num D x2*num D [z]))<=List.length x4)).bind λad=>(need (num D (digs D (num D x2*num D [z]))<=num D x4)).bind λae=>some (.inl (.p4 x1 x2 (List.set x3 j9 y) (digs D (num D x4-num D (digs D (num D x2*num D [z])))) (wrap .i64 (a5-1)))))
noncomputable def kk3:ke1->Option (ke1⊕kc1)
 | .fn x1 x2=>knd x1 x2
 | .p4 x1 x2 x3 x4 a5=>kiv x1 x2 x3 x4 a5
 | .p9 x1 x2 x3 x4 a5 a6 a7=>kig x1 x2 x3 x4 a5 a6 a7
@[reducible] def ku1(h0:AH)(r:kc1)(v:AV)(h':AH):Prop:=∃s1:Sl,∃s2:Sl,v=.tup [s1.v,s2.v]/\Nats h' s1 r.1/\Nats h' s2 r.2/\Grow h0 h'/\Own h0 s1/\Own h0 s2
def kiu(r:kc1):ke1->Prop
 | .fn x1 x2=>∀{h:AH}{a1:Sl}{a2:Sl},Nats h a1 x1->Nats h a2 x2->Runs (go (.fn kdj [a1.v,a2.v]) h) (ku1 h r)
 | .p4 x1 x2 x3 x4 a5=>∀{h0 h:AH}{a1:Sl}{a2:Sl}{a3:Sl}{a4:Sl}{i3:Nat},Grow h0 h->Nats h a1 x1->Nats h a2 x2->Vec h a3 i3 x3->Nats h a4 x4->h0.blks.size<=i3->Av a1 i3 x1->Av a2 i3 x2->Av a4 i3 x4->Own h0 a4->Runs (go (.pt kdj ko5 [(0,a1.v),(1,a2.v),(6,a3.v),(7,a4.v),(8,.i a5)]) h) (ku1 h0 r)
 | .p9 x1 x2 x3 x4 a5 a6 a7=>∀{h0 h:AH}{a1:Sl}{a2:Sl}{a3:Sl}{a4:Sl}{i3:Nat},Grow h0 h->Nats h a1 x1->Nats h a2 x2->Vec h a3 i3 x3->Nats h a4 x4->h0.blks.size<=i3->Av a1 i3 x1->Av a2 i3 x2->Av a4 i3 x4->Own h0 a4->Runs (go (.pt kdj kni [(0,a1.v),(1,a2.v),(6,a3.v),(7,a4.v),(8,.i a5),(9,.int .u64 a6),(10,.int .u64 a7)]) h) (ku1 h0 r)
theorem kbqc{r:kc1}{o:ke1⊕kc1}{x1 x2:List Nat}(e:knd x1 x2=some o)(y:GoodS (kiu r) r o):kiu r (.fn x1 x2):=by intro h a1 a2 n1 n2;rw[kbo6];unfold knd at e;rw[n1.len];obtain⟨H,F,e⟩:=qbw.1 e;refine Runs.mk F kcz λs3 I G z=>?_;cases e;exact y z (n1.grow z) (n2.grow z) G (qu _) (qbr _) (qbh n1 (qbr _)) (qbh n2 (qbr _)) (Av.nil _ _) (qr _)
theorem kbkn{r:kc1}{o:ke1⊕kc1}{x1 x2 x3 x4:List Nat}{a5:Int}(e:kiv x1 x2 x3 x4 a5=some o)(y:GoodS (kiu r) r o):kiu r (.p4 x1 x2 x3 x4 a5):=by
 intro h0 h a1 a2 a3 a4 i3 W n1 n2 U Z I z F aa ab;rw[kbof];unfold kiv at e;rw[n1.len];refine qbc (λk6=>?_) (λk6=>?_)
 ·replace e:=(condT k6).symm.trans e;obtain⟨y7,q7,e⟩:=qbw.1 e;obtain⟨r7,j7,l7⟩:=n1.atI q7;refine qy j7 (qy (rdc l7 qcr) ?_);refine qz λH8 b8 G=>?_;refine qy (k7s (Z.grow G)) ?_;obtain⟨ah,ac,e⟩:=qbw.1 e;obtain⟨c9,q9,e⟩:=qbw.1 e;obtain⟨s9,H9,e9,n9,V,o9⟩:=kbbq b8 ac (Z.grow G) G (qbr _) c9.down;refine qy e9 (qy qcq ?_);obtain⟨H,ad,e⟩:=qbw.1 e;obtain⟨ai,ae,af,K⟩:=kjn n9  H.down;refine qy ae (qy (seen qcq) ?_);cases e;exact y ((W.trans G).trans V) (n1.grow (G.trans V)) (n2.grow (G.trans V)) (U.grow (G.trans V)) af I z F (qbi (K _ o9) (U).inn) ((K _ o9).of_le W)
 ·replace e:=(condF k6).symm.trans e;obtain⟨Q,ag,e⟩:=qbw.1 e;obtain⟨s7,e7,n7,o7⟩:=kjn U.nats  Q.down;refine qy e7 (qy (seen qcq) ?_);cases e;cases y;exact qx ⟨s7,a4,rfl,n7,Z,W,((o7 _ (U.own I)).of_le (qk _)),(ab.of_le (qk _))⟩
theorem kbjg{r:kc1}{o:ke1⊕kc1}{x1 x2 x3 x4:List Nat}{a5 a6 a7:Int}(e:kig x1 x2 x3 x4 a5 a6 a7=some o)(K:GoodS (kiu r) r o):kiu r (.p9 x1 x2 x3 x4 a5 a6 a7):=by
 intro h0 h a1 a2 a3 a4 i3 g0 n1 n2 v3 n4 Q z F G au;rw[kbet];unfold kig at e;rw[v3.nats.len];refine qbc (λk8=>?_) (λk8=>?_)
 ·replace e:=(condT k8).symm.trans e;refine qz λH9 b9 I=>?_;obtain⟨ay,Z,e⟩:=qbw.1 e;obtain⟨aa,az,e⟩:=qbw.1 e;obtain⟨ab,a0,e⟩:=qbw.1 e;obtain⟨ac,ba,e⟩:=qbw.1 e;obtain⟨b7,bb,bc,bd,y,b8⟩:=k0g (n2.grow I) (qbk b9 Z)  aa.down ab.down ac.down;refine qy bc (qy (seen qcq) ?_);obtain⟨ad,be,e⟩:=qbw.1 e;obtain⟨ae,bf,e⟩:=qbw.1 e;obtain⟨af,bg,e⟩:=qbw.1 e;obtain⟨ag,bh,e⟩:=qbw.1 e;refine qy (kbcy bd (n4.grow (I.trans y))  ad.down ae.down af.down ag.down) (qy (seen qcr) ?_);refine qbc (λah=>?_) (λah=>?_)
  ·replace e:=(condT ah).symm.trans e;cases e;exact K ((g0.trans I).trans y) (n1.grow (I.trans y)) (n2.grow (I.trans y)) (v3.grow (I.trans y)) (n4.grow (I.trans y)) Q z F G (au.of_le (qk _))
  ·replace e:=(condF ah).symm.trans e;cases e;exact K ((g0.trans I).trans y) (n1.grow (I.trans y)) (n2.grow (I.trans y)) (v3.grow (I.trans y)) (n4.grow (I.trans y)) Q z F G (au.of_le (qk _))
 ·replace e:=(condF k8).symm.trans e;obtain⟨j9,q9,e⟩:=qbw.1 e;refine qy (v3.idx rfl q9) ?_;obtain⟨ay,Z,e⟩:=qbw.1 e;refine qbg v3 rfl q9 Z λca aw U=>?_;have ai:=n1.upda z U;have V:=n2.upda F U;have aj:=n4.upda G U;refine qz λbb bi y=>?_;obtain⟨cb,bj,e⟩:=qbw.1 e;obtain⟨ak,bk,e⟩:=qbw.1 e;obtain⟨al,bn,e⟩:=qbw.1 e;obtain⟨am,bq,e⟩:=qbw.1 e;obtain⟨cc,cd,br,bu,H,ce⟩:=k0g (V.grow y) (qbk bi bj)  ak.down al.down am.down;refine qy br (qy (seen qcq) ?_);obtain⟨an,bv,e⟩:=qbw.1 e;obtain⟨ao,bw,e⟩:=qbw.1 e;obtain⟨ap,bx,e⟩:=qbw.1 e;obtain⟨aq,bz,e⟩:=qbw.1 e;obtain⟨ar,b0,e⟩:=qbw.1 e;obtain⟨cf,ch,b5,b6,W,ax⟩:=kboi (aj.grow (y.trans H)) bu  an.down ao.down ap.down aq.down ar.down;refine qy b5 (qy (seen qcq) ?_);cases e;exact K ((((g0.updr Q U).trans y).trans H).trans W) (ai.grow ((y.trans H).trans W)) (V.grow ((y.trans H).trans W)) (aw.grow ((y.trans H).trans W)) b6 Q z F (qbi ax ((aw.grow (y.trans H))).inn) (ax.of_le (((g0.updr Q U).trans y).trans H))
theorem kbd5{s:ke1}{r:kc1}(z:Iter kk3 s r):kiu r s:=qbf (λs o e y=>by
 cases s with
 | fn x1 x2=>exact @kbqc _ _ x1 x2 e y
 | p4 x1 x2 x3 x4 a5=>exact @kbkn _ _ x1 x2 x3 x4 a5 e y
 | p9 x1 x2 x3 x4 a5 a6 a7=>exact @kbjg _ _ x1 x2 x3 x4 a5 a6 a7 e y
 ) z
def divN(xs ys:List Nat):List Nat×List Nat×Int:=if rt xs=true/\rt ys=true then(if ys=[]then([],[],3)else(digs B (num B xs/num B ys),digs B (num B xs%num B ys),0))else([],[],1)
theorem kwd{b:Nat}(hb:1<=b){xs:List Nat}(t:Trim xs)(h:xs≠[]):0<num b xs:=by
 rcases Nat.eq_zero_or_pos (num b xs)with e | e
 ·exact absurd (kn0 hb t e) h
 ·exact e
theorem cmp_lt{a b:Nat}:cmp a b<0↔a<b:=by
 unfold cmp;by_cases h:a<b
 ·rw[if_pos h];omega
 ·rw[if_neg h];by_cases h2:a=b
  ·rw[if_pos h2];omega
  ·rw[if_neg h2];omega
theorem cmp_le{a b:Nat}:cmp a b<=0↔a<=b:=by
 unfold cmp;by_cases h:a<b
 ·rw[if_pos h];omega
 ·rw[if_neg h];by_cases h2:a=b
  ·rw[if_pos h2];omega
  ·rw[if_neg h2];omega
theorem kbiz{xs ys:List Nat}(H:∀x∈xs,x<B)(I:∀x∈ys,x<B):Iter k06 (.fn xs ys) (divN xs ys):=by
 refine .done ?_;show knu _ _=_;unfold knu divN;cases W:rt xs with
 | false=>simp
 | true =>
  cases K:rt ys with
  | false=>simp
  | true =>
   obtain⟨z,Q⟩:=rt_iff.1 W;obtain⟨U,ty⟩:=rt_iff.1 K;simp only[Bool.and_self,Bool.not_true,cond_false,and_self,if_true];by_cases h0:ys=[]
   ·subst h0;rfl
   ·have Z:ys.length≠0:=by simpa using h0
    have hp:=kwd B1 ty h0;rw[if_neg h0,condF (by rw[qbx];omega),kp Q,qbv,kp ty,qbv];by_cases F:num B xs<num B ys
    ·rw[condT (by rw[qby,cmp_lt];exact F),kp (by omega),qbv,Nat.div_eq_of_lt F,Nat.mod_eq_of_lt F,kbo,kd3 B2 H Q]
    ·rw[condF (by rw[qbx,cmp_lt];exact F)];by_cases h1:ys.length=1
     ·obtain⟨y,rfl⟩:=List.length_eq_one_iff.1 h1;have K:y<18446744073709551616:=I y (by simp);have e:num B [y]=y:=by simp[num]
      rw[e]at hp|-;have hm:=Nat.mod_lt (num B xs) hp;have V:=kbv (xs:=[y]) (i:=0) (by simp);rw[show((0:Nat):Int)=0 from rfl]at V;rw[condT (by rw[qby];omega),V,qbv];rw[List.getElem_cons_zero,kp ⟨by omega,by omega,by omega⟩,qbv,Int.toNat_natCast,kbg (by omega),qbv]
     ·have G:=kzt H I ty (Nat.le_of_not_lt F);rw[condF (by rw[qbx];omega),qbv,kp (by omega),qbv,kp z,qbv,kp G,qbv]
theorem kgv{h:AH}{s t:Sl}{xs ys:List Nat}(n:Nats h s xs)(m:Nats h t ys):∃(a b:Sl)(h':AH),go (.fn kdx [s.v,t.v]) h=some (.tup [a.v,b.v,.i (divN xs ys).2.2],h')/\Nats h' a (divN xs ys).1/\Nats h' b (divN xs ys).2.1/\Grow h h'/\Own h a/\Own h b:=by obtain⟨_,h',e,a,b,rfl,k⟩:=kbml (kbiz n.lt m.lt) n m;exact⟨a,b,h',e,k⟩
theorem kvr{a c:Nat}(h:a<=c):(digs D a).length<=(digs D c).length:=by rw[kbc D2];exact qbu h ((kbc D2 c _).1 (qbr _))
theorem kbbi{xs ys q:List Nat}{R j:Nat}{res:kc1}(ly:∀y∈ys,y<D)(hl:ys.length<=536870912)(hy:0<num D ys)(hR:(digs D R).length<=1073741824)(hj:j<q.length)
  (K:Iter kk3 (.p4 xs ys (q.set j (R/num D ys)) (digs D (R%num D ys)) (wrap .i64 ((j:Int)-1))) res) :
  ∀(n low z:Nat),z-low=n->low<=R/num D ys->R/num D ys<=z->z<65536->Iter kk3 (.p9 xs ys q (digs D R) j low z) res:=by
 intro n
 induction n using Nat.strongRecOn with
 | ind n ih =>
  intro low z hn h1 h2 h3;have tR:=kej D2 R;have lR:=kbr D2 R;by_cases hc:low<z
  ·have hm:wrap .u64 (Int.tdiv (wrap .u64 ((wrap .u64 ((low:Int)+(z:Int)))+1)) 2)=(((low+z+1)/2:Nat):Int):=by
    rw[<- Int.natCast_add,kco (by omega),show(((low+z:Nat):Int)+1)=((low+z+1:Nat):Int)from by omega,kco (by omega)];rw[show Int.tdiv ((low+z+1:Nat):Int) 2=(((low+z+1)/2:Nat):Int)from rfl,kco (by omega)]
   obtain⟨F,H⟩:∃F,F=(low+z+1)/2:=⟨_,rfl⟩;have V:num D [F]=F:=by simp[num]
   have W:∀x∈[F],x<D:=by intro x Z;rw[List.mem_singleton.1 Z];exact show F<65536 by omega
   have I:∀o,cond (decide (num D ys*F<=R)) (some (Sum.inl (β:=kc1) (ke1.p9 xs ys q (digs D R) j F z))) (some (.inl (.p9 xs ys q (digs D R) j low (wrap .u64 ((F:Int)-1)))))=o->kk3 (.p9 xs ys q (digs D R) j low z)=o:=by intro o ho;show kig _ _ _ _ _ _ _=_;unfold kig;rw[condT (by rw[qby];omega),hm,<- H,kbg (by omega),qbv,kp ly,qbv,kp W,qbv,kp (by simp;omega),qbv,kp (kbr D2 _),qbv,kp lR,qbv,kp (kej D2 _),qbv,kp tR,qbv,kg D2,kg D2,V];rw[<- ho];congr 1;rw[decide_eq_decide];exact cmp_le
   by_cases G:num D ys*F<=R
   ·have hq:F<=R/num D ys:=by rw[Nat.le_div_iff_mul_le hy,Nat.mul_comm];exact G
    refine .next (I _ ?_) (ih (z-F) (by omega) F z rfl hq h2 h3);rw[condT (by rw[qby];exact G)]
   ·have hq:R/num D ys<F:=by rw[Nat.div_lt_iff_lt_mul hy,Nat.mul_comm];omega
    refine .next (I _ ?_) (ih (F-1-low) (by omega) low (F-1) rfl h1 (by omega) (by omega));rw[condF (by rw[qbx];exact G),show wrap .u64 ((F:Int)-1)=((F-1:Nat):Int)from by rw[wrapU];omega]
  ·have hq:R/num D ys=low:=by omega
   rw[hq]at K;have V:num D [low]=low:=by simp[num]
   have W:∀x∈[low],x<D:=by intro x Z;rw[List.mem_singleton.1 Z];exact show low<65536 by omega
   have Q:num D ys*low<=R:=by rw[<- hq];exact Nat.mul_div_le R _
   have U:R-num D ys*low=R%num D ys:=by have:=Nat.div_add_mod R (num D ys);rw[hq]at this;omega
   refine .next ?_ K;show kig _ _ _ _ _ _ _=_;unfold kig;rw[condF (by rw[qbx];omega),kba hj,qbv,kbg (by omega),qbv,qbv,kp ly,qbv,kp W,qbv,kp (by simp;omega),qbv,kp lR,qbv,kp (kbr D2 _),qbv,kp hR,qbv,V,kg D2,kg D2,kp (kvr Q),qbv,kp Q,qbv,U]
theorem k5i{xs ys:List Nat}(W:∀x∈xs,x<D)(K:∀y∈ys,y<D)(Z:ys.length<=536870912)(Q:xs.length<=536870912)(G:0<num D ys) :
  ∀(i:Nat)(q:List Nat)(r:Nat),i<=xs.length->q.length=xs.length->(∀x∈q,x<D)->r<num D ys->num D (xs.drop i)=num D ys*num D (q.drop i)+r->
   Iter kk3 (.p4 xs ys q (digs D r) ((i:Int)-1)) (digs D (num D xs/num D ys),digs D (num D xs%num D ys))
 | 0,q,r,hi,lq,tq,F,e=>by
  rw[List.drop_zero,List.drop_zero]at e;refine .done ?_;show kiv _ _ _ _ _=_;unfold kiv;rw[condF (by rw[qbx];omega),kp tq,qbv,e,Nat.mul_add_div G,Nat.div_eq_of_lt F,Nat.add_zero,Nat.mul_add_mod,Nat.mod_eq_of_lt F]
 | j+1,q,r,hi,lq,tq,F,e=>by
  have hj:j<xs.length:=by omega
  have H:j<q.length:=by omega
  have U:xs[j]<65536:=W _ (qb5 _)
  have hR:(xs[j]+D*r)/num D ys<D:=by rw[Nat.div_lt_iff_lt_mul G];have:D*(r+1)<=D*num D ys:=Nat.mul_le_mul_left _ F;rw[Nat.mul_add,Nat.mul_one]at this;have h2:xs[j]<D:=U;omega
  have lr:(digs D r).length<=ys.length:=by rw[kbc D2];exact Nat.lt_trans F (num_lt (by decide) K)
  have lR:(digs D (xs[j]+D*r)).length<=1073741824:=by
   have:(digs D (xs[j]+D*r)).length<=ys.length+1:=by rw[kbc D2,Nat.pow_succ];have h1:D*(r+1)<=D*D^ys.length:=Nat.mul_le_mul_left _ (Nat.lt_trans F (num_lt (by decide) K));rw[Nat.mul_add,Nat.mul_one,Nat.mul_comm D (D^ys.length)]at h1;have h2:xs[j]<D:=U;omega
   omega
  have z:∀x∈xs[j]::digs D r,x<D:=by
   intro x V;rcases qb8.1 V with rfl | h
   ·exact U
   ·exact kbr D2 r x h
  have I:=Nat.mod_lt (xs[j]+D*r) G
  have IH:=k5i W K Z Q G j (q.set j ((xs[j]+D*r)/num D ys)) ((xs[j]+D*r)%num D ys) (by omega) (by simpa using lq) (set_lt tq hR) I (by rw[kxa H,qcj hj];simp only[num];have dm:=Nat.div_add_mod (xs[j]+D*r) (num D ys);rw[e,Nat.mul_add D,Nat.mul_add (num D ys),Nat.mul_left_comm D];omega)
  refine .next (s':=.p9 xs ys q (digs D (xs[j]+D*r)) (j:Int) ((0:Nat):Int) ((65535:Nat):Int)) ?_ (kbbi K Z G lR H (by rw[wrap64 (by omega) (by omega)];exact IH) _ 0 65535 rfl (Nat.zero_le _) (by have:(xs[j]+D*r)/num D ys<65536:=hR;omega) (by omega));show kiv _ _ _ _ _=_;unfold kiv;rw[condT (by rw[qby];omega),show((j+1:Nat):Int)-1=(j:Int)from by omega,kbv hj,qbv,kbg (by omega),qbv,kp (by omega),qbv,kp z,qbv];simp only[num,kg D2];rfl
theorem kbpg{xs ys:List Nat}(G:∀x∈xs,x<D)(H:∀y∈ys,y<D)(I:ys.length<=536870912)(z:xs.length<=536870912)(F:0<num D ys):Iter kk3 (.fn xs ys) (digs D (num D xs/num D ys),digs D (num D xs%num D ys)):=by have key:=k5i G H I z F xs.length (List.replicate xs.length 0) 0 (qbr _) (by simp) (λx K=>by rw[List.eq_of_mem_replicate K];decide) F (by simp[num]);rw[kbo]at key;refine .next ?_ key;show knd _ _=_;unfold knd;rw[kdt (by omega),qbv,wrap64 (by omega) (by omega)]
theorem kbn3{h:AH}{s t:Sl}{xs ys:List Nat}(n:Nats h s xs)(m:Nats h t ys)(F:∀x∈xs,x<D)(G:∀y∈ys,y<D)(z:xs.length<=536870912)(H:ys.length<=536870912)(I:0<num D ys) :
  ∃(a b:Sl)(h':AH),go (.fn kdj [s.v,t.v]) h=some (.tup [a.v,b.v],h')/\Nats h' a (digs D (num D xs/num D ys))/\Nats h' b (digs D (num D xs%num D ys))/\Grow h h'/\Own h a/\Own h b:=by
 obtain⟨_,h',e,a,b,rfl,k⟩:=kbd5 (kbpg F G H z I) n m;exact⟨a,b,h',e,k⟩
end Go.Ab
set_option maxRecDepth 10000
namespace Go.Ab
open Go.Proofs Go.Num
inductive kk2
 | fn (x1:List Nat) (x2:List Nat)
 | no
abbrev kib:=List Nat×List Nat×Int
noncomputable def kl4(x1 x2:List Nat):Option (kk2⊕kib):=cond (!(rt x1)) (some (.inr ([],[],1))) (cond (!(rt x2)) (some (.inr ([],[],1))) (cond (decide ((List.length x2:Int)=0)) (some (.inr ([],[],3))) ((need (List.length x1<=1073741824)).bind λZ=>(need (List.length x2<=1073741824)).bind λaa=>(need (∀x∈(digs D (num B x1)),x<D)).bind λy=>(need (∀x∈(digs D (num B x2)),x<D)).bind λz=>(need (List.length (digs D (num B x1))<=536870912)).bind λF=>(need (List.length (digs D (num B x2))<=536870912)).bind λG=>(need (0<num D (digs D (num B x2)))).bind λH=>(need (∀x∈(digs D (num D (digs D (num B x1))/num D (digs D (num B x2)))),x<D)).bind λI=>(need (Trim (digs D (num D (digs D (num B x1))/num D (digs D (num B x2)))))).bind λK=>(need (List.length (digs D (num D (digs D (num B x1))/num D (digs D (num B x2))))<=536870912)).bind λQ=>(need (∀x∈(digs D (num D (digs D (num B x1))%num D (digs D (num B x2)))),x<D)).bind λU=>(need (Trim (digs D (num D (digs D (num B x1))%num D (digs D (num B x2)))))).bind λV=>(need (List.length (digs D (num D (digs D (num B x1))%num D (digs D (num B x2))))<=536870912)).bind λW=>some (.inr (digs B (num D (digs D (num D (digs D (num B x1))/num D (digs D (num B x2))))),digs B (num D (digs D (num D (digs D (num B x1))%num D (digs D (num B x2))))),0)))))
noncomputable def k5w:kk2->Option (kk2⊕kib)
 | .fn x1 x2=>kl4 x1 x2
 | .no=>none
@[reducible] def kbe7(h0:AH)(r:kib)(v:AV)(h':AH):Prop:=∃s1:Sl,∃s2:Sl,v=.tup [s1.v,s2.v,.i r.2.2]/\Nats h' s1 r.1/\Nats h' s2 r.2.1/\Grow h0 h'/\Own h0 s1/\Own h0 s2
def kte(r:kib):kk2->Prop
 | .fn x1 x2=>∀{h:AH}{a1:Sl}{a2:Sl},Nats h a1 x1->Nats h a2 x2->Runs (go (.fn krl [a1.v,a2.v]) h) (kbe7 h r)
 | .no=>True
theorem kbej{r:kib}{o:kk2⊕kib}{x1 x2:List Nat}(e:kl4 x1 x2=some o)(y:GoodS (kte r) r o):kte r (.fn x1 x2):=by
 intro h a1 a2 n1 n2;rw[kbgp];unfold kl4 at e;rw[n2.len];refine qy (kq3 n1) (qy (seen rfl) (qy (kq3 n2) (qy (seen rfl) ?_)));refine qbc (λk5=>?_) (λk5=>?_)
 ·replace e:=(condT k5).symm.trans e;cases e;cases y;exact qx ⟨(⟨none,0,.is 0⟩:Sl),(⟨none,0,.is 0⟩:Sl),rfl,(qu _),(qu _),(qk _),(qr _),(qr _)⟩
 ·replace e:=(condF k5).symm.trans e;refine qbc (λk6=>?_) (λk6=>?_)
  ·replace e:=(condT k6).symm.trans e;cases e;cases y;exact qx ⟨(⟨none,0,.is 0⟩:Sl),(⟨none,0,.is 0⟩:Sl),rfl,(qu _),(qu _),(qk _),(qr _),(qr _)⟩
  ·replace e:=(condF k6).symm.trans e;refine qbc (λk7=>?_) (λk7=>?_)
   ·replace e:=(condT k7).symm.trans e;cases e;cases y;exact qx ⟨(⟨none,0,.is 0⟩:Sl),(⟨none,0,.is 0⟩:Sl),rfl,(qu _),(qu _),(qk _),(qr _),(qr _)⟩
   ·replace e:=(condF k7).symm.trans e;obtain⟨ac,bd,e⟩:=qbw.1 e;obtain⟨s8,H8,e8,n8,g8,o8⟩:=kq6 n1  ac.down;refine qy e8 (qy (seen qcq) ?_);obtain⟨ad,be,e⟩:=qbw.1 e;obtain⟨s9,H9,e9,n9,g9,o9⟩:=kq6 (n2.grow g8)  ad.down;refine qy e9 (qy (seen qcq) ?_);obtain⟨z,ag,e⟩:=qbw.1 e;obtain⟨F,ah,e⟩:=qbw.1 e;obtain⟨G,ai,e⟩:=qbw.1 e;obtain⟨H,aj,e⟩:=qbw.1 e;obtain⟨I,ak,e⟩:=qbw.1 e;obtain⟨bh,bf,bi,al,am,ae,K,bj,bg⟩:=kbn3 (n8.grow g9) n9  z.down F.down G.down H.down I.down;refine qy al (qy rfl (qy (seen qcq) (qy (seen qcq) ?_)));obtain⟨Q,an,e⟩:=qbw.1 e;obtain⟨U,ao,e⟩:=qbw.1 e;obtain⟨V,ap,e⟩:=qbw.1 e;obtain⟨aq,bk,ar,au,W,aw⟩:=ksg am  Q.down U.down V.down;refine qy ar (qy rfl (qy (seen qcq) (qy (seen rfl) ?_)));obtain⟨Z,ax,e⟩:=qbw.1 e;obtain⟨aa,ay,e⟩:=qbw.1 e;obtain⟨ab,az,e⟩:=qbw.1 e;obtain⟨a0,bn,ba,bb,af,bc⟩:=ksg (ae.grow W)  Z.down aa.down ab.down;refine qy ba (qy rfl (qy (seen qcq) (qy (seen rfl) ?_)));cases e;cases y;exact qx ⟨aq,a0,rfl,(au.grow af),bb,((((g8.trans g9).trans K).trans W).trans af),(aw.of_le ((g8.trans g9).trans K)),(bc.of_le (((g8.trans g9).trans K).trans W))⟩
theorem k8a{s:kk2}{r:kib}(z:Iter k5w s r):kte r s:=qbf (λs o e y=>by
 cases s with
 | fn x1 x2=>exact @kbej _ _ x1 x2 e y
 | no=>exact True.intro
 ) z
theorem kbdj{xs ys:List Nat}(F:∀x∈xs,x<B)(G:∀x∈ys,x<B):Iter k5w (.fn xs ys) (divN xs ys):=by
 refine .done ?_;show kl4 _ _=_;unfold kl4 divN;cases H:rt xs with
 | false=>simp
 | true =>
  cases I:rt ys with
  | false=>simp
  | true =>
   obtain⟨y,K⟩:=rt_iff.1 H;obtain⟨z,ty⟩:=rt_iff.1 I;simp only[Bool.not_true,cond_false,and_self,if_true];by_cases h0:ys=[]
   ·subst h0;rfl
   ·have Q:ys.length≠0:=by simpa using h0
    have hp:=kwd B1 ty h0;have U:=kn4 F y;have V:=kn4 G z;have W:=kvr (Nat.div_le_self (num B xs) (num B ys));have Z:=kvr (Nat.mod_le (num B xs) (num B ys));rw[if_neg h0,condF (by rw[qbx];omega),kp (by omega),qbv,kp (by omega),qbv,kp (kbr D2 _),qbv,kp (kbr D2 _),qbv,kp (by omega),qbv,kp (by omega),qbv];rw[kp (by rw[kg D2];exact hp),qbv,kp (kbr D2 _),qbv,kp (kej D2 _),qbv,kp (by simp only[kg D2];omega),qbv,kp (kbr D2 _),qbv,kp (kej D2 _),qbv,kp (by simp only[kg D2];omega),qbv];simp only[kg D2]
theorem kbiv{h:AH}{s t:Sl}{xs ys:List Nat}(n:Nats h s xs)(m:Nats h t ys):∃(a b:Sl)(h':AH),go (.fn krl [s.v,t.v]) h=some (.tup [a.v,b.v,.i (divN xs ys).2.2],h')/\Nats h' a (divN xs ys).1/\Nats h' b (divN xs ys).2.1/\Grow h h'/\Own h a/\Own h b:=by obtain⟨_,h',e,a,b,rfl,k⟩:=k8a (kbdj n.lt m.lt) n m;exact⟨a,b,h',e,k⟩
theorem kbik{h:AH}{s t:Sl}{xs ys:List Nat}(n:Nats h s xs)(m:Nats h t ys):∃(b:Sl)(h':AH),go (.fn kub [s.v,t.v]) h=some (b.v,h')/\Nats h' b (divN xs ys).2.1/\Grow h h'/\Own h b:=by obtain⟨a,b,h',e,z,nb,g,F,y⟩:=kbiv n m;refine⟨b,h',?_,nb,g,y⟩;rw[kbjz,e];simp only[qbv,kbiu,asSl_v,kc]
inductive kha
 | fn (x1:List Nat) (x2:List Nat)
 | p4 (x1:List Nat) (x2:List Nat)
abbrev kfh:=List Nat×Int
noncomputable def kf5(x1 x2:List Nat):Option (kha⊕kfh):=cond (!(rt x1)) (some (.inr ([],1))) (cond (!(rt x2)) (some (.inr ([],1))) ((need (List.length x1<=8796093022208)).bind λy=>(need (List.length x2<=8796093022208)).bind λz=>some (.inl (.p4 x1 x2))))
noncomputable def kjd(x1 x2:List Nat):Option (kha⊕kfh):=cond (decide ((List.length x2:Int)>0)) (some (.inl (.p4 x2 ((divN x1 x2).2.1)))) (some (.inr (x1,0)))
noncomputable def kv6:kha->Option (kha⊕kfh)
 | .fn x1 x2=>kf5 x1 x2
 | .p4 x1 x2=>kjd x1 x2
@[reducible] def kwi(h0:AH)(r:kfh)(v:AV)(h':AH):Prop:=∃s1:Sl,v=.tup [s1.v,.i r.2]/\Nats h' s1 r.1/\Grow h0 h'/\Own h0 s1
def kl8(r:kfh):kha->Prop
 | .fn x1 x2=>∀{h:AH}{a1:Sl}{a2:Sl},Nats h a1 x1->Nats h a2 x2->Runs (go (.fn kf9 [a1.v,a2.v]) h) (kwi h r)
 | .p4 x1 x2=>∀{h0 h:AH}{a1:Sl}{a2:Sl},Grow h0 h->Nats h a1 x1->Nats h a2 x2->Own h0 a1->Own h0 a2->Runs (go (.pt kf9 kou [(0,a1.v),(1,a2.v)]) h) (kwi h0 r)
theorem kbju{r:kfh}{o:kha⊕kfh}{x1 x2:List Nat}(e:kf5 x1 x2=some o)(y:GoodS (kl8 r) r o):kl8 r (.fn x1 x2):=by
 intro h a1 a2 n1 n2;rw[kbky];unfold kf5 at e;refine qy (kcf n1) (qy (seen rfl) ?_);refine qbc (λG=>?_) (λG=>?_)
 ·replace e:=(condT G).symm.trans e;cases e;cases y;exact qx ⟨(⟨none,0,.is 0⟩:Sl),rfl,(qu _),(qk _),(qr _)⟩
 ·replace e:=(condF G).symm.trans e;refine qy (kcf n2) (qy (seen rfl) ?_);refine qbc (λH=>?_) (λH=>?_)
  ·replace e:=(condT H).symm.trans e;cases e;cases y;exact qx ⟨(⟨none,0,.is 0⟩:Sl),rfl,(qu _),(qk _),(qr _)⟩
  ·replace e:=(condF H).symm.trans e;obtain⟨z,K,e⟩:=qbw.1 e;obtain⟨s7,H7,V,W,I,Z⟩:=khs n1  z.down;refine qy V (qy (seen qcq) ?_);obtain⟨F,Q,e⟩:=qbw.1 e;obtain⟨s8,H8,e8,n8,U,o8⟩:=khs (n2.grow I)  F.down;refine qy e8 (qy (seen qcq) ?_);cases e;exact y (I.trans U) (W.grow U) n8 (Z.of_le (qk _)) (o8.of_le I)
theorem k97{r:kfh}{o:kha⊕kfh}{x1 x2:List Nat}(e:kjd x1 x2=some o)(y:GoodS (kl8 r) r o):kl8 r (.p4 x1 x2):=by
 intro h0 h a1 a2 z n1 n2 F G;rw[kbog];unfold kjd at e;rw[n2.len];refine qbc (λH=>?_) (λH=>?_)
 ·replace e:=(condT H).symm.trans e;obtain⟨W,U,Z,V,n4,I,Q,o4,K⟩:=kgv n1 n2;refine qy V (qy rfl (qy (seen qcq) (qy (seen qcq) (qy (seen qcr) ?_))));cases e;exact y (z.trans Q) (n2.grow Q) I (G.of_le (qk _)) (K.of_le z)
 ·replace e:=(condF H).symm.trans e;cases e;cases y;exact qx ⟨a1,rfl,n1,z,(F.of_le (qk _))⟩
theorem kbf6{s:kha}{r:kfh}(z:Iter kv6 s r):kl8 r s:=qbf (λs o e y=>by
 cases s with
 | fn x1 x2=>exact @kbju _ _ x1 x2 e y
 | p4 x1 x2=>exact @k97 _ _ x1 x2 e y
 ) z
inductive kjq
 | fn (a1:Bool) (x2:List Nat) (a3:Bool) (x4:List Nat)
 | no
abbrev kid:=Bool×List Nat×Bool×List Nat×Int
noncomputable def kmn(a1:Bool)(x2:List Nat)(a3:Bool)(x4:List Nat):Option (kjq⊕kid):=cond (!((rtI a1 x2&&rtI a3 x4))) (some (.inr (false,[],false,[],1))) (cond (decide ((List.length x4:Int)=0)) (some (.inr (false,[],false,[],3))) (cond (a3) (some (.inr (false,[],false,[],1))) (cond (a1) (cond (decide ((List.length ((divN x2 x4).2.1):Int)>0)) ((u64P 1).bind λp17=>cond (!decide (((addN ((divN x2 x4).1) (digs B p17)).2)=0)) (some (.inr (false,[],false,[],((addN ((divN x2 x4).1) (digs B p17)).2)))) (some (.inr ((((fromI a1 ((addN ((divN x2 x4).1) (digs B p17)).1)).1)),(fromI a1 ((addN ((divN x2 x4).1) (digs B p17)).1)).2,(((fromI false ((subN x4 ((divN x2 x4).2.1)).1)).1)),(fromI false ((subN x4 ((divN x2 x4).2.1)).1)).2,0)))) (some (.inr ((((fromI a1 ((divN x2 x4).1)).1)),(fromI a1 ((divN x2 x4).1)).2,(((fromI false ((divN x2 x4).2.1)).1)),(fromI false ((divN x2 x4).2.1)).2,0)))) (some (.inr ((((fromI a1 ((divN x2 x4).1)).1)),(fromI a1 ((divN x2 x4).1)).2,(((fromI false ((divN x2 x4).2.1)).1)),(fromI false ((divN x2 x4).2.1)).2,0))))))
noncomputable def k1c:kjq->Option (kjq⊕kid)
 | .fn a1 x2 a3 x4=>kmn a1 x2 a3 x4
 | .no=>none
@[reducible] def k3i(h0:AH)(r:kid)(v:AV)(h':AH):Prop:=∃s1:Sl,∃s2:Sl,v=.tup [.agg [.bool r.1,s1.v],.agg [.bool r.2.2.1,s2.v],.i r.2.2.2.2]/\Nats h' s1 r.2.1/\Nats h' s2 r.2.2.2.1/\Grow h0 h'/\Own h0 s1/\Own h0 s2
def kuy(r:kid):kjq->Prop
 | .fn a1 x2 a3 x4=>∀{h:AH}{a2:Sl}{a4:Sl},Nats h a2 x2->Nats h a4 x4->Runs (go (.fn kmh [.agg [.bool a1,a2.v],.agg [.bool a3,a4.v]]) h) (k3i h r)
 | .no=>True
theorem kbeg{r:kid}{o:kjq⊕kid}{a1:Bool}{x2:List Nat}{a3:Bool}{x4:List Nat}(e:kmn a1 x2 a3 x4=some o)(ag:GoodS (kuy r) r o):kuy r (.fn a1 x2 a3 x4):=by
 intro h a2 a4 n2 n4;rw[kbn1];unfold kmn at e;refine qz λH5 b5 V=>?_;refine qz λH6 b6 Q=>?_;refine qz λH7 K U=>?_;refine qz λH8 W I=>?_;refine qy (qbe (((Q.trans U).trans I).has b5) 0 rfl rfl) (qy (qbe (((Q.trans U).trans I).has b5) 1 rfl qcq) (qy (qbe ((U.trans I).has b6) 0 rfl rfl) (qy (qbe ((U.trans I).has b6) 1 rfl qcq) ?_)));refine qz λH9 b9 G=>?_;obtain⟨el,dy,y⟩:=koy b9 (n2.grow ((((V.trans Q).trans U).trans I).trans G)) (n4.grow ((((V.trans Q).trans U).trans I).trans G));refine qy dy (qy (seen rfl) ?_);refine qbc (λcq=>?_) (λcq=>?_)
 ·replace e:=(condT cq).symm.trans e;refine q0 (((I.trans G).trans y).has K) rfl λem dz cr=>?_;have ct:=qw ((G.trans y).has W) (Nat.ne_of_gt (qbt (K).lt (qbr _))) cr;have cu:=qw (y.has b9) (Nat.ne_of_gt (qbt (I.has K).lt (qbr _))) cr;refine q0 ct rfl λd0 b13 au=>?_;have ba:=qw dz (Nat.ne_of_lt (qbt (K).lt (qbr _))) au;have bj:=qw cu (Nat.ne_of_gt (qbt (W).lt (qbr _))) au;refine qy (qbe ba 0 rfl rfl) (qy (qbe ba 1 rfl qcq) (qy (qbe b13 0 rfl rfl) (qy (qbe b13 1 rfl qcq) ?_)));cases e;cases ag;exact qx ⟨(⟨none,0,.is 0⟩:Sl),(⟨none,0,.is 0⟩:Sl),rfl,(qu _),(qu _),(((((((V.trans Q).trans U).trans I).trans G).trans y).updr (qbs ((V.trans Q)).size (qbr _)) cr).updr (qbs (((V.trans Q).trans U)).size (qbr _)) au),(qr _),(qr _)⟩
 ·replace e:=(condF cq).symm.trans e;refine qy (qbe ((((U.trans I).trans G).trans y).has b6) 1 rfl qcq) ?_;rw[(n4.grow (((((V.trans Q).trans U).trans I).trans G).trans y)).len];refine qbc (λcv=>?_) (λcv=>?_)
  ·replace e:=(condT cv).symm.trans e;refine q0 (((I.trans G).trans y).has K) rfl λd0 b13 au=>?_;have cw:=qw ((G.trans y).has W) (Nat.ne_of_gt (qbt (K).lt (qbr _))) au;have bj:=qw (y.has b9) (Nat.ne_of_gt (qbt (I.has K).lt (qbr _))) au;refine q0 cw rfl λdd bx aw=>?_;have bb:=qw b13 (Nat.ne_of_lt (qbt (K).lt (qbr _))) aw;have bk:=qw bj (Nat.ne_of_gt (qbt (W).lt (qbr _))) aw;refine qy (qbe bb 0 rfl rfl) (qy (qbe bb 1 rfl qcq) (qy (qbe bx 0 rfl rfl) (qy (qbe bx 1 rfl qcq) ?_)));cases e;cases ag;exact qx ⟨(⟨none,0,.is 0⟩:Sl),(⟨none,0,.is 0⟩:Sl),rfl,(qu _),(qu _),(((((((V.trans Q).trans U).trans I).trans G).trans y).updr (qbs ((V.trans Q)).size (qbr _)) au).updr (qbs (((V.trans Q).trans U)).size (qbr _)) aw),(qr _),(qr _)⟩
  ·replace e:=(condF cv).symm.trans e;refine qy (qbe ((((U.trans I).trans G).trans y).has b6) 0 rfl rfl) ?_;refine qbc (λcx=>?_) (λcx=>?_)
   ·replace e:=(condT cx).symm.trans e;refine q0 (((I.trans G).trans y).has K) rfl λdd bx aw=>?_;have cy:=qw ((G.trans y).has W) (Nat.ne_of_gt (qbt (K).lt (qbr _))) aw;have bk:=qw (y.has b9) (Nat.ne_of_gt (qbt (I.has K).lt (qbr _))) aw;refine q0 cy rfl λen de cz=>?_;have bc:=qw bx (Nat.ne_of_lt (qbt (K).lt (qbr _))) cz;have d1:=qw bk (Nat.ne_of_gt (qbt (W).lt (qbr _))) cz;refine qy (qbe bc 0 rfl rfl) (qy (qbe bc 1 rfl qcq) (qy (qbe de 0 rfl rfl) (qy (qbe de 1 rfl qcq) ?_)));cases e;cases ag;exact qx ⟨(⟨none,0,.is 0⟩:Sl),(⟨none,0,.is 0⟩:Sl),rfl,(qu _),(qu _),(((((((V.trans Q).trans U).trans I).trans G).trans y).updr (qbs ((V.trans Q)).size (qbr _)) aw).updr (qbs (((V.trans Q).trans U)).size (qbr _)) cz),(qr _),(qr _)⟩
   ·replace e:=(condF cx).symm.trans e;refine qy (qbe (((((Q.trans U).trans I).trans G).trans y).has b5) 1 rfl qcq) (qy (qbe ((((U.trans I).trans G).trans y).has b6) 1 rfl qcq) ?_);obtain⟨eo,ek,dd,d2,ax,ad,z,ao,ae⟩:=kgv (n2.grow (((((V.trans Q).trans U).trans I).trans G).trans y)) (n4.grow (((((V.trans Q).trans U).trans I).trans G).trans y));refine qy d2 (qy rfl (qy (seen qcq) (qy (seen qcq) ?_)));rw[ad.len];refine qy (seen qcr) (qy (qbe ((((((Q.trans U).trans I).trans G).trans y).trans z).has b5) 0 rfl rfl) ?_);refine qbc (λc0=>?_) (λc0=>?_)
    ·replace e:=(condT c0).symm.trans e;refine qbc (λc1=>?_) (λc1=>?_)
     ·replace e:=(condT c1).symm.trans e;obtain⟨p17,d3,e⟩:=qbw.1 e;obtain⟨bz,df,bn,ay,F,af⟩:=ktf d3;refine qy bn (qy (seen qcq) ?_);obtain⟨dg,dh,c2,bq,H,ap⟩:=kqi (ax.grow F) ay;refine qy c2 (qy rfl (qy (seen qcq) (qy (seen qcr) ?_)));refine qbc (λc3=>?_) (λc3=>?_)
      ·replace e:=(condT c3).symm.trans e;refine q0 ((((((I.trans G).trans y).trans z).trans F).trans H).has K) rfl λdi b0 aa=>?_;have bd:=(ax.grow (F.trans H)).upda (qbi ao (((I.trans G).trans y).has K).lt) aa;have aq:=(ad.grow (F.trans H)).upda (qbi ae (((I.trans G).trans y).has K).lt) aa;have al:=(ay.grow H).upda (qbi af ((((I.trans G).trans y).trans z).has K).lt) aa;have am:=bq.upda (qbi ap (((((I.trans G).trans y).trans z).trans F).has K).lt) aa;have c4:=qw (((((G.trans y).trans z).trans F).trans H).has W) (Nat.ne_of_gt (qbt (K).lt (qbr _))) aa;have br:=qw ((((y.trans z).trans F).trans H).has b9) (Nat.ne_of_gt (qbt (I.has K).lt (qbr _))) aa;refine q0 c4 rfl λd4 dj az=>?_;have dq:=bd.upda (qbi ao ((G.trans y).has W).lt) az;have dk:=aq.upda (qbi ae ((G.trans y).has W).lt) az;have dr:=al.upda (qbi af (((G.trans y).trans z).has W).lt) az;have dt:=am.upda (qbi ap ((((G.trans y).trans z).trans F).has W).lt) az;have be:=qw b0 (Nat.ne_of_lt (qbt (K).lt (qbr _))) az;have d5:=qw br (Nat.ne_of_gt (qbt (W).lt (qbr _))) az;refine qy (qbe be 0 rfl rfl) (qy (qbe be 1 rfl qcq) (qy (qbe dj 0 rfl rfl) (qy (qbe dj 1 rfl qcq) ?_)));cases e;cases ag;exact qx ⟨(⟨none,0,.is 0⟩:Sl),(⟨none,0,.is 0⟩:Sl),rfl,(qu _),(qu _),((((((((((V.trans Q).trans U).trans I).trans G).trans y).trans z).trans F).trans H).updr (qbs ((V.trans Q)).size (qbr _)) aa).updr (qbs (((V.trans Q).trans U)).size (qbr _)) az),(qr _),(qr _)⟩
      ·replace e:=(condF c3).symm.trans e;refine qy (qbe (((((((U.trans I).trans G).trans y).trans z).trans F).trans H).has b6) 1 rfl qcq) ?_;obtain⟨ep,di,d6,dl,Z,dm⟩:=kjw (n4.grow ((((((((V.trans Q).trans U).trans I).trans G).trans y).trans z).trans F).trans H)) (ad.grow (F.trans H));refine qy d6 (qy rfl (qy (seen qcq) (qy (seen qcr) (qy (qbe (((((((((Q.trans U).trans I).trans G).trans y).trans z).trans F).trans H).trans Z).has b5) 0 rfl rfl) ?_))));obtain⟨d7,d4,d8,d9,ac,c5⟩:=kcb (bq.grow Z) a1;refine qy d8 (qy rfl ?_);refine qba rfl ?_;refine qy (seenAt rfl rfl) (qy (seenAt rfl qcq) ?_);obtain⟨ea,er,eb,ec,ah,c6⟩:=kcb (dl.grow ac) false;refine qy eb (qy rfl ?_);refine qba rfl ?_;refine qy (seenAt rfl rfl) (qy (seenAt rfl qcq) ?_);refine q0 (((((((((I.trans G).trans y).trans z).trans F).trans H).trans Z).trans ac).trans ah).has K) rfl λet ed ai=>?_;have ca:=(ax.grow ((((F.trans H).trans Z).trans ac).trans ah)).upda (qbi ao (((I.trans G).trans y).has K).lt) ai;have bu:=(ad.grow ((((F.trans H).trans Z).trans ac).trans ah)).upda (qbi ae (((I.trans G).trans y).has K).lt) ai;have cb:=(ay.grow (((H.trans Z).trans ac).trans ah)).upda (qbi af ((((I.trans G).trans y).trans z).has K).lt) ai;have cc:=(bq.grow ((Z.trans ac).trans ah)).upda (qbi ap (((((I.trans G).trans y).trans z).trans F).has K).lt) ai;have cd:=(dl.grow (ac.trans ah)).upda (qbi dm ((((((I.trans G).trans y).trans z).trans F).trans H).has K).lt) ai;have ce:=(d9.grow ah).upda (qbi c5 (((((((I.trans G).trans y).trans z).trans F).trans H).trans Z).has K).lt) ai;have cf:=ec.upda (qbi c6 ((((((((I.trans G).trans y).trans z).trans F).trans H).trans Z).trans ac).has K).lt) ai;have c7:=qw ((((((((G.trans y).trans z).trans F).trans H).trans Z).trans ac).trans ah).has W) (Nat.ne_of_gt (qbt (K).lt (qbr _))) ai;have c8:=qw (((((((y.trans z).trans F).trans H).trans Z).trans ac).trans ah).has b9) (Nat.ne_of_gt (qbt (I.has K).lt (qbr _))) ai;refine q0 c7 rfl λeu dn aj=>?_;have du:=ca.upda (qbi ao ((G.trans y).has W).lt) aj;have dp:=bu.upda (qbi ae ((G.trans y).has W).lt) aj;have dv:=cb.upda (qbi af (((G.trans y).trans z).has W).lt) aj;have dw:=cc.upda (qbi ap ((((G.trans y).trans z).trans F).has W).lt) aj;have dx:=cd.upda (qbi dm (((((G.trans y).trans z).trans F).trans H).has W).lt) aj;have ch:=ce.upda (qbi c5 ((((((G.trans y).trans z).trans F).trans H).trans Z).has W).lt) aj;have ci:=cf.upda (qbi c6 (((((((G.trans y).trans z).trans F).trans H).trans Z).trans ac).has W).lt) aj;have bf:=qw ed (Nat.ne_of_lt (qbt (K).lt (qbr _))) aj;have ee:=qw c8 (Nat.ne_of_gt (qbt (W).lt (qbr _))) aj;refine qy (qbe bf 0 rfl rfl) (qy (qbe bf 1 rfl qcq) (qy (qbe dn 0 rfl rfl) (qy (qbe dn 1 rfl qcq) ?_)));cases e;cases ag;exact qx ⟨d7,ea,rfl,ch,ci,(((((((((((((V.trans Q).trans U).trans I).trans G).trans y).trans z).trans F).trans H).trans Z).trans ac).trans ah).updr (qbs ((V.trans Q)).size (qbr _)) ai).updr (qbs (((V.trans Q).trans U)).size (qbr _)) aj),(c5.of_le (((((((((V.trans Q).trans U).trans I).trans G).trans y).trans z).trans F).trans H).trans Z)),(c6.of_le ((((((((((V.trans Q).trans U).trans I).trans G).trans y).trans z).trans F).trans H).trans Z).trans ac))⟩
     ·replace e:=(condF c1).symm.trans e;refine qy (qbe ((((((Q.trans U).trans I).trans G).trans y).trans z).has b5) 0 rfl rfl) ?_;obtain⟨bz,df,bn,ay,F,af⟩:=kcb ax a1;refine qy bn (qy rfl ?_);refine qba rfl ?_;refine qy (seenAt rfl rfl) (qy (seenAt rfl qcq) ?_);obtain⟨dg,dh,c2,bq,H,ap⟩:=kcb (ad.grow F) false;refine qy c2 (qy rfl ?_);refine qba rfl ?_;refine qy (seenAt rfl rfl) (qy (seenAt rfl qcq) ?_);refine q0 ((((((I.trans G).trans y).trans z).trans F).trans H).has K) rfl λef cj ab=>?_;have bg:=(ax.grow (F.trans H)).upda (qbi ao (((I.trans G).trans y).has K).lt) ab;have ar:=(ad.grow (F.trans H)).upda (qbi ae (((I.trans G).trans y).has K).lt) ab;have an:=(ay.grow H).upda (qbi af ((((I.trans G).trans y).trans z).has K).lt) ab;have ck:=bq.upda (qbi ap (((((I.trans G).trans y).trans z).trans F).has K).lt) ab;have c9:=qw (((((G.trans y).trans z).trans F).trans H).has W) (Nat.ne_of_gt (qbt (K).lt (qbr _))) ab;have bv:=qw ((((y.trans z).trans F).trans H).has b9) (Nat.ne_of_gt (qbt (I.has K).lt (qbr _))) ab;refine q0 c9 rfl λdi b0 aa=>?_;have bd:=bg.upda (qbi ao ((G.trans y).has W).lt) aa;have aq:=ar.upda (qbi ae ((G.trans y).has W).lt) aa;have al:=an.upda (qbi af (((G.trans y).trans z).has W).lt) aa;have am:=ck.upda (qbi ap ((((G.trans y).trans z).trans F).has W).lt) aa;have bh:=qw cj (Nat.ne_of_lt (qbt (K).lt (qbr _))) aa;have br:=qw bv (Nat.ne_of_gt (qbt (W).lt (qbr _))) aa;refine qy (qbe bh 0 rfl rfl) (qy (qbe bh 1 rfl qcq) (qy (qbe b0 0 rfl rfl) (qy (qbe b0 1 rfl qcq) ?_)));cases e;cases ag;exact qx ⟨bz,dg,rfl,al,am,((((((((((V.trans Q).trans U).trans I).trans G).trans y).trans z).trans F).trans H).updr (qbs ((V.trans Q)).size (qbr _)) ab).updr (qbs (((V.trans Q).trans U)).size (qbr _)) aa),(af.of_le ((((((V.trans Q).trans U).trans I).trans G).trans y).trans z)),(ap.of_le (((((((V.trans Q).trans U).trans I).trans G).trans y).trans z).trans F))⟩
    ·replace e:=(condF c0).symm.trans e;refine qy (qbe ((((((Q.trans U).trans I).trans G).trans y).trans z).has b5) 0 rfl rfl) ?_;obtain⟨eg,ev,eh,ei,ak,da⟩:=kcb ax a1;refine qy eh (qy rfl ?_);refine qba rfl ?_;refine qy (seenAt rfl rfl) (qy (seenAt rfl qcq) ?_);obtain⟨bz,df,bn,ay,F,af⟩:=kcb (ad.grow ak) false;refine qy bn (qy rfl ?_);refine qba rfl ?_;refine qy (seenAt rfl rfl) (qy (seenAt rfl qcq) ?_);refine q0 ((((((I.trans G).trans y).trans z).trans ak).trans F).has K) rfl λdh ej a0=>?_;have cl:=(ax.grow (ak.trans F)).upda (qbi ao (((I.trans G).trans y).has K).lt) a0;have bw:=(ad.grow (ak.trans F)).upda (qbi ae (((I.trans G).trans y).has K).lt) a0;have cm:=(ei.grow F).upda (qbi da ((((I.trans G).trans y).trans z).has K).lt) a0;have cn:=ay.upda (qbi af (((((I.trans G).trans y).trans z).trans ak).has K).lt) a0;have db:=qw (((((G.trans y).trans z).trans ak).trans F).has W) (Nat.ne_of_gt (qbt (K).lt (qbr _))) a0;have dc:=qw ((((y.trans z).trans ak).trans F).has b9) (Nat.ne_of_gt (qbt (I.has K).lt (qbr _))) a0;refine q0 db rfl λef cj ab=>?_;have bg:=cl.upda (qbi ao ((G.trans y).has W).lt) ab;have ar:=bw.upda (qbi ae ((G.trans y).has W).lt) ab;have cp:=cm.upda (qbi da (((G.trans y).trans z).has W).lt) ab;have an:=cn.upda (qbi af ((((G.trans y).trans z).trans ak).has W).lt) ab;have bi:=qw ej (Nat.ne_of_lt (qbt (K).lt (qbr _))) ab;have bv:=qw dc (Nat.ne_of_gt (qbt (W).lt (qbr _))) ab;refine qy (qbe bi 0 rfl rfl) (qy (qbe bi 1 rfl qcq) (qy (qbe cj 0 rfl rfl) (qy (qbe cj 1 rfl qcq) ?_)));cases e;cases ag;exact qx ⟨eg,bz,rfl,cp,an,((((((((((V.trans Q).trans U).trans I).trans G).trans y).trans z).trans ak).trans F).updr (qbs ((V.trans Q)).size (qbr _)) a0).updr (qbs (((V.trans Q).trans U)).size (qbr _)) ab),(da.of_le ((((((V.trans Q).trans U).trans I).trans G).trans y).trans z)),(af.of_le (((((((V.trans Q).trans U).trans I).trans G).trans y).trans z).trans ak))⟩
theorem k8s{s:kjq}{r:kid}(z:Iter k1c s r):kuy r s:=qbf (λs o e y=>by
 cases s with
 | fn a1 x2 a3 x4=>exact @kbeg _ _ a1 x2 a3 x4 e y
 | no=>exact True.intro
 ) z
def gcdN(xs ys:List Nat):List Nat×Int:=if rt xs=true/\rt ys=true then(digs B (Nat.gcd (num B xs) (num B ys)),0)else([],1)
theorem kvn{xs ys:List Nat}(y:rt xs=true)(z:rt ys=true)(h0:ys≠[]):(divN xs ys).2.1=digs B (num B xs%num B ys):=by simp[divN,y,z,h0]
theorem kv{n:Nat}(h:n<B^64):rt (digs B n)=true:=rt_iff.2 ⟨(kbc B2 n 64).2 h,kej B2 n⟩
theorem kq0{xs:List Nat}(y:∀x∈xs,x<B)(h:rt xs=true):num B xs<B^64:=by have h1:=num_lt B1 y;have h2:B^xs.length<=B^64:=Nat.pow_le_pow_right B1 (rt_iff.1 h).1;omega
theorem kbjs:∀(b a:Nat),a<B^64->b<B^64->Iter kv6 (.p4 (digs B a) (digs B b)) (digs B (Nat.gcd a b),0):=by
 intro b
 induction b using Nat.strongRecOn with
 | ind b ih =>
  intro a z hb;by_cases h0:b=0
  ·subst h0;refine .done ?_;show kjd _ _=_;unfold kjd;rw[kbo,Nat.gcd_zero_right];rfl
  ·have F:=Nat.mod_lt a (show 0<b by omega);have y:digs B b≠[]:=λh=>h0 ((kek B2).1 h);have G:(digs B b).length≠0:=by simpa using y
   refine .next (s':=.p4 (digs B b) (digs B (a%b))) ?_ (by have:=ih (a%b) F b hb (by omega);rwa[Nat.gcd_comm b,<- Nat.gcd_rec,Nat.gcd_comm b]at this)
   show kjd _ _=_;unfold kjd;rw[condT (by rw[qby];omega),kvn (kv z) (kv hb) y,kg B2,kg B2]
theorem kbgl{xs ys:List Nat}(F:∀x∈xs,x<B)(G:∀x∈ys,x<B):Iter kv6 (.fn xs ys) (gcdN xs ys):=by
 unfold gcdN;cases y:rt xs with
 | false =>
  refine .done ?_;show kf5 _ _=_;unfold kf5;simp[y]
 | true =>
  cases z:rt ys with
  | false =>
   refine .done ?_;show kf5 _ _=_;unfold kf5;simp[y,z]
  | true =>obtain⟨H,K⟩:=rt_iff.1 y;obtain⟨I,ty⟩:=rt_iff.1 z;have key:=kbjs (num B ys) (num B xs) (kq0 F y) (kq0 G z);rw[kd3 B2 F K,kd3 B2 G ty]at key;simp only[and_self,if_true];refine .next ?_ key;show kf5 _ _=_;unfold kf5;rw[y,z,kp (by omega),qbv,kp (by omega),qbv];rfl
theorem k4j{h:AH}{s t:Sl}{xs ys:List Nat}(n:Nats h s xs)(m:Nats h t ys):Runs (go (.fn kf9 [s.v,t.v]) h) (kwi h (gcdN xs ys)):=kbf6 (kbgl n.lt m.lt) n m
def floorI(p:Bool)(xs:List Nat)(q:Bool)(ys:List Nat):Bool×List Nat×Bool×List Nat×Int :=
 cond (!(rtI p xs&&rtI q ys)) (false,[],false,[],1)
  (cond (decide (ys=[])) (false,[],false,[],3)
   (cond q (false,[],false,[],1)
    (cond (p&&!decide ((divN xs ys).2.1=[]))
     (cond (decide ((addN (divN xs ys).1 [1]).2=0)) ((fromI true (addN (divN xs ys).1 [1]).1).1,(fromI true (addN (divN xs ys).1 [1]).1).2,(fromI false (subN ys (divN xs ys).2.1).1).1,(fromI false (subN ys (divN xs ys).2.1).1).2,0) (false,[],false,[],(addN (divN xs ys).1 [1]).2))
     ((fromI p (divN xs ys).1).1,(fromI p (divN xs ys).1).2,(fromI false (divN xs ys).2.1).1,(fromI false (divN xs ys).2.1).2,0))))
theorem klb:digs B 1=[1]:=by decide +kernel
theorem kif:u64P 1=some 1:=kbg (n:=1) (by decide)
theorem kbeo{xs:List Nat}:decide ((List.length xs:Int)=0)=decide (xs=[]):=by
 rw[decide_eq_decide];cases xs
 ·simp
 ·simp;omega
theorem kbnd{xs:List Nat}:decide ((List.length xs:Int)>0)=!decide (xs=[]):=by
 cases xs
 ·rfl
 ·simp
theorem kbcg(p:Bool)(xs:List Nat)(q:Bool)(ys:List Nat):Iter k1c (.fn p xs q ys) (floorI p xs q ys):=by
 refine .done ?_;show kmn _ _ _ _=_;unfold kmn floorI;rw[kbeo,kbnd,kif];cases rtI p xs&&rtI q ys
 ·rfl
 ·cases decide (ys=[])
  ·cases q
   ·cases p
    ·rfl
    ·cases decide ((divN xs ys).2.1=[])
     ·simp only[Bool.not_true,Bool.not_false,cond_true,cond_false,Bool.and_self,qbv,klb];cases decide ((addN (divN xs ys).1 [1]).2=0)
      ·rfl
      ·rfl
     ·rfl
   ·rfl
  ·rfl
theorem k0h{h:AH}{s t:Sl}{xs ys:List Nat}(n:Nats h s xs)(m:Nats h t ys)(p q:Bool):Runs (go (.fn kmh [.agg [.bool p,s.v],.agg [.bool q,t.v]]) h) (k3i h (floorI p xs q ys)):=k8s (kbcg p xs q ys) n m
def intD(z:Int):Bool×List Nat:=(decide (z<0),digs B z.natAbs)
theorem k9s:intD 0=(false,[]):=by simp[intD,kbo]
theorem kw3(p:Bool):fromI p []=(false,[]):=by simp[fromI]
theorem kdo{n:Nat}(h:n<B^64)(y:Bool):fromI y (digs B n)=intD (if y=true then -(n:Int)else(n:Int)):=by
 by_cases h0:n=0
 ·subst h0;rw[kbo,kw3];cases y<;>simp[intD,kbo]
 ·have z:digs B n≠[]:=λe=>h0 ((kek B2).1 e);unfold fromI intD;rw[if_pos ⟨kv h,z⟩];cases y
  ·have e:((n:Int)).natAbs=n:=by omega
   have F:decide ((n:Int)<0)=false:=by rw[qbx];omega
   simp only[qcp,if_false,e,F]
  ·have e:(-(n:Int)).natAbs=n:=by omega
   have F:decide (-(n:Int)<0)=true:=by rw[qby];omega
   simp only[if_true,e,F]
theorem ke3{z:Int}(h:z.natAbs<B^64):rtI (intD z).1 (intD z).2=true:=by
 unfold rtI intD;dsimp only;rw[kv h,Bool.true_and];by_cases F:z<0
 ·have y:digs B z.natAbs≠[]:=λe=>by
   have:=(kek B2).1 e;omega
  rw[qbz F];simp[y]
 ·rw[qb0 F];simp
theorem kj8{n:Nat}(h:n<B^64):told n=(digs B n,0):=by unfold told;rw[if_pos h]
theorem kzl{n:Nat}(h:¬n<B^64):told n=([],4):=by unfold told;rw[if_neg h]
theorem k4z{u v:Int}(F:u.natAbs<B^64)(hv:v.natAbs<B^64):kbl (intD u).1 (intD u).2 (intD v).1 (intD v).2=if(u*v).natAbs<B^64 then((intD (u*v)).1,(intD (u*v)).2,0)else(false,[],4):=by
 unfold kbl;rw[ke3 F,ke3 hv]
 have e:mulN (intD u).2 (intD v).2=told (u.natAbs*v.natAbs):=by unfold mulN intD;dsimp only;rw[if_pos ⟨kv F,kv hv⟩,kg B2,kg B2]
 rw[e,Int.natAbs_mul];simp only[Bool.and_self,Bool.not_true,cond_false];by_cases h:u.natAbs*v.natAbs<B^64
 ·rw[if_pos h,kj8 h];dsimp only;rw[kdo h]
  have key:(if(!((intD u).1==(intD v).1))=true then -((u.natAbs*v.natAbs:Nat):Int)else((u.natAbs*v.natAbs:Nat):Int))=u*v:=by
   unfold intD;dsimp only;rw[Int.natCast_mul];by_cases h1:u<0
   ·by_cases h2:v<0
    ·have y:((u.natAbs:Nat):Int)=-u:=by omega
     have z:((v.natAbs:Nat):Int)=-v:=by omega
     simp[h1,h2,y,z,Int.neg_mul,Int.mul_neg]
    ·have y:((u.natAbs:Nat):Int)=-u:=by omega
     have z:((v.natAbs:Nat):Int)=v:=by omega
     simp[h1,h2,y,z,Int.neg_mul,Int.mul_neg]
   ·by_cases h2:v<0
    ·have y:((u.natAbs:Nat):Int)=u:=by omega
     have z:((v.natAbs:Nat):Int)=-v:=by omega
     simp[h1,h2,y,z,Int.neg_mul,Int.mul_neg]
    ·have y:((u.natAbs:Nat):Int)=u:=by omega
     have z:((v.natAbs:Nat):Int)=v:=by omega
     simp[h1,h2,y,z,Int.neg_mul,Int.mul_neg]
  rw[key]
 ·rw[if_neg h,kzl h];dsimp only;rw[kw3]
theorem kbll{u v:Int}(y:u.natAbs<B^64)(hv:v.natAbs<B^64):kb1 (intD u).1 (intD u).2 (intD v).1 (intD v).2=if(u+v).natAbs<B^64 then((intD (u+v)).1,(intD (u+v)).2,0)else(false,[],4):=by
 unfold kb1;rw[ke3 y,ke3 hv];simp only[Bool.and_self,Bool.not_true,cond_false]
 have F:addN (intD u).2 (intD v).2=told (u.natAbs+v.natAbs):=by unfold addN intD;dsimp only;rw[if_pos ⟨kv y,kv hv⟩,kg B2,kg B2]
 have es:∀{a b:Int},a.natAbs<B^64->b.natAbs<B^64->b.natAbs<=a.natAbs->subN (intD a).2 (intD b).2=(digs B (a.natAbs-b.natAbs),0):=by intro a b G hb H;unfold subN intD;dsimp only;rw[if_pos ⟨kv G,kv hb⟩,kg B2,kg B2,if_neg (by omega)]
 have I:cmpN (intD u).2 (intD v).2=cmp u.natAbs v.natAbs:=by unfold cmpN intD;dsimp only;rw[if_pos ⟨kv y,kv hv⟩,kg B2,kg B2]
 rw[F,I];have s1:(intD u).1=decide (u<0):=rfl;have s2:(intD v).1=decide (v<0):=rfl;rw[s1,s2];by_cases hs:(u<0↔v<0)
 ·have hb:(decide (u<0)==decide (v<0))=true:=by simp[hs]
  rw[hb,cond_true];by_cases h:u.natAbs+v.natAbs<B^64
  ·rw[if_pos (by omega),kj8 h];dsimp only;rw[kdo h]
   have:(if decide (u<0)=true then -((u.natAbs+v.natAbs:Nat):Int)else((u.natAbs+v.natAbs:Nat):Int))=u+v:=by
    by_cases h1:u<0
    ·simp only[h1,decide_true,if_true];omega
    ·simp only[h1,decide_false,qcp,if_false];omega
   rw[this]
  ·rw[if_neg (by omega),kzl h];dsimp only;rw[kw3]
 ·have hb:(decide (u<0)==decide (v<0))=false:=by
   by_cases h1:u<0<;>by_cases h2:v<0<;>simp_all
  rw[hb,cond_false,if_pos (by omega)];by_cases z:u.natAbs<v.natAbs
  ·rw[condT (by rw[qby,cmp_lt];exact z),es hv y (by omega)];dsimp only;rw[kdo (by omega)]
   have:(if decide (v<0)=true then -((v.natAbs-u.natAbs:Nat):Int)else((v.natAbs-u.natAbs:Nat):Int))=u+v:=by
    by_cases h1:v<0
    ·simp only[h1,decide_true,if_true];omega
    ·simp only[h1,decide_false,qcp,if_false];omega
   rw[this]
  ·rw[condF (by rw[qbx,cmp_lt];exact z),es y hv (by omega)];dsimp only;rw[kdo (by omega)]
   have:(if decide (u<0)=true then -((u.natAbs-v.natAbs:Nat):Int)else((u.natAbs-v.natAbs:Nat):Int))=u+v:=by
    by_cases h1:u<0
    ·simp only[h1,decide_true,if_true];omega
    ·simp only[h1,decide_false,qcp,if_false];omega
   rw[this]
theorem k76{v:Int}(hv:v.natAbs<B^64):negI (intD v).1 (intD v).2=intD (-v):=by
 unfold negI;rw[if_pos (ke3 hv)];show fromI (!decide (v<0)) (digs B v.natAbs)=_;rw[kdo hv];by_cases h1:v<0
 ·have e:((v.natAbs:Nat):Int)=-v:=by omega
  simp[h1,e]
 ·have e:((v.natAbs:Nat):Int)=v:=by omega
  simp[h1,e]
theorem kxw{u v:Int}(y:u.natAbs<B^64)(hv:v.natAbs<B^64):kbd (intD u).1 (intD u).2 (intD v).1 (intD v).2=if(u-v).natAbs<B^64 then((intD (u-v)).1,(intD (u-v)).2,0)else(false,[],4):=by
 have e:kbd (intD u).1 (intD u).2 (intD v).1 (intD v).2=kb1 (intD u).1 (intD u).2 (intD (-v)).1 (intD (-v)).2:=by unfold kbd;rw[ke3 y,ke3 hv,k76 hv];rfl
 rw[e,kbll y (by omega)];rfl
theorem ko9(n:Nat):intD (n:Int)=(false,digs B n):=by
 unfold intD;have:decide ((n:Int)<0)=false:=by rw[qbx];omega
 rw[this];rfl
theorem k0a{u v:Int}(Z:u.natAbs<B^64)(hv:v.natAbs<B^64)(h0:0<v):floorI (intD u).1 (intD u).2 (intD v).1 (intD v).2=((intD (u/v)).1,(intD (u/v)).2,(intD (u%v)).1,(intD (u%v)).2,0):=by
 obtain⟨y,rfl⟩:∃y:Nat,v=(y:Int):=⟨v.toNat,by omega⟩;have hy:y<B^64:=by simpa using hv
 have H:0<y:=by omega
 have I:(intD (y:Int)).2≠[]:=λe=>by
  have:y=0:=by simpa[intD]using (kek B2).1 e
  omega
 unfold floorI;rw[ke3 Z,ke3 hv];have sy:(intD (y:Int)).1=false:=by rw[ko9]
 have dv:divN (intD u).2 (intD (y:Int)).2=(digs B (u.natAbs/y),digs B (u.natAbs%y),0):=by unfold divN;rw[if_pos ⟨rtI_rt (ke3 Z),rtI_rt (ke3 hv)⟩,if_neg I];simp only[intD,kg B2,Int.natAbs_natCast]
 have hQ:u.natAbs/y<B^64:=qbu (Nat.div_le_self _ _) Z;have hR:u.natAbs%y<B^64:=Nat.lt_trans (Nat.mod_lt _ H) hy;have dm:=Nat.div_add_mod u.natAbs y;have hm:=Nat.mod_lt u.natAbs H;rw[dv,sy];simp only[Bool.and_self,Bool.not_true,cond_false,I,decide_false];have s1:(intD u).1=decide (u<0):=rfl;rw[s1];have K:(digs B (u.natAbs%y)=[])↔u.natAbs%y=0:=kek B2;by_cases Q:u<0/\u.natAbs%y≠0
 ·have b1:(decide (u<0)&&!decide (digs B (u.natAbs%y)=[]))=true:=by
   rw[qcb,qby,qcl,qbx,K];exact Q
  rw[b1,cond_true];have h1:[1]=digs B 1:=klb.symm
  have U:u.natAbs/y+1<B^64:=by
   have aa:2<=y:=by
    rcases Nat.lt_or_ge y 2 with h | h
    ·have:y=1:=by omega
     subst this;rw[Nat.mod_one]at Q;exact absurd rfl Q.2
    ·exact h
   have:u.natAbs/y<=u.natAbs/2:=Nat.div_le_div_left aa (by omega);have hb:2<B^64:=by decide +kernel
   omega
  have au:addN (digs B (u.natAbs/y)) [1]=(digs B (u.natAbs/y+1),0):=by unfold addN;rw[h1,if_pos ⟨kv hQ,kv (by decide +kernel)⟩,kg B2,kg B2,kj8 U]
  have su:subN (intD (y:Int)).2 (digs B (u.natAbs%y))=(digs B (y-u.natAbs%y),0):=by rw[ko9];unfold subN;rw[if_pos ⟨kv hy,kv hR⟩,kg B2,kg B2,if_neg (by omega)]
  rw[au,su];dsimp only;rw[kdo U,kdo (by omega)]
  have G:u/(y:Int)=-((u.natAbs/y+1:Nat):Int):=by
   have z:u=-((y*(u.natAbs/y)+u.natAbs%y:Nat):Int):=by rw[dm];omega
   generalize u.natAbs/y=q at *
   generalize u.natAbs%y=r at *
   rw[z];rw[Int.ediv_eq_iff_of_pos (by omega)];constructor
   ·rw[Int.natCast_add,Int.natCast_add,Int.natCast_mul,Int.neg_mul,Int.add_mul,Int.mul_comm (q:Int)];omega
   ·rw[Int.natCast_add,Int.natCast_add,Int.natCast_mul,Int.neg_mul,Int.add_mul,Int.mul_comm (q:Int)];omega
  have V:u%(y:Int)=((y-u.natAbs%y:Nat):Int):=by
   have:=Int.mul_ediv_add_emod u (y:Int);rw[G]at this
   have W:((y:Int)*((u.natAbs/y:Nat):Int))+((u.natAbs%y:Nat):Int)=((u.natAbs:Nat):Int):=by rw[<- Int.natCast_mul,<- Int.natCast_add,dm]
   rw[Int.natCast_add,Int.mul_neg,Int.mul_add]at this;omega
  rw[G,V];rfl
 ·have b1:(decide (u<0)&&!decide (digs B (u.natAbs%y)=[]))=false:=by
   rw[<- Bool.not_eq_true,qcb,qby,qcl,qbx,K];exact Q
  rw[b1,cond_false,kdo hQ,kdo hR]
  have W:((y:Int)*((u.natAbs/y:Nat):Int))+((u.natAbs%y:Nat):Int)=((u.natAbs:Nat):Int):=by rw[<- Int.natCast_mul,<- Int.natCast_add,dm]
  by_cases F:u<0
  ·have hr:u.natAbs%y=0:=by
    rcases Nat.eq_zero_or_pos (u.natAbs%y)with h | h
    ·exact h
    ·exact absurd ⟨F,by omega⟩ Q
   rw[hr]at W|-
   have z:u=(y:Int)*-((u.natAbs/y:Nat):Int):=by rw[Int.mul_neg];omega
   have G:u/(y:Int)=-((u.natAbs/y:Nat):Int):=by
    conv=>lhs;rw[z]
    exact Int.mul_ediv_cancel_left _ (by omega)
   have V:u%(y:Int)=0:=by
    conv=>lhs;rw[z]
    exact Int.mul_emod_right _ _
   rw[G,V,if_pos (by simpa using F)];rfl
  ·have z:u=((u.natAbs:Nat):Int):=by omega
   have G:u/(y:Int)=((u.natAbs/y:Nat):Int):=by
    conv=>lhs;rw[z]
    rfl
   have V:u%(y:Int)=((u.natAbs%y:Nat):Int):=by
    conv=>lhs;rw[z]
    rfl
   rw[G,V,if_neg (by simpa using F)];rfl
theorem kjy:18446744073709551616*18446744073709551616<=B^64:=by
 have:B^64=B*B*B^62:=by rw[show 64=2+62 from rfl,Nat.pow_add,Nat.pow_two]
 rw[this];have h:1<=B^62:=Nat.pow_pos B1;have:=Nat.mul_le_mul_left (B*B) h;rw[Nat.mul_one]at this;exact this
theorem kbkm{n:Int}(h:n.natAbs<18446744073709551616):ofI n=intD n:=by
 have hb:n.natAbs<B^64:=by have:=kjy;omega
 unfold ofI;rw[kdo hb];by_cases h1:n<0
 ·rw[qbz h1];have e:((n.natAbs:Nat):Int)=-n:=by omega
  simp[e]
 ·rw[qb0 h1];have e:((n.natAbs:Nat):Int)=n:=by omega
  simp[e]
theorem kbn5(n:Int){h:AH}(c:-9223372036854775808<=n/\n<=9223372036854775807):∃(s':Sl)(h':AH),go (.fn kpw [.i n]) h=some (.agg [.bool (ofI n).1,s'.v],h')/\Nats h' s' (ofI n).2/\Grow h h'/\Own h s':=kbcl c.1 c.2
def smallN(xs:List Nat):Nat×Bool:=if rt xs=true/\xs.length<=1 then(xs.getD 0 0,true)else(0,false)
theorem kbln{h:AH}{s:Sl}{xs:List Nat}(n:Nats h s xs):go (.fn kvk [s.v]) h=some (.tup [.int .u64 ((smallN xs).1:Int),.bool (smallN xs).2],h):=by
 rw[kbjb,kcf n];have G:=n.len;simp only[qbv,kc9];cases y:rt xs with
 | false=>simp[smallN,y]
 | true =>
  simp only[Bool.not_true,cond_false];by_cases h1:xs.length<=1
  ·rw[show decide ((s.len:Int)>1)=false from by rw[qbx];omega,cond_false];simp only[smallN,y,h1,and_self,if_true];by_cases h0:xs.length=0
   ·rw[show decide ((s.len:Int)=0)=true from by rw[qby];omega,cond_true,List.length_eq_zero_iff.1 h0];rfl
   ·rw[show decide ((s.len:Int)=0)=false from by rw[qbx];omega,cond_false];obtain⟨r,z,F⟩:=n.at (i:=0) (by omega);rw[show idx s.ref s.len 0 1=some r from z];simp only[qbv,F,kc];rw[kbp (by omega)]
  ·rw[show decide ((s.len:Int)>1)=true from by rw[qby];omega];simp[smallN,h1]
end Go.Ab
namespace Go.Ab
end Go.Ab
set_option maxRecDepth 10000
namespace Go.Ab
open Go.Proofs Go.Num
inductive kg7
 | fn (x1:List Nat) (x2:List Nat)
 | p7 (x1:List Nat) (x2c0:List Nat) (x3c0:List Nat) (p4c0:Bool) (x4c1:List Nat) (p7c0:Bool) (x7c1:List Nat)
abbrev kfm:=List Nat×Int
noncomputable def kes(x1 x2:List Nat):Option (kg7⊕kfm):=cond (!(rt x1)) (some (.inr ([],1))) (cond (!(rt x2)) (some (.inr ([],1))) ((u64P 1).bind λz=>cond (decide ((cmpN x2 [z])<=0)) (some (.inr ([],1))) ((need (-9223372036854775808<=(1:Int)/\(1:Int)<=9223372036854775807)).bind λy=>some (.inl (.p7 x2 ((divN x1 x2).2.1) x2 false [] ((ofI 1).1) ((ofI 1).2))))))
noncomputable def kgq(x1 x2c0 x3c0:List Nat)(p4c0:Bool)(x4c1:List Nat)(p7c0:Bool)(x7c1:List Nat):Option (kg7⊕kfm):=cond (decide ((List.length x2c0:Int)>0)) (some (.inl (.p7 x1 ((divN x3c0 x2c0).2.1) x2c0 p7c0 x7c1 (((kbd p4c0 x4c1 (((kbl ((fromI false ((divN x3c0 x2c0).1)).1) ((fromI false ((divN x3c0 x2c0).1)).2) p7c0 x7c1).1)) ((kbl ((fromI false ((divN x3c0 x2c0).1)).1) ((fromI false ((divN x3c0 x2c0).1)).2) p7c0 x7c1).2.1)).1)) ((kbd p4c0 x4c1 (((kbl ((fromI false ((divN x3c0 x2c0).1)).1) ((fromI false ((divN x3c0 x2c0).1)).2) p7c0 x7c1).1)) ((kbl ((fromI false ((divN x3c0 x2c0).1)).1) ((fromI false ((divN x3c0 x2c0).1)).2) p7c0 x7c1).2.1)).2.1)))) ((u64P 1).bind λy=>cond (!decide ((cmpN x3c0 [y])=0)) (some (.inr ([],6))) (some (.inr ((floorI p4c0 x4c1 ((fromI false x1).1) ((fromI false x1).2)).2.2.2.1,((floorI p4c0 x4c1 ((fromI false x1).1) ((fromI false x1).2)).2.2.2.2)))))
noncomputable def kq5:kg7->Option (kg7⊕kfm)
 | .fn x1 x2=>kes x1 x2
 | .p7 x1 x2c0 x3c0 p4c0 x4c1 p7c0 x7c1=>kgq x1 x2c0 x3c0 p4c0 x4c1 p7c0 x7c1
@[reducible] def kt0(h0:AH)(r:kfm)(v:AV)(h':AH):Prop:=∃s1:Sl,v=.tup [s1.v,.i r.2]/\Nats h' s1 r.1/\Grow h0 h'/\Own h0 s1
def klj(r:kfm):kg7->Prop
 | .fn x1 x2=>∀{h:AH}{a1:Sl}{a2:Sl},Nats h a1 x1->Nats h a2 x2->Runs (go (.fn kf7 [a1.v,a2.v]) h) (kt0 h r)
 | .p7 x1 x2c0 x3c0 p4c0 x4c1 p7c0 x7c1=>∀{h0 h:AH}{a1:Sl}{y:Sl}{z:Sl}{F:Sl}{G:Sl}{i2:Nat}{i3:Nat}{i4:Nat}{H:Nat},Grow h0 h->Nats h a1 x1->h.has i2 [y.v] kj->Nats h y x2c0->h.has i3 [z.v] kj->Nats h z x3c0->h.has i4 [.bool p4c0,F.v] ku->Nats h F x4c1->h.has H [.bool p7c0,G.v] ku->Nats h G x7c1->h0.blks.size<=i2->h0.blks.size<=i3->h0.blks.size<=i4->h0.blks.size<=H->Av a1 i2 x1->Av a1 i3 x1->Av a1 i4 x1->Av a1 H x1->Av y i2 x2c0->Av y i3 x2c0->Av y i4 x2c0->Av y H x2c0->Av z i2 x3c0->Av z i3 x3c0->Av z i4 x3c0->Av z H x3c0->Av F i2 x4c1->Av F i3 x4c1->Av F i4 x4c1->Av F H x4c1->Av G i2 x7c1->Av G i3 x7c1->Av G i4 x7c1->Av G H x7c1->i2≠i3->i2≠i4->i3≠i4->i2≠H->i3≠H->i4≠H->Runs (go (.pt kf7 ko2 [(1,a1.v),(7,.p (.new i2 0)),(9,.p (.new i3 0)),(10,.p (.new i4 0)),(12,.func (.func kkv) [] [.p (.new i3 0),.p (.new i2 0),.p (.new H 0),.p (.new i4 0)])]) h) (kt0 h0 r)
theorem kbay{r:kfm}{o:kg7⊕kfm}{x1 x2:List Nat}(e:kes x1 x2=some o)(ab:GoodS (klj r) r o):klj r (.fn x1 x2):=by
 intro h a1 a2 n1 n2;rw[kbnx];unfold kes at e;refine qy (kcf n1) (qy (seen rfl) ?_);refine qbc (λk4=>?_) (λk4=>?_)
 ·replace e:=(condT k4).symm.trans e;cases e;cases ab;exact qx ⟨(⟨none,0,.is 0⟩:Sl),rfl,(qu _),(qk _),(qr _)⟩
 ·replace e:=(condF k4).symm.trans e;refine qy (kcf n2) (qy (seen rfl) ?_);refine qbc (λk6=>?_) (λk6=>?_)
  ·replace e:=(condT k6).symm.trans e;cases e;cases ab;exact qx ⟨(⟨none,0,.is 0⟩:Sl),rfl,(qu _),(qk _),(qr _)⟩
  ·replace e:=(condF k6).symm.trans e;refine qz λH7 b7 G=>?_;obtain⟨w8,z8,e⟩:=qbw.1 e;obtain⟨H9,e9,H⟩:=keg (n2.grow G) (qbk b7 z8);refine qy e9 (qy (seen qcr) ?_);refine qbc (λag=>?_) (λag=>?_)
   ·replace e:=(condT ag).symm.trans e;cases e;cases ab;exact qx ⟨(⟨none,0,.is 0⟩:Sl),rfl,(qu _),(G.trans H),(qr _)⟩
   ·replace e:=(condF ag).symm.trans e;obtain⟨ax,au,ay,ak,az,V,y,a0,aw⟩:=kgv (n1.grow (G.trans H)) (n2.grow (G.trans H));refine qy ak (qy rfl (qy (seen qcq) (qy (seen qcq) (qy (seen qcr) ?_))));refine qz λba al z=>?_;refine q0 al rfl λbb b13 F=>?_;refine qz λbc am K=>?_;refine q0 am rfl λbd ac Q=>?_;obtain⟨ah,an,e⟩:=qbw.1 e;obtain⟨be,bf,ao,ai,I,aj⟩:=kbn5 1  ah.down;refine qy ao (qy rfl ?_);refine qba rfl ?_;refine qy (seenAt rfl rfl) (qy (seenAt rfl qcq) ?_);refine qz λbg ad U=>?_;refine qz λbh ap W=>?_;refine q0 (W.has ad) rfl λbi aq Z=>?_;have ae:=qw ap (Nat.ne_of_gt (qbt (ad).lt (qbr _))) Z;refine q0 ae rfl λbj ar aa=>?_;have af:=qw aq (Nat.ne_of_lt (qbt (ad).lt (qbr _))) aa;cases e;exact ab (((((((((((G.trans H).trans y).trans z).updr (qbs (((G.trans H).trans y)).size (qbr _)) F).trans K).updr (qbs (((((G.trans H).trans y).trans z).updr (qbs (((G.trans H).trans y)).size (qbr _)) F)).size (qbr _)) Q).trans I).trans U).trans W).updr (qbs ((((((((G.trans H).trans y).trans z).updr (qbs (((G.trans H).trans y)).size (qbr _)) F).trans K).updr (qbs (((((G.trans H).trans y).trans z).updr (qbs (((G.trans H).trans y)).size (qbr _)) F)).size (qbr _)) Q).trans I)).size (qbr _)) Z).updr (qbs (((((((((G.trans H).trans y).trans z).updr (qbs (((G.trans H).trans y)).size (qbr _)) F).trans K).updr (qbs (((((G.trans H).trans y).trans z).updr (qbs (((G.trans H).trans y)).size (qbr _)) F)).size (qbr _)) Q).trans I).trans U)).size (qbr _)) aa) (n2.grow (((((((((((G.trans H).trans y).trans z).updr (qbs (((G.trans H).trans y)).size (qbr _)) F).trans K).updr (qbs (((((G.trans H).trans y).trans z).updr (qbs (((G.trans H).trans y)).size (qbr _)) F)).size (qbr _)) Q).trans I).trans U).trans W).updr (qbs ((((((((G.trans H).trans y).trans z).updr (qbs (((G.trans H).trans y)).size (qbr _)) F).trans K).updr (qbs (((((G.trans H).trans y).trans z).updr (qbs (((G.trans H).trans y)).size (qbr _)) F)).size (qbr _)) Q).trans I)).size (qbr _)) Z).updr (qbs (((((((((G.trans H).trans y).trans z).updr (qbs (((G.trans H).trans y)).size (qbr _)) F).trans K).updr (qbs (((((G.trans H).trans y).trans z).updr (qbs (((G.trans H).trans y)).size (qbr _)) F)).size (qbr _)) Q).trans I).trans U)).size (qbr _)) aa)) (((((((K.updr (qbr _) Q).trans I).trans U).trans W).updr (qbs (((K.updr (qbr _) Q).trans I)).size (qbr _)) Z).updr (qbs ((((K.updr (qbr _) Q).trans I).trans U)).size (qbr _)) aa).has b13) (V.grow ((((((((z.updr (qbr _) F).trans K).updr (qbs ((z.updr (qbr _) F)).size (qbr _)) Q).trans I).trans U).trans W).updr (qbs (((((z.updr (qbr _) F).trans K).updr (qbs ((z.updr (qbr _) F)).size (qbr _)) Q).trans I)).size (qbr _)) Z).updr (qbs ((((((z.updr (qbr _) F).trans K).updr (qbs ((z.updr (qbr _) F)).size (qbr _)) Q).trans I).trans U)).size (qbr _)) aa)) (((((I.trans U).trans W).updr (qbs (I).size (qbr _)) Z).updr (qbs ((I.trans U)).size (qbr _)) aa).has ac) (n2.grow (((((((((((G.trans H).trans y).trans z).updr (qbs (((G.trans H).trans y)).size (qbr _)) F).trans K).updr (qbs (((((G.trans H).trans y).trans z).updr (qbs (((G.trans H).trans y)).size (qbr _)) F)).size (qbr _)) Q).trans I).trans U).trans W).updr (qbs ((((((((G.trans H).trans y).trans z).updr (qbs (((G.trans H).trans y)).size (qbr _)) F).trans K).updr (qbs (((((G.trans H).trans y).trans z).updr (qbs (((G.trans H).trans y)).size (qbr _)) F)).size (qbr _)) Q).trans I)).size (qbr _)) Z).updr (qbs (((((((((G.trans H).trans y).trans z).updr (qbs (((G.trans H).trans y)).size (qbr _)) F).trans K).updr (qbs (((((G.trans H).trans y).trans z).updr (qbs (((G.trans H).trans y)).size (qbr _)) F)).size (qbr _)) Q).trans I).trans U)).size (qbr _)) aa)) af (qu _) ar (ai.grow (((U.trans W).updr (qbr _) Z).updr (qbs (U).size (qbr _)) aa)) (qbs (((G.trans H).trans y)).size (qbr _)) (qbs (((((G.trans H).trans y).trans z).updr (qbs (((G.trans H).trans y)).size (qbr _)) F)).size (qbr _)) (qbs ((((((((G.trans H).trans y).trans z).updr (qbs (((G.trans H).trans y)).size (qbr _)) F).trans K).updr (qbs (((((G.trans H).trans y).trans z).updr (qbs (((G.trans H).trans y)).size (qbr _)) F)).size (qbr _)) Q).trans I)).size (qbr _)) (qbs (((((((((G.trans H).trans y).trans z).updr (qbs (((G.trans H).trans y)).size (qbr _)) F).trans K).updr (qbs (((((G.trans H).trans y).trans z).updr (qbs (((G.trans H).trans y)).size (qbr _)) F)).size (qbr _)) Q).trans I).trans U)).size (qbr _)) (qbh n2 (qbs (((G.trans H).trans y)).size (qbr _))) (qbh n2 (qbs (((((G.trans H).trans y).trans z).updr (qbs (((G.trans H).trans y)).size (qbr _)) F)).size (qbr _))) (qbh n2 (qbs ((((((((G.trans H).trans y).trans z).updr (qbs (((G.trans H).trans y)).size (qbr _)) F).trans K).updr (qbs (((((G.trans H).trans y).trans z).updr (qbs (((G.trans H).trans y)).size (qbr _)) F)).size (qbr _)) Q).trans I)).size (qbr _))) (qbh n2 (qbs (((((((((G.trans H).trans y).trans z).updr (qbs (((G.trans H).trans y)).size (qbr _)) F).trans K).updr (qbs (((((G.trans H).trans y).trans z).updr (qbs (((G.trans H).trans y)).size (qbr _)) F)).size (qbr _)) Q).trans I).trans U)).size (qbr _))) (qbh V (qbr _)) (qbh V (qbs ((z.updr (qbr _) F)).size (qbr _))) (qbh V (qbs (((((z.updr (qbr _) F).trans K).updr (qbs ((z.updr (qbr _) F)).size (qbr _)) Q).trans I)).size (qbr _))) (qbh V (qbs ((((((z.updr (qbr _) F).trans K).updr (qbs ((z.updr (qbr _) F)).size (qbr _)) Q).trans I).trans U)).size (qbr _))) (qbh n2 (qbs (((G.trans H).trans y)).size (qbr _))) (qbh n2 (qbs (((((G.trans H).trans y).trans z).updr (qbs (((G.trans H).trans y)).size (qbr _)) F)).size (qbr _))) (qbh n2 (qbs ((((((((G.trans H).trans y).trans z).updr (qbs (((G.trans H).trans y)).size (qbr _)) F).trans K).updr (qbs (((((G.trans H).trans y).trans z).updr (qbs (((G.trans H).trans y)).size (qbr _)) F)).size (qbr _)) Q).trans I)).size (qbr _))) (qbh n2 (qbs (((((((((G.trans H).trans y).trans z).updr (qbs (((G.trans H).trans y)).size (qbr _)) F).trans K).updr (qbs (((((G.trans H).trans y).trans z).updr (qbs (((G.trans H).trans y)).size (qbr _)) F)).size (qbr _)) Q).trans I).trans U)).size (qbr _))) (Av.nil _ _) (Av.nil _ _) (Av.nil _ _) (Av.nil _ _) (qbi aj ((K.updr (qbr _) Q).has b13).lt) (qbi aj (ac).lt) (qbh ai (qbr _)) (qbh ai (qbs (U).size (qbr _))) (Nat.ne_of_lt (qbt (b13).lt (qbr _))) (Nat.ne_of_lt (qbt (((K.updr (qbr _) Q).trans I).has b13).lt (qbr _))) (Nat.ne_of_lt (qbt (I.has ac).lt (qbr _))) (Nat.ne_of_lt (qbt ((((K.updr (qbr _) Q).trans I).trans U).has b13).lt (qbr _))) (Nat.ne_of_lt (qbt ((I.trans U).has ac).lt (qbr _))) (Nat.ne_of_lt (qbt (ad).lt (qbr _)))
theorem kbp4{r:kfm}{o:kg7⊕kfm}{x1 x2c0 x3c0:List Nat}{p4c0:Bool}{x4c1:List Nat}{p7c0:Bool}{x7c1:List Nat}(e:kgq x1 x2c0 x3c0 p4c0 x4c1 p7c0 x7c1=some o)(bc:GoodS (klj r) r o):klj r (.p7 x1 x2c0 x3c0 p4c0 x4c1 p7c0 x7c1):=by
 intro h0 h a1 fa fb fc fd i2 i3 i4 i7 g0 n1 b2 bd b3 be b4 bf b7 dn d2 d3 d4 d5 bg bh bi bj ae af ag ah bk bn bq br bu bv bw bx ai aj ak al ao ap aq ar au aw;rw[kbm7];unfold kgq at e;refine qy (AH.has.rd0 b2 rfl qcq) ?_;rw[bd.len];refine qbc (λk9=>?_) (λk9=>?_)
 ·replace e:=(condT k9).symm.trans e;rw[kbni];refine qbj (AH.has.rd0 b3 rfl qcq) ?_;refine qbj (AH.has.rd0 b2 rfl qcq) ?_;obtain⟨ff,fe,en,eo,d6,d7,y,cw,aa⟩:=kgv be bd;refine qbj eo ?_;refine qbj rfl ?_;refine qbj (seen qcq) ?_;refine qbj (seen qcq) ?_;refine qbj (seen qcr) ?_;refine Runs.newB λfg bz F=>?_;refine qbj (qbe ((y.trans F).has b7) 0 rfl rfl) ?_;refine qbj (qbe ((y.trans F).has b7) 1 rfl qcq) ?_;obtain⟨fh,ep,dp,d8,z,b0⟩:=kcb (d6.grow F) false;refine qbj dp ?_;refine qbj rfl ?_;refine Runs.ifTB rfl ?_;refine qbj (seenAt rfl rfl) ?_;refine qbj (seenAt rfl qcq) ?_;refine Runs.whenB (z.same ((y.trans F).has b7) 0 2) ?_;refine Runs.whenB (z.same bz 0 0) ?_;obtain⟨_,fi,er,fj,rfl,et,H,b5⟩:=k05 d8 (dn.grow ((y.trans F).trans z)) ((fromI false ((divN x3c0 x2c0).1)).1) p7c0;refine qbj er ?_;refine qbj rfl ?_;refine qbj rfl ?_;refine Runs.ifTB rfl ?_;refine qbj (seenAt rfl rfl) ?_;refine qbj (seenAt rfl qcq) ?_;refine qbj (seen qcr) ?_;refine Runs.whenB (H.same (z.has bz) 0 0) ?_;refine Runs.putsB ((z.trans H).has bz) rfl λeu ab I=>?_;have cx:=(d8.grow H).upda (qbi b0 (bz).lt) I;have ay:=et.upda (qbi b5 (z.has bz).lt) I;refine qbj (qbe (((((y.trans F).trans z).trans H).updr (qbs (y).size (qbr _)) I).has b4) 0 rfl rfl) ?_;refine qbj (qbe (((((y.trans F).trans z).trans H).updr (qbs (y).size (qbr _)) I).has b4) 1 rfl qcq) ?_;refine qbj (qbe ab 0 rfl rfl) ?_;refine qbj (qbe ab 1 rfl qcq) ?_;obtain⟨_,ev,ew,fk,rfl,ex,G,am⟩:=k55 (bf.grow ((((y.trans F).trans z).trans H).updr (qbs (y).size (qbr _)) I)) ay p4c0 (((kbl ((fromI false ((divN x3c0 x2c0).1)).1) ((fromI false ((divN x3c0 x2c0).1)).2) p7c0 x7c1).1));refine qbj ew ?_;refine qbj rfl ?_;refine qbj rfl ?_;refine Runs.ifTB rfl ?_;refine qbj (seenAt rfl rfl) ?_;refine qbj (seenAt rfl qcq) ?_;refine qbj (seen qcr) ?_;refine Runs.newB λey ez K=>?_;refine Runs.putsB ez rfl λe0 cy V=>?_;refine qbj (AH.has.rd0 ((((((((y.trans F).trans z).trans H).updr (qbs (y).size (qbr _)) I).trans G).trans K).updr (qbs ((((((y.trans F).trans z).trans H).updr (qbs (y).size (qbr _)) I).trans G)).size (qbr _)) V).has b2) rfl qcq) ?_;refine qbj (qbe ((((((((y.trans F).trans z).trans H).updr (qbs (y).size (qbr _)) I).trans G).trans K).updr (qbs ((((((y.trans F).trans z).trans H).updr (qbs (y).size (qbr _)) I).trans G)).size (qbr _)) V).has b7) 0 rfl rfl) ?_;refine qbj (qbe ((((((((y.trans F).trans z).trans H).updr (qbs (y).size (qbr _)) I).trans G).trans K).updr (qbs ((((((y.trans F).trans z).trans H).updr (qbs (y).size (qbr _)) I).trans G)).size (qbr _)) V).has b7) 1 rfl qcq) ?_;refine qbj (qbe cy 0 rfl rfl) ?_;refine qbj (qbe cy 1 rfl qcq) ?_;refine Runs.putsB ((((((((y.trans F).trans z).trans H).updr (qbs (y).size (qbr _)) I).trans G).trans K).updr (qbs ((((((y.trans F).trans z).trans H).updr (qbs (y).size (qbr _)) I).trans G)).size (qbr _)) V).has b3) rfl λe1 dq Q=>?_;have dr:=(n1.grow (((((((y.trans F).trans z).trans H).updr (qbs (y).size (qbr _)) I).trans G).trans K).updr (qbs ((((((y.trans F).trans z).trans H).updr (qbs (y).size (qbr _)) I).trans G)).size (qbr _)) V)).upda bh Q;have b6:=(bd.grow (((((((y.trans F).trans z).trans H).updr (qbs (y).size (qbr _)) I).trans G).trans K).updr (qbs ((((((y.trans F).trans z).trans H).updr (qbs (y).size (qbr _)) I).trans G)).size (qbr _)) V)).upda af Q;have b8:=(be.grow (((((((y.trans F).trans z).trans H).updr (qbs (y).size (qbr _)) I).trans G).trans K).updr (qbs ((((((y.trans F).trans z).trans H).updr (qbs (y).size (qbr _)) I).trans G)).size (qbr _)) V)).upda bn Q;have b9:=(bf.grow (((((((y.trans F).trans z).trans H).updr (qbs (y).size (qbr _)) I).trans G).trans K).updr (qbs ((((((y.trans F).trans z).trans H).updr (qbs (y).size (qbr _)) I).trans G)).size (qbr _)) V)).upda bv Q;have ca:=(dn.grow (((((((y.trans F).trans z).trans H).updr (qbs (y).size (qbr _)) I).trans G).trans K).updr (qbs ((((((y.trans F).trans z).trans H).updr (qbs (y).size (qbr _)) I).trans G)).size (qbr _)) V)).upda aj Q;have cz:=(d6.grow ((((((F.trans z).trans H).updr (qbr _) I).trans G).trans K).updr (qbs (((((F.trans z).trans H).updr (qbr _) I).trans G)).size (qbr _)) V)).upda (qbi cw (b3).lt) Q;have cb:=(d7.grow ((((((F.trans z).trans H).updr (qbr _) I).trans G).trans K).updr (qbs (((((F.trans z).trans H).updr (qbr _) I).trans G)).size (qbr _)) V)).upda (qbi aa (b3).lt) Q;have c0:=(cx.grow ((G.trans K).updr (qbs (G).size (qbr _)) V)).upda (qbi b0 ((y.trans F).has b3).lt) Q;have c1:=(ay.grow ((G.trans K).updr (qbs (G).size (qbr _)) V)).upda (qbi b5 (((y.trans F).trans z).has b3).lt) Q;have c2:=(ex.grow (K.updr (qbr _) V)).upda (qbi am (((((y.trans F).trans z).trans H).updr (qbs (y).size (qbr _)) I).has b3).lt) Q;have dt:=qw ((((((((y.trans F).trans z).trans H).updr (qbs (y).size (qbr _)) I).trans G).trans K).updr (qbs ((((((y.trans F).trans z).trans H).updr (qbs (y).size (qbr _)) I).trans G)).size (qbr _)) V).has b2) ao Q;have du:=qw ((((((((y.trans F).trans z).trans H).updr (qbs (y).size (qbr _)) I).trans G).trans K).updr (qbs ((((((y.trans F).trans z).trans H).updr (qbs (y).size (qbr _)) I).trans G)).size (qbr _)) V).has b4) (Ne.symm aq) Q;have ax:=qw ((((((((y.trans F).trans z).trans H).updr (qbs (y).size (qbr _)) I).trans G).trans K).updr (qbs ((((((y.trans F).trans z).trans H).updr (qbs (y).size (qbr _)) I).trans G)).size (qbr _)) V).has b7) (Ne.symm au) Q;have c3:=qw (((G.trans K).updr (qbs (G).size (qbr _)) V).has ab) (Nat.ne_of_gt (qbt (y.has b3).lt (qbr _))) Q;have ac:=qw cy (Nat.ne_of_gt (qbt ((((((y.trans F).trans z).trans H).updr (qbs (y).size (qbr _)) I).trans G).has b3).lt (qbr _))) Q;refine Runs.whenB (kd8 cy ac 0 2) ?_;refine Runs.whenB (kd8 ((((((((y.trans F).trans z).trans H).updr (qbs (y).size (qbr _)) I).trans G).trans K).updr (qbs ((((((y.trans F).trans z).trans H).updr (qbs (y).size (qbr _)) I).trans G)).size (qbr _)) V).has b7) ax 0 2) ?_;refine Runs.putsB dt rfl λe2 dv U=>?_;have dw:=dr.upda bg U;have cc:=b6.upda ae U;have cd:=b8.upda bk U;have ce:=b9.upda bu U;have cf:=ca.upda ai U;have c4:=cz.upda (qbi cw (b2).lt) U;have ch:=cb.upda (qbi aa (b2).lt) U;have c5:=c0.upda (qbi b0 ((y.trans F).has b2).lt) U;have c6:=c1.upda (qbi b5 (((y.trans F).trans z).has b2).lt) U;have c7:=c2.upda (qbi am (((((y.trans F).trans z).trans H).updr (qbs (y).size (qbr _)) I).has b2).lt) U;have az:=qw dq (Ne.symm ao) U;have dx:=qw du (Ne.symm ap) U;have ci:=qw ax (Ne.symm ar) U;have c8:=qw c3 (Nat.ne_of_gt (qbt (y.has b2).lt (qbr _))) U;have ad:=qw ac (Nat.ne_of_gt (qbt ((((((y.trans F).trans z).trans H).updr (qbs (y).size (qbr _)) I).trans G).has b2).lt (qbr _))) U;refine Runs.whenB (kd8 ac ad 0 2) ?_;refine Runs.whenB (kd8 ax ci 0 2) ?_;refine Runs.putsB dx rfl λfl e3 W=>?_;have dy:=dw.upda bi W;have cj:=cc.upda ag W;have ck:=cd.upda bq W;have cl:=ce.upda bw W;have cm:=cf.upda ak W;have c9:=c4.upda (qbi cw (b4).lt) W;have cn:=ch.upda (qbi aa (b4).lt) W;have da:=c5.upda (qbi b0 ((y.trans F).has b4).lt) W;have db:=c6.upda (qbi b5 (((y.trans F).trans z).has b4).lt) W;have dc:=c7.upda (qbi am (((((y.trans F).trans z).trans H).updr (qbs (y).size (qbr _)) I).has b4).lt) W;have dd:=qw dv ap W;have de:=qw az aq W;have dz:=qw ci (Ne.symm aw) W;have df:=qw c8 (Nat.ne_of_gt (qbt (y.has b4).lt (qbr _))) W;have a0:=qw ad (Nat.ne_of_gt (qbt ((((((y.trans F).trans z).trans H).updr (qbs (y).size (qbr _)) I).trans G).has b4).lt (qbr _))) W;refine Runs.whenB (kd8 ad a0 0 2) ?_;refine Runs.putsB dz rfl λfm e4 Z=>?_;have d0:=dy.upda bj Z;have cp:=cj.upda ah Z;have d9:=ck.upda br Z;have ea:=cl.upda bx Z;have cq:=cm.upda al Z;have eg:=c9.upda (qbi cw (b7).lt) Z;have cr:=cn.upda (qbi aa (b7).lt) Z;have eh:=da.upda (qbi b0 ((y.trans F).has b7).lt) Z;have ei:=db.upda (qbi b5 (((y.trans F).trans z).has b7).lt) Z;have dg:=dc.upda (qbi am (((((y.trans F).trans z).trans H).updr (qbs (y).size (qbr _)) I).has b7).lt) Z;have dh:=qw dd ar Z;have di:=qw de au Z;have dj:=qw e3 aw Z;have ej:=qw df (Nat.ne_of_gt (qbt (y.has b7).lt (qbr _))) Z;have ek:=qw a0 (Nat.ne_of_gt (qbt ((((((y.trans F).trans z).trans H).updr (qbs (y).size (qbr _)) I).trans G).has b7).lt (qbr _))) Z;refine Runs.retB ?_;refine qy rfl ?_;cases e;exact bc ((((((((((((g0.trans y).trans F).trans z).trans H).updr (qbs ((g0.trans y)).size (qbr _)) I).trans G).trans K).updr (qbs (((((((g0.trans y).trans F).trans z).trans H).updr (qbs ((g0.trans y)).size (qbr _)) I).trans G)).size (qbr _)) V).updr d3 Q).updr d2 U).updr d4 W).updr d5 Z) d0 dh cr di cp dj cq e4 dg d2 d3 d4 d5 bg bh bi bj (qbi aa (b2).lt) (qbi aa (b3).lt) (qbi aa (b4).lt) (qbi aa (b7).lt) ae af ag ah ai aj ak al (qbi am (((((y.trans F).trans z).trans H).updr (qbs (y).size (qbr _)) I).has b2).lt) (qbi am (((((y.trans F).trans z).trans H).updr (qbs (y).size (qbr _)) I).has b3).lt) (qbi am (((((y.trans F).trans z).trans H).updr (qbs (y).size (qbr _)) I).has b4).lt) (qbi am (((((y.trans F).trans z).trans H).updr (qbs (y).size (qbr _)) I).has b7).lt) ao ap aq ar au aw
 ·replace e:=(condF k9).symm.trans e;refine qy (AH.has.rd0 b3 rfl qcq) ?_;refine qz λen e5 y=>?_;obtain⟨fo,e6,e⟩:=qbw.1 e;obtain⟨ep,dp,z⟩:=keg (be.grow y) (qbk e5 e6);refine qy dp (qy (seen qcr) ?_);refine qbc (λd1=>?_) (λd1=>?_)
  ·replace e:=(condT d1).symm.trans e;cases e;cases bc;exact qx ⟨(⟨none,0,.is 0⟩:Sl),rfl,(qu _),((g0.trans y).trans z),(qr _)⟩
  ·replace e:=(condF d1).symm.trans e;refine qz λeu ab an=>?_;refine qz λev ba G=>?_;refine qy (qbe ((((y.trans z).trans an).trans G).has b4) 0 rfl rfl) (qy (qbe ((((y.trans z).trans an).trans G).has b4) 1 rfl qcq) ?_);obtain⟨fq,ey,e7,eb,K,ec⟩:=kcb (n1.grow (((y.trans z).trans an).trans G)) false;refine qy e7 (qy rfl ?_);refine qba rfl ?_;refine qy (seenAt rfl rfl) (qy (seenAt rfl qcq) ?_);refine qbd (K.same ((((y.trans z).trans an).trans G).has b4) 0 2) ?_;refine qbd (K.same ba 0 0) ?_;refine qbd (K.same (G.has ab) 0 0) ?_;obtain⟨_,e0,e8,fs,ed,rfl,e9,ee,bb,ef,ct⟩:=k0h (bf.grow ((((y.trans z).trans an).trans G).trans K)) eb p4c0 ((fromI false x1).1);refine qy e8 (qy rfl (qy rfl ?_));refine qba rfl ?_;refine qy (seenAt rfl rfl) (qy (seenAt rfl qcq) (qy rfl ?_));refine qba rfl ?_;refine qy (seenAt rfl rfl) (qy (seenAt rfl qcq) (qy (seen qcr) ?_));refine qbd (bb.same (K.has ba) 0 0) ?_;refine qbd (bb.same ((G.trans K).has ab) 0 0) ?_;refine q0 (((G.trans K).trans bb).has ab) rfl λe1 dq Q=>?_;have dk:=(eb.grow bb).upda (qbi ec (G.has ab).lt) Q;have dl:=e9.upda (qbi ef ((G.trans K).has ab).lt) Q;have cu:=ee.upda (qbi ct ((G.trans K).has ab).lt) Q;have dm:=qw ((K.trans bb).has ba) (Nat.ne_of_gt (qbt (ab).lt (qbr _))) Q;refine q0 dm rfl λe2 dv U=>?_;have el:=dk.upda (qbi ec (ba).lt) U;have em:=dl.upda (qbi ef (K.has ba).lt) U;have cv:=cu.upda (qbi ct (K.has ba).lt) U;have az:=qw dq (Nat.ne_of_lt (qbt (ab).lt (qbr _))) U;refine qy (qbe dv 1 rfl qcq) ?_;cases e;cases bc;exact qx ⟨ed,rfl,cv,((((((((g0.trans y).trans z).trans an).trans G).trans K).trans bb).updr (qbs (((g0.trans y).trans z)).size (qbr _)) Q).updr (qbs ((((g0.trans y).trans z).trans an)).size (qbr _)) U),(ct.of_le (((((g0.trans y).trans z).trans an).trans G).trans K))⟩
theorem kbjm{s:kg7}{r:kfm}(z:Iter kq5 s r):klj r s:=qbf (λs o e y=>by
 cases s with
 | fn x1 x2=>exact @kbay _ _ x1 x2 e y
 | p7 x1 x2c0 x3c0 p4c0 x4c1 p7c0 x7c1=>exact @kbp4 _ _ x1 x2c0 x3c0 p4c0 x4c1 p7c0 x7c1 e y
 ) z
inductive kr4
 | fn (x1:List Nat) (x2:List Nat)
 | p9 (x1:List Nat) (x2:List Nat) (x3:List Nat) (p4c0:Bool) (x4c1:List Nat) (p5c0:Bool) (x5c1:List Nat)
abbrev ktm:=List Nat×Int
noncomputable def kgc(x1 x2:List Nat):Option (kr4⊕ktm):=cond (!(rt x1)) (some (.inr ([],1))) (cond (!(rt x2)) (some (.inr ([],1))) ((u64P 2).bind λp7=>cond (decide ((cmpN x2 (digs B p7))<0)) (some (.inr ([],1))) ((need (List.length x2<=1073741824)).bind λz=>(need (-9223372036854775808<=(1:Int)/\(1:Int)<=9223372036854775807)).bind λy=>some (.inl (.p9 x2 x2 ((divN x1 x2).2.1) false [] ((ofI 1).1) ((ofI 1).2))))))
noncomputable def kix(x1 x2 x3:List Nat)(p4c0:Bool)(x4c1:List Nat)(p5c0:Bool)(x5c1:List Nat):Option (kr4⊕ktm):=cond (decide ((List.length x3:Int)>0)) (some (.inl (.p9 x1 x3 ((divN x2 x3).2.1) p5c0 x5c1 (((kbd p4c0 x4c1 (((kbl ((fromI false ((divN x2 x3).1)).1) ((fromI false ((divN x2 x3).1)).2) p5c0 x5c1).1)) ((kbl ((fromI false ((divN x2 x3).1)).1) ((fromI false ((divN x2 x3).1)).2) p5c0 x5c1).2.1)).1)) ((kbd p4c0 x4c1 (((kbl ((fromI false ((divN x2 x3).1)).1) ((fromI false ((divN x2 x3).1)).2) p5c0 x5c1).1)) ((kbl ((fromI false ((divN x2 x3).1)).1) ((fromI false ((divN x2 x3).1)).2) p5c0 x5c1).2.1)).2.1)))) ((u64P 1).bind λp7=>cond (!decide ((cmpN x2 (digs B p7))=0)) (some (.inr ([],6))) (some (.inr ((floorI p4c0 x4c1 ((fromI false x1).1) ((fromI false x1).2)).2.2.2.1,0))))
noncomputable def kui:kr4->Option (kr4⊕ktm)
 | .fn x1 x2=>kgc x1 x2
 | .p9 x1 x2 x3 p4c0 x4c1 p5c0 x5c1=>kix x1 x2 x3 p4c0 x4c1 p5c0 x5c1
theorem kp6{a b:Nat}(y:a<B^64)(hb:b<B^64):cmpN (digs B a) (digs B b)=cmp a b:=by unfold cmpN;rw[if_pos ⟨kv y,kv hb⟩,kg B2,kg B2]
theorem cmp_eq{a b:Nat}:cmp a b=0↔a=b:=by
 unfold cmp;by_cases h:a<b
 ·rw[if_pos h];omega
 ·rw[if_neg h];by_cases h2:a=b
  ·rw[if_pos h2];omega
  ·rw[if_neg h2];omega
structure Eu(n A X Y:Nat)(e:Int)(u v:Nat):Prop where
 sign:e=1\/e=-1
 sum:u*Y+v*X=n
 ub:u<=n
 one:(n:Int)∣e*u*A-X
 two:(n:Int)∣-(e*v)*A-Y
theorem Eu.vb{n A X Y:Nat}{e:Int}{u v:Nat}(E:Eu n A X Y e u v)(y:0<X):v<=n:=by have h1:v*1<=v*X:=Nat.mul_le_mul_left _ y;have:=E.sum;omega
theorem Eu.next{n A X Y:Nat}{e:Int}{u v:Nat}(E:Eu n A X Y e u v)(H:0<Y)(y:0<X):Eu n A Y (X%Y) (-e) v (u+X/Y*v):=by
 have z:=Nat.div_add_mod X Y;refine⟨?_,?_,E.vb y,?_,?_⟩
 ·rcases E.sign with h | h<;>subst h<;>simp
 ·have h:=E.sum;have h1:v*X=v*(Y*(X/Y))+v*(X%Y):=by rw[<- Nat.mul_add,z]
  have h2:v*(Y*(X/Y))=X/Y*v*Y:=by rw[Nat.mul_comm Y,<- Nat.mul_assoc,Nat.mul_comm v]
  rw[Nat.add_mul];omega
 ·have:=E.two;rwa[Int.neg_mul e (v:Int)]
 ·have h1:=E.one;have h2:=Int.dvd_mul_of_dvd_right (b:=((X/Y:Nat):Int)) E.two;have F:=Int.dvd_sub h1 h2
  have G:e*(u:Int)*(A:Int)-(X:Int)-((X/Y:Nat):Int)*(-(e*(v:Int))*(A:Int)-(Y:Int))=-(-e*((u+X/Y*v:Nat):Int))*(A:Int)-((X%Y:Nat):Int):=by
   have y:(X:Int)=(Y:Int)*((X/Y:Nat):Int)+((X%Y:Nat):Int):=by rw[<- Int.natCast_mul,<- Int.natCast_add,z]
   generalize X/Y=q at *
   generalize X%Y=r at *
   rw[y,Int.natCast_add,Int.natCast_mul];simp only[Int.neg_mul,Int.mul_add,Int.add_mul,Int.mul_sub,Int.mul_neg,Int.neg_neg]
   have a1:e*((q:Int)*(v:Int))*(A:Int)=(q:Int)*(e*(v:Int)*(A:Int)):=by rw[<- Int.mul_assoc,Int.mul_comm e (q:Int),Int.mul_assoc (q:Int),Int.mul_assoc (q:Int)]
   have a2:(Y:Int)*(q:Int)=(q:Int)*(Y:Int):=Int.mul_comm _ _;rw[a1,a2];omega
  rwa[G]at F
def InvAns(n A X Y:Nat)(r:List Nat×Int):Prop:=(Nat.gcd X Y≠1->r=([],6))/\(Nat.gcd X Y=1->∃w:Nat,w<n/\r=(digs B w,0)/\w*A%n=1)
theorem kbip{n A:Nat}(hn:n<B^64)(ae:2<=n):∀(Y X:Nat)(e:Int)(u v:Nat),X<B^64->Y<B^64->0<X->Eu n A X Y e u v->
  ∃r,Iter kq5 (.p7 (digs B n) (digs B Y) (digs B X) (intD (e*u)).1 (intD (e*u)).2 (intD (-(e*v))).1 (intD (-(e*v))).2) r/\
   Iter kui (.p9 (digs B n) (digs B X) (digs B Y) (intD (e*u)).1 (intD (e*u)).2 (intD (-(e*v))).1 (intD (-(e*v))).2) r/\InvAns n A X Y r:=by
 intro Y
 induction Y using Nat.strongRecOn with
 | ind Y ih =>
  intro X e u v I hY z E;have Q:e.natAbs=1:=by rcases E.sign with h | h<;>subst h<;>rfl
  have hu:(e*(u:Int)).natAbs=u:=by rw[Int.natAbs_mul,Q,Nat.one_mul,Int.natAbs_natCast]
  have hv:(-(e*(v:Int))).natAbs=v:=by rw[Int.natAbs_neg,Int.natAbs_mul,Q,Nat.one_mul,Int.natAbs_natCast]
  have af:v<=n:=E.vb z;have ag:u<=n:=E.ub;have fn:fromI false (digs B n)=intD (n:Int):=by rw[kdo hn];rfl
  have U:((n:Int)).natAbs<B^64:=by simpa using hn
  by_cases h0:Y=0
  ·subst h0;have K:Nat.gcd X 0=X:=Nat.gcd_zero_right X;have ah:=kjy;have c1:cmpN (digs B X) [1]=cmp X 1:=by rw[<- klb];exact kp6 I (by omega)
   have c2:cmpN (digs B X) (digs B 1)=cmp X 1:=kp6 I (by omega);by_cases h1:X=1
   ·subst h1;have F:=k0a (u:=e*(u:Int)) (v:=(n:Int)) (by omega) U (by omega);have V:=Int.emod_nonneg (e*(u:Int)) (show(n:Int)≠0 by omega);have ai:=Int.emod_lt_of_pos (e*(u:Int)) (show 0<(n:Int) by omega);obtain⟨w,hw⟩:∃w:Nat,e*(u:Int)%(n:Int)=(w:Int):=⟨_,(Int.toNat_of_nonneg V).symm⟩;have G:(intD (e*(u:Int)%(n:Int))).2=digs B w:=by rw[hw,ko9]
    refine⟨(digs B w,0),.done ?_,.done ?_,λh=>absurd K h,λ_=>⟨w,by omega,rfl,?_⟩⟩
    ·show kgq _ _ _ _ _ _ _=_;unfold kgq;rw[kbo,condF (by rfl),kif,qbv,c1,condF (by rfl),fn,F];dsimp only;rw[G]
    ·show kix _ _ _ _ _ _ _=_;unfold kix;rw[kbo,condF (by rfl),kif,qbv,c2,condF (by rfl),fn,F];dsimp only;rw[G]
    ·have hd:=E.one
     have h2:(e*(u:Int)*(A:Int))%(n:Int)=1:=by have h3:=Int.emod_eq_emod_iff_emod_sub_eq_zero.2 (Int.emod_eq_zero_of_dvd hd);rw[h3];exact Int.emod_eq_of_lt (by omega) (by omega)
     have h4:(w:Int)%(n:Int)=(e*(u:Int))%(n:Int):=by rw[<- hw,Int.emod_emod_of_dvd _ (Int.dvd_refl _)]
     have h5:((w*A%n:Nat):Int)=1:=by rw[Int.natCast_emod,Int.natCast_mul,Int.mul_emod,h4,<- Int.mul_emod];exact h2
     omega
   ·refine⟨([],6),.done ?_,.done ?_,λ_=>rfl,λh=>absurd (K.symm.trans h) h1⟩
    ·show kgq _ _ _ _ _ _ _=_;unfold kgq;rw[kbo,condF (by rfl),kif,qbv,c1,condT (by rw[qcl,qbx,cmp_eq];exact h1)]
    ·show kix _ _ _ _ _ _ _=_;unfold kix;rw[kbo,condF (by rfl),kif,qbv,c2,condT (by rw[qcl,qbx,cmp_eq];exact h1)]
  ·have y:0<Y:=by omega
   have E':=E.next y z;have aj:=E'.vb y;have hm:=Nat.mod_lt X y;have H:digs B Y≠[]:=λh=>h0 ((kek B2).1 h);have ad:(digs B Y).length≠0:=by simpa using H
   obtain⟨r,W,Z,aa⟩:=ih (X%Y) hm Y (-e) v (u+X/Y*v) hY (by omega) y E'
   have dv:divN (digs B X) (digs B Y)=(digs B (X/Y),digs B (X%Y),0):=by unfold divN;rw[if_pos ⟨kv I,kv hY⟩,if_neg H,kg B2,kg B2]
   have hq:X/Y<B^64:=qbu (Nat.div_le_self _ _) I;have fq:fromI false (digs B (X/Y))=intD ((X/Y:Nat):Int):=by rw[kdo hq];rfl
   have ab:(((X/Y:Nat):Int)).natAbs<B^64:=by rw[Int.natAbs_natCast];exact hq
   have hp:(((X/Y:Nat):Int)*-(e*(v:Int))).natAbs=X/Y*v:=by rw[Int.natAbs_mul,hv,Int.natAbs_natCast]
   have mul:=k4z ab (show(-(e*(v:Int))).natAbs<B^64 by omega);rw[if_pos (by rw[hp];omega)]at mul
   have es:e*(u:Int)-((X/Y:Nat):Int)*-(e*(v:Int))=-(-e*((u+X/Y*v:Nat):Int)):=by generalize X/Y=q;rw[Int.natCast_add,Int.natCast_mul,Int.neg_mul,Int.neg_neg,Int.mul_add,Int.mul_neg,Int.mul_left_comm e];omega
   have ac:(-(-e*((u+X/Y*v:Nat):Int))).natAbs=u+X/Y*v:=by rw[Int.natAbs_neg,Int.natAbs_mul,Int.natAbs_neg,Q,Nat.one_mul,Int.natAbs_natCast]
   have sub:=kxw (u:=e*(u:Int)) (v:=((X/Y:Nat):Int)*-(e*(v:Int))) (by omega) (by rw[hp];omega);rw[es,if_pos (by rw[ac];omega)]at sub;have et:-(e*(v:Int))=-e*(v:Int):=by rw[Int.neg_mul]
   refine⟨r,.next ?_ W,.next ?_ Z,?_⟩
   ·show kgq _ _ _ _ _ _ _=_;unfold kgq;rw[condT (by rw[qby];omega),dv];dsimp only;rw[fq,mul];dsimp only;rw[sub,<- et]
   ·show kix _ _ _ _ _ _ _=_;unfold kix;rw[condT (by rw[qby];omega),dv];dsimp only;rw[fq,mul];dsimp only;rw[sub,<- et]
   ·have K:Nat.gcd X Y=Nat.gcd Y (X%Y):=by rw[Nat.gcd_comm X Y,Nat.gcd_rec,Nat.gcd_comm]
    unfold InvAns;rw[K];exact aa
end Go.Ab
