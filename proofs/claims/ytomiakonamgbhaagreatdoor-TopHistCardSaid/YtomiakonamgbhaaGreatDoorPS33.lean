/- Words and laws that the last text joins. -/
import Derived.Test.YtomiakonamgbhaaGreatDoorPS2
import Derived.Test.YtomiakonamgbhaaGreatDoorPAbsL
set_option linter.unusedVariables false
set_option linter.unusedSimpArgs false
set_option linter.unusedSectionVars false
set_option maxRecDepth 10000
namespace Go.Ab
open Go.Proofs Go.Num
theorem k8t{d q r y x Q R:Nat}(H:r*18446744073709551616+x=q*d+y)(C:R=d*Q+r):x+18446744073709551616*R=d*(q+18446744073709551616*Q)+y:=by rw[C,Nat.mul_add,Nat.mul_add];have F:18446744073709551616*(d*Q)=d*(18446744073709551616*Q):=Nat.mul_left_comm _ _ _;rw[F,Nat.mul_comm d q];omega
theorem k2o{o:List Nat}{i w:Nat}(h:i<o.length):(o.set i w).drop i=w::o.drop (i+1):=by rw[qcd (by simpa using h),List.getElem_set_self,List.drop_set_of_lt (by omega)]
theorem kzb{xs:List Nat}{d:Nat}(Q:∀x∈xs,x<B)(U:d<B)(y:0<d)(W:xs.length<=8796093022208) :
  ∀(i:Nat)(o:List Nat)(r:Nat),i<=xs.length->o.length=xs.length->r<d->num B (xs.drop i)=d*num B (o.drop i)+r->
   Iter ks0 (.p4 xs d o r ((i:Int)-1)) (digs B (num B xs/d),((num B xs%d:Nat):Int))
 | 0,o,r,Z,lo,C,e=>by
  refine .done ?_;show kih _ _ _ _ _=_;unfold kih;rw[List.drop_zero,List.drop_zero]at e;rw[condF (by rw[qbt];omega),e,Nat.mul_add_div y,Nat.div_eq_of_lt C,Nat.add_zero,Nat.mul_add_mod,Nat.mod_eq_of_lt C]
 | i+1,o,r,Z,lo,C,e=>by
  have F:i<xs.length:=by omega
  have H:i<o.length:=by omega
  have hx:=Q xs[i] (qb0 _);have I:d<18446744073709551616:=U;have K:xs[i]<18446744073709551616:=hx
  have hq:(r*18446744073709551616+xs[i])/d<18446744073709551616:=by rw[Nat.div_lt_iff_lt_mul y];have:(r+1)*18446744073709551616<=d*18446744073709551616:=Nat.mul_le_mul_right _ C;omega
  refine .next (s':=.p4 xs d (o.set i ((r*18446744073709551616+xs[i])/d)) ((r*18446744073709551616+xs[i])%d:Nat) ((i:Int)-1)) ?_ (kzb Q U y W i _ _ (by omega) (by simpa using lo) (Nat.mod_lt _ y) ?_)
  ·show kih _ _ _ _ _=_;unfold kih;rw[condT (by rw[qbu];omega),show((i+1:Nat):Int)-1=(i:Int)from by omega,kb4 F,qbr,kyb I K C,qbr,kx H,qbr];dsimp only;rw[kbm hq,qbr,wrap64 (by omega) (by omega)]
  ·rw[k2o H,qcd F];simp only[num];have V:=Nat.div_add_mod (r*18446744073709551616+xs[i]) d;rw[Nat.mul_comm d]at V;exact k8t V.symm e
theorem kbfz{xs:List Nat}{d:Nat}(F:∀x∈xs,x<B)(H:d<B)(y:0<d)(C:xs.length<=8796093022208):Iter ks0 (.fn xs d) (digs B (num B xs/d),((num B xs%d:Nat):Int)):=by refine .next (s':=.p4 xs d (List.replicate xs.length 0) ((0:Nat):Int) ((xs.length:Int)-1)) ?_ (kzb F H y C xs.length _ _ (qbn _) (by simp) y (by simp[num]));show kmf _ _=_;unfold kmf;rw[kdw C,qbr,wrap64 (by omega) (by omega)];rfl
theorem kbam{h:AH}{s:Sl}{xs:List Nat}(n:Nats h s xs){d:Nat}(C:d<B)(y:0<d)(F:xs.length<=8796093022208):∃(s':Sl)(h':AH),go (.fn kgh [s.v,.int .u64 (d:Int)]) h=some (.tup [s'.v,.int .u64 ((num B xs%d:Nat):Int)],h')/\Nats h' s' (digs B (num B xs/d))/\Grow h h'/\Own h s':=by obtain⟨_,h',e,s',rfl,H,g,o⟩:=k4m (kbfz n.lt C y F) n;exact⟨s',h',e,H,g,o⟩
theorem ks7(a b:Int):ior .u64 a b=ior .u64 b a:=by unfold ior;rw[BitVec.or_comm]
theorem kbi6{x n:Nat}(y:x<18446744073709551616)(C:n<=63):x*2^n%18446744073709551616=x%2^(64-n)*2^n/\x*2^n/18446744073709551616=x/2^(64-n)/\x/2^(64-n)<2^n/\x%2^(64-n)*2^n<18446744073709551616:=by
 have p:0<2^n:=Nat.pow_pos (by decide);have p2:0<2^(64-n):=Nat.pow_pos (by decide);have e:2^(64-n)*2^n=18446744073709551616:=by rw[<- Nat.pow_add,show 64-n+n=64 from by omega]
 refine⟨?_,?_,?_,?_⟩
 ·rw[<- e,Nat.mul_mod_mul_right]
 ·rw[<- e,Nat.mul_div_mul_right _ _ p]
 ·rw[Nat.div_lt_iff_lt_mul p2,Nat.mul_comm,e];exact y
 ·have:=Nat.mul_lt_mul_of_pos_right (Nat.mod_lt x p2) p;rw[e]at this;exact this
theorem up_alg{P c l hgh t y n1 n2 X:Nat}(C:n1+P*c=y+P*(l+c))(H:n2+P*18446744073709551616*0=n1+P*18446744073709551616*hgh)(F:t=hgh*18446744073709551616+l)(I:y=X):n2=X+P*t:=by rw[Nat.mul_add]at C;rw[F,Nat.mul_add,Nat.mul_comm hgh,<- Nat.mul_assoc];omega
theorem kt9{xs:List Nat}{n:Nat}(V:∀x∈xs,x<B)(W:n<=63)(hl:xs.length<8796093022208) :
  ∀(d i:Nat)(o:List Nat),i+d=xs.length->o.length=xs.length+1->(∀y∈o,y<B)->Empty o (i+1)->(∀h:i<o.length,o[i]<2^n)->num B o=num B (xs.take i)*2^n->
   ∃r,Iter kkg (.p3 n o xs xs.length i) r/\r.length=xs.length+1/\(∀y∈r,y<B)/\num B r=num B xs*2^n
 | 0,i,o,Z,lo,to,zo,ho,e=>by
  have Z:i=xs.length:=by omega
  subst Z;rw[List.take_length]at e;refine⟨o,.done ?_,lo,to,e⟩;show kf6 _ _ _ _ _=_;unfold kf6;rw[condF (by rw[qbt];omega)]
 | d+1,i,o,Z,lo,to,zo,ho,e=>by
  have I:i<xs.length:=by omega
  have C:i<o.length:=by omega
  have hx:xs[i]<18446744073709551616:=V xs[i] (qb0 _);have hc:=ho C;obtain⟨u1,u2,u3,u4⟩:=kbi6 hx W;have shl:ishl .u64 (xs[i]:Int) (n:Int)=((xs[i]%2^(64-n)*2^n:Nat):Int):=by rw[ki7 _ _ (by omega),u1]
  have io:ior .u64 (o[i]:Int) ((xs[i]%2^(64-n)*2^n:Nat):Int)=((xs[i]%2^(64-n)*2^n+o[i]:Nat):Int):=by rw[ks7,koc u4 hc (by omega)]
  have U:xs[i]%2^(64-n)*2^n+o[i]<18446744073709551616:=by
   have p:0<2^n:=Nat.pow_pos (by decide);have p2:0<2^(64-n):=Nat.pow_pos (by decide);have e:2^(64-n)*2^n=18446744073709551616:=by rw[<- Nat.pow_add,show 64-n+n=64 from by omega]
   have:=Nat.mul_le_mul_right (2^n) (Nat.mod_lt xs[i] p2);rw[e,Nat.succ_mul]at this;omega
  generalize ae:xs[i]%2^(64-n)*2^n=l at *
  have K:i+1<(o.set i (l+o[i])).length:=by simp;omega
  have h1:=ki8 (b:=B) C (l+o[i])
  have hz:(o.set i (l+o[i]))[i+1]=0:=by rw[List.getElem_set_ne (by omega)];exact zo _ (by omega) (by omega)
  have H:xs[i]*2^n=xs[i]/2^(64-n)*18446744073709551616+l:=by have:=Nat.div_add_mod (xs[i]*2^n) 18446744073709551616;rw[u2,u1,Nat.mul_comm]at this;exact this.symm
  have F:num B (xs.take (i+1))*2^n=num B (xs.take i)*2^n+B^i*(xs[i]*2^n):=by rw[kc2 B I,Nat.add_mul,Nat.mul_assoc]
  have hB:xs[i]/2^(64-n)<18446744073709551616:=qbq (Nat.div_le_self _ _) hx;by_cases aa:n=0
  ·
   have hh:xs[i]/2^(64-n)=0:=by subst aa;rw[Nat.pow_zero]at u3;omega
   obtain⟨r,it,r1,r2,r3⟩:=kt9 V W hl d (i+1) (o.set i (l+o[i])) (by omega) (by simpa using lo) (set_lt to U) (by intro t Q hk;rw[List.getElem_set_ne (by omega)];exact zo t (by simpa using Q) (by omega)) (by intro Q;rw[hz];exact Nat.pow_pos (by decide)) (by rw[F,H,hh];exact up_alg (hgh:=0) h1 (by omega) rfl e)
   refine⟨r,.next ?_ it,r1,r2,r3⟩;show kf6 _ _ _ _ _=_;unfold kf6;rw[condT (by rw[qbu];omega),kb4 I,qbr,kx C,qbr,condF (by rw[qbt];omega),qbr,kee C,shl,io,kbm U,qbr,condF (by rw[qbt];omega),ko (by omega)]
  ·have h2:=ki8 (b:=B) K (xs[i]/2^(64-n));rw[hz]at h2
   obtain⟨r,it,r1,r2,r3⟩:=kt9 V W hl d (i+1) ((o.set i (l+o[i])).set (i+1) (xs[i]/2^(64-n))) (by omega) (by simpa using lo) (set_lt (set_lt to U) hB) (by intro t Q hk;rw[List.getElem_set_ne (by omega),List.getElem_set_ne (by omega)];exact zo t (by simpa using Q) (by omega)) (by intro Q;rw[List.getElem_set_self];exact u3) (by rw[F];rw[Nat.pow_succ]at h2;exact up_alg h1 h2 H e)
   refine⟨r,.next ?_ it,r1,r2,r3⟩;have ac:ishr .u64 (xs[i]:Int) ((64-n:Nat):Int)=((xs[i]/2^(64-n):Nat):Int):=by rw[kb8,Nat.min_eq_left (by omega)]
   have ad:IntKind.wrap .u64 (64-(n:Int))=((64-n:Nat):Int):=by rw[wrapU];omega
   show kf6 _ _ _ _ _=_;unfold kf6;rw[condT (by rw[qbu];omega),kb4 I,qbr,kx C,qbr,condF (by rw[qbt];omega),qbr,kee C,shl,io,kbm U,qbr,condT (by rw[qbu];omega),ad,condF (by rw[qbt];omega),ko (by omega),kx (by omega),qbr,ac,kbm hB,qbr]
theorem krp{xs:List Nat}{n:Nat}(C:∀x∈xs,x<B)(F:n<=63)(H:xs.length<8796093022208):∃r,Iter kkg (.fn xs n) r/\r.length=xs.length+1/\(∀y∈r,y<B)/\num B r=num B xs*2^n:=by
 obtain⟨r,I,k⟩:=kt9 C F H xs.length 0 (List.replicate (xs.length+1) 0) (by omega) (by simp) (λy K=>by rw[List.eq_of_mem_replicate K];exact B0) (λt Q hk=>by simp) (λQ=>by simp;exact Nat.pow_pos (by decide)) (by
  have:=kgk B [] (xs.length+1)
  simpa[num]using this)
 refine⟨r,.next ?_ I,k⟩;show klp _ _=_;unfold klp;rw[ko (by omega),kdw (by omega),qbr];rfl
theorem kn_hi2{b y C W r0 q r:Nat}(hv:0<y*b+C)(e:q*y+r=W)(t:b*r+r0<q*C):(W*b+r0)/(y*b+C)<=q-1/\1<=q:=by
 have F:(W*b+r0)/(y*b+C)<q:=by rw[Nat.div_lt_iff_lt_mul hv,kn_mul (v:=y*b+C) rfl,<- e,Nat.add_mul,Nat.mul_comm r b];omega
 generalize (W*b+r0)/(y*b+C)=k at *
 omega
theorem k01{d1 d0 W r0:Nat}(Q:d1<18446744073709551616)(F:0<d1)(h0:d0<18446744073709551616)(U:r0<18446744073709551616) :
  ∀(q r:Nat),q*d1+r=W->q<18446744073709551616->r<18446744073709551616->(W*18446744073709551616+r0)/(d1*18446744073709551616+d0)<=q->
   ∃g:Nat,Iter kjc (.p4 r0 d1 d0 q r) (g:Int)/\g<18446744073709551616/\(W*18446744073709551616+r0)/(d1*18446744073709551616+d0)<=g
 | q,r,e,hq,V,y=>by
  have H:mul64 (q:Int) (d0:Int)=(((q*d0/18446744073709551616:Nat):Int),((q*d0%18446744073709551616:Nat):Int)):=ksm hq h0;by_cases c1:q*d0/18446744073709551616<r
  ·refine⟨q,.done ?_,hq,y⟩;show kgi _ _ _ _ _=_;unfold kgi;rw[H];dsimp only;rw[condT (by rw[qbu];omega)]
  by_cases c2:q*d0/18446744073709551616=r/\q*d0%18446744073709551616<=r0
  ·refine⟨q,.done ?_,hq,y⟩;show kgi _ _ _ _ _=_;unfold kgi;rw[H];dsimp only;rw[condF (by rw[qbt];omega),condT (by rw[qbu];omega),condT (by rw[qbu];omega)]
  have t:18446744073709551616*r+r0<q*d0:=by
   generalize q*d0=t at *
   omega
  obtain⟨I,k2⟩:=kn_hi2 (by omega) e t;obtain⟨p,rfl⟩:∃p,q=p+1:=⟨q-1,by omega⟩;rw[Nat.add_sub_cancel]at I
  have Z:p*d1+(r+d1)=W:=by rw[Nat.add_mul,Nat.one_mul]at e;omega
  have w1:IntKind.wrap .u64 (((p+1:Nat):Int)-1)=(p:Int):=by rw[wrapU];omega
  have step:∀o,cond (decide ((IntKind.wrap .u64 ((r:Int)+(d1:Int)))<(r:Int))) (some (Sum.inr (α:=kfz) (p:Int))) (some (.inl (.p4 r0 d1 d0 p (IntKind.wrap .u64 ((r:Int)+(d1:Int))))))=o->kjc (.p4 r0 d1 d0 ((p+1:Nat):Int) r)=o:=by intro o C;show kgi _ _ _ _ _=_;unfold kgi;rw[H];dsimp only;rw[w1,condF (by rw[qbt];omega)];refine kcx (λ_=>?_) λ_=>C;rw[condF (by rw[qbt];rename_i h;rw[qbu]at h;omega)];exact C
  by_cases C:r+d1<18446744073709551616
  ·have K:IntKind.wrap .u64 ((r:Int)+(d1:Int))=((r+d1:Nat):Int):=by rw[wrapU];omega
   obtain⟨g,it,k3,k4⟩:=k01 Q F h0 U p (r+d1) Z (by omega) C I;refine⟨g,.next (step _ ?_) it,k3,k4⟩;rw[K,condF (by rw[qbt];omega)]
  ·have K:IntKind.wrap .u64 ((r:Int)+(d1:Int))=((r+d1-18446744073709551616:Nat):Int):=by rw[wrapU];omega
   refine⟨p,.done (step _ ?_),by omega,I⟩;rw[K,condT (by rw[qbu];omega)]
termination_by q=>q
theorem kbiv{r2 r1 r0 d1 d0:Nat}(Z:r2<18446744073709551616)(F:r1<18446744073709551616)(I:r0<18446744073709551616)(H:d1<18446744073709551616)(y:0<d1)(h0:d0<18446744073709551616) :
  ∃g:Nat,Iter kjc (.fn r2 r1 r0 d1 d0) (g:Int)/\g<18446744073709551616/\(g=18446744073709551615\/((r2*18446744073709551616+r1)*18446744073709551616+r0)/(d1*18446744073709551616+d0)<=g):=by
 by_cases hc:d1<=r2
 ·refine⟨18446744073709551615,.done ?_,by omega,.inl rfl⟩;show khz _ _ _ _ _=_;unfold khz;rw[condT (by rw[qbu];omega)];rfl
 ·have C:r2<d1:=by omega
  have hq:(r2*18446744073709551616+r1)/d1<18446744073709551616:=by rw[Nat.div_lt_iff_lt_mul y];have:(r2+1)*18446744073709551616<=d1*18446744073709551616:=Nat.mul_le_mul_right _ C;omega
  have hm:=Nat.mod_lt (r2*18446744073709551616+r1) y
  have first:((r2*18446744073709551616+r1)*18446744073709551616+r0)/(d1*18446744073709551616+d0)<=(r2*18446744073709551616+r1)/d1:=by
   rw[Nat.le_div_iff_mul_le y];have K:=Nat.div_mul_le_self ((r2*18446744073709551616+r1)*18446744073709551616+r0) (d1*18446744073709551616+d0);rw[kn_mul (v:=d1*18446744073709551616+d0) rfl]at K
   have Q:((r2*18446744073709551616+r1)*18446744073709551616+r0)/(d1*18446744073709551616+d0)*d1*18446744073709551616<(r2*18446744073709551616+r1+1)*18446744073709551616:=by rw[Nat.add_mul _ 1];omega
   have:=Nat.lt_of_mul_lt_mul_right Q;omega
  obtain⟨g,U,V,W⟩:=k01 H y h0 I ((r2*18446744073709551616+r1)/d1) ((r2*18446744073709551616+r1)%d1) (by rw[Nat.mul_comm];exact Nat.div_add_mod _ _) hq (by omega) first
  refine⟨g,.next ?_ U,V,.inr W⟩;show khz _ _ _ _ _=_;unfold khz;rw[condF (by rw[qbt];omega),kyb H F C,qbr]
theorem klh{s:Nat}(hs:s<=64):2^(64-s)*2^s=18446744073709551616:=by rw[<- Nat.pow_add,show 64-s+s=64 from by omega]
theorem k92{s:Nat}(hs:s<=64)(t:List Nat):num B t%2^s=t.getD 0 0%2^s:=by
 cases t with
 | nil=>rfl
 | cons x t =>
  show(x+B*num B t)%2^s=x%2^s
  have e:B*num B t=2^s*(2^(64-s)*num B t):=by rw[<- Nat.mul_assoc,Nat.mul_comm (2^s),klh hs]
  rw[e,Nat.add_mul_mod_self_left]
theorem kbci{s x:Nat}(hs:s<=64)(t:List Nat):(x+B*num B t)/2^s=(t.getD 0 0%2^s*2^(64-s)+x/2^s)+B*(num B t/2^s):=by
 have p:0<2^s:=Nat.pow_pos (by decide);have C:=k92 hs t;have y:=Nat.div_add_mod (num B t) (2^s);rw[C]at y;generalize t.getD 0 0%2^s=z at *
 generalize num B t/2^s=q at *
 have e:x+B*num B t=x+2^s*(B*q+2^(64-s)*z):=by rw[<- y,Nat.mul_add,Nat.mul_add,Nat.mul_left_comm B,<- Nat.mul_assoc (2^s) (2^(64-s)),Nat.mul_comm (2^s) (2^(64-s)),klh hs]
 rw[e,Nat.add_mul_div_left _ _ p,Nat.mul_comm (2^(64-s))];omega
theorem kbip{s x z:Nat}(hs:s<=64)(y:x<18446744073709551616):z%2^s*2^(64-s)+x/2^s<18446744073709551616/\x/2^s<2^(64-s)/\z%2^s*2^(64-s)<18446744073709551616:=by
 have p:0<2^s:=Nat.pow_pos (by decide);have e:=klh hs;have F:x/2^s<2^(64-s):=by rw[Nat.div_lt_iff_lt_mul p,e];exact y
 have C:=Nat.mul_le_mul_right (2^(64-s)) (Nat.mod_lt z p);rw[Nat.mul_comm (2^s),e,Nat.succ_mul]at C;generalize x/2^s=f at *
 omega
theorem knt{q L:List Nat}{s:Nat}(Q:∀x∈L,x<B)(hs:s<=63)(U:L.length<=8796093022208) :
  ∀(d i:Nat)(o:List Nat),i+d=L.length->o.length=L.length->num B (o.take i)+B^i*(num B (L.drop i)/2^s)=num B L/2^s->
   Iter ki4 (.p18 s q L o L.length i) (digs B (num B q),digs B (num B L/2^s))
 | 0,i,o,V,lo,e=>by
  have V:i=L.length:=by omega
  subst V;refine .done ?_;show ken _ _ _ _ _ _=_;unfold ken;rw[condF (by rw[qbt];omega)];rw[List.take_of_length_le (by omega),List.drop_of_length_le (by omega)]at e;simp only[num,Nat.zero_div,Nat.mul_zero,Nat.add_zero]at e;rw[e]
 | d+1,i,o,V,lo,e=>by
  have C:i<L.length:=by omega
  have y:i<o.length:=by omega
  have hx:L[i]<18446744073709551616:=Q L[i] (qb0 _);obtain⟨w1,w2,w3⟩:=kbip (z:=(L.drop (i+1)).getD 0 0) (show s<=64 by omega) hx;have hg:(L.drop (i+1)).getD 0 0=L.getD (i+1) 0:=by simp[List.getD]
  have inv:∀w,w=(L.drop (i+1)).getD 0 0%2^s*2^(64-s)+L[i]/2^s->num B ((o.set i w).take (i+1))+B^(i+1)*(num B (L.drop (i+1))/2^s)=num B L/2^s:=by intro w hw;rw[qcd C]at e;simp only[num]at e;rw[kbci (by omega),<- hw]at e;rw[kc2 B (by simpa using y),List.getElem_set_self,List.take_set_of_le (qbn i),Nat.pow_succ,Nat.mul_assoc];rw[Nat.mul_add]at e;omega
  have W:ishr .u64 (L[i]:Int) (s:Int)=((L[i]/2^s:Nat):Int):=by rw[kb8,Nat.min_eq_left (by omega)]
  have F:L[i]/2^s<18446744073709551616:=qbq (Nat.div_le_self _ _) hx;by_cases Z:s=0
  ·subst Z;refine .next (s':=.p18 ((0:Nat):Int) q L (o.set i (L[i]/2^0)) L.length ((i+1:Nat):Int)) ?_ (knt Q hs U d (i+1) _ (by omega) (by simpa using lo) (inv _ (by rw[Nat.pow_zero,Nat.mod_one];omega)));show ken _ _ _ _ _ _=_;unfold ken;rw[condT (by rw[qbu];omega),kb4 C,qbr,condF (by rfl),kx y,qbr,W,kbm F,qbr,condF (by rfl),ko (by omega)]
  by_cases H:i+1<L.length
  ·have I:L.getD (i+1) 0=L[i+1]:=kee H;rw[hg,I]at w1 w3 inv;refine .next (s':=.p18 s q L (o.set i (L[i+1]%2^s*2^(64-s)+L[i]/2^s)) L.length ((i+1:Nat):Int)) ?_ (knt Q hs U d (i+1) _ (by omega) (by simpa using lo) (inv _ rfl));show ken _ _ _ _ _ _=_;unfold ken;have aa:IntKind.wrap .u64 (64-(s:Int))=((64-s:Nat):Int):=by rw[wrapU];omega
   have sl:ishl .u64 (L[i+1]:Int) ((64-s:Nat):Int)=((L[i+1]%2^s*2^(64-s):Nat):Int):=by rw[ki7 _ _ (by omega)];congr 1;rw[<- klh (show s<=64 by omega),Nat.mul_comm (2^(64-s)) (2^s),Nat.mul_mod_mul_right]
   have io:ior .u64 ((L[i]/2^s:Nat):Int) ((L[i+1]%2^s*2^(64-s):Nat):Int)=((L[i+1]%2^s*2^(64-s)+L[i]/2^s:Nat):Int):=by rw[ks7,koc w3 w2 (by omega)]
   have K:i<(o.set i (L[i]/2^s)).length:=by simpa using y
   rw[condT (by rw[qbu];omega),kb4 C,qbr,condF (by rw[qbt];omega),kx y,qbr,W,kbm F,qbr,condT (by rw[qbu];omega),ko (by omega),condT (by rw[qbu];omega),qbr,kb4 H,qbr,aa,condF (by rw[qbt];omega),qbr,kee K,List.getElem_set_self,sl,io,kbm w1,qbr,List.set_set]
  ·have I:L.getD (i+1) 0=0:=by simp[List.getD,List.getElem?_eq_none (Nat.le_of_not_lt H)]
   rw[hg,I]at inv;refine .next (s':=.p18 s q L (o.set i (L[i]/2^s)) L.length ((i+1:Nat):Int)) ?_ (knt Q hs U d (i+1) _ (by omega) (by simpa using lo) (inv _ (by rw[Nat.zero_mod];omega)));show ken _ _ _ _ _ _=_;unfold ken;rw[condT (by rw[qbu];omega),kb4 C,qbr,condF (by rw[qbt];omega),kx y,qbr,W,kbm F,qbr,condT (by rw[qbu];omega),ko (by omega),condF (by rw[qbt];omega)]
theorem cmp_ge{a b:Nat}:cmp a b>=0↔b<=a:=by
 unfold cmp;by_cases h:a<b
 ·rw[if_pos h];omega
 ·rw[if_neg h];by_cases y:a=b
  ·rw[if_pos y];omega
  ·rw[if_neg y];omega
theorem k4q{xs ys:List Nat}{lo n:Nat}(h:lo+n<=xs.length)(y:ys.length=n):setW xs lo n ys=some (xs.take lo++ys++xs.drop (lo+n)):=by unfold setW;rw[if_pos ⟨h,y⟩]
theorem k2e{s:Int}{r d q:List Nat}{j:Nat}{res:kck}(V:∀x∈r,x<B)(Z:∀x∈d,x<B)(W:j<q.length)(hw:j+(d.length+1)<=r.length)(H:r.length<=1073741823)(I:q.length<=1073741823)(y:0<num B d)
  (K:Iter ki4 (.p6 s (r.take j++padD B (d.length+1) (num B ((r.drop j).take (d.length+1))%num B d)++r.drop (j+(d.length+1))) d d.length (q.set j (num B ((r.drop j).take (d.length+1))/num B d)) ((j:Int)-1)) res) :
  ∀g:Nat,g<18446744073709551616->num B ((r.drop j).take (d.length+1))/num B d<=g->Iter ki4 (.p10 s r d d.length q j g (j,d.length+1)) res
 | g,Q,U=>by
  have C:((r.drop j).take (d.length+1)).length=d.length+1:=by simp;omega
  have tw:∀x∈(r.drop j).take (d.length+1),x<B:=λx hx=>V x (List.mem_of_mem_drop (List.mem_of_mem_take hx));have hP:=num_lt B1 tw;rw[C]at hP
  have lg:(digs B g).length<=1:=by rw[kbg B2,Nat.pow_one];exact Q
  by_cases F:num B d*g<=num B ((r.drop j).take (d.length+1))
  ·have hq:num B ((r.drop j).take (d.length+1))/num B d=g:=Nat.le_antisymm U (by rw[Nat.le_div_iff_mul_le y,Nat.mul_comm];exact F)
   have hm:num B ((r.drop j).take (d.length+1))-num B d*g=num B ((r.drop j).take (d.length+1))%num B d:=by have:=Nat.div_add_mod (num B ((r.drop j).take (d.length+1))) (num B d);rw[hq]at this;omega
   rw[hq]at K;refine .next ?_ K;show khw _ _ _ _ _ _ _ _=_;unfold khw
   have lp:(digs B (num B d*g)).length<=d.length+1:=by rw[kbg B2];omega
   rw[kbm Q,qbr,ky (by omega),qbr,ky (by rw[C];omega),qbr,ky (khs B2 _),qbr,ky (khs B2 _),qbr];dsimp only;rw[kg B2,kg B2,kg B2,condT (by rw[qbu,cmp_ge];exact F),ky (by rw[C];exact⟨by omega,lp,F⟩),qbr,C,hm,k4q (by omega) (kvb _ _ _),qbr,kx W,qbr,qbr,wrap64 (by omega) (by omega)]
  ·obtain⟨p,rfl⟩:∃p,g=p+1:=⟨g-1,by
    rcases Nat.eq_zero_or_pos g with e | e
    ·subst e;rw[Nat.mul_zero]at F;omega
    ·omega⟩
   have aa:num B ((r.drop j).take (d.length+1))/num B d<p+1:=by rw[Nat.div_lt_iff_lt_mul y,Nat.mul_comm];omega
   refine .next (s':=.p10 s r d d.length q j p (j,d.length+1)) ?_ (k2e V Z W hw H I y K p (by omega) (by omega));show khw _ _ _ _ _ _ _ _=_;unfold khw;rw[kbm Q,qbr,ky (by omega),qbr,ky (by rw[C];omega),qbr,ky (khs B2 _),qbr,ky (khs B2 _),qbr];dsimp only;rw[kg B2,kg B2,kg B2,condF (by rw[qbt,cmp_ge];exact F),show IntKind.wrap .u64 (((p+1:Nat):Int)-1)=(p:Int)from by rw[wrapU];omega]
termination_by g=>g
end Go.Ab
set_option maxRecDepth 10000
namespace Go.Ab
open IntKind (wrap)
open Go.Proofs Go.Num
theorem kbed{b:Nat}{zs:List Nat}{n:Nat}(h:zs.length=n+2):num b zs=num b (zs.take n)+b^n*(zs[n+1]*b+zs[n]):=by
 have e:num b zs=num b (zs.take (n+1+1)):=by rw[List.take_of_length_le (by omega)]
 rw[e,kc2 b (by omega),kc2 b (by omega),Nat.pow_succ,Nat.mul_add,Nat.mul_assoc,Nat.mul_comm b];omega
theorem k8i{b:Nat}{zs:List Nat}{n:Nat}(h:zs.length=n+3):num b zs=num b (zs.take n)+b^n*((zs[n+2]*b+zs[n+1])*b+zs[n]):=by
 have e:num b zs=num b (zs.take (n+1+1+1)):=by rw[List.take_of_length_le (by omega)]
 rw[e,kc2 b (by omega),kc2 b (by omega),kc2 b (by omega)];have y:b^(n+1)*zs[n+1]=b^n*(zs[n+1]*b):=by rw[Nat.pow_succ,Nat.mul_assoc,Nat.mul_comm b]
 have C:b^(n+1+1)*zs[n+1+1]=b^n*(zs[n+2]*b*b):=by rw[Nat.pow_succ,Nat.pow_succ,Nat.mul_assoc,Nat.mul_assoc,Nat.mul_comm b,Nat.mul_comm b]
 rw[y,C,Nat.add_mul,Nat.mul_add,Nat.mul_add];omega
theorem top_le{E T D p e:Nat}(hp:p<E)(y:0<D):(p+E*T)/(e+E*D)<=T/D:=by
 have C:0<E:=by omega
 have hv:0<e+E*D:=by have:=Nat.mul_pos C y;omega
 have F:T<(T/D+1)*D:=by rw[Nat.mul_comm];exact Nat.lt_mul_div_succ T y
 have H:E*(T+1)<=E*((T/D+1)*D):=Nat.mul_le_mul_left _ F;rw[Nat.mul_add,Nat.mul_one]at H
 have I:(p+E*T)/(e+E*D)<T/D+1:=by rw[Nat.div_lt_iff_lt_mul hv,Nat.mul_add,Nat.mul_left_comm _ E D];omega
 omega
theorem kbiq{y P low C X F n1:Nat}(K:n1+y*(C*18446744073709551616)*F=X)(Q:n1=low+C*P):low+C*(P%y)+y*C*(P/y+18446744073709551616*F)=X:=by
 have H:=Nat.div_add_mod P y;have U:C*P=C*(y*(P/y))+C*(P%y):=by rw[<- Nat.mul_add,H]
 have I:y*C*(P/y)=C*(y*(P/y)):=by rw[Nat.mul_comm y C,Nat.mul_assoc]
 have e3:y*(C*18446744073709551616)*F=y*C*(18446744073709551616*F):=by rw[<- Nat.mul_assoc y,Nat.mul_assoc (y*C)]
 rw[Nat.mul_add,I,<- e3];omega
theorem k02{s X m k:Nat}{d:List Nat}(hs:s<=63)(hk:d.length=k+2)(I:∀x∈d,x<B)(ht:Trim d)(hm:m<=536870911)(ac:k<=536870000) :
  ∀(i:Nat)(r q:List Nat),i<=m->r.length=m+(k+2)->q.length=m->(∀x∈r,x<B)->num B r+num B d*B^i*num B (q.drop i)=X->num B r<num B d*B^i->
   Iter ki4 (.p6 s r d d.length q ((i:Int)-1)) (digs B (X/num B d),digs B (X%num B d/2^s))
 | 0,r,q,hi,lr,lq,tr,e,lt=>by
  rw[List.drop_zero,Nat.pow_zero,Nat.mul_one]at e;rw[Nat.pow_zero,Nat.mul_one]at lt;have F:0<num B d:=by omega
  have hq:X/num B d=num B q:=by rw[<- e,Nat.add_mul_div_left _ _ F,Nat.div_eq_of_lt lt,Nat.zero_add]
  have hr:X%num B d=num B r:=by rw[<- e,Nat.add_mul_mod_self_left,Nat.mod_eq_of_lt lt]
  rw[hq,hr];have hl:=kl6 tr;have key:=knt (q:=q) (kcf B2 (num B r)) hs (by omega) (digs B (num B r)).length 0 (List.replicate (digs B (num B r)).length 0) (by omega) (by simp) (by simp[num]);rw[kg B2]at key;refine .next ?_ key;show kii _ _ _ _ _ _=_;unfold kii;rw[condF (by rw[qbt];omega),kdw (by omega),qbr];rfl
 | j+1,r,q,hi,lr,lq,tr,e,lt=>by
  have F:0<num B d:=by
   rcases Nat.eq_zero_or_pos (num B d)with h | h
   ·rw[h,Nat.zero_mul]at lt;omega
   ·exact h
  have ad:=num_lt B1 I;rw[hk]at ad;have lw:((r.drop j).take (d.length+1)).length=k+3:=by simp;omega
  have tw:∀x∈(r.drop j).take (d.length+1),x<B:=λx y=>tr x (List.mem_of_mem_drop (List.mem_of_mem_take y));have C:(r.take j).length=j:=by simp;omega
  have er:num B r=num B (r.take j)+B^j*num B ((r.drop j).take (d.length+1))+B^(j+(d.length+1))*num B (r.drop (j+(d.length+1))):=by
   have e1:num B r=num B (r.take j++((r.drop j).take (d.length+1)++(r.drop j).drop (d.length+1))):=by rw[List.take_append_drop,List.take_append_drop]
   rw[kfh,kfh,C,lw,List.drop_drop]at e1;have e3:j+(k+3)=j+(d.length+1):=by omega
   rw[e1,Nat.mul_add (B^j),<- Nat.mul_assoc (B^j),<- Nat.pow_add,e3];omega
  have K:=num_lt (b:=B) B1 (xs:=r.take j) λx y=>tr x (List.mem_of_mem_take y);rw[C]at K
  have H:num B (r.drop (j+(d.length+1)))=0:=by
   rcases Nat.eq_zero_or_pos (num B (r.drop (j+(d.length+1))))with h | h
   ·exact h
   ·exfalso;have h1:B^(j+(d.length+1))*1<=B^(j+(d.length+1))*num B (r.drop (j+(d.length+1))):=Nat.mul_le_mul_left _ h;have h2:num B d*B^(j+1)<=B^(k+2)*B^(j+1):=Nat.mul_le_mul_right _ (by omega);rw[<- Nat.pow_add,show k+2+(j+1)=j+(d.length+1)from by omega]at h2;omega
  rw[H,Nat.mul_zero,Nat.add_zero]at er
  have hP:num B ((r.drop j).take (d.length+1))<num B d*B:=by
   have h1:B^j*num B ((r.drop j).take (d.length+1))<B^j*(num B d*B):=by
    have:num B d*B^(j+1)=B^j*(num B d*B):=by rw[Nat.pow_succ,Nat.mul_left_comm]
    omega
   exact Nat.lt_of_mul_lt_mul_left h1
  have hq:num B ((r.drop j).take (d.length+1))/num B d<18446744073709551616:=by rw[Nat.div_lt_iff_lt_mul F,Nat.mul_comm];exact hP
  have i2:j+(k+2)<r.length:=by omega
  have i1:j+(k+1)<r.length:=by omega
  have i0:j+k<r.length:=by omega
  have g2:((r.drop j).take (d.length+1))[k+2]=r[j+(k+2)]:=by simp
  have g1:((r.drop j).take (d.length+1))[k+1]=r[j+(k+1)]:=by simp
  have g0:((r.drop j).take (d.length+1))[k]=r[j+k]:=by simp
  have Q:=k8i (b:=B) lw;rw[g2,g1,g0]at Q;have U:=kbed (b:=B) hk
  have V:0<d[k+1]:=by
   have ae:d≠[]:=by intro h;rw[h]at hk;simp at hk
   have:=ht ae;rw[List.getLast_eq_getElem]at this;have e:d.length-1=k+1:=by omega
   simp only[e]at this;omega
  have af:(((r.drop j).take (d.length+1)).take k).length=k:=by simp;omega
  have W:=num_lt (b:=B) B1 (xs:=((r.drop j).take (d.length+1)).take k) λx y=>tw x (List.mem_of_mem_take y);rw[af]at W;have tl:=top_le (E:=B^k) (T:=(r[j+(k+2)]*B+r[j+(k+1)])*B+r[j+k]) (D:=d[k+1]*B+d[k]) (e:=num B (d.take k)) W (by have:1*B<=d[k+1]*B:=Nat.mul_le_mul_right _ V;have:=B0;omega);rw[<- Q,<- U]at tl;obtain⟨g,ag,ah,ai⟩:=kbiv (r2:=r[j+(k+2)]) (r1:=r[j+(k+1)]) (r0:=r[j+k]) (d1:=d[k+1]) (d0:=d[k]) (tr _ (qb0 _)) (tr _ (qb0 _)) (tr _ (qb0 _)) (I _ (qb0 _)) V (I _ (qb0 _))
  have aj:num B ((r.drop j).take (d.length+1))/num B d<=g:=by
   rcases ai with h | h
   ·omega
   ·exact qbo tl h
  have Z:=Nat.mod_lt (num B ((r.drop j).take (d.length+1))) F
  have ak:num B (padD B (d.length+1) (num B ((r.drop j).take (d.length+1))%num B d))=num B ((r.drop j).take (d.length+1))%num B d:=by refine k2r B0 _ _ ?_;have:B^(k+2)<=B^(d.length+1):=Nat.pow_le_pow_right B1 (by omega);omega
  have nr:num B (r.take j++padD B (d.length+1) (num B ((r.drop j).take (d.length+1))%num B d)++r.drop (j+(d.length+1)))=num B (r.take j)+B^j*(num B ((r.drop j).take (d.length+1))%num B d):=by rw[kfh,kfh,H,Nat.mul_zero,Nat.add_zero,C,ak]
  have aa:j<q.length:=by omega
  have IH:=k02 (s:=s) (X:=X) hs hk I ht hm ac j (r.take j++padD B (d.length+1) (num B ((r.drop j).take (d.length+1))%num B d)++r.drop (j+(d.length+1))) (q.set j (num B ((r.drop j).take (d.length+1))/num B d)) (by omega) (by simp[kvb];omega) (by simpa using lq) (by
    intro x y;rcases qb2.1 y with y | y
    ·rcases qb2.1 y with y | y
     ·exact tr x (List.mem_of_mem_take y)
     ·exact kzk B0 _ _ x y
    ·exact tr x (List.mem_of_mem_drop y)) (by
    rw[nr,k2o aa];simp only[num];rw[Nat.pow_succ]at e;exact kbiq e er) (by
    rw[nr];have:B^j*(num B ((r.drop j).take (d.length+1))%num B d+1)<=B^j*num B d:=Nat.mul_le_mul_left _ Z;rw[Nat.mul_add,Nat.mul_one,Nat.mul_comm _ (num B d)]at this;omega)
  refine .next (s':=.p10 s r d d.length q j g (j,d.length+1)) ?_ (k2e tr I aa (by omega) (by omega) (by omega) F IH g ah aj);show kii _ _ _ _ _ _=_;unfold kii;have w0:wrap .i64 ((j:Int)+(d.length:Int))=((j+(k+2):Nat):Int):=by rw[wrap64 (by omega) (by omega)];omega
  rw[condT (by rw[qbu];omega),show((j+1:Nat):Int)-1=(j:Int)from by omega,w0];rw[show wrap .i64 (((j+(k+2):Nat):Int)-1)=((j+(k+1):Nat):Int)from by rw[wrap64 (by omega) (by omega)];omega];rw[show wrap .i64 (((j+(k+2):Nat):Int)-2)=((j+k:Nat):Int)from by rw[wrap64 (by omega) (by omega)];omega];rw[show wrap .i64 ((d.length:Int)-1)=((k+1:Nat):Int)from by rw[wrap64 (by omega) (by omega)];omega];rw[show wrap .i64 ((d.length:Int)-2)=(k:Int)from by rw[wrap64 (by omega) (by omega)];omega];rw[show wrap .i64 (((j+(k+2):Nat):Int)+1)=((j+(d.length+1):Nat):Int)from by rw[wrap64 (by omega) (by omega)];omega];rw[kx i2,qbr,kx i1,qbr,kx i0,qbr,kb4 (by omega),qbr,kb4 (by omega),qbr,kee i2,kee i1,kee i0,kc4 ag,qbr,kv4 (by omega) (by omega),qbr]
end Go.Ab
set_option maxRecDepth 10000
namespace Go.Ab
open Go.Proofs Go.Num
theorem k79{xs ys:List Nat}(lx:∀x∈xs,x<B)(U:∀x∈ys,x<B)(ty:Trim ys)(hy:2<=ys.length)(ah:xs.length<=64)(ai:ys.length<=xs.length) :
  Iter ki4 (.fn xs ys) (digs B (num B xs/num B ys),digs B (num B xs%num B ys)):=by
 obtain⟨k,hk⟩:∃k,ys.length=k+2:=⟨ys.length-2,by omega⟩;have y:k+1<ys.length:=by omega
 have V:0<ys[k+1]:=by
  have W:ys≠[]:=by intro h;rw[h]at hk;simp at hk
  have:=ty W;rw[List.getLast_eq_getElem]at this;have e:ys.length-1=k+1:=by omega
  simp only[e]at this;omega
 have Z:ys[k+1]<18446744073709551616:=U _ (qb0 _);obtain⟨hs,aa,ac⟩:=kxo Z V;obtain⟨r,ad,lr,tr,vr⟩:=krp (n:=64-bl ys[k+1]) lx hs (by omega);obtain⟨p,ae,lp,tp,I⟩:=krp (n:=64-bl ys[k+1]) U hs (by omega);have C:64-bl ys[k+1]<=63:=hs;generalize af:64-bl ys[k+1]=s at *
 have ps:0<2^s:=Nat.pow_pos (by decide);have F:=klh (show s<=64 by omega)
 have aj:num B ys=num B (ys.take (k+1))+B^(k+1)*ys[k+1]:=by
  have:num B ys=num B (ys.take (k+1+1)):=by rw[List.take_of_length_le (by omega)]
  rw[this,kc2 B y]
 have H:=num_lt (b:=B) B1 (xs:=ys.take (k+1)) λx hx=>U x (List.mem_of_mem_take hx);have ag:(ys.take (k+1)).length=k+1:=by simp;omega
 rw[ag]at H
 have y1:ys[k+1]+1<=2^(64-s):=by have:ys[k+1]<2^(64-s):=Nat.lt_of_mul_lt_mul_right (a:=2^s) (by rw[F];exact ac);omega
 have up:num B ys*2^s<B^(k+2):=by
  have h1:num B ys<B^(k+1)*(ys[k+1]+1):=by rw[Nat.mul_add,Nat.mul_one];omega
  have K:B^(k+1)*(ys[k+1]+1)<=B^(k+1)*2^(64-s):=Nat.mul_le_mul_left _ y1;have Q:num B ys*2^s<B^(k+1)*2^(64-s)*2^s:=Nat.mul_lt_mul_of_pos_right (by omega) ps;rw[Nat.mul_assoc,F]at Q;exact Q
 have lo:B^(k+1)*9223372036854775808<=num B ys*2^s:=by
  have h1:B^(k+1)*ys[k+1]<=num B ys:=by omega
  have K:=Nat.mul_le_mul_right (2^s) h1;rw[Nat.mul_assoc]at K;exact qbo (Nat.mul_le_mul_left _ aa) K
 have ld:(digs B (num B p)).length=k+2:=by
  rw[I];refine Nat.le_antisymm ((kbg B2 _ _).2 up) ?_;rcases Nat.lt_or_ge (digs B (num B ys*2^s)).length (k+2)with h | h
  ·have:=(kbg B2 (num B ys*2^s) (k+1)).1 (by omega);omega
  ·exact h
 have hX:num B r<num B p*B^(xs.length+1-(k+2)):=by rw[vr,I];have h1:num B xs*2^s<B^xs.length*2^s:=Nat.mul_lt_mul_of_pos_right (num_lt B1 lx) ps;have K:B^xs.length*2^s<=B^xs.length*9223372036854775808:=Nat.mul_le_mul_left _ (show 2^s<=2^63 from Nat.pow_le_pow_right (by decide) C);have Q:=Nat.mul_le_mul_right (B^(xs.length+1-(k+2))) lo;rw[Nat.mul_right_comm,<- Nat.pow_add,show k+1+(xs.length+1-(k+2))=xs.length from by omega]at Q;omega
 have key:=k02 (s:=s) (X:=num B xs*2^s) (m:=xs.length+1-(k+2)) (k:=k) (d:=digs B (num B p)) C ld (kcf B2 _) (khs B2 _) (by omega) (by omega) (xs.length+1-(k+2)) r (List.replicate (xs.length+1-(k+2)) 0) (qbn _) (by rw[lr];omega) (by simp) tr (by simp[num,vr]) (by rw[kg B2];exact hX);rw[kg B2,I,Nat.mul_div_mul_right _ _ ps,Nat.mul_mod_mul_right,Nat.mul_div_cancel _ ps]at key;refine .next ?_ key;show kmn _ _=_;unfold kmn;have w1:IntKind.wrap .i64 ((ys.length:Int)-1)=((k+1:Nat):Int):=by rw[wrap64 (by omega) (by omega)];omega
 have w2:IntKind.wrap .u64 ((s:Nat):Int)=(s:Int):=kgd (by omega);have w3:IntKind.wrap .i64 ((r.length:Int)-((digs B (num B p)).length:Int))=((xs.length+1-(k+2):Nat):Int):=by rw[lr,ld,wrap64 (by omega) (by omega)];omega
 rw[w1,kb4 y,qbr,ky (by omega),qbr,Int.toNat_natCast,af,w2,kc4 ad,qbr,kc4 ae,qbr,w3,kdw (by omega),qbr,<- I,qb5,wrap64 (by omega) (by omega)]
theorem kbid{h:AH}{s t:Sl}{xs ys:List Nat}(n:Nats h s xs)(m:Nats h t ys)(ty:Trim ys)(F:2<=ys.length)(y:xs.length<=64)(C:ys.length<=xs.length) :
  ∃(a b:Sl)(h':AH),go (.fn kcg [s.v,t.v]) h=some (.tup [a.v,b.v],h')/\Nats h' a (digs B (num B xs/num B ys))/\Nats h' b (digs B (num B xs%num B ys))/\Grow h h'/\Own h a/\Own h b:=by
 obtain⟨_,h',e,a,b,rfl,k⟩:=kbh1 (k79 n.lt m.lt ty F y C) n m;exact⟨a,b,h',e,k⟩
theorem kbkw{h:AH}{i:Nat}{a b:Sl}{xs ys:List Nat}(c:h.has i [a.v,b.v] kr)(n:Nats h a xs)(m:Nats h b ys):go (.fn kg0 [(⟨some (.new i 0),2,.is 2⟩:Sl).v]) h=some (.bool (rt xs&&rt ys),h):=by
 have r:Rows h ⟨some (.new i 0),2,.is 2⟩ [(a,xs),(b,ys)]:=⟨qo c rfl,λp hp=>by
  simp at hp;rcases hp with rfl | rfl
  ·exact n
  ·exact m,by simp⟩
 rw[klg r];simp
theorem kbf2{h:AH}{s:Sl}{xs:List Nat}(n:Nats h s xs)(d:Int)(c:0<d/\d<18446744073709551616/\xs.length<=8796093022208):∃(s':Sl)(h':AH),go (.fn kgh [s.v,.int .u64 d]) h=some (.tup [s'.v,.int .u64 ((num B xs%d.toNat:Nat):Int)],h')/\Nats h' s' (digs B (num B xs/d.toNat))/\Grow h h'/\Own h s':=by obtain⟨x,rfl⟩:∃x:Nat,d=(x:Int):=⟨d.toNat,by omega⟩;rw[Int.toNat_natCast];exact kbam n (show x<18446744073709551616 by omega) (by omega) c.2.2
theorem Nats.of_has1{h:AH}{i:Nat}{e:TypeId}{v:Int}{x:Nat}(b:h.has i [.int .u64 v] e)(z:u64P v=some x):Nats h ⟨some (.new i 0),1,.is 1⟩ [x]:=by obtain⟨rfl,y⟩:=kuh z;exact Nats.of_has (xs:=[x]) b (by simpa using y) (by simp)
abbrev qbk:=@Nats.of_has1
theorem kbgf{h:AH}{s:Sl}{xs:List Nat}(n:Nats h s xs):kcc Pg kf s.v h=some (xs.map u64,xs.length):=by have c:=n.cells;rw[<- kr3]at c;rw[ktx c,n.len]
inductive kjw
 | fn (x1:List Nat) (x2:List Nat)
 | no
abbrev kh9:=List Nat×List Nat×Int
noncomputable def kk8(x1 x2:List Nat):Option (kjw⊕kh9):=cond (!((rt x1&&rt x2))) (some (.inr ([],[],1))) (cond (decide ((List.length x2:Int)=0)) (some (.inr ([],[],3))) ((need (Trim x1)).bind λQ=>(need (Trim x2)).bind λU=>cond (decide ((cmp (num B x1) (num B x2))<0)) ((need (List.length x1<=8796093022208)).bind λV=>some (.inr ([],x1,0))) (cond (decide ((List.length x2:Int)=1)) ((atI x2 0).bind λy=>(need (0<((y:Int))/\((y:Int))<18446744073709551616/\List.length x1<=8796093022208)).bind λC=>(u64P (((num B x1%Int.toNat ((y:Int)):Nat):Int))).bind λp12=>some (.inr (digs B (num B x1/Int.toNat ((y:Int))),digs B p12,0))) ((need (Trim x2)).bind λF=>(need (2<=List.length x2)).bind λH=>(need (List.length x1<=64)).bind λI=>(need (List.length x2<=List.length x1)).bind λK=>some (.inr (digs B (num B x1/num B x2),digs B (num B x1%num B x2),0))))))
noncomputable def k1p:kjw->Option (kjw⊕kh9)
 | .fn x1 x2=>kk8 x1 x2
 | .no=>none
@[reducible] def k4w(h0:AH)(r:kh9)(v:AV)(h':AH):Prop:=∃s1:Sl,∃s2:Sl,v=.tup [s1.v,s2.v,.i r.2.2]/\Nats h' s1 r.1/\Nats h' s2 r.2.1/\Grow h0 h'/\Own h0 s1/\Own h0 s2
def kun(r:kh9):kjw->Prop
 | .fn x1 x2=>∀{h:AH}{a1:Sl}{a2:Sl},Nats h a1 x1->Nats h a2 x2->Runs (go (.fn kcw [a1.v,a2.v]) h) (k4w h r)
 | .no=>True
theorem k6w{r:kh9}{o:kjw⊕kh9}{x1 x2:List Nat}(e:kk8 x1 x2=some o)(C:GoodS (kun r) r o):kun r (.fn x1 x2):=by
 intro h a1 a2 n1 n2;rw[kbhc];unfold kk8 at e;rw[n2.len];refine qx λH3 b3 y=>?_;refine qw (kbkw b3 (n1.grow y) (n2.grow y)) (qw (seen rfl) ?_);refine qba (λk5=>?_) (λk5=>?_)
 ·replace e:=(condT k5).symm.trans e;cases e;cases C;exact qu ⟨(⟨none,0,.is 0⟩:Sl),(⟨none,0,.is 0⟩:Sl),rfl,(qq _),(qq _),y,(qp _),(qp _)⟩
 ·replace e:=(condF k5).symm.trans e;refine qba (λk6=>?_) (λk6=>?_)
  ·replace e:=(condT k6).symm.trans e;cases e;cases C;exact qu ⟨(⟨none,0,.is 0⟩:Sl),(⟨none,0,.is 0⟩:Sl),rfl,(qq _),(qq _),y,(qp _),(qp _)⟩
  ·replace e:=(condF k6).symm.trans e;obtain⟨U,bf,e⟩:=qbs.1 e;obtain⟨V,bg,e⟩:=qbs.1 e;refine qw (knk (n1.grow y) (n2.grow y)  U.down V.down) (qw (seen qcl) ?_);refine qba (λk8=>?_) (λk8=>?_)
   ·replace e:=(condT k8).symm.trans e;obtain⟨W,bh,e⟩:=qbs.1 e;obtain⟨s9,H9,e9,n9,g9,o9⟩:=kkf (n1.grow y)  W.down;refine qw e9 (qw (seen qck) ?_);cases e;cases C;exact qu ⟨(⟨none,0,.is 0⟩:Sl),s9,rfl,(qq _),n9,(y.trans g9),(qp _),(o9.of_le y)⟩
   ·replace e:=(condF k8).symm.trans e;refine qba (λk9=>?_) (λk9=>?_)
    ·replace e:=(condT k9).symm.trans e;obtain⟨af,ag,e⟩:=qbs.1 e;obtain⟨bi,ah,ai⟩:=(n2.grow y).atI ag;refine qw ah (qw (rdc ai qcl) ?_);obtain⟨F,aj,e⟩:=qbs.1 e;obtain⟨ak,bj,al,am,Z,an⟩:=kbf2 (n1.grow y) ((af:Int))  F.down;refine qw al (qw rfl (qw (seen qck) (qw (seen qcl) ?_)));obtain⟨p12,ap,e⟩:=qbs.1 e;obtain⟨aq,bk,ar,au,aa,aw⟩:=kpf ap;refine qw ar (qw (seen qck) ?_);cases e;cases C;exact qu ⟨ak,aq,rfl,(am.grow aa),au,((y.trans Z).trans aa),(an.of_le y),(aw.of_le (y.trans Z))⟩
    ·replace e:=(condF k9).symm.trans e;obtain⟨H,ax,e⟩:=qbs.1 e;obtain⟨I,ay,e⟩:=qbs.1 e;obtain⟨K,az,e⟩:=qbs.1 e;obtain⟨Q,a0,e⟩:=qbs.1 e;obtain⟨ba,ac,bm,bb,bc,ad,bd,be,ae⟩:=kbid (n1.grow y) (n2.grow y)  H.down I.down K.down Q.down;refine qw bb (qw rfl (qw (seen qck) (qw (seen qck) ?_)));cases e;cases C;exact qu ⟨ba,ac,rfl,bc,ad,(y.trans bd),(be.of_le y),(ae.of_le y)⟩
theorem kbc8{s:kjw}{r:kh9}(C:Iter k1p s r):kun r s:=qbe (λs o e y=>by
 cases s with
 | fn x1 x2=>exact @k6w _ _ x1 x2 e y
 | no=>exact True.intro
 ) C
def divN(xs ys:List Nat):List Nat×List Nat×Int:=if rt xs=true/\rt ys=true then(if ys=[]then([],[],3)else(digs B (num B xs/num B ys),digs B (num B xs%num B ys),0))else([],[],1)
theorem kyx{b:Nat}(y:1<=b){xs:List Nat}(t:Trim xs)(h:xs≠[]):0<num b xs:=by
 rcases Nat.eq_zero_or_pos (num b xs)with e | e
 ·exact absurd (kr5 y t e) h
 ·exact e
theorem cmp_lt{a b:Nat}:cmp a b<0↔a<b:=by
 unfold cmp;by_cases h:a<b
 ·rw[if_pos h];omega
 ·rw[if_neg h];by_cases y:a=b
  ·rw[if_pos y];omega
  ·rw[if_neg y];omega
theorem cmp_le{a b:Nat}:cmp a b<=0↔a<=b:=by
 unfold cmp;by_cases h:a<b
 ·rw[if_pos h];omega
 ·rw[if_neg h];by_cases y:a=b
  ·rw[if_pos y];omega
  ·rw[if_neg y];omega
theorem kbar{xs ys:List Nat}(I:∀x∈xs,x<B)(K:∀x∈ys,x<B):Iter k1p (.fn xs ys) (divN xs ys):=by
 refine .done ?_;show kk8 _ _=_;unfold kk8 divN;cases Z:rt xs with
 | false=>simp
 | true =>
  cases Q:rt ys with
  | false=>simp
  | true =>
   obtain⟨C,U⟩:=rt_iff.1 Z;obtain⟨V,ty⟩:=rt_iff.1 Q;simp only[Bool.and_self,Bool.not_true,cond_false,and_self,if_true];by_cases h0:ys=[]
   ·subst h0;rfl
   ·have hl:ys.length≠0:=by simpa using h0
    have hp:=kyx B1 ty h0;rw[if_neg h0,condF (by rw[qbt];omega),ky U,qbr,ky ty,qbr];by_cases F:num B xs<num B ys
    ·rw[condT (by rw[qbu,cmp_lt];exact F),ky (by omega),qbr,Nat.div_eq_of_lt F,Nat.mod_eq_of_lt F,kbu,kdd B2 I U]
    ·rw[condF (by rw[qbt,cmp_lt];exact F)];by_cases h1:ys.length=1
     ·obtain⟨y,rfl⟩:=List.length_eq_one_iff.1 h1;have Q:y<18446744073709551616:=K y (by simp);have e:num B [y]=y:=by simp[num]
      rw[e]at hp|-;have hm:=Nat.mod_lt (num B xs) hp;have W:=kb4 (xs:=[y]) (i:=0) (by simp);rw[show((0:Nat):Int)=0 from rfl]at W;rw[condT (by rw[qbu];omega),W,qbr];rw[List.getElem_cons_zero,ky ⟨by omega,by omega,by omega⟩,qbr,Int.toNat_natCast,kbm (by omega),qbr]
     ·have H:=kvx I K ty (Nat.le_of_not_lt F);rw[condF (by rw[qbt];omega),qbr,ky (by omega),qbr,ky C,qbr,ky H,qbr]
theorem kd4{h:AH}{s t:Sl}{xs ys:List Nat}(n:Nats h s xs)(m:Nats h t ys):∃(a b:Sl)(h':AH),go (.fn kcw [s.v,t.v]) h=some (.tup [a.v,b.v,.i (divN xs ys).2.2],h')/\Nats h' a (divN xs ys).1/\Nats h' b (divN xs ys).2.1/\Grow h h'/\Own h a/\Own h b:=by obtain⟨_,h',e,a,b,rfl,k⟩:=kbc8 (kbar n.lt m.lt) n m;exact⟨a,b,h',e,k⟩
theorem kber{h h0:AH}{i:Nat}{e:TypeId}{s:Sl}{xs:List Nat}(b:h.has i [] e)(n:Nats h s xs)(F:Grow h0 h)(H:h0.blks.size<=i)(I:xs.length<=1073741824) :
  ∃(s':Sl)(h':AH),kbi Pg (⟨some (.new i 0),0,.is 0⟩:Sl) (xs.map u64) xs.length kf 1 h=some (s'.v,h')/\Nats h' s' xs/\Grow h h'/\Own h0 s':=by
 have n1:Nats h ⟨some (.new i 0),0,.is 0⟩ []:=⟨qo (n:=1) (m:=0) b rfl,by simp,by simp⟩;cases xs with
 | nil =>
  obtain⟨s',K,c,o⟩:=k05 (P:=Pg) (elem:=kf) (m:=1) (by omega) n1.cells;exact⟨s',h,K,⟨c,by simp,by simp⟩,qk h,o h0 λr C=>by cases C;exact⟨_,_,rfl,H⟩⟩
 | cons y ys =>
  refine⟨_,_,km6 (c:=0) rfl (by simp) (kwm (by simp at I|-;omega)) n1.cells,⟨⟨rfl,by simp,λk w Q=>⟨_,rfl,?_⟩⟩,n.lt,n.short⟩,ql _ _,λr C=>?_⟩
  ·have:=AH.cell_push h ([]++(y::ys).map u64) kf k;rw[qj,Nat.zero_add];rw[List.map_nil,this];exact Q
  ·cases C;exact⟨_,_,rfl,F.size⟩
inductive kgp
 | fn (x1:List Nat) (x2:List Nat)
 | p4 (x1:List Nat) (x2:List Nat)
abbrev kfo:=List Nat×Int
noncomputable def kgg(x1 x2:List Nat):Option (kgp⊕kfo):=cond (!(rt x1)) (some (.inr ([],1))) (cond (!(rt x2)) (some (.inr ([],1))) ((need (List.length x1<=8796093022208)).bind λy=>(need (List.length x2<=8796093022208)).bind λC=>some (.inl (.p4 x1 x2))))
noncomputable def kit(x1 x2:List Nat):Option (kgp⊕kfo):=cond (decide ((List.length x2:Int)>0)) (some (.inl (.p4 x2 ((divN x1 x2).2.1)))) (some (.inr (x1,0)))
noncomputable def kuc:kgp->Option (kgp⊕kfo)
 | .fn x1 x2=>kgg x1 x2
 | .p4 x1 x2=>kit x1 x2
@[reducible] def kty(h0:AH)(r:kfo)(v:AV)(h':AH):Prop:=∃s1:Sl,v=.tup [s1.v,.i r.2]/\Nats h' s1 r.1/\Grow h0 h'/\Own h0 s1
def kmx(r:kfo):kgp->Prop
 | .fn x1 x2=>∀{h:AH}{a1:Sl}{a2:Sl},Nats h a1 x1->Nats h a2 x2->Runs (go (.fn ked [a1.v,a2.v]) h) (kty h r)
 | .p4 x1 x2=>∀{h0 h:AH}{a1:Sl}{a2:Sl},Grow h0 h->Nats h a1 x1->Nats h a2 x2->Own h0 a1->Own h0 a2->Runs (go (.pt ked kn4 [(0,a1.v),(1,a2.v)]) h) (kty h0 r)
theorem k40{r:kfo}{o:kgp⊕kfo}{x1 x2:List Nat}(e:kgg x1 x2=some o)(y:GoodS (kmx r) r o):kmx r (.fn x1 x2):=by
 intro h a1 a2 n1 n2;rw[k49];unfold kgg at e;refine qw (kbt n1) (qw (seen rfl) ?_);refine qba (λH=>?_) (λH=>?_)
 ·replace e:=(condT H).symm.trans e;cases e;cases y;exact qu ⟨(⟨none,0,.is 0⟩:Sl),rfl,(qq _),(qk _),(qp _)⟩
 ·replace e:=(condF H).symm.trans e;refine qw (kbt n2) (qw (seen rfl) ?_);refine qba (λI=>?_) (λI=>?_)
  ·replace e:=(condT I).symm.trans e;cases e;cases y;exact qu ⟨(⟨none,0,.is 0⟩:Sl),rfl,(qq _),(qk _),(qp _)⟩
  ·replace e:=(condF I).symm.trans e;obtain⟨C,Q,e⟩:=qbs.1 e;obtain⟨s7,H7,W,Z,K,o7⟩:=kkf n1  C.down;refine qw W (qw (seen qck) ?_);obtain⟨F,U,e⟩:=qbs.1 e;obtain⟨s8,H8,e8,n8,V,o8⟩:=kkf (n2.grow K)  F.down;refine qw e8 (qw (seen qck) ?_);cases e;exact y (K.trans V) (Z.grow V) n8 (o7.of_le (qk _)) (o8.of_le K)
theorem kbfg{r:kfo}{o:kgp⊕kfo}{x1 x2:List Nat}(e:kit x1 x2=some o)(y:GoodS (kmx r) r o):kmx r (.p4 x1 x2):=by
 intro h0 h a1 a2 C n1 n2 F H;rw[k5r];unfold kit at e;rw[n2.len];refine qba (λI=>?_) (λI=>?_)
 ·replace e:=(condT I).symm.trans e;obtain⟨Z,V,H4,W,n4,K,U,o4,Q⟩:=kd4 n1 n2;refine qw W (qw rfl (qw (seen qck) (qw (seen qck) (qw (seen qcl) ?_))));cases e;exact y (C.trans U) (n2.grow U) K (H.of_le (qk _)) (Q.of_le C)
 ·replace e:=(condF I).symm.trans e;cases e;cases y;exact qu ⟨a1,rfl,n1,C,(F.of_le (qk _))⟩
theorem k5x{s:kgp}{r:kfo}(C:Iter kuc s r):kmx r s:=qbe (λs o e y=>by
 cases s with
 | fn x1 x2=>exact @k40 _ _ x1 x2 e y
 | p4 x1 x2=>exact @kbfg _ _ x1 x2 e y
 ) C
inductive kkh
 | fn (a1:Bool) (x2:List Nat) (a3:Bool) (x4:List Nat)
 | no
abbrev khu:=Bool×List Nat×Bool×List Nat×Int
noncomputable def km7(a1:Bool)(x2:List Nat)(a3:Bool)(x4:List Nat):Option (kkh⊕khu):=cond (!((rtI a1 x2&&rtI a3 x4))) (some (.inr (false,[],false,[],1))) (cond (decide ((List.length x4:Int)=0)) (some (.inr (false,[],false,[],3))) (cond (a3) (some (.inr (false,[],false,[],1))) (cond (a1) (cond (decide ((List.length ((divN x2 x4).2.1):Int)>0)) ((u64P 1).bind λp17=>cond (!decide (((addN ((divN x2 x4).1) (digs B p17)).2)=0)) (some (.inr (false,[],false,[],((addN ((divN x2 x4).1) (digs B p17)).2)))) (some (.inr ((((fromI a1 ((addN ((divN x2 x4).1) (digs B p17)).1)).1)),(fromI a1 ((addN ((divN x2 x4).1) (digs B p17)).1)).2,(((fromI false ((subN x4 ((divN x2 x4).2.1)).1)).1)),(fromI false ((subN x4 ((divN x2 x4).2.1)).1)).2,0)))) (some (.inr ((((fromI a1 ((divN x2 x4).1)).1)),(fromI a1 ((divN x2 x4).1)).2,(((fromI false ((divN x2 x4).2.1)).1)),(fromI false ((divN x2 x4).2.1)).2,0)))) (some (.inr ((((fromI a1 ((divN x2 x4).1)).1)),(fromI a1 ((divN x2 x4).1)).2,(((fromI false ((divN x2 x4).2.1)).1)),(fromI false ((divN x2 x4).2.1)).2,0))))))
noncomputable def k0o:kkh->Option (kkh⊕khu)
 | .fn a1 x2 a3 x4=>km7 a1 x2 a3 x4
 | .no=>none
@[reducible] def k0r(h0:AH)(r:khu)(v:AV)(h':AH):Prop:=∃s1:Sl,∃s2:Sl,v=.tup [.agg [.bool r.1,s1.v],.agg [.bool r.2.2.1,s2.v],.i r.2.2.2.2]/\Nats h' s1 r.2.1/\Nats h' s2 r.2.2.2.1/\Grow h0 h'/\Own h0 s1/\Own h0 s2
def ksc(r:khu):kkh->Prop
 | .fn a1 x2 a3 x4=>∀{h:AH}{a2:Sl}{a4:Sl},Nats h a2 x2->Nats h a4 x4->Runs (go (.fn kiw [.agg [.bool a1,a2.v],.agg [.bool a3,a4.v]]) h) (k0r h r)
 | .no=>True
theorem k62{r:khu}{o:kkh⊕khu}{a1:Bool}{x2:List Nat}{a3:Bool}{x4:List Nat}(e:km7 a1 x2 a3 x4=some o)(ai:GoodS (ksc r) r o):ksc r (.fn a1 x2 a3 x4):=by
 intro h a2 a4 n2 n4;rw[kbh8];unfold km7 at e;refine qx λH5 b5 W=>?_;refine qx λH6 b6 U=>?_;refine qx λH7 Q V=>?_;refine qx λH8 Z K=>?_;refine qw (qbc (((U.trans V).trans K).has b5) 0 rfl rfl) (qw (qbc (((U.trans V).trans K).has b5) 1 rfl qck) (qw (qbc ((V.trans K).has b6) 0 rfl rfl) (qw (qbc ((V.trans K).has b6) 1 rfl qck) ?_)));refine qx λH9 b9 H=>?_;obtain⟨em,dz,y⟩:=kp3 b9 (n2.grow ((((W.trans U).trans V).trans K).trans H)) (n4.grow ((((W.trans U).trans V).trans K).trans H));refine qw dz (qw (seen rfl) ?_);refine qba (λcr=>?_) (λcr=>?_)
 ·replace e:=(condT cr).symm.trans e;refine qy (((K.trans H).trans y).has Q) rfl λen d0 ct=>?_;have cu:=qr ((H.trans y).has Z) (Nat.ne_of_gt (qbp (Q).lt (qbn _))) ct;have cv:=qr (y.has b9) (Nat.ne_of_gt (qbp (K.has Q).lt (qbn _))) ct;refine qy cu rfl λd1 bx ay=>?_;have bd:=qr d0 (Nat.ne_of_lt (qbp (Q).lt (qbn _))) ay;have bn:=qr cv (Nat.ne_of_gt (qbp (Z).lt (qbn _))) ay;refine qw (qbc bd 0 rfl rfl) (qw (qbc bd 1 rfl qck) (qw (qbc bx 0 rfl rfl) (qw (qbc bx 1 rfl qck) ?_)));cases e;cases ai;exact qu ⟨(⟨none,0,.is 0⟩:Sl),(⟨none,0,.is 0⟩:Sl),rfl,(qq _),(qq _),(((((((W.trans U).trans V).trans K).trans H).trans y).updr (qbo ((W.trans U)).size (qbn _)) ct).updr (qbo (((W.trans U).trans V)).size (qbn _)) ay),(qp _),(qp _)⟩
 ·replace e:=(condF cr).symm.trans e;refine qw (qbc ((((V.trans K).trans H).trans y).has b6) 1 rfl qck) ?_;rw[(n4.grow (((((W.trans U).trans V).trans K).trans H).trans y)).len];refine qba (λcw=>?_) (λcw=>?_)
  ·replace e:=(condT cw).symm.trans e;refine qy (((K.trans H).trans y).has Q) rfl λd1 bx ay=>?_;have cx:=qr ((H.trans y).has Z) (Nat.ne_of_gt (qbp (Q).lt (qbn _))) ay;have bn:=qr (y.has b9) (Nat.ne_of_gt (qbp (K.has Q).lt (qbn _))) ay;refine qy cx rfl λde bz az=>?_;have be:=qr bx (Nat.ne_of_lt (qbp (Q).lt (qbn _))) az;have bp:=qr bn (Nat.ne_of_gt (qbp (Z).lt (qbn _))) az;refine qw (qbc be 0 rfl rfl) (qw (qbc be 1 rfl qck) (qw (qbc bz 0 rfl rfl) (qw (qbc bz 1 rfl qck) ?_)));cases e;cases ai;exact qu ⟨(⟨none,0,.is 0⟩:Sl),(⟨none,0,.is 0⟩:Sl),rfl,(qq _),(qq _),(((((((W.trans U).trans V).trans K).trans H).trans y).updr (qbo ((W.trans U)).size (qbn _)) ay).updr (qbo (((W.trans U).trans V)).size (qbn _)) az),(qp _),(qp _)⟩
  ·replace e:=(condF cw).symm.trans e;refine qw (qbc ((((V.trans K).trans H).trans y).has b6) 0 rfl rfl) ?_;refine qba (λcy=>?_) (λcy=>?_)
   ·replace e:=(condT cy).symm.trans e;refine qy (((K.trans H).trans y).has Q) rfl λde bz az=>?_;have cz:=qr ((H.trans y).has Z) (Nat.ne_of_gt (qbp (Q).lt (qbn _))) az;have bp:=qr (y.has b9) (Nat.ne_of_gt (qbp (K.has Q).lt (qbn _))) az;refine qy cz rfl λeo df c0=>?_;have bf:=qr bz (Nat.ne_of_lt (qbp (Q).lt (qbn _))) c0;have d2:=qr bp (Nat.ne_of_gt (qbp (Z).lt (qbn _))) c0;refine qw (qbc bf 0 rfl rfl) (qw (qbc bf 1 rfl qck) (qw (qbc df 0 rfl rfl) (qw (qbc df 1 rfl qck) ?_)));cases e;cases ai;exact qu ⟨(⟨none,0,.is 0⟩:Sl),(⟨none,0,.is 0⟩:Sl),rfl,(qq _),(qq _),(((((((W.trans U).trans V).trans K).trans H).trans y).updr (qbo ((W.trans U)).size (qbn _)) az).updr (qbo (((W.trans U).trans V)).size (qbn _)) c0),(qp _),(qp _)⟩
   ·replace e:=(condF cy).symm.trans e;refine qw (qbc (((((U.trans V).trans K).trans H).trans y).has b5) 1 rfl qck) (qw (qbc ((((V.trans K).trans H).trans y).has b6) 1 rfl qck) ?_);obtain⟨ep,el,de,d3,a0,af,C,ar,ag⟩:=kd4 (n2.grow (((((W.trans U).trans V).trans K).trans H).trans y)) (n4.grow (((((W.trans U).trans V).trans K).trans H).trans y));refine qw d3 (qw rfl (qw (seen qck) (qw (seen qck) ?_)));rw[af.len];refine qw (seen qcl) (qw (qbc ((((((U.trans V).trans K).trans H).trans y).trans C).has b5) 0 rfl rfl) ?_);refine qba (λc1=>?_) (λc1=>?_)
    ·replace e:=(condT c1).symm.trans e;refine qba (λc2=>?_) (λc2=>?_)
     ·replace e:=(condT c2).symm.trans e;obtain⟨p17,d4,e⟩:=qbs.1 e;obtain⟨b0,dg,bq,ba,F,ah⟩:=kpf d4;refine qw bq (qw (seen qck) ?_);obtain⟨dh,di,c3,br,I,au⟩:=kkr (a0.grow F) ba;refine qw c3 (qw rfl (qw (seen qck) (qw (seen qcl) ?_)));refine qba (λc4=>?_) (λc4=>?_)
      ·replace e:=(condT c4).symm.trans e;refine qy ((((((K.trans H).trans y).trans C).trans F).trans I).has Q) rfl λdj ca ac=>?_;have bg:=(a0.grow (F.trans I)).upda (qbh ar (((K.trans H).trans y).has Q).lt) ac;have aw:=(af.grow (F.trans I)).upda (qbh ag (((K.trans H).trans y).has Q).lt) ac;have an:=(ba.grow I).upda (qbh ah ((((K.trans H).trans y).trans C).has Q).lt) ac;have ap:=br.upda (qbh au (((((K.trans H).trans y).trans C).trans F).has Q).lt) ac;have c5:=qr (((((H.trans y).trans C).trans F).trans I).has Z) (Nat.ne_of_gt (qbp (Q).lt (qbn _))) ac;have bt:=qr ((((y.trans C).trans F).trans I).has b9) (Nat.ne_of_gt (qbp (K.has Q).lt (qbn _))) ac;refine qy c5 rfl λd5 dk bb=>?_;have dr:=bg.upda (qbh ar ((H.trans y).has Z).lt) bb;have dl:=aw.upda (qbh ag ((H.trans y).has Z).lt) bb;have dt:=an.upda (qbh ah (((H.trans y).trans C).has Z).lt) bb;have du:=ap.upda (qbh au ((((H.trans y).trans C).trans F).has Z).lt) bb;have bh:=qr ca (Nat.ne_of_lt (qbp (Q).lt (qbn _))) bb;have d6:=qr bt (Nat.ne_of_gt (qbp (Z).lt (qbn _))) bb;refine qw (qbc bh 0 rfl rfl) (qw (qbc bh 1 rfl qck) (qw (qbc dk 0 rfl rfl) (qw (qbc dk 1 rfl qck) ?_)));cases e;cases ai;exact qu ⟨(⟨none,0,.is 0⟩:Sl),(⟨none,0,.is 0⟩:Sl),rfl,(qq _),(qq _),((((((((((W.trans U).trans V).trans K).trans H).trans y).trans C).trans F).trans I).updr (qbo ((W.trans U)).size (qbn _)) ac).updr (qbo (((W.trans U).trans V)).size (qbn _)) bb),(qp _),(qp _)⟩
      ·replace e:=(condF c4).symm.trans e;refine qw (qbc (((((((V.trans K).trans H).trans y).trans C).trans F).trans I).has b6) 1 rfl qck) ?_;obtain⟨er,dj,d7,dm,aa,dn⟩:=kkk (n4.grow ((((((((W.trans U).trans V).trans K).trans H).trans y).trans C).trans F).trans I)) (af.grow (F.trans I));refine qw d7 (qw rfl (qw (seen qck) (qw (seen qcl) (qw (qbc (((((((((U.trans V).trans K).trans H).trans y).trans C).trans F).trans I).trans aa).has b5) 0 rfl rfl) ?_))));obtain⟨d8,d5,d9,ea,ae,c6⟩:=kbx (br.grow aa) a1;refine qw d9 (qw rfl ?_);refine qz rfl ?_;refine qw (seenAt rfl rfl) (qw (seenAt rfl qck) ?_);obtain⟨eb,et,ec,ed,aj,c7⟩:=kbx (dm.grow ae) false;refine qw ec (qw rfl ?_);refine qz rfl ?_;refine qw (seenAt rfl rfl) (qw (seenAt rfl qck) ?_);refine qy (((((((((K.trans H).trans y).trans C).trans F).trans I).trans aa).trans ae).trans aj).has Q) rfl λeu ee ak=>?_;have cb:=(a0.grow ((((F.trans I).trans aa).trans ae).trans aj)).upda (qbh ar (((K.trans H).trans y).has Q).lt) ak;have bu:=(af.grow ((((F.trans I).trans aa).trans ae).trans aj)).upda (qbh ag (((K.trans H).trans y).has Q).lt) ak;have cc:=(ba.grow (((I.trans aa).trans ae).trans aj)).upda (qbh ah ((((K.trans H).trans y).trans C).has Q).lt) ak;have cd:=(br.grow ((aa.trans ae).trans aj)).upda (qbh au (((((K.trans H).trans y).trans C).trans F).has Q).lt) ak;have ce:=(dm.grow (ae.trans aj)).upda (qbh dn ((((((K.trans H).trans y).trans C).trans F).trans I).has Q).lt) ak;have cf:=(ea.grow aj).upda (qbh c6 (((((((K.trans H).trans y).trans C).trans F).trans I).trans aa).has Q).lt) ak;have ch:=ed.upda (qbh c7 ((((((((K.trans H).trans y).trans C).trans F).trans I).trans aa).trans ae).has Q).lt) ak;have c8:=qr ((((((((H.trans y).trans C).trans F).trans I).trans aa).trans ae).trans aj).has Z) (Nat.ne_of_gt (qbp (Q).lt (qbn _))) ak;have c9:=qr (((((((y.trans C).trans F).trans I).trans aa).trans ae).trans aj).has b9) (Nat.ne_of_gt (qbp (K.has Q).lt (qbn _))) ak;refine qy c8 rfl λev dp al=>?_;have dv:=cb.upda (qbh ar ((H.trans y).has Z).lt) al;have dq:=bu.upda (qbh ag ((H.trans y).has Z).lt) al;have dw:=cc.upda (qbh ah (((H.trans y).trans C).has Z).lt) al;have dx:=cd.upda (qbh au ((((H.trans y).trans C).trans F).has Z).lt) al;have dy:=ce.upda (qbh dn (((((H.trans y).trans C).trans F).trans I).has Z).lt) al;have ci:=cf.upda (qbh c6 ((((((H.trans y).trans C).trans F).trans I).trans aa).has Z).lt) al;have cj:=ch.upda (qbh c7 (((((((H.trans y).trans C).trans F).trans I).trans aa).trans ae).has Z).lt) al;have bi:=qr ee (Nat.ne_of_lt (qbp (Q).lt (qbn _))) al;have ef:=qr c9 (Nat.ne_of_gt (qbp (Z).lt (qbn _))) al;refine qw (qbc bi 0 rfl rfl) (qw (qbc bi 1 rfl qck) (qw (qbc dp 0 rfl rfl) (qw (qbc dp 1 rfl qck) ?_)));cases e;cases ai;exact qu ⟨d8,eb,rfl,ci,cj,(((((((((((((W.trans U).trans V).trans K).trans H).trans y).trans C).trans F).trans I).trans aa).trans ae).trans aj).updr (qbo ((W.trans U)).size (qbn _)) ak).updr (qbo (((W.trans U).trans V)).size (qbn _)) al),(c6.of_le (((((((((W.trans U).trans V).trans K).trans H).trans y).trans C).trans F).trans I).trans aa)),(c7.of_le ((((((((((W.trans U).trans V).trans K).trans H).trans y).trans C).trans F).trans I).trans aa).trans ae))⟩
     ·replace e:=(condF c2).symm.trans e;refine qw (qbc ((((((U.trans V).trans K).trans H).trans y).trans C).has b5) 0 rfl rfl) ?_;obtain⟨b0,dg,bq,ba,F,ah⟩:=kbx a0 a1;refine qw bq (qw rfl ?_);refine qz rfl ?_;refine qw (seenAt rfl rfl) (qw (seenAt rfl qck) ?_);obtain⟨dh,di,c3,br,I,au⟩:=kbx (af.grow F) false;refine qw c3 (qw rfl ?_);refine qz rfl ?_;refine qw (seenAt rfl rfl) (qw (seenAt rfl qck) ?_);refine qy ((((((K.trans H).trans y).trans C).trans F).trans I).has Q) rfl λeg ck ad=>?_;have bj:=(a0.grow (F.trans I)).upda (qbh ar (((K.trans H).trans y).has Q).lt) ad;have ax:=(af.grow (F.trans I)).upda (qbh ag (((K.trans H).trans y).has Q).lt) ad;have aq:=(ba.grow I).upda (qbh ah ((((K.trans H).trans y).trans C).has Q).lt) ad;have cl:=br.upda (qbh au (((((K.trans H).trans y).trans C).trans F).has Q).lt) ad;have da:=qr (((((H.trans y).trans C).trans F).trans I).has Z) (Nat.ne_of_gt (qbp (Q).lt (qbn _))) ad;have bv:=qr ((((y.trans C).trans F).trans I).has b9) (Nat.ne_of_gt (qbp (K.has Q).lt (qbn _))) ad;refine qy da rfl λdj ca ac=>?_;have bg:=bj.upda (qbh ar ((H.trans y).has Z).lt) ac;have aw:=ax.upda (qbh ag ((H.trans y).has Z).lt) ac;have an:=aq.upda (qbh ah (((H.trans y).trans C).has Z).lt) ac;have ap:=cl.upda (qbh au ((((H.trans y).trans C).trans F).has Z).lt) ac;have bk:=qr ck (Nat.ne_of_lt (qbp (Q).lt (qbn _))) ac;have bt:=qr bv (Nat.ne_of_gt (qbp (Z).lt (qbn _))) ac;refine qw (qbc bk 0 rfl rfl) (qw (qbc bk 1 rfl qck) (qw (qbc ca 0 rfl rfl) (qw (qbc ca 1 rfl qck) ?_)));cases e;cases ai;exact qu ⟨b0,dh,rfl,an,ap,((((((((((W.trans U).trans V).trans K).trans H).trans y).trans C).trans F).trans I).updr (qbo ((W.trans U)).size (qbn _)) ad).updr (qbo (((W.trans U).trans V)).size (qbn _)) ac),(ah.of_le ((((((W.trans U).trans V).trans K).trans H).trans y).trans C)),(au.of_le (((((((W.trans U).trans V).trans K).trans H).trans y).trans C).trans F))⟩
    ·replace e:=(condF c1).symm.trans e;refine qw (qbc ((((((U.trans V).trans K).trans H).trans y).trans C).has b5) 0 rfl rfl) ?_;obtain⟨eh,ew,ei,ej,am,db⟩:=kbx a0 a1;refine qw ei (qw rfl ?_);refine qz rfl ?_;refine qw (seenAt rfl rfl) (qw (seenAt rfl qck) ?_);obtain⟨b0,dg,bq,ba,F,ah⟩:=kbx (af.grow am) false;refine qw bq (qw rfl ?_);refine qz rfl ?_;refine qw (seenAt rfl rfl) (qw (seenAt rfl qck) ?_);refine qy ((((((K.trans H).trans y).trans C).trans am).trans F).has Q) rfl λdi ek bc=>?_;have cm:=(a0.grow (am.trans F)).upda (qbh ar (((K.trans H).trans y).has Q).lt) bc;have bw:=(af.grow (am.trans F)).upda (qbh ag (((K.trans H).trans y).has Q).lt) bc;have cn:=(ej.grow F).upda (qbh db ((((K.trans H).trans y).trans C).has Q).lt) bc;have cp:=ba.upda (qbh ah (((((K.trans H).trans y).trans C).trans am).has Q).lt) bc;have dc:=qr (((((H.trans y).trans C).trans am).trans F).has Z) (Nat.ne_of_gt (qbp (Q).lt (qbn _))) bc;have dd:=qr ((((y.trans C).trans am).trans F).has b9) (Nat.ne_of_gt (qbp (K.has Q).lt (qbn _))) bc;refine qy dc rfl λeg ck ad=>?_;have bj:=cm.upda (qbh ar ((H.trans y).has Z).lt) ad;have ax:=bw.upda (qbh ag ((H.trans y).has Z).lt) ad;have cq:=cn.upda (qbh db (((H.trans y).trans C).has Z).lt) ad;have aq:=cp.upda (qbh ah ((((H.trans y).trans C).trans am).has Z).lt) ad;have bm:=qr ek (Nat.ne_of_lt (qbp (Q).lt (qbn _))) ad;have bv:=qr dd (Nat.ne_of_gt (qbp (Z).lt (qbn _))) ad;refine qw (qbc bm 0 rfl rfl) (qw (qbc bm 1 rfl qck) (qw (qbc ck 0 rfl rfl) (qw (qbc ck 1 rfl qck) ?_)));cases e;cases ai;exact qu ⟨eh,b0,rfl,cq,aq,((((((((((W.trans U).trans V).trans K).trans H).trans y).trans C).trans am).trans F).updr (qbo ((W.trans U)).size (qbn _)) bc).updr (qbo (((W.trans U).trans V)).size (qbn _)) ad),(db.of_le ((((((W.trans U).trans V).trans K).trans H).trans y).trans C)),(ah.of_le (((((((W.trans U).trans V).trans K).trans H).trans y).trans C).trans am))⟩
theorem kbdd{s:kkh}{r:khu}(C:Iter k0o s r):ksc r s:=qbe (λs o e y=>by
 cases s with
 | fn a1 x2 a3 x4=>exact @k62 _ _ a1 x2 a3 x4 e y
 | no=>exact True.intro
 ) C
def gcdN(xs ys:List Nat):List Nat×Int:=if rt xs=true/\rt ys=true then(digs B (Nat.gcd (num B xs) (num B ys)),0)else([],1)
theorem kr2{xs ys:List Nat}(y:rt xs=true)(C:rt ys=true)(h0:ys≠[]):(divN xs ys).2.1=digs B (num B xs%num B ys):=by simp[divN,y,C,h0]
theorem kn{n:Nat}(h:n<B^64):rt (digs B n)=true:=rt_iff.2 ⟨(kbg B2 n 64).2 h,khs B2 n⟩
theorem knl{xs:List Nat}(y:∀x∈xs,x<B)(h:rt xs=true):num B xs<B^64:=by have C:=num_lt B1 y;have F:B^xs.length<=B^64:=Nat.pow_le_pow_right B1 (rt_iff.1 h).1;omega
theorem kbbb:∀(b a:Nat),a<B^64->b<B^64->Iter kuc (.p4 (digs B a) (digs B b)) (digs B (Nat.gcd a b),0):=by
 intro b
 induction b using Nat.strongRecOn with
 | ind b ih =>
  intro a F C;by_cases h0:b=0
  ·subst h0;refine .done ?_;show kit _ _=_;unfold kit;rw[kbu,Nat.gcd_zero_right];rfl
  ·have H:=Nat.mod_lt a (show 0<b by omega);have y:digs B b≠[]:=λh=>h0 ((kcr B2).1 h);have I:(digs B b).length≠0:=by simpa using y
   refine .next (s':=.p4 (digs B b) (digs B (a%b))) ?_ (by have:=ih (a%b) H b C (by omega);rwa[Nat.gcd_comm b,<- Nat.gcd_rec,Nat.gcd_comm b]at this)
   show kit _ _=_;unfold kit;rw[condT (by rw[qbu];omega),kr2 (kn F) (kn C) y,kg B2,kg B2]
theorem k7t{xs ys:List Nat}(F:∀x∈xs,x<B)(H:∀x∈ys,x<B):Iter kuc (.fn xs ys) (gcdN xs ys):=by
 unfold gcdN;cases y:rt xs with
 | false =>
  refine .done ?_;show kgg _ _=_;unfold kgg;simp[y]
 | true =>
  cases C:rt ys with
  | false =>
   refine .done ?_;show kgg _ _=_;unfold kgg;simp[y,C]
  | true =>obtain⟨I,Q⟩:=rt_iff.1 y;obtain⟨K,ty⟩:=rt_iff.1 C;have key:=kbbb (num B ys) (num B xs) (knl F y) (knl H C);rw[kdd B2 F Q,kdd B2 H ty]at key;simp only[and_self,if_true];refine .next ?_ key;show kgg _ _=_;unfold kgg;rw[y,C,ky (by omega),qbr,ky (by omega),qbr];rfl
theorem ko7{h:AH}{s t:Sl}{xs ys:List Nat}(n:Nats h s xs)(m:Nats h t ys):Runs (go (.fn ked [s.v,t.v]) h) (kty h (gcdN xs ys)):=k5x (k7t n.lt m.lt) n m
def floorI(p:Bool)(xs:List Nat)(q:Bool)(ys:List Nat):Bool×List Nat×Bool×List Nat×Int :=
 cond (!(rtI p xs&&rtI q ys)) (false,[],false,[],1)
  (cond (decide (ys=[])) (false,[],false,[],3)
   (cond q (false,[],false,[],1)
    (cond (p&&!decide ((divN xs ys).2.1=[]))
     (cond (decide ((addN (divN xs ys).1 [1]).2=0)) ((fromI true (addN (divN xs ys).1 [1]).1).1,(fromI true (addN (divN xs ys).1 [1]).1).2,(fromI false (subN ys (divN xs ys).2.1).1).1,(fromI false (subN ys (divN xs ys).2.1).1).2,0) (false,[],false,[],(addN (divN xs ys).1 [1]).2))
     ((fromI p (divN xs ys).1).1,(fromI p (divN xs ys).1).2,(fromI false (divN xs ys).2.1).1,(fromI false (divN xs ys).2.1).2,0))))
theorem kkj:digs B 1=[1]:=by decide +kernel
theorem kh5:u64P 1=some 1:=kbm (n:=1) (by decide)
theorem kt2{xs:List Nat}:decide ((List.length xs:Int)=0)=decide (xs=[]):=by
 rw[decide_eq_decide];cases xs
 ·simp
 ·simp;omega
theorem kbig{xs:List Nat}:decide ((List.length xs:Int)>0)=!decide (xs=[]):=by
 cases xs
 ·rfl
 ·simp
theorem k4g(p:Bool)(xs:List Nat)(q:Bool)(ys:List Nat):Iter k0o (.fn p xs q ys) (floorI p xs q ys):=by
 refine .done ?_;show km7 _ _ _ _=_;unfold km7 floorI;rw[kt2,kbig,kh5];cases rtI p xs&&rtI q ys
 ·rfl
 ·cases decide (ys=[])
  ·cases q
   ·cases p
    ·rfl
    ·cases decide ((divN xs ys).2.1=[])
     ·simp only[Bool.not_true,Bool.not_false,cond_true,cond_false,Bool.and_self,qbr,kkj];cases decide ((addN (divN xs ys).1 [1]).2=0)
      ·rfl
      ·rfl
     ·rfl
   ·rfl
  ·rfl
theorem kvh{h:AH}{s t:Sl}{xs ys:List Nat}(n:Nats h s xs)(m:Nats h t ys)(p q:Bool):Runs (go (.fn kiw [.agg [.bool p,s.v],.agg [.bool q,t.v]]) h) (k0r h (floorI p xs q ys)):=kbdd (k4g p xs q ys) n m
def intD(z:Int):Bool×List Nat:=(decide (z<0),digs B z.natAbs)
theorem kbkl:intD 0=(false,[]):=by simp[intD,kbu]
theorem krf(p:Bool):fromI p []=(false,[]):=by simp[fromI]
theorem kcs{n:Nat}(h:n<B^64)(y:Bool):fromI y (digs B n)=intD (if y=true then -(n:Int)else(n:Int)):=by
 by_cases h0:n=0
 ·subst h0;rw[kbu,krf];cases y<;>simp[intD,kbu]
 ·have C:digs B n≠[]:=λe=>h0 ((kcr B2).1 e);unfold fromI intD;rw[if_pos ⟨kn h,C⟩];cases y
  ·have e:((n:Int)).natAbs=n:=by omega
   have F:decide ((n:Int)<0)=false:=by rw[qbt];omega
   simp only[qcj,if_false,e,F]
  ·have e:(-(n:Int)).natAbs=n:=by omega
   have F:decide (-(n:Int)<0)=true:=by rw[qbu];omega
   simp only[if_true,e,F]
theorem kcv{z:Int}(h:z.natAbs<B^64):rtI (intD z).1 (intD z).2=true:=by
 unfold rtI intD;dsimp only;rw[kn h,Bool.true_and];by_cases C:z<0
 ·have y:digs B z.natAbs≠[]:=λe=>by
   have:=(kcr B2).1 e;omega
  rw[qbv C];simp[y]
 ·rw[qbw C];simp
theorem kh6{n:Nat}(h:n<B^64):told n=(digs B n,0):=by unfold told;rw[if_pos h]
theorem kyz{n:Nat}(h:¬n<B^64):told n=([],4):=by unfold told;rw[if_neg h]
theorem kly{u v:Int}(I:u.natAbs<B^64)(hv:v.natAbs<B^64):kv (intD u).1 (intD u).2 (intD v).1 (intD v).2=if(u*v).natAbs<B^64 then((intD (u*v)).1,(intD (u*v)).2,0)else(false,[],4):=by
 unfold kv;rw[kcv I,kcv hv]
 have e:mulN (intD u).2 (intD v).2=told (u.natAbs*v.natAbs):=by unfold mulN intD;dsimp only;rw[if_pos ⟨kn I,kn hv⟩,kg B2,kg B2]
 rw[e,Int.natAbs_mul];simp only[Bool.and_self,Bool.not_true,cond_false];by_cases h:u.natAbs*v.natAbs<B^64
 ·rw[if_pos h,kh6 h];dsimp only;rw[kcs h]
  have key:(if(!((intD u).1==(intD v).1))=true then -((u.natAbs*v.natAbs:Nat):Int)else((u.natAbs*v.natAbs:Nat):Int))=u*v:=by
   unfold intD;dsimp only;rw[Int.natCast_mul];by_cases H:u<0
   ·by_cases F:v<0
    ·have y:((u.natAbs:Nat):Int)=-u:=by omega
     have C:((v.natAbs:Nat):Int)=-v:=by omega
     simp[H,F,y,C,Int.neg_mul,Int.mul_neg]
    ·have y:((u.natAbs:Nat):Int)=-u:=by omega
     have C:((v.natAbs:Nat):Int)=v:=by omega
     simp[H,F,y,C,Int.neg_mul,Int.mul_neg]
   ·by_cases F:v<0
    ·have y:((u.natAbs:Nat):Int)=u:=by omega
     have C:((v.natAbs:Nat):Int)=-v:=by omega
     simp[H,F,y,C,Int.neg_mul,Int.mul_neg]
    ·have y:((u.natAbs:Nat):Int)=u:=by omega
     have C:((v.natAbs:Nat):Int)=v:=by omega
     simp[H,F,y,C,Int.neg_mul,Int.mul_neg]
  rw[key]
 ·rw[if_neg h,kyz h];dsimp only;rw[krf]
theorem kr1{u v:Int}(C:u.natAbs<B^64)(hv:v.natAbs<B^64):kbw (intD u).1 (intD u).2 (intD v).1 (intD v).2=if(u+v).natAbs<B^64 then((intD (u+v)).1,(intD (u+v)).2,0)else(false,[],4):=by
 unfold kbw;rw[kcv C,kcv hv];simp only[Bool.and_self,Bool.not_true,cond_false]
 have I:addN (intD u).2 (intD v).2=told (u.natAbs+v.natAbs):=by unfold addN intD;dsimp only;rw[if_pos ⟨kn C,kn hv⟩,kg B2,kg B2]
 have es:∀{a b:Int},a.natAbs<B^64->b.natAbs<B^64->b.natAbs<=a.natAbs->subN (intD a).2 (intD b).2=(digs B (a.natAbs-b.natAbs),0):=by intro a b K F Q;unfold subN intD;dsimp only;rw[if_pos ⟨kn K,kn F⟩,kg B2,kg B2,if_neg (by omega)]
 have U:cmpN (intD u).2 (intD v).2=cmp u.natAbs v.natAbs:=by unfold cmpN intD;dsimp only;rw[if_pos ⟨kn C,kn hv⟩,kg B2,kg B2]
 rw[I,U];have s1:(intD u).1=decide (u<0):=rfl;have s2:(intD v).1=decide (v<0):=rfl;rw[s1,s2];by_cases hs:(u<0↔v<0)
 ·have F:(decide (u<0)==decide (v<0))=true:=by simp[hs]
  rw[F,cond_true];by_cases h:u.natAbs+v.natAbs<B^64
  ·rw[if_pos (by omega),kh6 h];dsimp only;rw[kcs h]
   have:(if decide (u<0)=true then -((u.natAbs+v.natAbs:Nat):Int)else((u.natAbs+v.natAbs:Nat):Int))=u+v:=by
    by_cases y:u<0
    ·simp only[y,decide_true,if_true];omega
    ·simp only[y,decide_false,qcj,if_false];omega
   rw[this]
  ·rw[if_neg (by omega),kyz h];dsimp only;rw[krf]
 ·have F:(decide (u<0)==decide (v<0))=false:=by
   by_cases y:u<0<;>by_cases V:v<0<;>simp_all
  rw[F,cond_false,if_pos (by omega)];by_cases H:u.natAbs<v.natAbs
  ·rw[condT (by rw[qbu,cmp_lt];exact H),es hv C (by omega)];dsimp only;rw[kcs (by omega)]
   have:(if decide (v<0)=true then -((v.natAbs-u.natAbs:Nat):Int)else((v.natAbs-u.natAbs:Nat):Int))=u+v:=by
    by_cases y:v<0
    ·simp only[y,decide_true,if_true];omega
    ·simp only[y,decide_false,qcj,if_false];omega
   rw[this]
  ·rw[condF (by rw[qbt,cmp_lt];exact H),es C hv (by omega)];dsimp only;rw[kcs (by omega)]
   have:(if decide (u<0)=true then -((u.natAbs-v.natAbs:Nat):Int)else((u.natAbs-v.natAbs:Nat):Int))=u+v:=by
    by_cases y:u<0
    ·simp only[y,decide_true,if_true];omega
    ·simp only[y,decide_false,qcj,if_false];omega
   rw[this]
theorem kbal{v:Int}(hv:v.natAbs<B^64):negI (intD v).1 (intD v).2=intD (-v):=by
 unfold negI;rw[if_pos (kcv hv)];show fromI (!decide (v<0)) (digs B v.natAbs)=_;rw[kcs hv];by_cases y:v<0
 ·have e:((v.natAbs:Nat):Int)=-v:=by omega
  simp[y,e]
 ·have e:((v.natAbs:Nat):Int)=v:=by omega
  simp[y,e]
theorem kn6{u v:Int}(y:u.natAbs<B^64)(hv:v.natAbs<B^64):kba (intD u).1 (intD u).2 (intD v).1 (intD v).2=if(u-v).natAbs<B^64 then((intD (u-v)).1,(intD (u-v)).2,0)else(false,[],4):=by
 have e:kba (intD u).1 (intD u).2 (intD v).1 (intD v).2=kbw (intD u).1 (intD u).2 (intD (-v)).1 (intD (-v)).2:=by unfold kba;rw[kcv y,kcv hv,kbal hv];rfl
 rw[e,kr1 y (by omega)];rfl
theorem kq1(n:Nat):intD (n:Int)=(false,digs B n):=by
 unfold intD;have:decide ((n:Int)<0)=false:=by rw[qbt];omega
 rw[this];rfl
theorem ksx{u v:Int}(hu:u.natAbs<B^64)(hv:v.natAbs<B^64)(h0:0<v):floorI (intD u).1 (intD u).2 (intD v).1 (intD v).2=((intD (u/v)).1,(intD (u/v)).2,(intD (u%v)).1,(intD (u%v)).2,0):=by
 obtain⟨y,rfl⟩:∃y:Nat,v=(y:Int):=⟨v.toNat,by omega⟩;have hy:y<B^64:=by simpa using hv
 have I:0<y:=by omega
 have K:(intD (y:Int)).2≠[]:=λe=>by
  have:y=0:=by simpa[intD]using (kcr B2).1 e
  omega
 unfold floorI;rw[kcv hu,kcv hv];have sy:(intD (y:Int)).1=false:=by rw[kq1]
 have dv:divN (intD u).2 (intD (y:Int)).2=(digs B (u.natAbs/y),digs B (u.natAbs%y),0):=by unfold divN;rw[if_pos ⟨rtI_rt (kcv hu),rtI_rt (kcv hv)⟩,if_neg K];simp only[intD,kg B2,Int.natAbs_natCast]
 have hQ:u.natAbs/y<B^64:=qbq (Nat.div_le_self _ _) hu;have hR:u.natAbs%y<B^64:=Nat.lt_trans (Nat.mod_lt _ I) hy;have dm:=Nat.div_add_mod u.natAbs y;have hm:=Nat.mod_lt u.natAbs I;rw[dv,sy];simp only[Bool.and_self,Bool.not_true,cond_false,K,decide_false];have s1:(intD u).1=decide (u<0):=rfl;rw[s1];have Q:(digs B (u.natAbs%y)=[])↔u.natAbs%y=0:=kcr B2;by_cases U:u<0/\u.natAbs%y≠0
 ·have b1:(decide (u<0)&&!decide (digs B (u.natAbs%y)=[]))=true:=by
   rw[qb6,qbu,qcf,qbt,Q];exact U
  rw[b1,cond_true];have h1:[1]=digs B 1:=kkj.symm
  have V:u.natAbs/y+1<B^64:=by
   have aa:2<=y:=by
    rcases Nat.lt_or_ge y 2 with h | h
    ·have:y=1:=by omega
     subst this;rw[Nat.mod_one]at U;exact absurd rfl U.2
    ·exact h
   have:u.natAbs/y<=u.natAbs/2:=Nat.div_le_div_left aa (by omega);have hb:2<B^64:=by decide +kernel
   omega
  have au:addN (digs B (u.natAbs/y)) [1]=(digs B (u.natAbs/y+1),0):=by unfold addN;rw[h1,if_pos ⟨kn hQ,kn (by decide +kernel)⟩,kg B2,kg B2,kh6 V]
  have su:subN (intD (y:Int)).2 (digs B (u.natAbs%y))=(digs B (y-u.natAbs%y),0):=by rw[kq1];unfold subN;rw[if_pos ⟨kn hy,kn hR⟩,kg B2,kg B2,if_neg (by omega)]
  rw[au,su];dsimp only;rw[kcs V,kcs (by omega)]
  have H:u/(y:Int)=-((u.natAbs/y+1:Nat):Int):=by
   have C:u=-((y*(u.natAbs/y)+u.natAbs%y:Nat):Int):=by rw[dm];omega
   generalize u.natAbs/y=q at *
   generalize u.natAbs%y=r at *
   rw[C];rw[Int.ediv_eq_iff_of_pos (by omega)];constructor
   ·rw[Int.natCast_add,Int.natCast_add,Int.natCast_mul,Int.neg_mul,Int.add_mul,Int.mul_comm (q:Int)];omega
   ·rw[Int.natCast_add,Int.natCast_add,Int.natCast_mul,Int.neg_mul,Int.add_mul,Int.mul_comm (q:Int)];omega
  have W:u%(y:Int)=((y-u.natAbs%y:Nat):Int):=by
   have:=Int.mul_ediv_add_emod u (y:Int);rw[H]at this
   have Z:((y:Int)*((u.natAbs/y:Nat):Int))+((u.natAbs%y:Nat):Int)=((u.natAbs:Nat):Int):=by rw[<- Int.natCast_mul,<- Int.natCast_add,dm]
   rw[Int.natCast_add,Int.mul_neg,Int.mul_add]at this;omega
  rw[H,W];rfl
 ·have b1:(decide (u<0)&&!decide (digs B (u.natAbs%y)=[]))=false:=by
   rw[<- Bool.not_eq_true,qb6,qbu,qcf,qbt,Q];exact U
  rw[b1,cond_false,kcs hQ,kcs hR]
  have Z:((y:Int)*((u.natAbs/y:Nat):Int))+((u.natAbs%y:Nat):Int)=((u.natAbs:Nat):Int):=by rw[<- Int.natCast_mul,<- Int.natCast_add,dm]
  by_cases F:u<0
  ·have hr:u.natAbs%y=0:=by
    rcases Nat.eq_zero_or_pos (u.natAbs%y)with h | h
    ·exact h
    ·exact absurd ⟨F,by omega⟩ U
   rw[hr]at Z|-
   have C:u=(y:Int)*-((u.natAbs/y:Nat):Int):=by rw[Int.mul_neg];omega
   have H:u/(y:Int)=-((u.natAbs/y:Nat):Int):=by
    conv=>lhs;rw[C]
    exact Int.mul_ediv_cancel_left _ (by omega)
   have W:u%(y:Int)=0:=by
    conv=>lhs;rw[C]
    exact Int.mul_emod_right _ _
   rw[H,W,if_pos (by simpa using F)];rfl
  ·have C:u=((u.natAbs:Nat):Int):=by omega
   have H:u/(y:Int)=((u.natAbs/y:Nat):Int):=by
    conv=>lhs;rw[C]
    rfl
   have W:u%(y:Int)=((u.natAbs%y:Nat):Int):=by
    conv=>lhs;rw[C]
    rfl
   rw[H,W,if_neg (by simpa using F)];rfl
theorem kfa:18446744073709551616*18446744073709551616<=B^64:=by
 have:B^64=B*B*B^62:=by rw[show 64=2+62 from rfl,Nat.pow_add,Nat.pow_two]
 rw[this];have h:1<=B^62:=Nat.pow_pos B1;have:=Nat.mul_le_mul_left (B*B) h;rw[Nat.mul_one]at this;exact this
theorem ksy{n:Int}(h:n.natAbs<18446744073709551616):ofI n=intD n:=by
 have C:n.natAbs<B^64:=by have:=kfa;omega
 unfold ofI;rw[kcs C];by_cases y:n<0
 ·rw[qbv y];have e:((n.natAbs:Nat):Int)=-n:=by omega
  simp[e]
 ·rw[qbw y];have e:((n.natAbs:Nat):Int)=n:=by omega
  simp[e]
theorem ku2(n:Int){h:AH}(c:-9223372036854775808<=n/\n<=9223372036854775807):∃(s':Sl)(h':AH),go (.fn kc8 [.i n]) h=some (.agg [.bool (ofI n).1,s'.v],h')/\Nats h' s' (ofI n).2/\Grow h h'/\Own h s':=kzy c.1 c.2
def smallN(xs:List Nat):Nat×Bool:=if rt xs=true/\xs.length<=1 then(xs.getD 0 0,true)else(0,false)
theorem ky0{h:AH}{s:Sl}{xs:List Nat}(n:Nats h s xs):go (.fn kt8 [s.v]) h=some (.tup [.int .u64 ((smallN xs).1:Int),.bool (smallN xs).2],h):=by
 rw[k69,kbt n];have I:=n.len;simp only[qbr,kcl];cases y:rt xs with
 | false=>simp[smallN,y]
 | true =>
  simp only[Bool.not_true,cond_false];by_cases C:xs.length<=1
  ·rw[show decide ((s.len:Int)>1)=false from by rw[qbt];omega,cond_false];simp only[smallN,y,C,and_self,if_true];by_cases h0:xs.length=0
   ·rw[show decide ((s.len:Int)=0)=true from by rw[qbu];omega,cond_true,List.length_eq_zero_iff.1 h0];rfl
   ·rw[show decide ((s.len:Int)=0)=false from by rw[qbt];omega,cond_false];obtain⟨r,F,H⟩:=n.at (i:=0) (by omega);rw[show idx s.ref s.len 0 1=some r from F];simp only[qbr,H,kc];rw[kcb (by omega)]
  ·rw[show decide ((s.len:Int)>1)=true from by rw[qbu];omega];simp[smallN,C]
def smallI(y:Bool)(xs:List Nat):Int×Bool:=if rtI y xs=true/\(smallN xs).2=true/\(smallN xs).1<=(if y=true then 9223372036854775808 else 9223372036854775807)then((if y=true then -((smallN xs).1:Int)else((smallN xs).1:Int)),true)else(0,false)
theorem kbb6{h:AH}{s:Sl}{xs:List Nat}(n:Nats h s xs)(y:Bool):∃h',go (.fn kk3 [.agg [.bool y,s.v]]) h=some (.tup [.i (smallI y xs).1,.bool (smallI y xs).2],h')/\Grow h h':=by
 rw[kbes];simp only[kcy];have H:=qm h [.bool y,s.v] ki;have K:=ql h (.cells [.bool y,s.v] ki);have I:=n.grow K;generalize h.push (.cells [.bool y,s.v] ki)=h0 at *
 obtain⟨V,Q,U⟩:=kkn I y;have b1:=U.has H;refine⟨V,?_,K.trans U⟩
 have Z:(smallN xs).1<18446744073709551616:=by
  unfold smallN;split
  ·rename_i hx;rcases Nat.eq_zero_or_pos xs.length with F | F
   ·rw[List.length_eq_zero_iff.1 F];decide
   ·rw[kcb F];exact n.lt _ (qb0 _)
  ·decide
 have W:IntKind.wrap .u64 (9223372036854775807+1)=9223372036854775808:=by rw[wrapU];rfl
 cases y with
 | true =>
  simp only[qj,Nat.zero_add,H.cell,b1.cell,List.getElem?_cons_zero,List.getElem?_cons_succ,qbr,kcl,asSl_v,ky0 I,kf0,kc,cond_true,Q,W];unfold smallI;cases rtI true xs<;>cases(smallN xs).2<;>simp;by_cases C:(smallN xs).1<=9223372036854775808
  ·rw[show decide (9223372036854775808<((smallN xs).1:Int))=false from by rw[qbt];omega];simp only[cond_false,C,if_true];congr 3;rw[wrapU];simp[IntKind.wrap,IntKind.bits,IntKind.signed];omega
  ·rw[show decide (9223372036854775808<((smallN xs).1:Int))=true from by rw[qbu];omega];simp[C]
 | false =>
  simp only[qj,Nat.zero_add,H.cell,b1.cell,List.getElem?_cons_zero,List.getElem?_cons_succ,qbr,kcl,asSl_v,ky0 I,kf0,kc,cond_false,Q];unfold smallI;cases rtI false xs<;>cases(smallN xs).2<;>simp;by_cases C:(smallN xs).1<=9223372036854775807
  ·rw[show decide (9223372036854775807<((smallN xs).1:Int))=false from by rw[qbt];omega];simp only[cond_false,C,if_true];rw[wrap64 (by omega) (by omega)]
  ·rw[show decide (9223372036854775807<((smallN xs).1:Int))=true from by rw[qbu];omega];simp[C]
def kbk(a1:Bool)(x2 x3:List Nat):Bool:=cond (!(rtI a1 x2)) (false) (cond (!(rt x3)) (false) (cond (decide ((List.length x3:Int)=0)) (false) (cond (decide ((List.length x3:Int)>16)) (false) (cond (decide ((List.length x2:Int)>16)) (false) (decide ((cmpN ((gcdN x2 x3).1) [1])=0))))))
theorem kbdg{h:AH}{a2:Sl}{x2:List Nat}{a3:Sl}{x3:List Nat}(n2:Nats h a2 x2)(V:Nats h a3 x3)(a1:Bool):Runs (go (.fn kr8 [.agg [.bool a1,a2.v,a3.v]]) h) λv h'=>v=.bool (kbk a1 x2 x3)/\Grow h h':=by
 rw[k5k];refine qx λH4 b4 C=>?_;refine qw (qbc b4 0 rfl rfl) (qw (qbc b4 1 rfl qck) ?_);obtain⟨H5,e5,y⟩:=kkn (n2.grow C) a1;refine qw e5 (qw (seen rfl) ?_);refine qba (λH=>?_) (λH=>?_)
 ·have z:kbk a1 x2 x3=false:=by unfold kbk;exact(condT H).trans rfl
  rw[z];exact qu ⟨rfl,(C.trans y)⟩
 ·refine qw (qbc (y.has b4) 2 rfl qck) (qw (kbt (V.grow (C.trans y))) (qw (seen rfl) ?_));refine qba (λK=>?_) (λK=>?_)
  ·have z:kbk a1 x2 x3=false:=by unfold kbk;exact(condF H).trans ((condT K).trans rfl)
   rw[z];exact qu ⟨rfl,(C.trans y)⟩
  ·refine qw (qbc (y.has b4) 2 rfl qck) ?_;rw[(V.grow (C.trans y)).len];refine qba (λQ=>?_) (λQ=>?_)
   ·have z:kbk a1 x2 x3=false:=by unfold kbk;exact(condF H).trans ((condF K).trans ((condT Q).trans rfl))
    rw[z];exact qu ⟨rfl,(C.trans y)⟩
   ·refine qw (qbc (y.has b4) 2 rfl qck) ?_;rw[(V.grow (C.trans y)).len];refine qba (λF=>?_) (λF=>?_)
    ·have z:kbk a1 x2 x3=false:=by unfold kbk;exact(condF H).trans ((condF K).trans ((condF Q).trans ((condT F).trans rfl)))
     rw[z];exact qu ⟨rfl,(C.trans y)⟩
    ·refine qw (qbc (y.has b4) 1 rfl qck) ?_;rw[(n2.grow (C.trans y)).len];refine qba (λI=>?_) (λI=>?_)
     ·have z:kbk a1 x2 x3=false:=by unfold kbk;exact(condF H).trans ((condF K).trans ((condF Q).trans ((condF F).trans ((condT I).trans rfl))))
      rw[z];exact qu ⟨rfl,(C.trans y)⟩
     ·refine qw (qbc (y.has b4) 1 rfl qck) (qw (qbc (y.has b4) 2 rfl qck) ?_);obtain⟨_,ag,W,ah,rfl,Z,aa,ai⟩:=ko7 (n2.grow (C.trans y)) (V.grow (C.trans y));refine qw W (qw rfl (qw (seen qck) (qw (seen qcl) ?_)));refine qx λaj ac U=>?_;obtain⟨ak,ad,ae⟩:=kco (Z.grow U) (Nats.of_has (xs:=[1]) ac (by decide) (by decide));refine qw ad (qw (seen qcl) ?_);have z:kbk a1 x2 x3=decide ((cmpN ((gcdN x2 x3).1) [1])=0):=by unfold kbk;exact(condF H).trans ((condF K).trans ((condF Q).trans ((condF F).trans ((condF I).trans rfl))))
      rw[z];have af:=((((C.trans y).trans aa).trans U).trans ae);exact qu ⟨rfl,af⟩
def kbh(a1:Bool)(x2 x3:List Nat):Bool×List Nat×List Nat×Int:=cond (!(rtI a1 x2)) ((false,[],[],1)) (cond (!(rt x3)) ((false,[],[],1)) (cond (decide ((List.length x3:Int)=0)) ((false,[],[],3)) (cond (decide ((imax (List.length ((divN x2 ((gcdN x2 x3).1)).1):Int) (List.length ((divN x3 ((gcdN x2 x3).1)).1):Int))>16)) ((false,[],[],4)) (((((fromI a1 ((divN x2 ((gcdN x2 x3).1)).1)).1)),(fromI a1 ((divN x2 ((gcdN x2 x3).1)).1)).2,(divN x3 ((gcdN x2 x3).1)).1,0)))))
theorem ku6{h:AH}{a2:Sl}{x2:List Nat}{a3:Sl}{x3:List Nat}(n2:Nats h a2 x2)(n3:Nats h a3 x3)(a1:Bool):Runs (go (.fn kmz [.agg [.bool a1,a2.v],a3.v]) h) λv h'=>∃s1:Sl,∃s2:Sl,v=.tup [.agg [.bool (kbh a1 x2 x3).1,s1.v,s2.v],.i (kbh a1 x2 x3).2.2.2]/\Nats h' s1 ((kbh a1 x2 x3).2.1)/\Nats h' s2 ((kbh a1 x2 x3).2.2.1)/\Grow h h'/\Own h s1/\Own h s2:=by
 rw[kbdm];rw[n3.len];refine qx λH4 b4 g4=>?_;refine qx λH5 Z g5=>?_;refine qw (qbc (g5.has b4) 0 rfl rfl) (qw (qbc (g5.has b4) 1 rfl qck) ?_);obtain⟨H6,e6,V⟩:=kkn (n2.grow (g4.trans g5)) a1;refine qw e6 (qw (seen rfl) ?_);refine qba (λk7=>?_) (λk7=>?_)
 ·refine qy (V.has Z) rfl λH8 b8 u8=>?_;refine qw (qbc b8 0 rfl rfl) (qw (qbc b8 1 rfl qck) (qw (qbc b8 2 rfl qck) ?_));have z:kbh a1 x2 x3=(false,[],[],1):=by unfold kbh;exact(condT k7).trans rfl
  rw[z];have G9:=(((g4.trans g5).trans V).updr (qbo (g4).size (qbn _)) u8);exact qu ⟨(⟨none,0,.is 0⟩:Sl),(⟨none,0,.is 0⟩:Sl),rfl,(qq _),(qq _),G9,(qp _),(qp _)⟩
 ·have G8:=((g4.trans g5).trans V);have H:=n3.grow G8;refine qw (kbt H) (qw (seen rfl) ?_);refine qba (λaa=>?_) (λaa=>?_)
  ·refine qy (V.has Z) rfl λc0 an bf=>?_;have b6:=H.upda (qbg n3 (qbo (g4).size (qbn _))) bf;refine qw (qbc an 0 rfl rfl) (qw (qbc an 1 rfl qck) (qw (qbc an 2 rfl qck) ?_));have z:kbh a1 x2 x3=(false,[],[],1):=by unfold kbh;exact(condF k7).trans ((condT aa).trans rfl)
   rw[z];have b7:=(G8.updr (qbo (g4).size (qbn _)) bf);exact qu ⟨(⟨none,0,.is 0⟩:Sl),(⟨none,0,.is 0⟩:Sl),rfl,(qq _),(qq _),b7,(qp _),(qp _)⟩
  ·refine qba (λac=>?_) (λac=>?_)
   ·refine qy (V.has Z) rfl λc1 ap bg=>?_;have b9:=H.upda (qbg n3 (qbo (g4).size (qbn _))) bg;refine qw (qbc ap 0 rfl rfl) (qw (qbc ap 1 rfl qck) (qw (qbc ap 2 rfl qck) ?_));have z:kbh a1 x2 x3=(false,[],[],3):=by unfold kbh;exact(condF k7).trans ((condF aa).trans ((condT ac).trans rfl))
    rw[z];have ca:=(G8.updr (qbo (g4).size (qbn _)) bg);exact qu ⟨(⟨none,0,.is 0⟩:Sl),(⟨none,0,.is 0⟩:Sl),rfl,(qq _),(qq _),ca,(qp _),(qp _)⟩
   ·refine qw (qbc ((g5.trans V).has b4) 1 rfl qck) ?_;have K:=n2.grow G8;obtain⟨_,c2,cb,c3,rfl,ad,y,bh⟩:=ko7 K H;refine qw cb (qw rfl (qw (seen qck) (qw (seen qcl) ?_)));have cc:=((g5.trans V).trans y);have Q:=cc.has b4;refine qw (qbc Q 1 rfl qck) ?_;obtain⟨c4,cy,c5,cd,ae,aj,F,bi,ak⟩:=kd4 (K.grow y) ad;refine qw cd (qw rfl (qw (seen qck) ?_));rw[ae.len];refine qw (seen qck) (qw (seen qcl) ?_);obtain⟨ce,cz,c6,cf,aq,al,C,ar,am⟩:=kd4 (H.grow (y.trans F)) (ad.grow F);refine qw cf (qw rfl (qw (seen qck) ?_));rw[aq.len];refine qw (seen qck) (qw (seen qcl) ?_);refine qba (λau=>?_) (λau=>?_)
    ·have ch:=(((V.trans y).trans F).trans C);have aw:=ch.has Z;refine qy aw rfl λci ax U=>?_;have bj:=((y.trans F).trans C);have ay:=K.grow bj;have cj:=ay.upda (qbg n2 (qbo (g4).size (qbn _))) U;have az:=H.grow bj;have ck:=az.upda (qbg n3 (qbo (g4).size (qbn _))) U;have bv:=(ad.grow (F.trans C)).upda (qbh bh (V.has Z).lt) U;have bw:=(ae.grow C).upda (qbh bi ((V.trans y).has Z).lt) U;have bk:=(aj.grow C).upda (qbh ak ((V.trans y).has Z).lt) U;have bm:=((V.trans y).trans F);have bx:=aq.upda (qbh ar (bm.has Z).lt) U;have bn:=al.upda (qbh am (bm.has Z).lt) U;have cl:=qr ((F.trans C).has Q) (Nat.ne_of_lt (qbp (b4).lt (qbn _))) U;refine qw (qbc ax 0 rfl rfl) (qw (qbc ax 1 rfl qck) (qw (qbc ax 2 rfl qck) ?_));have z:kbh a1 x2 x3=(false,[],[],4):=by unfold kbh;exact(condF k7).trans ((condF aa).trans ((condF ac).trans ((condT au).trans rfl)))
     rw[z];have af:=((((G8.trans y).trans F).trans C).updr (qbo (g4).size (qbn _)) U);exact qu ⟨(⟨none,0,.is 0⟩:Sl),(⟨none,0,.is 0⟩:Sl),rfl,(qq _),(qq _),af,(qp _),(qp _)⟩
    ·refine qw (qbc ((F.trans C).has Q) 0 rfl rfl) ?_;obtain⟨cm,ci,cn,cp,W,bp⟩:=kbx (ae.grow C) a1;refine qw cn (qw rfl ?_);refine qz rfl ?_;refine qw (seenAt rfl rfl) (qw (seenAt rfl qck) ?_);have cq:=((((V.trans y).trans F).trans C).trans W);have a0:=cq.has Z;refine qy a0 rfl λc7 ba I=>?_;have bq:=(((y.trans F).trans C).trans W);have bb:=K.grow bq;have cr:=bb.upda (qbg n2 (qbo (g4).size (qbn _))) I;have bc:=H.grow bq;have ct:=bc.upda (qbg n3 (qbo (g4).size (qbn _))) I;have af:=((F.trans C).trans W);have ag:=ad.grow af;have bz:=ag.upda (qbh bh (V.has Z).lt) I;have b0:=(ae.grow (C.trans W)).upda (qbh bi ((V.trans y).has Z).lt) I;have br:=(aj.grow (C.trans W)).upda (qbh ak ((V.trans y).has Z).lt) I;have bd:=((V.trans y).trans F);have ah:=(aq.grow W).upda (qbh ar (bd.has Z).lt) I;have bt:=(al.grow W).upda (qbh am (bd.has Z).lt) I;have cu:=(bd.trans C);have ai:=cp.upda (qbh bp (cu.has Z).lt) I;have be:=af.has Q;have cv:=qr be (Nat.ne_of_lt (qbp (b4).lt (qbn _))) I;refine qw (qbc ba 0 rfl rfl) (qw (qbc ba 1 rfl qck) (qw (qbc ba 2 rfl qck) ?_));have z:kbh a1 x2 x3=((((fromI a1 ((divN x2 ((gcdN x2 x3).1)).1)).1)),(fromI a1 ((divN x2 ((gcdN x2 x3).1)).1)).2,(divN x3 ((gcdN x2 x3).1)).1,0):=by unfold kbh;exact(condF k7).trans ((condF aa).trans ((condF ac).trans ((condF au).trans rfl)))
     rw[z];have bu:=(((G8.trans y).trans F).trans C);have cw:=((G8.trans y).trans F);have cx:=((bu.trans W).updr (qbo (g4).size (qbn _)) I);exact qu ⟨cm,ce,rfl,ai,ah,cx,(bp.of_le bu),(ar.of_le cw)⟩
def kj(a1:Bool)(x2 x3:List Nat)(a4:Bool)(x5 x6:List Nat):Bool×List Nat:=(((((kv a1 x2 ((fromI false x6).1) ((fromI false x6).2)).1))),(kv a1 x2 ((fromI false x6).1) ((fromI false x6).2)).2.1)
theorem kob{h:AH}{a2:Sl}{x2:List Nat}{a3:Sl}{x3:List Nat}{a5:Sl}{x5:List Nat}{a6:Sl}{x6:List Nat}(n2:Nats h a2 x2)(n3:Nats h a3 x3)(n5:Nats h a5 x5)(n6:Nats h a6 x6)(a1 a4:Bool):Runs (go (.fn kjm [.agg [.bool a1,a2.v,a3.v],.agg [.bool a4,a5.v,a6.v]]) h) λv h'=>∃s1:Sl,v=.agg [.bool (kj a1 x2 x3 a4 x5 x6).1,s1.v]/\Nats h' s1 ((kj a1 x2 x3 a4 x5 x6).2)/\Grow h h'/\Own h s1:=by
 rw[kbj6];refine qx λH7 b7 g7=>?_;refine qx λH8 b8 g8=>?_;refine qx λH9 b9 g9=>?_;refine qx λbd Q K=>?_;have ar:=((g8.trans g9).trans K);have C:=ar.has b7;refine qw (qbc C 0 rfl rfl) (qw (qbc C 1 rfl qck) (qw (qbc ((g9.trans K).has b8) 2 rfl qck) ?_));have ak:=(((g7.trans g8).trans g9).trans K);have U:=n6.grow ak;obtain⟨be,bf,au,al,y,am⟩:=kbx U false;refine qw au (qw rfl ?_);refine qz rfl ?_;refine qw (seenAt rfl rfl) (qw (seenAt rfl qck) ?_);refine qbb (y.same C 0 2) ?_;refine qbb (y.same Q 0 0) ?_;have ac:=(ak.trans y);have V:=n2.grow ac;obtain⟨_,bg,aw,ax,rfl,ay,F,ad⟩:=kmq V al a1 ((fromI false x6).1);refine qw aw (qw rfl (qw rfl ?_));refine qz rfl ?_;refine qw (seenAt rfl rfl) (qw (seenAt rfl qck) (qw (seen qcl) ?_));refine qbb (F.same (y.has Q) 0 0) ?_;refine qy ((y.trans F).has Q) rfl λbh ae H=>?_;have af:=((g7.trans g8).trans g9);have ag:=(V.grow F).upda (qbg n2 (qbo (af).size (qbn _))) H;have ah:=(U.grow (y.trans F)).upda (qbg n6 (qbo (af).size (qbn _))) H;have W:=(al.grow F).upda (qbh am (Q).lt) H;have Z:=ay.upda (qbh ad (y.has Q).lt) H;have ai:=qr ((y.trans F).has C) (Nat.ne_of_lt (qbp ((g8.trans g9).has b7).lt (qbn _))) H;refine qw (qbc ae 0 rfl rfl) (qw (qbc ae 1 rfl qck) ?_);have az:=(((K.trans y).trans F).updr (qbn _) H);have aj:=az.has b9;refine qy aj rfl λbi an I=>?_;have a0:=ag.upda (qbg n2 (qbo ((g7.trans g8)).size (qbn _))) I;have ba:=ah.upda (qbg n6 (qbo ((g7.trans g8)).size (qbn _))) I;have ap:=W.upda (qbh am (K.has b9).lt) I;have aa:=Z.upda (qbh ad ((K.trans y).has b9).lt) I;have bb:=qr ai (Nat.ne_of_lt (qbp (g8.has b7).lt (qbn _))) I;have aq:=qr ae (Nat.ne_of_gt (qbp (b9).lt (qbn _))) I;refine qw (qbc an 0 rfl rfl) (qw (qbc an 1 rfl qck) ?_);have z:kj a1 x2 x3 a4 x5 x6=(((((kv a1 x2 ((fromI false x6).1) ((fromI false x6).2)).1))),(kv a1 x2 ((fromI false x6).1) ((fromI false x6).2)).2.1):=by unfold kj;exact rfl
 rw[z];have bc:=(((ac.trans F).updr (qbo (af).size (qbn _)) H).updr (qbo ((g7.trans g8)).size (qbn _)) I);exact qu ⟨ax,rfl,aa,bc,(ad.of_le ac)⟩
abbrev FRow:=Bool×(Sl×List Nat)×(Sl×List Nat)
structure FRows(h:AH)(s:Sl)(rows:List FRow):Prop where
 cells:Cells h s 3 (rows.flatMap λp=>[.bool p.1,p.2.1.1.v,p.2.2.1.v])
 num:∀p∈rows,Nats h p.2.1.1 p.2.1.2
 den:∀p∈rows,Nats h p.2.2.1 p.2.2.2
 short:rows.length<=9223372036854775807
theorem FRows.grow{h h':AH}(g:Grow h h'){s:Sl}{rows:List FRow}(n:FRows h s rows):FRows h' s rows:=⟨n.cells.grow g,λp hp=>(n.num p hp).grow g,λp hp=>(n.den p hp).grow g,n.short⟩
theorem k0a:∀(rows:List FRow)(i:Nat)(y:i<rows.length),
  (rows.flatMap λp=>[AV.bool p.1,p.2.1.1.v,p.2.2.1.v])[i*3]?=some (AV.bool rows[i].1)/\(rows.flatMap λp=>[AV.bool p.1,p.2.1.1.v,p.2.2.1.v])[i*3+1]?=some rows[i].2.1.1.v/\(rows.flatMap λp=>[AV.bool p.1,p.2.1.1.v,p.2.2.1.v])[i*3+2]?=some rows[i].2.2.1.v
 | [],i,y=>by simp at y
 | p::rows,0,y=>by simp
 | p::rows,i+1,y=>by
  have:=k0a rows i (by simpa using y);rw[show(i+1)*3=i*3+3 from by omega]
  simpa using this
theorem FRows.len{h:AH}{s:Sl}{rows:List FRow}(n:FRows h s rows):s.len=rows.length:=by
 have:=n.cells.len
 have y:(rows.flatMap λp=>[AV.bool p.1,p.2.1.1.v,p.2.2.1.v]).length=rows.length*3:=by
  generalize rows=l
  induction l with
  | nil=>rfl
  | cons a l ih=>rw[List.flatMap_cons,qbx,ih];simp;omega
 omega
theorem FRows.at{h:AH}{s:Sl}{rows:List FRow}(n:FRows h s rows){i:Nat}(F:i<rows.length):∃r,idx s.ref s.len (i:Int) 3=some r/\h.cell (r.add 0)=some (.bool rows[i].1)/\h.cell (r.add 1)=some rows[i].2.1.1.v/\h.cell (r.add 2)=some rows[i].2.2.1.v:=by obtain⟨H,p2,p3⟩:=k0a rows i F;obtain⟨r,y,I⟩:=n.cells.get _ _ H;obtain⟨V,e3,K⟩:=n.cells.get _ _ p2;obtain⟨Q,C,U⟩:=n.cells.get _ _ p3;rw[y]at e3 C;cases e3;cases C;refine⟨r.add (i*3),?_,by simpa using I,by rw[Ref.add_add];exact K,by rw[Ref.add_add];exact U⟩;rw[y,kej _ _ _ _ (by omega) (by rw[n.len];omega)];simp
theorem FRows.two{h:AH}{i:Nat}{a a' b b':Sl}{xs y ys C:List Nat}{p q:Bool}(c:h.has i [.bool p,a.v,a'.v,.bool q,b.v,b'.v] kbc)(n:Nats h a xs)(H:Nats h a' y)(m:Nats h b ys)(I:Nats h b' C) :
  FRows h ⟨some (.new i 0),2,.is 2⟩ [(p,(a,xs),(a',y)),(q,(b,ys),(b',C))]:=⟨qo c rfl,λr F=>by
  simp at F;rcases F with rfl | rfl
  ·exact n
  ·exact m,λr F=>by
  simp at F;rcases F with rfl | rfl
  ·exact H
  ·exact I,by simp⟩
theorem kbkj{h:AH}{s t:Sl}{xs ys:List Nat}(n:Nats h s xs)(m:Nats h t ys)(y:Bool):∃h',go (.fn keq [.agg [.bool y,s.v,t.v]]) h=some (.bool (!kbk y xs ys),h')/\Grow h h':=by
 rw[k5u];simp only[kcy];have F:=qm h [.bool y,s.v,t.v] kbc;have C:=ql h (.cells [.bool y,s.v,t.v] kbc);generalize h.push (.cells [.bool y,s.v,t.v] kbc)=h0 at *
 obtain⟨_,H,I,rfl,K⟩:=kbdg (n.grow C) (m.grow C) y;exact⟨H,by simp[F.cell,I],C.trans K⟩
theorem k1r{s:Sl}{rows:List FRow}:∀(k i:Nat),i+k=rows.length->∀{h:AH},FRows h s rows->
  ∃(j:Int)(h':AH),go (.pt kke knn [(0,s.v),(1,.func (.func keq) [] []),(7,.i (rows.length:Int)),(8,.i (i:Int))]) h=some (.i j,h')/\
   (j>=0↔(rows.drop i).all (λp=>kbk p.1 p.2.1.2 p.2.2.2)=false)/\Grow h h'
 | 0,i,F,h,n=>by
  rw[k0c,show decide ((i:Int)<(rows.length:Int))=false from by rw[qbt];omega,List.drop_of_length_le (by omega)];exact⟨-1,h,rfl,by simp,qk h⟩
 | k+1,i,F,h,n=>by
  have hs:=n.short;obtain⟨r,H,I,e3,y⟩:=n.at (i:=i) (by omega);have hp:=n.num rows[i] (qb0 _);have hq:=n.den rows[i] (qb0 _);obtain⟨K,Q,C⟩:=kbkj hp hq rows[i].1;rw[k0c,show decide ((i:Int)<(rows.length:Int))=true from by rw[qbu];omega,cond_true,H];simp only[qbr,I,e3,y,asSl_v,kcl,Q];rw[qcd (by omega),List.all_cons,ko (by omega)];cases hr:kbk rows[i].1 (rows[i].2.1.2) (rows[i].2.2.2)with
  | false=>exact⟨(i:Int),K,rfl,by simp,C⟩
  | true =>obtain⟨j,U,V,W,Z⟩:=k1r k (i+1) (by omega) (n.grow C);exact⟨j,U,V,by simpa using W,C.trans Z⟩
theorem kbja{h:AH}{s:Sl}{rows:List FRow}(n:FRows h s rows):∃h',go (.fn kli [s.v]) h=some (.bool (rows.all λp=>kbk p.1 p.2.1.2 p.2.2.2),h')/\Grow h h':=by
 obtain⟨j,h',F,y,g⟩:=k1r rows.length 0 (by omega) n;refine⟨h',?_,g⟩;rw[kbkt,kbk2,k6d,n.len];rw[show(0:Int)=((0:Nat):Int)from rfl,F];simp only[qbr,kc,kcl];rw[List.drop_zero]at y;cases C:rows.all λp=>kbk p.1 p.2.1.2 p.2.2.2 with
 | false=>rw[C]at y;simp at y;simp;omega
 | true=>rw[C]at y;simp at y;simp;omega
theorem k24{h:AH}{i:Nat}{a a' b b':Sl}{xs y ys C:List Nat}{p q:Bool}(c:h.has i [.bool p,a.v,a'.v,.bool q,b.v,b'.v] kbc)(n:Nats h a xs)(F:Nats h a' y)(m:Nats h b ys)(H:Nats h b' C) :
  ∃h',go (.fn kli [(⟨some (.new i 0),2,.is 2⟩:Sl).v]) h=some (.bool (kbk p xs y&&kbk q ys C),h')/\Grow h h':=by
 obtain⟨h',e,g⟩:=kbja (FRows.two c n F m H);exact⟨h',by rw[e];simp,g⟩
def OpS(y:FuncId)(op:Bool->List Nat->Bool->List Nat->Bool×List Nat×Int):Prop:=∀{h:AH}{a2:Sl}{x2:List Nat}{a4:Sl}{x4:List Nat},Nats h a2 x2->Nats h a4 x4->∀a1 a3:Bool,Runs (go (.fn y [.agg [.bool a1,a2.v],.agg [.bool a3,a4.v]]) h) λv h'=>∃s1:Sl,v=.tup [.agg [.bool (op a1 x2 a3 x4).1,s1.v],.i (op a1 x2 a3 x4).2.2]/\Nats h' s1 ((op a1 x2 a3 x4).2.1)/\Grow h h'/\Own h s1
def kd8(op:Bool->List Nat->Bool->List Nat->Bool×List Nat×Int)(a1:Bool)(x2 x3:List Nat)(a4:Bool)(x5 x6:List Nat):Bool×List Nat×List Nat×Int:=cond (!((kbk a1 x2 x3&&kbk a4 x5 x6))) ((false,[],[],1)) (((((kbh (((op ((kj a1 x2 x3 a4 x5 x6).1) ((kj a1 x2 x3 a4 x5 x6).2) ((kj a4 x5 x6 a1 x2 x3).1) ((kj a4 x5 x6 a1 x2 x3).2)).1)) ((op ((kj a1 x2 x3 a4 x5 x6).1) ((kj a1 x2 x3 a4 x5 x6).2) ((kj a4 x5 x6 a1 x2 x3).1) ((kj a4 x5 x6 a1 x2 x3).2)).2.1) ((mulN x3 x6).1)).1)),(kbh (((op ((kj a1 x2 x3 a4 x5 x6).1) ((kj a1 x2 x3 a4 x5 x6).2) ((kj a4 x5 x6 a1 x2 x3).1) ((kj a4 x5 x6 a1 x2 x3).2)).1)) ((op ((kj a1 x2 x3 a4 x5 x6).1) ((kj a1 x2 x3 a4 x5 x6).2) ((kj a4 x5 x6 a1 x2 x3).1) ((kj a4 x5 x6 a1 x2 x3).2)).2.1) ((mulN x3 x6).1)).2.1,(kbh (((op ((kj a1 x2 x3 a4 x5 x6).1) ((kj a1 x2 x3 a4 x5 x6).2) ((kj a4 x5 x6 a1 x2 x3).1) ((kj a4 x5 x6 a1 x2 x3).2)).1)) ((op ((kj a1 x2 x3 a4 x5 x6).1) ((kj a1 x2 x3 a4 x5 x6).2) ((kj a4 x5 x6 a1 x2 x3).1) ((kj a4 x5 x6 a1 x2 x3).2)).2.1) ((mulN x3 x6).1)).2.2.1,((kbh (((op ((kj a1 x2 x3 a4 x5 x6).1) ((kj a1 x2 x3 a4 x5 x6).2) ((kj a4 x5 x6 a1 x2 x3).1) ((kj a4 x5 x6 a1 x2 x3).2)).1)) ((op ((kj a1 x2 x3 a4 x5 x6).1) ((kj a1 x2 x3 a4 x5 x6).2) ((kj a4 x5 x6 a1 x2 x3).1) ((kj a4 x5 x6 a1 x2 x3).2)).2.1) ((mulN x3 x6).1)).2.2.2)))
theorem k0i{fu:FuncId}{op:Bool->List Nat->Bool->List Nat->Bool×List Nat×Int}(S:OpS fu op){h:AH}{a2:Sl}{x2:List Nat}{a3:Sl}{x3:List Nat}{a5:Sl}{x5:List Nat}{a6:Sl}{x6:List Nat}(n2:Nats h a2 x2)(n3:Nats h a3 x3)(n5:Nats h a5 x5)(n6:Nats h a6 x6)(a1 a4:Bool):Runs (both_T fu a1 a2 a3 a4 a5 a6 h) λv h'=>∃s1:Sl,∃s2:Sl,v=.tup [.agg [.bool (kd8 op a1 x2 x3 a4 x5 x6).1,s1.v,s2.v],.i (kd8 op a1 x2 x3 a4 x5 x6).2.2.2]/\Nats h' s1 ((kd8 op a1 x2 x3 a4 x5 x6).2.1)/\Nats h' s2 ((kd8 op a1 x2 x3 a4 x5 x6).2.2.1)/\Grow h h'/\Own h s1/\Own h s2:=by
 unfold both_T;refine qx λH7 b7 g7=>?_;refine qx λH8 b8 g8=>?_;refine qx λH9 b9 g9=>?_;refine qw (qbc ((g8.trans g9).has b7) 0 rfl rfl) (qw (qbc ((g8.trans g9).has b7) 1 rfl qck) (qw (qbc ((g8.trans g9).has b7) 2 rfl qck) (qw (qbc (g9.has b8) 0 rfl rfl) (qw (qbc (g9.has b8) 1 rfl qck) (qw (qbc (g9.has b8) 2 rfl qck) ?_)))));refine qx λdg be Z=>?_;have ai:=(((g7.trans g8).trans g9).trans Z);have ad:=n2.grow ai;have ae:=n3.grow ai;have af:=n5.grow ai;have ag:=n6.grow ai;obtain⟨dh,cn,y⟩:=k24 be ad ae af ag;refine qw cn (qw (seen rfl) ?_);refine qba (λbf=>?_) (λbf=>?_)
 ·refine qy ((Z.trans y).has b9) rfl λcp aa aj=>?_;have cq:=(ad.grow y).upda (qbg n2 (qbo ((g7.trans g8)).size (qbn _))) aj;have cr:=(ae.grow y).upda (qbg n3 (qbo ((g7.trans g8)).size (qbn _))) aj;have ct:=(af.grow y).upda (qbg n5 (qbo ((g7.trans g8)).size (qbn _))) aj;have cu:=(ag.grow y).upda (qbg n6 (qbo ((g7.trans g8)).size (qbn _))) aj;have cf:=qr (y.has be) (Nat.ne_of_gt (qbp (b9).lt (qbn _))) aj;refine qw (qbc aa 0 rfl rfl) (qw (qbc aa 1 rfl qck) (qw (qbc aa 2 rfl qck) ?_));have z:kd8 op a1 x2 x3 a4 x5 x6=(false,[],[],1):=by unfold kd8;exact(condT bf).trans rfl
  rw[z];have bg:=((ai.trans y).updr (qbo ((g7.trans g8)).size (qbn _)) aj);exact qu ⟨(⟨none,0,.is 0⟩:Sl),(⟨none,0,.is 0⟩:Sl),rfl,(qq _),(qq _),bg,(qp _),(qp _)⟩
 ·refine qx λcp aa ac=>?_;have bg:=((((g8.trans g9).trans Z).trans y).trans ac);have C:=bg.has b7;refine qw (qbc C 0 rfl rfl) (qw (qbc C 1 rfl qck) (qw (qbc C 2 rfl qck) ?_));have cv:=(((g9.trans Z).trans y).trans ac);have F:=cv.has b8;refine qw (qbc F 0 rfl rfl) (qw (qbc F 1 rfl qck) (qw (qbc F 2 rfl qck) (qw (qbc F 0 rfl rfl) (qw (qbc F 1 rfl qck) (qw (qbc F 2 rfl qck) (qw (qbc C 0 rfl rfl) (qw (qbc C 1 rfl qck) (qw (qbc C 2 rfl qck) ?_))))))));obtain⟨_,di,cw,dj,rfl,bt,V,bu⟩:=kob (ad.grow (y.trans ac)) (ae.grow (y.trans ac)) (af.grow (y.trans ac)) (ag.grow (y.trans ac)) a1 a4;refine qw cw (qw rfl ?_);refine qz rfl ?_;refine qw (seenAt rfl rfl) (qw (seenAt rfl qck) ?_);refine qbb (V.same C 0 3) ?_;refine qbb (V.same F 0 3) ?_;refine qbb (V.same aa 0 0) ?_;have al:=((y.trans ac).trans V);have am:=af.grow al;have an:=ag.grow al;have ap:=ad.grow al;have aq:=ae.grow al;obtain⟨_,dk,cx,dl,rfl,bv,K,bw⟩:=kob am an ap aq a4 a1;refine qw cx (qw rfl ?_);refine qz rfl ?_;refine qw (seenAt rfl rfl) (qw (seenAt rfl qck) ?_);refine qbb (K.same (V.has aa) 0 0) ?_;obtain⟨_,dm,cy,dn,rfl,cz,W,bx⟩:=S (bt.grow K) bv ((kj a1 x2 x3 a4 x5 x6).1) ((kj a4 x5 x6 a1 x2 x3).1);refine qw cy (qw rfl (qw rfl ?_));refine qz rfl ?_;refine qw (seenAt rfl rfl) (qw (seenAt rfl qck) (qw (seen qcl) ?_));refine qbb (W.same ((V.trans K).has aa) 0 0) ?_;have bh:=((V.trans K).trans W);have az:=bh.has aa;refine qy az rfl λdp bi U=>?_;have ak:=(ai.trans y);have bj:=(ap.grow (K.trans W)).upda (qbg n2 (qbo (ak).size (qbn _))) U;have ar:=(aq.grow (K.trans W)).upda (qbg n3 (qbo (ak).size (qbn _))) U;have bk:=(am.grow (K.trans W)).upda (qbg n5 (qbo (ak).size (qbn _))) U;have au:=(an.grow (K.trans W)).upda (qbg n6 (qbo (ak).size (qbn _))) U;have a0:=(bt.grow (K.trans W)).upda (qbh bu (aa).lt) U;have ba:=(bv.grow W).upda (qbh bw (V.has aa).lt) U;have ah:=cz.upda (qbh bx ((V.trans K).has aa).lt) U;have bm:=bh.has C;have c0:=(((g8.trans g9).trans Z).trans y);have aw:=qr bm (Nat.ne_of_lt (qbp (c0.has b7).lt (qbn _))) U;have bn:=bh.has F;have c1:=((g9.trans Z).trans y);have ax:=qr bn (Nat.ne_of_lt (qbp (c1.has b8).lt (qbn _))) U;refine qw (qbc aw 2 rfl qck) (qw (qbc ax 2 rfl qck) ?_);obtain⟨dq,dr,c2,bz,H,c3⟩:=kd7 ar au;refine qw c2 (qw rfl (qw (seen qck) (qw (seen qcl) (qw (qbc (H.has bi) 0 rfl rfl) (qw (qbc (H.has bi) 1 rfl qck) ?_)))));obtain⟨_,dt,c4,c5,b0,rfl,c6,b5,Q,b6,bd⟩:=ku6 (ah.grow H) bz (((op ((kj a1 x2 x3 a4 x5 x6).1) ((kj a1 x2 x3 a4 x5 x6).2) ((kj a4 x5 x6 a1 x2 x3).1) ((kj a4 x5 x6 a1 x2 x3).2)).1));refine qw c4 (qw rfl (qw rfl ?_));refine qz rfl ?_;refine qw (seenAt rfl rfl) (qw (seenAt rfl qck) (qw (seenAt rfl qck) (qw (seen qcl) ?_)));have c7:=((((((((Z.trans y).trans ac).trans V).trans K).trans W).updr (qbo ((Z.trans y)).size (qbn _)) U).trans H).trans Q);have bp:=c7.has b9;refine qy bp rfl λdu bq I=>?_;have c8:=(bj.grow (H.trans Q)).upda (qbg n2 (qbo ((g7.trans g8)).size (qbn _))) I;have c9:=(ar.grow (H.trans Q)).upda (qbg n3 (qbo ((g7.trans g8)).size (qbn _))) I;have da:=(bk.grow (H.trans Q)).upda (qbg n5 (qbo ((g7.trans g8)).size (qbn _))) I;have db:=(au.grow (H.trans Q)).upda (qbg n6 (qbo ((g7.trans g8)).size (qbn _))) I;have ca:=((Z.trans y).trans ac);have ch:=(a0.grow (H.trans Q)).upda (qbh bu (ca.has b9).lt) I;have cb:=(ca.trans V);have ci:=(ba.grow (H.trans Q)).upda (qbh bw (cb.has b9).lt) I;have cc:=(cb.trans K);have cj:=(ah.grow (H.trans Q)).upda (qbh bx (cc.has b9).lt) I;have cd:=((cc.trans W).updr (qbo ((Z.trans y)).size (qbn _)) U);have ck:=(bz.grow Q).upda (qbh c3 (cd.has b9).lt) I;have ce:=(cd.trans H);have bb:=c6.upda (qbh b6 (ce.has b9).lt) I;have ay:=b5.upda (qbh bd (ce.has b9).lt) I;have dc:=qr ((H.trans Q).has aw) (Nat.ne_of_lt (qbp (g8.has b7).lt (qbn _))) I;have dd:=qr ((H.trans Q).has ax) (Nat.ne_of_lt (qbp (b8).lt (qbn _))) I;have de:=(((((al.trans K).trans W).updr (qbo (y).size (qbn _)) U).trans H).trans Q);have bc:=de.has be;have cl:=qr bc (Nat.ne_of_gt (qbp (b9).lt (qbn _))) I;have cm:=qr ((H.trans Q).has bi) (Nat.ne_of_gt (qbp ((Z.trans y).has b9).lt (qbn _))) I;refine qw (qbc bq 0 rfl rfl) (qw (qbc bq 1 rfl qck) (qw (qbc bq 2 rfl qck) ?_));have z:kd8 op a1 x2 x3 a4 x5 x6=((((kbh (((op ((kj a1 x2 x3 a4 x5 x6).1) ((kj a1 x2 x3 a4 x5 x6).2) ((kj a4 x5 x6 a1 x2 x3).1) ((kj a4 x5 x6 a1 x2 x3).2)).1)) ((op ((kj a1 x2 x3 a4 x5 x6).1) ((kj a1 x2 x3 a4 x5 x6).2) ((kj a4 x5 x6 a1 x2 x3).1) ((kj a4 x5 x6 a1 x2 x3).2)).2.1) ((mulN x3 x6).1)).1)),(kbh (((op ((kj a1 x2 x3 a4 x5 x6).1) ((kj a1 x2 x3 a4 x5 x6).2) ((kj a4 x5 x6 a1 x2 x3).1) ((kj a4 x5 x6 a1 x2 x3).2)).1)) ((op ((kj a1 x2 x3 a4 x5 x6).1) ((kj a1 x2 x3 a4 x5 x6).2) ((kj a4 x5 x6 a1 x2 x3).1) ((kj a4 x5 x6 a1 x2 x3).2)).2.1) ((mulN x3 x6).1)).2.1,(kbh (((op ((kj a1 x2 x3 a4 x5 x6).1) ((kj a1 x2 x3 a4 x5 x6).2) ((kj a4 x5 x6 a1 x2 x3).1) ((kj a4 x5 x6 a1 x2 x3).2)).1)) ((op ((kj a1 x2 x3 a4 x5 x6).1) ((kj a1 x2 x3 a4 x5 x6).2) ((kj a4 x5 x6 a1 x2 x3).1) ((kj a4 x5 x6 a1 x2 x3).2)).2.1) ((mulN x3 x6).1)).2.2.1,((kbh (((op ((kj a1 x2 x3 a4 x5 x6).1) ((kj a1 x2 x3 a4 x5 x6).2) ((kj a4 x5 x6 a1 x2 x3).1) ((kj a4 x5 x6 a1 x2 x3).2)).1)) ((op ((kj a1 x2 x3 a4 x5 x6).1) ((kj a1 x2 x3 a4 x5 x6).2) ((kj a4 x5 x6 a1 x2 x3).1) ((kj a4 x5 x6 a1 x2 x3).2)).2.1) ((mulN x3 x6).1)).2.2.2)):=by unfold kd8;exact(condF bf).trans rfl
  rw[z];have br:=((((((ak.trans ac).trans V).trans K).trans W).updr (qbo (ak).size (qbn _)) U).trans H);have df:=((br.trans Q).updr (qbo ((g7.trans g8)).size (qbn _)) I);exact qu ⟨c5,b0,rfl,bb,ay,df,(b6.of_le br),(bd.of_le br)⟩
def kdf:Bool->List Nat->List Nat->Bool->List Nat->List Nat->Bool×List Nat×List Nat×Int:=kd8 kbw
theorem kbhk{h:AH}{a2:Sl}{x2:List Nat}{a3:Sl}{x3:List Nat}{a5:Sl}{x5:List Nat}{a6:Sl}{x6:List Nat}(n2:Nats h a2 x2)(y:Nats h a3 x3)(C:Nats h a5 x5)(F:Nats h a6 x6)(a1 a4:Bool):Runs (go (.fn kka [.agg [.bool a1,a2.v,a3.v],.agg [.bool a4,a5.v,a6.v],.func (.func kfg) [] []]) h) λv h'=>∃s1:Sl,∃s2:Sl,v=.tup [.agg [.bool (kdf a1 x2 x3 a4 x5 x6).1,s1.v,s2.v],.i (kdf a1 x2 x3 a4 x5 x6).2.2.2]/\Nats h' s1 ((kdf a1 x2 x3 a4 x5 x6).2.1)/\Nats h' s2 ((kdf a1 x2 x3 a4 x5 x6).2.2.1)/\Grow h h'/\Own h s1/\Own h s2:=by rw[kbbo];exact k0i (λa b=>ksn a b) n2 y C F a1 a4
def kef(a1:Bool)(x2 x3:List Nat)(a4:Bool)(x5 x6:List Nat):Bool×List Nat×List Nat×Int:=((((kdf a1 x2 x3 a4 x5 x6).1)),(kdf a1 x2 x3 a4 x5 x6).2.1,(kdf a1 x2 x3 a4 x5 x6).2.2.1,((kdf a1 x2 x3 a4 x5 x6).2.2.2))
theorem kbdq{h:AH}{a2:Sl}{x2:List Nat}{a3:Sl}{x3:List Nat}{a5:Sl}{x5:List Nat}{a6:Sl}{x6:List Nat}(n2:Nats h a2 x2)(n3:Nats h a3 x3)(n5:Nats h a5 x5)(n6:Nats h a6 x6)(a1 a4:Bool):Runs (go (.fn kqm [.agg [.bool a1,a2.v,a3.v],.agg [.bool a4,a5.v,a6.v]]) h) λv h'=>∃s1:Sl,∃s2:Sl,v=.tup [.agg [.bool (kef a1 x2 x3 a4 x5 x6).1,s1.v,s2.v],.i (kef a1 x2 x3 a4 x5 x6).2.2.2]/\Nats h' s1 ((kef a1 x2 x3 a4 x5 x6).2.1)/\Nats h' s2 ((kef a1 x2 x3 a4 x5 x6).2.2.1)/\Grow h h'/\Own h s1/\Own h s2:=by
 rw[kbkq];refine qx λH7 b7 g7=>?_;refine qx λH8 b8 V=>?_;refine qx λH9 b9 g9=>?_;refine qw (qbc ((V.trans g9).has b7) 0 rfl rfl) (qw (qbc ((V.trans g9).has b7) 1 rfl qck) (qw (qbc ((V.trans g9).has b7) 2 rfl qck) (qw (qbc (g9.has b8) 0 rfl rfl) (qw (qbc (g9.has b8) 1 rfl qck) (qw (qbc (g9.has b8) 2 rfl qck) ?_)))));have y:=((g7.trans V).trans g9);have H:=n2.grow y;have I:=n3.grow y;have K:=n5.grow y;have Q:=n6.grow y;obtain⟨_,an,af,ag,ac,rfl,ah,ad,F,ae,Z⟩:=kbhk H I K Q a1 a4;refine qw af (qw rfl (qw rfl ?_));refine qz rfl ?_;refine qw (seenAt rfl rfl) (qw (seenAt rfl qck) (qw (seenAt rfl qck) (qw (seen qcl) ?_)));refine qy (F.has b9) rfl λap aa C=>?_;have ai:=(H.grow F).upda (qbg n2 (qbo ((g7.trans V)).size (qbn _))) C;have aj:=(I.grow F).upda (qbg n3 (qbo ((g7.trans V)).size (qbn _))) C;have ak:=(K.grow F).upda (qbg n5 (qbo ((g7.trans V)).size (qbn _))) C;have al:=(Q.grow F).upda (qbg n6 (qbo ((g7.trans V)).size (qbn _))) C;have W:=ah.upda (qbh ae (b9).lt) C;have U:=ad.upda (qbh Z (b9).lt) C;refine qw (qbc aa 0 rfl rfl) (qw (qbc aa 1 rfl qck) (qw (qbc aa 2 rfl qck) ?_));have z:kef a1 x2 x3 a4 x5 x6=((((kdf a1 x2 x3 a4 x5 x6).1)),(kdf a1 x2 x3 a4 x5 x6).2.1,(kdf a1 x2 x3 a4 x5 x6).2.2.1,((kdf a1 x2 x3 a4 x5 x6).2.2.2)):=by unfold kef;exact rfl
 rw[z];have am:=((y.trans F).updr (qbo ((g7.trans V)).size (qbn _)) C);exact qu ⟨ag,ac,rfl,W,U,am,(ae.of_le y),(Z.of_le y)⟩
theorem k63{h:AH}{a2:Sl}{x2:List Nat}{a3:Sl}{x3:List Nat}{a5:Sl}{x5:List Nat}{a6:Sl}{x6:List Nat}(n2:Nats h a2 x2)(y:Nats h a3 x3)(C:Nats h a5 x5)(F:Nats h a6 x6){a1 a4:Bool}{r:_}(q:kef a1 x2 x3 a4 x5 x6=r):Runs (go (.fn kqm [.agg [.bool a1,a2.v,a3.v],.agg [.bool a4,a5.v,a6.v]]) h) λv h'=>∃s1:Sl,∃s2:Sl,v=.tup [.agg [.bool r.1,s1.v,s2.v],.i r.2.2.2]/\Nats h' s1 (r.2.1)/\Nats h' s2 (r.2.2.1)/\Grow h h'/\Own h s1/\Own h s2:=by subst q;exact kbdq n2 y C F a1 a4
def kdl:Bool->List Nat->List Nat->Bool->List Nat->List Nat->Bool×List Nat×List Nat×Int:=kd8 kba
theorem k4v{h:AH}{a2:Sl}{x2:List Nat}{a3:Sl}{x3:List Nat}{a5:Sl}{x5:List Nat}{a6:Sl}{x6:List Nat}(n2:Nats h a2 x2)(y:Nats h a3 x3)(C:Nats h a5 x5)(F:Nats h a6 x6)(a1 a4:Bool):Runs (go (.fn kka [.agg [.bool a1,a2.v,a3.v],.agg [.bool a4,a5.v,a6.v],.func (.func kfk) [] []]) h) λv h'=>∃s1:Sl,∃s2:Sl,v=.tup [.agg [.bool (kdl a1 x2 x3 a4 x5 x6).1,s1.v,s2.v],.i (kdl a1 x2 x3 a4 x5 x6).2.2.2]/\Nats h' s1 ((kdl a1 x2 x3 a4 x5 x6).2.1)/\Nats h' s2 ((kdl a1 x2 x3 a4 x5 x6).2.2.1)/\Grow h h'/\Own h s1/\Own h s2:=by rw[kbbe];exact k0i (λa b=>kn7 a b) n2 y C F a1 a4
def kep(a1:Bool)(x2 x3:List Nat)(a4:Bool)(x5 x6:List Nat):Bool×List Nat×List Nat×Int:=((((kdl a1 x2 x3 a4 x5 x6).1)),(kdl a1 x2 x3 a4 x5 x6).2.1,(kdl a1 x2 x3 a4 x5 x6).2.2.1,((kdl a1 x2 x3 a4 x5 x6).2.2.2))
theorem kbfa{h:AH}{a2:Sl}{x2:List Nat}{a3:Sl}{x3:List Nat}{a5:Sl}{x5:List Nat}{a6:Sl}{x6:List Nat}(n2:Nats h a2 x2)(n3:Nats h a3 x3)(n5:Nats h a5 x5)(n6:Nats h a6 x6)(a1 a4:Bool):Runs (go (.fn kn2 [.agg [.bool a1,a2.v,a3.v],.agg [.bool a4,a5.v,a6.v]]) h) λv h'=>∃s1:Sl,∃s2:Sl,v=.tup [.agg [.bool (kep a1 x2 x3 a4 x5 x6).1,s1.v,s2.v],.i (kep a1 x2 x3 a4 x5 x6).2.2.2]/\Nats h' s1 ((kep a1 x2 x3 a4 x5 x6).2.1)/\Nats h' s2 ((kep a1 x2 x3 a4 x5 x6).2.2.1)/\Grow h h'/\Own h s1/\Own h s2:=by
 rw[kbbw];refine qx λH7 b7 g7=>?_;refine qx λH8 b8 V=>?_;refine qx λH9 b9 g9=>?_;refine qw (qbc ((V.trans g9).has b7) 0 rfl rfl) (qw (qbc ((V.trans g9).has b7) 1 rfl qck) (qw (qbc ((V.trans g9).has b7) 2 rfl qck) (qw (qbc (g9.has b8) 0 rfl rfl) (qw (qbc (g9.has b8) 1 rfl qck) (qw (qbc (g9.has b8) 2 rfl qck) ?_)))));have y:=((g7.trans V).trans g9);have H:=n2.grow y;have I:=n3.grow y;have K:=n5.grow y;have Q:=n6.grow y;obtain⟨_,an,af,ag,ac,rfl,ah,ad,F,ae,Z⟩:=k4v H I K Q a1 a4;refine qw af (qw rfl (qw rfl ?_));refine qz rfl ?_;refine qw (seenAt rfl rfl) (qw (seenAt rfl qck) (qw (seenAt rfl qck) (qw (seen qcl) ?_)));refine qy (F.has b9) rfl λap aa C=>?_;have ai:=(H.grow F).upda (qbg n2 (qbo ((g7.trans V)).size (qbn _))) C;have aj:=(I.grow F).upda (qbg n3 (qbo ((g7.trans V)).size (qbn _))) C;have ak:=(K.grow F).upda (qbg n5 (qbo ((g7.trans V)).size (qbn _))) C;have al:=(Q.grow F).upda (qbg n6 (qbo ((g7.trans V)).size (qbn _))) C;have W:=ah.upda (qbh ae (b9).lt) C;have U:=ad.upda (qbh Z (b9).lt) C;refine qw (qbc aa 0 rfl rfl) (qw (qbc aa 1 rfl qck) (qw (qbc aa 2 rfl qck) ?_));have z:kep a1 x2 x3 a4 x5 x6=((((kdl a1 x2 x3 a4 x5 x6).1)),(kdl a1 x2 x3 a4 x5 x6).2.1,(kdl a1 x2 x3 a4 x5 x6).2.2.1,((kdl a1 x2 x3 a4 x5 x6).2.2.2)):=by unfold kep;exact rfl
 rw[z];have am:=((y.trans F).updr (qbo ((g7.trans V)).size (qbn _)) C);exact qu ⟨ag,ac,rfl,W,U,am,(ae.of_le y),(Z.of_le y)⟩
theorem kbgv{h:AH}{a2:Sl}{x2:List Nat}{a3:Sl}{x3:List Nat}{a5:Sl}{x5:List Nat}{a6:Sl}{x6:List Nat}(n2:Nats h a2 x2)(y:Nats h a3 x3)(C:Nats h a5 x5)(F:Nats h a6 x6){a1 a4:Bool}{r:_}(q:kep a1 x2 x3 a4 x5 x6=r):Runs (go (.fn kn2 [.agg [.bool a1,a2.v,a3.v],.agg [.bool a4,a5.v,a6.v]]) h) λv h'=>∃s1:Sl,∃s2:Sl,v=.tup [.agg [.bool r.1,s1.v,s2.v],.i r.2.2.2]/\Nats h' s1 (r.2.1)/\Nats h' s2 (r.2.2.1)/\Grow h h'/\Own h s1/\Own h s2:=by subst q;exact kbfa n2 y C F a1 a4
def khk(a1:Bool)(x2 x3:List Nat)(a4:Bool)(x5 x6:List Nat):Int:=cond (!((kbk a1 x2 x3&&kbk a4 x5 x6))) (0) ((cmpI ((kj a1 x2 x3 a4 x5 x6).1) ((kj a1 x2 x3 a4 x5 x6).2) ((kj a4 x5 x6 a1 x2 x3).1) ((kj a4 x5 x6 a1 x2 x3).2)))
theorem k7u{h:AH}{a2:Sl}{x2:List Nat}{a3:Sl}{x3:List Nat}{a5:Sl}{x5:List Nat}{a6:Sl}{x6:List Nat}(n2:Nats h a2 x2)(n3:Nats h a3 x3)(n5:Nats h a5 x5)(n6:Nats h a6 x6)(a1 a4:Bool):Runs (go (.fn kr4 [.agg [.bool a1,a2.v,a3.v],.agg [.bool a4,a5.v,a6.v]]) h) λv h'=>v=.i (khk a1 x2 x3 a4 x5 x6)/\Grow h h':=by
 rw[kbbz];refine qx λH7 b7 g7=>?_;refine qx λH8 V g8=>?_;refine qw (qbc (g8.has b7) 0 rfl rfl) (qw (qbc (g8.has b7) 1 rfl qck) (qw (qbc (g8.has b7) 2 rfl qck) (qw (qbc V 0 rfl rfl) (qw (qbc V 1 rfl qck) (qw (qbc V 2 rfl qck) ?_)))));refine qx λH9 b9 W=>?_;have U:=((g7.trans g8).trans W);have F:=n2.grow U;have H:=n3.grow U;have I:=n5.grow U;have K:=n6.grow U;obtain⟨al,ad,y⟩:=k24 b9 F H I K;refine qw ad (qw (seen rfl) ?_);refine qba (λZ=>?_) (λZ=>?_)
 ·have z:khk a1 x2 x3 a4 x5 x6=0:=by unfold khk;exact(condT Z).trans rfl
  rw[z];have aa:=(U.trans y);exact qu ⟨rfl,aa⟩
 ·have aa:=((g8.trans W).trans y);have C:=aa.has b7;refine qw (qbc C 0 rfl rfl) (qw (qbc C 1 rfl qck) (qw (qbc C 2 rfl qck) (qw (qbc ((W.trans y).has V) 0 rfl rfl) (qw (qbc ((W.trans y).has V) 1 rfl qck) (qw (qbc ((W.trans y).has V) 2 rfl qck) (qw (qbc ((W.trans y).has V) 0 rfl rfl) (qw (qbc ((W.trans y).has V) 1 rfl qck) (qw (qbc ((W.trans y).has V) 2 rfl qck) (qw (qbc C 0 rfl rfl) (qw (qbc C 1 rfl qck) (qw (qbc C 2 rfl qck) ?_)))))))))));obtain⟨_,am,ae,an,rfl,af,Q,ap⟩:=kob (F.grow y) (H.grow y) (I.grow y) (K.grow y) a1 a4;refine qw ae (qw rfl ?_);refine qz rfl ?_;refine qw (seenAt rfl rfl) (qw (seenAt rfl qck) ?_);refine qbb (Q.same C 0 3) ?_;refine qbb (Q.same ((W.trans y).has V) 0 3) ?_;obtain⟨_,aq,ag,ar,rfl,ah,ac,au⟩:=kob (I.grow (y.trans Q)) (K.grow (y.trans Q)) (F.grow (y.trans Q)) (H.grow (y.trans Q)) a4 a1;refine qw ag (qw rfl ?_);refine qz rfl ?_;refine qw (seenAt rfl rfl) (qw (seenAt rfl qck) ?_);obtain⟨aw,ai,aj⟩:=kbhz (af.grow ac) ah ((kj a1 x2 x3 a4 x5 x6).1) ((kj a4 x5 x6 a1 x2 x3).1);refine qw ai (qw (seen qcl) ?_);have z:khk a1 x2 x3 a4 x5 x6=(cmpI ((kj a1 x2 x3 a4 x5 x6).1) ((kj a1 x2 x3 a4 x5 x6).2) ((kj a4 x5 x6 a1 x2 x3).1) ((kj a4 x5 x6 a1 x2 x3).2)):=by unfold khk;exact(condF Z).trans rfl
  rw[z];have ak:=((((U.trans y).trans Q).trans ac).trans aj);exact qu ⟨rfl,ak⟩
def fracM(z:Int)(d:Nat):Bool×List Nat×List Nat×Int:=if z.natAbs/Nat.gcd z.natAbs d<B^16/\d/Nat.gcd z.natAbs d<B^16 then((intD (z/(Nat.gcd z.natAbs d:Int))).1,(intD (z/(Nat.gcd z.natAbs d:Int))).2,digs B (d/Nat.gcd z.natAbs d),0)else(false,[],[],4)
theorem koa(m:Nat):decide ((List.length (digs B m):Int)>16)=!decide (m<B^16):=by
 have h:=kbg B2 m 16;by_cases k:m<B^16
 ·have:=h.2 k;rw[qbv k,qbt.2 (by omega)];rfl
 ·have:¬(digs B m).length<=16:=λe=>k (h.1 e);rw[qbw k,decide_eq_true_iff.2 (by omega)];rfl
theorem kxq{a b:Nat}(y:a<B^64)(C:b<B^64):gcdN (digs B a) (digs B b)=(digs B (Nat.gcd a b),0):=by unfold gcdN;rw[if_pos ⟨kn y,kn C⟩,kg B2,kg B2]
theorem ky8{a b:Nat}(y:a<B^64)(C:b<B^64)(h0:b≠0):divN (digs B a) (digs B b)=(digs B (a/b),digs B (a%b),0):=by unfold divN;rw[if_pos ⟨kn y,kn C⟩,if_neg (λe=>h0 ((kcr B2).1 e)),kg B2,kg B2]
theorem kban{z:Int}{g:Nat}(h0:0<g)(h:g∣z.natAbs):z/(g:Int)=if z<0 then -((z.natAbs/g:Nat):Int)else((z.natAbs/g:Nat):Int):=by
 obtain⟨k,hk⟩:=h;rw[hk,Nat.mul_div_cancel_left _ h0];have y:(g:Int)≠0:=by omega
 by_cases C:z<0
 ·rw[if_pos C]
  have:z=(g:Int)*(-(k:Int)):=by rw[Int.mul_neg,<- Int.natCast_mul,<- hk];omega
  rw[this,Int.mul_ediv_cancel_left _ y]
 ·rw[if_neg C]
  have:z=(g:Int)*(k:Int):=by rw[<- Int.natCast_mul,<- hk];omega
  rw[this,Int.mul_ediv_cancel_left _ y]
theorem ksw{z:Int}{d:Nat}(H:z.natAbs<B^64)(I:d<B^64)(h0:d≠0):kbh (intD z).1 (intD z).2 (digs B d)=fracM z d:=by
 unfold kbh fracM;have Q:0<Nat.gcd z.natAbs d:=Nat.gcd_pos_of_pos_right _ (by omega);have V:Nat.gcd z.natAbs d<=d:=Nat.gcd_le_right _ (by omega);rw[kcv H,kn I];have W:(intD z).2=digs B z.natAbs:=rfl;have U:z.natAbs/Nat.gcd z.natAbs d<B^64:=qbq (Nat.div_le_self _ _) H;have Z:d/Nat.gcd z.natAbs d<B^64:=qbq (Nat.div_le_self _ _) I;rw[W,kxq H I];have C:Nat.gcd z.natAbs d<B^64:=by omega
 simp only[Bool.not_true,cond_false];rw[ky8 H C (by omega),ky8 I C (by omega),kt2,qbw (λe=>h0 ((kcr B2).1 e)),cond_false];dsimp only
 have k:∀u v:Int,decide (imax u v>16)=(decide (u>16)||decide (v>16)):=by intro u v;rw[ky7,Bool.eq_iff_iff];simp only[qb7,qbu];omega
 rw[k,koa,koa,kcs U,kban Q (Nat.gcd_dvd_left _ _)];have s:(intD z).1=decide (z<0):=rfl;rw[s];simp only[qbu];generalize (if z<0 then -((z.natAbs/Nat.gcd z.natAbs d:Nat):Int)else((z.natAbs/Nat.gcd z.natAbs d:Nat):Int))=y;by_cases F:z.natAbs/Nat.gcd z.natAbs d<B^16
 ·by_cases K:d/Nat.gcd z.natAbs d<B^16
  ·rw[if_pos ⟨F,K⟩,qbv F,qbv K];rfl
  ·rw[if_neg (λh=>K h.2),qbw K,qbv F];rfl
 ·rw[if_neg (λh=>F h.1),qbw F];rfl
structure IsFrac(p:Bool)(xs ys:List Nat)(z:Int)(d:Nat):Prop where
 p:p=(intD z).1
 xs:xs=(intD z).2
 ys:ys=digs B d
 pos:0<d
 zlt:z.natAbs<B^16
 dlt:d<B^16
 co:Nat.gcd z.natAbs d=1
theorem kbei{z:Int}{d:Nat}(H:z.natAbs<B^64)(I:d<B^64):kbk (intD z).1 (intD z).2 (digs B d)=decide (0<d/\z.natAbs<B^16/\d<B^16/\Nat.gcd z.natAbs d=1):=by
 unfold kbk;rw[kcv H,kn I];have U:(intD z).2=digs B z.natAbs:=rfl;rw[U,kxq H I,kt2,koa,koa];simp only[Bool.not_true,cond_false];by_cases K:d=0
 ·subst K;rw[kbu];simp
 ·rw[qbw (λe=>K ((kcr B2).1 e)),cond_false];by_cases y:d<B^16
  ·rw[qbv y];by_cases C:z.natAbs<B^16
   ·rw[qbv C];simp only[Bool.not_true,cond_false]
    have V:Nat.gcd z.natAbs d<B^64:=by have:=Nat.gcd_le_right z.natAbs (n:=d) (by omega);omega
    unfold cmpN;rw[if_pos ⟨kn V,by decide +kernel⟩,kg B2];rw[show num B [1]=1 from by decide +kernel];unfold cmp;by_cases Q:Nat.gcd z.natAbs d<1
    ·rw[if_pos Q,qbw (by decide),qbw];intro h;omega
    ·rw[if_neg Q];by_cases F:Nat.gcd z.natAbs d=1
     ·rw[if_pos F,qbv rfl,qbv];exact⟨by omega,C,y,F⟩
     ·rw[if_neg F,qbw (by decide),qbw];exactλh=>F h.2.2.2
   ·rw[qbw C];simp only[Bool.not_true,cond_false,Bool.not_false,cond_true];symm;rw[qbt];exactλh=>C h.2.1
  ·rw[qbw y];simp only[Bool.not_false,cond_true];symm;rw[qbt];exactλh=>y h.2.2.1
theorem khl{n:Nat}(h:n<B^16):n<B^64:=qbp h (Nat.pow_le_pow_right (by decide) (by decide))
theorem IsFrac.right{p:Bool}{xs ys:List Nat}{z:Int}{d:Nat}(f:IsFrac p xs ys z d):kbk p xs ys=true:=by obtain⟨rfl,rfl,rfl,h0,y,C,F⟩:=f;rw[kbei (khl y) (khl C),qbu];exact⟨h0,y,C,F⟩
theorem mul16{a b:Nat}(y:a<B^16)(C:b<B^16):a*b<B^16*B^16:=Nat.mul_lt_mul'' y C
theorem B32_64:B^16*B^16*2<=B^64:=by decide +kernel
theorem kra{p q:Bool}{xs ys us vs:List Nat}{z w:Int}{d e:Nat}(f:IsFrac p xs ys z d)(k:IsFrac q us vs w e):kj p xs ys q us vs=intD (z*(e:Int))/\(z*(e:Int)).natAbs<B^16*B^16:=by
 have y:(z*(e:Int)).natAbs<B^16*B^16:=by rw[Int.natAbs_mul,Int.natAbs_natCast];exact mul16 f.zlt k.dlt
 refine⟨?_,y⟩;unfold kj;rw[k.ys,kcs (khl k.dlt),f.p,f.xs];simp only[qcj,if_false];have C:=B32_64;rw[kly (khl f.zlt) (by simpa using khl k.dlt),if_pos (by omega)]
theorem kwa{d e:Nat}(y:d<B^16)(C:e<B^16):mulN (digs B d) (digs B e)=(digs B (d*e),0):=by unfold mulN;rw[if_pos ⟨kn (khl y),kn (khl C)⟩,kg B2,kg B2,kh6];have:=mul16 y C;have:=B32_64;omega
theorem Add_of{p q:Bool}{xs ys us vs:List Nat}{z w:Int}{d e:Nat}(f:IsFrac p xs ys z d)(k:IsFrac q us vs w e):kef p xs ys q us vs=fracM (z*(e:Int)+w*(d:Int)) (d*e):=by unfold kef kdf kd8;rw[f.right,k.right];obtain⟨y,b1⟩:=kra f k;obtain⟨C,b2⟩:=kra k f;have F:=B32_64;rw[y,C,kr1 (by omega) (by omega),if_pos (by omega)];dsimp only[Bool.and_self,Bool.not_true,cond_false];have H:=mul16 f.dlt k.dlt;have hp:=Nat.mul_pos f.pos k.pos;rw[f.ys,k.ys,kwa f.dlt k.dlt];dsimp only;rw[ksw (by omega) (by omega) (by omega)];generalize fracM _ _=r;obtain⟨r1,r2,I,K⟩:=r;rfl
theorem Sub_of{p q:Bool}{xs ys us vs:List Nat}{z w:Int}{d e:Nat}(f:IsFrac p xs ys z d)(k:IsFrac q us vs w e):kep p xs ys q us vs=fracM (z*(e:Int)-w*(d:Int)) (d*e):=by unfold kep kdl kd8;rw[f.right,k.right];obtain⟨y,b1⟩:=kra f k;obtain⟨C,b2⟩:=kra k f;have F:=B32_64;rw[y,C,kn6 (by omega) (by omega),if_pos (by omega)];dsimp only[Bool.and_self,Bool.not_true,cond_false];have H:=mul16 f.dlt k.dlt;have hp:=Nat.mul_pos f.pos k.pos;rw[f.ys,k.ys,kwa f.dlt k.dlt];dsimp only;rw[ksw (by omega) (by omega) (by omega)];generalize fracM _ _=r;obtain⟨r1,r2,I,K⟩:=r;rfl
theorem kbc6{z:Int}{d:Nat}(W:0<d)(h:(fracM z d).2.2.2=0):∃(w:Int)(e:Nat),fracM z d=((intD w).1,(intD w).2,digs B e,0)/\IsFrac (fracM z d).1 (fracM z d).2.1 (fracM z d).2.2.1 w e/\w*(d:Int)=z*(e:Int)/\∃g:Nat,0<g/\z=w*(g:Int)/\d=g*e:=by
 unfold fracM at h|-;have y:0<Nat.gcd z.natAbs d:=Nat.gcd_pos_of_pos_right _ W;by_cases c:z.natAbs/Nat.gcd z.natAbs d<B^16/\d/Nat.gcd z.natAbs d<B^16
 ·rw[if_pos c];obtain⟨a,H⟩:=Nat.gcd_dvd_left z.natAbs d;obtain⟨b,F⟩:=Nat.gcd_dvd_right z.natAbs d;have I:z/(Nat.gcd z.natAbs d:Int)*(Nat.gcd z.natAbs d:Int)=z:=Int.ediv_mul_cancel (Int.ofNat_dvd_left.2 (Nat.gcd_dvd_left _ _))
  have K:z.natAbs/Nat.gcd z.natAbs d=a:=by have:=Nat.mul_div_cancel_left a y;rwa[<- H]at this
  have C:d/Nat.gcd z.natAbs d=b:=by have:=Nat.mul_div_cancel_left b y;rwa[<- F]at this
  rw[K,C]at c;rw[C]
  have U:(z/(Nat.gcd z.natAbs d:Int)).natAbs=a:=by
   have V:(z/(Nat.gcd z.natAbs d:Int)).natAbs*Nat.gcd z.natAbs d=Nat.gcd z.natAbs d*a:=by have:=congrArg Int.natAbs I;rw[Int.natAbs_mul,Int.natAbs_natCast]at this;rw[this];exact H
   rw[Nat.mul_comm]at V;exact Nat.eq_of_mul_eq_mul_left y V
  generalize z/(Nat.gcd z.natAbs d:Int)=w at *
  have Q:0<b:=by
   rcases Nat.eq_zero_or_pos b with e | e
   ·subst e;omega
   ·exact e
  have co:Nat.gcd a b=1:=by
   have Z:Nat.gcd z.natAbs d=Nat.gcd a b*Nat.gcd z.natAbs d:=by have:=Nat.gcd_mul_left (Nat.gcd z.natAbs d) a b;rw[<- H,<- F]at this;rw[Nat.mul_comm];exact this
   have:1*Nat.gcd z.natAbs d=Nat.gcd a b*Nat.gcd z.natAbs d:=by rw[Nat.one_mul];exact Z
   exact(Nat.eq_of_mul_eq_mul_right y this).symm
  refine⟨w,b,rfl,⟨rfl,rfl,rfl,Q,by rw[U];exact c.1,c.2,by rw[U];exact co⟩,?_,Nat.gcd z.natAbs d,y,I.symm,F⟩;have e1:(d:Int)=(Nat.gcd z.natAbs d:Int)*(b:Int):=by rw[<- Int.natCast_mul,<- F]
  rw[e1,<- Int.mul_assoc,I]
 ·rw[if_neg c]at h;cases h
end Go.Ab
set_option maxRecDepth 10000
namespace Go.Ab
open IntKind (wrap)
open Go.Proofs Go.Num
def kbf(a1 a2:Int):Bool:=cond (decide (a1>=(-1099511627776))) (cond (decide (a1<=1099511627776)) (cond (decide (a2>=0)) (decide (a2<=1048576)) (false)) (false)) (false)
theorem kmb{h:AH}   (a1 a2:Int):Runs (go (.fn khr [.agg [.i a1,.i a2]]) h) λv h'=>v=.bool (kbf a1 a2)/\Grow h h':=by
 rw[kbcw];refine qx λI b3 C=>?_;refine qw (qbc b3 0 rfl qcl) ?_;refine qba (λy=>?_) (λy=>?_)
 ·refine qw (qbc b3 0 rfl qcl) ?_;refine qba (λF=>?_) (λF=>?_)
  ·refine qw (qbc b3 1 rfl qcl) ?_;refine qba (λH=>?_) (λH=>?_)
   ·refine qw (qbc b3 1 rfl qcl) ?_;have z:kbf a1 a2=decide (a2<=1048576):=by unfold kbf;exact(condT y).trans ((condT F).trans ((condT H).trans rfl))
    rw[z];exact qu ⟨rfl,C⟩
   ·have z:kbf a1 a2=false:=by unfold kbf;exact(condT y).trans ((condT F).trans ((condF H).trans rfl))
    rw[z];exact qu ⟨rfl,C⟩
  ·have z:kbf a1 a2=false:=by unfold kbf;exact(condT y).trans ((condF F).trans rfl)
   rw[z];exact qu ⟨rfl,C⟩
 ·have z:kbf a1 a2=false:=by unfold kbf;exact(condF y).trans rfl
  rw[z];exact qu ⟨rfl,C⟩
def kb7(a1:Int):Bool:=cond (decide (a1>=1)) (decide (a1<=1048576)) (false)
theorem kvc{h:AH}   (a1:Int):Runs (go (.fn kmt [.i a1]) h) λv h'=>v=.bool (kb7 a1)/\Grow h h':=by
 rw[kbck];refine qba (λy=>?_) (λy=>?_)
 ·have z:kb7 a1=decide (a1<=1048576):=by unfold kb7;exact(condT y).trans rfl
  rw[z];exact qu ⟨rfl,(qk _)⟩
 ·have z:kb7 a1=false:=by unfold kb7;exact(condF y).trans rfl
  rw[z];exact qu ⟨rfl,(qk _)⟩
def kbe(a1 a2 a3 a4:Int):Int×Int×Bool:=cond (!((kbf a1 a2))) ((0,0,false)) (cond (!((kbf a3 a4))) ((0,0,false)) ((((wrap .i64 (a3-a1))),((wrap .i64 (a4-a2))),((kbf (wrap .i64 (a3-a1)) (wrap .i64 (a4-a2)))))))
theorem kbbx{h:AH}   (a1 a2 a3 a4:Int):Runs (go (.fn kts [.agg [.i a1,.i a2],.agg [.i a3,.i a4]]) h) λv h'=>v=.tup [.agg [.i (kbe a1 a2 a3 a4).1,.i (kbe a1 a2 a3 a4).2.1],.bool (kbe a1 a2 a3 a4).2.2]/\Grow h h':=by
 rw[kbeb];refine qx λH5 b5 W=>?_;refine qx λH6 b6 K=>?_;refine qx λH7 b7 U=>?_;refine qw (qbc ((K.trans U).has b5) 0 rfl qcl) (qw (qbc ((K.trans U).has b5) 1 rfl qcl) ?_);obtain⟨_,H8,e8,rfl,H⟩:=kmb a1 a2;refine qw e8 (qw (seen rfl) ?_);refine qba (λk9=>?_) (λk9=>?_)
 ·refine qy (H.has b7) rfl λal ag am=>?_;refine qw (qbc ag 0 rfl qcl) (qw (qbc ag 1 rfl qcl) ?_);have z:kbe a1 a2 a3 a4=(0,0,false):=by unfold kbe;exact(condT k9).trans rfl
  rw[z];have an:=((((W.trans K).trans U).trans H).updr (qbo ((W.trans K)).size (qbn _)) am);exact qu ⟨rfl,an⟩
 ·refine qw (qbc ((U.trans H).has b6) 0 rfl qcl) (qw (qbc ((U.trans H).has b6) 1 rfl qcl) ?_);obtain⟨_,al,ap,rfl,y⟩:=kmb a3 a4;refine qw ap (qw (seen rfl) ?_);refine qba (λZ=>?_) (λZ=>?_)
  ·refine qy ((H.trans y).has b7) rfl λbd ah aq=>?_;refine qw (qbc ah 0 rfl qcl) (qw (qbc ah 1 rfl qcl) ?_);have z:kbe a1 a2 a3 a4=(0,0,false):=by unfold kbe;exact(condF k9).trans ((condT Z).trans rfl)
   rw[z];have ar:=(((((W.trans K).trans U).trans H).trans y).updr (qbo ((W.trans K)).size (qbn _)) aq);exact qu ⟨rfl,ar⟩
  ·have au:=((U.trans H).trans y);have C:=au.has b6;refine qw (qbc C 0 rfl qcl) ?_;have aw:=(((K.trans U).trans H).trans y);have F:=aw.has b5;refine qw (qbc F 0 rfl qcl) (qw (qbc C 1 rfl qcl) (qw (qbc F 1 rfl qcl) ?_));refine qx λbe ax aa=>?_;refine qy ax rfl λbf I ac=>?_;refine qw (qbc I 0 rfl qcl) (qw (qbc I 1 rfl qcl) (qw (qbc I 0 rfl qcl) (qw (qbc I 1 rfl qcl) ?_)));obtain⟨_,bg,ay,rfl,Q⟩:=kmb (wrap .i64 (a3-a1)) (wrap .i64 (a4-a2));refine qw ay (qw (seen rfl) ?_);refine qbb (Q.same I 0 2) ?_;have az:=((((H.trans y).trans aa).updr (qbo ((H.trans y)).size (qbn _)) ac).trans Q);have ad:=az.has b7;refine qy ad rfl λbh ai V=>?_;have aj:=((aa.updr (qbn _) ac).trans Q);have ae:=aj.has F;have a0:=qr ae (Nat.ne_of_lt (qbp (K.has b5).lt (qbn _))) V;have af:=aj.has C;have ba:=qr af (Nat.ne_of_lt (qbp (b6).lt (qbn _))) V;have ak:=qr (Q.has I) (Nat.ne_of_gt (qbp ((H.trans y).has b7).lt (qbn _))) V;refine qw (qbc ai 0 rfl qcl) (qw (qbc ai 1 rfl qcl) ?_);have z:kbe a1 a2 a3 a4=(((wrap .i64 (a3-a1))),((wrap .i64 (a4-a2))),((kbf (wrap .i64 (a3-a1)) (wrap .i64 (a4-a2))))):=by unfold kbe;exact(condF k9).trans ((condF Z).trans rfl)
   rw[z];have bb:=((((W.trans K).trans U).trans H).trans y);have bc:=((((((((W.trans K).trans U).trans H).trans y).trans aa).updr (qbo (bb).size (qbn _)) ac).trans Q).updr (qbo ((W.trans K)).size (qbn _)) V);exact qu ⟨rfl,bc⟩
inductive kj6
 | fn (a1:Int) (a2:Int) (a3:Int)
 | no
abbrev kiv:=Bool×List Nat×List Nat×Int
noncomputable def kmi(a1 a2 a3:Int):Option (kj6⊕kiv):=cond (!((kbf a2 a3))) (some (.inr (false,[],[],1))) (cond (!((kb7 a1))) (some (.inr (false,[],[],1))) ((need (-9223372036854775808<=(a2:Int)/\(a2:Int)<=9223372036854775807)).bind λC=>(u64P (wrap .u64 (wrap .i64 (a3+a1)))).bind λy=>some (.inr ((((kbh (((kv (((ofI a2).1)) ((ofI a2).2) (((ofI a2).1)) ((ofI a2).2)).1)) ((kv (((ofI a2).1)) ((ofI a2).2) (((ofI a2).1)) ((ofI a2).2)).2.1) (digs B y)).1)),(kbh (((kv (((ofI a2).1)) ((ofI a2).2) (((ofI a2).1)) ((ofI a2).2)).1)) ((kv (((ofI a2).1)) ((ofI a2).2) (((ofI a2).1)) ((ofI a2).2)).2.1) (digs B y)).2.1,(kbh (((kv (((ofI a2).1)) ((ofI a2).2) (((ofI a2).1)) ((ofI a2).2)).1)) ((kv (((ofI a2).1)) ((ofI a2).2) (((ofI a2).1)) ((ofI a2).2)).2.1) (digs B y)).2.2.1,((kbh (((kv (((ofI a2).1)) ((ofI a2).2) (((ofI a2).1)) ((ofI a2).2)).1)) ((kv (((ofI a2).1)) ((ofI a2).2) (((ofI a2).1)) ((ofI a2).2)).2.1) (digs B y)).2.2.2)))))
noncomputable def k0x:kj6->Option (kj6⊕kiv)
 | .fn a1 a2 a3=>kmi a1 a2 a3
 | .no=>none
@[reducible] def k07(h0:AH)(r:kiv)(v:AV)(h':AH):Prop:=∃s1:Sl,∃s2:Sl,v=.tup [.agg [.bool r.1,s1.v,s2.v],.i r.2.2.2]/\Nats h' s1 r.2.1/\Nats h' s2 r.2.2.1/\Grow h0 h'/\Own h0 s1/\Own h0 s2
def kr7(r:kiv):kj6->Prop
 | .fn a1 a2 a3=>∀{h:AH},Runs (go (.fn koo [.i a1,.agg [.i a2,.i a3]]) h) (k07 h r)
 | .no=>True
theorem k4u{r:kiv}{o:kj6⊕kiv}{a1 a2 a3:Int}(e:kmi a1 a2 a3=some o)(aa:GoodS (kr7 r) r o):kr7 r (.fn a1 a2 a3):=by
 intro h;rw[kbkm];unfold kmi at e;refine qx λH4 b4 g4=>?_;refine qx λH5 b5 g5=>?_;refine qw (qbc (g5.has b4) 0 rfl qcl) (qw (qbc (g5.has b4) 1 rfl qcl) ?_);obtain⟨_,H6,e6,rfl,g6⟩:=kmb a2 a3;refine qw e6 (qw (seen rfl) ?_);refine qba (λk7=>?_) (λk7=>?_)
 ·replace e:=(condT k7).symm.trans e;refine qy (g6.has b5) rfl λH8 b8 u8=>?_;refine qw (qbc b8 0 rfl rfl) (qw (qbc b8 1 rfl qck) (qw (qbc b8 2 rfl qck) ?_));cases e;cases aa;have G9:=(((g4.trans g5).trans g6).updr (qbo (g4).size (qbn _)) u8);exact qu ⟨(⟨none,0,.is 0⟩:Sl),(⟨none,0,.is 0⟩:Sl),rfl,(qq _),(qq _),G9,(qp _),(qp _)⟩
 ·replace e:=(condF k7).symm.trans e;obtain⟨_,H8,e8,rfl,g8⟩:=kvc a1;refine qw e8 (qw (seen rfl) ?_);refine qba (λk9=>?_) (λk9=>?_)
  ·replace e:=(condT k9).symm.trans e;refine qy ((g6.trans g8).has b5) rfl λck am bh=>?_;refine qw (qbc am 0 rfl rfl) (qw (qbc am 1 rfl qck) (qw (qbc am 2 rfl qck) ?_));cases e;cases aa;have bi:=((((g4.trans g5).trans g6).trans g8).updr (qbo (g4).size (qbn _)) bh);exact qu ⟨(⟨none,0,.is 0⟩:Sl),(⟨none,0,.is 0⟩:Sl),rfl,(qq _),(qq _),bi,(qp _),(qp _)⟩
  ·replace e:=(condF k9).symm.trans e;have bj:=((g5.trans g6).trans g8);have ac:=bj.has b4;refine qw (qbc ac 0 rfl qcl) ?_;obtain⟨an,bk,e⟩:=qbs.1 e;obtain⟨cl,cm,bm,ap,K,bn⟩:=ku2 a2  an.down;refine qw bm (qw rfl ?_);refine qz rfl ?_;refine qw (seenAt rfl rfl) (qw (seenAt rfl qck) ?_);refine qx λcn bp y=>?_;refine qy bp rfl λcp ad C=>?_;refine qw (qbc ad 0 rfl rfl) (qw (qbc ad 1 rfl qck) (qw (qbc ad 0 rfl rfl) (qw (qbc ad 1 rfl qck) ?_)));obtain⟨_,cq,bq,cr,rfl,br,F,bt⟩:=kmq (ap.grow (y.updr (qbn _) C)) (ap.grow (y.updr (qbn _) C)) (((ofI a2).1)) (((ofI a2).1));refine qw bq (qw rfl (qw rfl ?_));refine qz rfl ?_;refine qw (seenAt rfl rfl) (qw (seenAt rfl qck) (qw (seen qcl) ?_));refine qx λct bu U=>?_;refine qy bu rfl λcu ag V=>?_;refine qw (qbc ag 0 rfl rfl) (qw (qbc ag 1 rfl qck) ?_);have bv:=(((K.trans y).updr (qbo (K).size (qbn _)) C).trans F);have bw:=(((((K.trans y).updr (qbo (K).size (qbn _)) C).trans F).trans U).updr (qbo (bv).size (qbn _)) V);have ae:=bw.has ac;refine qw (qbc ae 1 rfl qcl) ?_;obtain⟨cv,bx,e⟩:=qbs.1 e;obtain⟨cw,cx,bz,ax,H,b0⟩:=kpf bx;refine qw bz (qw (seen qck) ?_);refine qbb (H.same ag 0 2) ?_;have b6:=((U.updr (qbn _) V).trans H);have W:=br.grow b6;obtain⟨_,cy,b7,b9,ay,rfl,ca,az,Q,a0,al⟩:=ku6 W ax (((kv (((ofI a2).1)) ((ofI a2).2) (((ofI a2).1)) ((ofI a2).2)).1));refine qw b7 (qw rfl (qw rfl ?_));refine qz rfl ?_;refine qw (seenAt rfl rfl) (qw (seenAt rfl qck) (qw (seenAt rfl qck) (qw (seen qcl) ?_)));have Z:=((g6.trans g8).trans K);have ah:=(((Z.trans y).updr (qbo (Z).size (qbn _)) C).trans F);have cb:=(((((((((g6.trans g8).trans K).trans y).updr (qbo (Z).size (qbn _)) C).trans F).trans U).updr (qbo (ah).size (qbn _)) V).trans H).trans Q);have aq:=cb.has b5;refine qy aq rfl λcz ar I=>?_;have cc:=((y.updr (qbn _) C).trans F);have cd:=((((((y.updr (qbn _) C).trans F).trans U).updr (qbo (cc).size (qbn _)) V).trans H).trans Q);have ai:=ap.grow cd;have bc:=ai.upda (qbh bn ((g6.trans g8).has b5).lt) I;have ce:=((Z.trans y).updr (qbo (Z).size (qbn _)) C);have bd:=(W.grow Q).upda (qbh bt (ce.has b5).lt) I;have ba:=((ah.trans U).updr (qbo (ah).size (qbn _)) V);have be:=(ax.grow Q).upda (qbh b0 (ba.has b5).lt) I;have bb:=(ba.trans H);have aj:=ca.upda (qbh a0 (bb.has b5).lt) I;have af:=az.upda (qbh al (bb.has b5).lt) I;have cf:=qr ((H.trans Q).has ae) (Nat.ne_of_lt (qbp (b4).lt (qbn _))) I;have ch:=((((F.trans U).updr (qbo (F).size (qbn _)) V).trans H).trans Q);have ak:=ch.has ad;have bf:=qr ak (Nat.ne_of_gt (qbp (Z.has b5).lt (qbn _))) I;have bg:=qr ((H.trans Q).has ag) (Nat.ne_of_gt (qbp (ah.has b5).lt (qbn _))) I;refine qw (qbc ar 0 rfl rfl) (qw (qbc ar 1 rfl qck) (qw (qbc ar 2 rfl qck) ?_));cases e;cases aa;have au:=((((g4.trans g5).trans g6).trans g8).trans K);have ci:=(((au.trans y).updr (qbo (au).size (qbn _)) C).trans F);have aw:=((((((((((g4.trans g5).trans g6).trans g8).trans K).trans y).updr (qbo (au).size (qbn _)) C).trans F).trans U).updr (qbo (ci).size (qbn _)) V).trans H);have cj:=((aw.trans Q).updr (qbo (g4).size (qbn _)) I);exact qu ⟨b9,ay,rfl,aj,af,cj,(a0.of_le aw),(al.of_le aw)⟩
theorem k5t{s:kj6}{r:kiv}(C:Iter k0x s r):kr7 r s:=qbe (λs o e y=>by
 cases s with
 | fn a1 a2 a3=>exact @k4u _ _ a1 a2 a3 e y
 | no=>exact True.intro
 ) C
end Go.Ab
set_option maxRecDepth 10000
namespace Go.Ab
open Go.Proofs Go.Num
theorem kpw{g n:Int}:kbf g n=true↔-1099511627776<=g/\g<=1099511627776/\0<=n/\n<=1048576:=by unfold kbf;by_cases y:g>=-1099511627776<;>by_cases C:g<=1099511627776<;>by_cases F:n>=0<;>by_cases H:n<=1048576<;>simp[y,C,F,H]
theorem k3u{l:Int}:kb7 l=true↔1<=l/\l<=1048576:=by unfold kb7;by_cases y:l>=1<;>by_cases C:l<=1048576<;>simp[y,C]
def scoreF(l g n:Int):Bool×List Nat×List Nat×Int:=if kbf g n=true/\kb7 l=true then fracM (g*g) (n+l).toNat else(false,[],[],1)
theorem sq_two{g:Int}(y:-1099511627776<=g)(C:g<=1099511627776):(g*g).natAbs<=1099511627776*1099511627776:=by rw[Int.natAbs_mul];exact Nat.mul_le_mul (by omega) (by omega)
theorem k7d(l g n:Int):Iter k0x (.fn l g n) (scoreF l g n):=.done (by
 show kmi _ _ _=_;unfold kmi scoreF;cases y:kbf g n with
 | false=>rfl
 | true =>
  cases C:kb7 l with
  | false=>rfl
  | true =>
   obtain⟨a1,a2,a3,a4⟩:=kpw.1 y;obtain⟨b1,b2⟩:=k3u.1 C;have F:=kfa;have hs:=sq_two a1 a2;rw[if_pos ⟨rfl,rfl⟩,ky ⟨by omega,by omega⟩,ksy (by omega),kly (by omega) (by omega),if_pos (by omega),wrap64 (by omega) (by omega),wrapU,Int.emod_eq_of_lt (by omega) (by omega)];have e:n+l=(((n+l).toNat:Nat):Int):=by omega
   rw[show u64P (n+l)=some (n+l).toNat from by rw[e];exact kbm (by omega)];simp only[Bool.not_true,cond_false,qbr];rw[ksw (by omega) (by omega) (by omega)])
theorem krd{h:AH}(l g n:Int):Runs (go (.fn koo [.i l,.agg [.i g,.i n]]) h) (k07 h (scoreF l g n)):=k5t (k7d l g n)
inductive kjd
 | fn (a1:Int) (a2:Int) (a3:Int) (a4:Int) (a5:Int)
 | no
abbrev kio:=Bool×List Nat×List Nat×Int
noncomputable def klu(a1 a2 a3 a4 a5:Int):Option (kjd⊕kio):=cond (!((kbe a2 a3 a4 a5).2.2)) (some (.inr (false,[],[],1))) (cond (!((kb7 a1))) (some (.inr (false,[],[],1))) ((some (kef (((((scoreF a1 a2 a3).1)))) ((scoreF a1 a2 a3).2.1) ((scoreF a1 a2 a3).2.2.1) (((((scoreF a1 (((((kbe a2 a3 a4 a5).1)))) (((((kbe a2 a3 a4 a5).2.1))))).1)))) ((scoreF a1 (((((kbe a2 a3 a4 a5).1)))) (((((kbe a2 a3 a4 a5).2.1))))).2.1) ((scoreF a1 (((((kbe a2 a3 a4 a5).1)))) (((((kbe a2 a3 a4 a5).2.1))))).2.2.1))).bind λC=>(some (kep ((C.1)) C.2.1 C.2.2.1 (((((scoreF a1 a4 a5).1)))) ((scoreF a1 a4 a5).2.1) ((scoreF a1 a4 a5).2.2.1))).bind λy=>some (.inr (((y.1)),y.2.1,y.2.2.1,(y.2.2.2)))))
noncomputable def kx9:kjd->Option (kjd⊕kio)
 | .fn a1 a2 a3 a4 a5=>klu a1 a2 a3 a4 a5
 | .no=>none
@[reducible] def kx3(h0:AH)(r:kio)(v:AV)(h':AH):Prop:=∃s1:Sl,∃s2:Sl,v=.tup [.agg [.bool r.1,s1.v,s2.v],.i r.2.2.2]/\Nats h' s1 r.2.1/\Nats h' s2 r.2.2.1/\Grow h0 h'/\Own h0 s1/\Own h0 s2
def ksb(r:kio):kjd->Prop
 | .fn a1 a2 a3 a4 a5=>∀{h:AH},Runs (go (.fn kp8 [.i a1,.agg [.i a2,.i a3],.agg [.i a4,.i a5]]) h) (kx3 h r)
 | .no=>True
theorem kbla{r:kio}{o:kjd⊕kio}{a1 a2 a3 a4 a5:Int}(e:klu a1 a2 a3 a4 a5=some o)(b5:GoodS (ksb r) r o):ksb r (.fn a1 a2 a3 a4 a5):=by
 intro h;rw[kbbv];unfold klu at e;refine qx λH6 b6 g6=>?_;refine qx λH7 b7 g7=>?_;refine qx λH8 b8 g8=>?_;refine qx λH9 b9 g9=>?_;refine qw (qbc ((g8.trans g9).has b7) 0 rfl qcl) (qw (qbc ((g8.trans g9).has b7) 1 rfl qcl) (qw (qbc (g9.has b8) 0 rfl qcl) (qw (qbc (g9.has b8) 1 rfl qcl) ?_)));obtain⟨_,h9,gh,rfl,y⟩:=kbbx a2 a3 a4 a5;refine qw gh (qw rfl (qw rfl ?_));refine qz rfl ?_;refine qw (seenAt rfl qcl) (qw (seenAt rfl qcl) (qw (seen rfl) ?_));refine qx λia gi aa=>?_;refine qy gi rfl λib bt ac=>?_;refine qba (λeh=>?_) (λeh=>?_)
 ·replace e:=(condT eh).symm.trans e;have ei:=((y.trans aa).updr (qbo (y).size (qbn _)) ac);have ej:=ei.has b9;refine qy ej rfl λic ek e4=>?_;have f0:=qr bt (Nat.ne_of_gt (qbp (y.has b9).lt (qbn _))) e4;refine qw (qbc ek 0 rfl rfl) (qw (qbc ek 1 rfl qck) (qw (qbc ek 2 rfl qck) ?_));cases e;cases b5;have gj:=((((g6.trans g7).trans g8).trans g9).trans y);have gl:=((g6.trans g7).trans g8);have gm:=(((((((g6.trans g7).trans g8).trans g9).trans y).trans aa).updr (qbo (gj).size (qbn _)) ac).updr (qbo (gl).size (qbn _)) e4);exact qu ⟨(⟨none,0,.is 0⟩:Sl),(⟨none,0,.is 0⟩:Sl),rfl,(qq _),(qq _),gm,(qp _),(qp _)⟩
 ·replace e:=(condF eh).symm.trans e;have gn:=(((g7.trans g8).trans g9).trans y);have ei:=(((((g7.trans g8).trans g9).trans y).trans aa).updr (qbo (gn).size (qbn _)) ac);have ar:=ei.has b6;refine qw (qbd ar rfl qcl) ?_;obtain⟨_,id,gp,rfl,C⟩:=kvc a1;refine qw gp (qw (seen rfl) ?_);refine qba (λel=>?_) (λel=>?_)
  ·replace e:=(condT el).symm.trans e;have ca:=(((y.trans aa).updr (qbo (y).size (qbn _)) ac).trans C);have em:=ca.has b9;refine qy em rfl λgq au en=>?_;have gr:=qr (C.has ar) (Nat.ne_of_lt (qbp ((g7.trans g8).has b6).lt (qbn _))) en;have f1:=qr (C.has bt) (Nat.ne_of_gt (qbp (y.has b9).lt (qbn _))) en;refine qw (qbc au 0 rfl rfl) (qw (qbc au 1 rfl qck) (qw (qbc au 2 rfl qck) ?_));cases e;cases b5;have gs:=((((g6.trans g7).trans g8).trans g9).trans y);have gt:=((g6.trans g7).trans g8);have gu:=((((((((g6.trans g7).trans g8).trans g9).trans y).trans aa).updr (qbo (gs).size (qbn _)) ac).trans C).updr (qbo (gt).size (qbn _)) en);exact qu ⟨(⟨none,0,.is 0⟩:Sl),(⟨none,0,.is 0⟩:Sl),rfl,(qq _),(qq _),gu,(qp _),(qp _)⟩
  ·replace e:=(condF el).symm.trans e;refine qx λgq au ak=>?_;have ca:=((g8.trans g9).trans y);have gv:=((((((g8.trans g9).trans y).trans aa).updr (qbo (ca).size (qbn _)) ac).trans C).trans ak);have bk:=gv.has b7;refine qw (qbc bk 0 rfl qcl) (qw (qbc bk 1 rfl qcl) (qw (qbc ((C.trans ak).has bt) 0 rfl qcl) (qw (qbc ((C.trans ak).has bt) 1 rfl qcl) ?_)));rw[kue];refine Runs.newB λie eo aj=>?_;refine Runs.newB λig c8 V=>?_;have ep:=(((C.trans ak).trans aj).trans V);have cb:=ep.has ar;refine qbi (qbd cb rfl qcl) ?_;refine qbi (qbc (V.has eo) 0 rfl qcl) ?_;refine qbi (qbc (V.has eo) 1 rfl qcl) ?_;obtain⟨_,ih,gw,ii,h5,rfl,gx,e5,ad,er,cc⟩:=krd a1 a2 a3;refine qbi gw ?_;refine qbi rfl ?_;refine qbi rfl ?_;refine Runs.ifTB rfl ?_;refine qbi (seenAt rfl rfl) ?_;refine qbi (seenAt rfl qck) ?_;refine qbi (seenAt rfl qck) ?_;refine qbi (seen qcl) ?_;refine Runs.newB λij gy W=>?_;refine qbj gy rfl λik c9 Z=>?_;refine qbi (qbc c9 0 rfl rfl) ?_;refine qbi (qbc c9 1 rfl qck) ?_;refine qbi (qbc c9 2 rfl qck) ?_;have e6:=((ad.trans W).updr (qbo (ad).size (qbn _)) Z);have da:=e6.has c8;refine qbj da rfl λil db U=>?_;have dc:=(gx.grow (W.updr (qbn _) Z)).upda (qbh er (c8).lt) U;have cd:=(e5.grow (W.updr (qbn _) Z)).upda (qbh cc (c8).lt) U;have et:=e6.has cb;have dd:=((C.trans ak).trans aj);have ce:=qr et (Nat.ne_of_lt (qbp (dd.has ar).lt (qbn _))) U;have de:=qr c9 (Nat.ne_of_gt (qbp (ad.has c8).lt (qbn _))) U;refine qbi (qbc db 0 rfl rfl) ?_;refine qbi (qbc db 1 rfl qck) ?_;refine qbi (qbc db 2 rfl qck) ?_;refine Runs.retB ?_;refine qw rfl ?_;refine qz rfl ?_;refine qw (seenAt rfl rfl) (qw (seenAt rfl qck) (qw (seenAt rfl qck) ?_));have e7:=((aj.trans V).trans ad);have bu:=(((((aj.trans V).trans ad).trans W).updr (qbo (e7).size (qbn _)) Z).updr (qbo (aj).size (qbn _)) U);refine qbb (bu.same ((C.trans ak).has bt) 0 2) ?_;refine qbb (bu.same au 0 0) ?_;rw[kue];refine Runs.newB λim eu F=>?_;refine Runs.newB λio df Q=>?_;refine qbi (qbd ((F.trans Q).has ce) rfl qcl) ?_;refine qbi (qbc (Q.has eu) 0 rfl qcl) ?_;refine qbi (qbc (Q.has eu) 1 rfl qcl) ?_;obtain⟨_,ip,gz,iq,h6,rfl,g0,e8,ae,ev,cf⟩:=krd a1 (((((kbe a2 a3 a4 a5).1)))) (((((kbe a2 a3 a4 a5).2.1))));refine qbi gz ?_;refine qbi rfl ?_;refine qbi rfl ?_;refine Runs.ifTB rfl ?_;refine qbi (seenAt rfl rfl) ?_;refine qbi (seenAt rfl qck) ?_;refine qbi (seenAt rfl qck) ?_;refine qbi (seen qcl) ?_;refine Runs.newB λir g1 ag=>?_;refine qbj g1 rfl λit dg ah=>?_;refine qbi (qbc dg 0 rfl rfl) ?_;refine qbi (qbc dg 1 rfl qck) ?_;refine qbi (qbc dg 2 rfl qck) ?_;have g2:=((ae.trans ag).updr (qbo (ae).size (qbn _)) ah);have dh:=g2.has df;refine qbj dh rfl λiu di ai=>?_;have bn:=(g0.grow (ag.updr (qbn _) ah)).upda (qbh ev (df).lt) ai;have ba:=(e8.grow (ag.updr (qbn _) ah)).upda (qbh cf (df).lt) ai;have dj:=qr dg (Nat.ne_of_gt (qbp (ae.has df).lt (qbn _))) ai;refine qbi (qbc di 0 rfl rfl) ?_;refine qbi (qbc di 1 rfl qck) ?_;refine qbi (qbc di 2 rfl qck) ?_;refine Runs.retB ?_;refine qw rfl ?_;refine qz rfl ?_;refine qw (seenAt rfl rfl) (qw (seenAt rfl qck) (qw (seenAt rfl qck) ?_));have af:=bu.has au;have e9:=((F.trans Q).trans ae);have ch:=(((((F.trans Q).trans ae).trans ag).updr (qbo (e9).size (qbn _)) ah).updr (qbo (F).size (qbn _)) ai);refine qbb (ch.same af 0 0) ?_;have bp:=dc.grow ch;have bb:=cd.grow ch;obtain⟨iv,g3,e⟩:=qbs.1 e;obtain⟨_,iw,g4,ix,h7,rfl,g5,fa,K,fb,eb⟩:=k63 bp bb bn ba (Option.some.inj g3);refine qw g4 (qw rfl (qw rfl ?_));refine qz rfl ?_;refine qw (seenAt rfl rfl) (qw (seenAt rfl qck) (qw (seenAt rfl qck) (qw (seen qcl) ?_)));have aq:=ch.has af;refine qbb (K.same aq 0 0) ?_;refine qy (K.has aq) rfl λiy ci H=>?_;have dk:=(bp.grow K).upda (qbh er ((aj.trans V).has au).lt) H;have cj:=(bb.grow K).upda (qbh cc ((aj.trans V).has au).lt) H;have dl:=(bn.grow K).upda (qbh ev ((F.trans Q).has af).lt) H;have ck:=(ba.grow K).upda (qbh cf ((F.trans Q).has af).lt) H;have dm:=g5.upda (qbh fb (aq).lt) H;have cl:=fa.upda (qbh eb (aq).lt) H;have ew:=(ch.trans K);have ex:=ew.has ce;have cm:=qr ex (Nat.ne_of_lt (qbp (C.has ar).lt (qbn _))) H;have ha:=(((bu.trans F).trans Q).trans ae);have hb:=(bu.trans F);have hc:=(((((((bu.trans F).trans Q).trans ae).trans ag).updr (qbo (ha).size (qbn _)) ah).updr (qbo (hb).size (qbn _)) ai).trans K);have ey:=hc.has bk;have hd:=(((ca.trans aa).updr (qbo (ca).size (qbn _)) ac).trans C);have ez:=qr ey (Nat.ne_of_lt (qbp (hd.has b7).lt (qbn _))) H;have he:=(((((((V.trans ad).trans W).updr (qbo ((V.trans ad)).size (qbn _)) Z).updr (qbn _) U).trans F).trans Q).trans ae);have hf:=(((((V.trans ad).trans W).updr (qbo ((V.trans ad)).size (qbn _)) Z).updr (qbn _) U).trans F);have hg:=(((((((((((V.trans ad).trans W).updr (qbo ((V.trans ad)).size (qbn _)) Z).updr (qbn _) U).trans F).trans Q).trans ae).trans ag).updr (qbo (he).size (qbn _)) ah).updr (qbo (hf).size (qbn _)) ai).trans K);have dn:=hg.has eo;have dp:=qr dn (Nat.ne_of_gt (qbp (au).lt (qbn _))) H;have dq:=ew.has db;have dr:=qr dq (Nat.ne_of_gt (qbp (aj.has au).lt (qbn _))) H;have dt:=ew.has de;have du:=qr dt (Nat.ne_of_gt (qbp (e7.has au).lt (qbn _))) H;have hh:=(((((Q.trans ae).trans ag).updr (qbo ((Q.trans ae)).size (qbn _)) ah).updr (qbn _) ai).trans K);have dv:=hh.has eu;have dw:=qr dv (Nat.ne_of_gt (qbp (af).lt (qbn _))) H;have dx:=qr (K.has di) (Nat.ne_of_gt (qbp (F.has af).lt (qbn _))) H;have dy:=qr (K.has dj) (Nat.ne_of_gt (qbp (e9.has af).lt (qbn _))) H;refine qw (qbc ci 0 rfl rfl) (qw (qbc ci 1 rfl qck) (qw (qbc ci 2 rfl qck) ?_));have cn:=((((((((g9.trans y).trans aa).updr (qbo ((g9.trans y)).size (qbn _)) ac).trans C).trans ak).trans aj).trans V).trans ad);have e0:=((((((g9.trans y).trans aa).updr (qbo ((g9.trans y)).size (qbn _)) ac).trans C).trans ak).trans aj);have hi:=((((((cn.trans W).updr (qbo (cn).size (qbn _)) Z).updr (qbo (e0).size (qbn _)) U).trans F).trans Q).trans ae);have hj:=((((cn.trans W).updr (qbo (cn).size (qbn _)) Z).updr (qbo (e0).size (qbn _)) U).trans F);have hl:=((((g9.trans y).trans aa).updr (qbo ((g9.trans y)).size (qbn _)) ac).trans C);have hm:=(((((((((((((((((((g9.trans y).trans aa).updr (qbo ((g9.trans y)).size (qbn _)) ac).trans C).trans ak).trans aj).trans V).trans ad).trans W).updr (qbo (cn).size (qbn _)) Z).updr (qbo (e0).size (qbn _)) U).trans F).trans Q).trans ae).trans ag).updr (qbo (hi).size (qbn _)) ah).updr (qbo (hj).size (qbn _)) ai).trans K).updr (qbo (hl).size (qbn _)) H);have bm:=hm.has b8;refine qw (qbc bm 0 rfl qcl) (qw (qbc bm 1 rfl qcl) ?_);rw[kue];refine Runs.newB λiz e1 an=>?_;refine Runs.newB λi0 dz al=>?_;refine qbi (qbd ((an.trans al).has cm) rfl qcl) ?_;refine qbi (qbc (al.has e1) 0 rfl qcl) ?_;refine qbi (qbc (al.has e1) 1 rfl qcl) ?_;obtain⟨_,i1,hn,i5,h8,rfl,ho,fc,ap,fd,ec⟩:=krd a1 a4 a5;refine qbi hn ?_;refine qbi rfl ?_;refine qbi rfl ?_;refine Runs.ifTB rfl ?_;refine qbi (seenAt rfl rfl) ?_;refine qbi (seenAt rfl qck) ?_;refine qbi (seenAt rfl qck) ?_;refine qbi (seen qcl) ?_;refine Runs.newB λi6 hr ay=>?_;refine qbj hr rfl λi7 d0 az=>?_;refine qbi (qbc d0 0 rfl rfl) ?_;refine qbi (qbc d0 1 rfl qck) ?_;refine qbi (qbc d0 2 rfl qck) ?_;have ht:=((ap.trans ay).updr (qbo (ap).size (qbn _)) az);have d1:=ht.has dz;refine qbj d1 rfl λi8 d2 a0=>?_;have bq:=(ho.grow (ay.updr (qbn _) az)).upda (qbh fd (dz).lt) a0;have bc:=(fc.grow (ay.updr (qbn _) az)).upda (qbh ec (dz).lt) a0;have d3:=qr d0 (Nat.ne_of_gt (qbp (ap.has dz).lt (qbn _))) a0;refine qbi (qbc d2 0 rfl rfl) ?_;refine qbi (qbc d2 1 rfl qck) ?_;refine qbi (qbc d2 2 rfl qck) ?_;refine Runs.retB ?_;refine qw rfl ?_;refine qz rfl ?_;refine qw (seenAt rfl rfl) (qw (seenAt rfl qck) (qw (seenAt rfl qck) ?_));have hu:=((an.trans al).trans ap);have d4:=(((((an.trans al).trans ap).trans ay).updr (qbo (hu).size (qbn _)) az).updr (qbo (an).size (qbn _)) a0);refine qbb (d4.same ci 0 3) ?_;have br:=dm.grow d4;have bd:=cl.grow d4;obtain⟨i9,hw,e⟩:=qbs.1 e;obtain⟨_,ja,hx,hy,fe,rfl,hz,ff,aw,fg,ed⟩:=kbgv br bd bq bc (Option.some.inj hw);refine qw hx (qw rfl (qw rfl ?_));refine qz rfl ?_;refine qw (seenAt rfl rfl) (qw (seenAt rfl qck) (qw (seenAt rfl qck) (qw (seen qcl) ?_)));have be:=(((((((y.trans aa).updr (qbo (y).size (qbn _)) ac).trans C).trans ak).trans aj).trans V).trans ad);have bv:=(((((y.trans aa).updr (qbo (y).size (qbn _)) ac).trans C).trans ak).trans aj);have bf:=((((((be.trans W).updr (qbo (be).size (qbn _)) Z).updr (qbo (bv).size (qbn _)) U).trans F).trans Q).trans ae);have bw:=((((be.trans W).updr (qbo (be).size (qbn _)) Z).updr (qbo (bv).size (qbn _)) U).trans F);have bx:=(((y.trans aa).updr (qbo (y).size (qbn _)) ac).trans C);have d5:=((((((((bf.trans ag).updr (qbo (bf).size (qbn _)) ah).updr (qbo (bw).size (qbn _)) ai).trans K).updr (qbo (bx).size (qbn _)) H).trans an).trans al).trans ap);have d6:=((((((bf.trans ag).updr (qbo (bf).size (qbn _)) ah).updr (qbo (bw).size (qbn _)) ai).trans K).updr (qbo (bx).size (qbn _)) H).trans an);have h1:=(((((((((((((((((((((((((y.trans aa).updr (qbo (y).size (qbn _)) ac).trans C).trans ak).trans aj).trans V).trans ad).trans W).updr (qbo (be).size (qbn _)) Z).updr (qbo (bv).size (qbn _)) U).trans F).trans Q).trans ae).trans ag).updr (qbo (bf).size (qbn _)) ah).updr (qbo (bw).size (qbn _)) ai).trans K).updr (qbo (bx).size (qbn _)) H).trans an).trans al).trans ap).trans ay).updr (qbo (d5).size (qbn _)) az).updr (qbo (d6).size (qbn _)) a0).trans aw);have e2:=h1.has b9;refine qy e2 rfl λjb e3 I=>?_;have fh:=(bv.trans V);have am:=(d4.trans aw);have cp:=dk.grow am;have f2:=cp.upda (qbh er (fh.has b9).lt) I;have bz:=cj.grow am;have fi:=bz.upda (qbh cc (fh.has b9).lt) I;have ee:=(bw.trans Q);have cq:=dl.grow am;have f3:=cq.upda (qbh ev (ee.has b9).lt) I;have b0:=ck.grow am;have fj:=b0.upda (qbh cf (ee.has b9).lt) I;have cr:=(((bf.trans ag).updr (qbo (bf).size (qbn _)) ah).updr (qbo (bw).size (qbn _)) ai);have f4:=(br.grow aw).upda (qbh fb (cr.has b9).lt) I;have fk:=(bd.grow aw).upda (qbh eb (cr.has b9).lt) I;have ef:=(d6.trans al);have f5:=(bq.grow aw).upda (qbh fd (ef.has b9).lt) I;have fl:=(bc.grow aw).upda (qbh ec (ef.has b9).lt) I;have eg:=(((d5.trans ay).updr (qbo (d5).size (qbn _)) az).updr (qbo (d6).size (qbn _)) a0);have d7:=hz.upda (qbh fg (eg.has b9).lt) I;have ct:=ff.upda (qbh ed (eg.has b9).lt) I;have d8:=am.has cm;have h2:=qr d8 (Nat.ne_of_lt (qbp ((g7.trans g8).has b6).lt (qbn _))) I;have d9:=am.has ez;have h3:=qr d9 (Nat.ne_of_lt (qbp (g8.has b7).lt (qbn _))) I;have ea:=am.has bm;have h4:=qr ea (Nat.ne_of_lt (qbp (b8).lt (qbn _))) I;have bg:=(ep.trans ad);have bh:=((((((bg.trans W).updr (qbo (bg).size (qbn _)) Z).updr (qbo (dd).size (qbn _)) U).trans F).trans Q).trans ae);have cu:=((((bg.trans W).updr (qbo (bg).size (qbn _)) Z).updr (qbo (dd).size (qbn _)) U).trans F);have fm:=((((((((bh.trans ag).updr (qbo (bh).size (qbn _)) ah).updr (qbo (cu).size (qbn _)) ai).trans K).updr (qbo (C).size (qbn _)) H).trans an).trans al).trans ap);have fo:=((((((bh.trans ag).updr (qbo (bh).size (qbn _)) ah).updr (qbo (cu).size (qbn _)) ai).trans K).updr (qbo (C).size (qbn _)) H).trans an);have fq:=(((((((((((((((((((ep.trans ad).trans W).updr (qbo (bg).size (qbn _)) Z).updr (qbo (dd).size (qbn _)) U).trans F).trans Q).trans ae).trans ag).updr (qbo (bh).size (qbn _)) ah).updr (qbo (cu).size (qbn _)) ai).trans K).updr (qbo (C).size (qbn _)) H).trans an).trans al).trans ap).trans ay).updr (qbo (fm).size (qbn _)) az).updr (qbo (fo).size (qbn _)) a0).trans aw);have cv:=fq.has bt;have f6:=qr cv (Nat.ne_of_gt (qbp (y.has b9).lt (qbn _))) I;have cw:=am.has ci;have f7:=qr cw (Nat.ne_of_gt (qbp (bx.has b9).lt (qbn _))) I;have cx:=am.has dp;have fs:=(bx.trans ak);have f8:=qr cx (Nat.ne_of_gt (qbp (fs.has b9).lt (qbn _))) I;have cy:=am.has dr;have f9:=qr cy (Nat.ne_of_gt (qbp (bv.has b9).lt (qbn _))) I;have cz:=am.has du;have ga:=qr cz (Nat.ne_of_gt (qbp (be.has b9).lt (qbn _))) I;have c0:=am.has dw;have ft:=(((be.trans W).updr (qbo (be).size (qbn _)) Z).updr (qbo (bv).size (qbn _)) U);have gb:=qr c0 (Nat.ne_of_gt (qbp (ft.has b9).lt (qbn _))) I;have c1:=am.has dx;have gc:=qr c1 (Nat.ne_of_gt (qbp (bw.has b9).lt (qbn _))) I;have c2:=am.has dy;have gd:=qr c2 (Nat.ne_of_gt (qbp (bf.has b9).lt (qbn _))) I;have fu:=(((((al.trans ap).trans ay).updr (qbo ((al.trans ap)).size (qbn _)) az).updr (qbn _) a0).trans aw);have c3:=fu.has e1;have fv:=((cr.trans K).updr (qbo (bx).size (qbn _)) H);have ge:=qr c3 (Nat.ne_of_gt (qbp (fv.has b9).lt (qbn _))) I;have gf:=qr (aw.has d2) (Nat.ne_of_gt (qbp (d6.has b9).lt (qbn _))) I;have gg:=qr (aw.has d3) (Nat.ne_of_gt (qbp (d5.has b9).lt (qbn _))) I;refine qw (qbc e3 0 rfl rfl) (qw (qbc e3 1 rfl qck) (qw (qbc e3 2 rfl qck) ?_));cases e;cases b5;have ax:=((((g6.trans g7).trans g8).trans g9).trans y);have bi:=(((((((ax.trans aa).updr (qbo (ax).size (qbn _)) ac).trans C).trans ak).trans aj).trans V).trans ad);have c4:=(((((ax.trans aa).updr (qbo (ax).size (qbn _)) ac).trans C).trans ak).trans aj);have bj:=((((((bi.trans W).updr (qbo (bi).size (qbn _)) Z).updr (qbo (c4).size (qbn _)) U).trans F).trans Q).trans ae);have c5:=((((bi.trans W).updr (qbo (bi).size (qbn _)) Z).updr (qbo (c4).size (qbn _)) U).trans F);have c6:=(((ax.trans aa).updr (qbo (ax).size (qbn _)) ac).trans C);have fw:=((((((((bj.trans ag).updr (qbo (bj).size (qbn _)) ah).updr (qbo (c5).size (qbn _)) ai).trans K).updr (qbo (c6).size (qbn _)) H).trans an).trans al).trans ap);have fx:=((((((bj.trans ag).updr (qbo (bj).size (qbn _)) ah).updr (qbo (c5).size (qbn _)) ai).trans K).updr (qbo (c6).size (qbn _)) H).trans an);have c7:=((((((((((((((((((((((((((((g6.trans g7).trans g8).trans g9).trans y).trans aa).updr (qbo (ax).size (qbn _)) ac).trans C).trans ak).trans aj).trans V).trans ad).trans W).updr (qbo (bi).size (qbn _)) Z).updr (qbo (c4).size (qbn _)) U).trans F).trans Q).trans ae).trans ag).updr (qbo (bj).size (qbn _)) ah).updr (qbo (c5).size (qbn _)) ai).trans K).updr (qbo (c6).size (qbn _)) H).trans an).trans al).trans ap).trans ay).updr (qbo (fw).size (qbn _)) az).updr (qbo (fx).size (qbn _)) a0);have fy:=((g6.trans g7).trans g8);have fz:=((c7.trans aw).updr (qbo (fy).size (qbn _)) I);exact qu ⟨hy,fe,rfl,d7,ct,fz,(fg.of_le c7),(ed.of_le c7)⟩
theorem kbdw{s:kjd}{r:kio}(C:Iter kx9 s r):ksb r s:=qbe (λs o e y=>by
 cases s with
 | fn a1 a2 a3 a4 a5=>exact @kbla _ _ a1 a2 a3 a4 a5 e y
 | no=>exact True.intro
 ) C
abbrev Frc:=Bool×List Nat×List Nat×Int
theorem eta4(x:Frc):(x.1,x.2.1,x.2.2.1,x.2.2.2)=x:=rfl
def addQ(a b:Frc):Frc:=kef a.1 a.2.1 a.2.2.1 b.1 b.2.1 b.2.2.1
def subQ(a b:Frc):Frc:=kep a.1 a.2.1 a.2.2.1 b.1 b.2.1 b.2.2.1
def gainF(l g n G N:Int):Frc:=cond (!(kbe g n G N).2.2) (false,[],[],1) (cond (!kb7 l) (false,[],[],1) (subQ (addQ (scoreF l g n) (scoreF l (kbe g n G N).1 (kbe g n G N).2.1)) (scoreF l G N)))
theorem k9e(l g n G N:Int):Iter kx9 (.fn l g n G N) (gainF l g n G N):=.done (by
 show klu _ _ _ _ _=_;unfold klu gainF;cases(kbe g n G N).2.2 with
 | false=>rfl
 | true =>
  cases kb7 l with
  | false=>rfl
  | true =>simp only[Bool.not_true,cond_false];unfold subQ addQ;exact congrArg (λr=>some (Sum.inr r)) (eta4 _))
theorem k9d{h:AH}(l g n G N:Int):Runs (go (.fn kp8 [.i l,.agg [.i g,.i n],.agg [.i G,.i N]]) h) (kx3 h (gainF l g n G N)):=kbdw (k9e l g n G N)
theorem kub{z:Int}{d:Nat}(F:0<d)(H:z.natAbs<B^16)(y:d<B^16):∃(w:Int)(e:Nat),fracM z d=((intD w).1,(intD w).2,digs B e,0)/\IsFrac (fracM z d).1 (fracM z d).2.1 (fracM z d).2.2.1 w e/\w.natAbs<=z.natAbs/\e<=d:=by
 have h0:(fracM z d).2.2.2=0:=by unfold fracM;rw[if_pos ⟨qbq (Nat.div_le_self _ _) H,qbq (Nat.div_le_self _ _) y⟩]
 obtain⟨w,e,I,f,_,g,C,K,e3⟩:=kbc6 F h0;refine⟨w,e,I,f,?_,?_⟩
 ·rw[K,Int.natAbs_mul,Int.natAbs_natCast];exact Nat.le_mul_of_pos_right _ C
 ·rw[e3];exact Nat.le_mul_of_pos_left _ C
theorem k33{g n G N:Int}(h:(kbe g n G N).2.2=true):kbf g n=true/\kbf G N=true/\kbf (G-g) (N-n)=true/\kbe g n G N=(G-g,N-n,true):=by
 unfold kbe at h|-;cases y:kbf g n with
 | false=>rw[y]at h;cases h
 | true =>
  cases C:kbf G N with
  | false=>rw[y,C]at h;cases h
  | true =>obtain⟨a1,a2,a3,a4⟩:=kpw.1 y;obtain⟨b1,b2,b3,b4⟩:=kpw.1 C;rw[y,C,wrap64 (by omega) (by omega),wrap64 (by omega) (by omega)]at h;have h:kbf (G-g) (N-n)=true:=h;rw[wrap64 (by omega) (by omega),wrap64 (by omega) (by omega),h];exact⟨rfl,rfl,rfl,rfl⟩
theorem k1j:1099511627776*1099511627776*2097152*8<B^16:=by decide +kernel
theorem kuk{l g n:Int}(y:kbf g n=true)(C:kb7 l=true):∃(w:Int)(e:Nat),scoreF l g n=((intD w).1,(intD w).2,digs B e,0)/\IsFrac (scoreF l g n).1 (scoreF l g n).2.1 (scoreF l g n).2.2.1 w e/\w.natAbs<=1099511627776*1099511627776/\e<=2097152:=by obtain⟨a1,a2,a3,a4⟩:=kpw.1 y;obtain⟨b1,b2⟩:=k3u.1 C;have hs:=sq_two a1 a2;have H:=k1j;unfold scoreF;rw[if_pos ⟨y,C⟩];obtain⟨w,e,F,f,I,K⟩:=kub (z:=g*g) (d:=(n+l).toNat) (by omega) (by omega) (by omega);exact⟨w,e,F,f,by omega,by omega⟩
theorem kjh{a b c d:Nat}(y:a<=c)(C:b<=d):a*b<=c*d:=Nat.mul_le_mul y C
theorem k5o{l g n y C:Int}(W:kbf g n=true)(I:kbf y C=true)(Q:kb7 l=true):∃(w:Int)(e:Nat),addQ (scoreF l g n) (scoreF l y C)=((intD w).1,(intD w).2,digs B e,0)/\IsFrac (addQ (scoreF l g n) (scoreF l y C)).1 (addQ (scoreF l g n) (scoreF l y C)).2.1 (addQ (scoreF l g n) (scoreF l y C)).2.2.1 w e/\w.natAbs<=1099511627776*1099511627776*2097152*2/\e<=2097152*2097152:=by
 obtain⟨w,e,_,f,Z,U⟩:=kuk W Q;obtain⟨w',F,_,V,K,H⟩:=kuk I Q;have hb:=k1j;unfold addQ;rw[Add_of f V];have p1:(w*(F:Int)).natAbs<=1099511627776*1099511627776*2097152:=by rw[Int.natAbs_mul,Int.natAbs_natCast];exact kjh Z H
 have p2:(w'*(e:Int)).natAbs<=1099511627776*1099511627776*2097152:=by rw[Int.natAbs_mul,Int.natAbs_natCast];exact kjh K U
 have p3:e*F<=2097152*2097152:=kjh U H;have p4:0<e*F:=Nat.mul_pos f.pos V.pos;obtain⟨x,c,e1,fx,m1,m2⟩:=kub (z:=w*(F:Int)+w'*(e:Int)) (d:=e*F) p4 (by omega) (by omega);exact⟨x,c,e1,fx,by omega,by omega⟩
theorem kbkf:1099511627776*1099511627776*2097152*2*2097152+1099511627776*1099511627776*(2097152*2097152)<B^16:=by decide +kernel
theorem kzn{l g n G N:Int}(K:(kbe g n G N).2.2=true)(H:kb7 l=true):(gainF l g n G N).2.2.2=0:=by
 obtain⟨Q,U,Z,e⟩:=k33 K;unfold gainF;rw[K,H,e];obtain⟨w,c,_,f,l1,V⟩:=k5o Q Z H;obtain⟨w',C,_,W,I,F⟩:=kuk U H;have hb:=kbkf;simp only[Bool.not_true,cond_false];unfold subQ;rw[Sub_of f W];have p1:(w*(C:Int)).natAbs<=1099511627776*1099511627776*2097152*2*2097152:=by rw[Int.natAbs_mul,Int.natAbs_natCast];exact kjh l1 F
 have p2:(w'*(c:Int)).natAbs<=1099511627776*1099511627776*(2097152*2097152):=by rw[Int.natAbs_mul,Int.natAbs_natCast];exact kjh I V
 have p3:c*C<=2097152*2097152*2097152:=kjh V F;have p4:0<c*C:=Nat.mul_pos f.pos W.pos;obtain⟨x,y,e1,fx,Q,U⟩:=kub (z:=w*(C:Int)-w'*(c:Int)) (d:=c*C) p4 (by omega) (by omega);rw[e1]
theorem kbc0(l g n G N:Int):(gainF l g n G N).2.2.2=0\/(gainF l g n G N).2.2.2=1:=by
 cases y:(kbe g n G N).2.2 with
 | false=>right;unfold gainF;rw[y];rfl
 | true =>
  cases C:kb7 l with
  | false=>right;unfold gainF;rw[y,C];rfl
  | true=>exact Or.inl (kzn y C)
theorem kbih{m:Nat}(h:m<18446744073709551616):smallN (digs B m)=(m,true):=by
 have y:m<B^64:=by have:=kfa;omega
 unfold smallN
 have C:(digs B m).length<=1:=by rw[kbg B2,Nat.pow_one];exact h
 rw[if_pos ⟨kn y,C⟩];by_cases h0:m=0
 ·subst h0;rw[kbu];rfl
 ·rw[ke9 B2 h0,Nat.mod_eq_of_lt h];rfl
theorem kbio{z:Int}(H:-9223372036854775808<=z)(I:z<=9223372036854775807):smallI (intD z).1 (intD z).2=(z,true):=by
 have C:z.natAbs<18446744073709551616:=by omega
 have F:z.natAbs<B^64:=by have:=kfa;omega
 unfold smallI;have e:smallN (intD z).2=(z.natAbs,true):=kbih C;rw[e,kcv F];have s:(intD z).1=decide (z<0):=rfl;rw[s];by_cases y:z<0
 ·simp only[y,decide_true,if_true,true_and];rw[if_pos (by omega)];congr 1;omega
 ·simp only[y,decide_false,qcj,if_false,true_and];rw[if_pos (by omega)];congr 1;omega
end Go.Ab
namespace Go.Ab
end Go.Ab
