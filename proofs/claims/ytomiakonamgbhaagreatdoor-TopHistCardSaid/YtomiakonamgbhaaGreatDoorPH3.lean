/- Words and laws that the last text joins. -/
import Derived.Test.YtomiakonamgbhaaGreatDoorPP7
import Derived.Test.YtomiakonamgbhaaGreatDoorPS52
import Derived.Test.YtomiakonamgbhaaGreatDoorPAbsL
import Derived.Test.YtomiakonamgbhaaGreatDoorPS2
import Derived.Test.YtomiakonamgbhaaGreatDoorPS33
set_option linter.unusedVariables false
set_option linter.unusedSimpArgs false
set_option linter.unusedSectionVars false
set_option maxRecDepth 10000
namespace Go.Ab
open Go.Proofs
def zs(l:List Nat):List Int:=l.map λx:Nat=>(x:Int)
theorem zs_len(l:List Nat):(zs l).length=l.length:=qby _
theorem zs_app(l m:List Nat):zs (l++m)=zs l++zs m:=List.map_append
theorem knv{n:Nat}(h:n<=1000000):growOk Pg n T.int 1=true:=by
 unfold growOk;rw[k1a,kw1];have y:n*8<=kbb:=by simp only[kbb];omega
 have C:n<=kbb:=by simp only[kbb];omega
 simp[y,C]
def btL(n:Int)(w:List Nat):List Nat:=if btR n w then(List.range n.toNat).filter (wbit w)else []
theorem btR_n{n:Int}{w:List Nat}(h:btR n w=true):0<=n/\n<=65536/\w.length=(n.toNat+63)/64/\∀i,i<64*w.length->n.toNat<=i->wbit w i=false:=by unfold btR at h;simp only[qb6,qbu,List.all_eq_true,qci,qb7,qcf]at h;exact⟨h.1,h.2.1,h.2.2.1,λi y C=>(h.2.2.2 i y).resolve_left (by omega)⟩
theorem btR_of{n:Int}{w:List Nat}(y:0<=n)(C:n<=65536)(F:w.length=(n.toNat+63)/64)(H:∀i,i<64*w.length->n.toNat<=i->wbit w i=false):btR n w=true:=by unfold btR;simp only[qb6,qbu,List.all_eq_true,qci,qb7,qcf];exact⟨y,C,F,λi I=>(Nat.lt_or_ge i n.toNat).imp_right (H i I)⟩
section
variable{h0:AH}{s:Sl}{w:List Nat}{n:Int}
theorem k9h{i:Nat}:∀(k j:Nat),j+k=i%64->∀(x:Nat)(h:AH),x<18446744073709551616->
  go (.pt khp kqx [(1,.i (i:Int)),(5,.int .u64 (x:Int)),(6,.i (j:Int))]) h=some (.bool (x.testBit k),h):=by
 intro k
 induction k with
 | zero =>
  intro j y x h C;rw[k03,show Int.tmod (i:Int) 64=((i%64:Nat):Int)from rfl,condF (qbw (by omega)),show Int.tmod (x:Int) 2=((x%2:Nat):Int)from rfl]
  have:x.testBit 0=decide (((x%2:Nat):Int)=1):=by rw[Nat.testBit_zero,decide_eq_decide];omega
  rw[this]
 | succ k ih =>
  intro j y x h C;rw[k03,show Int.tmod (i:Int) 64=((i%64:Nat):Int)from rfl,condT (qbv (by omega)),show Int.tdiv (x:Int) 2=((x/2:Nat):Int)from rfl,ko (by omega)];have:IntKind.wrap .u64 ((x/2:Nat):Int)=((x/2:Nat):Int):=by rw[wrapU];omega
  rw[this,ih (j+1) (by omega) (x/2) h (by omega),Nat.testBit_succ]
theorem k8x(N:Nats h0 s w){i:Nat}(y:i/64<w.length)(I:i<4611686018427387904):Runs (go (.fn khp [.agg [.i n,s.v],.i (i:Int)]) h0) λv h'=>v=.bool (wbit w i)/\Grow h0 h':=by rw[k7g];refine qx λK b1 C=>qcm b1 1 rfl ?_;obtain⟨r,F,H⟩:=(N.grow C).rdN y;rw[show Int.tdiv (i:Int) 64=((i/64:Nat):Int)from rfl,wrap64 (by omega) (by omega)];refine qw F (qw H ?_);rw[show(0:Int)=((0:Nat):Int)from rfl,k9h (i%64) 0 (by omega) _ _ (N.lt _ (qb0 y))];refine qu ⟨?_,C⟩;unfold wbit;simp[List.getD,y]
end
theorem k0z{w:List Nat}{i j:Nat}(y:i/64<w.length):wbit (w.set (i/64) (w[i/64]|||2^(i%64))) j=(decide (j=i)||wbit w j):=by
 unfold wbit;by_cases h:j/64=i/64
 ·rw[h];have:(w.set (i/64) (w[i/64]|||2^(i%64))).getD (i/64) 0=w[i/64]|||2^(i%64):=by simp[List.getD,y]
  rw[this,Nat.testBit_or,Nat.testBit_two_pow];have C:w.getD (i/64) 0=w[i/64]:=by simp[List.getD,y]
  rw[C,Bool.or_comm];congr 1;rw[decide_eq_decide];omega
 ·have F:(w.set (i/64) (w[i/64]|||2^(i%64))).getD (j/64) 0=w.getD (j/64) 0:=by
   simp only[List.getD];rw[List.getElem?_set_ne (by omega)]
  rw[F];have:¬j=i:=λe=>h (by rw[e]);simp[this]
theorem k1h(n i:Nat):wbit (List.replicate n 0) i=false:=by
 unfold wbit
 have:(List.replicate n 0).getD (i/64) 0=0:=by simp only[List.getD,List.getElem?_replicate];split<;>rfl
 rw[this];exact Nat.zero_testBit _
section
variable{h0:AH}
theorem kv7{n:Nat}(I:n<=65536):Runs (go (.fn kom [.i (n:Int)]) h0) λv h'=>Grow h0 h'/\∃(s:Sl)(i:Nat),v=.tup [.agg [.i (n:Int),s.v],.i 0]/\h0.blks.size<=i/\Vec h' s i (List.replicate ((n+63)/64) 0):=by rw[kbaf];refine qx λH b1 y=>q0 (qbw (by omega)) (q0 (qbw (by omega)) ?_);rw[wrap64 (n:=(n:Int)+64) (by omega) (by omega),wrap64 (n:=(n:Int)+64-1) (by omega) (by omega),show(n:Int)+64-1=((n+63:Nat):Int)from by omega,show Int.tdiv ((n+63:Nat):Int) 64=(((n+63)/64:Nat):Int)from rfl,wrap64 (by omega) (by omega)];refine Runs.mk (kdw (by omega)) kda λs K V C=>?_;refine qy (C.has b1) rfl λQ b3 F=>?_;refine qcn b3 0 rfl (qcm b3 1 rfl (qu ⟨(y.trans C).updr (qbn _) F,s,H.blks.size,rfl,y.size,V.updr (by have:=b1.lt;omega) F⟩))
end
theorem kbj2{w:List Nat}{i:Nat}(y:i<w.length):(List.range (64*(i+1))).filter (wbit w)=(List.range (64*i)).filter (wbit w)++(ones w[i]).map (λk=>64*i+k):=by rw[Nat.mul_add,Nat.mul_one,List.range_add,List.filter_append,List.filter_map];congr 1;unfold ones;congr 1;apply List.filter_congr;intro k hk;rw[qci]at hk;simp only[Function.comp,wbit];rw[show(64*i+k)/64=i from by omega,show(64*i+k)%64=k from by omega];simp[List.getD,y]
section
variable{w:List Nat}{s:Sl}{l:Nat}
theorem k8y{Inv:List Nat->AH->Prop}(V:∀d h,Inv d h->Tab h)(y:∀d i h,Inv d h->i<64*w.length->d.length<64*w.length->Runs (go (.round l [.i (i:Int)]) h) λv h'=>v=.bool true/\Inv (d++[i]) h')(hl:w.length<=2000){i:Nat}(hi:i<w.length){P:AV->AH->Prop} :
  ∀(n x:Nat),x<18446744073709551616->(ones x).length=n->∀(d:List Nat)(h:AH),d.length+n<=64*w.length->Inv d h->(∀h',Inv (d++(ones x).map (λk=>64*i+k)) h'->Runs (go (.pt kce klt [(0,.func (.yield l) [] []),(6,s.v),(7,.i (w.length:Int)),(8,.i ((i+1:Nat):Int))]) h') P)->
  Runs (go (.pt kce ko3 [(0,.func (.yield l) [] []),(3,.i (i:Int)),(4,.int .u64 (x:Int)),(6,s.v),(7,.i (w.length:Int)),(8,.i (i:Int))]) h) P:=by
 intro n
 induction n with
 | zero =>
  intro x K C d h Z I H
  have F:x=0:=by
   rcases Nat.eq_zero_or_pos x with h0 | h0
   ·exact h0
   ·obtain⟨k,m,hk,rfl⟩:=ky6 64 x (by omega) K;rw[kvz hk]at C;simp at C
  subst F;rw[ky1];refine q0 (by rfl) ?_;rw[ko (by omega)];rw[k1b]at H;exact H h (by simpa using I)
 | succ n ih =>
  intro x K C d h Z I H;have F:x≠0:=λe=>by subst e;rw[k1b]at C;simp at C
  obtain⟨k,m,hk,Q⟩:=ky6 64 x F K;subst Q;rw[kvz hk]at C H;rw[ky1];refine qz (by rw[qbw (by omega)];rfl) ?_;refine qw (tz_is (V _ _ I) hk K) (qw (seen rfl) ?_);rw[wrap64 (n:=64*(i:Int)) (by omega) (by omega),wrap64 (by omega) (by omega),show 64*(i:Int)+(k:Int)=((64*i+k:Nat):Int)from by omega];refine(y d (64*i+k) h I (by omega) (by omega)).call λv h1 ⟨e,I1⟩=>?_;subst e;refine qw (seen rfl) (q0 rfl ?_)
  have e1:IntKind.wrap .u64 (((2^(k+1)*m+2^k:Nat):Int)-1)=((2^(k+1)*m+2^k-1:Nat):Int):=by
   have:=Nat.two_pow_pos k;generalize 2^(k+1)*m+2^k=W at *
   rw[wrapU];omega
  have U:2^(k+1)*m<18446744073709551616:=by have:=Nat.two_pow_pos k;exact qbq (Nat.le_add_right _ _) K
  dsimp only;rw[e1,kr6 K (by omega),k4e];refine ih _ U (by simpa using C) (d++[64*i+k]) h1 (by rw[qbx,List.length_singleton];omega) I1 λh' I'=>H h' ?_
  simpa using I'
theorem k74{Inv:List Nat->AH->Prop}(K:∀d h,Inv d h->Tab h)(F:∀d h,Inv d h->Nats h s w)(y:∀d i h,Inv d h->i<64*w.length->d.length<64*w.length->Runs (go (.round l [.i (i:Int)]) h) λv h'=>v=.bool true/\Inv (d++[i]) h')(Q:w.length<=2000) :
  ∀(k i:Nat),i+k=w.length->∀h,Inv ((List.range (64*i)).filter (wbit w)) h->
  Runs (go (.pt kce klt [(0,.func (.yield l) [] []),(6,s.v),(7,.i (w.length:Int)),(8,.i (i:Int))]) h) λv h'=>v=.tup []/\Inv ((List.range (64*w.length)).filter (wbit w)) h':=by
 intro k
 induction k with
 | zero =>
  intro i U h I;obtain rfl:i=w.length:=by omega
  rw[k0k];exact q0 (qbw (by omega)) (qu ⟨rfl,I⟩)
 | succ k ih =>
  intro i U h I;have C:i<w.length:=by omega
  obtain⟨r,V,W⟩:=(F _ _ I).rdN C;rw[k0k];refine qz (qbv (by omega)) (qw V (qw W ?_));refine k8y K y Q C _ _ ((F _ _ I).lt _ (qb0 C)) rfl _ h ?_ I λh' H=>?_
  ·have Z:=List.length_filter_le (wbit w) (List.range (64*i));have h2:=List.length_filter_le w[i].testBit (List.range 64);rw[qch]at Z h2;show _+((List.range 64).filter _).length<=_;omega
  rw[<- kbj2 C]at H;exact ih (i+1) (by omega) h' H
end
noncomputable def aNote(st:LoopState)(b:Nat)(g:AV):ABlk:=kc9 krn kfl 0 st none [(0,nV),(1,g),(2,.p (.new b 0)),(4,nV),(6,g)]
structure Coll(h0:AH)(b l:Nat)(g:AV)(d:List Nat)(h:AH):Prop where
 grow:Grow h0 h
 note:h.blks[l]?=some (aNote .ready b g)
 out:∃(t:Sl)(j:Option Nat),h.has b [t.v] kcj/\LeO (l+1) j/\GF EI T.int h Fp.no t j (zs d)
theorem kek{m n:Nat}(h:m<n):∀{j:Option Nat},LeO n j->∀k,j=some k->k≠m
 | some x,l,k,e=>by cases e;have:n<=x:=l;omega
theorem k82{h0 h:AH}{b l:Nat}{g:AV}{d:List Nat}(hb:h0.blks.size<=b)(aa:b<l)(I:Coll h0 b l g d h)(hd:d.length<900000)(i:Nat):Runs (go (.round l [.i (i:Int)]) h) λv h'=>v=.bool true/\Coll h0 b l g (d++[i]) h':=by
 obtain⟨G,Q,t,j,B,U,V⟩:=I;have hl:l<h.blks.size:=(qca.1 Q).1;rw[kblc l none _ _ _ _ _ _ _ Q,kq2 (h:=h) Q,qbr];generalize hq:h.setBlk l _=H;have K:Upd h H l:=by rw[<- hq];exact qbm _
 have n1:H.blks[l]?=some (aNote .busy b g):=by rw[<- hq];exact qbl hl
 have B1:H.has b [t.v] kcj:=B.updr (by omega) K;have V1:GF EI T.int H Fp.no t j (zs d):=V.upd K Fp.not_no (kek (Nat.lt_succ_self l) U);refine qw (B1.rd0 rfl qck) ?_;refine qx λy b2 C=>?_;refine qw (kfe b2 (by rw[kja];rfl)) ?_;obtain⟨t',F,e3,V3,u3⟩:=(V1.grow C).push (T:=Fp.no) (cs:=[.i (i:Int)]) (x:=(i:Int)) rfl NotO.no (knv (by rw[zs_len];omega));refine qw e3 (qw qck ?_);have m3:Md (Fp.opt j) y F:=u3.md λk e=>e;have no:∀{m:Nat},m<=l->¬Fp.opt j m:=λhm e=>kek (Nat.lt_succ_of_le hm) U _ e rfl;have B3:F.has b [t.v] kcj:=m3.has (C.has B1) (no (by omega));have n3:F.blks[l]?=some (aNote .busy b g):=m3.get ((C.blk l (qca.1 n1).1).trans n1) (no (qbn _));refine qy B3 rfl λW B4 Z=>?_;have n4:W.blks[l]?=some (aNote .busy b g):=(Z.blk l (by omega) (qca.1 n3).1).trans n3;rw[kk0 n4];have u5:Upd W (W.setBlk l (aNote .ready b g)) l:=qbm _;have hs:h.blks.size<=y.blks.size:=qbo K.size C.size;refine qu ⟨rfl,?_,qbl (qca.1 n4).1,t',some y.blks.size,B4.updr (by omega) u5,show l+1<=y.blks.size by omega,?_⟩
 ·have G2:Grow h0 y:=(G.updr (by omega) K).trans C;have G3:Grow h0 F:=G2.updo (LeO.trans (by omega) U) u3;exact(G3.updr hb Z).updr (by omega) u5
 ·rw[zs_app];have V4:GF EI T.int F Fp.no t' (some y.blks.size) (zs d++[(i:Int)]):=V3.mono (λj x=>x.1.elim id id) NotO.no;have:=(V4.upd Z Fp.not_no λk e=>by cases e;omega).upd u5 Fp.not_no λk e=>by cases e;omega
  exact this
section
variable{h0:AH}{s:Sl}{w:List Nat}{n:Int}
theorem k5h(T0:Tab h0)(N:Nats h0 s w):Runs (go (.fn kn9 [.agg [.i n,s.v]]) h0) λv h'=>Grow h0 h'/\∃(t':Sl)(F:Option Nat),v=t'.v/\LeO h0.blks.size F/\GF EI T.int h' Fp.no t' F (zs (btL n w)):=by
 rw[k6g];refine qx λh1 b1 g1=>qcn b1 0 rfl (qcm b1 1 rfl ?_);refine(koq (N.grow g1)).call λv H ⟨e,Z⟩=>?_;subst e;refine qw (seen rfl) ?_;cases hR:btR n w with
 | false =>
  refine qz rfl (qu ⟨g1.trans Z,_,none,rfl,trivial,?_⟩);unfold btL;rw[hR];exact GF.none _ _ _ _
 | true =>
  obtain⟨ac,ad,U,W⟩:=btR_n hR;refine q0 rfl (qcn (Z.has b1) 0 rfl (qcm (Z.has b1) 1 rfl ?_))
  have k0:Runs (go (.fn ks1 [.agg [.i n,s.v]]) H) λv h'=>v=.func (.func kce) [] [.p (.new H.blks.size 0)]/\h'.has H.blks.size [.i n,s.v] ku/\Grow H h':=by rw[kbi3];exact qx λC b3 g3=>qu ⟨rfl,b3,g3⟩
  refine k0.call λv C ⟨e,b3,g3⟩=>?_;subst e;have G3:Grow h0 C:=(g1.trans Z).trans g3
  have key:Runs (go (.fn kfl [nV,.func (.func kce) [] [.p (.new H.blks.size 0)]]) C) λv h'=>Grow C h'/\∃(t':Sl)(F:Option Nat),v=t'.v/\LeO C.blks.size F/\GF EI T.int h' Fp.no t' F (zs (btL n w)):=by
   rw[k31];refine qx λK b4 g4=>?_;rw[kbez,kp5];refine Runs.newM λh5 hb g5=>?_;rw[k7b];generalize ae:(AV.func (.func kce) [] [AV.ptr (some (Ref.new H.blks.size 0))])=gv at hb;have s4:C.blks.size<K.blks.size:=b4.lt;have aa:h5.has H.blks.size [.i n,s.v] ku:=g5.has (g4.has b3);have I0:Coll C C.blks.size K.blks.size gv [] h5:=⟨g4.trans g5,hb,_,none,g5.has b4,trivial,GF.none _ _ _ _⟩;have N3:Nats C s w:=N.grow G3;have T3:Tab C:=T0.grow G3
   have k1:Runs (go (.fn kce [.func (.yield K.blks.size) [] [],.p (.new H.blks.size 0)]) h5) λv h'=>v=.tup []/\Coll C C.blks.size K.blks.size gv ((List.range (64*w.length)).filter (wbit w)) h':=by rw[kba5];refine qcm aa 1 rfl ?_;rw[N.len];exact k74 (Inv:=Coll C C.blks.size K.blks.size gv) (λd h I=>T3.grow I.grow) (λd h I=>N3.grow I.grow) (λd i h I hi hd=>k82 (qbn _) s4 I (by omega) i) (by omega) w.length 0 (by omega) h5 (by simpa using I0)
   refine k1.call λv h6 ⟨e,I⟩=>?_;obtain⟨G,hn,t,j,B,Q,V⟩:=I;rw[kos hn,qbr];rw[kbek];have hl:=(qca.1 hn).1;have u6:Upd h6 (h6.setBlk K.blks.size .dead) K.blks.size:=qbm _;refine qw ((B.updr (by omega) u6).rd0 rfl qck) (qu ⟨G.updr (by omega) u6,t,j,rfl,LeO.trans (by omega) Q,?_⟩)
   have e:btL n w=(List.range (64*w.length)).filter (wbit w):=by
    unfold btL;rw[hR,if_pos rfl];obtain⟨z,rfl⟩:∃z:Nat,n=(z:Int):=⟨n.toNat,by omega⟩;rw[Int.toNat_natCast]at U W|-;obtain⟨q,hq⟩:∃q,64*w.length=z+q:=⟨64*w.length-z,by omega⟩;rw[hq,List.range_add,List.filter_append]
    have:((List.range q).map (z + ·)).filter (wbit w)=[]:=List.filter_eq_nil_iff.2 λx hx=>by rw[List.mem_map]at hx;obtain⟨y,hy,rfl⟩:=hx;rw[qci]at hy;rw[W (z+y) (by omega) (by omega)];simp
    rw[this,List.append_nil]
   rw[e];exact V.upd u6 Fp.not_no (kek (Nat.lt_succ_self _) Q)
  have k2:Runs (go (.fn ktr [.func (.func kce) [] [.p (.new H.blks.size 0)]]) C) λv h'=>Grow C h'/\∃(t':Sl)(F:Option Nat),v=t'.v/\LeO C.blks.size F/\GF EI T.int h' Fp.no t' F (zs (btL n w)):=by rw[kblg];refine key.call λv h' ⟨g,t',F,e,Q,V⟩=>?_;subst e;exact qw (seen qck) (qu ⟨g,t',F,rfl,Q,V⟩)
  refine k2.call λv h' ⟨g,t',F,e,Q,V⟩=>?_;subst e;exact qw (seen qck) (qu ⟨G3.trans g,t',F,rfl,LeO.trans G3.size Q,V⟩)
end
theorem kbcm{w:List Nat}{i x:Nat}(y:i<w.length)(j:Nat):wbit (w.set i x) j=if j/64=i then x.testBit (j%64)else wbit w j:=by
 unfold wbit;split
 ·rename_i h;rw[h];have:(w.set i x).getD i 0=x:=by simp[List.getD,y]
  rw[this]
 ·rename_i h
  have:(w.set i x).getD (j/64) 0=w.getD (j/64) 0:=by simp only[List.getD];rw[List.getElem?_set_ne (by omega)]
  rw[this]
theorem kye{w:List Nat}{j:Nat}(h:w.length<=j/64):wbit w j=false:=by
 unfold wbit;have:w.getD (j/64) 0=0:=by simp[List.getD,h]
 rw[this];exact Nat.zero_testBit _
section
variable{h0:AH}{S:Fp}{s:Sl}
theorem kbdt{xs:List Int}(n:Sq EI h0 S s xs){b:Nat}{z:Int}{e:TypeId}(I:h0.has b [.i z] e):Runs (go (.fn kdu [s.v,.func (.func kdn) [] [.p (.new b 0)]]) h0) λv h'=>v=.bool (xs.any λx=>decide (x<0)||decide (x>=z))/\Grow h0 h':=by
 rw[kbca];refine Runs.contains (xs:=xs) ?_;rw[k6o,n.len];refine kl1 (n:=xs.length) (G:=λy h=>go (.pt kbp kcq [(0,s.v),(1,.func (.func kdn) [] [.p (.new b 0)]),(7,.i (xs.length:Int)),(8,.i y)]) h) (λi h P H g C F=>?_) (λh g=>?_) xs.length 0 (by omega) (qk h0) (λj W=>by omega)
 ·obtain⟨r,K,Q⟩:=(n.grow g).int H;rw[qb1 H]at C F;simp only[Option.any_some]at C F;show Runs (go _ _) _;rw[kyw];refine qz (qbv (by omega)) (qw K (qw Q ?_))
  have key:Runs (go (.fn kdn [.i xs[i],.p (.new b 0)]) h) λv h'=>v=.bool (decide (xs[i]<0)||decide (xs[i]>=z))/\h'=h:=by
   rw[kbap];cases decide (xs[i]<0)
   ·refine q0 rfl (qw rfl (qw ((g.has I).rd0 rfl qcl) ?_));exact qu ⟨rfl,rfl⟩
   ·exact qu ⟨rfl,rfl⟩
  refine key.call λv h' ⟨U,V⟩=>?_;subst U;subst V;refine qw (seen rfl) ?_;rw[ko (by have:=n.short;omega)];exact qba (λc=>qu (C _ g c)) λc=>F _ g c
 ·rw[kyw,condF (qbw (by omega))]
theorem kbgg{l:List Nat}{n:Nat}(q:Sq EI h0 S s (zs l))(hl:∀x∈l,x<n)(hn:n<=65536){b c i:Nat}{t:Sl}(hb:h0.blks.size<=b)(U:c≠i)(ad:b≠c)(H:b≠i)(hi:h0.blks.size<=i):∀(k j:Nat),j+k=l.length->∀(h:AH)(w:List Nat),Grow h0 h->(∃cs:List AV,cs.length=2/\h.has b cs ku)->h.has c [.i (n:Int),t.v] ku->Vec h t i w->w.length=(n+63)/64->(∀m,wbit w m=decide (m∈l.take j))->
  Runs (go (.pt kh0 kog [(4,.p (.new b 0)),(6,.p (.new c 0)),(23,s.v),(24,.i (l.length:Int)),(25,.i (j:Int))]) h) λv h'=>Grow h0 h'/\∃(t:Sl)(w:List Nat),v=.tup [.agg [.i (n:Int),t.v],.i 0]/\Nats h' t w/\w.length=(n+63)/64/\Own h0 t/\∀m,wbit w m=decide (m∈l):=by
 intro k
 induction k with
 | zero =>
  intro j hj h w g ⟨cs,y,B⟩ C V W Z;obtain rfl:j=l.length:=by omega
  rw[k3c];refine q0 (qbw (by omega)) (qcn C 0 rfl (qcm C 1 rfl ?_));refine qy B (by rw[y];rfl) λh1 B1 F=>?_;refine qcn B1 0 rfl (qcm B1 1 rfl (qu ⟨g.updr hb F,t,w,rfl,(V.updr (λe=>H e.symm) F).nats,W,V.own hi,λm=>?_⟩));rw[Z,List.take_length]
 | succ k ih =>
  intro j hj h w g hB C V W Z;have aa:j<(zs l).length:=by rw[zs_len];omega
  obtain⟨r,e1,e2⟩:=(q.grow g).int aa;have hx:(zs l)[j]=((l[j]'(by omega):Nat):Int):=by simp[zs]
  have I:j<l.length:=by omega
  have ae:l[j]<n:=hl _ (qb0 I);have hq:l[j]/64<w.length:=by omega
  rw[k3c];refine qz (qbv (by omega)) (qw e1 (qw e2 ?_));rw[hx];refine qcm C 1 rfl ?_;rw[show Int.tdiv ((l[j]:Nat):Int) 64=((l[j]/64:Nat):Int)from rfl,wrap64 (by omega) (by omega),show Int.tmod ((l[j]:Nat):Int) 64=((l[j]%64:Nat):Int)from rfl,V.len];refine qw (V.idx rfl (kx hq)) (qw (V.rd rfl (kx hq) qcl) (q0 (qbw (by omega)) (qw (V.idx rfl (kx hq)) ?_)));have K:w[l[j]/64]<18446744073709551616:=V.lt _ (qb0 hq);have Q:2^(l[j]%64)<2^64:=Nat.pow_lt_pow_right (by decide) (by omega);have ac:w.getD (l[j]/64) 0=w[l[j]/64]:=by simp[List.getD,hq]
  rw[ac,k46 (by omega),or_nat K Q];refine qbf V rfl (kx hq) (kbm (Nat.or_lt_two_pow (n:=64) K Q)) λh1 V1 F=>?_;rw[ko (by have:=q.short;rw[zs_len]at this;omega)];obtain⟨cs,y,B⟩:=hB;refine ih (j+1) (by omega) h1 _ (g.updr hi F) ⟨cs,y,B.updr H F⟩ (C.updr U F) V1 (by rw[qb4];exact W) λm=>?_;rw[k0z hq,Z,qce I,Bool.eq_iff_iff];simp only[qb7,qbu,qb2,List.mem_singleton];exact Or.comm
theorem k4d{l:List Nat}{n:Nat}(q:Sq EI h0 S s (zs l))(hl:∀x∈l,x<n)(hn:n<=65536):Runs (go (.fn kh0 [.i (n:Int),s.v]) h0) λv h'=>Grow h0 h'/\∃(t:Sl)(w:List Nat),v=.tup [.agg [.i (n:Int),t.v],.i 0]/\Nats h' t w/\w.length=(n+63)/64/\Own h0 t/\∀m,wbit w m=decide (m∈l):=by
 rw[kbdi];refine qx λI b1 g1=>qx λK b2 Q=>qw ((Q.has b1).rd0 rfl qcl) ?_;refine(kv7 hn).call λv U ⟨W,t,i,e,hi,V⟩=>?_;subst e;refine qw rfl (qw rfl (qz rfl (qw rfl (qw (seenAt rfl qck) (qw rfl ?_)))));dsimp only;refine qx λh4 b4 Z=>qy b4 rfl λh5 b5 u5=>q0 rfl ?_;have s1:h0.blks.size<I.blks.size:=b1.lt;have s2:I.blks.size<K.blks.size:=b2.lt;have s3:i<U.blks.size:=V.inn;have s4:K.blks.size<=U.blks.size:=W.size;have G4:Grow h0 h4:=(((g1.trans Q).trans W).trans Z);have G5:Grow h0 h5:=G4.updr (by have:=G4.size;omega) u5;have C:Grow K h5:=(W.trans Z).updr (by omega) u5;refine(kbdt (q.grow G5) (C.has (Q.has b1))).call λv h6 ⟨e,H⟩=>?_;subst e
 have F:((zs l).any λx=>decide (x<0)||decide (x>=(n:Int)))=false:=by rw[List.any_eq_false];intro x hx;unfold zs at hx;rw[List.mem_map]at hx;obtain⟨y,hy,rfl⟩:=hx;have:=hl y hy;simp;omega
 rw[F];refine qw (seen rfl) (q0 rfl ?_);rw[q.len,zs_len];have V6:Vec h6 t i (List.replicate ((n+63)/64) 0):=((V.grow Z).updr (by omega) u5).grow H;exact kbgg q hl hn (b:=I.blks.size) (c:=U.blks.size) (i:=i) (by omega) (by omega) (by omega) (by omega) (by omega) l.length 0 (by omega) h6 _ (G5.trans H) ⟨_,rfl,H.has (C.has b2)⟩ (H.has b5) V6 (by simp) (λm=>by rw[k1h];simp)
end
def andL(n1:Int)(w1:List Nat)(n2:Int)(w2:List Nat):List Nat:=if btR n1 w1&&(btR n2 w2&&decide (n1=n2))then(btL n1 w1).filter (wbit w2)else []
def SetP(h0:AH)(l:List Nat)(v:AV)(h':AH):Prop:=Grow h0 h'/\∃(n:Int)(t:Sl)(w:List Nat)(e:Int),v=.tup [.agg [.i n,t.v],.i e]/\Nats h' t w/\Own h0 t/\btL n w=l
theorem k4k:btL 0 []=[]:=by unfold btL;split<;>rfl
section
variable{h0:AH}{s1 s2:Sl}{w1 w2:List Nat}{n1 n2:Int}
theorem k81(N1:Nats h0 s1 w1)(N2:Nats h0 s2 w2)(hl:w1.length=w2.length)(hs:w1.length<=2000){b1 b2 b3 b4 i:Nat}{t:Sl}{x1 x2:Int}(i1:b1≠i)(i2:b2≠i)(i3:b3≠i)(i4:b4≠i)(h3:h0.blks.size<=b3)(hi:h0.blks.size<=i):∀(k j:Nat),j+k=w1.length->∀(h:AH)(w:List Nat),Grow h0 h->h.has b1 [.i x1,s1.v] ku->h.has b2 [.i x2,s2.v] ku->(∃cs:List AV,cs.length=2/\h.has b3 cs ku)->h.has b4 [.i n1,t.v] ku->Vec h t i w->w.length=w1.length->(∀m,m/64<j->wbit w m=(wbit w1 m&&wbit w2 m))->
  Runs (go (.pt kh3 kpl [(2,.func (.func kfq) [] []),(3,.p (.new b1 0)),(4,.p (.new b2 0)),(6,.p (.new b3 0)),(8,.p (.new b4 0)),(9,.i 0),(35,.i (w1.length:Int)),(36,.i (j:Int))]) h) λv h'=>Grow h0 h'/\∃(t:Sl)(w:List Nat),v=.tup [.agg [.i n1,t.v],.i 0]/\Nats h' t w/\w.length=w1.length/\Own h0 t/\∀m,wbit w m=(wbit w1 m&&wbit w2 m):=by
 intro k
 induction k with
 | zero =>
  intro j hj h w g B1 B2 ⟨cs,C,H⟩ F V I K;obtain rfl:j=w1.length:=by omega
  rw[kxl];refine q0 (qbw (by omega)) (qcn F 0 rfl (qcm F 1 rfl ?_));refine qy H (by rw[C];rfl) λh1 B5 y=>?_;refine qcn B5 0 rfl (qcm B5 1 rfl (qu ⟨g.updr h3 y,t,w,rfl,(V.updr (λe=>i3 e.symm) y).nats,I,V.own hi,λm=>?_⟩));rcases Nat.lt_or_ge (m/64) w1.length with h' | h'
  ·exact K m h'
  ·rw[kye (by omega),kye (w:=w1) h'];rfl
 | succ k ih =>
  intro j hj h w g B1 B2 ⟨cs,C,H⟩ F V I K;have Q:j<w1.length:=by omega
  have U:j<w2.length:=by omega
  obtain⟨r1,e1,e2⟩:=(N1.grow g).rdN Q;obtain⟨r2,e3,e4⟩:=(N2.grow g).rdN U;rw[kxl];refine qz (qbv (by omega)) (qcm F 1 rfl (qcm B1 1 rfl (qw e1 (qw e2 (qcm B2 1 rfl (qw e3 (qw e4 ?_)))))));have a1:w1[j]<18446744073709551616:=N1.lt _ (qb0 Q);have a2:w2[j]<18446744073709551616:=N2.lt _ (qb0 U);refine qw (kbaw _ _ _) (qw (seen rfl) ?_);rw[kr6 a1 a2];refine qbb ((qk h).same F 1 1) ?_;rw[V.len];have hq:j<w.length:=by omega
  have W:w1[j]&&&w2[j]<18446744073709551616:=qbq Nat.and_le_left a1;refine qw (V.idx rfl (kx hq)) (qbf V rfl (kx hq) (kbm W) λh1 V1 y=>?_);rw[ko (by omega)];refine ih (j+1) (by omega) h1 _ (g.updr hi y) (B1.updr i1 y) (B2.updr i2 y) ⟨cs,C,H.updr i3 y⟩ (F.updr i4 y) V1 (by rw[qb4];exact I) λm aa=>?_;rw[kbcm hq];split
  ·rename_i Z;subst Z;rw[Nat.testBit_and];unfold wbit;simp[List.getD,Q,U]
  ·exact K m (by omega)
theorem kbjp(N1:Nats h0 s1 w1)(N2:Nats h0 s2 w2):Runs (go (.fn kh3 [.agg [.i n1,s1.v],.agg [.i n2,s2.v],.func (.func kfq) [] []]) h0) (SetP h0 (andL n1 w1 n2 w2)):=by
 rw[kbak];refine qx λh1 b1 g1=>qx λK b2 g2=>qx λQ b3 g3=>?_;have B1:=g3.has (g2.has b1);have B2:=g3.has b2;have Z:Grow h0 Q:=(g1.trans g2).trans g3;have ae:h0.blks.size<h1.blks.size:=b1.lt;have af:h1.blks.size<K.blks.size:=b2.lt;have ag:K.blks.size<Q.blks.size:=b3.lt;refine qcn B1 0 rfl (qcm B1 1 rfl ?_);refine(koq (N1.grow Z)).call λv h4 ⟨e,g4⟩=>?_;subst e;refine qw (seen rfl) ?_
 have F:∀{h:AH},Grow Q h->andL n1 w1 n2 w2=[]->Runs ((h.puts (Ref.new K.blks.size 0) [.i 0,nV]).bind λH =>
   ((H.cell ((Ref.new K.blks.size 0).add 0)).bind (AV.asInt .i64)).bind λaa=>((H.cell ((Ref.new K.blks.size 0).add 1)).bind AV.asSl).bind λac=>some (.tup [.agg [.i aa,ac.v],.i 1],H)) (SetP h0 (andL n1 w1 n2 w2)):=by
  intro h g e;refine qy (g.has b3) rfl λh' b' u'=>qcn b' 0 rfl (qcm b' 1 rfl (qu ⟨(Z.trans g).updr (by omega) u',0,_,[],1,rfl,qq _,qp _,?_⟩));rw[e,k4k]
 refine qba (λc=>F g4 ?_) λc=>?_
 ·rw[qcf]at c;unfold andL;rw[c];rfl
 rw[qcg]at c;have U:=g4.has B2;refine qcn U 0 rfl (qcm U 1 rfl ?_);refine(koq (N2.grow (Z.trans g4))).call λv h5 ⟨e,g5⟩=>?_;subst e;refine qw (seen rfl) ?_;have y:Grow Q h5:=g4.trans g5;refine qba (λI=>F y ?_) λI=>?_
 ·rw[qcf]at I;unfold andL;rw[c,I];rfl
 rw[qcg]at I;refine qcn (y.has B1) 0 rfl (qcn (y.has B2) 0 rfl ?_);refine qba (λW=>F y ?_) λW=>?_
 ·rw[qcf,qbt]at W;unfold andL;rw[c,I,qbw W];rfl
 rw[qcg,qbu]at W;subst W;obtain⟨p0,p1,p2,p3⟩:=btR_n c;obtain⟨-,-,q2,q3⟩:=btR_n I;obtain⟨z,rfl⟩:∃z:Nat,n1=(z:Int):=⟨n1.toNat,by omega⟩;rw[Int.toNat_natCast]at p2 q2 p3 q3;refine qcn (y.has B1) 0 rfl ?_;refine(kv7 (n:=z) (by omega)).call λv h6 ⟨g6,t,i,e,hi,V⟩=>?_;have hi:h5.blks.size<=i:=hi;subst e;refine qw rfl (qw rfl (qz rfl (qw rfl (qw (seenAt rfl qck) (qw rfl ?_)))));dsimp only;refine qx λh7 b7 g7=>qy b7 rfl λh8 b8 u8=>qcm b8 1 rfl ?_;have s6:i<h6.blks.size:=V.inn;have s5:Q.blks.size<=h5.blks.size:=y.size;have ah:h5.blks.size<=h6.blks.size:=g6.size;have C:Grow Q h8:=((y.trans g6).trans g7).updr (by omega) u8;have V8:Vec h8 t i (List.replicate ((z+63)/64) 0):=(V.grow g7).updr (by omega) u8;rw[V8.len,qb5,<- p2];have:=k81 (n1:=(z:Int)) (x1:=(z:Int)) (x2:=(z:Int)) N1 N2 (by omega) (by omega) (b1:=h0.blks.size) (b2:=h1.blks.size) (b3:=K.blks.size) (b4:=h6.blks.size) (i:=i) (t:=t) (by omega) (by omega) (by omega) (by omega) (by omega) (by omega) w1.length 0 (by omega) h8 _ (Z.trans C) (C.has B1) (C.has B2) ⟨_,rfl,C.has b3⟩ b8 V8 (by rw[qb5,p2]) (λm hm=>absurd hm (Nat.not_lt_zero _));refine this.imp λv h' ⟨g,t',w,e,N,hw,o,hm⟩=>⟨g,(z:Int),t',w,0,e,N,o,?_⟩
 have hR:btR (z:Int) w=true:=btR_of p0 p1 (by rw[Int.toNat_natCast];omega) λm ai ad=>by rw[hm,p3 m (by omega) ad];rfl
 unfold andL btL;rw[hR,c,I,qbv rfl,Int.toNat_natCast];simp only[Bool.and_self,if_true,List.filter_filter];apply List.filter_congr;intro x _;rw[hm,Bool.and_comm]
theorem k8f(V:Nats h0 s1 w1)(W:Nats h0 s2 w2):Runs (go (.fn kps [.agg [.i n1,s1.v],.agg [.i n2,s2.v]]) h0) (SetP h0 (andL n1 w1 n2 w2)):=by rw[kbhx];refine qx λF b1 Z=>qx λh2 b2 H=>qx λh3 b3 C=>?_;have B1:=C.has (H.has b1);have B2:=C.has b2;have y:Grow h0 h3:=(Z.trans H).trans C;refine qcn B1 0 rfl (qcm B1 1 rfl (qcn B2 0 rfl (qcm B2 1 rfl ?_)));refine(kbjp (V.grow y) (W.grow y)).call λv h4 ⟨I,n,t,w,e,he,N,K,hb⟩=>?_;subst he;refine qw rfl (qw rfl (qz rfl (qw rfl (qw (seenAt rfl qck) (qw rfl ?_)))));dsimp only;have s1:h0.blks.size<F.blks.size:=b1.lt;have s2:F.blks.size<h2.blks.size:=b2.lt;refine qy (I.has b3) rfl λh5 Q U=>qcn Q 0 rfl (qcm Q 1 rfl (qu ⟨(y.trans I).updr (by omega) U,n,t,w,e,rfl,N.updr K b3.lt U,K.of_le y,hb⟩))
end
theorem khg{t:Tb}(h:tabR t=true):t.ids.length<=256/\t.cols.length<=16/\t.bins.length=t.cols.length/\∀i,i<t.cols.length->colR t i=true:=by unfold tabR idsR at h;simp only[qb6,qbu,List.all_eq_true,qci,qcf,qbt]at h;exact⟨h.1.1.1.1,by omega,h.1.2,h.2⟩
theorem kmk{t:Tb}{i:Nat}(h:colR t i=true)(C:i<t.cols.length)(F:t.bins.length=t.cols.length):∃y:i<t.bins.length,2<=t.bins[i]/\t.bins[i]<=32/\t.cols[i].length=t.ids.length:=by
 unfold colR at h;have y:i<t.bins.length:=by omega
 simp only[qb6,qbu,qcf,qbt,List.getD,qb1 C,qb1 y,Option.getD_some]at h;exact⟨y,by omega,by omega,h.1.2⟩
def leftP(t:Tb)(f:Nat)(c:Int)(i:Nat):Bool:=decide ((t.cols.getD f []).getD i 0<=c)
def leftR(t:Tb)(f:Nat)(c:Int):List Nat:=(List.range t.ids.length).filter (leftP t f c)
section
variable{h0:AH}{S:Fp}{s1 s2 s3:Sl}{t:Tb}
theorem k6a{s:Sl}{f:Nat}{c:Int}(hf:f<t.cols.length)(hc:t.cols[f].length=t.ids.length)(aa:t.ids.length<=256)(q:Sq EI h0 S s t.cols[f]){b1 b2:Nat}{cs2:List AV}(n1:Sq EI h0 S s1 t.ids)(B1:h0.has b1 [s1.v,s2.v,s3.v] kb5)(B2:h0.has b2 [.i 0,nV] ku){H:AH}(ga:Grow H h0)(I:H.blks.size<=b2):∀(k i:Nat),i+k=t.ids.length->∀(h:AH)(x:Sl)(j:Option Nat),Grow h0 h->LeO h0.blks.size j->GF EI T.int h Fp.no x j (zs ((List.range i).filter (leftP t f c)))->
  Runs (go (.pt kft kmv [(2,.i c),(3,.p (.new b1 0)),(6,.p (.new b2 0)),(8,x.v),(44,s.v),(45,.i (t.ids.length:Int)),(46,.i (i:Int))]) h) λv h'=>Grow H h'/\∃(y:Sl)(w:List Nat),v=.tup [.agg [.i (t.ids.length:Int),y.v],.i 0]/\Nats h' y w/\Own H y/\w.length=(t.ids.length+63)/64/\∀m,wbit w m=decide (m∈leftR t f c):=by
 intro k
 induction k with
 | zero =>
  intro i hi h x j g K V;obtain rfl:i=t.ids.length:=by omega
  rw[kyh];refine q0 (qbw (by omega)) (qcm (g.has B1) 0 rfl ?_);rw[n1.len];refine(k4d (S:=Fp.or (Fp.opt j) Fp.no) (l:=leftR t f c) (n:=t.ids.length) V.sq (λy Q=>?_) (by omega)).call λv h1 ⟨g1,y,w,e,N,hw,o,hm⟩=>?_
  ·unfold leftR at Q;rw[List.mem_filter,qci]at Q;exact Q.1
  subst e;refine qw rfl (qw rfl (qz rfl (qw rfl (qw (seenAt rfl qck) (qw rfl ?_)))));dsimp only;have U:=(g.has B2).lt;refine qy (g1.has (g.has B2)) rfl λh2 C u2=>qcn C 0 rfl (qcm C 1 rfl (qu ⟨?_,y,w,rfl,N.updr o U u2,?_,hw,hm⟩))
  ·exact((ga.trans g).trans g1).updr I u2
  ·exact o.of_le (ga.trans g)
 | succ k ih =>
  intro i hi h x j g K V;have F:i<t.cols[f].length:=by omega
  obtain⟨r,e1,e2⟩:=(q.grow g).int F;rw[q.len,hc]at e1;rw[kyh]
  have hp:leftP t f c i=decide (t.cols[f][i]<=c):=by unfold leftP;simp[List.getD,hf,F]
  have hr:(List.range (i+1)).filter (leftP t f c)=(List.range i).filter (leftP t f c)++if leftP t f c i then [i]else []:=by rw[List.range_succ,List.filter_append];cases hq:leftP t f c i<;>simp[hq]
  have ac:(zs ((List.range i).filter (leftP t f c))).length<=i:=by rw[zs_len];exact qbo (List.length_filter_le _ _) (by simp)
  refine qz (qbv (by omega)) ?_;rw[q.len,hc];refine qw e1 (qw e2 (qba (λW=>?_) λW=>?_))
  ·refine qx λh2 b2 Z=>?_;refine qw (kfe b2 (by rw[kja];rfl)) ?_;have V2:=V.grow Z;obtain⟨y,h3,e3,V3,u3⟩:=V2.push (T:=Fp.no) (cs:=[.i (i:Int)]) (x:=(i:Int)) rfl NotO.no (knv (by omega));refine qw e3 (qw qck ?_);rw[ko (by omega)];refine ih (i+1) (by omega) h3 y (some h2.blks.size) ((g.trans Z).updo K u3) (show _<=_ from(g.trans Z).size) ?_;rw[hr,hp,W,if_pos rfl,zs_app];exact V3.mono (λj x=>x.1.elim id id) NotO.no
  ·rw[ko (by omega)];refine ih (i+1) (by omega) h x j g K ?_;rw[hr,hp,W]
   simpa using V
theorem k7y(n:TabAt h0 S s1 s2 s3 t)(hR:tabR t=true){f c:Nat}(Q:f<t.cols.length)(hc:(c:Int)<t.bins.getD f 0):Runs (go (.fn kft [.agg [s1.v,s2.v,s3.v],.i (f:Int),.i (c:Int)]) h0) λv h'=>Grow h0 h'/\∃(y:Sl)(w:List Nat),v=.tup [.agg [.i (t.ids.length:Int),y.v],.i 0]/\Nats h' y w/\Own h0 y/\w.length=(t.ids.length+63)/64/\∀m,wbit w m=decide (m∈leftR t f (c:Int)):=by
 obtain⟨H,V,F,I⟩:=khg hR;obtain⟨hb,h2,ac,K⟩:=kmk (I f Q) Q F;rw[kbee];refine qx λh1 b1 W=>qx λh2 b2 Z=>?_;have B1:=Z.has b1;refine qcm B1 0 rfl (qcm B1 1 rfl (qcm B1 2 rfl ?_));refine(kv0 (n.grow (W.trans Z))).call λv h3 ⟨e,g3⟩=>?_;subst e;rw[hR];refine qw (seen rfl) (q0 rfl (q0 (qbw (by omega)) ?_));have U:Grow h0 h3:=(W.trans Z).trans g3;have C:=g3.has B1;refine qcm C 2 rfl ?_;rw[n.cols.len];refine q0 (qbw (by omega)) (q0 (qbw (by omega)) (qcm C 1 rfl ?_));obtain⟨r,e1,e2⟩:=(n.bins.grow U).int hb;have aa:t.bins.getD f 0=t.bins[f]:=by simp[List.getD,hb]
 rw[aa]at hc;refine qw e1 (qw e2 (q0 (qbw (by omega)) (qcm C 2 rfl ?_)));obtain⟨r2,s',e3,e4,-,q⟩:=(n.cols.grow U).sl Q;refine qw e3 (qw e4 ?_);rw[q.len,K];have ad:=b1.lt;exact k6a (cs2:=[]) Q K H q ((n.grow U).ids) C (g3.has b2) U (by have:=W.size;omega) t.ids.length 0 (by omega) h3 _ none (qk h3) trivial (GF.none _ _ _ _)
end
def nb(t:Tb)(f:Nat):Nat:=(t.bins.getD f 0).toNat-1
def cutsTo(t:Tb)(f:Nat):List (Nat×Nat):=(List.range f).flatMap λf=>(List.range (nb t f)).map λc=>(f,c)
def cutsL(t:Tb):List (Nat×Nat):=if tabR t then cutsTo t t.cols.length else []
def rowsL(t:Tb)(n:Int)(w:List Nat)(p:Nat×Nat):List Nat:=if btR n w&&decide ((t.ids.length:Int)=n)then(leftR t p.1 (p.2:Int)).filter (wbit w)else []
theorem kwt(t:Tb)(f:Nat):cutsTo t (f+1)=cutsTo t f++(List.range (nb t f)).map λc=>(f,c):=by unfold cutsTo;rw[List.range_succ,List.flatMap_append];simp
theorem kt6(t:Tb):∀f:Nat,(∀i,i<f->nb t i<=31)->(cutsTo t f).length<=31*f
 | 0,_=>by simp[cutsTo]
 | f+1,h=>by rw[kwt,qbx,qby,qch];have:=kt6 t f λi y=>h i (by omega);have:=h f (by omega);omega
section
variable{S:Fp}{s1 s2 s3 s:Sl}{t:Tb}{n:Int}{w:List Nat}{l b1 b2:Nat}
structure EachOk(S:Fp)(s1 s2 s3 s:Sl)(t:Tb)(n:Int)(w:List Nat)(b1 b2:Nat)(h:AH):Prop where
 tab:Tab h
 at':TabAt h S s1 s2 s3 t
 nats:Nats h s w
 has1:h.has b1 [s1.v,s2.v,s3.v] kb5
 has2:h.has b2 [.i n,s.v] ku
theorem EachOk.grow{h h':AH}(e:EachOk S s1 s2 s3 s t n w b1 b2 h)(g:Grow h h'):EachOk S s1 s2 s3 s t n w b1 b2 h':=⟨e.tab.grow g,e.at'.grow g,e.nats.grow g,g.has e.has1,g.has e.has2⟩
theorem k8a{h:AH}(E:EachOk S s1 s2 s3 s t n w b1 b2 h)(hR:tabR t=true){f c:Nat}(hf:f<t.cols.length)(hc:(c:Int)<t.bins.getD f 0){K:Sl->AH->Option (AV×AH)}{P:AV->AH->Prop}(H:∀(y:Sl)(j:Option Nat)(h':AH),Grow h h'->GF EI T.int h' Fp.no y j (zs (rowsL t n w (f,c)))->Runs (K y h') P) :
  Runs (((h.cell ((Ref.new b1 0).add 0)).bind AV.asSl).bind λag =>
   ((h.cell ((Ref.new b1 0).add 1)).bind AV.asSl).bind λah =>
   ((h.cell ((Ref.new b1 0).add 2)).bind AV.asSl).bind λai =>
   (go (.fn kft [.agg [ag.v,ah.v,ai.v],.i (f:Int),.i (c:Int)]) h).bind λW =>
   (AV.asTup2 W.1).bind λZ =>
   (AV.asAgg Z.1).bind λF =>
   cond (Nat.beq F.length 2) (
   ((F[0]?).bind (AV.asInt .i64)).bind λaj =>
   ((F[1]?).bind AV.asSl).bind λak =>
   ((some Z.2).bind (AV.asInt .i64)).bind λbb =>
   newK W.2 (.cells [.i 0,nV] ku) λC al =>
   (al.puts C [.i aj,ak.v]).bind λI =>
   ((I.cell (C.add 0)).bind (AV.asInt .i64)).bind λam =>
   ((I.cell (C.add 1)).bind AV.asSl).bind λan =>
   ((I.cell ((Ref.new b2 0).add 0)).bind (AV.asInt .i64)).bind λap =>
   ((I.cell ((Ref.new b2 0).add 1)).bind AV.asSl).bind λaq =>
   (go (.fn kps [.agg [.i am,an.v],.agg [.i ap,aq.v]]) I).bind λaa =>
   (AV.asTup2 aa.1).bind λac =>
   (AV.asAgg ac.1).bind λQ =>
   cond (Nat.beq Q.length 2) (
   ((Q[0]?).bind (AV.asInt .i64)).bind λar =>
   ((Q[1]?).bind AV.asSl).bind λau =>
   ((some ac.2).bind (AV.asInt .i64)).bind λbc =>
   (aa.2.puts C [.i ar,au.v]).bind λU =>
   ((U.cell (C.add 0)).bind (AV.asInt .i64)).bind λaw =>
   ((U.cell (C.add 1)).bind AV.asSl).bind λax =>
   (go (.fn kn9 [.agg [.i aw,ax.v]]) U).bind λad =>
   ((some ad.1).bind AV.asSl).bind λay=>K ay ad.2) none) none) P:=by
 refine qw (E.has1.rd 0 rfl qck) (qw (E.has1.rd 1 rfl qck) (qw (E.has1.rd 2 rfl qck) ?_));refine(k7y E.at' hR hf hc).call λv h1 ⟨g1,y1,w1,e,N1,o1,l1,m1⟩=>?_;subst e;refine qw rfl (qw rfl (qz rfl (qw rfl (qw (seenAt rfl qck) (qw rfl ?_)))));dsimp only;refine qx λh2 b3 g2=>qy b3 rfl λh3 b4 u3=>?_;have G3:Grow h1 h3:=g2.updr (qbn _) u3;have E3:=E.grow (g1.trans G3);refine qcn b4 0 rfl (qcm b4 1 rfl (qw (E3.has2.rd 0 rfl qcl) (qw (E3.has2.rd 1 rfl qck) ?_)));refine(k8f (N1.grow G3) E3.nats).call λv h4 ⟨g4,n4,y4,w4,e4,he,N4,o4,hb⟩=>?_;subst he;refine qw rfl (qw rfl (qz rfl (qw rfl (qw (seenAt rfl qck) (qw rfl ?_)))));dsimp only;refine qy (g4.has b4) rfl λh5 b5 u5=>qcn b5 0 rfl (qcm b5 1 rfl ?_);have G5:Grow h1 h5:=(G3.trans g4).updr (qbn _) u5;have ae:Grow h h5:=g1.trans G5;refine(k5h (n:=n4) (E.tab.grow ae) (N4.updr o4 b4.lt u5)).call λv h6 ⟨g6,y6,j6,e,lj,V⟩=>?_;subst e;refine qw (seen qck) ?_;refine H y6 j6 h6 (ae.trans g6) ?_;rw[hb]at V;have ba:=(khg hR).1
 have az:∀i,t.ids.length<=i->wbit w1 i=false:=λi hi=>by rw[m1,qbw];intro hm;unfold leftR at hm;rw[List.mem_filter,qci]at hm;omega
 have af:btR (t.ids.length:Int) w1=true:=btR_of (by omega) (by omega) (by rw[Int.toNat_natCast];exact l1) λi _ hi=>az i (by rw[Int.toNat_natCast]at hi;exact hi)
 have a0:btL (t.ids.length:Int) w1=leftR t f (c:Int):=by unfold btL;rw[af,if_pos rfl,Int.toNat_natCast];unfold leftR;apply List.filter_congr;intro i hi;rw[m1];unfold leftR;rw[Bool.eq_iff_iff,qbu,List.mem_filter];exact⟨λh=>h.2,λh=>⟨hi,h⟩⟩
 have:andL (t.ids.length:Int) w1 n w=rowsL t n w (f,c):=by unfold andL rowsL;rw[af,a0,Bool.true_and]
 rw[this]at V;exact V
theorem kbdb{Inv:List (Nat×Nat)->AH->Prop}(hE:∀d h,Inv d h->EachOk S s1 s2 s3 s t n w b1 b2 h)(hG:∀d h h',Inv d h->Grow h h'->Inv d h')(hR:tabR t=true)
  (F:∀(d:List (Nat×Nat))(f c:Nat)(h:AH)(y:Sl)(j:Option Nat),f<t.cols.length->(c:Int)<t.bins.getD f 0->d.length<1000->Inv d h->GF EI T.int h Fp.no y j (zs (rowsL t n w (f,c)))->Runs (go (.round l [.agg [.i (f:Int),.i (c:Int)],y.v]) h) λv h'=>v=.bool true/\Inv (d++[(f,c)]) h')
  {f:Nat} (Z:f<t.cols.length) {P:AV->AH->Prop} (hP:∀h,Inv (cutsTo t (f+1)) h->Runs (go (.pt kby kkw [(0,.func (.yield l) [] []),(1,.p (.new b1 0)),(2,.p (.new b2 0)),(10,s2.v),(11,.i (t.bins.length:Int)),(12,.i ((f+1:Nat):Int))]) h) P) :
  ∀(k c:Nat),c+k=nb t f->∀h,Inv (cutsTo t f++(List.range c).map λc=>(f,c)) h->
  Runs (go (.pt kby klx [(0,.func (.yield l) [] []),(1,.p (.new b1 0)),(2,.p (.new b2 0)),(4,.i (f:Int)),(10,s2.v),(11,.i (t.bins.length:Int)),(12,.i (f:Int)),(18,.i (nb t f:Int)),(19,.i (c:Int))]) h) P:=by
 obtain⟨ae,aa,C,H⟩:=khg hR;obtain⟨hb,ai,af,aj⟩:=kmk (H f Z) Z C;have U:t.bins.getD f 0=t.bins[f]:=by simp[List.getD,hb]
 have ak:(nb t f:Int)=t.bins[f]-1:=by unfold nb;rw[U];omega
 have ag:(cutsTo t f).length<=31*f:=kt6 t f λi hi=>by
  obtain⟨ac,al,ah,-⟩:=kmk (H i (by omega)) (by omega) C;have:t.bins.getD i 0=t.bins[i]:=by simp[List.getD,ac]
  unfold nb;rw[this];omega
 intro k
 induction k with
 | zero =>
  intro c hc h I;obtain rfl:c=nb t f:=by omega
  rw[<- kwt]at I;rw[k1d];refine q0 (qbw (by omega)) ?_;rw[ko (by omega)];exact hP h I
 | succ k ih =>
  intro c hc h I;rw[k1d];refine qz (qbv (by omega)) ?_;have W:(c:Int)<t.bins.getD f 0:=by rw[U];omega
  refine k8a (hE _ _ I) hR Z W (K:=λy h'=>(go (.round l [.agg [.i (f:Int),.i (c:Int)],y.v]) h').bind λQ=>((some Q.1).bind AV.asBool).bind λad=>cond (!ad) (some (.tup [],Q.2)) (go (.pt kby klx [(0,.func (.yield l) [] []),(1,.p (.new b1 0)),(2,.p (.new b2 0)),(4,.i (f:Int)),(10,s2.v),(11,.i (t.bins.length:Int)),(12,.i (f:Int)),(18,.i (nb t f:Int)),(19,.i (IntKind.wrap .i64 ((c:Int)+1)))]) Q.2)) λy j h1 g1 V=>?_;refine(F _ f c h1 y j Z W ?_ (hG _ _ _ I g1) V).call λv h2 ⟨e,I2⟩=>?_
  ·rw[qbx,qby,qch];omega
  subst e;refine qw (seen rfl) (q0 rfl ?_);rw[ko (by omega)];refine ih (c+1) (by omega) h2 ?_;rw[List.range_succ,List.map_append,<- List.append_assoc];exact I2
theorem kbd7{Inv:List (Nat×Nat)->AH->Prop}(Q:∀d h,Inv d h->EachOk S s1 s2 s3 s t n w b1 b2 h)(hG:∀d h h',Inv d h->Grow h h'->Inv d h')(W:tabR t=true)
  (C:∀(d:List (Nat×Nat))(f c:Nat)(h:AH)(y:Sl)(j:Option Nat),f<t.cols.length->(c:Int)<t.bins.getD f 0->d.length<1000->Inv d h->GF EI T.int h Fp.no y j (zs (rowsL t n w (f,c)))->Runs (go (.round l [.agg [.i (f:Int),.i (c:Int)],y.v]) h) λv h'=>v=.bool true/\Inv (d++[(f,c)]) h') :
  ∀(k f:Nat),f+k=t.cols.length->∀h,Inv (cutsTo t f) h->
  Runs (go (.pt kby kkw [(0,.func (.yield l) [] []),(1,.p (.new b1 0)),(2,.p (.new b2 0)),(10,s2.v),(11,.i (t.bins.length:Int)),(12,.i (f:Int))]) h) λv h'=>v=.tup []/\Inv (cutsTo t t.cols.length) h':=by
 obtain⟨Z,U,F,K⟩:=khg W;intro k
 induction k with
 | zero =>
  intro f hf h I;obtain rfl:f=t.cols.length:=by omega
  rw[k0t];exact q0 (qbw (by omega)) (qu ⟨rfl,I⟩)
 | succ k ih =>
  intro f hf h I;have H:f<t.cols.length:=by omega
  obtain⟨hb,ac,aa,ad⟩:=kmk (K f H) H F;obtain⟨r,e1,e2⟩:=(Q _ _ I).at'.bins.int hb;rw[(Q _ _ I).at'.bins.len]at e1;rw[k0t];refine qz (qbv (by omega)) ?_;rw[(Q _ _ I).at'.bins.len];refine qw e1 (qw e2 ?_);have V:t.bins.getD f 0=t.bins[f]:=by simp[List.getD,hb]
  rw[wrap64 (by omega) (by omega),show t.bins[f]-1=(nb t f:Int)from by unfold nb;rw[V];omega];exact kbdb Q hG W C H (λh I=>ih (f+1) (by omega) h I) (nb t f) 0 (by omega) h (by simpa using I)
theorem kxm{Inv:List (Nat×Nat)->AH->Prop}(F:∀d h,Inv d h->EachOk S s1 s2 s3 s t n w b1 b2 h)(K:∀d h h',Inv d h->Grow h h'->Inv d h')(H:tabR t=true)
  (C:∀(d:List (Nat×Nat))(f c:Nat)(h:AH)(y:Sl)(j:Option Nat),f<t.cols.length->(c:Int)<t.bins.getD f 0->d.length<1000->Inv d h->GF EI T.int h Fp.no y j (zs (rowsL t n w (f,c)))->Runs (go (.round l [.agg [.i (f:Int),.i (c:Int)],y.v]) h) λv h'=>v=.bool true/\Inv (d++[(f,c)]) h') {h:AH} (I:Inv [] h) :
  Runs (go (.fn kby [.func (.yield l) [] [],.p (.new b1 0),.p (.new b2 0)]) h) λv h'=>v=.tup []/\Inv (cutsL t) h':=by
 rw[k5f];refine qw ((F _ _ I).has1.rd 1 rfl qck) ?_;rw[(F _ _ I).at'.bins.len];unfold cutsL;rw[H,if_pos rfl];exact kbd7 F K H C t.cols.length 0 (by omega) h I
end
@[reducible] def EP:Ef (Int×Int):=Ef.pair EI EI
theorem EP.of{h:AH}{S:Fp}(a b:Int):EP.has h S [.i a,.i b] (a,b):=⟨[.i a],[.i b],rfl,rfl,rfl⟩
theorem Sq.two{h:AH}{S:Fp}{s:Sl}{xs:List (Int×Int)}(n:Sq EP h S s xs){i:Nat}(y:i<xs.length):∃r:Ref,idx s.ref s.len (i:Int) 2=some r/\(h.cell (r.add 0)).bind (AV.asInt .i64)=some xs[i].1/\(h.cell (r.add 1)).bind (AV.asInt .i64)=some xs[i].2:=by obtain⟨r,cs,C,⟨F,H,rfl,a1,a2⟩,l⟩:=n.at (kgy y);have a1:F=[.i xs[i].1]:=a1;have a2:H=[.i xs[i].2]:=a2;subst a1;subst a2;rw[n.len];exact⟨r,C,l.rd (qk _) 0 rfl qcl,l.rd (qk _) 1 rfl qcl⟩
structure Lp{α:Type}(E:Ef α)(elem tl:TypeId)(note:LoopState->ABlk)(hs:AH)(bo l:Nat)(xs:List α)(h:AH):Prop where
 md:Md (λm=>m=bo\/m=l) hs h
 note:h.blks[l]?=some (note .ready)
 out:∃(t:Sl)(j:Option Nat),h.has bo [t.v] tl/\LeO hs.blks.size j/\GF E elem h Fp.no t j xs
section
variable{α:Type}{E:Ef α}{elem tl:TypeId}{note:LoopState->ABlk}{hs h:AH}{bo l:Nat}{xs:List α}
theorem Lp.grow{h':AH}(L:Lp E elem tl note hs bo l xs h)(g:Grow h h'):Lp E elem tl note hs bo l xs h':=⟨L.md.thenG g,(g.blk l (qca.1 L.note).1).trans L.note,L.out.imp λ_ ⟨j,B,y,V⟩=>⟨j,g.has B,y,V.grow g⟩⟩
theorem kbad{t:Sl}{j:Option Nat}{x:α}{cs:List AV}{k:Nat}{e':TypeId}(B:h.has bo [t.v] tl)(hn:h.blks[l]?=some (note .busy))(y:bo≠l)(H:bo<hs.blks.size)(I:l<hs.blks.size)(K:hs.blks.size<=h.blks.size)(lj:LeO hs.blks.size j)(V:GF E elem h Fp.no t j xs)(hx:E.has h Fp.no cs x)(hg:growOk Pg (xs.length+1) elem E.w=true)(bx:h.has k cs e')(Q:1*Pg.cellsOf elem=cs.length)(C:∀h',h'.blks[l]?=some (note .busy)->kci l none h'=some (.bool true,h'.setBlk l (note .ready))) :
  Runs ((kcc Pg elem ((⟨some (.new k 0),1,.is 1⟩:Sl).v) h).bind λp=>(kbi Pg t p.1 p.2 elem E.w h).bind λq=>(AV.asSl q.1).bind λU=>(q.2.puts (.new bo 0) [U.v]).bind λW=>kci l none W) λv h'=>v=.bool true/\Md (λm=>m=bo\/m=l\/j=some m) h h'/\h'.blks[l]?=some (note .ready)/\∃(t:Sl)(j:Option Nat),h'.has bo [t.v] tl/\LeO hs.blks.size j/\GF E elem h' Fp.no t j (xs++[x]):=by
 refine qw (kfe bx Q) ?_;obtain⟨t',F,e3,V3,u3⟩:=V.push (T:=Fp.no) hx NotO.no hg;refine qw e3 (qw qck ?_);have Z:Md (Fp.opt j) h F:=u3.md λk e=>e;have no:∀{m:Nat},m<hs.blks.size->¬Fp.opt j m:=λhm e=>kek hm lj _ e rfl;have B3:F.has bo [t.v] tl:=Z.has B (no H);have n3:F.blks[l]?=some (note .busy):=Z.get hn (no I);refine qy B3 rfl λh4 B4 u4=>?_;have n4:h4.blks[l]?=some (note .busy):=(u4.blk l (λe=>y e.symm) (qca.1 n3).1).trans n3;rw[C _ n4];have u5:Upd h4 (h4.setBlk l (note .ready)) l:=qbm _;refine qu ⟨rfl,?_,qbl (qca.1 n4).1,t',some h.blks.size,B4.updr y u5,K,?_⟩
 ·refine((Z.mono λm _ e=>.inr (.inr e)).trans (u4.md (.inl rfl))).trans (u5.md (.inr (.inl rfl)))
 ·have V4:GF E elem F Fp.no t' (some h.blks.size) (xs++[x]):=V3.mono (λj x=>x.1.elim id id) NotO.no;exact(V4.upd u4 Fp.not_no λk e=>by cases e;omega).upd u5 Fp.not_no λk e=>by cases e;omega
end
theorem EachOk.md{S T:Fp}{s1 s2 s3 s:Sl}{t:Tb}{n:Int}{w:List Nat}{b1 b2:Nat}{h h':AH}(e:EachOk S s1 s2 s3 s t n w b1 b2 h)(m:Md T h h')(d:Dis S T)(y:∀j,¬Av s j w->S j)(n1:¬T b1)(n2:¬T b2):EachOk S s1 s2 s3 s t n w b1 b2 h':=⟨e.tab.md m,e.at'.md m d,e.nats.mdE y m d,m.has e.has1 n1,m.has e.has2 n2⟩
theorem TabAt.bound{h:AH}{S:Fp}{s1 s2 s3:Sl}{t:Tb}(n:TabAt h S s1 s2 s3 t):TabAt h (Fp.below h.blks.size) s1 s2 s3 t:=⟨n.ids.bound.mono λ_ x=>x.2,n.bins.bound.mono λ_ x=>x.2,n.cols.bound.mono λ_ x=>x.2⟩
section
variable{h0:AH}{S:Fp}{s1 s2 s3:Sl}{t:Tb}
end
def faultH(t:Tb)(n:Int)(w:List Nat)(m:Int):Int:=if !tabR t then 20 else if !btR n w then 1 else if !decide (n=(t.ids.length:Int))then 1 else if !decide (m=(t.ids.length:Int))then 1 else 0
theorem kya{t:Tb}{n:Int}{w:List Nat}{m:Int}(h:faultH t n w m=0):tabR t=true/\btR n w=true/\n=(t.ids.length:Int)/\m=(t.ids.length:Int):=by
 unfold faultH at h
 grind
def sumG(g:List Int)(l:List Nat)(a:Int):Int:=l.foldl (λa i=>IntKind.wrap .i64 (a+g.getD i 0)) a
def sumsL(g:List Int)(R:Nat×Nat->List Nat)(l:List (Nat×Nat)):List (Int×Int):=l.map λp=>(sumG g (R p) 0,((R p).length:Int))
theorem kzc{n:Nat}(h:n<=1000000):growOk Pg n kw 2=true:=by
 unfold growOk;rw[k9z,kbh3];have y:n*16<=kbb:=by simp only[kbb];omega
 have C:n*2<=kbb:=by simp only[kbb];omega
 have F:n<=kbb:=by simp only[kbb];omega
 simp[y,C,F]
theorem k08{t:Tb}{n:Int}{w:List Nat}{p:Nat×Nat}:∀x∈rowsL t n w p,x<t.ids.length:=by
 intro x y;unfold rowsL at y;split at y
 ·rw[List.mem_filter]at y;have:=y.1;unfold leftR at this;rw[List.mem_filter,qci]at this;exact this.1
 ·simp at y
theorem kw4{t:Tb}{n:Int}{w:List Nat}{p:Nat×Nat}:(rowsL t n w p).length<=t.ids.length:=by
 unfold rowsL;split
 ·refine qbo (List.length_filter_le _ _) ?_;unfold leftR;exact qbo (List.length_filter_le _ _) (by simp)
 ·simp
section
variable{h0:AH}{S:Fp}{s1 s2 s3 s u:Sl}{t:Tb}{n:Int}{w:List Nat}{g:List Int}
theorem k3e(q:TabAt h0 S s1 s2 s3 t)(N:Nats h0 s w){m:Int}:Runs (go (.fn kqy [.agg [s1.v,s2.v,s3.v],.agg [.i n,s.v],.i m]) h0) λv h'=>v=.i (faultH t n w m)/\Grow h0 h':=by rw[k4s];refine qx λV b1 U=>qx λW b2 Q=>?_;have B1:=Q.has b1;have F:=U.trans Q;refine qcm B1 0 rfl (qcm B1 1 rfl (qcm B1 2 rfl ?_));refine(kv0 (q.grow F)).call λv Z ⟨e,y⟩=>?_;subst e;unfold faultH;refine qw (seen rfl) (qba (λc=>qu ⟨by rw[if_pos c],F.trans y⟩) λc=>?_);rw[if_neg (by rw[c];simp)];refine qcn (y.has b2) 0 rfl (qcm (y.has b2) 1 rfl ?_);refine(koq (N.grow (F.trans y))).call λv h4 ⟨e,I⟩=>?_;subst e;have H:=(F.trans y).trans I;have K:=I.has (y.has b2);have C:=I.has (y.has B1);refine qw (seen rfl) (qba (λc=>qu ⟨by rw[if_pos c],H⟩) λc=>?_);rw[if_neg (by rw[c];simp)];refine qcn K 0 rfl (qcm C 0 rfl ?_);rw[q.ids.len];refine qba (λc=>qu ⟨by rw[if_pos c],H⟩) λc=>?_;rw[if_neg (by rw[c];simp)];refine qcm C 0 rfl ?_;rw[q.ids.len];refine qba (λc=>qu ⟨by rw[if_pos c],H⟩) λc=>?_;rw[if_neg (by rw[c];simp)];exact qu ⟨rfl,H⟩
theorem kbe8(q:Sq EI h0 S u g):Runs (go (.fn kdu [u.v,.func (.func kds) [] []]) h0) λv h'=>v=.bool (g.any λx=>decide (x < -1048576)||decide (x>1048576))/\Grow h0 h':=by
 rw[kbi9];refine Runs.contains (xs:=g) ?_;rw[kbh0,q.len];refine kl1 (n:=g.length) (G:=λz h=>go (.pt kbp kcq [(0,u.v),(1,.func (.func kds) [] []),(7,.i (g.length:Int)),(8,.i z)]) h) (λi h P H y C F=>?_) (λh y=>?_) g.length 0 (by omega) (qk h0) (λj Q=>by omega)
 ·obtain⟨r,I,K⟩:=(q.grow y).int H;rw[qb1 H]at C F;simp only[Option.any_some]at C F;show Runs (go _ _) _;rw[k3s];refine qz (qbv (by omega)) (qw I (qw K ?_))
  have key:go (.fn kds [.i g[i]]) h=some (.bool (decide (g[i] < -1048576)||decide (g[i]>1048576)),h):=by rw[kbh5];cases decide (g[i] < -1048576)<;>rfl
  refine qw key (qw (seen rfl) ?_);rw[ko (by have:=q.short;omega)];exact qba (λc=>qu (C h y c)) λc=>F _ y c
 ·rw[k3s,condF (qbw (by omega))]
noncomputable def pNote(s1 s2 s3:Sl)(n:Int)(s u:Sl)(m:Int)(b1 b2 b3 bo:Nat)(g:AV)(st:LoopState):ABlk:=kc9 kuz kc5 0 st none [(0,.agg [s1.v,s2.v,s3.v]),(1,.agg [.i n,s.v]),(2,u.v),(3,.p (.new b1 0)),(4,.p (.new b2 0)),(5,.p (.new b3 0)),(6,nV),(7,.i 0),(8,.i 0),(9,.p (.new bo 0)),(15,.agg [s1.v,s2.v,s3.v]),(16,.agg [.i n,s.v]),(17,u.v),(18,.i m),(19,.i 0),(20,.i 0),(21,.bool false),(23,u.v),(24,.bool false),(25,.agg [s1.v,s2.v,s3.v]),(26,.agg [.i n,s.v]),(27,g)]
theorem k5j{note:LoopState->ABlk}{hs:AH}{b3 bo l F:Nat}{x4 y:Sl}{j jo:Option Nat}{e3:TypeId}{R:List Nat}{xs:List (Int×Int)}{to:Sl}(aa:bo≠l)(ac:bo<hs.blks.size)(ad:l<hs.blks.size)(h3:b3<hs.blks.size)(hx:hs.blks.size<=F)(ae:LeO hs.blks.size jo)(af:∀k,jo=some k->k≠F)(ag:∀x∈R,x<g.length)(hR:R.length<=300)(aj:xs.length<1000)
  (K:∀h',h'.blks[l]?=some (note .busy)->kci l none h'=some (.bool true,h'.setBlk l (note .ready))):∀(k i:Nat),i+k=R.length->∀(h:AH)(a:Int),hs.blks.size<=h.blks.size->(∀k,j=some k->k≠F)->GF EI T.int h Fp.no y j (zs R)->h.has b3 [u.v] e3->(∃S:Fp,¬S F/\Sq EI h S u g)->h.has F [.i a,.i (R.length:Int)] kw->h.blks[l]?=some (note .busy)->h.has bo [to.v] khv->GF EP kw h Fp.no to jo xs->
  Runs (go (.rpt l kc5 kn8 [(5,.p (.new b3 0)),(6,x4.v),(7,.i 0),(9,.p (.new bo 0)),(12,.p (.new F 0)),(33,y.v),(34,.i (R.length:Int)),(35,.i (i:Int))]) h) λv h'=>v=.bool true/\Md (λm=>m=bo\/m=l\/jo=some m\/m=F) h h'/\h'.blks[l]?=some (note .ready)/\∃(t:Sl)(j:Option Nat),h'.has bo [t.v] khv/\LeO hs.blks.size j/\GF EP kw h' Fp.no t j (xs++[(sumG g (R.drop i) a,(R.length:Int))]):=by
 intro k
 induction k with
 | zero =>
  intro i hi h a H hj V B3 Q U W Bo Vo;rw[k3p];refine q0 (qbw (by omega)) (qw (Bo.rd0 rfl qck) (qcn U 0 rfl (qcn U 1 rfl ?_)));refine qx λh1 b1 Z=>?_;have n1:=(Z.blk l (qca.1 W).1).trans W;have:=kbad (note:=note) (hs:=hs) (E:=EP) (x:=(a,(R.length:Int))) (Z.has Bo) n1 aa ac ad (qbo H Z.size) ae (Vo.grow Z) (EP.of _ _) (kzc (by omega)) b1 (by rw[k27];rfl) K;refine this.imp λv h' ⟨e,m5,n5,o5⟩=>⟨e,(Z.thenM m5).mono λm _ x=>by rcases x with x | x | x<;>simp[x],n5,?_⟩;rw[List.drop_eq_nil_of_le (by omega)];exact o5
 | succ k ih =>
  intro i hi h a H hj V B3 ⟨S,hS,Q⟩ U W Bo Vo;have I:i<R.length:=by omega
  have hz:i<(zs R).length:=by rw[zs_len];exact I
  obtain⟨r,e1,e2⟩:=V.sq.int hz;have ah:(zs R)[i]=((R[i]:Nat):Int):=by simp[zs]
  have hg:=ag _ (qb0 I);obtain⟨r2,e4,e5⟩:=Q.int hg;rw[k3p];refine qz (qbv (by omega)) (qw e1 (qw e2 (qcn U 0 rfl (qw (B3.rd0 rfl qck) ?_))));rw[ah];refine qw e4 (qw e5 ?_);refine Runs.putAt (o:=0) U (by simp) (cs':=[.i (IntKind.wrap .i64 (a+g[R[i]])),.i (R.length:Int)]) rfl λh1 ai C=>?_;rw[ko (by omega)];have:=ih (i+1) (by omega) h1 (IntKind.wrap .i64 (a+g[R[i]])) (qbo H C.size) hj (V.upd C Fp.not_no hj) (B3.updr (by omega) C) ⟨S,hS,Q.upd hS C⟩ ai ((C.blk l (by omega) (qca.1 W).1).trans W) (Bo.updr (by omega) C) (Vo.upd C Fp.not_no af);refine this.imp λv h' ⟨e,m,n',o⟩=>⟨e,(C.md (.inr (.inr (.inr rfl)))).trans m,n',?_⟩;have hd:R.drop i=R[i]::R.drop (i+1):=qcd I;rw[hd];unfold sumG at o|-;rw[List.foldl_cons];have:g.getD R[i] 0=g[R[i]]:=by simp[List.getD,hg]
  rw[this];exact o
end
def oddG(g:List Int):Bool:=g.any λx=>decide (x < -1048576)||decide (x>1048576)
def plainH(t:Tb)(n:Int)(w:List Nat)(g:List Int):List (Int×Int)×Int:=if faultH t n w (g.length:Int)=0 then if oddG g then([],1)else(sumsL g (rowsL t n w) (cutsL t),0)else([],faultH t n w (g.length:Int))
section
variable{h0:AH}{S:Fp}{s1 s2 s3 s u:Sl}{t:Tb}{n:Int}{w:List Nat}{g:List Int}
theorem k77{hs h:AH}{b1 b2 b3 bo l:Nat}{gv:AV}{m:Int}{d:List (Nat×Nat)}{f c:Nat}{y:Sl}{j:Option Nat}(W:bo≠l)(af:bo<hs.blks.size)(Z:l<hs.blks.size)(h3:b3<hs.blks.size)(ar:b3≠bo)(ag:b3≠l)(hd:d.length<1000)(hb:g.length=t.ids.length)(aq:t.ids.length<=256)(B3:hs.has b3 [u.v] kcj){N0:Nat}(au:N0<=bo)(aw:N0<=l)(ax:N0<=hs.blks.size)(Q:Sq EI hs (Fp.below N0) u g)
  (I:Lp EP kw khv (pNote s1 s2 s3 n s u m b1 b2 b3 bo gv) hs bo l (sumsL g (rowsL t n w) d) h) (V:GF EI T.int h Fp.no y j (zs (rowsL t n w (f,c)))):Runs (go (.round l [.agg [.i (f:Int),.i (c:Int)],y.v]) h) λv h'=>v=.bool true/\Lp EP kw khv (pNote s1 s2 s3 n s u m b1 b2 b3 bo gv) hs bo l (sumsL g (rowsL t n w) (d++[(f,c)])) h':=by
 obtain⟨M,hn,to,jo,Bo,H,Vo⟩:=I;have ah:l<h.blks.size:=(qca.1 hn).1;have ay:=M.size;have ai:h.has b3 [u.v] kcj:=M.has B3 (by omega)
 have Qh:Sq EI h (Fp.below N0) u g:=Q.md M λk a b=>by have a:k<N0:=a;rcases b with rfl | rfl<;>omega
 rw[k83 l none _ _ _ _ _ _ _ _ _ _ _ _ _ _ _ _ _ _ _ _ _ _ _ _ _ _ _ _ _ _ _ _ _ _ hn,kq2 (h:=h) hn,qbr];generalize hq:h.setBlk l _=K;have U:Upd h K l:=by rw[<- hq];exact qbm _
 have n1:K.blks[l]?=some (pNote s1 s2 s3 n s u m b1 b2 b3 bo gv .busy):=by rw[<- hq];exact qbl ah
 have aa:LtO h.blks.size j:=V.lt;refine qx λh2 aj g2=>qy aj rfl λF ac u3=>?_;have az:=U.size;have C:Grow K F:=g2.updr (qbn _) u3
 have ak:∀k,j=some k->k≠K.blks.size:=λk e=>by subst e;have:k<h.blks.size:=aa;omega
 have al:=Vo.lt
 have am:∀k,jo=some k->k≠K.blks.size:=λk e=>by subst e;have:k<h.blks.size:=al;omega
 by_cases ad:j=some l
 ·subst ad;exfalso;obtain⟨_,_,_,_,rows,e,b,_⟩:=V;rw[AH.has,hn]at b;unfold pNote kc9 at b;cases b
 have V3:GF EI T.int F Fp.no y j (zs (rowsL t n w (f,c))):=(V.upd U Fp.not_no λk e e2=>ad (by rw[e,e2])).grow C;have an:GF EP kw F Fp.no to jo (sumsL g (rowsL t n w) d):=(Vo.upd U Fp.not_no (kek Z H)).grow C;rw[V.len,zs_len];rw[V.len,zs_len]at ac;have:=k5j (g:=g) (note:=pNote s1 s2 s3 n s u m b1 b2 b3 bo gv) (hs:=hs) (x4:=⟨none,0,.is 0⟩) (e3:=kcj) (R:=rowsL t n w (f,c)) (xs:=sumsL g (rowsL t n w) d) W af Z h3 (show hs.blks.size<=K.blks.size by omega) H am (λx hx=>by rw[hb];exact k08 x hx) (by have:=kw4 (t:=t) (n:=n) (w:=w) (p:=(f,c));omega) (by unfold sumsL;rw[qby];exact hd) (λh' ap=>by rw[kk0 ap];rfl) (rowsL t n w (f,c)).length 0 (by omega) F 0 (by have:=C.size;omega) ak V3 (C.has (ai.updr ag U)) ⟨Fp.below N0,by intro k;have k:K.blks.size<N0:=k;omega,(Qh.upd (by intro k;have k:l<N0:=k;omega) U).grow C⟩ ac ((C.blk l (qca.1 n1).1).trans n1) (C.has (Bo.updr W U)) an;refine this.imp λv h' ⟨e,m5,n5,o5⟩=>⟨e,?_⟩
 have ae:sumsL g (rowsL t n w) (d++[(f,c)])=sumsL g (rowsL t n w) d++[(sumG g ((rowsL t n w (f,c)).drop 0) 0,((rowsL t n w (f,c)).length:Int))]:=by unfold sumsL;rw[List.map_append,List.drop_zero];rfl
 rw[ae];refine⟨?_,n5,o5⟩;have m4:Md (λm=>m=bo\/m=l) hs F:=(M.trans (U.md (.inr rfl))).thenG C;refine m4.next m5 λk hk x=>?_;rcases x with x | x | x | x
 ·exact .inl x
 ·exact .inr x
 ·exact absurd rfl (kek hk H _ x)
 ·omega
theorem k5y(T0:Tab h0)(q:TabAt h0 S s1 s2 s3 t)(N:Nats h0 s w)(Q:Sq EI h0 S u g):Runs (go (.fn kc5 [.agg [s1.v,s2.v,s3.v],.agg [.i n,s.v],u.v]) h0) λv h'=>Grow h0 h'/\∃(y:Sl)(j:Option Nat),v=.tup [y.v,.i (plainH t n w g).2]/\LeO h0.blks.size j/\GF EP kw h' Fp.no y j (plainH t n w g).1:=by
 rw[k5q];refine qx λh1 b1 g1=>qx λh2 b2 g2=>qx λh3 b3 g3=>?_;have B1:=g3.has (g2.has b1);have B2:=g3.has b2;have z1:=b1.lt;have z2:=b2.lt;have z3:=b3.lt;have G3:Grow h0 h3:=(g1.trans g2).trans g3;refine qcm B1 0 rfl (qcm B1 1 rfl (qcm B1 2 rfl (qcn B2 0 rfl (qcm B2 1 rfl (qw (b3.rd0 rfl qck) ?_)))));rw[Q.len];refine(k3e (q.grow G3) (N.grow G3)).call λv h4 ⟨e,g4⟩=>?_;subst e;refine qw (seen rfl) ?_;have G4:=G3.trans g4;refine qba (λc=>?_) λc=>?_
 ·rw[qcf,qbt]at c;refine qu ⟨G4,(⟨none,0,.is 0⟩:Sl),none,?_,trivial,?_⟩
  ·unfold plainH;rw[if_neg c]
  ·unfold plainH;rw[if_neg c];exact GF.none _ _ _ _
 rw[qcg,qbu]at c;obtain⟨hR,ag,hn,hm⟩:=kya c;rw[c];refine qw ((g4.has b3).rd0 rfl qck) ?_;refine(kbe8 (Q.grow G4)).call λv h5 ⟨e,g5⟩=>?_;subst e;have G5:=G4.trans g5;refine qw (seen rfl) (qba (λC=>?_) λC=>?_)
 ·refine qu ⟨G5,(⟨none,0,.is 0⟩:Sl),none,?_,trivial,?_⟩
  ·unfold plainH;rw[if_pos c,if_pos (show oddG g=true from C)]
  ·unfold plainH;rw[if_pos c,if_pos (show oddG g=true from C)];exact GF.none _ _ _ _
 have ae:plainH t n w g=(sumsL g (rowsL t n w) (cutsL t),0):=by unfold plainH;rw[if_pos c,if_neg (by rw[show oddG g=false from C];simp)]
 rw[ae];have aa:=g4.trans g5;dsimp only;refine qx λh6 b6 g6=>?_;have F:=aa.trans g6;have H:=F.has B1;have ac:=F.has B2;have z4:=aa.size;have z6:=b6.lt;refine qcm H 0 rfl (qcm H 1 rfl (qcm H 2 rfl (qcn ac 0 rfl (qcm ac 1 rfl ?_))))
 have k0:Runs (go (.fn kle [.agg [s1.v,s2.v,s3.v],.agg [.i n,s.v]]) h6) λv h'=>∃K C:Nat,v=.func (.func kby) [] [.p (.new K 0),.p (.new C 0)]/\h6.blks.size<=K/\h6.blks.size<=C/\h'.has K [s1.v,s2.v,s3.v] kb5/\h'.has C [.i n,s.v] ku/\Grow h6 h':=by rw[kyv];exact qx λh4 b4 g4=>qx λh5 b5 g5=>qu ⟨_,_,rfl,qbn _,g4.size,g5.has b4,b5,g4.trans g5⟩
 refine k0.call λv U ⟨K,W,e,l1,l2,d1,d2,g7⟩=>?_;subst e;dsimp only;rw[k8r,kp5];refine Runs.newM λZ hb g8=>?_;rw[kzh];generalize ah:(AV.func (.func kby) [] [AV.ptr (some (Ref.new K 0)),AV.ptr (some (Ref.new W 0))])=gv at hb;have ad:=(F.trans g7).trans g8;have G8:Grow h0 Z:=G3.trans ad;have z7:=d1.lt;have z8:=d2.lt;have z9:U.blks.size<Z.blks.size:=(qca.1 hb).1;have E8:EachOk (Fp.below h0.blks.size) s1 s2 s3 s t n w K W Z:=⟨T0.grow G8,q.bound.grow G8,N.grow G8,g8.has d1,g8.has d2⟩;have I0:Lp EP kw khv (pNote s1 s2 s3 n s u (g.length:Int) h0.blks.size h1.blks.size h2.blks.size h5.blks.size gv) Z h5.blks.size U.blks.size (sumsL g (rowsL t n w) []) Z:=⟨Md.refl _ _,hb,_,none,g8.has (g7.has b6),trivial,GF.none _ _ _ _⟩;have k1:=kxm (l:=U.blks.size) (Inv:=λd h=>Lp EP kw khv (pNote s1 s2 s3 n s u (g.length:Int) h0.blks.size h1.blks.size h2.blks.size h5.blks.size gv) Z h5.blks.size U.blks.size (sumsL g (rowsL t n w) d) h) (λd h I=>E8.md I.md (λj a b=>by have a:j<h0.blks.size:=a;rcases b with rfl | rfl<;>omega) (λj hj=>Classical.byContradiction λk=>hj (qbg N (Nat.le_of_not_lt k))) (by omega) (by omega)) (λd h h' I g=>I.grow g) hR (λd f c h y j hf hc hd I V=>k77 (by omega) (by omega) (by omega) (by omega) (by omega) (by omega) hd (by omega) (khg hR).1 (ad.has b3) (N0:=h0.blks.size) (by omega) (by omega) (by omega) ((Q.bound.mono λ_ x=>x.2).grow G8) I V) I0;show Runs ((go (.fn kby [.func (.yield U.blks.size) [] [],.p (.new K 0),.p (.new W 0)]) Z).bind _) _;refine k1.call λv h9 ⟨e,I⟩=>?_;obtain⟨M,af,t',j,B,lj,V⟩:=I;dsimp only;rw[kos af,qbr,kbaa];have u7:Upd h9 (h9.setBlk U.blks.size .dead) U.blks.size:=qbm _;have zz:=M.size;have G9:Grow h0 h9:=(G8.thenM M).grow λj hj=>by intro k;rcases k with rfl | rfl<;>omega
 refine qw ((B.updr (by omega) u7).rd0 rfl qck) (qu ⟨G9.updr (by omega) u7,t',j,rfl,LeO.trans (by omega) lj,?_⟩);exact V.upd u7 Fp.not_no (kek (by omega) lj)
end
end Go.Ab
set_option maxRecDepth 10000
namespace Go.Ab
open Go.Proofs
section
variable{h0:AH}{S:Fp}{s1 s2 s3 s u:Sl}{t:Tb}{n:Int}{w:List Nat}{g:List Int}
theorem kbeq{xs ys:List (Int×Int)}{x y:Sl}{h:AH}(X:Sq EP h S x xs){Q:Fp}(Y:Sq EP h Q y ys)(hl:xs.length=ys.length):∀(k i:Nat),i+k=xs.length->xs.take i=ys.take i->
  go (.pt kiz kqs [(0,x.v),(1,y.v),(5,.i (i:Int))]) h=some (.bool (decide (xs=ys)),h):=by
 have hs:=X.short;intro k
 induction k with
 | zero =>
  intro i U C;rw[k2b,X.len,condF (qbw (by omega))]
  have:xs=ys:=by have a:xs.take i=xs:=List.take_of_length_le (by omega);have b:ys.take i=ys:=List.take_of_length_le (by omega);rw[a,b]at C;exact C
  rw[qbv this]
 | succ k ih =>
  intro i U C;have H:i<xs.length:=by omega
  have I:i<ys.length:=by omega
  obtain⟨r1,K,V,e3⟩:=X.two H;obtain⟨r2,W,Z,e6⟩:=Y.two I;rw[k2b];rw[X.len]at K|-;rw[condT (qbv (by omega)),K,qbr,V,qbr,e3,qbr,W,qbr,Z,qbr,e6,qbr];by_cases F:xs[i]=ys[i]
  ·rw[F,qbv rfl,qbv rfl,condF (show(!(true&&(true&&true)))=false from rfl),ko (by omega)];exact ih (i+1) (by omega) (by rw[qce H,qce I,C,F])
  ·have:(!((decide (xs[i].1=ys[i].1))&&((decide (xs[i].2=ys[i].2))&&true)))=true:=by
    rw[qcf,Bool.and_true,<- Bool.decide_and,qbt];exactλh=>F (Prod.ext h.1 h.2)
   rw[condT this,qbw λe=>F (by subst e;rfl)]
theorem kbdr{xs ys:List (Int×Int)}{x y:Sl}{h:AH}(X:Sq EP h S x xs){F:Fp}(Y:Sq EP h F y ys):go (.fn kiz [x.v,y.v]) h=some (.bool (decide (xs=ys)),h):=by
 rw[k8k,X.len,Y.len];by_cases C:xs.length=ys.length
 ·rw[condF (by rw[qbv (by omega)];rfl)];exact kbeq X Y C xs.length 0 (by omega) rfl
 ·rw[condT (by rw[qbw (by omega)];rfl),qbw λe=>C (by rw[e])]
end
end Go.Ab
set_option maxRecDepth 10000
namespace Go.Ab
open Go.Proofs
theorem kbc4{t:Tb}{w:List Nat}(y:btR (t.ids.length:Int) w=true)(p:Nat×Nat):rowsL t (t.ids.length:Int) w p=(btL (t.ids.length:Int) w).filter (leftP t p.1 (p.2:Int)):=by unfold rowsL btL;rw[y,qbv rfl,Bool.and_self,if_pos rfl,if_pos rfl,Int.toNat_natCast];unfold leftR;rw[List.filter_filter,List.filter_filter];apply List.filter_congr;intro x _;exact Bool.and_comm _ _
section
variable{h0:AH}{S:Fp}{s1 s2 s3 s u:Sl}{t:Tb}{n:Int}{w:List Nat}{g:List Int}
end
end Go.Ab
set_option maxRecDepth 10000
namespace Go.Ab
open Go.Proofs
section
variable{h0:AH}{S:Fp}{s1 s2 s3 s u:Sl}{t:Tb}{n:Int}{w:List Nat}{g:List Int}
theorem ko6{h:AH}{cs:List AV}(a:ArgT Pg h kcj cs):∃(s:Sl)(xs:List Int),cs=[s.v]/\Sq EI h Fp.no s xs:=k7j Fp.no k1w kbah kja a
theorem tab_of{h:AH}{x:AV}(a:ArgV Pg h kb5 x):∃(s1 s2 s3:Sl)(t:Tb),x=.agg [s1.v,s2.v,s3.v]/\TabAt h Fp.no s1 s2 s3 t:=by
 unfold ArgV at a;rw[kxh]at a;obtain⟨cs,rfl,t⟩:=a;obtain⟨y,C⟩:=t.struct kxh;rw[kbbp]at y
 match cs,y with
 | [V,x1,x2],_ =>
  simp[k0y,k60]at C;obtain⟨h0,F,H⟩:=C;obtain⟨s1,xs,I,K⟩:=ko6 h0;obtain⟨s2,ys,Q,n1⟩:=ko6 F
  obtain⟨s3,zs,U,n2⟩:=Sq.of_arg (E:=Ef.seq EI) (S:=Fp.no) kbcy k0y (λes t=>by obtain⟨s,l,e,n⟩:=ko6 t;exact⟨l,s,e,n⟩) H
  cases I;cases Q;cases U;exact⟨s1,s2,s3,⟨xs,ys,zs⟩,rfl,K,n1,n2⟩
end
end Go.Ab
set_option maxRecDepth 10000
namespace Go.Ab
open Go.Proofs Go.Num
end Go.Ab
set_option maxRecDepth 10000
namespace Go.Ab
open Go.Proofs Go.Num
section
variable{h0:AH}{s1 s2 s3:Sl}{ns cs ds:List Nat}
theorem kbli(N:Nats h0 s1 ns):Runs (go (.fn ks8 [s1.v]) h0) λv h'=>∃(b:Nat)(t:Sl),v=.func (.func ke5) [] [.p (.new b 0)]/\h0.blks.size<=b/\h'.has b [t.v] kr/\Nats h' t (kbd ns)/\Grow h0 h':=by rw[kbg2];obtain⟨t,y,e,H,C,U⟩:=kd7 N N;rw[e,qbr];refine qw rfl (qw (seen qck) (qw (seen qcl) ?_));dsimp only;refine qx λV b2 I=>qy b2 rfl λK b3 Q=>?_;have F:Grow y K:=I.updr (qbn _) Q;exact qu ⟨y.blks.size,t,rfl,C.size,b3,H.grow F,C.trans F⟩
theorem kbiw{a b t:Sl}{xs ys zs:List Nat}(A:Nats h0 a xs)(C:Nats h0 b ys)(Z:Nats h0 t zs){k:Nat}{e:TypeId}(hk:h0.has k [t.v] e):Runs (go (.fn ke5 [a.v,b.v,.p (.new k 0)]) h0) λv h'=>∃s:Sl,v=s.v/\Nats h' s (kip xs ys zs)/\Grow h0 h'/\Own h0 s:=by rw[kbgq];obtain⟨p,V,F,H,y,W⟩:=kd7 A C;rw[F,qbr];refine qw rfl (qw (seen qck) (qw (seen qcl) ?_));dsimp only;refine qw ((y.has hk).rd0 rfl qck) ?_;obtain⟨q,r,h2,I,N2,K,Q,o2,U⟩:=kd4 H (Z.grow y);rw[I,qbr];refine qw rfl (qw (seen qck) (qw (seen qck) (qw (seen qcl) ?_)));exact qu ⟨r,rfl,K,y.trans Q,U.of_le y⟩
end
end Go.Ab
set_option maxRecDepth 10000
namespace Go.Ab
open Go.Proofs Go.Num
structure LpS{α:Type}(E:Ef α)(elem tl:TypeId)(note:LoopState->ABlk)(hs:AH)(bo l:Nat)(xs:List α)(h:AH):Prop where
 md:Md (λm=>m=bo\/m=l) hs h
 note:h.blks[l]?=some (note .ready)
 out:∃(S:Fp)(t:Sl)(j:Option Nat),(∀m,S m->hs.blks.size<=m)/\h.has bo [t.v] tl/\LeO hs.blks.size j/\GF E elem h S t j xs
section
variable{α:Type}{E:Ef α}{elem tl:TypeId}{note:LoopState->ABlk}{hs h:AH}{bo l:Nat}{xs:List α}
theorem LpS.grow{h':AH}(L:LpS E elem tl note hs bo l xs h)(g:Grow h h'):LpS E elem tl note hs bo l xs h':=⟨L.md.thenG g,(g.blk l (qca.1 L.note).1).trans L.note,L.out.imp λ_ ⟨t,j,a,B,y,V⟩=>⟨t,j,a,g.has B,y,V.grow g⟩⟩
theorem k6f{S Tx:Fp}{t:Sl}{j:Option Nat}{x:α}{cs:List AV}{k:Nat}{e':TypeId}(hS:∀m,S m->hs.blks.size<=m)(hT:∀m,Tx m->hs.blks.size<=m)(H:NotO Tx j)(B:h.has bo [t.v] tl)(hn:h.blks[l]?=some (note .busy))(C:bo≠l)(I:bo<hs.blks.size)(K:l<hs.blks.size)(Q:hs.blks.size<=h.blks.size)(lj:LeO hs.blks.size j)(V:GF E elem h S t j xs)(hx:E.has h Tx cs x)(hg:growOk Pg (xs.length+1) elem E.w=true)(bx:h.has k cs e')(U:1*Pg.cellsOf elem=cs.length)(F:∀h',h'.blks[l]?=some (note .busy)->kci l none h'=some (.bool true,h'.setBlk l (note .ready))) :
  Runs ((kcc Pg elem ((⟨some (.new k 0),1,.is 1⟩:Sl).v) h).bind λp=>(kbi Pg t p.1 p.2 elem E.w h).bind λq=>(AV.asSl q.1).bind λW=>(q.2.puts (.new bo 0) [W.v]).bind λZ=>kci l none Z) λv h'=>v=.bool true/\Md (λm=>m=bo\/m=l\/j=some m) h h'/\h'.blks[l]?=some (note .ready)/\∃(S:Fp)(t:Sl)(j:Option Nat),(∀m,S m->hs.blks.size<=m)/\h'.has bo [t.v] tl/\LeO hs.blks.size j/\GF E elem h' S t j (xs++[x]):=by
 refine qw (kfe bx U) ?_;obtain⟨t',h3,e3,V3,u3⟩:=V.push (T:=Tx) hx H hg;refine qw e3 (qw qck ?_);have m3:Md (Fp.opt j) h h3:=u3.md λk e=>e;have no:∀{m:Nat},m<hs.blks.size->¬Fp.opt j m:=λhm e=>kek hm lj _ e rfl;have B3:h3.has bo [t.v] tl:=m3.has B (no I);have n3:h3.blks[l]?=some (note .busy):=m3.get hn (no K);refine qy B3 rfl λh4 B4 u4=>?_;have n4:h4.blks[l]?=some (note .busy):=(u4.blk l (λe=>C e.symm) (qca.1 n3).1).trans n3;rw[F _ n4];have u5:Upd h4 (h4.setBlk l (note .ready)) l:=qbm _;have y:∀m,((Fp.or S Tx) m/\m<h.blks.size)->hs.blks.size<=m:=λm x=>x.1.elim (hS m) (hT m);refine qu ⟨rfl,?_,qbl (qca.1 n4).1,_,t',some h.blks.size,y,B4.updr C u5,Q,?_⟩
 ·refine((m3.mono λm _ e=>.inr (.inr e)).trans (u4.md (.inl rfl))).trans (u5.md (.inr (.inl rfl)))
 ·exact(V3.upd u4 (λx=>by have:=y _ x;omega) λk e=>by cases e;omega).upd u5 (λx=>by have:=y _ x;omega) λk e=>by cases e;omega
theorem LpS.next{xs ys:List α}{h y h':AH}{j:Option Nat}(C:Md (λm=>m=bo\/m=l) hs y)(F:LeO hs.blks.size j)(H:Md (λm=>m=bo\/m=l\/j=some m) y h')(I:h'.blks[l]?=some (note .ready))(o:∃(S:Fp)(t:Sl)(j:Option Nat),(∀m,S m->hs.blks.size<=m)/\h'.has bo [t.v] tl/\LeO hs.blks.size j/\GF E elem h' S t j ys):LpS E elem tl note hs bo l ys h':=⟨C.next H λm K t=>t.elim .inl λt=>t.elim .inr λe=>absurd rfl (kek K F _ e),I,o⟩
end
noncomputable def prodC(y:List Nat)(cs:List (List Nat))(l p:List Nat):List Nat:=l.foldl (λp i=>kip p (cs.getD i []) y) p
noncomputable def oddC(ns:List Nat)(C:List (List Nat)):Bool:=C.any λc=>!kb3 ns c
noncomputable def sumsC(y:List Nat)(C:List (List Nat))(R:Nat×Nat->List Nat)(l:List (Nat×Nat)):List (List Nat):=l.map λp=>prodC y C (R p) [1]
noncomputable def kea(ns:List Nat)(t:Tb)(n:Int)(w:List Nat)(C:List (List Nat)):List (List Nat)×Int:=if !kz ns then([],1)else if faultH t n w (C.length:Int)=0 then if oddC ns C then([],11)else(sumsC (kbd ns) C (rowsL t n w) (cutsL t),0)else([],faultH t n w (C.length:Int))
theorem own_av{h:AH}{p:Sl}{xs:List Nat}(o:Own h p){m:Nat}(k:¬Av p m xs):h.blks.size<=m:=by
 rcases Nat.lt_or_ge m h.blks.size with y | y
 ·exact absurd (qbh o y) k
 ·exact y
section
variable{h0:AH}{S:Fp}{s1 s2 s3 s u z:Sl}{t:Tb}{n:Int}{w ns:List Nat}{C:List (List Nat)}
theorem kbe4{k:Nat}{e:TypeId}(N:Nats h0 z ns)(hk:h0.has k [z.v] e)(q:Sq Ef.nats h0 S u C):Runs (go (.fn khb [u.v,.func (.func kb9) [] [.p (.new k 0)]]) h0) λv h'=>v=.bool (oddC ns C)/\Grow h0 h':=by
 rw[k8h];refine Runs.contains (xs:=C) ?_;rw[kble,q.len];refine kl1 (n:=C.length) (G:=λz h=>go (.pt kcd kex [(0,u.v),(1,.func (.func kb9) [] [.p (.new k 0)]),(7,.i (C.length:Int)),(8,.i z)]) h) (λi h P K y H I=>?_) (λh y=>?_) C.length 0 (by omega) (qk h0) (λj Z=>by omega)
 ·obtain⟨r,s',U,V,W,-⟩:=(q.grow y).nats K;rw[qb1 K]at H I;simp only[Option.any_some]at H I;show Runs (go _ _) _;rw[k3y];refine qz (qbv (by omega)) (qw U (qw V ?_))
  have key:Runs (go (.fn kb9 [s'.v,.p (.new k 0)]) h) λv h'=>v=.bool (!kb3 ns C[i])/\Grow h h':=by rw[kbiz,qbr];refine qw ((y.has hk).rd0 rfl qck) ?_;refine(k1l (N.grow y) W).call λv Q ⟨e,F⟩=>?_;subst e;exact qw (seen rfl) (qu ⟨rfl,F⟩)
  refine key.call λv Q ⟨e,F⟩=>?_;subst e;refine qw (seen rfl) ?_;rw[ko (by have:=q.short;omega)];exact qba (λc=>qu (H Q (y.trans F) c)) λc=>I _ (y.trans F) c
 ·rw[k3y,condF (qbw (by omega))]
noncomputable def hNote(s1 s2 s3:Sl)(n:Int)(s u z:Sl)(m:Int)(y b1 b2 b3 F bo:Nat)(H g:AV)(st:LoopState):ABlk:=kc9 ktt kc1 0 st none [(0,z.v),(1,.agg [s1.v,s2.v,s3.v]),(2,.agg [.i n,s.v]),(3,u.v),(4,.p (.new y 0)),(5,.p (.new b1 0)),(6,.p (.new b2 0)),(7,.p (.new b3 0)),(8,nV),(9,.i 0),(10,.i 0),(11,.p (.new F 0)),(12,.p (.new bo 0)),(18,z.v),(19,.bool true),(20,.bool false),(21,.agg [s1.v,s2.v,s3.v]),(22,.agg [.i n,s.v]),(23,u.v),(24,.i m),(25,.i 0),(26,.i 0),(27,.bool false),(29,u.v),(30,.func (.func kb9) [] [.p (.new y 0)]),(31,.bool false),(32,z.v),(33,H),(34,.agg [s1.v,s2.v,s3.v]),(35,.agg [.i n,s.v]),(36,g)]
theorem kbd2{note:LoopState->ABlk}{hs F:AH}{b3 bf bo l kq:Nat}{x4 y tq to:Sl}{j Z:Option Nat}{e3 e4 e5:TypeId}{R I:List Nat}{Su So:Fp}{xs:List (List Nat)}(aa:bo≠l)(ac:bo<hs.blks.size)(ad:l<hs.blks.size)(K:hs.blks.size<=F.blks.size)(ae:LeO hs.blks.size Z)(af:∀x∈R,x<C.length)(hR:R.length<=300)(ai:xs.length<1000)
  (U:∀h',h'.blks[l]?=some (note .busy)->kci l none h'=some (.bool true,h'.setBlk l (note .ready))) (V:GF EI T.int F Fp.no y j (zs R)) (B3:F.has b3 [u.v] e3) (Q:Sq Ef.nats F Su u C) (Bf:F.has bf [.func (.func ke5) [] [.p (.new kq 0)]] e4) (Bq:F.has kq [tq.v] e5) (Nq:Nats F tq I) (hn:F.blks[l]?=some (note .busy)) (Bo:F.has bo [to.v] kf3) (ag:∀m,So m->hs.blks.size<=m) (Vo:GF Ef.nats kr F So to Z xs):∀(k i:Nat),i+k=R.length->∀(h:AH)(p:Sl),Grow F h->Own F p->Nats h p (prodC I C (R.take i) [1])->
  Runs (go (.rpt l kc1 kqh [(7,.p (.new b3 0)),(8,x4.v),(9,.i 0),(11,.p (.new bf 0)),(12,.p (.new bo 0)),(15,p.v),(40,y.v),(41,.i (R.length:Int)),(42,.i (i:Int))]) h) λv h'=>v=.bool true/\Md (λm=>m=bo\/m=l\/Z=some m) F h'/\h'.blks[l]?=some (note .ready)/\∃(S:Fp)(t:Sl)(j:Option Nat),(∀m,S m->hs.blks.size<=m)/\h'.has bo [t.v] kf3/\LeO hs.blks.size j/\GF Ef.nats kr h' S t j (xs++[prodC I C R [1]]):=by
 intro k
 induction k with
 | zero =>
  intro i hi h p G O N;obtain rfl:i=R.length:=by omega
  rw[List.take_length]at N;rw[kxu];refine q0 (qbw (by omega)) (qw ((G.has Bo).rd0 rfl qck) ?_);refine qx λh1 b1 g1=>?_;have W:=G.trans g1;have n1:=(W.blk l (qca.1 hn).1).trans hn;have lt:=Vo.lt
  have:=k6f (note:=note) (hs:=hs) (E:=Ef.nats) (Tx:=λm=>¬Av p m (prodC I C R [1])) (x:=prodC I C R [1]) ag (λm hm=>qbo K (own_av O hm)) (by
   cases Z with
   | none=>exact trivial
   | some a =>intro hm;have:=own_av O hm;have:a<F.blks.size:=lt;omega) (W.has Bo) n1 aa ac ad (qbo K W.size) ae (Vo.grow W) (show Ef.nats.has h1 _ [p.v] _ from⟨p,rfl,N.grow g1,λj hj=>hj⟩) (kup (by omega)) b1 (by rw[kur];rfl) U
  exact this.imp λv h' ⟨e,m5,n5,o5⟩=>⟨e,W.thenM m5,n5,o5⟩
 | succ k ih =>
  intro i hi h p G O N;have H:i<R.length:=by omega
  have hz:i<(zs R).length:=by rw[zs_len];exact H
  obtain⟨r,e1,e2⟩:=(V.grow G).sq.int hz;have ah:(zs R)[i]=((R[i]:Nat):Int):=by simp[zs]
  have hg:=af _ (qb0 H);obtain⟨r2,s',e4,e5,N',-⟩:=(Q.grow G).nats hg;rw[kxu];refine qz (qbv (by omega)) (qw e1 (qw e2 (qw (show h.cell (.new bf 0)=some _ from(G.has Bf).cell 0) (qw ((G.has B3).rd0 rfl qck) ?_))));rw[ah];refine qw e4 (qw e5 ?_);show Runs ((callF Pg go ke5 [p.v,s'.v,.p (.new kq 0)] h).bind _) _;rw[k91];refine(kbiw N N' (Nq.grow G) (G.has Bq)).call λv h1 ⟨p',e,N1,g1,O1⟩=>?_;subst e;refine qw (seen qck) ?_;rw[ko (by omega)];refine ih (i+1) (by omega) h1 p' (G.trans g1) (O1.of_le G) ?_;rw[qce H];unfold prodC at N1|-;rw[List.foldl_append];have:C.getD R[i] []=C[R[i]]:=by simp[List.getD,hg]
  rw[List.foldl_cons,List.foldl_nil,this];exact N1
theorem k6m{hs h:AH}{b0 b1 b2 b3 U bo l kq N0:Nat}{tq:Sl}{gv Z:AV}{m:Int}{d:List (Nat×Nat)}{f c:Nat}{y:Sl}{j:Option Nat}{F:List Nat}{e4 e5:TypeId}(aa:bo≠l)(aj:bo<hs.blks.size)(ac:l<hs.blks.size)(h3:b3<N0)(hf:U<N0)(hq:kq<N0)(hd:d.length<1000)(hb:C.length=t.ids.length)(ba:t.ids.length<=256)(bb:N0<=bo)(bc:N0<=l)(B3:hs.has b3 [u.v] kf3)(Q:Sq Ef.nats hs (Fp.below N0) u C)(ak:Z=.func (.func ke5) [] [.p (.new kq 0)])(Bf:hs.has U [Z] e4)(Bq:hs.has kq [tq.v] e5)(Nq:Nats hs tq F)(Aq:∀j,¬Av tq j F->j<N0)
  (I:LpS Ef.nats kr kf3 (hNote s1 s2 s3 n s u z m b0 b1 b2 b3 U bo Z gv) hs bo l (sumsC F C (rowsL t n w) d) h) (V:GF EI T.int h Fp.no y j (zs (rowsL t n w (f,c)))):Runs (go (.round l [.agg [.i (f:Int),.i (c:Int)],y.v]) h) λv h'=>v=.bool true/\LpS Ef.nats kr kf3 (hNote s1 s2 s3 n s u z m b0 b1 b2 b3 U bo Z gv) hs bo l (sumsC F C (rowsL t n w) (d++[(f,c)])) h':=by
 obtain⟨M,hn,So,to,jo,ad,Bo,W,Vo⟩:=I;have al:l<h.blks.size:=(qca.1 hn).1;have bd:=M.size
 have ae:Dis (Fp.below N0) (λm=>m=bo\/m=l):=λk a b=>by have a:k<N0:=a;rcases b with rfl | rfl<;>omega
 have no:∀k,k<N0->¬(k=bo\/k=l):=λk a b=>by rcases b with rfl | rfl<;>omega
 have am:=M.has B3 (no _ h3);have an:=M.has Bf (no _ hf);have ap:=M.has Bq (no _ hq);have Qh:=Q.md M ae;have aq:Nats h tq F:=Nq.mdE (S:=Fp.below N0) Aq M ae;rw[k4r l none _ _ _ _ _ _ _ _ _ _ _ _ _ _ _ _ _ _ _ _ _ _ _ _ _ _ _ _ _ _ _ _ _ _ _ _ _ _ _ _ _ _ _ hn,kq2 (h:=h) hn,qbr];generalize af:h.setBlk l _=K;have H:Upd h K l:=by rw[<- af];exact qbm _
 have n1:K.blks[l]?=some (hNote s1 s2 s3 n s u z m b0 b1 b2 b3 U bo Z gv .busy):=by rw[<- af];exact qbl al
 have be:=H.size;by_cases ag:j=some l
 ·subst ag;exfalso;obtain⟨_,_,_,_,rows,e,b,_⟩:=V;rw[AH.has,hn]at b;unfold hNote kc9 at b;cases b
 refine qx λh2 ar g2=>?_;have V1:GF EI T.int K Fp.no y j (zs (rowsL t n w (f,c))):=V.upd H Fp.not_no λk e e2=>ag (by rw[e,e2]);have Q1:Sq Ef.nats K (Fp.below N0) u C:=Qh.upd (by intro k;have k:l<N0:=k;omega) H;have au:Nats K tq F:=aq.upda (Classical.byContradiction λk=>by have:=Aq _ k;omega) H;have aw:=am.updr (show b3≠l by omega) H;have ah:=an.updr (show U≠l by omega) H;have ax:=ap.updr (show kq≠l by omega) H;have ay:=Bo.updr aa H;have az:GF Ef.nats kr K So to jo (sumsC F C (rowsL t n w) d):=Vo.upd H (λx=>by have:=ad _ x;omega) (kek ac W);rw[V.len,zs_len];rw[ak]at ah;have O:Own K ⟨some (.new K.blks.size 0),1,.is 1⟩:=Own.box (qk _);have N2:Nats h2 ⟨some (.new K.blks.size 0),1,.is 1⟩ (prodC F C ((rowsL t n w (f,c)).take 0) [1]):=Nats.of_has (xs:=[1]) ar (by simp) (by simp);have:=kbd2 (note:=hNote s1 s2 s3 n s u z m b0 b1 b2 b3 U bo Z gv) (hs:=hs) (x4:=⟨none,0,.is 0⟩) (R:=rowsL t n w (f,c)) (xs:=sumsC F C (rowsL t n w) d) aa aj ac (by omega) W (λx hx=>by rw[hb];exact k08 x hx) (by have:=kw4 (t:=t) (n:=n) (w:=w) (p:=(f,c));omega) (by unfold sumsC;rw[qby];exact hd) (λh' a0=>by rw[kk0 a0];rfl) V1 aw Q1 ah ax au n1 ay ad az (rowsL t n w (f,c)).length 0 (by omega) h2 _ g2 O N2;refine this.imp λv h' ⟨e,m5,n5,o5⟩=>⟨e,?_⟩
 have ai:sumsC F C (rowsL t n w) (d++[(f,c)])=sumsC F C (rowsL t n w) d++[prodC F C (rowsL t n w (f,c)) [1]]:=by unfold sumsC;rw[List.map_append];rfl
 rw[ai];exact LpS.next (h:=h) (xs:=sumsC F C (rowsL t n w) d) (M.trans (H.md (.inr rfl))) W m5 n5 o5
theorem kbkc(T0:Tab h0)(M:Nats h0 z ns)(q:TabAt h0 S s1 s2 s3 t)(N:Nats h0 s w)(Q:Sq Ef.nats h0 S u C):Runs (go (.fn kc1 [z.v,.agg [s1.v,s2.v,s3.v],.agg [.i n,s.v],u.v]) h0) λv h'=>Grow h0 h'/\∃(S:Fp)(y:Sl)(j:Option Nat),v=.tup [y.v,.i (kea ns t n w C).2]/\(∀m,S m->h0.blks.size<=m)/\LeO h0.blks.size j/\GF Ef.nats kr h' S y j (kea ns t n w C).1:=by
 rw[kbkv];refine qx λha ba ga=>qx λh1 b1 g1=>qx λh2 b2 g2=>qx λh3 b3 g3=>?_;have ak:=(g1.trans g2).trans g3;have Ba:=ak.has ba;have B1:=g3.has (g2.has b1);have B2:=g3.has b2;have za:=ba.lt;have z1:=b1.lt;have z2:=b2.lt;have z3:=b3.lt;have G3:Grow h0 h3:=ga.trans ak;refine qw (Ba.rd0 rfl qck) ?_
 have U:∀{h:AH}(c:Int),Grow h0 h->kea ns t n w C=([],c)->Runs (some (AV.tup [nV,.i c],h)) λv h'=>Grow h0 h'/\∃(S:Fp)(y:Sl)(j:Option Nat),v=.tup [y.v,.i (kea ns t n w C).2]/\(∀m,S m->h0.blks.size<=m)/\LeO h0.blks.size j/\GF Ef.nats kr h' S y j (kea ns t n w C).1:=λc g e=>by rw[e];exact qu ⟨g,Fp.no,⟨none,0,.is 0⟩,none,rfl,λm x=>x.elim,trivial,GF.none _ _ _ _⟩
 refine(krr (M.grow G3)).call λv h4 ⟨e,g4⟩=>?_;subst e;have G4:=G3.trans g4;refine qw (seen rfl) (qba (λc=>U 1 G4 (by unfold kea;rw[if_pos c])) λcM=>?_);have B1:=g4.has B1;have B2:=g4.has B2;have B3:=g4.has b3;refine qcm B1 0 rfl (qcm B1 1 rfl (qcm B1 2 rfl (qcn B2 0 rfl (qcm B2 1 rfl (qw (B3.rd0 rfl qck) ?_)))));rw[Q.len];refine(k3e (q.grow G4) (N.grow G4)).call λv h5 ⟨e,g5⟩=>?_;subst e;have G5:=G4.trans g5;have B3:=g5.has B3;refine qw (seen rfl) (qba (λc=>?_) λc=>?_)
 ·rw[qcf,qbt]at c;exact U _ G5 (by unfold kea;rw[if_neg (by rw[cM];simp),if_neg c])
 rw[qcg,qbu]at c;obtain⟨hR,az,hn,hm⟩:=kya c;rw[c];refine qw (B3.rd0 rfl qck) ?_;have al:=(g4.trans g5).has Ba;refine(kbe4 (M.grow G5) al (Q.grow G5)).call λv h6 ⟨e,g6⟩=>?_;subst e;have G6:=G5.trans g6;refine qw (seen rfl) (qba (λc2=>U 11 G6 (by unfold kea;rw[if_neg (by rw[cM];simp),if_pos c,if_pos c2])) λc2=>?_)
 have ar:kea ns t n w C=(sumsC (kbd ns) C (rowsL t n w) (cutsL t),0):=by unfold kea;rw[if_neg (by rw[cM];simp),if_pos c,if_neg (by rw[c2];simp)]
 rw[ar];dsimp only;rw[qcg]at cM;rw[cM];refine qw ((g6.has al).rd0 rfl qck) ?_;refine(kbli (M.grow G6)).call λv h7 ⟨kq,tq,e,a0,Bq,Nq,g7⟩=>?_;subst e;have G7:=G6.trans g7;have am:=((g4.trans g5).trans g6).trans g7;refine qx λh8 b8 g8=>qz rfl ?_;dsimp only;refine qy b8 rfl λh9 b9 u9=>?_;have ag:Grow h7 h9:=g8.updr (qbn _) u9;refine qx λaa an ac=>?_;have W:=(am.trans ag).trans ac;have ah:=W.has (g3.has (g2.has b1));have ap:=W.has (g3.has b2);have z7:=am.size;have zq:=Bq.lt;have z8:=b8.lt;have z9:=b9.lt;have bb:=an.lt;have y9:=ag.size;refine qcm ah 0 rfl (qcm ah 1 rfl (qcm ah 2 rfl (qcn ap 0 rfl (qcm ap 1 rfl ?_))))
 have k0:Runs (go (.fn kle [.agg [s1.v,s2.v,s3.v],.agg [.i n,s.v]]) aa) λv h'=>∃c1 c2:Nat,v=.func (.func kby) [] [.p (.new c1 0),.p (.new c2 0)]/\aa.blks.size<=c1/\aa.blks.size<=c2/\h'.has c1 [s1.v,s2.v,s3.v] kb5/\h'.has c2 [.i n,s.v] ku/\Grow aa h':=by rw[kyv];exact qx λh4 b4 g4=>qx λh5 b5 g5=>qu ⟨_,_,rfl,qbn _,g4.size,g5.has b4,b5,g4.trans g5⟩
 refine k0.call λv F ⟨c1,ai,e,l1,l2,d1,d2,ad⟩=>?_;subst e;dsimp only;rw[kbkg,kp5];refine Runs.newM λH hb K=>?_;rw[kzh];generalize bc:(AV.func (.func kby) [] [AV.ptr (some (Ref.new c1 0)),AV.ptr (some (Ref.new ai 0))])=gv at hb;generalize au:(AV.func (.func ke5) [] [AV.ptr (some (Ref.new kq 0))])=fv at hb b9;have ae:=(W.trans ad).trans K;have af:=((ag.trans ac).trans ad).trans K;have Z:Grow h0 H:=G3.trans ae;have bd:=ac.size;have be:=d1.lt;have bf:=d2.lt;have bg:F.blks.size<H.blks.size:=(qca.1 hb).1;have bh:=G3.size;have aw:EachOk (Fp.below h0.blks.size) s1 s2 s3 s t n w c1 ai H:=⟨T0.grow Z,q.bound.grow Z,N.grow Z,K.has d1,K.has d2⟩;have I0:LpS Ef.nats kr kf3 (hNote s1 s2 s3 n s u z (C.length:Int) h0.blks.size ha.blks.size h1.blks.size h2.blks.size h7.blks.size h9.blks.size fv gv) H h9.blks.size F.blks.size (sumsC (kbd ns) C (rowsL t n w) []) H:=⟨Md.refl _ _,hb,Fp.no,_,none,λm x=>x.elim,K.has (ad.has an),trivial,GF.none _ _ _ _⟩;have k1:=kxm (l:=F.blks.size) (Inv:=λd h=>LpS Ef.nats kr kf3 (hNote s1 s2 s3 n s u z (C.length:Int) h0.blks.size ha.blks.size h1.blks.size h2.blks.size h7.blks.size h9.blks.size fv gv) H h9.blks.size F.blks.size (sumsC (kbd ns) C (rowsL t n w) d) h) (λd h I=>aw.md I.md (λj a b=>by have a:j<h0.blks.size:=a;rcases b with rfl | rfl<;>omega) (λj hj=>Classical.byContradiction λk=>hj (qbg N (Nat.le_of_not_lt k))) (by omega) (by omega)) (λd h h' I g=>I.grow g) hR (λd f c h y j hf hc hd I V=>k6m (N0:=h9.blks.size) (by omega) (by omega) (by omega) (by omega) (by omega) (by omega) hd (by omega) (khg hR).1 (by omega) (by omega) (ae.has b3) ((Q.bound.mono λ_ x=>(show _<h9.blks.size by have:=x.2;omega)).grow Z) au.symm ((ac.trans (ad.trans K)).has b9) (af.has Bq) (Nq.grow af) (λj hj=>Classical.byContradiction λk=>hj (qbg Nq (by omega))) I V) I0;show Runs ((go (.fn kby [.func (.yield F.blks.size) [] [],.p (.new c1 0),.p (.new ai 0)]) H).bind _) _;refine k1.call λv aj ⟨e,I⟩=>?_;obtain⟨Mm,ax,So,t',j,aq,B,lj,V⟩:=I;dsimp only;rw[kos ax,qbr,kbbs];have u7:Upd aj (aj.setBlk F.blks.size .dead) F.blks.size:=qbm _;have zz:=Mm.size;have ay:Grow h0 aj:=(Z.thenM Mm).grow λj hj=>by intro k;rcases k with rfl | rfl<;>omega
 refine qw ((B.updr (by omega) u7).rd0 rfl qck) (qu ⟨ay.updr (by omega) u7,So,t',j,rfl,λm hm=>by have:=aq m hm;omega,LeO.trans (by omega) lj,?_⟩);exact V.upd u7 (λx=>by have:=aq _ x;omega) (kek (by omega) lj)
end
end Go.Ab
set_option maxRecDepth 10000
namespace Go.Ab
open Go.Proofs Go.Num
section
variable{h0 hr:AH}{S Su:Fp}{s1 s2 s3 s u z tq:Sl}{t:Tb}{n:Int}{w ns qs:List Nat}{C:List (List Nat)}
end
end Go.Ab
set_option maxRecDepth 10000
namespace Go.Ab
open Go.Proofs Go.Num
section
variable{h0:AH}{S S':Fp}{s1 s2 s3 s u a b:Sl}{t:Tb}{n:Int}{w:List Nat}{C:List (List Nat)}
end
end Go.Ab
set_option maxRecDepth 10000
namespace Go.Ab
open Go.Proofs Go.Num
def prodN(C:List (List Nat))(l:List Nat)(X:Nat):Nat:=l.foldl (λX i=>X*num B (C.getD i [])) X
noncomputable def sumH(p q:Nat)(C:List (List Nat))(l:List Nat)(M:Nat):Nat:=l.foldl (λM i=>(M+hidOf p q (num B (C.getD i [])))%(p*q)) M
noncomputable def sumD(p q:Nat)(C:List (List Nat))(l:List Nat)(M:Nat):Nat:=l.foldl (λM i=>M+hidOf p q (num B (C.getD i []))) M
theorem sumH_D{p q:Nat}{C:List (List Nat)}:∀(l:List Nat)(M:Nat),sumH p q C l (M%(p*q))=sumD p q C l M%(p*q)
 | [],M=>rfl
 | i::l,M=>by unfold sumH sumD;rw[List.foldl_cons,List.foldl_cons,Nat.mod_add_mod];exact sumH_D l _
section
variable{p q:Nat}(k:KeyOk p q)(p2:p<1099511627776)(q2:q<1099511627776){C:List (List Nat)}(lC:∀c∈C,∀x∈c,x<B)(hv:∀c∈C,kb3 (digs B (p*q)) c=true)
include k p2 q2 lC hv
theorem krx{i:Nat}(F:i<C.length):digs B (num B C[i])=C[i]/\num B C[i]<p*q*(p*q)/\Nat.Coprime (num B C[i]) (p*q):=by have y:=qb0 F;obtain⟨-,r,-,l,c⟩:=(kn1 p2 q2 (lC _ y)).1 (hv _ y);exact⟨kdd B2 (lC _ y) (rt_iff.1 r).2,l,c⟩
theorem kbgl:0<p*q*(p*q):=Nat.mul_pos (kez k) (kez k)
theorem ky9:∀(l:List Nat),(∀i∈l,i<C.length)->∀X:Nat,prodC (digs B (p*q*(p*q))) C l (digs B (X%(p*q*(p*q))))=digs B (prodN C l X%(p*q*(p*q)))
 | [],_,X=>rfl
 | i::l,H,X=>by
  have I:=H i (by simp);obtain⟨e,lt,co⟩:=krx k p2 q2 lC hv I;have y:=kbgl k p2 q2 lC hv;have F:=key_sq p2 q2;have up:∀{x:Nat},x<p*q*(p*q)->x<B^30:=λh=>Nat.lt_trans h (qbp F (Nat.pow_le_pow_right (by decide) (by decide)));have K:C.getD i []=C[i]:=by simp[List.getD,I]
  have ih:=ky9 l (λj Q=>H j (by simp[Q])) (X*num B C[i]);unfold prodC prodN at ih|-;rw[List.foldl_cons,List.foldl_cons,K];rw[<- ih];congr 1
  conv=>lhs;rw[<- e]
  rw[kbco (up (Nat.mod_lt _ y)) (up lt) (qbp F (Nat.pow_le_pow_right (by decide) (by decide))) y,Nat.mod_mul_mod]
theorem k3j:∀(l:List Nat),(∀i∈l,i<C.length)->∀X:Nat,Nat.Coprime X (p*q)->Nat.Coprime (prodN C l X) (p*q)
 | [],_,X,h=>h
 | i::l,y,X,h=>by
  have F:=y i (by simp);obtain⟨e,lt,co⟩:=krx k p2 q2 lC hv F;have H:C.getD i []=C[i]:=by simp[List.getD,F]
  have:=k3j l (λj I=>y j (by simp[I])) (X*num B C[i]) (Nat.Coprime.mul_left h co);unfold prodN at this|-;rw[List.foldl_cons,H];exact this
theorem k1t:∀(l:List Nat),(∀i∈l,i<C.length)->∀X M:Nat,Hid (p*q) ((p-1)*(q-1)) X M->Hid (p*q) ((p-1)*(q-1)) (prodN C l X) (sumH p q C l M)
 | [],_,X,M,h=>h
 | i::l,y,X,M,h=>by
  have F:=y i (by simp);obtain⟨e,lt,co⟩:=krx k p2 q2 lC hv F;have H:C.getD i []=C[i]:=by simp[List.getD,F]
  have:=k1t l (λj I=>y j (by simp[I])) (X*num B C[i]) ((M+hidOf p q (num B C[i]))%(p*q)) (Hid.mul (kez k) h (k1e k co));unfold prodN sumH at this|-;rw[List.foldl_cons,List.foldl_cons,H];exact this
theorem k9x:digs B (1%(p*q*(p*q)))=[1]:=by have y:=k.pos;have:1<p*q*(p*q):=qbp y (Nat.le_mul_of_pos_left _ (by omega));rw[Nat.mod_eq_of_lt this,kkj]
theorem k5n:Hid (p*q) ((p-1)*(q-1)) 1 0:=by have:=Hid.shown (f:=(p-1)*(q-1)) (kez k);rwa[Nat.zero_mul,Nat.zero_add]at this
theorem kbhn(H:badF (p:Int) (q:Int)=false)(y:kz (digs B (p*q))=true){l:List Nat}(F:∀i∈l,i<C.length):decF (p:Int) (q:Int) (prodC (digs B (p*q*(p*q))) C l [1])=(digs B (sumD p q C l 0%(p*q)),0):=by rw[<- k9x k p2 q2 lC hv,ky9 k p2 q2 lC hv l F,dec_of k p2 q2 H y (k3j k p2 q2 lC hv l F 1 (Nat.coprime_one_left _)) (k1t k p2 q2 lC hv l F 1 0 (k5n k p2 q2 lC hv)),<- sumH_D,Nat.zero_mod]
end
end Go.Ab
set_option maxRecDepth 10000
namespace Go.Ab
open Go.Proofs
def OfP(h0:AH)(n:Nat)(l:List Nat)(v:AV)(h':AH):Prop:=Grow h0 h'/\∃(t:Sl)(w:List Nat),v=.tup [.agg [.i (n:Int),t.v],.i 0]/\Nats h' t w/\w.length=(n+63)/64/\Own h0 t/\∀m,wbit w m=decide (m∈l)
theorem ofP_bt{n:Nat}{w l:List Nat}(Q:n<=65536)(I:∀x∈l,x<n)(K:w.length=(n+63)/64)(F:∀m,wbit w m=decide (m∈l)):btR (n:Int) w=true/\btL (n:Int) w=(List.range n).filter λi=>decide (i∈l):=by
 have C:∀i,n<=i->wbit w i=false:=λi y=>by rw[F,qbw];intro h;have:=I i h;omega
 have H:btR (n:Int) w=true:=btR_of (by omega) (by omega) (by rw[Int.toNat_natCast];exact K) λi _ y=>C i (by rw[Int.toNat_natCast]at y;exact y);refine⟨H,?_⟩;unfold btL;rw[H,if_pos rfl,Int.toNat_natCast];apply List.filter_congr;intro i y;rw[F]
theorem kbbc{x k:Nat}(y:x<18446744073709551616)(hk:k<64)(F:x.testBit k=false):IntKind.wrap .u64 ((x:Int)+((2^k:Nat):Int))=((x|||2^k:Nat):Int):=by
 have hp:2^k<2^64:=Nat.pow_lt_pow_right (by decide) hk
 have H:BitVec.ofNat 64 x&&&BitVec.ofNat 64 (2^k)=0#64:=by
  apply BitVec.eq_of_toNat_eq;rw[BitVec.toNat_and,BitVec.toNat_ofNat,BitVec.toNat_ofNat,Nat.mod_eq_of_lt y,Nat.mod_eq_of_lt hp];apply Nat.eq_of_testBit_eq;intro i;rw[Nat.testBit_and,Nat.testBit_two_pow];by_cases e:k=i
  ·subst e;simp[F]
  ·simp[e]
 have C:=congrArg BitVec.toNat (BitVec.add_eq_or_of_and_eq_zero _ _ H);rw[BitVec.toNat_add,BitVec.toNat_or,BitVec.toNat_ofNat,BitVec.toNat_ofNat,Nat.mod_eq_of_lt y,Nat.mod_eq_of_lt hp]at C;rw[wrapU,<- C];omega
section
variable{h0:AH}{S:Fp}{s s1 s2 s3:Sl}{t:Tb}
theorem kbge{l:List Nat}{n:Nat}(q:Sq EI h0 S s (zs l)){j:Nat}(hj:j<l.length)(ad:l[j]<65536){h:AH}(G:Grow h0 h){b c i:Nat}{t:Sl}{w:List Nat}(C:h.has c [.i (n:Int),t.v] ku)(V:Vec h t i w)(H:l[j]/64<w.length)(y:wbit w l[j]=false){Q:AV->AH->Prop}
  (hP:∀h',Upd h h' i->Vec h' t i (w.set (l[j]/64) (w[l[j]/64]|||2^(l[j]%64)))->Runs (go (.pt kcn ki9 [(0,.i (n:Int)),(1,s.v),(4,.p (.new b 0)),(6,.p (.new c 0)),(7,.i ((j+1:Nat):Int))]) h') Q):∀(k m:Nat),m+k=l[j]%64->
  Runs (go (.pt kcn kp9 [(0,.i (n:Int)),(1,s.v),(4,.p (.new b 0)),(6,.p (.new c 0)),(7,.i (j:Int)),(9,.int .u64 ((2^m:Nat):Int)),(10,.i (m:Int))]) h) Q:=by
 have Z:j<(zs l).length:=by rw[zs_len];omega
 obtain⟨r,W,I⟩:=(q.grow G).int Z;have hx:(zs l)[j]=((l[j]:Nat):Int):=by simp[zs]
 rw[hx]at I;have F:l[j]%64<64:=Nat.mod_lt _ (by decide);intro k
 induction k with
 | zero =>
  intro m hm;have K:w[l[j]/64]<18446744073709551616:=V.lt _ (qb0 H);have U:w.getD (l[j]/64) 0=w[l[j]/64]:=by simp[List.getD,H]
  have aa:w[l[j]/64].testBit (l[j]%64)=false:=by unfold wbit at y;rw[U]at y;exact y
  rw[k1i];refine qw W (qw I ?_);rw[show Int.tmod ((l[j]:Nat):Int) 64=((l[j]%64:Nat):Int)from rfl];refine q0 (qbw (by omega)) (qcm C 1 rfl (qw W (qw I (qcm C 1 rfl (qw W (qw I ?_))))));rw[show Int.tdiv ((l[j]:Nat):Int) 64=((l[j]/64:Nat):Int)from rfl,wrap64 (by omega) (by omega),V.len];refine qw (V.idx rfl (kx H)) (qw (V.rd rfl (kx H) qcl) (qw (V.idx rfl (kx H)) ?_));obtain rfl:m=l[j]%64:=by omega
  rw[U,kbbc K F aa];refine qbf V rfl (kx H) (kbm (Nat.or_lt_two_pow (n:=64) K (Nat.pow_lt_pow_right (by decide) F))) λh1 V1 u1=>?_;rw[ko (by have:=q.short;rw[zs_len]at this;omega)];exact hP h1 u1 V1
 | succ k ih =>
  intro m hm;rw[k1i];refine qw W (qw I ?_);rw[show Int.tmod ((l[j]:Nat):Int) 64=((l[j]%64:Nat):Int)from rfl];refine qz (qbv (by omega)) ?_;have hp:2^(m+1)<2^64:=Nat.pow_lt_pow_right (by decide) (by omega)
  rw[ko (by omega),show IntKind.wrap .u64 (((2^m:Nat):Int)*2)=((2^(m+1):Nat):Int)from by
   have:((2^m:Nat):Int)*2=((2^(m+1):Nat):Int):=by rw[Nat.pow_succ];omega
   have ac:∀z:Nat,z<18446744073709551616->IntKind.wrap .u64 (z:Int)=(z:Int):=λz hz=>by rw[wrapU];omega
   rw[this,ac _ hp]]
  exact ih (m+1) (by omega)
theorem kbgh{l:List Nat}{n:Nat}(q:Sq EI h0 S s (zs l))(hl:∀x∈l,x<n)(hn:n<=65536){b c i:Nat}{t:Sl}(hb:h0.blks.size<=b)(Z:c≠i)(ac:b≠c)(I:b≠i)(hi:h0.blks.size<=i):∀(k j:Nat),j+k=l.length->∀(h:AH)(w:List Nat),Grow h0 h->(∃cs:List AV,cs.length=2/\h.has b cs ku)->h.has c [.i (n:Int),t.v] ku->Vec h t i w->w.length=(n+63)/64->(∀m,wbit w m=decide (m∈l.take j))->
  Runs (go (.pt kcn ki9 [(0,.i (n:Int)),(1,s.v),(4,.p (.new b 0)),(6,.p (.new c 0)),(7,.i (j:Int))]) h) (OfP h0 n l):=by
 intro k
 induction k with
 | zero =>
  intro j hj h w g ⟨cs,F,B⟩ C V K Q;obtain rfl:j=l.length:=by omega
  rw[kzp,q.len,zs_len];refine q0 (qbw (by omega)) (qcn C 0 rfl (qcm C 1 rfl ?_));refine qy B (by rw[F];rfl) λh1 B1 u1=>?_;refine qcn B1 0 rfl (qcm B1 1 rfl (qu ⟨g.updr hb u1,t,w,rfl,(V.updr (λe=>I e.symm) u1).nats,K,V.own hi,λm=>?_⟩));rw[Q,List.take_length]
 | succ k ih =>
  intro j hj h w g ⟨cs,F,B⟩ C V K Q;have H:j<l.length:=by omega
  have aa:j<(zs l).length:=by rw[zs_len];omega
  obtain⟨r,U,W⟩:=(q.grow g).int aa;have hx:(zs l)[j]=((l[j]:Nat):Int):=by simp[zs]
  rw[hx]at W;have ad:l[j]<n:=hl _ (qb0 H);have hq:l[j]/64<w.length:=by omega
  rw[kzp];rw[q.len,zs_len]at U|-;refine qz (qbv (by omega)) (qw U (qw W (q0 (qbw (by omega)) (qw U (qw W (q0 (qbw (by omega)) (qcn C 0 rfl (qcm C 1 rfl (qw U (qw W ?_))))))))))
  have ht:∀m,decide (m∈l.take (j+1))=(decide (m=l[j])||decide (m∈l.take j)):=λm=>by rw[qce H,Bool.eq_iff_iff];simp only[qb7,qbu,qb2,List.mem_singleton];exact Or.comm
  refine(k8x V.nats hq (by omega)).call λv h1 ⟨e,y⟩=>?_;subst e;refine qw (seen rfl) (qba (λc1=>?_) λc1=>?_)
  ·rw[ko (by have:=q.short;rw[zs_len]at this;omega)];refine ih (j+1) (by omega) h1 w (g.trans y) ⟨cs,F,y.has B⟩ (y.has C) (V.grow y) K λm=>?_;rw[ht,<- Q];by_cases e:m=l[j]
   ·rw[e,c1];simp
   ·rw[qbw e];simp
  ·refine kbge (n:=n) (b:=b) (c:=c) q H (by omega) (g.trans y) (y.has C) (V.grow y) hq c1 (λh' u' V'=>?_) (l[j]%64) 0 (by omega);refine ih (j+1) (by omega) h' _ ((g.trans y).updr hi u') ⟨cs,F,(y.has B).updr I u'⟩ ((y.has C).updr Z u') V' (by rw[qb4];exact K) λm=>?_;rw[k0z hq,Q,ht]
theorem k6s{l:List Nat}{n:Nat}(q:Sq EI h0 S s (zs l))(K:∀x∈l,x<n)(Q:n<=65536):Runs (go (.fn kcn [.i (n:Int),s.v]) h0) (OfP h0 n l):=by rw[kxk];refine qx λU b1 H=>q0 (qbw (by omega)) (q0 (qbw (by omega)) ?_);rw[wrap64 (n:=(n:Int)+63) (by omega) (by omega),show(n:Int)+63=((n+63:Nat):Int)from by omega,show Int.tdiv ((n+63:Nat):Int) 64=(((n+63)/64:Nat):Int)from rfl,wrap64 (by omega) (by omega)];refine Runs.mk (kdw (by omega)) kda λt I V C=>?_;refine qx λh3 b3 W=>qy b3 rfl λF b4 Z=>?_;have z1:=b1.lt;have z2:=C.size;have z3:=b3.lt;have z4:=V.inn;have y:Grow I F:=W.updr (qbn _) Z;have G4:Grow h0 F:=(H.trans C).trans y;exact kbgh q K Q (b:=h0.blks.size) (c:=I.blks.size) (i:=U.blks.size) (qbn _) (by omega) (by omega) (by omega) H.size l.length 0 (by omega) F _ G4 ⟨_,rfl,(C.trans y).has b1⟩ b4 (V.grow y) (by simp) λm=>by rw[k1h];simp
theorem kbf4{y:AH}{n:Nat}{l:List Nat}{f:Option (AV×AH)}{b:Nat}(R:Runs f (OfP y n l))(G:Grow h0 y)(K:h0.blks.size<=b){cs:List AV}(C:cs.length=2)(B:y.has b cs ku) :
  Runs (f.bind λq=>(AV.asTup2 q.1).bind λp=>(AV.asAgg p.1).bind λcs=>cond (Nat.beq cs.length 2) (((cs[0]?).bind (AV.asInt .i64)).bind λn=>((cs[1]?).bind AV.asSl).bind λl=>((some p.2).bind (AV.asInt .i64)).bind λe=>(q.2.puts (.new b 0) [.i n,l.v]).bind λh=>((h.cell ((Ref.new b 0).add 0)).bind (AV.asInt .i64)).bind λn=>((h.cell ((Ref.new b 0).add 1)).bind AV.asSl).bind λl=>some (.tup [.agg [.i n,l.v],.i e],h)) none) (OfP h0 n l):=by
 refine R.call λv V ⟨H,t,w,e,N,Q,o,U⟩=>?_;subst e;refine qw rfl (qw rfl (qz rfl (qw rfl (qw (seenAt rfl qck) (qw rfl ?_)))));dsimp only;have F:=B.lt;refine qy (H.has B) (by rw[C];rfl) λW b3 I=>?_;refine qcn b3 0 rfl (qcm b3 1 rfl (qu ⟨(G.trans H).updr K I,t,w,rfl,N.updr o F I,Q,o.of_le G,U⟩))
theorem kbao{n:Nat}(U:n<=65536){b:Nat}(W:h0.blks.size<=b):∀(k i:Nat),i+k=n->∀(h:AH)(o:Sl)(y:Option Nat),Grow h0 h->LeO h0.blks.size y->h.has b [.i 0,nV] ku->(∀k,y=some k->k≠b)->GF EI T.int h Fp.no o y (zs (List.range i))->
  Runs (go (.pt ke6 kl4 [(0,.i (n:Int)),(2,.p (.new b 0)),(4,o.v),(5,.i (i:Int))]) h) (OfP h0 n (List.range n)):=by
 intro k
 induction k with
 | zero =>
  intro i Z h o y G I B C V;obtain rfl:i=n:=by omega
  rw[kqr];refine q0 (qbw (by omega)) ?_;exact kbf4 (k6s V.sq (λx hx=>qci.1 hx) U) G W rfl B
 | succ k ih =>intro i Z h o y G I B C V;rw[kqr];refine qz (qbv (by omega)) (qz (qbv (by omega)) (qx λH b2 F=>?_));refine qw (kfe b2 (by rw[kja];rfl)) ?_;obtain⟨o',K,e3,V3,Q⟩:=(V.grow F).push (T:=Fp.no) (show EI.has H Fp.no [.i (i:Int)] (i:Int)from rfl) NotO.no (knv (by rw[zs_len,qch];omega));have aa:=B.lt;refine qw e3 (qw qck ?_);rw[ko (by omega)];have m3:Md (Fp.opt y) H K:=Q.md λk e=>e;refine ih (i+1) (by omega) K o' (some H.blks.size) ((G.trans F).updo I Q) (show _<=_ from(G.trans F).size) (m3.has (F.has B) λe=>C _ e rfl) (λk e=>by cases e;have:=F.size;omega) ?_;rw[List.range_succ,zs_app];exact V3.mono (λj x=>x.1.elim id id) NotO.no
theorem k5g{n:Nat}(y:n<=65536):Runs (go (.fn ke6 [.i (n:Int)]) h0) (OfP h0 n (List.range n)):=by rw[kzx];exact qx λC b1 F=>kbao y (qbn _) n 0 (by omega) C _ none F trivial b1 (λk e=>by cases e) (GF.none _ _ _ _)
variable{w1 w2:List Nat}
end
end Go.Ab
set_option maxRecDepth 10000
namespace Go.Ab
open Go.Proofs Go.Num
section
variable{h0:AH}{S:Fp}{s1 s2 s3 s u:Sl}{t:Tb}
theorem kbe5{n:Nat}(hn:65536<n)(Z:n<=9223372036854775807){b:Nat}(hb:h0.blks.size<=b):∀(k i:Nat),i+k=65537->∀(h:AH)(o:Sl)(F:Option Nat),Grow h0 h->LeO h0.blks.size F->h.has b [.i 0,nV] ku->(∀k,F=some k->k≠b)->GF EI T.int h Fp.no o F (zs (List.range i))->
  Runs (go (.pt ke6 kl4 [(0,.i (n:Int)),(2,.p (.new b 0)),(4,o.v),(5,.i (i:Int))]) h) λv h'=>Grow h0 h'/\v=.tup [.agg [.i 0,nV],.i 1]:=by
 have H:∀(h:AH)(o:Sl),Grow h0 h->h.has b [.i 0,nV] ku->Runs ((go (.fn kcn [.i (n:Int),o.v]) h).bind λq=>(AV.asTup2 q.1).bind λp=>(AV.asAgg p.1).bind λcs=>cond (Nat.beq cs.length 2) (((cs[0]?).bind (AV.asInt .i64)).bind λn=>((cs[1]?).bind AV.asSl).bind λl=>((some p.2).bind (AV.asInt .i64)).bind λe=>(q.2.puts (.new b 0) [.i n,l.v]).bind λh=>((h.cell ((Ref.new b 0).add 0)).bind (AV.asInt .i64)).bind λn=>((h.cell ((Ref.new b 0).add 1)).bind AV.asSl).bind λl=>some (.tup [.agg [.i n,l.v],.i e],h)) none) λv h'=>Grow h0 h'/\v=.tup [.agg [.i 0,nV],.i 1]:=by
  intro h o G B
  have k0:Runs (go (.fn kcn [.i (n:Int),o.v]) h) λv h'=>Grow h h'/\v=.tup [.agg [.i 0,nV],.i 1]:=by rw[kxk];refine qx λh1 b1 g1=>q0 (qbw (by omega)) (qz (qbv (by omega)) ?_);refine qy b1 rfl λI b2 u2=>qcn b2 0 rfl (qcm b2 1 rfl (qu ⟨g1.updr (qbn _) u2,rfl⟩))
  refine k0.call λv I ⟨y,e⟩=>?_;subst e;refine qw rfl (qw rfl (qz rfl (qw rfl (qw (seenAt rfl qck) (qw rfl ?_)))));dsimp only;refine qy (y.has B) rfl λU b3 Q=>?_;exact qcn b3 0 rfl (qcm b3 1 rfl (qu ⟨(G.trans y).updr hb Q,rfl⟩))
 intro k
 induction k with
 | zero =>
  intro i hi h o F G W B K V;rw[kqr];exact qba (λ_=>q0 (qbw (by omega)) (H h o G B)) λ_=>H h o G B
 | succ k ih =>intro i hi h o F G W B K V;rw[kqr];refine qz (qbv (by omega)) (qz (qbv (by omega)) (qx λI b2 y=>?_));refine qw (kfe b2 (by rw[kja];rfl)) ?_;obtain⟨o',U,e3,V3,Q⟩:=(V.grow y).push (T:=Fp.no) (show EI.has I Fp.no [.i (i:Int)] (i:Int)from rfl) NotO.no (knv (by rw[zs_len,qch];omega));have aa:=B.lt;refine qw e3 (qw qck ?_);rw[ko (by omega)];have m3:Md (Fp.opt F) I U:=Q.md λk e=>e;refine ih (i+1) (by omega) U o' (some I.blks.size) ((G.trans y).updo W Q) (show _<=_ from(G.trans y).size) (m3.has (y.has B) λe=>K _ e rfl) (λk e=>by cases e;have:=y.size;omega) ?_;rw[List.range_succ,zs_app];exact V3.mono (λj x=>x.1.elim id id) NotO.no
theorem kbda{n:Nat}(H:n<=9223372036854775807):Runs (go (.fn ke6 [.i (n:Int)]) h0) λv h'=>Grow h0 h'/\∃(m:Int)(y:Sl)(w:List Nat)(e:Int),v=.tup [.agg [.i m,y.v],.i e]/\Nats h' y w/\(n<=65536->m=(n:Int)/\btR (n:Int) w=true/\btL (n:Int) w=List.range n):=by
 by_cases h:n<=65536
 ·refine(k5g h).imp λv h' ⟨g,y,w,e,N,I,o,K⟩=>⟨g,n,y,w,0,e,N,λ_=>⟨rfl,?_⟩⟩;obtain⟨a,b⟩:=ofP_bt h (λx F=>qci.1 F) I K;refine⟨a,b.trans ?_⟩;rw[List.filter_eq_self];intro x F;exact qbv F
 ·have:Runs (go (.fn ke6 [.i (n:Int)]) h0) λv h'=>Grow h0 h'/\v=.tup [.agg [.i 0,nV],.i 1]:=by
   rw[kzx];exact qx λQ b1 U=>kbe5 (by omega) H (qbn _) 65537 0 (by omega) Q _ none U trivial b1 (λk e=>by cases e) (GF.none _ _ _ _)
  exact this.imp λv h' ⟨g,e⟩=>⟨g,0,_,[],1,e,qq _,λx=>absurd x h⟩
end
theorem kbec{y:List Nat}{C:List (List Nat)}{R:Nat×Nat->List Nat}{D:List (Nat×Nat)}{i:Nat}(F:i<D.length):(sumsC y C R D)[i]'(by unfold sumsC;rw[qby];exact F)=prodC y C (R D[i]) [1]:=by
 have h:i<(D.map λp=>prodC y C (R p) [1]).length:=by rw[qby];exact F
 exact List.getElem_map (λp=>prodC y C (R p) [1]) (h:=h)
section
variable{h0:AH}{S Su So:Fp}{s1 s2 s3 s u ms ys zs':Sl}{t:Tb}{p q:Nat}{C:List (List Nat)}(k:KeyOk p q)(p2:p<1099511627776)(q2:q<1099511627776)(hb:badF (p:Int) (q:Int)=false)(may:kz (digs B (p*q))=true)(lC:∀c∈C,∀x∈c,x<B)(hv:∀c∈C,kb3 (digs B (p*q)) c=true)
include k p2 q2 hb may lC hv
end
end Go.Ab
set_option maxRecDepth 10000
namespace Go.Ab
open Go.Proofs Go.Num
section
variable{p q:Nat}(k:KeyOk p q)(p2:p<1099511627776)(q2:q<1099511627776)(may:kz (digs B (p*q))=true)
include k p2 q2 may
end
section
variable{h0:AH}{S Su Sa Sb Sc:Fp}{s1 s2 s3 s u as1 bs1 cs':Sl}{t:Tb}{p q:Nat}{C:List (List Nat)}(k:KeyOk p q)(p2:p<1099511627776)(q2:q<1099511627776)(hb:badF (p:Int) (q:Int)=false)(may:kz (digs B (p*q))=true)(lC:∀c∈C,∀x∈c,x<B)(hv:∀c∈C,kb3 (digs B (p*q)) c=true)
include k p2 q2 hb may lC hv
end
section
variable{h0:AH}{S Su:Fp}{s1 s2 s3 z u:Sl}{t:Tb}{C:List (List Nat)}{ns:List Nat}
end
theorem kt3{p q:Nat}(k:KeyOk p q)(y:128<=p)(p2:p<1099511627776)(F:128<=q)(q2:q<1099511627776):kz (digs B (p*q))=true:=by
 have odd:∀{x:Nat},IsPrime x->128<=x->x%2=1:=λ{x} h U=>by
  rcases Nat.mod_two_eq_zero_or_one x with e | e
  ·rcases h.2 2 (Nat.dvd_of_mod_eq_zero e)with H | H<;>omega
  ·exact e
 have r:rt (digs B (p*q))=true:=kn (up64 (key_lt p2 q2));have lo:2^14<=p*q:=qbo (by decide:2^14<=128*128) (Nat.mul_le_mul y F);have I:p*q<2^80:=qbp (Nat.mul_lt_mul'' p2 q2) (by decide);have hb:bitsN (digs B (p*q))=bl (p*q):=by unfold bitsN;rw[if_pos r,kg B2]
 have K:=bl_le I
 have Q:15<=bl (p*q):=by
  rcases Nat.lt_or_ge (bl (p*q)) 15 with h | h
  ·have V:=(bl_Bl (p*q)).1;have:2^bl (p*q)<=2^14:=Nat.pow_le_pow_right (by decide) (by omega);omega
  ·exact h
 have h0:bitN (digs B (p*q)) 0=true:=by rw[show(0:Int)=((0:Nat):Int)from rfl,km5 r,kg B2,Nat.testBit_zero,qbu,Nat.mul_mod,odd k.hp y,odd k.hq F]
 unfold kz;rw[r,h0,hb,qbv (by omega),qbv (by omega)];rfl
theorem kbho{ns:List Nat}{t:Tb}{w:List Nat}{C:List (List Nat)}(may:kz ns=true)(H:tabR t=true)(I:btR (t.ids.length:Int) w=true)(K:C.length=t.ids.length)(hv:∀c∈C,kb3 ns c=true):kea ns t (t.ids.length:Int) w C=(sumsC (kbd ns) C (rowsL t (t.ids.length:Int) w) (cutsL t),0):=by
 have F:faultH t (t.ids.length:Int) w (C.length:Int)=0:=by unfold faultH;rw[H,I,K];simp
 have y:oddC ns C=false:=by unfold oddC;rw[List.any_eq_false];intro c Q;rw[hv c Q];simp
 unfold kea;rw[if_neg (by rw[may];simp),if_pos F,if_neg (by rw[y];simp)]
end Go.Ab
namespace Go.Ab
def encZ(N:Nat)(x:Int):Nat:=(x%(N:Int)).toNat
def decZ(N m:Nat):Int:=if m<=N/2 then(m:Int)else(m:Int)-(N:Int)
theorem ko9{N:Nat}(h:0<N)(x:Int):encZ N x<N:=by unfold encZ;have y:=Int.emod_lt_of_pos x (show(0:Int)<N by omega);have C:=Int.emod_nonneg x (show(N:Int)≠0 by omega);omega
theorem k2t{N:Nat}(h:0<N)(x:Int):((encZ N x:Nat):Int)=x%(N:Int):=by unfold encZ;exact Int.toNat_of_nonneg (Int.emod_nonneg x (by omega))
theorem kw9{N:Nat}{x:Int}(h0:0<=x)(y:x<N):encZ N x=x.toNat:=by unfold encZ;rw[Int.emod_eq_of_lt h0 y]
theorem k0n{N:Nat}{x:Int}(h0:x<0)(y:-(N:Int)<=x):encZ N x=N-(-x).toNat:=by
 unfold encZ
 have:x%(N:Int)=x+N:=by rw[<- Int.add_emod_right];exact Int.emod_eq_of_lt (by omega) (by omega)
 rw[this];omega
theorem k9s{N:Nat}(y:N%2=1){x:Int}(C:-((N/2:Nat):Int)<=x)(F:x<=((N/2:Nat):Int)):decZ N (encZ N x)=x:=by
 by_cases c:0<=x
 ·rw[kw9 c (by omega)];unfold decZ;rw[if_pos (by omega)];omega
 ·rw[k0n (by omega) (by omega)];unfold decZ;rw[if_neg (by omega)];omega
def sumI(x:Nat->Int)(l:List Nat)(a:Int):Int:=l.foldl (λa i=>a+x i) a
theorem kwl{N:Nat}(h:0<N)(x:Nat->Int):∀(l:List Nat)(M:Nat)(y:Int),(M:Int)%N=y%N->l.foldl (λM i=>M+encZ N (x i)) M%N=encZ N (sumI x l y)
 | [],M,y,e=>by
  show M%N=encZ N y;have:=k2t h y;omega
 | i::l,M,y,e=>by unfold sumI;rw[List.foldl_cons,List.foldl_cons];refine kwl h x l (M+encZ N (x i)) (y+x i) ?_;rw[Int.natCast_add,k2t h,Int.add_emod,Int.emod_emod,<- Int.add_emod,Int.add_emod M,e,<- Int.add_emod]
theorem k3t(g:Nat->Int)(W:Int):∀(l:List Nat)(G H:Int),sumI (λi=>g i*W+1) l (G*W+H)=sumI g l G*W+(H+l.length)
 | [],G,H=>by simp[sumI]
 | i::l,G,H=>by have:=k3t g W l (G+g i) (H+1);unfold sumI at this|-;rw[List.foldl_cons,List.foldl_cons,List.length_cons,show G*W+H+(g i*W+1)=(G+g i)*W+(H+1) by rw[Int.add_mul];omega,this];omega
theorem ksi{g:Nat->Int}{m:Int}:∀(l:List Nat)(a:Int),(∀i∈l,-m<=g i/\g i<=m)->a-l.length*m<=sumI g l a/\sumI g l a<=a+l.length*m
 | [],a,_=>by simp[sumI]
 | i::l,a,h=>by have C:=h i (by simp);have:=ksi l (a+g i) λj y=>h j (by simp[y]);unfold sumI at this|-;rw[List.foldl_cons,List.length_cons,Int.natCast_add,Int.add_mul];omega
theorem kbcp{G H W:Int}(h0:0<=H)(y:H<W):(G*W+H)/W=G/\(G*W+H)%W=H:=by
 have C:W≠0:=by omega
 constructor
 ·rw[Int.add_comm,Int.add_mul_ediv_right _ _ C,Int.ediv_eq_zero_of_lt h0 y,Int.zero_add]
 ·rw[Int.add_comm,Int.add_mul_emod_self_right,Int.emod_eq_of_lt h0 y]
theorem k9m{g:Nat->Int}{W:Int}{l:List Nat}{r:Nat}(F:l.length<=r)(H:(r:Int)<W)(y:∀i∈l,-1000<=g i/\g i<=1000):-((r*1000+1)*W-1)<=sumI g l 0*W+l.length/\sumI g l 0*W+l.length<=(r*1000+1)*W-1:=by
 obtain⟨I,K⟩:=ksi l 0 y;have Q:(l.length:Int)*1000<=r*1000:=by omega
 have U:=Int.mul_le_mul_of_nonneg_right (show sumI g l 0<=r*1000 by omega) (show 0<=W by omega);have C:=Int.mul_le_mul_of_nonneg_right (show -(r*1000:Int)<=sumI g l 0 by omega) (show 0<=W by omega);rw[Int.add_mul];rw[Int.neg_mul]at C;generalize sumI g l 0*W=u at *
 generalize (r:Int)*1000*W=v at *
 omega
end Go.Ab
set_option maxRecDepth 10000
namespace Go.Ab
open Go.Proofs Go.Num
theorem kkx{p q:Nat}(k:KeyOk p q)(p1:128<=p)(q1:128<=q):p*q%2=1:=by
 have odd:∀{x:Nat},IsPrime x->128<=x->x%2=1:=λ{x} h C=>by
  rcases Nat.mod_two_eq_zero_or_one x with e | e
  ·rcases h.2 2 (Nat.dvd_of_mod_eq_zero e)with y | y<;>omega
  ·exact e
 rw[Nat.mul_mod,odd k.hp p1,odd k.hq q1]
section
variable{p q:Nat}(k:KeyOk p q)(p1:128<=p)(p2:p<1099511627776)(q1:128<=q)(q2:q<1099511627776)
include k p1 p2 q1 q2
theorem ksg{m:Nat}(C:m<p*q):(encF (digs B (p*q)) (digs B m) [2]).2=0:=by
 have F:=key_lt p2 q2;have y:rt (digs B (p*q))=true:=kn (up64 F);have H:rt (digs B m)=true:=kn (up64 (Nat.lt_trans C F));have lo:128*128<=p*q:=Nat.mul_le_mul p1 q1
 have I:kc6 (digs B (p*q)) (digs B m)=true:=by unfold kc6;rw[H,cond_true,qbu,kh7 H y,kg B2,kg B2];exact cmp_lt.2 C
 have K:kbr [2] (digs B (p*q)) (digs B (p*q))=true:=by
  refine(krw (by decide) y (kcf B2 _) y).2 ⟨by decide,by decide,?_,?_⟩
  ·rw[kg B2,show num B [2]=2 by decide];omega
  ·rw[kg B2,show num B [2]=2 by decide,Nat.gcd_rec,kkx k p1 q1];decide
 unfold encF;rw[kt3 k p1 p2 q1 q2,I,K];rfl
noncomputable def packC(p q:Nat)(W:Int)(g:List Int):List (List Nat):=g.map λx=>(encF (digs B (p*q)) (digs B (encZ (p*q) (x*W+1))) [2]).1
theorem ksj(W:Int)(g:List Int):(∀c∈packC p q W g,kb3 (digs B (p*q)) c=true)/\∀i,i<g.length->hidOf p q (num B ((packC p q W g).getD i []))=encZ (p*q) (g.getD i 0*W+1):=by
 have h0:=kez k
 have one:∀x:Int,kb3 (digs B (p*q)) (encF (digs B (p*q)) (digs B (encZ (p*q) (x*W+1))) [2]).1=true/\hidOf p q (num B (encF (digs B (p*q)) (digs B (encZ (p*q) (x*W+1))) [2]).1)=encZ (p*q) (x*W+1):=λx=>by obtain⟨a,-,b⟩:=k5s k p2 q2 (kcf B2 _) (by decide) (ksg k p1 p2 q1 q2 (ko9 h0 (x*W+1)));rw[kg B2]at b;exact⟨a,b⟩
 refine⟨λc C=>?_,λi y=>?_⟩
 ·obtain⟨x,-,rfl⟩:=List.mem_map.1 C;exact(one x).1
 ·have F:(packC p q W g).getD i []=(encF (digs B (p*q)) (digs B (encZ (p*q) (g[i]*W+1))) [2]).1:=by simp[packC,List.getD,y]
  have H:g.getD i 0=g[i]:=by simp[List.getD,y]
  rw[F,H];exact(one _).2
theorem kzg(W:Int){g:List Int}:∀(l:List Nat)(M:Nat),(∀i∈l,i<g.length)->sumD p q (packC p q W g) l M=l.foldl (λM i=>M+encZ (p*q) (g.getD i 0*W+1)) M
 | [],M,_=>rfl
 | i::l,M,h=>by unfold sumD;rw[List.foldl_cons,List.foldl_cons,(ksj k p1 p2 q1 q2 W g).2 i (h i (by simp))];exact kzg W l _ λj y=>h j (by simp[y])
theorem kbgs(U:badF (p:Int) (q:Int)=false){W:Int}{g:List Int}{r:Nat}(hr:g.length<=r)(V:(r:Int)<W)(Z:∀x∈g,-1000<=x/\x<=1000)(K:(r*1000+1)*W-1<=((p*q/2:Nat):Int)){l:List Nat}(y:∀i∈l,i<g.length)(C:l.length<=r) :
  ∃m:Nat,m<p*q/\decF (p:Int) (q:Int) (prodC (digs B (p*q*(p*q))) (packC p q W g) l [1])=(digs B m,0)/\decZ (p*q) m/W=sumI (λi=>g.getD i 0) l 0/\decZ (p*q) m%W=l.length:=by
 have h0:=kez k;obtain⟨hv,-⟩:=ksj k p1 p2 q1 q2 W g;have F:∀i∈l,i<(packC p q W g).length:=λi H=>by unfold packC;rw[qby];exact y i H
 have lC:∀c∈packC p q W g,∀x∈c,x<B:=λc hc=>by obtain⟨x,-,rfl⟩:=List.mem_map.1 hc;obtain⟨-,-,-,-,e⟩:=kz7 k p2 q2 (kcf B2 _) (by decide) (ksg k p1 p2 q1 q2 (ko9 h0 (x*W+1)));rw[e];exact kcf B2 _
 have I:∀i∈l,-1000<=g.getD i 0/\g.getD i 0<=1000:=λi H=>by
  have:=y i H;have e:g.getD i 0=g[i]:=by simp[List.getD,this]
  rw[e];exact Z _ (qb0 this)
 have Q:=k3t (λi=>g.getD i 0) W l 0 0;rw[Int.zero_mul,Int.zero_add,Int.zero_add]at Q;obtain⟨b1,b2⟩:=k9m (g:=λi=>g.getD i 0) C V I;refine⟨encZ (p*q) (sumI (λi=>g.getD i 0*W+1) l 0),ko9 h0 _,?_,?_⟩
 ·rw[kbhn k p2 q2 lC hv U (kt3 k p1 p2 q1 q2) F,kzg k p1 p2 q1 q2 W l 0 y,kwl h0 (λi=>g.getD i 0*W+1) l 0 0 rfl]
 ·rw[Q,k9s (kkx k p1 q1) (by omega) (by omega)];exact kbcp (by omega) (by omega)
end
theorem kbb4{g:List Int}(l:List Nat):∀(a:Int),(∀i∈l,-1000<=g.getD i 0/\g.getD i 0<=1000)->-1000000+(l.length:Int)*1000<=a->a<=1000000-(l.length:Int)*1000->sumG g l a=sumI (λi=>g.getD i 0) l a:=by
 induction l with
 | nil =>
  intro a _ _ _;unfold sumG sumI;rw[List.foldl_nil,List.foldl_nil]
 | cons i l ih =>intro a h y C;rw[qbz]at y C;obtain⟨b1,b2⟩:=h i List.mem_cons_self;have:=ih (a+g.getD i 0) (λj F=>h j (List.mem_cons_of_mem _ F)) (by omega) (by omega);unfold sumG sumI at this|-;rw[List.foldl_cons,List.foldl_cons,wrap64 (by omega) (by omega)];exact this
end Go.Ab
namespace Go.Ab
open Go.Num
def halfL:List Nat->List Nat
 | []=>[]
 | x::t=>(x/2+t.headD 0%2*9223372036854775808)::halfL t
theorem kpa:∀xs:List Nat,(halfL xs).length=xs.length
 | []=>rfl
 | x::t=>by rw[halfL,qbz,qbz,kpa t]
theorem kwx:∀{xs:List Nat}{i:Nat}(h:i<xs.length),(halfL xs)[i]'(by rw[kpa];exact h)=xs[i]/2+xs.getD (i+1) 0%2*9223372036854775808
 | [],i,h=>by cases h
 | x::t,0,h=>by
  cases t<;>simp[halfL,List.getD]
 | x::t,i+1,h=>by have:=kwx (xs:=t) (i:=i) (by simpa using h);simp only[halfL,List.getElem_cons_succ,this,List.getD,List.getElem?_cons_succ]
theorem k7i(t:List Nat):num B t%2=t.headD 0%2:=by
 cases t with
 | nil=>simp[num]
 | cons x t =>simp only[num,List.headD_cons];have:B=2*9223372036854775808:=rfl;rw[this,Nat.mul_assoc];omega
theorem kzd:∀xs:List Nat,num B (halfL xs)=num B xs/2
 | []=>by simp[halfL,num]
 | x::t=>by simp only[halfL,num];rw[kzd t,<- k7i];have:B=2*9223372036854775808:=rfl;rw[this,Nat.mul_assoc];generalize num B t=R;omega
end Go.Ab
set_option maxRecDepth 10000
namespace Go.Ab
open Go.Proofs Go.Num
def ZI(h:AH)(b:Bool)(s:Sl)(z:Int):Prop:=b=(intD z).1/\Nats h s (intD z).2
theorem ZI.upd{h h' h0:AH}{b:Bool}{s:Sl}{z:Int}{i:Nat}(n:ZI h b s z)(o:Own h0 s)(y:i<h0.blks.size)(u:Upd h h' i):ZI h' b s z:=⟨n.1,n.2.upda (qbh o y) u⟩
theorem ZI.grow{h h':AH}{b:Bool}{s:Sl}{z:Int}(n:ZI h b s z)(g:Grow h h'):ZI h' b s z:=⟨n.1,n.2.grow g⟩
section
variable{h:AH}{a b:Bool}{s t:Sl}{u v:Int}
theorem zof{n:Int}(F:-9223372036854775808<=n)(H:n<=9223372036854775807):Runs (go (.fn kc8 [.i n]) h) λw h'=>∃(c:Bool)(y:Sl),w=.agg [.bool c,y.v]/\ZI h' c y n/\Grow h h'/\Own h y:=by obtain⟨y,h',e,C,g,o⟩:=kzy (h:=h) F H;rw[ksy (by omega)]at e C;exact⟨_,h',e,_,y,rfl,⟨rfl,C⟩,g,o⟩
theorem zadd(x:ZI h a s u)(y:ZI h b t v)(F:u.natAbs<B^64)(hv:v.natAbs<B^64)(H:(u+v).natAbs<B^64):Runs (go (.fn kfg [.agg [.bool a,s.v],.agg [.bool b,t.v]]) h) λw h'=>∃(c:Bool)(y:Sl),w=.tup [.agg [.bool c,y.v],.i 0]/\ZI h' c y (u+v)/\Grow h h'/\Own h y:=by obtain⟨rfl,x⟩:=x;obtain⟨rfl,y⟩:=y;obtain⟨w,h',e,o,C,n,g,own⟩:=ksn x y (intD u).1 (intD v).1;rw[kr1 F hv,if_pos H]at C n;exact⟨w,h',e,_,o,C,⟨rfl,n⟩,g,own⟩
theorem zsub(x:ZI h a s u)(y:ZI h b t v)(F:u.natAbs<B^64)(hv:v.natAbs<B^64)(H:(u-v).natAbs<B^64):Runs (go (.fn kfk [.agg [.bool a,s.v],.agg [.bool b,t.v]]) h) λw h'=>∃(c:Bool)(y:Sl),w=.tup [.agg [.bool c,y.v],.i 0]/\ZI h' c y (u-v)/\Grow h h'/\Own h y:=by obtain⟨rfl,x⟩:=x;obtain⟨rfl,y⟩:=y;obtain⟨w,h',e,o,C,n,g,own⟩:=kn7 x y (intD u).1 (intD v).1;rw[kn6 F hv,if_pos H]at C n;exact⟨w,h',e,_,o,C,⟨rfl,n⟩,g,own⟩
theorem zmul(x:ZI h a s u)(y:ZI h b t v)(F:u.natAbs<B^64)(hv:v.natAbs<B^64)(H:(u*v).natAbs<B^64):Runs (go (.fn kg5 [.agg [.bool a,s.v],.agg [.bool b,t.v]]) h) λw h'=>∃(c:Bool)(y:Sl),w=.tup [.agg [.bool c,y.v],.i 0]/\ZI h' c y (u*v)/\Grow h h'/\Own h y:=by obtain⟨rfl,x⟩:=x;obtain⟨rfl,y⟩:=y;obtain⟨w,h',e,o,C,n,g,own⟩:=kmq x y (intD u).1 (intD v).1;rw[kly F hv,if_pos H]at C n;exact⟨w,h',e,_,o,C,⟨rfl,n⟩,g,own⟩
theorem zfloor(x:ZI h a s u)(y:ZI h b t v)(H:u.natAbs<B^64)(hv:v.natAbs<B^64)(h0:0<v):Runs (go (.fn kiw [.agg [.bool a,s.v],.agg [.bool b,t.v]]) h) λw h'=>∃(c d:Bool)(y z:Sl),w=.tup [.agg [.bool c,y.v],.agg [.bool d,z.v],.i 0]/\ZI h' c y (u/v)/\ZI h' d z (u%v)/\Grow h h'/\Own h y/\Own h z:=by obtain⟨rfl,x⟩:=x;obtain⟨rfl,y⟩:=y;obtain⟨w,h',e,o,I,F,n,m,g,own,C⟩:=kvh x y (intD u).1 (intD v).1;rw[ksx H hv h0]at F n m;exact⟨w,h',e,_,_,o,I,F,⟨rfl,n⟩,⟨rfl,m⟩,g,own,C⟩
theorem zsmall(x:ZI h a s u)(y:-9223372036854775808<=u)(C:u<=9223372036854775807):Runs (go (.fn kk3 [.agg [.bool a,s.v]]) h) λw h'=>w=.tup [.i u,.bool true]/\Grow h h':=by obtain⟨rfl,x⟩:=x;obtain⟨h',e,g⟩:=kbb6 x (intD u).1;rw[kbio y C]at e;exact⟨_,h',e,rfl,g⟩
theorem zfrom{n:Nat}(N:Nats h s (digs B n))(H:n<B^64)(C:Bool):Runs (go (.fn kbj [.bool C,s.v]) h) λw h'=>∃(c:Bool)(y:Sl),w=.agg [.bool c,y.v]/\ZI h' c y (if C=true then -(n:Int)else(n:Int))/\Grow h h'/\Own h y:=by obtain⟨y,h',e,F,g,o⟩:=kbx N C;rw[kcs H]at e F;exact⟨_,h',e,_,y,rfl,⟨rfl,F⟩,g,o⟩
theorem ncmp{x y:Nat}(N:Nats h s (digs B x))(M:Nats h t (digs B y))(C:x<B^64)(F:y<B^64):Runs (go (.fn kbv [s.v,t.v]) h) λw h'=>w=.i (cmp x y)/\Grow h h':=by obtain⟨h',e,g⟩:=kco N M;rw[kh7 (kn C) (kn F),kg B2,kg B2]at e;exact⟨_,h',e,rfl,g⟩
theorem nsub{x y:Nat}(N:Nats h s (digs B x))(M:Nats h t (digs B y))(C:x<B^64)(F:y<=x):Runs (go (.fn kew [s.v,t.v]) h) λw h'=>∃z:Sl,w=.tup [z.v,.i 0]/\Nats h' z (digs B (x-y))/\Grow h h':=by
 obtain⟨z,h',e,n,g,-⟩:=kkk N M
 have q:subN (digs B x) (digs B y)=(digs B (x-y),0):=by unfold subN;rw[if_pos ⟨kn C,kn (by omega)⟩,kg B2,kg B2,if_neg (by omega)]
 rw[q]at e n;exact⟨_,h',e,z,rfl,n,g⟩
end
theorem ksf{n:Nat}(h:n<B^64):told n=(digs B n,0):=by unfold told;rw[if_pos h]
theorem kwk{l:List Nat}{i w:Nat}(h:i<l.length):(l.set i w).getD i 0=w:=by simp[List.getD,h]
theorem kblf{x y:Nat}(K:x<18446744073709551616):ior .u64 ((x/2:Nat):Int) (ishl .u64 (y:Int) ((63:Nat):Int))=((x/2+y%2*9223372036854775808:Nat):Int):=by
 rw[ki7 _ _ (by decide)];have C:(2:Nat)^63=9223372036854775808:=by decide
 have F:y*2^63%18446744073709551616=y%2*2^63:=by rw[C];omega
 have H:y%2*2^63<18446744073709551616:=by rw[C];omega
 have I:x/2<2^63:=by rw[C];omega
 rw[F,ks7,koc H I (by decide),Nat.add_comm,C]
section
variable{hE:AH}{s t:Sl}{xs:List Nat}{j:Nat}
theorem shr_9(N:Nats hE s xs)(hx:num B xs<B^64)(hj:hE.blks.size<=j):∀(n i:Nat),i+n=xs.length->∀(h:AH)(o:List Nat),Grow hE h->Vec h t j o->o.length=xs.length->(∀k,k<i->o.getD k 0=(halfL xs).getD k 0)->
  Runs (go (.pt kf4 kkb [(0,s.v),(6,.int .u64 1),(7,t.v),(34,.i (xs.length:Int)),(35,.i (i:Int))]) h) λv h'=>∃y:Sl,v=.tup [y.v,.i 0]/\Nats h' y (digs B (num B xs/2))/\Grow hE h':=by
 intro n
 induction n with
 | zero =>
  intro i hi h o g V Z hs
  have e:o=halfL xs:=by
   apply List.ext_getElem
   ·rw[Z,kpa]
   ·intro k F h2;have:=hs k (by omega)
    simpa[List.getD,F,h2]using this
  subst e;obtain⟨y,e1,n1,-⟩:=kl5 V.nats;rw[kzd,ksf (by omega)]at e1 n1;rw[kx5];exact q0 (qbw (by omega)) (qw e1 (qw rfl (qw (seen qck) (qw (seen qcl) (qu ⟨y,rfl,n1,g⟩)))))
 | succ n ih =>
  intro i hi h o g V Z hs;have H:i<xs.length:=by omega
  have C:i<o.length:=by omega
  have ag:=N.short;have aa:=N.lt _ (qb0 H);obtain⟨r1,e1,c1⟩:=(N.grow g).atI (kb4 H);rw[kx5];rw[N.len,V.len];refine qz (qbv (by omega)) (qw e1 (qw (rdc c1 qcl) (q0 (qbw (by decide)) ?_)));rw[show ishr .u64 (xs[i]:Int) 1=((xs[i]/2:Nat):Int)from kb8 xs[i] 1];refine qw (V.idx rfl (kx C)) (qbf V rfl (kx C) (kbm (by omega)) λh9 I u9=>?_);have G9:Grow hE h9:=g.updr hj u9;have K:(o.set i (xs[i]/2)).length=o.length:=qb4;refine qz (qbv (by decide)) ?_;rw[ko (by omega)];have Q:=kwx H
  have U:(halfL xs).getD i 0=xs[i]/2+xs.getD (i+1) 0%2*9223372036854775808:=by rw[<- Q];simp[List.getD,kpa,H]
  refine qba (λc=>?_) λc=>?_
  ·rw[qbu]at c;have F:i+1<xs.length:=by omega
   have hy:=N.lt _ (qb0 F);obtain⟨r2,e2,c2⟩:=(N.grow G9).atI (kb4 F);have ac:xs.getD (i+1) 0=xs[i+1]:=by simp[List.getD,F]
   refine qw (I.idx K (kx C)) (qw (I.rd K (kx C) qcl) (qw e2 (qw (rdc c2 qcl) ?_)));rw[show IntKind.wrap .u64 (64-1)=((63:Nat):Int) by decide];refine q0 (qbw (by decide)) ?_;have W:(o.set i (xs[i]/2)).getD i 0=xs[i]/2:=by simp[List.getD,C]
   rw[W,kblf aa]
   have hw:xs[i]/2+xs[i+1]%2*9223372036854775808<18446744073709551616:=by
    generalize xs[i+1]=y at *
    generalize xs[i]=x at *
    omega
   refine qw (I.idx K (kx C)) (qbf I K (kx C) (kbm hw) λad ae af=>?_);refine ih (i+1) (by omega) ad _ (G9.updr hj af) ae (by rw[qb4,qb4];exact Z) λk hk=>?_;rcases Nat.lt_or_ge k i with h | h
   ·rw[<- hs k h];have F:i≠k:=by omega
    simp[List.getD,List.getElem?_set_ne F]
   ·obtain rfl:k=i:=by omega
    rw[U,ac];exact kwk (by rw[K];exact C)
  ·rw[qbt]at c;have F:¬i+1<xs.length:=by omega
   refine ih (i+1) (by omega) h9 _ G9 I (by rw[qb4];exact Z) λk hk=>?_;rcases Nat.lt_or_ge k i with h | h
   ·rw[<- hs k h];have F:i≠k:=by omega
    simp[List.getD,List.getElem?_set_ne F]
   ·obtain rfl:k=i:=by omega
    have h2:xs.getD (k+1) 0=0:=by simp[List.getD,F]
    rw[U,h2,Nat.zero_mod,Nat.zero_mul,Nat.add_zero];exact kwk C
theorem k9g{x:Nat}(N:Nats hE s (digs B x))(C:x<B^64):Runs (go (.fn kf4 [s.v,.i 1]) hE) λv h'=>∃y:Sl,v=.tup [y.v,.i 0]/\Nats h' y (digs B (x/2))/\Grow hE h':=by
 have I:rt (digs B x)=true:=kn C;have K:=N.short;rw[kbbj,N.len];refine qw (kbt N) (qw (seen rfl) (q0 (by rw[I];rfl) (q0 (qbw (by decide)) ?_)));rw[show IntKind.wrap .i64 (Int.tdiv 1 64)=((0:Nat):Int) by decide,show IntKind.wrap .u64 (Int.tmod 1 64)=1 by decide];refine qba (λc=>?_) λc=>?_
 ·rw[qbu]at c;have h0:digs B x=[]:=List.length_eq_zero_iff.1 (by omega);have F:x=0:=(kcr B2).1 h0;subst F;exact qu ⟨⟨none,0,.is 0⟩,rfl,by rw[show(0:Nat)/2=0 from rfl,kbu];exact qq _,qk _⟩
 ·obtain⟨s',Q,n1,-⟩:=N.cut (l:=0) (n:=(digs B x).length) (Nat.zero_le _) (qbn _);rw[List.drop_zero,Nat.sub_zero,List.take_length]at n1;refine qw Q ?_;rw[n1.len];have H:(digs B x).length<=64:=(kbg B2 x 64).2 C;refine Runs.mk (kdw (by omega)) kda λs3 U V W=>?_;have:=shr_9 (t:=s3) n1 (by rw[kg B2];exact C) (qbn _) (digs B x).length 0 (by omega) U _ W V qb5 λk hk=>by omega
  rw[kg B2]at this;exact this
theorem kbhp{x:Nat}(N:Nats hE s (digs B x))(H:x<B^32){k:Nat}(hk:k<=62):Runs (go (.fn kvg [s.v,.i (k:Int)]) hE) λv h'=>∃y:Sl,v=.tup [y.v,.i 0]/\Nats h' y (digs B (x*2^k))/\Grow hE h':=by
 have I:x<B^64:=qbp H (Nat.pow_le_pow_right (by decide) (by decide));have hr:rt (digs B x)=true:=kn I;have hl:(digs B x).length<=32:=(kbg B2 x 32).2 H
 have C:x*2^k<B^64:=by
  have h1:2^k<=2^64:=Nat.pow_le_pow_right (by decide) (by omega)
  calc x*2^k<=x*2^64:=Nat.mul_le_mul_left _ h1
   _<B^32*2^64:=Nat.mul_lt_mul_of_pos_right H (by decide)
   _<=B^64:=by decide
 rw[kbce,N.len];refine qw (kbt N) (qw (seen rfl) (q0 (by rw[hr];rfl) (q0 (qbw (by omega)) ?_)));refine qba (λc=>?_) λc=>?_
 ·rw[qbu]at c;have h0:digs B x=[]:=List.length_eq_zero_iff.1 (by omega);have K:x=0:=(kcr B2).1 h0;subst K;exact qu ⟨⟨none,0,.is 0⟩,rfl,by rw[Nat.zero_mul,kbu];exact qq _,qk _⟩
 ·have t1:IntKind.wrap .i64 (Int.tdiv (k:Int) 64)=((0:Nat):Int):=by
   rw[Int.tdiv_eq_ediv_of_nonneg (Int.natCast_nonneg _),wrap64 (by omega) (by omega)];omega
  have t2:IntKind.wrap .u64 (Int.tmod (k:Int) 64)=(k:Int):=by rw[Int.tmod_eq_emod_of_nonneg (Int.natCast_nonneg _),wrapU];omega
  rw[t1,t2];refine q0 (qbw (by omega)) ?_;refine Runs.mk (kdw (by omega)) kda λs3 h3 W Q=>?_;obtain⟨r,it,r1,r2,r3⟩:=krp (n:=k) N.lt (by omega) (by omega);refine(kwe it (N.grow Q)).call λv h4 ⟨y,j,e,V,F,hj⟩=>?_;subst e;obtain⟨e0,b3⟩:=W.has;refine qw (seen qck) (qbb (F.same b3 0 0) ?_);refine qw (kbgf V.nats) ?_;obtain⟨s5,h5,e5,n5,g5,-⟩:=kber (h0:=hE) (F.has b3) V.nats (Q.trans F) (qbn _) (by omega)
  have U:s3=⟨some (.new hE.blks.size 0),0,.is 0⟩:=by
   have:=W.is
   simpa using this
  rw[U];refine qw e5 (qw qck ?_);obtain⟨s6,Z,n6,-⟩:=kl5 n5;rw[r3,kg B2,ksf C]at Z n6;refine qw Z (qw rfl (qw (seen qck) (qw (seen qcl) ?_)));exact qbb rfl (qu ⟨s6,rfl,n6,(Q.trans F).trans g5⟩)
end
theorem kbgj{x:Nat}(h0:0<x)(h:x<B):digs B x=[x]:=by
 have F:=kdd (b:=B) B2 (xs:=[x]) (by intro y C;rw[List.mem_singleton.1 C];exact h) (λy C=>by simp at C;omega)
 simpa[num]using F
section
variable{h:AH}{s t:Sl}{N:Nat}
theorem klo(C:Nats h s (digs B N))(Q:3<=N)(F:N<B^8):Runs (go (.fn kh1 [s.v]) h) λv h'=>v=.bool true/\Grow h h':=by
 have y:N<B^64:=qbp F (Nat.pow_le_pow_right (by decide) (by decide));have U:(digs B N).length<=8:=(kbg B2 N 8).2 F;rw[k4c,C.len];refine qw (kbt C) (qw (seen rfl) (qz (kn y) (qz (qbv (by omega)) ?_)));refine qx λV b2 H=>?_;have I:=kdr (x:=3) b2 (by decide);rw[<- kbgj (x:=3) (by decide) (by decide)]at I;refine(ncmp (C.grow H) I y (by decide)).call λv W ⟨e,K⟩=>?_;subst e;refine qw (seen qcl) (qu ⟨?_,H.trans K⟩);have:¬cmp N 3<0:=λc=>by have:=cmp_lt.1 c;omega
 rw[qbv (by omega)]
theorem kbd1(F:Nats h s (digs B N))(K:N%2=1)(Q:N<B^8):Runs (go (.fn krm [s.v]) h) λv h'=>∃y:Sl,v=y.v/\Nats h' y (digs B (N/2))/\Grow h h':=by
 have C:N<B^64:=qbp Q (Nat.pow_le_pow_right (by decide) (by decide));rw[kbkb];refine(k9g F C).call λv V ⟨y,e,n2,H⟩=>?_;subst e;refine qw rfl (qw (seen qck) (qw (seen qcl) ?_));refine(kuo (F.grow H) (i:=0) (by decide)).call λv W ⟨e,I⟩=>?_;subst e
 have U:bitN (digs B N) 0=true:=by rw[show(0:Int)=((0:Nat):Int)from rfl,km5 (kn C),kg B2,Nat.testBit_zero,K];rfl
 refine qw (seen rfl) (q0 (by rw[U];rfl) (qu ⟨y,rfl,n2.grow I,H.trans I⟩))
theorem ks3(H:Nats h s (digs B N))(I:N%2=1)(C:N<B^8){x:Nat}(X:Nats h t (digs B x))(K:x<B^64):Runs (go (.fn klb [s.v,t.v]) h) λv h'=>v=.bool (decide (x<=N/2))/\Grow h h':=by have Q:N<B^64:=qbp C (Nat.pow_le_pow_right (by decide) (by decide));rw[k87];refine(kbd1 H I C).call λv V ⟨y,e,n2,F⟩=>?_;subst e;refine qw (seen qck) ?_;refine(ncmp (X.grow F) n2 K (by omega)).call λv W ⟨e,U⟩=>?_;subst e;refine qw (seen qcl) (qu ⟨?_,F.trans U⟩);rw[decide_eq_decide.2 cmp_le]
theorem ktg{a:Bool}{u:Int}(x:ZI h a t u)(I:u.natAbs<B^32){k:Nat}(hk:k<=62):Runs (go (.fn kln [.agg [.bool a,t.v],.i (k:Int)]) h) λv h'=>∃(c:Bool)(y:Sl),v=.agg [.bool c,y.v]/\ZI h' c y (u*2^k)/\Grow h h'/\Own h y:=by
 obtain⟨rfl,X⟩:=x
 have Z:u.natAbs*2^k<B^64:=by
  have h1:2^k<=2^64:=Nat.pow_le_pow_right (by decide) (by omega)
  calc u.natAbs*2^k<=u.natAbs*2^64:=Nat.mul_le_mul_left _ h1
   _<B^32*2^64:=Nat.mul_lt_mul_of_pos_right I (by decide)
   _<=B^64:=by decide
 rw[kbas];refine qx λh2 b2 F=>qx λh3 b3 H=>?_;have b2:=H.has b2;have z2:=b2.lt;refine qcm b2 1 rfl ?_;refine(kbhp (X.grow (F.trans H)) I hk).call λv h4 ⟨y,e,n4,C⟩=>?_;subst e;refine qw rfl (qw (seen qck) (qw (seen qcl) (qw ((C.has b2).rd 0 rfl rfl) ?_)));refine(zfrom n4 Z (intD u).1).call λv h5 ⟨c,z,e,K,Q,U⟩=>?_;subst e;refine qw rfl (qz rfl (qw (seenAt rfl rfl) (qw (seenAt rfl qck) (qy ((C.trans Q).has b3) rfl λh6 V W=>?_))));have zb:=b3.lt;refine qw (V.rd 0 rfl rfl) (qcm V 1 rfl (qu ⟨c,z,rfl,?_,?_⟩))
 ·have hz:(if(intD u).1=true then -((u.natAbs*2^k:Nat):Int)else((u.natAbs*2^k:Nat):Int))=u*2^k:=by
   unfold intD;rw[Int.natCast_mul,Int.natCast_pow];by_cases c:u<0
   ·rw[qbv c,if_pos rfl,<- Int.neg_mul];congr 1;omega
   ·rw[qbw c,if_neg Bool.false_ne_true];congr 1;omega
  rw[hz]at K;exact K.upd U (by have:=C.size;omega) W
 ·exact⟨(((F.trans H).trans C).trans Q).updr (by have:=F.size;omega) W,U.of_le ((F.trans H).trans C)⟩
theorem kbdu(H:Nats h s (digs B N))(h3:3<=N)(ho:N%2=1)(I:N<B^8){a:Bool}{u:Int}(x:ZI h a t u)(hu:u.natAbs<=N/2):Runs (go (.fn ku9 [s.v,.agg [.bool a,t.v]]) h) λv h'=>∃y:Sl,v=.tup [y.v,.i 0]/\Nats h' y (digs B (encZ N u))/\Grow h h':=by
 have K:N<B^64:=qbp I (Nat.pow_le_pow_right (by decide) (by decide));have u64:u.natAbs<B^64:=by omega
 obtain⟨rfl,X⟩:=x;rw[kba7];refine qx λh1 b1 W=>?_;refine(klo (H.grow W) h3 I).call λv h2 ⟨e,Z⟩=>?_;subst e;have b2:=Z.has b1;have G2:=W.trans Z;refine qw (seen rfl) (q0 rfl (qw (b2.rd 0 rfl rfl) (qcm b2 1 rfl ?_)));obtain⟨aa,e3,Q⟩:=kkn (X.grow G2) (intD u).1;rw[kcv u64]at e3;have U:=G2.trans Q;refine qw e3 (qw (seen rfl) (q0 rfl (qcm (Q.has b2) 1 rfl ?_)));refine(ks3 (H.grow U) ho I (X.grow U) u64).call λv h4 ⟨e,g4⟩=>?_;subst e;have C:=U.trans g4;have b4:=g4.has (Q.has b2);refine qw (seen rfl) (q0 (by rw[qbv hu];rfl) (qw (b4.rd 0 rfl rfl) ?_));refine qba (λc=>?_) λc=>?_
 ·have c:u<0:=of_decide_eq_true c;refine qcm b4 1 rfl ?_;refine(nsub (H.grow C) (X.grow C) K (by omega)).call λv h5 ⟨y,e,F,V⟩=>?_;subst e;refine qw rfl (qw (seen qck) (qw (seen qcl) (qu ⟨y,rfl,?_,C.trans V⟩)));rw[k0n c (by omega),show(-u).toNat=u.natAbs by omega];exact F
 ·have c:¬u<0:=of_decide_eq_false c;refine qcm b4 1 rfl ?_;obtain⟨y,h5,e5,F,V,-⟩:=kkr (X.grow C) (qq h4)
  have q:addN (digs B u.natAbs) []=(digs B u.natAbs,0):=by unfold addN;rw[if_pos ⟨kn u64,by decide⟩,kg B2,show num B []=0 from rfl,Nat.add_zero,ksf u64]
  rw[show(intD u).2=digs B u.natAbs from rfl,q]at F;rw[show(intD u).2=digs B u.natAbs from rfl,q]at e5;refine qw e5 (qw rfl (qw (seen qck) (qw (seen qcl) (qu ⟨y,rfl,?_,C.trans V⟩))));rw[kw9 (by omega) (by omega),show u.toNat=u.natAbs by omega];exact F
theorem pow62{k:Nat}(hk:k<=62):0<2^k/\2^k<=4611686018427387904:=⟨Nat.pow_pos (by decide),by have:=Nat.pow_le_pow_right (n:=2) (by decide) hk;simpa using this⟩
theorem k6q(H:Nats h s (digs B N))(I:3<=N)(Z:N%2=1)(K:N<B^8){k:Nat}(h1:1<=k)(hk:k<=62){g:Int}(hg:-1000<=g/\g<=1000)(hu:(g*2^k+1).natAbs<=N/2):Runs (go (.fn kvk [s.v,.i (k:Int),.i g,.i 1]) h) λv h'=>∃y:Sl,v=.tup [y.v,.i 0]/\Nats h' y (digs B (encZ N (g*2^k+1)))/\Grow h h':=by
 obtain⟨p0,p1⟩:=pow62 hk;have aa:=kfa
 have ac:(g*2^k).natAbs<=1000*4611686018427387904:=by rw[Int.natAbs_mul];exact Nat.mul_le_mul (by omega) (by rw[Int.natAbs_pow];exact p1)
 rw[kbe7];refine(klo H I K).call λv Q ⟨e,g2⟩=>?_;subst e;refine qw (seen rfl) (q0 rfl (q0 (qbw (by omega)) (q0 (qbw (by omega)) (q0 (qbw (by decide)) (q0 (qbw (by omega)) (q0 ?_ ?_))))))
 ·have:ishr .i64 1 (k:Int)=0:=by
   unfold ishr;rw[Int.toNat_natCast,show IntKind.bits .i64=64 from rfl,Nat.min_eq_left (by omega),Int.fdiv_eq_ediv_of_nonneg _ (by exact Int.pow_nonneg (by decide))];refine Int.ediv_eq_zero_of_lt (by decide) ?_;have:(2:Nat)^1<=2^k:=Nat.pow_le_pow_right (by decide) h1;have Q:((2:Int)^k)=((2^k:Nat):Int):=by simp
   rw[Q];omega
  rw[this];rfl
 refine(zof (n:=g) (by omega) (by omega)).call λv ad ⟨c,y,e,z3,g3,_⟩=>?_;subst e;refine qw rfl (qz rfl (qw (seenAt rfl rfl) (qw (seenAt rfl qck) ?_)));refine(ktg z3 (by have:(1000:Nat)<B^32:=(by decide);omega) hk).call λv h4 ⟨c,y,e,z4,g4,_⟩=>?_;subst e;refine qw rfl (qz rfl (qw (seenAt rfl rfl) (qw (seenAt rfl qck) ?_)));refine(zof (h:=h4) (n:=1) (by decide) (by decide)).call λv h5 ⟨c2,y2,e,z5,U,_⟩=>?_;subst e;refine qw rfl (qz rfl (qw (seenAt rfl rfl) (qw (seenAt rfl qck) ?_)));refine(zadd (z4.grow U) z5 (by omega) (by omega) (by omega)).call λv h6 ⟨c,y,e,z6,g6,_⟩=>?_;subst e;refine qw rfl (qw rfl (qz rfl (qw (seenAt rfl rfl) (qw (seenAt rfl qck) (qw (seen qcl) ?_)))));refine qx λh7 b7 g7=>qy b7 rfl λF V u8=>?_;have C:Grow h6 F:=g7.updr (qbn _) u8;have W:=((((g2.trans g3).trans g4).trans U).trans g6).trans C;refine qw (V.rd 0 rfl rfl) (qcm V 1 rfl ?_);refine(kbdu (H.grow W) I Z K (z6.grow C) hu).call λv h9 ⟨y,e,n9,g9⟩=>?_;subst e;exact qw rfl (qw (seen qck) (qw (seen qcl) (qu ⟨y,rfl,n9,W.trans g9⟩)))
theorem kbd8(Q:Nats h s (digs B N))(h3:3<=N)(ho:N%2=1)(V:N<B^8){m:Nat}(X:Nats h t (digs B m))(hm:m<N):Runs (go (.fn ks2 [s.v,t.v]) h) λv h'=>∃(c:Bool)(y:Sl),v=.tup [.agg [.bool c,y.v],.i 0]/\ZI h' c y (decZ N m)/\Grow h h':=by
 have I:N<B^64:=qbp V (Nat.pow_le_pow_right (by decide) (by decide));have C:m<B^64:=by omega
 rw[kbjq];refine qx λh1 b1 g1=>?_;refine(klo (Q.grow g1) h3 V).call λv h2 ⟨e,g2⟩=>?_;subst e;have z1:=b1.lt;have U:=g1.trans g2;refine qw (seen rfl) (q0 rfl (qw (kbt (X.grow U)) (qw (seen rfl) (q0 (by rw[kn C];rfl) ?_))));refine(ncmp (X.grow U) (Q.grow U) C I).call λv aa ⟨e,g3⟩=>?_;subst e;have hc:=cmp_lt.2 hm;have W:=U.trans g3;refine qw (seen qcl) (q0 (qbw (by omega)) ?_);refine(ks3 (Q.grow W) ho V (X.grow W) C).call λv h4 ⟨e,g4⟩=>?_;subst e;have K:=W.trans g4;have F:=(g2.trans g3).trans g4;refine qw (seen rfl) (qba (λc=>?_) λc=>?_)
 ·have c:=of_decide_eq_true c;refine(zfrom (X.grow K) C false).call λv h5 ⟨Z,y,e,z5,H,o5⟩=>?_;subst e;refine qw rfl (qz rfl (qw (seenAt rfl rfl) (qw (seenAt rfl qck) (qy ((F.trans H).has b1) rfl λh6 b6 u6=>?_))));refine qw (b6.rd 0 rfl rfl) (qcm b6 1 rfl (qu ⟨Z,y,rfl,?_,(K.trans H).updr (qbn _) u6⟩));have hd:decZ N m=(m:Int):=by unfold decZ;rw[if_pos c]
  rw[hd];exact z5.upd o5 (by have:=F.size;omega) u6
 ·have c:=of_decide_eq_false c;refine(nsub (Q.grow K) (X.grow K) I (by omega)).call λv h5 ⟨y0,e,n5,H⟩=>?_;subst e;refine qw rfl (qw (seen qck) (qw (seen qcl) ?_));refine(zfrom n5 (by omega) true).call λv h6 ⟨Z,y,e,z6,g6,o6⟩=>?_;subst e;refine qw rfl (qz rfl (qw (seenAt rfl rfl) (qw (seenAt rfl qck) (qy (((F.trans H).trans g6).has b1) rfl λh7 b7 u7=>?_))));refine qw (b7.rd 0 rfl rfl) (qcm b7 1 rfl (qu ⟨Z,y,rfl,?_,((K.trans H).trans g6).updr (qbn _) u7⟩));have hd:decZ N m=-((N-m:Nat):Int):=by unfold decZ;rw[if_neg c];omega
  rw[hd];exact z6.upd o6 (by have:=(F.trans H).size;omega) u7
theorem kbbg(Nn:Nats h s (digs B N))(h3:3<=N)(ho:N%2=1)(h8:N<B^8){k:Nat}(h1:1<=k)(hk:k<=62){m:Nat}(X:Nats h t (digs B m))(hm:m<N){G H:Int}(hG:decZ N m/2^k=G)(hH:decZ N m%2^k=H)(bG:-1000000<=G/\G<=1000000):Runs (go (.fn kvm [s.v,.i (k:Int),t.v]) h) λv h'=>v=.tup [.i G,.i H,.i 0]/\Grow h h':=by
 obtain⟨p0,p1⟩:=pow62 hk;have ak:=kfa;have al:N<B^64:=qbp h8 (Nat.pow_le_pow_right (by decide) (by decide));have hd:(decZ N m).natAbs<B^64:=by unfold decZ;split<;>omega
 have hp:((2:Int)^k)=((2^k:Nat):Int):=by simp
 have am:0<=H/\H<2^k:=by rw[<- hH];exact⟨Int.emod_nonneg _ (by omega),Int.emod_lt_of_pos _ (by omega)⟩
 rw[kbj9];refine(klo Nn h3 h8).call λv h2 ⟨e,g2⟩=>?_;subst e;refine qw (seen rfl) (q0 rfl (q0 (qbw (by omega)) (q0 (qbw (by omega)) ?_)));refine(kbd8 (Nn.grow g2) h3 ho h8 (X.grow g2) hm).call λv W ⟨c,y,e,z3,g3⟩=>?_;subst e;refine qw rfl (qw rfl (qz rfl (qw (seenAt rfl rfl) (qw (seenAt rfl qck) (qw (seen qcl) ?_)))));refine qx λh4 b4 g4=>qy b4 rfl λh5 b5 u5=>q0 (by decide) ?_;have aa:Grow W h5:=g4.updr (qbn _) u5;refine qx λh6 b6 g6=>qx λh7 b7 g7=>?_;have C:=g6.trans g7;have an:h5.blks.size<h6.blks.size:=b6.lt;have ap:h6.blks.size<h7.blks.size:=b7.lt;have b6:=g7.has b6;have aq:h.blks.size<=W.blks.size:=(g2.trans g3).size;have ar:W.blks.size<=h5.blks.size:=aa.size;refine qw ((C.has b5).rd 0 rfl rfl) (qcm (C.has b5) 1 rfl ?_);refine(zof (h:=h7) (n:=1) (by decide) (by decide)).call λv au ⟨c1,y1,e,z8,V,_⟩=>?_;subst e;refine qw rfl (qz rfl (qw (seenAt rfl rfl) (qw (seenAt rfl qck) ?_)));refine qbb (V.same (C.has b5) 0 2) (qbb (V.same b7 0 0) (qbb (V.same b6 0 0) ?_));refine(ktg z8 (by decide) hk).call λv h9 ⟨c2,y2,e,z9,Z,_⟩=>?_;subst e;refine qw rfl (qz rfl (qw (seenAt rfl rfl) (qw (seenAt rfl qck) ?_)));have B5:=V.has (C.has b5);have B6:=V.has b6;have B7:=V.has b7;refine qbb (Z.same B5 0 2) (qbb (Z.same B7 0 0) (qbb (Z.same B6 0 0) ?_));have ac:=((aa.trans C).trans V).trans Z;rw[Int.one_mul]at z9;refine(zfloor (z3.grow ac) z9 hd (by rw[hp];omega) (by omega)).call λv aw ⟨c3,c4,y3,y4,e,ad,ae,F,o3,o4⟩=>?_;subst e;refine qw rfl (qw rfl (qz rfl (qw (seenAt rfl rfl) (qw (seenAt rfl qck) (qw rfl (qz rfl (qw (seenAt rfl rfl) (qw (seenAt rfl qck) (qw (seen qcl) ?_)))))))));have B6:=Z.has B6;have B7:=Z.has B7;refine qbb (F.same B7 0 0) (qbb (F.same B6 0 0) ?_);have ax:h7.blks.size<=h9.blks.size:=(V.trans Z).size;have q6:h5.blks.size<h9.blks.size:=by omega
 have q7:h6.blks.size<h9.blks.size:=by omega
 have ne:h5.blks.size≠h6.blks.size:=by omega
 rw[hG]at ad;rw[hH]at ae;refine qy (F.has B6) rfl λay I K=>?_;refine qy ((F.has B7).updr (λe=>ne e.symm) K) rfl λaz af Q=>?_;have I:=I.updr ne Q;have ag:=(ad.upd o3 q6 K).upd o3 q7 Q;have ah:=(ae.upd o4 q6 K).upd o4 q7 Q;refine qw (I.rd 0 rfl rfl) (qcm I 1 rfl ?_);refine(zsmall ag (by omega) (by omega)).call λv a0 ⟨e,U⟩=>?_;subst e;refine qw rfl (qw (seen qcl) (qw (seen rfl) (q0 rfl (qw ((U.has af).rd 0 rfl rfl) (qcm (U.has af) 1 rfl ?_)))));refine(zsmall (ah.grow U) (by omega) (by omega)).call λv ba ⟨e,ai⟩=>?_;subst e;refine qw rfl (qw (seen qcl) (qw (seen rfl) (qu ⟨rfl,?_⟩)));have aj:=((g2.trans g3).trans ac).trans F;exact(((aj.updr (by omega) K).updr (by omega) Q).trans U).trans ai
theorem kbkh(Nn:Nats h s (digs B N))(h3:3<=N)(ho:N%2=1)(h8:N<B^8){r:Nat}(r1:1<=r)(ay:r<=30):Runs (go (.fn kus [s.v,.i (r:Int),.i 1000,.i 1]) h) λv h'=>Grow h h'/\(v=.tup [.i 0,.i 12]\/(v=.tup [.i (bl r:Int),.i 0]/\(r*1000+1)*2^bl r-1<=N/2)):=by
 have az:=kfa;have af:=bl_Bl r;have h5:bl r<=5:=bl_le (show r<2^5 by omega)
 have a0:1<=bl r:=by
  rcases Nat.eq_zero_or_pos (bl r)with e | e
  ·have:=af.1;rw[e]at this;omega
  ·exact e
 obtain⟨p0,-⟩:=pow62 (k:=bl r) (by omega);have ag:2^bl r<=32:=by have:=Nat.pow_le_pow_right (n:=2) (by decide) h5;simpa using this
 have hp:((2:Int)^bl r)=((2^bl r:Nat):Int):=by simp
 have hm:(r*1000+1)*2^bl r<=30001*32:=Nat.mul_le_mul (by omega) ag;have ba:1<=(r*1000+1)*2^bl r:=Nat.mul_pos (by omega) p0;rw[kbje];refine(klo Nn h3 h8).call λv h2 ⟨e,g2⟩=>?_;subst e;refine qw (seen rfl) (q0 rfl (q0 (qbw (by omega)) (q0 (qbw (by decide)) (q0 (qbw (by decide)) ?_))));rw[wrapU,wrapU,show(r:Int)%18446744073709551616=(r:Int) by omega,show(1:Int)%18446744073709551616=1 by decide];have F:mul64 (r:Int) 1=(0,(r:Int)):=(show∀q:_root_.Fin 31,mul64 (q.val:Int) 1=(0,(q.val:Int)) by decide +kernel) ⟨r,by omega⟩;refine qw (kou (r:Int) 1) ?_;rw[F];refine qw rfl (qw (seen qcl) (qw (seen qcl) ?_));have y:=kpx (a:=(r:Int)) (h:=h2) ⟨by omega,by omega⟩;rw[Int.toNat_natCast]at y;refine qw y (qw (seen qcl) (q0 (qbw (by omega)) (q0 (qbw (by omega)) ?_)));refine(zof (h:=h2) (n:=(r:Int)) (by omega) (by omega)).call λv ah ⟨c1,y1,e,z3,g3,_⟩=>?_;subst e;refine qw rfl (qz rfl (qw (seenAt rfl rfl) (qw (seenAt rfl qck) ?_)));refine(zof (h:=ah) (n:=1000) (by decide) (by decide)).call λv h4 ⟨c2,y2,e,z4,g4,_⟩=>?_;subst e;refine qw rfl (qz rfl (qw (seenAt rfl rfl) (qw (seenAt rfl qck) ?_)));refine(zmul (z3.grow g4) z4 (by omega) (by omega) (by omega)).call λv ai ⟨c3,y3,e,z5,g5,_⟩=>?_;subst e;refine qw rfl (qw rfl (qz rfl (qw (seenAt rfl rfl) (qw (seenAt rfl qck) (qw (seen qcl) ?_)))));refine qx λh6 b6 g6=>qy b6 rfl λh7 H u7=>?_;have I:Grow ai h7:=g6.updr (qbn _) u7;have q7:=H.lt;refine qw (H.rd 0 rfl rfl) (qcm H 1 rfl ?_);refine(zof (h:=h7) (n:=1) (by decide) (by decide)).call λv bb ⟨c4,y4,e,z8,K,_⟩=>?_;subst e;refine qw rfl (qz rfl (qw (seenAt rfl rfl) (qw (seenAt rfl qck) (qbb (K.same H 0 2) ?_))));refine(zadd (z5.grow (I.trans K)) z8 (by omega) (by omega) (by omega)).call λv h9 ⟨c5,y5,e,z9,g9,o9⟩=>?_;subst e;refine qw rfl (qw rfl (qz rfl (qw (seenAt rfl rfl) (qw (seenAt rfl qck) (qw (seen qcl) ?_)))));refine qy ((K.trans g9).has H) rfl λaj Q U=>?_;have ak:=z9.upd o9 (by have:=K.size;omega) U;refine qw (Q.rd 0 rfl rfl) (qcm Q 1 rfl ?_);refine(ktg ak (by have:(1000000:Nat)<B^32:=(by decide);omega) (by omega)).call λv al ⟨c6,y6,e,V,am,_⟩=>?_;subst e;refine qw rfl (qz rfl (qw (seenAt rfl rfl) (qw (seenAt rfl qck) ?_)));refine(zof (h:=al) (n:=1) (by decide) (by decide)).call λv bc ⟨c7,y7,e,an,W,_⟩=>?_;subst e;refine qw rfl (qz rfl (qw (seenAt rfl rfl) (qw (seenAt rfl qck) ?_)));have hv:((r:Int)*1000+1)*2^bl r=(((r*1000+1)*2^bl r:Nat):Int):=by rw[hp];simp
 rw[hv]at V;refine(zsub (V.grow W) an (by omega) (by omega) (by omega)).call λv bd ⟨c8,y8,e,Z,ap,_⟩=>?_;subst e;refine qw rfl (qw rfl (qz rfl (qw (seenAt rfl rfl) (qw (seenAt rfl qck) (qw (seen qcl) ?_)))));refine qx λbe aq aa=>qy aq rfl λar au ac=>qcm au 1 rfl ?_;have aw:=((g3.trans g4).trans g5).trans I;have ax:Grow h aj:=(((g2.trans aw).trans K).trans g9).updr (((g2.trans g3).trans g4).trans g5).size U;have C:Grow h ar:=(((ax.trans am).trans W).trans ap).trans (aa.updr (qbn _) ac);have hs:(((r*1000+1)*2^bl r:Nat):Int)-1=(((r*1000+1)*2^bl r-1:Nat):Int):=by omega
 rw[hs]at Z;obtain⟨-,ad⟩:=Z;rw[show(intD (((r*1000+1)*2^bl r-1:Nat):Int)).2=digs B ((r*1000+1)*2^bl r-1)from rfl]at ad;refine(ks3 (Nn.grow C) ho h8 (ad.grow (aa.updr (qbn _) ac)) (by omega)).call λv bf ⟨e,ae⟩=>?_;subst e;refine qw (seen rfl) (qba (λ_=>qu ⟨C.trans ae,.inl rfl⟩) λc=>?_);rw[qcg,qbu]at c;exact qu ⟨C.trans ae,.inr ⟨rfl,c⟩⟩
end
theorem kpc{G N:Int}(h1:-1000000<=G/\G<=1000000)(y:0<=N/\N<=1000):kbf G N=true:=by unfold kbf;rw[qbv (by omega),qbv (by omega),qbv (by omega),qbv (by omega)];rfl
theorem kbkr{g n G N:Int}(h1:-30000<=g/\g<=30000)(y:-30000<=G/\G<=30000)(C:0<=n)(F:n<=N)(H:N<=1000):(kbe g n G N).2.2=true:=by unfold kbe;rw[kpc (by omega) (by omega),kpc (by omega) (by omega),wrap64 (by omega) (by omega),wrap64 (by omega) (by omega),kpc (by omega) (by omega)];rfl
theorem k2u{G N:Int}:∀(xs:List (Int×Int))(i:Int)(st:List Int×Fr3),(∀x∈xs,(kbe x.1 x.2 G N).2.2=true)->(bestGo 1 G N xs i st).2=0
 | [],_,_,_=>rfl
 | x::xs,i,st,h=>by unfold bestGo;rw[if_pos (kzn (h x (by simp)) rfl)];exact k2u xs _ _ λy C=>h y (by simp[C])
theorem kbi5{G N:Int}{xs:List (Int×Int)}(y:kbf G N=true)(C:∀x∈xs,(kbe x.1 x.2 G N).2.2=true)(F:xs.length<=16384):(bestF 1 0 G N xs).2=0:=by unfold bestF;rw[y,show kb7 1=true from rfl,qbw (by decide),qbw (by decide),qbw (by omega)];exact k2u xs 0 _ C
theorem kv2{h:AH}{S:Fp}{s1 s2 s3:Sl}{t:Tb}(n:TabAt h S s1 s2 s3 t):TabAt h Fp.all s1 s2 s3 t:=⟨n.ids.mono λ_ _=>trivial,n.bins.mono λ_ _=>trivial,n.cols.mono λ_ _=>trivial⟩
def topR(t:Tb)(n:Nat)(x:Nat×Nat):List Nat:=(List.range n).filter (leftP t x.1 (x.2:Int))
theorem kro{t:Tb}{n:Nat}{x:Nat×Nat}:∀i∈topR t n x,i<n:=λi y=>qci.1 (List.mem_filter.1 y).1
theorem k06{t:Tb}{n:Nat}{x:Nat×Nat}:(topR t n x).length<=n:=by have:=List.length_filter_le (leftP t x.1 (x.2:Int)) (List.range n);rw[qch]at this;exact this
section
variable{g:List Int}(hg:∀x∈g,-1000<=x/\x<=1000)(h30:g.length<=30)
include hg h30
omit h30 in
theorem kbeu{i:Nat}(y:i<g.length):-1000<=g.getD i 0/\g.getD i 0<=1000:=by
 have e:g.getD i 0=g[i]:=by simp[List.getD,y]
 rw[e];exact hg _ (qb0 y)
theorem kn5{l:List Nat}(y:∀i∈l,i<g.length)(C:l.length<=g.length):sumG g l 0=sumI (λi=>g.getD i 0) l 0/\-30000<=sumG g l 0/\sumG g l 0<=30000:=by have hb:∀i∈l,-1000<=g.getD i 0/\g.getD i 0<=1000:=λi F=>kbeu hg (y i F);have e:=kbb4 l 0 hb (by omega) (by omega);obtain⟨a,b⟩:=ksi (g:=λi=>g.getD i 0) (m:=1000) l 0 hb;exact⟨e,by omega,by omega⟩
theorem kbgb{t:Tb}{D:List (Nat×Nat)}:∀x∈sumsL g (topR t g.length) D,(kbe x.1 x.2 (sumG g (List.range g.length) 0) (g.length:Int)).2.2=true:=λx y=>by obtain⟨d,-,rfl⟩:=List.mem_map.1 y;have C:=k06 (t:=t) (n:=g.length) (x:=d);obtain⟨-,a⟩:=kn5 hg h30 (kro (t:=t) (x:=d)) C;obtain⟨-,b⟩:=kn5 hg h30 (l:=List.range g.length) (λi F=>qci.1 F) (by rw[qch];exact qbn _);exact kbkr a b (by dsimp only;omega) (by dsimp only;omega) (by omega)
end
section
variable{p q:Nat}(k:KeyOk p q)(p1:128<=p)(p2:p<1099511627776)(q1:128<=q)(q2:q<1099511627776)(hb:badF (p:Int) (q:Int)=false){g:List Int}(h1:1<=g.length)(h30:g.length<=30)(hfit:(g.length*1000+1)*2^bl g.length-1<=p*q/2){t:Tb}{D:List (Nat×Nat)}(hD:D.length<=1000)
include k p1 p2 q1 q2 hb h1 h30 hfit hD
theorem kbcs{hq:AH}{Sy Sz:Fp}{ys zs' nn:Sl}{bk bs:Nat}(hg:∀x∈g,-1000<=x/\x<=1000)(Nn:Nats hq nn (digs B (p*q)))(Bk:hq.has bk [.int .u64 (p:Int),.int .u64 (q:Int)] ke4)(C:hq.has bs [.i (sumG g (List.range g.length) 0),.i (g.length:Int)] kw)
  (Y:Sq Ef.nats hq Sy ys (sumsC (digs B (p*q*(p*q))) (packC p q (2^bl g.length) g) (topR t g.length) D)) (Z:Sq EP hq Sz zs' (sumsL g (topR t g.length) D)) :
  ∀(W i:Nat),i+W=D.length->∀(h:AH)(o:Sl)(jo:Option Nat),Grow hq h->LeO hq.blks.size jo->GF EP kw h Fp.no o jo ((sumsL g (topR t g.length) D).take i)->
  Runs (go (.pt ke0 kqj [(3,.p (.new bk 0)),(10,nn.v),(12,.i (bl g.length:Int)),(15,.p (.new bs 0)),(23,ys.v),(25,zs'.v),(27,o.v),(28,.i (i:Int))]) h) λv _=>v=.bool true:=by
 have aa:ys.len=D.length:=by rw[Y.len];unfold sumsC;rw[qby]
 have ae:(sumsL g (topR t g.length) D).length=D.length:=by unfold sumsL;rw[qby]
 have H:=bl_Bl g.length;have af:bl g.length<=5:=bl_le (show g.length<2^5 by omega)
 have ac:1<=bl g.length:=by
  rcases Nat.eq_zero_or_pos (bl g.length)with e | e
  ·have:=H.1;rw[e]at this;omega
  ·exact e
 have lo:128*128<=p*q:=Nat.mul_le_mul p1 q1;have h8:p*q<B^8:=qbp (key_lt p2 q2) (Nat.pow_le_pow_right (by decide) (by decide));have ho:=kkx k p1 q1;have hp:((2:Int)^bl g.length)=((2^bl g.length:Nat):Int):=by simp
 have hW:(g.length:Int)<2^bl g.length:=by rw[hp];have:=H.1;omega
 have ag:1<=(g.length*1000+1)*2^bl g.length:=Nat.mul_pos (by omega) (Nat.pow_pos (by decide))
 have F:((g.length:Int)*1000+1)*2^bl g.length-1<=((p*q/2:Nat):Int):=by
  have:((g.length:Int)*1000+1)*2^bl g.length=(((g.length*1000+1)*2^bl g.length:Nat):Int):=by rw[hp];simp
  rw[this];omega
 intro W
 induction W with
 | zero =>
  intro i hi h o jo G lj V;obtain rfl:i=D.length:=by omega
  rw[List.take_of_length_le (by omega)]at V;obtain⟨-,b⟩:=kn5 hg h30 (l:=List.range g.length) (λi hi=>qci.1 hi) (by rw[qch];exact qbn _);have bz:(bestF 1 0 (sumG g (List.range g.length) 0) (g.length:Int) (sumsL g (topR t g.length) D)).2=0:=kbi5 (kpc (by omega) (by omega)) (kbgb hg h30) (by omega);rw[kym,aa];refine q0 (qbw (by omega)) (qw (kbdr V.sq (Z.grow G)) (qw (seen rfl) ?_));have C:=G.has C;refine qcn C 0 rfl (qcn C 1 rfl ?_);refine(kv1 (V.sq.mono λ_ _=>trivial) 1 0 _ _).call λv h2 ⟨x1,e,X1,I⟩=>?_;subst e;refine qw rfl (qw (seen qck) (qw (seen qcl) ?_));have C:=I.has C;refine qcn C 0 rfl (qcn C 1 rfl ?_);refine(kv1 ((Z.grow (G.trans I)).mono λ_ _=>trivial) 1 0 _ _).call λv h3 ⟨x2,e,X2,g3⟩=>?_;subst e;refine qw rfl (qw (seen qck) (qw (seen qcl) ?_));refine qw (kbc3 (X1.grow g3) X2) (qw (seen rfl) ?_);dsimp only;rw[bz];exact qz (qbv rfl) (qz rfl (qz rfl (qu rfl)))
 | succ W ih =>
  intro i hi h o jo G lj V;have K:i<D.length:=by omega
  have ad:i<(sumsC (digs B (p*q*(p*q))) (packC p q (2^bl g.length) g) (topR t g.length) D).length:=by unfold sumsC;rw[qby];exact K
  obtain⟨r1,y,e1,e2,Ny,-⟩:=(Y.grow G).nats ad;rw[kbec K]at Ny;have Q:=k06 (t:=t) (n:=g.length) (x:=D[i]);obtain⟨m,hm,U,hG,hH⟩:=kbgs k p1 p2 q1 q2 hb (qbn g.length) hW hg F (kro (t:=t) (x:=D[i])) Q;obtain⟨es,ah⟩:=kn5 hg h30 (kro (t:=t) (x:=D[i])) Q;rw[<- es]at hG;rw[kym];refine qz (qbv (by omega)) (qw ((G.has Bk).rd 0 (f:=AV.asInt .u64) rfl qcl) (qw ((G.has Bk).rd 1 (f:=AV.asInt .u64) rfl qcl) (qw e1 (qw e2 ?_))));refine(k9q Ny p q).call λv h2 ⟨x,e,Nx,I,o2⟩=>?_;subst e;rw[U]at Nx|-;have G2:=G.trans I;refine qw rfl (qw (seen qck) (qw (seen qcl) ?_));dsimp only at Nx|-;refine(kbbg (Nn.grow G2) (by omega) ho h8 ac (by omega) Nx hm hG hH (by omega)).call λv h3 ⟨e,g3⟩=>?_;subst e;have G3:=G2.trans g3;refine qw rfl (qw (seen qcl) (qw (seen qcl) (qw (seen qcl) (q0 rfl (q0 rfl (qx λh4 b4 g4=>?_))))));refine qw (kfe b4 (by rw[k27];rfl)) ?_;obtain⟨o',h5,e5,V5,u5⟩:=(V.grow ((I.trans g3).trans g4)).push (T:=Fp.no) (EP.of (h:=h4) (S:=Fp.no) (sumG g (topR t g.length D[i]) 0) ((topR t g.length D[i]).length:Int)) NotO.no (kzc (by rw[qcc];omega));refine qw e5 (qw qck ?_);rw[ko (by omega)];have G4:=G3.trans g4;refine ih (i+1) (by omega) h5 o' (some h4.blks.size) (G4.updo lj u5) (show _<=_ from G4.size) ?_;rw[qce (by omega)]
  have:(sumsL g (topR t g.length) D)[i]'(by omega)=(sumG g (topR t g.length D[i]) 0,((topR t g.length D[i]).length:Int)):=by unfold sumsL;rw[List.getElem_map]
  rw[this];exact V5.mono (λj x=>x.1.elim id id) NotO.no
theorem kbj0{x:Int}(C:-1000<=x/\x<=1000):(x*2^bl g.length+1).natAbs<=p*q/2:=by
 have y:=bl_Bl g.length;have hp:((2:Int)^bl g.length)=((2^bl g.length:Nat):Int):=by simp
 have F:2<=2^bl g.length:=by have:=y.1;omega
 rw[hp]
 have a:(x*((2^bl g.length:Nat):Int)).natAbs<=1000*2^bl g.length:=by rw[Int.natAbs_mul,Int.natAbs_natCast];exact Nat.mul_le_mul_right _ (by omega)
 have b:1001*2^bl g.length<=(g.length*1000+1)*2^bl g.length:=Nat.mul_le_mul_right _ (by omega);omega
theorem kbk6{C:AH}{S1 S2:Fp}{s1 s2 s3 gs nn:Sl}{bk bt:Nat}(T0:Tab C)(hR:tabR t=true)(K:g.length=t.ids.length)(af:D=cutsL t)(qt:TabAt C S1 s1 s2 s3 t)(Q:Sq EI C S2 gs g)(Nn:Nats C nn (digs B (p*q)))(Bk:C.has bk [.int .u64 (p:Int),.int .u64 (q:Int)] ke4)(Bt:C.has bt [s1.v,s2.v,s3.v] kb5) :
  ∀(kk i:Nat),i+kk=g.length->(∀j,j<i->-1000<=g.getD j 0/\g.getD j 0<=1000)->∀(h:AH)(So:Fp)(o:Sl)(U:Option Nat),Grow C h->LeO C.blks.size U->(∀m,So m->C.blks.size<m)->(∀m,U=some m->m≠C.blks.size)->h.has C.blks.size [.i (sumG g (List.range i) 0),.i (g.length:Int)] kw->GF Ef.nats kr h So o U ((packC p q (2^bl g.length) g).take i)->
  Runs (go (.pt ke0 kp0 [(2,gs.v),(3,.p (.new bk 0)),(4,.p (.new bt 0)),(10,nn.v),(12,.i (bl g.length:Int)),(14,o.v),(15,.p (.new C.blks.size 0)),(16,.i (i:Int))]) h) λv _=>v=.bool true:=by
 have am:(packC p q (2^bl g.length) g).length=g.length:=by unfold packC;rw[qby]
 have an:=bl_Bl g.length;have aw:bl g.length<=5:=bl_le (show g.length<2^5 by omega)
 have ap:1<=bl g.length:=by
  rcases Nat.eq_zero_or_pos (bl g.length)with e | e
  ·have:=an.1;rw[e]at this;omega
  ·exact e
 have lo:128*128<=p*q:=Nat.mul_le_mul p1 q1;have h8:p*q<B^8:=qbp (key_lt p2 q2) (Nat.pow_le_pow_right (by decide) (by decide));have ho:=kkx k p1 q1;have aq:=kt3 k p1 p2 q1 q2;intro kk
 induction kk with
 | zero =>
  intro i hi hs h So o U G lj W ag Bs V;obtain rfl:i=g.length:=by omega
  rw[List.take_of_length_le (by omega)]at V
  have hg:∀x∈g,-1000<=x/\x<=1000:=λx Z=>by
   obtain⟨j,hj,rfl⟩:=List.getElem_of_mem Z;have:=hs j hj;have e:g.getD j 0=g[j]:=by simp[List.getD,hj]
   rwa[e]at this
  rw[k2x,Q.len];refine q0 (qbw (by omega)) ?_;refine(kbda (n:=g.length) (by omega)).call λ_ h2 ⟨g2,n,y,w,er,e,N,aa⟩=>?_;subst e;obtain⟨rfl,r1,l1⟩:=aa (by omega);refine qw rfl (qw rfl (qz rfl (qw rfl (qw (seenAt rfl qck) (qw rfl ?_)))));dsimp only;refine qx λh3 b3 g3=>qy b3 rfl λh4 b4 u4=>?_;have ah:Grow h2 h4:=g3.updr (qbn _) u4;have g4:=g2.trans ah;have G4:=G.trans g4;have F:=G4.has Bt;refine qcm F 0 rfl (qcm F 1 rfl (qcm F 2 rfl (qcn b4 0 rfl (qcm b4 1 rfl ?_))));have N4:=N.grow ah;have hz:((g.length:Nat):Int)=(t.ids.length:Int):=by rw[K]
  rw[hz]at r1;refine(kbkc (S:=Fp.all) (T0.grow G4) (Nn.grow G4) (kv2 (qt.grow G4)) N4 ((V.grow g4).sq.mono λ_ _=>trivial)).call λ_ h5 ⟨I,S5,y5,j5,e,ax,l5,V5⟩=>?_;subst e;refine qw rfl (qw (seen qck) (qw (seen qcl) ?_));have ac:=I.has F;have b5:=I.has b4;have G5:=G4.trans I;refine qcm ac 0 rfl (qcm ac 1 rfl (qcm ac 2 rfl (qcn b5 0 rfl (qcm b5 1 rfl ?_))));refine(k5y (S:=Fp.all) (T0.grow G5) (kv2 (qt.grow G5)) (N4.grow I) ((Q.grow G5).mono λ_ _=>trivial)).call λ_ h6 ⟨g6,y6,j6,e,l6,V6⟩=>?_;subst e;refine qw rfl (qw (seen qck) (qw (seen qcl) ?_));dsimp only
  have ai:rowsL t (t.ids.length:Int) w=topR t g.length:=by funext x;rw[kbc4 r1,<- hz,l1];rfl
  have cA:=kbho aq hR r1 (by rw[am,K]) (ksj k p1 p2 q1 q2 (2^bl g.length) g).1;rw[kq0 (klq p2 q2),ai,<- af]at cA
  have cB:plainH t (t.ids.length:Int) w g=(sumsL g (topR t g.length) D,0):=by
   have ar:faultH t (t.ids.length:Int) w (g.length:Int)=0:=by unfold faultH;rw[hR,r1,K];simp
   have aj:oddG g=false:=by unfold oddG;rw[List.any_eq_false];intro x Z;have:=hg x Z;rw[qbw (by omega),qbw (by omega)];simp
   unfold plainH;rw[if_pos ar,if_neg (by rw[aj];simp),ai,<- af]
  rw[<- hz]at cA cB;rw[cA]at V5;rw[cB]at V6;rw[cA,cB];have yl:y5.len=D.length:=by rw[V5.len];unfold sumsC;rw[qby]
  have zl:y6.len=D.length:=by rw[V6.len];unfold sumsL;rw[qby]
  have G6:=G5.trans g6;refine q0 rfl (q0 rfl (q0 (by rw[yl,zl,qbv rfl];rfl) ?_));exact kbcs k p1 p2 q1 q2 hb h1 h30 hfit hD hg (Nn.grow G6) (G6.has Bk) ((g4.trans (I.trans g6)).has Bs) (V5.grow g6).sq V6.sq D.length 0 (by omega) h6 _ none (qk _) trivial (GF.none _ _ _ _)
 | succ kk ih =>
  intro i hi hs h So o U G lj W ag Bs V;have ad:i<g.length:=by omega
  obtain⟨r1,e1,e2⟩:=(Q.grow G).int ad;have ak:g.getD i 0=g[i]:=by simp[List.getD,ad]
  rw[k2x];rw[Q.len]at e1|-;refine qz (qbv (by omega)) (qw e1 (qw e2 (qba (λ_=>qu rfl) λc1=>qw e1 (qw e2 (qba (λ_=>qu rfl) λc2=>qw e1 (qw e2 ?_))))));have c1:=of_decide_eq_false c1;have c2:=of_decide_eq_false c2;have Z:-1000<=g[i]/\g[i]<=1000:=⟨by omega,by omega⟩;refine(k6q (Nn.grow G) (by omega) ho h8 ap (by omega) Z (kbj0 k p1 p2 q1 q2 hb h1 h30 hfit hD Z)).call λv h2 ⟨y2,e,N2,g2⟩=>?_;subst e;refine qw rfl (qw (seen qck) (qw (seen qcl) (qx λh3 b3 g3=>?_)));have n3:=kdr (x:=2) b3 (by decide);have ae:=g2.trans g3;have G3:=G.trans ae;refine(kzj (Nn.grow G3) (N2.grow g3) n3).call λv h4 ⟨y4,e,N4,g4,o4⟩=>?_;subst e;have hz:=ksg k p1 p2 q1 q2 (ko9 (kez k) (g[i]*2^bl g.length+1));refine qw rfl (qw (seen qck) (qw (seen qcl) ?_));dsimp only;refine q0 rfl (q0 (by rw[hz];rfl) (qx λh5 b5 I=>?_));refine qw (kfe b5 (by rw[kur];rfl)) ?_;have lt:=V.lt;have zb:=Bs.lt;have H:=(ae.trans g4).trans I;have s3:h.blks.size<=h3.blks.size:=ae.size;have s5:h.blks.size<=h5.blks.size:=H.size
  obtain⟨o',h6,e6,V6,u6⟩:=(V.grow H).push (T:=λm=>¬Av y4 m (encF (digs B (p*q)) (digs B (encZ (p*q) (g[i]*2^bl g.length+1))) [2]).1) (show Ef.nats.has h5 _ [y4.v] _ from⟨y4,rfl,N4.grow I,λj hj=>hj⟩) (by
   cases U with
   | none=>exact trivial
   | some a =>intro hm;have:=own_av o4 hm;have:a<h.blks.size:=lt;omega) (kup (by rw[qcc];omega))
  refine qw e6 (qw qck ?_);have m6:Md (Fp.opt U) h5 h6:=u6.md λk e=>e;have B6:h6.has C.blks.size [.i (sumG g (List.range i) 0),.i (g.length:Int)] kw:=m6.has (H.has Bs) λe=>ag _ e rfl;have G5:=G.trans H;have G6:Grow C h6:=G5.updo lj u6;obtain⟨r2,e3,e4⟩:=(Q.grow G6).int ad;rw[Q.len]at e3;refine qcn B6 0 rfl (qw e3 (qw e4 ?_));refine Runs.putAt (o:=0) B6 (by simp) rfl λh7 B7 u7=>?_;rw[ko (by omega)];have sP:C.blks.size<h5.blks.size:=by omega
  have V7:=GF.upd u7 (by intro a;exact a.1.elim (λa=>Nat.lt_irrefl _ (W _ a)) λa=>by have:=own_av o4 a;omega) V6 (λk e=>by cases e;omega);obtain⟨S7,V7,au⟩:∃S7:Fp,GF Ef.nats kr h7 S7 o' (some h5.blks.size) _/\∀m,S7 m->C.blks.size<m:=⟨_,V7,by intro m hm;exact hm.1.elim (W m) λa=>by have:=own_av o4 a;omega⟩;refine ih (i+1) (by omega) (λj hj=>?_) h7 S7 o' (some h5.blks.size) (G6.updr (qbn _) u7) (show _<=_ from G5.size) au (λm e=>by cases e;omega) ?_ ?_
  ·rcases Nat.lt_or_ge j i with al | al
   ·exact hs j al
   ·obtain rfl:j=i:=by omega
    rw[ak];exact Z
  ·have:sumG g (List.range (i+1)) 0=IntKind.wrap .i64 (sumG g (List.range i) 0+g[i]):=by
    unfold sumG;rw[List.range_succ,List.foldl_append,List.foldl_cons,List.foldl_nil,ak]
   rw[this]
   simpa using B7
  ·have ht:(packC p q (2^bl g.length) g).take (i+1)=(packC p q (2^bl g.length) g).take i++[(encF (digs B (p*q)) (digs B (encZ (p*q) (g[i]*2^bl g.length+1))) [2]).1]:=by
    rw[qce (by omega)];congr 2;unfold packC;rw[List.getElem_map]
   rw[ht];exact V7
end
theorem TopHistCard_law(h:AH)(T0:Tab h){x1 x2 x3:AV}(z1:ArgV Pg h ke4 x1)(z2:ArgV Pg h kb5 x2)(z3:ArgV Pg h kcj x3):∃h',go (.fn ke0 [x1,x2,x3]) h=some (.bool true,h'):=by
 obtain⟨V,W,rfl⟩:=kbft z1;obtain⟨s1,s2,s3,t,rfl,qt⟩:=tab_of z2
 obtain⟨gs,g,rfl,Q⟩:∃(u:Sl)(g:List Int),x3=u.v/\Sq EI h Fp.no u g:=by unfold ArgV at z3;rw[k1w]at z3;obtain⟨s,xs,e,n⟩:=ko6 z3;cases e;exact⟨s,xs,rfl,n⟩
 suffices H:Runs (go (.fn ke0 [.agg [.int .u64 V,.int .u64 W],.agg [s1.v,s2.v,s3.v],gs.v]) h) λv _=>v=.bool true by obtain⟨_,h',e,rfl⟩:=H;exact⟨h',e⟩
 rw[kbix];refine qx λha ba ga=>qx λh1 b1 g1=>qx λh2 b2 g2=>qx λh3 b3 g3=>qx λh4 b4 g4=>?_;have Z:=g3.trans g4;have af:=g2.trans Z;have n2:=(kdr (x:=17947) b2 (by decide)).grow Z;have n3:=(kdr (x:=5) b3 (by decide)).grow g4;have n4:=kdr (x:=1) b4 (by decide);refine(kzj n2 n3 n4).call λ_ h5 ⟨y5,e,N5,g5,o5⟩=>?_;subst e;rw[enc_5]at N5|-;dsimp only at N5|-;refine qw rfl (qw (seen qck) (qw (seen qcl) ?_));obtain⟨r5,e5,c5⟩:=N5.at (i:=0) (by decide);rw[N5.len]at e5|-;refine q0 rfl (qw e5 (qw (show(h5.cell r5).bind (AV.asInt .u64)=some 89736 by rw[c5];rfl) (q0 rfl ?_)));have F:=af.trans g5;have G5:=(ga.trans g1).trans F;have B1:=F.has b1;have I:=(g1.trans F).has ba;refine qcm B1 0 rfl (qcm B1 1 rfl (qcm B1 2 rfl ?_));refine(k9r (qt.grow G5)).call λ_ h6 ⟨e,g6⟩=>?_;subst e;have G6:=G5.trans g6;have B1:=g6.has B1;have I:=g6.has I;refine qw (seen rfl) (qw (I.rd 0 (f:=AV.asInt .u64) rfl qcl) (qw (I.rd 1 (f:=AV.asInt .u64) rfl qcl) ?_));refine(kzz V W).call λ_ h7 ⟨nn,e,Nn,g7,on⟩=>?_;subst e;have G7:=G6.trans g7;have B1:=g7.has B1;have I:=g7.has I;refine qw rfl (qw (seen qck) (qw (seen qcl) ?_));dsimp only;refine qba (λ_=>qu rfl) λhR=>qba (λ_=>qu rfl) λc0=>qcm B1 0 rfl (qba (λ_=>qu rfl) λcl=>qba (λ_=>qu rfl) λc1=>qba (λ_=>qu rfl) λK=>?_);rw[qcg]at hR;rw[qcg,qbu]at c0;rw[qcg,qbu,qt.ids.len,Q.len]at cl;have c1:=of_decide_eq_false c1;have K:=of_decide_eq_false K;rw[Q.len]at c1 K|-
 have y:badF V W=false:=by
  cases hb:badF V W with
  | false=>rfl
  | true =>unfold pubF at c0;rw[hb]at c0;cases c0
 have aa:pubF V W=(digs B (V.toNat*W.toNat),0):=by unfold pubF;rw[y];rfl
 rw[aa]at Nn;obtain⟨p,q,rfl,rfl,p1,p2,p3,q1,q2,q3,ne,-,hg⟩:=kul y;rw[Int.toNat_natCast,Int.toNat_natCast]at Nn;have key:=k3d p1 p3 q1 q3 ne hg;have lo:128*128<=p*q:=Nat.mul_le_mul p1 q1;have h8:p*q<B^8:=qbp (key_lt p2 q2) (Nat.pow_le_pow_right (by decide) (by decide));have ac:1<=g.length:=by omega
 have C:g.length<=30:=by omega
 refine(kbkh Nn (by omega) (kkx key p1 q1) h8 ac C).call λ_ h9 ⟨g9,e⟩=>?_;rcases e with e | ⟨e,hfit⟩
 ·subst e;exact qw rfl (qw (seen qcl) (qw (seen qcl) (qz rfl (qu rfl))))
 subst e;refine qw rfl (qw (seen qcl) (qw (seen qcl) (q0 rfl ?_)));refine qx λar ag ah=>qy ag rfl λad ai aj=>?_;have G9:=G7.trans g9;have ak:Grow h9 ad:=ah.updr (qbn _) aj;obtain⟨ap,al,U,ae⟩:=khg hR
 have am:(cutsL t).length<=1000:=by
  unfold cutsL;rw[if_pos hR]
  have:=kt6 t t.cols.length λi hi=>by
   obtain⟨an,au,aq,-⟩:=kmk (ae i hi) hi U;have:t.bins.getD i 0=t.bins[i]:=by simp[List.getD,an]
   unfold nb;rw[this];omega
  omega
 exact kbk6 key p1 p2 q1 q2 y ac C hfit am (T0.grow G9) hR (by omega) rfl (qt.grow G9) (Q.grow G9) (Nn.grow g9) (g9.has I) (g9.has B1) g.length 0 (by omega) (λj hj=>by omega) ad Fp.no _ none ak trivial (λm a=>a.elim) (λm e=>by cases e) ai (GF.none _ _ _ _)
end Go.Ab
