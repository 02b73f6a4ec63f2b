/- Words and laws that the last text joins. -/
import Derived.Test.YtgldlogiggpbgaaGreatDoorPS54
import Derived.Test.YtgldlogiggpbgaaGreatDoorPS30
import Derived.Test.YtgldlogiggpbgaaGreatDoorPU1
import Derived.Test.YtgldlogiggpbgaaGreatDoorPS2
set_option linter.unusedVariables false
set_option linter.unusedSimpArgs false
set_option linter.unusedSectionVars false
set_option maxRecDepth 10000
namespace Go.Ab
open Go.Proofs Go.Num
theorem knx{n:Nat}(h:n<=1000000):growOk Pg n kj 1=true:=by
 unfold growOk;rw[kbiw,kbo4];have h1:n*24<=ky:=by simp only[ky];omega
 have h2:n<=ky:=by simp only[ky];omega
 simp[h1,h2]
theorem kblf:∀c:_root_.Fin 4,∀m:_root_.Fin (2^c.val),ior .i64 ((m.val*2^(4-c.val):Nat):Int) (ishl .i64 1 (IntKind.wrap .i64 (3-(c.val:Int))))=(((2*m.val+1)*2^(3-c.val):Nat):Int):=by decide +kernel
theorem kbmf(E j:Nat):E/2^j=2*(E/2^(j+1))+(E.testBit j).toNat:=by rw[Nat.testBit_eq_decide_div_mod_eq,Nat.pow_succ,<- Nat.div_div_eq_div_mul];generalize E/2^j=z;have:=Nat.mod_two_eq_zero_or_one z;rcases this with h | h<;>rw[h]<;>simp<;>omega
structure RingOk(N k v:Nat):Prop where
 hk:k<=60
 lt:N<B^k
 one:1<N
 odd:N%2=1
 hv:v<B
 inv:(N*v+1)%B=0
 len:(digs B N).length=k
def form(N k u:Nat):List Nat:=digs B (u*2^(64*k)%N)
def kdc(N k A j:Nat):List (List Nat):=(List.range (j+1)).map λi=>form N k (A^i)
section
variable{N k v:Nat}{ones nexts:List Nat}
theorem RingOk.prod(r:RingOk N k v){X Y:Nat}(y:X<N)(z:Y<N):runP kdh (.fn (digs B N) (v:Int) ones nexts (digs B X) (digs B Y))=some (digs B (redc N (64*k) (X*Y))):=by
 have:=kbgx (ns:=digs B N) (xs:=digs B X) (ys:=digs B Y) (ones:=ones) (nexts:=nexts) r.hk r.len (kbr B2 N) (kej B2 N) (kbr B2 X) (kbr B2 Y) r.hv
  (by rw[kg B2];exact r.inv) (by rw[kg B2];exact r.odd) ((kbc B2 X k).2 (Nat.lt_trans y r.lt)) (by rw[kg B2,kg B2];exact z)
 simpa only[kg B2]using this
theorem RingOk.forms(r:RingOk N k v)(x y:Nat):runP kdh (.fn (digs B N) (v:Int) ones nexts (form N k x) (form N k y))=some (form N k (x*y)):=by
 have z:0<N:=by have:=r.one;omega
 unfold form;rw[r.prod (Nat.mod_lt _ z) (Nat.mod_lt _ z),kbmm r.odd]
theorem RingOk.into(r:RingOk N k v){a:Nat}(y:a<N):runP kdh (.fn (digs B N) (v:Int) ones nexts (digs B a) (digs B (2^(64*k)*2^(64*k)%N)))=some (form N k a):=by
 have z:0<N:=by have:=r.one;omega
 unfold form;rw[r.prod y (Nat.mod_lt _ z),kbh1 r.odd]
theorem RingOk.out(r:RingOk N k v)(x:Nat):runP kdh (.fn (digs B N) (v:Int) ones nexts (form N k x) [1])=some (digs B (x%N)):=by
 have y:0<N:=by have:=r.one;omega
 have h1:([1]:List Nat)=digs B 1:=by rw[kew B2 (by decide),show 1/B=0 from rfl,kbo];rfl
 unfold form;rw[h1,r.prod (Nat.mod_lt _ y) r.one,kbnb r.odd]
theorem kbb7(A j:Nat):kdc N k A (j+1)=kdc N k A j++[form N k (A^(j+1))]:=by unfold kdc;rw[List.range_succ,List.map_append];rfl
theorem k2b{A j i:Nat}(h:i<=j):atX (kdc N k A j) (i:Int)=some (form N k (A^i)):=by unfold kdc;rw[khc (by rw[qb3,qcn];omega),List.getElem_map,List.getElem_range]
theorem kyn(r:RingOk N k v){es:List Nat}(le:∀x∈es,x<B)(H:rt es=true){A t:Nat}(V:t<=100000)(K:Iter ki2 (.p12 es (digs B N) (v:Int) ones nexts (kdc N k A 15) (form N k (A^(num B es/2^(4*t)))) (t:Int)) (digs B (A^num B es%N),0)) :
  ∀(d c m q:Nat),c+d=4->num B es/2^(4*(t+1)-c)=q*2^c+m->m<2^c->
   Iter ki2 (.p16 es (digs B N) (v:Int) ones nexts (kdc N k A 15) (form N k (A^(q*2^c))) ((t+1:Nat):Int) ((m*2^(4-c):Nat):Int) (c:Int)) (digs B (A^num B es%N),0)
 | 0,c,m,q,z,hq,F=>by
  have z:c=4:=by omega
  subst z;refine .next ?_ K;show ki6 _ _ _ _ _ _ _ _ _ _=_;unfold ki6;have G:(2:Nat)^4=16:=rfl;rw[G]at F;rw[condF (by decide),show m*2^(4-4)=m from by simp,k2b (by omega),qbv,r.forms,qbv,show(((t+1:Nat):Int)-1)=(t:Int)from by omega,kbe (by omega),<- Nat.pow_add,<- hq,show 4*(t+1)-4=4*t from by omega]
 | d+1,c,m,q,z,hq,F=>by
  have hb:=kbmf (num B es) (4*(t+1)-(c+1));rw[show 4*(t+1)-(c+1)+1=4*(t+1)-c from by omega,hq]at hb;have I:=kblf ⟨c,by omega⟩ ⟨m,F⟩;dsimp only at I;have Q:q*2^(c+1)=q*2^c+q*2^c:=by rw[Nat.pow_succ,<- Nat.mul_assoc];omega
  have W:m*2^(4-c)=2*m*2^(4-(c+1)):=by rw[show 4-c=4-(c+1)+1 from by omega,Nat.pow_succ,Nat.mul_comm (2^(4-(c+1))) 2,<- Nat.mul_assoc,Nat.mul_comm m 2]
  have Z:(IntKind.wrap .i64 ((IntKind.wrap .i64 ((IntKind.wrap .i64 (((t+1:Nat):Int)*4))-1))-(c:Int)))=((4*(t+1)-(c+1):Nat):Int):=by rw[show((t+1:Nat):Int)*4=((4*(t+1):Nat):Int)from by omega,kbe (by omega),show((4*(t+1):Nat):Int)-1=((4*(t+1)-1:Nat):Int)from by omega,kbe (by omega),show((4*(t+1)-1:Nat):Int)-(c:Int)=((4*(t+1)-(c+1):Nat):Int)from by omega,kbe (by omega)]
  have aa:2^(c+1)=2*2^c:=by rw[Nat.pow_succ];omega
  have y:((4*(t+1)-(c+1):Nat):Int)<=9223372036854775807:=by omega
  have step:ki6 es (digs B N) (v:Int) ones nexts (kdc N k A 15) (form N k (A^(q*2^c))) ((t+1:Nat):Int) ((m*2^(4-c):Nat):Int) (c:Int) =
    some (.inl (.p16 es (digs B N) (v:Int) ones nexts (kdc N k A 15) (form N k (A^(q*2^(c+1)))) ((t+1:Nat):Int) (((2*m+((num B es).testBit (4*(t+1)-(c+1))).toNat)*2^(4-(c+1)):Nat):Int) ((c+1:Nat):Int))):=by
   unfold ki6;rw[condT (by rw[qby];omega),r.forms,qbv,Z,kp y,qbv,kvg H,ki (by omega),<- Nat.pow_add,<- Q];cases U:(num B es).testBit (4*(t+1)-(c+1))
   ·rw[cond_false,W];rfl
   ·rw[cond_true,condF (by rw[qbx,show(3:Int)-(c:Int)=((3-c:Nat):Int)from by omega,kbe (by omega)];omega),I,show 4-(c+1)=3-c from by omega];rfl
  refine .next step (kyn r le H V K d (c+1) _ q (by omega) ?_ ?_)
  ·rw[hb,Q];omega
  ·cases(num B es).testBit (4*(t+1)-(c+1))
   ·show 2*m+0<_;omega
   ·show 2*m+1<_;omega
theorem kzj(r:RingOk N k v){es:List Nat}(le:∀x∈es,x<B)(y:rt es=true){A:Nat}:∀t:Nat,t<=100000->
  Iter ki2 (.p12 es (digs B N) (v:Int) ones nexts (kdc N k A 15) (form N k (A^(num B es/2^(4*t)))) (t:Int)) (digs B (A^num B es%N),0)
 | 0,_=>by
  refine .done ?_;show kin _ _ _ _ _ _ _ _=_;unfold kin;rw[condF (by decide),show u64P 1=some 1 from rfl,qbv,r.out,qbv,Nat.mul_zero,Nat.pow_zero,Nat.div_one]
 | t+1,z=>by have K:=kzj r le y (A:=A) t (by omega);have:=kyn r le y (by omega) K 4 0 0 (num B es/2^(4*(t+1))) (by omega) (by simp) (by simp);rw[Nat.pow_zero,Nat.mul_one,Nat.zero_mul]at this;refine .next ?_ this;show kin _ _ _ _ _ _ _ _=_;unfold kin;rw[condT (by rw[qby];omega)];rfl
theorem exp_p7(r:RingOk N k v)(h1:ones=form N k 1){es:List Nat}(le:∀x∈es,x<B)(y:rt es=true){A:Nat}:∀(d j:Nat),j+d=15->
  Iter ki2 (.p7 (digs B N) (v:Int) ones nexts es (kdc N k A j) (form N k A) (j:Int)) (digs B (A^num B es%N),0)
 | 0,j,F=>by
  have F:j=15:=by omega
  subst F;have G:=(rt_iff.1 y).1;have z:=num_lt B1 le;rw[B_pow2]at z
  have hb:bitsN es<=64*64:=by unfold bitsN;rw[if_pos y];exact qbs (bl_le z) (Nat.mul_le_mul_left _ G)
  have H:num B es<2^bitsN es:=by unfold bitsN;rw[if_pos y];exact(bl_Bl _).1
  have:=kzj r le y (A:=A) (ones:=ones) (nexts:=nexts) ((bitsN es+3)/4) (by omega)
  have I:num B es/2^(4*((bitsN es+3)/4))=0:=by refine Nat.div_eq_of_lt (qbt H (Nat.pow_le_pow_right (by decide) (by omega)))
  rw[I,Nat.pow_zero,<- h1]at this;refine .next ?_ this;show kiz _ _ _ _ _ _ _ _=_;unfold kiz;rw[condF (by decide),show((bitsN es:Nat):Int)+4=((bitsN es+4:Nat):Int)from by omega,kbe (by omega),show((bitsN es+4:Nat):Int)-1=((bitsN es+3:Nat):Int)from by omega,kbe (by omega),show Int.tdiv ((bitsN es+3:Nat):Int) 4=(((bitsN es+3)/4:Nat):Int)from rfl,kbe (by omega)]
 | d+1,j,F=>by
  have K:(kdc N k A j).length=j+1:=by unfold kdc;simp
  refine .next ?_ (exp_p7 r h1 le y d (j+1) (by omega));show kiz _ _ _ _ _ _ _ _=_;unfold kiz;have Q:growOk Pg (j+1+1) kj 1=true:=knx (by omega);rw[condT (by rw[qby];omega),K,show((j+1:Nat):Int)-1=(j:Int)from by omega,kbe (by omega),k2b (qbr _),qbv,r.forms,qbv,kp Q,qbv,ki (by omega),kbb7,Nat.pow_succ]
theorem k65(r:RingOk N k v){A:Nat}(z:A<N){es:List Nat}(le:∀x∈es,x<B)(F:rt es=true)(G:es.length<=8) :
  runP ki2 (.fn (digs B N) (v:Int) (form N k 1) (digs B (2^(64*k)*2^(64*k)%N)) (digs B A) es)=some (digs B (A^num B es%N),0):=by
 have:=exp_p7 r rfl (nexts:=digs B (2^(64*k)*2^(64*k)%N)) le F (A:=A) 15 0 (by omega);refine kei (.next ?_ this);show kmq _ _ _ _ _ _=_;have y:N<B^64:=qbt r.lt (Nat.pow_le_pow_right (by decide) (by have:=r.hk;omega))
 have hb:belowF (digs B A) (digs B N)=true:=by unfold belowF;rw[kv (Nat.lt_trans z y),kl6 (kv (Nat.lt_trans z y)) (kv y),kg B2,kg B2];unfold cmp;rw[if_pos z];rfl
 unfold kmq;rw[hb,F,show(!true)=false from rfl,cond_false,cond_false,condF (by rw[qbx];omega),r.into z,qbv];simp[kdc,form]
end
inductive kk7
 | fn (x1c0:List Nat) (z1c1:Int) (x1c2:List Nat) (x1c3:List Nat) (a2:Int)
 | no
abbrev kg1:=List Nat
noncomputable def km9(x1c0:List Nat)(z1c1:Int)(x1c2 x1c3:List Nat)(a2:Int):Option (kk7⊕kg1):=(mkI (IntKind.wrap .i64 ((IntKind.wrap .i64 (a2*(List.length x1c0:Int)))+1)) (IntKind.wrap .i64 ((IntKind.wrap .i64 (a2*(List.length x1c0:Int)))+1))).bind λy=>(inI (List.length (List.replicate y 0)) (IntKind.wrap .i64 (a2*(List.length x1c0:Int)))).bind λz=>(u64P 1).bind λF=>some (.inr ((divN (List.set (List.replicate y 0) z F) x1c0).2.1))
noncomputable def ktx:kk7->Option (kk7⊕kg1)
 | .fn x1c0 z1c1 x1c2 x1c3 a2=>km9 x1c0 z1c1 x1c2 x1c3 a2
 | .no=>none
@[reducible] def k2e(h0:AH)(r:kg1)(v:AV)(h':AH):Prop:=∃s1:Sl,v=s1.v/\Nats h' s1 r/\Grow h0 h'/\Own h0 s1
def kwh(r:kg1):kk7->Prop
 | .fn x1c0 z1c1 x1c2 x1c3 a2=>∀{h:AH}{y:Sl}{z:Sl}{F:Sl}{G:Nat},h.has G [y.v,.int .u64 z1c1,z.v,F.v] kc3->Nats h y x1c0->Nats h z x1c2->Nats h F x1c3->Runs (go (.fn kmi [.p (.new G 0),.i a2]) h) (k2e h r)
 | .no=>True
theorem kbjy{r:kg1}{o:kk7⊕kg1}{x1c0:List Nat}{z1c1:Int}{x1c2 x1c3:List Nat}{a2:Int}(e:km9 x1c0 z1c1 x1c2 x1c3 a2=some o)(F:GoodS (kwh r) r o):kwh r (.fn x1c0 z1c1 x1c2 x1c3 a2):=by intro h U V W i1 b1 y Z aa;rw[k9n];unfold km9 at e;refine qy rfl (qy (qbe b1 0 rfl qcq) ?_);rw[y.len];obtain⟨m3,q3,e⟩:=qbw.1 e;refine Runs.mk q3 kcz λs3 H3 H z=>?_;rw[H.nats.len];refine qy rfl (qy (qbe (z.has b1) 0 rfl qcq) ?_);rw[(y.grow z).len];obtain⟨j4,q4,e⟩:=qbw.1 e;refine qy (H.idx rfl q4) ?_;obtain⟨w5,z5,e⟩:=qbw.1 e;refine qbg H rfl q4 z5 λH5 v5 G=>?_;refine qy rfl (qy (qbe ((z.updr (qbr _) G).has b1) 0 rfl qcq) ?_);obtain⟨s6,I,H6,e6,n6,K,g6,o6,Q⟩:=kgv v5.nats (y.grow (z.updr (qbr _) G));refine qy e6 (qy rfl (qy (seen qcq) (qy (seen qcq) (qy (seen qcr) ?_))));cases e;cases F;have G7:=((z.updr (qbr _) G).trans g6);exact qx ⟨I,rfl,K,G7,(Q.of_le (z.updr (qbr _) G))⟩
theorem kbp3{s:kk7}{r:kg1}(z:Iter ktx s r):kwh r s:=qbf (λs o e y=>by
 cases s with
 | fn x1c0 z1c1 x1c2 x1c3 a2=>exact @kbjy _ _ x1c0 z1c1 x1c2 x1c3 a2 e y
 | no=>exact True.intro
 ) z
theorem k1t{h:AH}{y z F:Sl}{K:Nat}{x1c0:List Nat}{z1c1:Int}{x1c2 x1c3:List Nat}{a2:Int}(b1:h.has K [y.v,.int .u64 z1c1,z.v,F.v] kc3)(G:Nats h y x1c0)(H:Nats h z x1c2)(I:Nats h F x1c3){r:kg1}(q:runP ktx (.fn x1c0 z1c1 x1c2 x1c3 a2)=some r):Runs (go (.fn kmi [.p (.new K 0),.i a2]) h) (k2e h r):=kbp3 (ke5 q) b1 G H I
theorem kbha(n:Nat):num B (List.replicate n 0++[1])=B^n:=by
 have h:num B (List.replicate n 0)=0:=by have:=kfq B [] n;simpa[num]using this
 rw[kcj,h,qca];simp[num]
theorem kx3{ns y F:List Nat}(z:Int){p k:Nat}(hk:ns.length=k)(hp:p<=2)(G:k<=8)(h0:k≠0)(r:rt ns=true):runP ktx (.fn ns z y F (p:Int))=some (digs B (B^(p*k)%num B ns)):=by
 have H:p*k<=2*8:=Nat.mul_le_mul hp G;refine kei (.done ?_);show km9 ns z y F (p:Int)=_;unfold km9;have e:IntKind.wrap .i64 ((p:Int)*(k:Int))=((p*k:Nat):Int):=by rw[<- Int.natCast_mul,kbe (by omega)]
 rw[hk,e,ki (by omega),kdt (by omega),qbv,qca,kba (by omega),qbv,show u64P 1=some 1 from rfl,qbv]
 have hs:(List.replicate (p*k+1) 0).set (p*k) 1=List.replicate (p*k) 0++[1]:=by rw[List.replicate_succ'];have:=kr0 (List.replicate (p*k) 0) 0 1 [] (n:=p*k) (by simp);rw[this,List.append_nil]
 have I:rt (List.replicate (p*k) 0++[1])=true:=rt_iff.2 ⟨by simp;omega,λh=>by simp⟩;rw[hs,kvn I r (λe=>h0 (by rw[<- hk,e];rfl)),kbha]
theorem kbnl(n x:Int):IntKind.wrap .u64 (x*IntKind.wrap .u64 (2-IntKind.wrap .u64 (n*x)))=(x*(2-n*x))%18446744073709551616:=by
 rw[wrapU,wrapU,wrapU]
 have:(2-n*x%18446744073709551616)%18446744073709551616=(2-n*x)%18446744073709551616:=by generalize n*x=t;omega
 rw[this,newton.Int.mul_emod_aux]
theorem kbdc{n x i:Nat}(H:i<6)(h:(n*x)%2^(2^i)=1%2^(2^i)):∃y:Nat,y<18446744073709551616/\(((x:Int)*(2-(n:Int)*(x:Int)))%18446744073709551616)=(y:Int)/\(n*y)%2^(2^(i+1))=1%2^(2^(i+1)):=by
 have h1:=Int.emod_nonneg ((x:Int)*(2-(n:Int)*(x:Int))) (show(18446744073709551616:Int)≠0 by decide);have h2:=Int.emod_lt_of_pos ((x:Int)*(2-(n:Int)*(x:Int))) (show(0:Int)<18446744073709551616 by decide);refine⟨(((x:Int)*(2-(n:Int)*(x:Int)))%18446744073709551616).toNat,by omega,by omega,?_⟩;have F:(2:Nat)^(2^(i+1))=2^(2^i)*2^(2^i):=by rw[<- Nat.pow_add,Nat.pow_succ,Nat.mul_two]
 have G:(2:Nat)^(2^(i+1))∣18446744073709551616:=Nat.pow_dvd_pow 2 (show 2^(i+1)<=2^6 from Nat.pow_le_pow_right (by decide) (by omega));generalize (2:Nat)^(2^(i+1))=w at F G|-;have z:(w:Int)∣18446744073709551616:=Int.natCast_dvd_natCast.2 G;have:=newton F h (((x:Int)*(2-(n:Int)*(x:Int)))%18446744073709551616) (Int.emod_emod_of_dvd _ z);have e:((((x:Int)*(2-(n:Int)*(x:Int)))%18446744073709551616).toNat:Int)=((x:Int)*(2-(n:Int)*(x:Int)))%18446744073709551616:=by omega
 rw[<- e]at this;generalize (((x:Int)*(2-(n:Int)*(x:Int)))%18446744073709551616).toNat=y at this|-;rw[<- Int.natCast_mul]at this;exact Int.ofNat.inj this
theorem kblm{n x:Nat}(h:(n*x)%2^(2^6)=1%2^(2^6)):∃v:Nat,v<18446744073709551616/\IntKind.wrap .u64 (0-(x:Int))=(v:Int)/\(n*v+1)%18446744073709551616=0:=by
 rw[wrapU];refine⟨((0-(x:Int))%18446744073709551616).toNat,by omega,by omega,?_⟩;have e:((((0-(x:Int))%18446744073709551616).toNat:Nat):Int)=(0-(x:Int))%18446744073709551616:=by omega
 have h':(n*x)%18446744073709551616=1:=h
 have k:((n:Int)*((0-(x:Int))%18446744073709551616)+1)%18446744073709551616=0:=by rw[Int.add_emod,newton.Int.mul_emod_aux,<- Int.add_emod,Int.zero_sub,Int.mul_neg,<- Int.natCast_mul];omega
 rw[<- e]at k;generalize ((0-(x:Int))%18446744073709551616).toNat=y at k|-;rw[<- Int.natCast_mul]at k;omega
def NewP(h:AH)(ns:List Nat)(w:AV)(h':AH):Prop:=∃(j v:Nat)(y s2 s3:Sl),w=.tup [.p (.new j 0),.i 0]/\v<B/\(num B ns*v+1)%B=0/\h'.has j [y.v,.int .u64 (v:Int),s2.v,s3.v] kc3/\Nats h' y ns/\Nats h' s2 (digs B (B^(1*ns.length)%num B ns))/\Nats h' s3 (digs B (B^(2*ns.length)%num B ns))/\Grow h h'
theorem k2j{h0 h:AH}{s:Sl}{ns:List Nat}(n:Nats h s ns)(H:0<ns.length)(I:ns.length<=8)(r:rt ns=true)(g:Grow h0 h):∀(d i x:Nat),i+d=6->x<18446744073709551616->(ns[0]*x)%2^(2^i)=1%2^(2^i)->
  Runs (go (.pt kft kkg [(0,s.v),(4,.int .u64 (x:Int)),(40,.i (i:Int))]) h) (NewP h0 ns)
 | 0,i,x,K,hx,e=>by
  have K:i=6:=by omega
  subst K;obtain⟨v,v1,v2,v3⟩:=kblm e;rw[k0s];refine qbb (by decide) ?_;obtain⟨s1,h1,G,n1,g1,o1⟩:=khs n (by omega);refine qy G (qy (seen qcq) ?_);rw[v2];refine qz λh2 b2 V=>?_;obtain⟨_,h3,e3,s3,rfl,n3,W,Z⟩:=k1t b2 (n1.grow V) (qu _) (qu _) (kx3 (v:Int) rfl (show 1<=2 by decide) I (by omega) r);refine qy e3 (qy (seen qcq) ?_);refine qbl (o:=2) (cs':=[s1.v,.int .u64 (v:Int),s3.v,nV]) (vs:=[s3.v]) (W.has b2) (by simp) rfl λh4 b4 u4=>?_;have z:=n3.upda (qbi Z b2.lt) u4;have gg:Grow h1 h4:=(V.trans W).updr (qbr _) u4;obtain⟨_,h5,e5,s5,rfl,n5,Q,o5⟩:=k1t (a2:=((2:Nat):Int)) b4 (n1.grow gg) z (qu _) (kx3 (v:Int) rfl (show 2<=2 by decide) I (by omega) r);refine qy e5 (qy (seen qcq) ?_);refine qbl (o:=3) (cs':=[s1.v,.int .u64 (v:Int),s3.v,s5.v]) (vs:=[s5.v]) (Q.has b4) (by simp) rfl λh6 b6 U=>?_;have F:Grow h1 h6:=(gg.trans Q).updr (qbr _) U;refine qx ⟨_,v,s1,s3,s5,rfl,v1,?_,b6,n1.grow F,(z.grow Q).upda (qbi Z b2.lt) U,n5.upda (qbi o5 b4.lt) U,(g.trans g1).trans F⟩;rw[knk B ns,Nat.add_mul,Nat.mul_assoc,Nat.add_right_comm,Nat.add_mul_mod_self_left]
  have:ns.headD 0=ns[0]:=by
   cases ns with
   | nil=>simp at H
   | cons y ys=>rfl
  rw[this];exact v3
 | d+1,i,x,K,hx,e=>by rw[k0s];refine qba (by rw[qby];omega) ?_;obtain⟨q,G,e2⟩:=n.at (i:=0) H;rw[n.len]at G|-;refine qy G (qy (rdc e2 qcr) ?_);obtain⟨y,y1,y2,y3⟩:=kbdc (by omega) e;rw[kbnl,y2,ki (by omega)];exact k2j n H I r g d (i+1) y (by omega) y1 y3
theorem kbcd{h:AH}{s:Sl}{ns:List Nat}(n:Nats h s ns)(r:rt ns=true)(hn:ns.length≠0)(U:ns.length<=8)(F:num B ns%2=1)(h1:1<num B ns):Runs (go (.fn kft [s.v]) h) (NewP h ns):=by
 have hp:0<ns.length:=by omega
 have V:ns.headD 0=ns[0]:=by
  cases ns with
  | nil=>simp at hp
  | cons y ys=>rfl
 have hb:ns[0]<18446744073709551616:=n.lt _ (qb5 _)
 have z:ns[0]%2=1:=by rw[knk B ns,V]at F;have:(ns[0]+18446744073709551616*num B ns.tail)%2=1:=F;omega
 have hs:(ns[0]*ns[0])%2^(2^0)=1%2^(2^0):=by show(ns[0]*ns[0])%2=1;rw[Nat.mul_mod,z]
 have rd:∀{K:Ref->Option (AV×AH)}{Q:AV->AH->Prop},(∀q,h.cell q=some (.int .u64 ((ns[0]:Nat):Int))->Runs (K q) Q)->Runs ((idx s.ref ns.length 0 1).bind K) Q:=by intro K Q H;obtain⟨q,G,W⟩:=n.at (i:=0) hp;rw[n.len]at G;exact qy G (H q W)
 rw[kbbe];refine qy (kcf n) (qy (seen rfl) ?_);rw[show s.len=ns.length from n.len];refine qbb (by rw[r];rfl) ?_;refine qbb (by rw[qbx];omega) ?_;refine qbb (by rw[qbx];omega) ?_;refine rd λq hq=>?_;refine qy (rdc hq qcr) ?_;refine qbb (by rw[k5z hb,qbx];omega) ?_;have I:Runs (go (.pt kft kkg [(0,s.v),(4,.int .u64 ((ns[0]:Nat):Int)),(40,.i 0)]) h) (NewP h ns):=k2j n hp U r (qk h) 6 0 ns[0] rfl hb hs;refine qbc (λk=>?_) (λk=>?_)
 ·refine rd λq hq=>?_;refine qy (rdc hq qcr) ?_;refine qbb ?_ ?_
  ·rw[qbx];intro e;have Z:ns.length=1:=by rw[qby]at k;omega
   obtain⟨y,hy⟩:=List.length_eq_one_iff.1 Z;subst hy;simp[num]at h1 e;omega
  ·refine rd λq hq=>?_;refine qy (rdc hq qcr) ?_;exact I
 ·refine rd λq hq=>?_;refine qy (rdc hq qcr) ?_;exact I
def kcg(x1:List Nat):List Nat:=(mulN x1 x1).1
theorem kuz{h:AH}{a1:Sl}{x1:List Nat}(n1:Nats h a1 x1)  : Runs (go (.fn kl0 [a1.v]) h) λv h'=>∃s1:Sl,v=s1.v/\Nats h' s1 (kcg x1)/\Grow h h'/\Own h s1:=by
 rw[kber];obtain⟨s2,H,y,n2,F,G⟩:=kfu n1 n1;refine qy y (qy rfl (qy (seen qcq) (qy (seen qcr) ?_)));have z:kcg x1=(mulN x1 x1).1:=by unfold kcg;exact rfl
 rw[z];exact qx ⟨s2,rfl,n2,F,(G.of_le (qk _))⟩
def kbj(x1:List Nat):Bool:=cond ((rt x1)) (cond (((bitN x1 0))) (cond (decide ((((bitsN x1:Nat):Int))>=15)) (decide ((((bitsN x1:Nat):Int))<=80)) (false)) (false)) (false)
theorem kvh{h:AH}{a1:Sl}{x1:List Nat}(n1:Nats h a1 x1)  : Runs (go (.fn kmp [a1.v]) h) λv h'=>v=.bool (kbj x1)/\Grow h h':=by
 rw[kbel];obtain⟨_,U,K,rfl,y⟩:=kwa n1;refine qy K (qy (seen qcr) (qy (kcf (n1.grow y)) (qy (seen rfl) ?_)));refine qbc (λF=>?_) (λF=>?_)
 ·obtain⟨_,V,Q,rfl,H⟩:=kzw (n1.grow y) (i:=0) (by decide);refine qy Q (qy (seen rfl) ?_);refine qbc (λG=>?_) (λG=>?_)
  ·refine qbc (λI=>?_) (λI=>?_)
   ·have z:kbj x1=decide ((((bitsN x1:Nat):Int))<=80):=by unfold kbj;exact(condT F).trans ((condT G).trans ((condT I).trans rfl))
    rw[z];exact qx ⟨rfl,(y.trans H)⟩
   ·have z:kbj x1=false:=by unfold kbj;exact(condT F).trans ((condT G).trans ((condF I).trans rfl))
    rw[z];exact qx ⟨rfl,(y.trans H)⟩
  ·have z:kbj x1=false:=by unfold kbj;exact(condT F).trans ((condF G).trans rfl)
   rw[z];exact qx ⟨rfl,(y.trans H)⟩
 ·have z:kbj x1=false:=by unfold kbj;exact(condF F).trans rfl
  rw[z];exact qx ⟨rfl,y⟩
def kdl(x1 x2 x3:List Nat):Bool:=cond (!(rt x1)) (false) (cond (decide ((List.length x1:Int)=0)) (false) (cond (decide ((cmpN x1 x3)>=0)) (false) (decide ((cmpN ((gcdN x1 x2).1) [1])=0))))
theorem kbgk{h:AH}{a1:Sl}{x1:List Nat}{a2:Sl}{x2:List Nat}{a3:Sl}{x3:List Nat}(n1:Nats h a1 x1)(n2:Nats h a2 x2)(W:Nats h a3 x3)  : Runs (go (.fn ksk [a1.v,a2.v,a3.v]) h) λv h'=>v=.bool (kdl x1 x2 x3)/\Grow h h':=by
 rw[kbpe];rw[n1.len];refine qy (kcf n1) (qy (seen rfl) ?_);refine qbc (λy=>?_) (λy=>?_)
 ·have z:kdl x1 x2 x3=false:=by unfold kdl;exact(condT y).trans rfl
  rw[z];exact qx ⟨rfl,(qk _)⟩
 ·refine qbc (λG=>?_) (λG=>?_)
  ·have z:kdl x1 x2 x3=false:=by unfold kdl;exact(condF y).trans ((condT G).trans rfl)
   rw[z];exact qx ⟨rfl,(qk _)⟩
  ·obtain⟨H7,Z,H⟩:=keg n1 W;refine qy Z (qy (seen qcr) ?_);refine qbc (λI=>?_) (λI=>?_)
   ·have z:kdl x1 x2 x3=false:=by unfold kdl;exact(condF y).trans ((condF G).trans ((condT I).trans rfl))
    rw[z];exact qx ⟨rfl,H⟩
   ·obtain⟨_,H9,e9,s9,rfl,n9,g9,o9⟩:=k4j (n1.grow H) (n2.grow H);refine qy e9 (qy rfl (qy (seen qcq) (qy (seen qcr) ?_)));refine qz λaa K F=>?_;obtain⟨ab,Q,U⟩:=keg (n9.grow F) (Nats.of_has (xs:=[1]) K (by decide) (by decide));refine qy Q (qy (seen qcr) ?_);have z:kdl x1 x2 x3=decide ((cmpN ((gcdN x1 x2).1) [1])=0):=by unfold kdl;exact(condF y).trans ((condF G).trans ((condF I).trans rfl))
    rw[z];have V:=(((H.trans g9).trans F).trans U);exact qx ⟨rfl,V⟩
def kbs(x1 x2:List Nat):Bool:=cond (((kbj x1))) (((kdl x2 x1 (kcg x1)))) (false)
theorem ktc{h:AH}{a1:Sl}{x1:List Nat}{a2:Sl}{x2:List Nat}(n1:Nats h a1 x1)(n2:Nats h a2 x2)  : Runs (go (.fn knp [a1.v,a2.v]) h) λv h'=>v=.bool (kbs x1 x2)/\Grow h h':=by
 rw[kbc6];obtain⟨_,W,H,rfl,y⟩:=kvh n1;refine qy H (qy (seen rfl) ?_);refine qbc (λF=>?_) (λF=>?_)
 ·obtain⟨_,Z,I,s5,rfl,K,G,o5⟩:=kuz (n1.grow y);refine qy I (qy (seen qcq) ?_);obtain⟨_,H6,Q,rfl,U⟩:=kbgk (n2.grow (y.trans G)) (n1.grow (y.trans G)) K;refine qy Q (qy (seen rfl) ?_);have z:kbs x1 x2=((kdl x2 x1 (kcg x1))):=by unfold kbs;exact(condT F).trans rfl
  rw[z];have V:=((y.trans G).trans U);exact qx ⟨rfl,V⟩
 ·have z:kbs x1 x2=false:=by unfold kbs;exact(condF F).trans rfl
  rw[z];exact qx ⟨rfl,y⟩
def klp(x1 x2:List Nat):List Nat:=(addN ((mulN x2 x1).1) [1]).1
theorem kbnh{h:AH}{a1:Sl}{x1:List Nat}{a2:Sl}{x2:List Nat}(n1:Nats h a1 x1)(n2:Nats h a2 x2)  : Runs (go (.fn kv9 [a1.v,a2.v]) h) λv h'=>∃s1:Sl,v=s1.v/\Nats h' s1 (klp x1 x2)/\Grow h h'/\Own h s1:=by
 rw[kbbm];obtain⟨s3,W,G,H,F,Z⟩:=kfu n2 n1;refine qy G (qy rfl (qy (seen qcq) (qy (seen qcr) ?_)));refine qz λH4 b4 y=>?_;obtain⟨s5,H5,I,K,Q,U⟩:=kqi (H.grow y) (Nats.of_has (xs:=[1]) b4 (by decide) (by decide));refine qy I (qy rfl (qy (seen qcq) (qy (seen qcr) ?_)));have z:klp x1 x2=(addN ((mulN x2 x1).1) [1]).1:=by unfold klp;exact rfl
 rw[z];have V:=((F.trans y).trans Q);exact qx ⟨s5,rfl,K,V,(U.of_le (F.trans y))⟩
def kpt(x1 x2 x3:List Nat):List Nat:=(divN ((mulN x1 x2).1) x3).2.1
theorem khn{a b:Nat}(z:a<B^30)(hb:b<B^30):mulN (digs B a) (digs B b)=(digs B (a*b),0):=by
 have y:a*b<B^64:=by
  calc a*b<B^30*B^30:=Nat.mul_lt_mul_of_lt_of_lt z hb
   _=B^60:=by rw[<- Nat.pow_add]
   _<=B^64:=Nat.pow_le_pow_right (by decide) (by decide)
 have up:∀{c:Nat},c<B^30->c<B^64:=λh=>qbt h (Nat.pow_le_pow_right (by decide) (by decide));unfold mulN;rw[if_pos ⟨kv (up z),kv (up hb)⟩,kg B2,kg B2];unfold told;rw[if_pos y]
end Go.Ab
set_option maxRecDepth 10000
namespace Go.Ab
open Go.Proofs Go.Num
section
variable{ns xs es:List Nat}(ln:∀x∈ns,x<B)(le:∀x∈es,x<B)
include ln le
end
section
variable{ns xs ys:List Nat}(ln:∀x∈ns,x<B)(lx:∀x∈xs,x<B)(ly:∀x∈ys,x<B)
include ln lx
end
section
variable{h:AH}{s t u:Sl}{ns xs ys:List Nat}(n:Nats h s ns)(m:Nats h t xs)(k:Nats h u ys)
include n m k
end
end Go.Ab
set_option maxRecDepth 10000
namespace Go.Ab
open Go.Proofs Go.Num
end Go.Ab
namespace Go.Num
def Cg(n a b:Nat):Prop:=a%n=b%n
theorem Cg.rfl{n a:Nat}:Cg n a a:=Eq.refl _
theorem Cg.symm{n a b:Nat}(h:Cg n a b):Cg n b a:=Eq.symm h
theorem Cg.trans{n a b c:Nat}(h:Cg n a b)(k:Cg n b c):Cg n a c:=Eq.trans h k
theorem Cg.of_eq{n a b:Nat}(h:a=b):Cg n a b:=by subst h;exact Cg.rfl
theorem Cg.mod{n a:Nat}:Cg n (a%n) a:=Nat.mod_mod _ _
theorem Cg.add{n a b c d:Nat}(h:Cg n a b)(k:Cg n c d):Cg n (a+c) (b+d):=by
 unfold Cg at *
 rw[Nat.add_mod,h,k,<- Nat.add_mod]
theorem Cg.mul{n a b c d:Nat}(h:Cg n a b)(k:Cg n c d):Cg n (a*c) (b*d):=by
 unfold Cg at *
 rw[Nat.mul_mod,h,k,<- Nat.mul_mod]
theorem Cg.pow{n a b:Nat}(h:Cg n a b):∀k:Nat,Cg n (a^k) (b^k)
 | 0=>Cg.rfl
 | k+1=>(h.pow k).mul h
theorem Cg.add_mul{n a b:Nat}:Cg n (a+n*b) a:=by unfold Cg;rw[Nat.add_mul_mod_self_left]
theorem Cg.of_dvd{m n a b:Nat}(d:m∣n)(h:Cg n a b):Cg m a b:=by
 unfold Cg at *
 rw[<- Nat.mod_mod_of_dvd a d,h,Nat.mod_mod_of_dvd b d]
theorem Cg.eq{n a b:Nat}(h:Cg n a b)(y:a<n)(hb:b<n):a=b:=by unfold Cg at h;rwa[Nat.mod_eq_of_lt y,Nat.mod_eq_of_lt hb]at h
theorem Cg.dvd_sub{n a b:Nat}(h:Cg n a b)(y:b<=a):n∣a-b:=Nat.dvd_of_mod_eq_zero (Nat.sub_mod_eq_zero_of_mod_eq h)
theorem Cg.of_dvd_sub{n a b:Nat}(y:b<=a)(h:n∣a-b):Cg n a b:=by
 obtain⟨c,z⟩:=h;have:a=b+n*c:=by omega
 rw[this];exact Cg.add_mul
theorem Cg.cancel_le{n a b c:Nat}(co:Nat.Coprime n c)(y:b<=a)(h:Cg n (a*c) (b*c)):Cg n a b:=by have h1:=h.dvd_sub (Nat.mul_le_mul_right _ y);rw[<- Nat.sub_mul]at h1;exact Cg.of_dvd_sub y (Nat.Coprime.dvd_of_dvd_mul_right co h1)
theorem Cg.cancel{n a b c:Nat}(co:Nat.Coprime n c)(h:Cg n (a*c) (b*c)):Cg n a b:=by
 rcases Nat.le_total b a with y | y
 ·exact Cg.cancel_le co y h
 ·exact(Cg.cancel_le co y h.symm).symm
theorem Cg.cancel_left{n a b c:Nat}(co:Nat.Coprime n c)(h:Cg n (c*a) (c*b)):Cg n a b:=by rw[Nat.mul_comm c,Nat.mul_comm c]at h;exact h.cancel co
theorem Cg.div{m n a b:Nat}(y:0<m)(h:Cg (m*n) (m*a) (m*b)):Cg n a b:=by
 unfold Cg at *
 rw[Nat.mul_mod_mul_left,Nat.mul_mod_mul_left]at h;exact Nat.eq_of_mul_eq_mul_left y h
theorem Cg.times{m n a b:Nat}(h:Cg n a b):Cg (m*n) (m*a) (m*b):=by
 unfold Cg at *
 rw[Nat.mul_mod_mul_left,Nat.mul_mod_mul_left,h]
theorem Cg.cancel_add{n a b c:Nat}(h:Cg n (c+a) (c+b)):Cg n a b:=by
 rcases Nat.le_total b a with y | y
 ·refine Cg.of_dvd_sub y ?_;have:=h.dvd_sub (by omega);rwa[Nat.add_sub_add_left]at this
 ·refine(Cg.of_dvd_sub y ?_).symm;have:=h.symm.dvd_sub (by omega);rwa[Nat.add_sub_add_left]at this
theorem Cg.both{m n a b:Nat}(co:Nat.Coprime m n)(h:Cg m a b)(k:Cg n a b):Cg (m*n) a b:=by
 rcases Nat.le_total b a with y | y
 ·exact Cg.of_dvd_sub y (co.mul_dvd_of_dvd_of_dvd (h.dvd_sub y) (k.dvd_sub y))
 ·exact(Cg.of_dvd_sub y (co.mul_dvd_of_dvd_of_dvd (h.symm.dvd_sub y) (k.symm.dvd_sub y))).symm
def prodL:List Nat->Nat
 | []=>1
 | x::xs=>x*prodL xs
theorem kbdo{l m:List Nat}(h:l.Perm m):prodL l=prodL m:=by
 induction h with
 | nil=>rfl
 | cons x _ ih=>rw[prodL,prodL,ih]
 | swap x y l=>simp only[prodL];rw[Nat.mul_left_comm]
 | trans _ _ i j=>rw[i,j]
theorem ks8:∀{l m:List Nat},l.Nodup->(∀x∈l,x∈m)->l.length=m.length->l.Perm m
 | [],m,_,_,h=>by
  have:m=[]:=List.length_eq_zero_iff.1 h.symm;subst this;exact .nil
 | x::l,m,G,hs,h=>by
  have z:x∈m:=hs x (by simp);obtain⟨h1,h2⟩:=List.nodup_cons.1 G;have H:(m.erase x).length=l.length:=by rw[List.length_erase_of_mem z,<- h];simp
  refine List.Perm.trans (List.Perm.cons x (ks8 h2 (λy F=>?_) H.symm)) (List.perm_cons_erase z).symm;have:y≠x:=λe=>h1 (e▸F);exact(List.mem_erase_of_ne this).2 (hs y (by simp[F]))
def IsPrime(p:Nat):Prop:=2<=p/\∀d,d∣p->d=1\/d=p
theorem IsPrime.coprime{p a:Nat}(h:IsPrime p)(y:¬p∣a):Nat.Coprime p a:=by
 rcases h.2 _ (Nat.gcd_dvd_left p a)with e | e
 ·exact e
 ·exact absurd (e▸Nat.gcd_dvd_right p a) y
theorem IsPrime.dvd_mul{p a b:Nat}(h:IsPrime p)(d:p∣a*b):p∣a\/p∣b:=by
 by_cases y:p∣a
 ·exact .inl y
 ·exact .inr ((h.coprime y).dvd_of_dvd_mul_left d)
theorem k6c{p a:Nat}:∀l:List Nat,Cg p (prodL (l.map λi=>a*i%p)) (a^l.length*prodL l)
 | []=>Cg.of_eq (by simp[prodL])
 | x::l=>by have:=(Cg.mod (n:=p) (a:=a*x)).mul (k6c (p:=p) (a:=a) l);refine this.trans (Cg.of_eq ?_);rw[List.length_cons,Nat.pow_succ,prodL];simp only[Nat.mul_assoc,Nat.mul_comm,Nat.mul_left_comm]
theorem kyr{p:Nat}(h:IsPrime p):∀l:List Nat,(∀x∈l,¬p∣x)->¬p∣prodL l
 | [],_,d=>by
  have:=Nat.le_of_dvd (by decide) d;have:=h.1;simp[prodL]at *
  omega
 | x::l,z,d=>by
  rcases h.dvd_mul d with e | e
  ·exact z x (by simp) e
  ·exact kyr h l (λy F=>z y (by simp[F])) e
theorem kvl{f:Nat->Nat}:∀{l:List Nat},l.Nodup->(∀x∈l,∀y∈l,f x=f y->x=y)->(l.map f).Nodup
 | [],_,_=>by simp
 | x::l,G,z=>by obtain⟨h1,h2⟩:=List.nodup_cons.1 G;rw[List.map_cons,List.nodup_cons];refine⟨λH=>?_,kvl h2 λa I b hb=>z a (by simp[I]) b (by simp[hb])⟩;obtain⟨y,F,e⟩:=List.mem_map.1 H;exact h1 (z y (by simp[F]) x (by simp) e▸F)
theorem fermat{p a:Nat}(h:IsPrime p)(H:¬p∣a):Cg p (a^(p-1)) 1:=by
 have hp:=h.1;have I:(List.range' 1 (p-1)).length=p-1:=by simp
 have F:∀x,x∈List.range' 1 (p-1)↔1<=x/\x<p:=λx=>by rw[List.mem_range'_1];omega
 have nd:∀x,1<=x/\x<p->¬p∣x:=λx G d=>by have:=Nat.le_of_dvd (by omega) d;omega
 have inj:∀x∈List.range' 1 (p-1),∀y∈List.range' 1 (p-1),a*x%p=a*y%p->x=y:=λx G y K e=>by have h1:=(F x).1 G;have h2:=(F y).1 K;exact(Cg.cancel_left (h.coprime H) e).eq h1.2 h2.2
 have Q:((List.range' 1 (p-1)).map λi=>a*i%p).Perm (List.range' 1 (p-1)):=by
  refine ks8 (kvl List.nodup_range' inj) (λz U=>?_) (by simp);obtain⟨x,G,e⟩:=List.mem_map.1 U;subst e;rw[F];refine⟨?_,Nat.mod_lt _ (by omega)⟩;rcases Nat.eq_zero_or_pos (a*x%p)with e | e
  ·rcases h.dvd_mul (Nat.dvd_of_mod_eq_zero e)with d | d
   ·exact absurd d H
   ·exact absurd d (nd x ((F x).1 G))
  ·exact e
 have e:=k6c (p:=p) (a:=a) (List.range' 1 (p-1));rw[kbdo Q,I]at e;have co:Nat.Coprime p (prodL (List.range' 1 (p-1))):=h.coprime (kyr h _ λx G=>nd x ((F x).1 G));refine(Cg.cancel co ?_).symm;rw[Nat.one_mul];exact e
theorem binom1(n x:Nat):∀k:Nat,Cg (n*n) ((1+n*x)^k) (1+n*(x*k))
 | 0=>Cg.of_eq (by simp)
 | k+1=>by
  have:=(binom1 n x k).mul (Cg.rfl (n:=n*n) (a:=1+n*x));refine this.trans ?_
  have e:(1+n*(x*k))*(1+n*x)=1+n*(x*(k+1))+n*n*(x*k*x):=by rw[Nat.add_mul,Nat.mul_add,Nat.mul_add,Nat.mul_add];simp only[Nat.mul_assoc,Nat.mul_comm,Nat.mul_left_comm,Nat.one_mul,Nat.mul_one,Nat.mul_add];omega
  rw[e];exact Cg.add_mul
theorem kbil{n f:Nat}(co:Nat.Coprime n f)(F:1<n):∃g,g<n/\Cg n (f*g) 1:=by
 have G:((List.range n).map λi=>f*i%n).Perm (List.range n):=by
  refine ks8 (kvl List.nodup_range λx H y I e=>?_) (λz K=>?_) (by simp)
  ·exact(Cg.cancel_left co e).eq (List.mem_range.1 H) (List.mem_range.1 I)
  ·obtain⟨x,_,e⟩:=List.mem_map.1 K;subst e;exact List.mem_range.2 (Nat.mod_lt _ (by omega))
 have h1:1∈(List.range n).map λi=>f*i%n:=G.mem_iff.2 (List.mem_range.2 F);obtain⟨g,Q,e⟩:=List.mem_map.1 h1;exact⟨g,List.mem_range.1 Q,by unfold Cg;rw[e,Nat.mod_eq_of_lt F]⟩
def Hid(n f c m:Nat):Prop:=m<n/\Cg (n*n) (c^f) (1+n*(m*f))
theorem Hid.cg{n f c d m:Nat}(h:Hid n f c m)(e:Cg (n*n) c d):Hid n f d m:=⟨h.1,(e.symm.pow f).trans h.2⟩
theorem Hid.uniq{n f c x y:Nat}(co:Nat.Coprime n f)(z:0<n)(h:Hid n f c x)(k:Hid n f c y):x=y:=by have e:=(h.2.symm.trans k.2).cancel_add;exact((e.div z).cancel co).eq h.1 k.1
theorem Hid.mul{n f c d x y:Nat}(z:0<n)(h:Hid n f c x)(k:Hid n f d y):Hid n f (c*d) ((x+y)%n):=by
 refine⟨Nat.mod_lt _ z,?_⟩;rw[Nat.mul_pow];refine(h.2.mul k.2).trans ?_
 have e:(1+n*(x*f))*(1+n*(y*f))=1+n*((x+y)*f)+n*n*(x*f*(y*f)):=by rw[Nat.add_mul,Nat.mul_add,Nat.mul_add,Nat.add_mul x y,Nat.mul_add];simp only[Nat.mul_assoc,Nat.mul_comm,Nat.mul_left_comm,Nat.one_mul,Nat.mul_one];omega
 rw[e];refine Cg.add_mul.trans (Cg.rfl.add (Cg.times ?_));exact(Cg.mod.symm).mul Cg.rfl
theorem Hid.shown{n f m:Nat}(h:m<n):Hid n f (m*n+1) m:=⟨h,by rw[Nat.add_comm,Nat.mul_comm m n];exact binom1 n m f⟩
structure KeyOk(p q:Nat):Prop where
 hp:IsPrime p
 hq:IsPrime q
 ne:p≠q
 co:Nat.Coprime (p*q) ((p-1)*(q-1))
theorem KeyOk.swap{p q:Nat}(k:KeyOk p q):KeyOk q p:=⟨k.hq,k.hp,λe=>k.ne e.symm,by rw[Nat.mul_comm q p,Nat.mul_comm (q-1)];exact k.co⟩
section
variable{p q:Nat}(k:KeyOk p q)
include k
theorem KeyOk.not_dvd:¬p∣q:=λd=>by
 rcases k.hq.2 p d with e | e
 ·have:=k.hp.1;omega
 ·exact k.ne e
theorem KeyOk.copq:Nat.Coprime p q:=k.hp.coprime k.not_dvd
theorem KeyOk.pos:1<p*q:=by have:=Nat.mul_le_mul k.hp.1 k.hq.1;omega
theorem KeyOk.cof:Nat.Coprime p (q-1):=Nat.Coprime.coprime_dvd_left (Nat.dvd_mul_right p q) (Nat.Coprime.coprime_dvd_right (Nat.dvd_mul_left (q-1) (p-1)) k.co)
theorem KeyOk.ndq:¬p∣q*(p-1):=λd=>by
 rcases k.hp.dvd_mul d with d | d
 ·exact k.not_dvd d
 ·have:=Nat.le_of_dvd (by have:=k.hp.1;omega) d;have:=k.hp.1;omega
theorem KeyOk.unit{c:Nat}(h:Nat.Coprime c (p*q)):¬p∣c:=λd=>by have h1:p∣Nat.gcd c (p*q):=Nat.dvd_gcd d (Nat.dvd_mul_right p q);rw[h]at h1;have:=Nat.le_of_dvd (by decide) h1;have:=k.hp.1;omega
theorem KeyOk.euler{c:Nat}(h:Nat.Coprime c (p*q)):Cg (p*q) (c^((p-1)*(q-1))) 1:=by
 refine Cg.both k.copq ?_ ?_
 ·rw[Nat.pow_mul];refine((fermat k.hp (k.unit h)).pow _).trans (Cg.of_eq (Nat.one_pow _))
 ·rw[Nat.mul_comm,Nat.pow_mul];refine((fermat k.hq (k.swap.unit (by rw[Nat.mul_comm];exact h))).pow _).trans (Cg.of_eq (Nat.one_pow _))
omit k in
theorem kyi{n u:Nat}(y:1<n)(h:Cg n u 1):u=1+n*(u/n):=by unfold Cg at h;rw[Nat.mod_eq_of_lt y]at h;have:=Nat.div_add_mod u n;omega
theorem KeyOk.hid{c:Nat}(h:Nat.Coprime c (p*q)):∃m,Hid (p*q) ((p-1)*(q-1)) c m:=by
 obtain⟨g,F,y⟩:=kbil k.co k.pos;have e:=kyi k.pos (k.euler h);generalize G:(p-1)*(q-1)=f at *
 generalize H:p*q=n at *
 refine⟨c^f/n*g%n,Nat.mod_lt _ (by have:=k.pos;omega),?_⟩;refine(Cg.of_eq e).trans (Cg.rfl.add (Cg.times ?_));refine Cg.trans ?_ ((Cg.mod.symm).mul Cg.rfl);have z:c^f/n*g*f=c^f/n*(f*g):=by simp only[Nat.mul_assoc,Nat.mul_comm,Nat.mul_left_comm]
 rw[z];have:=(Cg.rfl (n:=n) (a:=c^f/n)).mul y.symm;rwa[Nat.mul_one]at this
def sayP(p x:Nat):Nat:=(x%(p*p))^(p-1)%(p*p)/p
theorem KeyOk.say{x:Nat}(h:¬p∣x):(x%(p*p))^(p-1)%(p*p)=1+p*sayP p x/\sayP p x<p/\Cg (p*p) (x^(p-1)) (1+p*sayP p x):=by
 have hp:=k.hp.1;have y:Cg (p*p) ((x%(p*p))^(p-1)%(p*p)) (x^(p-1)):=Cg.mod.trans (Cg.mod.pow _);have F:Cg p ((x%(p*p))^(p-1)%(p*p)) 1:=(y.of_dvd (Nat.dvd_mul_right p p)).trans (fermat k.hp h);have z:=kyi (by omega:1<p) F;refine⟨z,?_,?_⟩
 ·unfold sayP;rw[Nat.div_lt_iff_lt_mul (by omega)];exact Nat.mod_lt _ (Nat.mul_pos (by omega) (by omega))
 ·exact y.symm.trans (Cg.of_eq z)
theorem KeyOk.say_one:Cg p (sayP p (1*(p*q)+1)) (q*(p-1)):=by
 have hp:=k.hp.1
 have nd:¬p∣1*(p*q)+1:=λd=>by have:p∣1:=(Nat.dvd_add_right (Nat.dvd_trans (Nat.dvd_mul_right p q) (Nat.dvd_mul_left _ _))).1 d;have:=Nat.le_of_dvd (by decide) this;omega
 obtain⟨_,_,e⟩:=k.say nd;have y:1*(p*q)+1=1+p*q:=by omega
 rw[y]at e|-;exact((e.symm.trans (binom1 p q (p-1))).cancel_add).div (by omega)
theorem KeyOk.part{c m:Nat}(h:Nat.Coprime c (p*q))(d:Hid (p*q) ((p-1)*(q-1)) c m):Cg p (sayP p c) (m*sayP p (1*(p*q)+1)):=by
 have hp:=k.hp.1;obtain⟨_,_,e⟩:=k.say (k.unit h)
 have F:Cg (p*p) (c^((p-1)*(q-1))) (1+p*(sayP p c*(q-1))):=by rw[Nat.pow_mul];exact(e.pow _).trans (binom1 p _ _)
 have G:Cg (p*p) (c^((p-1)*(q-1))) (1+p*q*(m*((p-1)*(q-1)))):=d.2.of_dvd (Nat.mul_dvd_mul (Nat.dvd_mul_right p q) (Nat.dvd_mul_right p q));have y:=(F.symm.trans G).cancel_add;rw[Nat.mul_assoc]at y;have z:=y.div (by omega);have H:q*(m*((p-1)*(q-1)))=m*(q*(p-1))*(q-1):=by simp only[Nat.mul_assoc,Nat.mul_comm,Nat.mul_left_comm]
 rw[H]at z;refine(z.cancel k.cof).trans ?_;exact Cg.rfl.mul k.say_one.symm
theorem KeyOk.say_unit:Nat.Coprime p (sayP p (1*(p*q)+1)):=k.hp.coprime λd=>k.ndq (by have e:=k.say_one;unfold Cg at e;rw[Nat.mod_eq_zero_of_dvd d]at e;exact Nat.dvd_of_mod_eq_zero e.symm)
theorem KeyOk.found{c m i:Nat}(h:Nat.Coprime c (p*q))(d:Hid (p*q) ((p-1)*(q-1)) c m)(y:Cg p (sayP p (1*(p*q)+1)*i) 1):sayP p c*i%p=m%p:=by have e:=(k.part h d).mul (Cg.rfl (n:=p) (a:=i));refine e.trans ?_;rw[Nat.mul_assoc];have:=(Cg.rfl (n:=p) (a:=m)).mul y;rwa[Nat.mul_one]at this
end
def Least(n d:Nat):Prop:=2<=d/\d∣n/\∀e,2<=e->e∣n->d<=e
theorem Least.uniq{n d e:Nat}(a:Least n d)(b:Least n e):d=e:=Nat.le_antisymm (a.2.2 e b.1 b.2.1) (b.2.2 d a.1 a.2.1)
theorem k4g{n:Nat}(h:2<=n):∃d,Least n d:=by
 have key:∀k,(∃d,d<=k/\2<=d/\d∣n)->∃d,Least n d:=by
  intro k
  induction k with
  | zero=>rintro ⟨d,h1,h2,_⟩;omega
  | succ k ih =>
   rintro ⟨d,h1,h2,y⟩
   by_cases hk:∃e,e<=k/\2<=e/\e∣n
   ·exact ih hk
   ·refine⟨d,h2,y,λe z F=>?_⟩;rcases Nat.lt_or_ge e d with h | h
    ·exact absurd ⟨e,by omega,z,F⟩ hk
    ·exact h
 exact key n ⟨n,Nat.le_refl _,h,Nat.dvd_refl _⟩
noncomputable def leastN(n:Nat):Nat:=by
 classical
 exact if h:∃d,Least n d then h.choose else 0
theorem kip{n d:Nat}(h:Least n d):leastN n=d:=by unfold leastN;have y:∃d,Least n d:=⟨d,h⟩;rw[dif_pos y];exact y.choose_spec.uniq h
theorem kbh3{n:Nat}(h:2<=n):Least n (leastN n):=by obtain⟨d,y⟩:=k4g h;rw[kip y];exact y
theorem Least.prime{n d:Nat}(h:Least n d):IsPrime d:=⟨h.1,λe y=>by
 rcases Nat.eq_zero_or_pos e with h0 | h0
 ·rw[h0]at y;have:=Nat.eq_zero_of_zero_dvd y;have:=h.1;omega
 ·rcases Nat.lt_or_ge e 2 with h1 | h1
  ·left;omega
  ·right
   exact Nat.le_antisymm (Nat.le_of_dvd (by have:=h.1;omega) y) (h.2.2 e h1 (Nat.dvd_trans y h.2.1))⟩
theorem kml{n:Nat}(h:2<=n)(no:∀e,2<=e->e*e<=n->¬e∣n):Least n n:=by
 obtain⟨d,y⟩:=k4g h;rcases Nat.lt_or_ge n (d*d)with F | F
 ·obtain⟨c,z⟩:=y.2.1
  have:c=1:=by
   rcases Nat.lt_or_ge c 2 with h2 | h2
   ·rcases Nat.eq_zero_or_pos c with h0 | h0
    ·rw[h0]at z;omega
    ·omega
   ·have G:=y.2.2 c h2 ⟨d,by rw[z,Nat.mul_comm]⟩;have:d*d<=d*c:=Nat.mul_le_mul_left _ G;omega
  rw[this,Nat.mul_one]at z;rw[<- z]at y;exact y
 ·exact absurd y.2.1 (no d y.1 F)
theorem kqr{n d:Nat}(h:2<=d)(y:d∣n)(no:∀e,2<=e->e<d->¬e∣n):Least n d:=⟨h,y,λe z F=>by
 rcases Nat.lt_or_ge e d with h' | h'
 ·exact absurd F (no e z h')
 ·exact h'⟩
theorem k3j{n:Nat}(h:2<=n):leastN n=n↔IsPrime n:=by
 constructor
 ·intro e;have:=(kbh3 h).prime;rwa[e]at this
 ·intro hp;refine kip ⟨h,Nat.dvd_refl _,λe z y=>?_⟩;rcases hp.2 e y with h1 | h1<;>omega
end Go.Num
set_option maxRecDepth 10000
namespace Go.Ab
open IntKind (wrap)
open Go.Proofs Go.Num
section
variable{h:AH}{l i2 i3 n:Nat}
noncomputable def lnote(y:LoopState)(z:Option Code)(n i2 i3:Nat)(g:AV):ABlk:=kdn kw4 kcv 0 y z [(0,.int .u64 (n:Int)),(1,.p (.new i2 0)),(2,.p (.new i3 0)),(4,.int .u64 (n:Int)),(5,g)]
noncomputable def lfin(h:AH)(l n i2 i3:Nat)(g:AV)(d:Nat):AH:=(h.upd i3 [.int .u64 (d:Int)] kf).setBlk l (lnote .done (some .ret) n i2 i3 g)
theorem rdU{h:AH}{i:Nat}{x:Int}{e:TypeId}(b:h.has i [.int .u64 x] e):(h.cell (.new i 0)).bind (AV.asInt .u64)=some x:=b.rd0 rfl rfl
theorem wrapSq{d:Nat}(y:d<4294967296):wrap .u64 ((d:Int)*(d:Int))=((d*d:Nat):Int):=by rw[<- Int.natCast_mul,wrapU];have:d*d<18446744073709551616:=qbt (Nat.mul_lt_mul'' y y) (by decide);omega
theorem kr5{g:AV}(hb:h.blks[l]?=some (lnote .ready none n i2 i3 g))(b2:h.has i2 [.int .u64 (n:Int)] kf)(b3:h.has i3 [.int .u64 0] kf){d:Nat}(Q:0<d) :
  go (.round l [.int .u64 (d:Int)]) h=if d∣n then some (.bool false,lfin h l n i2 i3 g d)else some (.bool true,h):=by
 have K:l<h.blks.size:=(qcf.1 hb).1;have n2:i2≠l:=λe=>by rw[e]at b2;rw[AH.has,hb]at b2;cases b2
 have F:i3≠l:=λe=>by rw[e]at b3;rw[AH.has,hb]at b3;cases b3
 rw[kbhg l none _ _ _ _ _ _ _ hb,kp2 (h:=h) hb,qbv];generalize hq:h.setBlk l _=h';have G:h'.has i2 [.int .u64 (n:Int)] kf:=by rw[AH.has,<- hq,AH.setBlk_ne n2];exact b2
 have H:h'.has i3 [.int .u64 0] kf:=by rw[AH.has,<- hq,AH.setBlk_ne F];exact b3
 have bl:h'.blks[l]?=some (lnote .busy none n i2 i3 g):=by rw[<- hq];exact qbo K
 rw[rdU G,qbv,condF (by rw[qbx];omega)];have z:Int.tmod (n:Int) (d:Int)=((n%d:Nat):Int):=rfl;rw[z];by_cases y:d∣n
 ·rw[if_pos y,condT (by rw[qby,Nat.mod_eq_zero_of_dvd y];rfl),H.puts_all (vs:=[AV.int .u64 (d:Int)]) rfl,qbv]
  have I:(h'.upd i3 [AV.int .u64 (d:Int)] kf).blks[l]?=some (lnote .busy none n i2 i3 g):=by simp only[AH.upd];rw[Array.getElem?_setIfInBounds_ne F];exact bl
  rw[klf I]
  have e:(h'.upd i3 [AV.int .u64 (d:Int)] kf)=(h.upd i3 [AV.int .u64 (d:Int)] kf).setBlk l (lnote .busy none n i2 i3 g):=by rw[<- hq];simp only[AH.upd,AH.setBlk];rw[Array.setIfInBounds_comm _ _ F.symm];rfl
  rw[e,AH.setBlk_setBlk];rfl
 ·rw[if_neg y,condF (by rw[qbx];intro e;exact y (Nat.dvd_of_mod_eq_zero (by omega))),klf bl];rw[<- hq,AH.setBlk_setBlk];show some (AV.bool true,h.setBlk l (lnote .ready none n i2 i3 g))=_;rw[AH.setBlk_same hb]
def Found(h:AH)(l n i2 i3:Nat)(g:AV)(x:Option (AV×AH)):Prop:=(x=some (.tup [],h)/\Least n n)\/x=some (.tup [],lfin h l n i2 i3 g (leastN n))
theorem wheel{g:AV}(H:2<=n)(hn:n<1099511627776)(hb:h.blks[l]?=some (lnote .ready none n i2 i3 g))(b2:h.has i2 [.int .u64 (n:Int)] kf)(b3:h.has i3 [.int .u64 0] kf){W:Nat}(V:h.has W [.int .u64 (n:Int)] kf) :
  ∀k d,1048600<=d+6*k->d<=1048600->5<=d->d%6=5->(∀e,2<=e->e<d->¬e∣n)->Found h l n i2 i3 g (go (.pt kb6 km4 [(0,.func (.yield l) [] []),(1,.p (.new W 0)),(5,.int .u64 (d:Int))]) h):=by
 intro k
 induction k with
 | zero =>
  intro d h1 h2 h5 h6 no;rw[kum,rdU V,qbv,wrapSq (by omega)];have:1048600*1048600<=d*d:=Nat.mul_le_mul (by omega) (by omega);rw[condF (by rw[qbx];omega)];refine .inl ⟨rfl,kml H λe z Q=>?_⟩
  exact no e z (by
   rcases Nat.lt_or_ge e d with h | h
   ·exact h
   ·have:d*d<=e*e:=Nat.mul_le_mul h h;omega)
 | succ k ih =>
  intro d h1 h2 h5 h6 no;rw[kum,rdU V,qbv,wrapSq (by omega)];by_cases aa:d*d<=n
  ·rw[condT (by rw[qby];omega),kr5 hb b2 b3 (by omega)]
   have Z:d<1048576:=by
    rcases Nat.lt_or_ge d 1048576 with h | h
    ·exact h
    ·have:1048576*1048576<=d*d:=Nat.mul_le_mul h h;omega
   by_cases G:d∣n
   ·rw[if_pos G,qbv];refine .inr ?_;rw[kip (kqr (by omega) G no)];rfl
   ·rw[if_neg G,qbv];show Found h l n i2 i3 g (((h.cell (.new W 0)).bind (AV.asInt .u64)).bind _);rw[rdU V,qbv]
    have w2:wrap .u64 ((d:Int)+2)=((d+2:Nat):Int):=by rw[show((d:Int)+2)=((d+2:Nat):Int)from by omega,wrapU];omega
    have w6:wrap .u64 ((d:Int)+6)=((d+6:Nat):Int):=by rw[show((d:Int)+6)=((d+6:Nat):Int)from by omega,wrapU];omega
    rw[w2,w6,wrapSq (by omega)];have F:∀e,e%2=0->¬e∣n:=λe z hv=>no 2 (by omega) (by omega) (Nat.dvd_trans (Nat.dvd_of_mod_eq_zero z) hv);have I:∀e,e%3=0->¬e∣n:=λe z hv=>no 3 (by omega) (by omega) (Nat.dvd_trans (Nat.dvd_of_mod_eq_zero z) hv)
    have K:∀e,2<=e->e<d+2->¬e∣n:=λe z hl hv=>by
     rcases Nat.lt_or_ge e d with h | h
     ·exact no e z h hv
     ·rcases Nat.lt_or_ge d e with h' | h'
      ·exact F e (by omega) hv
      ·have:e=d:=by omega
       subst this;exact G hv
    by_cases ab:(d+2)*(d+2)<=n
    ·rw[condT (by rw[qby];omega),kr5 hb b2 b3 (by omega)];by_cases y:d+2∣n
     ·rw[if_pos y,qbv];refine .inr ?_;rw[kip (kqr (by omega) y K)];rfl
     ·rw[if_neg y,qbv];refine ih (d+6) (by omega) (by omega) (by omega) (by omega) λe z hl hv=>?_;rcases Nat.lt_or_ge e (d+2)with h | h
      ·exact K e z h hv
      ·have:e=d+2\/e=d+3\/e=d+4\/e=d+5:=by omega
       rcases this with rfl | rfl | rfl | rfl
       ·exact y hv
       ·exact F _ (by omega) hv
       ·exact I _ (by omega) hv
       ·exact F _ (by omega) hv
    ·rw[condF (by rw[qbx];omega)]
     have U:Least n n:=kml H λe z Q hv=>by
      rcases Nat.lt_or_ge e (d+2)with h | h
      ·exact K e z h hv
      ·have:(d+2)*(d+2)<=e*e:=Nat.mul_le_mul h h;omega
     refine .inl ⟨?_,U⟩;rw[kum,rdU V,qbv,wrapSq (by omega)];have:(d+2)*(d+2)<=(d+6)*(d+6):=Nat.mul_le_mul (by omega) (by omega);rw[condF (by rw[qbx];omega)]
  ·rw[condF (by rw[qbx];omega)];refine .inl ⟨rfl,kml H λe z Q hv=>?_⟩;rcases Nat.lt_or_ge e d with h | h
   ·exact no e z h hv
   ·have:d*d<=e*e:=Nat.mul_le_mul h h;omega
theorem small{g:AV}(y:2<=n)(W:n<1099511627776)(hb:h.blks[l]?=some (lnote .ready none n i2 i3 g))(b2:h.has i2 [.int .u64 (n:Int)] kf)(b3:h.has i3 [.int .u64 0] kf){F j:Nat}(H:h.has F [.int .u64 (n:Int)] kf)(V:h.has j [.int .u64 2,.int .u64 3] kf) :
  Found h l n i2 i3 g (go (.pt kb6 kjb [(0,.func (.yield l) [] []),(1,.p (.new F 0)),(6,(⟨some (.new j 0),2,.is 2⟩:Sl).v),(7,.i 2),(8,.i 0)]) h):=by
 have r2:=kr5 (d:=2) hb b2 b3 (by decide);have Z:=kr5 (d:=3) hb b2 b3 (by decide);have e0:idx (⟨some (.new j 0),2,.is 2⟩:Sl).ref (⟨some (.new j 0),2,.is 2⟩:Sl).len 0 1=some (.new j 0):=rfl;have e1:idx (⟨some (.new j 0),2,.is 2⟩:Sl).ref (⟨some (.new j 0),2,.is 2⟩:Sl).len 1 1=some (.new j 1):=rfl;have l0:(h.cell (Ref.new j 0)).bind (AV.asInt .u64)=some 2:=by rw[V.cell];rfl
 have l1:(h.cell (Ref.new j 1)).bind (AV.asInt .u64)=some 3:=by rw[V.cell];rfl
 have w4:wrap .u64 ((2:Int)*2)=4:=by decide
 have w9:wrap .u64 ((3:Int)*3)=9:=by decide
 have i1:wrap .i64 ((0:Int)+1)=1:=by decide
 have I:wrap .i64 ((1:Int)+1)=2:=by decide
 rw[kss,condT (show decide ((0:Int)<2)=true from rfl),e0,qbv,l0,qbv,rdU H,qbv,w4];by_cases h4:n<4
 ·rw[condT (by rw[qby];omega)];refine .inl ⟨rfl,kml y λe K Q=>?_⟩;have:2*2<=e*e:=Nat.mul_le_mul K K;omega
 ·rw[condF (by rw[qbx];omega),show(2:Int)=((2:Nat):Int)from rfl,r2];by_cases z:2∣n
  ·rw[if_pos z,qbv];refine .inr ?_;rw[kip (d:=2) (kqr (by decide) z λe h1 h2=>by omega)];rfl
  ·rw[if_neg z,qbv];show Found h l n i2 i3 g (go (.pt kb6 kjb [(0,.func (.yield l) [] []),(1,.p (.new F 0)),(6,(⟨some (.new j 0),2,.is 2⟩:Sl).v),(7,.i 2),(8,.i (wrap .i64 ((0:Int)+1)))]) h);rw[i1,kss,condT (show decide ((1:Int)<2)=true from rfl),e1,qbv,l1,qbv,rdU H,qbv,w9];by_cases h9:n<9
   ·rw[condT (by rw[qby];omega)];refine .inl ⟨rfl,kml y λe K Q=>?_⟩;rcases Nat.lt_or_ge e 3 with h | h
    ·have:e=2:=by omega
     subst this;exact z
    ·have:3*3<=e*e:=Nat.mul_le_mul h h;omega
   ·rw[condF (by rw[qbx];omega),show(3:Int)=((3:Nat):Int)from rfl,Z];by_cases G:3∣n
    ·rw[if_pos G,qbv];refine .inr ?_
     have U:∀e,2<=e->e<3->¬e∣n:=λe h1 h2=>by
      have:e=2:=by omega
      subst this;exact z
     rw[kip (d:=3) (kqr (by decide) G U)];rfl
    ·rw[if_neg G,qbv];show Found h l n i2 i3 g (go (.pt kb6 kjb [(0,.func (.yield l) [] []),(1,.p (.new F 0)),(6,(⟨some (.new j 0),2,.is 2⟩:Sl).v),(7,.i 2),(8,.i (wrap .i64 ((1:Int)+1)))]) h);rw[I,kss,condF (show decide ((2:Int)<2)=false from rfl)];refine wheel y W hb b2 b3 H 174766 5 (by omega) (by omega) (by omega) (by omega) λe h1 h2 hv=>?_;have:e=2\/e=3\/e=4:=by omega
     rcases this with rfl | rfl | rfl
     ·exact z hv
     ·exact G hv
     ·exact z (Nat.dvd_trans (by decide) hv)
end
theorem a_none{a1:Int}{a2 a3:Ref}{a4:Int}{a5:AV}{h:AH}:go (.pt kcv (((none:Option Code).map Item.code).toList++kly) [(0,.int .u64 a1),(1,.ptr (some a2)),(2,.ptr (some a3)),(4,.int .u64 a4),(5,a5)]) h =
 ((h.cell a2).bind (AV.asInt .u64)).bind λz=>(h.puts a3 [.int .u64 z]).bind λy=>((y.cell a3).bind (AV.asInt .u64)).bind λF=>some (.int .u64 F,y):=kbjv a1 a2 a3 a4 a5 h
theorem kbax{n:Nat}(U:2<=n)(hn:n<1099511627776)(h:AH):Runs (go (.fn kcv [.int .u64 (n:Int)]) h) λv h'=>v=.int .u64 ((leastN n:Nat):Int)/\Grow h h':=by
 rw[kbir];refine qz λh1 b1 g1=>qz λh2 b2 g2=>?_;have I:=g2.has b1;refine qy (rdU I) ?_;rw[kbbj];show Runs (newK h2 (.cells [.int .u64 (n:Int)] kf) λV y=>go (.pt kcv kua [(0,.int .u64 (n:Int)),(1,.p (.new h.blks.size 0)),(2,.p (.new h1.blks.size 0)),(4,.int .u64 (n:Int)),(5,.func (.func kb6) [] [.ptr (some V)])]) y) _;refine qz λy b3 W=>?_;rw[kbqb,kq8];refine Runs.newM λG hb Q=>?_;rw[kbbb];have c1:G.has h.blks.size [.int .u64 (n:Int)] kf:=Q.has (W.has I);have Z:G.has h1.blks.size [.int .u64 0] kf:=Q.has (W.has b2);have c3:G.has h2.blks.size [.int .u64 (n:Int)] kf:=Q.has b3;have ac:h.blks.size<h1.blks.size:=b1.lt;have ad:h1.blks.size<h2.blks.size:=b2.lt;have ae:h2.blks.size<y.blks.size:=b3.lt;have aa:y.blks.size<G.blks.size:=(qcf.1 hb).1;have gA:Grow h G:=((g1.trans g2).trans W).trans Q;generalize hg:(AV.func (.func kb6) [] [AV.ptr (some (Ref.new h2.blks.size 0))])=gv at hb;show Runs ((go (.fn kb6 [.func (.yield y.blks.size) [] [],.p (.new h2.blks.size 0)]) G).bind _) _;rw[kbd0];generalize hK:(λq8:AV×AH=>(kdd y.blks.size q8.2).bind λp9=>go (.pt kcv ((p9.1.map Item.code).toList++kly) [(0,.int .u64 (n:Int)),(1,.p (.new h.blks.size 0)),(2,.p (.new h1.blks.size 0)),(4,.int .u64 (n:Int)),(5,gv)]) p9.2)=K;show Runs ((newK G (.cells [.int .u64 2,.int .u64 3] kf) λab z=>(go (.pt kb6 kjb [(0,.func (.yield y.blks.size) [] []),(1,.p (.new h2.blks.size 0)),(6,(⟨some ab,2,.is 2⟩:Sl).v),(7,.i 2),(8,.i 0)]) z).bind K)) _;refine qz λz b5 F=>?_;have H:z.blks[y.blks.size]?=some (lnote .ready none n h.blks.size h1.blks.size gv):=(F.blk _ aa).trans hb;have gB:=gA.trans F;rcases small U hn H (F.has c1) (F.has Z) (F.has c3) b5 with⟨e,hl⟩ | e
 ·rw[e,<- hK];show Runs ((kdd y.blks.size z).bind _) _;rw[kn8 H,qbv,a_none];have d1:(z.setBlk y.blks.size .dead).has h.blks.size [.int .u64 (n:Int)] kf:=by rw[AH.has,AH.setBlk_ne (by omega)];exact F.has c1
  have d2:(z.setBlk y.blks.size .dead).has h1.blks.size [.int .u64 0] kf:=by rw[AH.has,AH.setBlk_ne (by omega)];exact F.has Z
  refine qy (rdU d1) (q0 d2 rfl λh6 b6 u6=>qy (rdU b6) (qx ⟨by rw[kip hl],?_⟩));exact(gB.setBlk (l:=y.blks.size) (by omega) .dead).updr (by omega) u6
 ·rw[e,<- hK];have f1:(lfin z y.blks.size n h.blks.size h1.blks.size gv (leastN n)).blks[y.blks.size]?=some (lnote .done (some .ret) n h.blks.size h1.blks.size gv):=qbo (by simp only[AH.upd];simp;exact(qcf.1 H).1);show Runs ((kdd y.blks.size _).bind _) _;rw[kbc0 f1,qbv,kbnu]
  have f2:((lfin z y.blks.size n h.blks.size h1.blks.size gv (leastN n)).setBlk y.blks.size .dead).has h1.blks.size [.int .u64 ((leastN n:Nat):Int)] kf:=by rw[AH.has,AH.setBlk_ne (by omega)];unfold lfin;rw[AH.setBlk_ne (by omega)];exact qo (F.has Z) _ _
  refine qy (rdU f2) (qx ⟨rfl,?_⟩);exact((gB.upd (by omega) _ _).setBlk (by omega) _).setBlk (by omega) _
end Go.Ab
set_option maxRecDepth 10000
namespace Go.Ab
open Go.Proofs Go.Num
theorem kbqo{a:Int}{h:AH}(c:(2:Int)<=a/\a<1099511627776):Runs (go (.fn kcv [.int .u64 a]) h) λv h'=>v=.int .u64 ((leastN (Int.toNat a):Nat):Int)/\Grow h h':=by obtain⟨x,rfl⟩:∃x:Nat,a=(x:Int):=⟨a.toNat,by omega⟩;exact kbax (by omega) (by omega) h
inductive kjv
 | fn (a1:Int)
 | no
abbrev kho:=Bool
noncomputable def km6(a1:Int):Option (kjv⊕kho):=cond (decide (a1<128)) (some (.inr true)) (cond (decide (a1>=1099511627776)) (some (.inr true)) ((need ((2:Int)<=a1/\a1<1099511627776)).bind λy=>some (.inr (!decide ((((leastN (Int.toNat a1):Nat):Int))=a1)))))
noncomputable def k3f:kjv->Option (kjv⊕kho)
 | .fn a1=>km6 a1
 | .no=>none
@[reducible] def k6l(h0:AH)(r:kho)(v:AV)(h':AH):Prop:=v=.bool r/\Grow h0 h'
def kva(r:kho):kjv->Prop
 | .fn a1=>∀{h:AH},Runs (go (.fn kkr [.int .u64 a1]) h) (k6l h r)
 | .no=>True
theorem kbq8{r:kho}{o:kjv⊕kho}{a1:Int}(e:km6 a1=some o)(y:GoodS (kva r) r o):kva r (.fn a1):=by
 intro h;rw[kbls];unfold km6 at e;refine qbc (λF=>?_) (λF=>?_)
 ·replace e:=(condT F).symm.trans e;cases e;cases y;exact qx ⟨rfl,(qk _)⟩
 ·replace e:=(condF F).symm.trans e;refine qbc (λG=>?_) (λG=>?_)
  ·replace e:=(condT G).symm.trans e;cases e;cases y;exact qx ⟨rfl,(qk _)⟩
  ·replace e:=(condF G).symm.trans e;obtain⟨z,H,e⟩:=qbw.1 e;obtain⟨_,Q,I,rfl,K⟩:=kbqo  z.down;refine qy I (qy (seen qcr) ?_);cases e;cases y;exact qx ⟨rfl,K⟩
theorem k7y{s:kjv}{r:kho}(z:Iter k3f s r):kva r s:=qbf (λs o e y=>by
 cases s with
 | fn a1=>exact @kbq8 _ _ a1 e y
 | no=>exact True.intro
 ) z
theorem kbkb{h:AH}{a1:Int}  {r:kho}(q:runP k3f (.fn a1)=some r):Runs (go (.fn kkr [.int .u64 a1]) h) (k6l h r):=k7y (ke5 q)
noncomputable def oddF(a:Int):Bool:=cond (decide (a<128)) true (cond (decide (a>=1099511627776)) true (!decide (((leastN (Int.toNat a):Nat):Int)=a)))
theorem k5o{h:AH}(a:Int):Runs (go (.fn kkr [.int .u64 a]) h) λv h'=>v=.bool (oddF a)/\Grow h h':=kbkb (kei (.done (by
 show km6 a=_;unfold km6 oddF;by_cases h1:a<128
 ·rw[qbz h1];rfl
 ·rw[qb0 h1];by_cases h2:a>=1099511627776
  ·rw[qbz h2];rfl
  ·rw[qb0 h2,kp (by omega)];rfl)))
inductive kki
 | fn (a1:Int) (a2:Int)
 | no
abbrev khh:=Int
noncomputable def kmv(a1 a2:Int):Option (kki⊕khh):=cond (((oddF a1))) (some (.inr 9)) (cond (((oddF a2))) (some (.inr 9)) (cond (decide (a1=a2)) (some (.inr 9)) ((need (0<=a1/\a1<18446744073709551616)).bind λK=>(need (0<=a2/\a2<18446744073709551616)).bind λy=>cond (!decide ((((bl (Int.toNat a1):Nat):Int))=(((bl (Int.toNat a2):Nat):Int)))) (some (.inr 9)) ((u64P a1).bind λz=>(u64P a2).bind λF=>(u64P (IntKind.wrap .u64 (a1-1))).bind λG=>(u64P (IntKind.wrap .u64 (a2-1))).bind λH=>(u64P 1).bind λI=>cond (!decide ((cmpN ((gcdN ((mulN [z] [F]).1) ((mulN [G] [H]).1)).1) [I])=0)) (some (.inr 9)) (some (.inr 0))))))
noncomputable def ku6:kki->Option (kki⊕khh)
 | .fn a1 a2=>kmv a1 a2
 | .no=>none
@[reducible] def kwt(h0:AH)(r:khh)(v:AV)(h':AH):Prop:=v=.i r/\Grow h0 h'
def kwp(r:khh):kki->Prop
 | .fn a1 a2=>∀{h:AH},Runs (go (.fn kmj [.agg [.int .u64 a1,.int .u64 a2]]) h) (kwt h r)
 | .no=>True
theorem kbed{r:khh}{o:kki⊕khh}{a1 a2:Int}(e:kmv a1 a2=some o)(y:GoodS (kwp r) r o):kwp r (.fn a1 a2):=by
 intro h;rw[kba1];unfold kmv at e;refine qz λH3 b3 g3=>?_;refine qy (qbe b3 0 rfl qcr) ?_;obtain⟨_,H4,e4,rfl,F⟩:=k5o a1;refine qy e4 (qy (seen rfl) ?_);refine qbc (λk5=>?_) (λk5=>?_)
 ·replace e:=(condT k5).symm.trans e;cases e;cases y;exact qx ⟨rfl,(g3.trans F)⟩
 ·replace e:=(condF k5).symm.trans e;refine qy (qbe (F.has b3) 1 rfl qcr) ?_;obtain⟨_,H6,e6,rfl,G⟩:=k5o a2;refine qy e6 (qy (seen rfl) ?_);refine qbc (λk7=>?_) (λk7=>?_)
  ·replace e:=(condT k7).symm.trans e;cases e;cases y;have G8:=((g3.trans F).trans G);exact qx ⟨rfl,G8⟩
  ·replace e:=(condF k7).symm.trans e;refine qy (qbe ((F.trans G).has b3) 0 rfl qcr) (qy (qbe ((F.trans G).has b3) 1 rfl qcr) ?_);refine qbc (λk8=>?_) (λk8=>?_)
   ·replace e:=(condT k8).symm.trans e;cases e;cases y;have G9:=((g3.trans F).trans G);exact qx ⟨rfl,G9⟩
   ·replace e:=(condF k8).symm.trans e;refine qy (qbe ((F.trans G).has b3) 0 rfl qcr) (qy (qbe ((F.trans G).has b3) 1 rfl qcr) ?_);obtain⟨af,bg,e⟩:=qbw.1 e;refine qy (kwk  af.down) (qy (seen qcr) ?_);refine qbd ((qk _).same ((F.trans G).has b3) 1 1) ?_;obtain⟨V,ai,e⟩:=qbw.1 e;refine qy (kwk  V.down) (qy (seen qcr) ?_);refine qbc (λW=>?_) (λW=>?_)
    ·replace e:=(condT W).symm.trans e;cases e;cases y;have aj:=((g3.trans F).trans G);exact qx ⟨rfl,aj⟩
    ·replace e:=(condF W).symm.trans e;refine qy (qbe ((F.trans G).has b3) 0 rfl qcr) ?_;refine qz λbh ak Z=>?_;have al:=((F.trans G).trans Z);have z:=al.has b3;refine qy (qbe z 1 rfl qcr) ?_;refine qz λbi am H=>?_;obtain⟨bj,an,e⟩:=qbw.1 e;obtain⟨bk,ao,e⟩:=qbw.1 e;obtain⟨bn,bq,ap,aq,I,br⟩:=kfu (qbk (H.has ak) an) (qbk am ao);refine qy ap (qy rfl (qy (seen qcq) (qy (seen qcr) (qy (qbe ((H.trans I).has z) 0 rfl qcr) ?_))));refine qz λbu ar K=>?_;have au:=((H.trans I).trans K);have aa:=au.has z;refine qy (qbe aa 1 rfl qcr) ?_;refine qz λbv aw Q=>?_;obtain⟨bw,ax,e⟩:=qbw.1 e;obtain⟨bx,ay,e⟩:=qbw.1 e;obtain⟨bz,b0,az,a0,ab,b5⟩:=kfu (qbk (Q.has ar) ax) (qbk aw ay);refine qy az (qy rfl (qy (seen qcq) (qy (seen qcr) ?_)));have ba:=((K.trans Q).trans ab);have U:=aq.grow ba;obtain⟨_,b6,bb,b7,rfl,bc,ag,b8⟩:=k4j U a0;refine qy bb (qy rfl (qy (seen qcq) (qy (seen qcr) ?_)));refine qz λb9 bd ac=>?_;obtain⟨ca,be,e⟩:=qbw.1 e;obtain⟨cb,bf,ah⟩:=keg (bc.grow ac) (qbk bd be);refine qy bf (qy (seen qcr) ?_);refine qbc (λad=>?_) (λad=>?_)
     ·replace e:=(condT ad).symm.trans e;cases e;cases y;have ae:=(((((((((((g3.trans F).trans G).trans Z).trans H).trans I).trans K).trans Q).trans ab).trans ag).trans ac).trans ah);exact qx ⟨rfl,ae⟩
     ·replace e:=(condF ad).symm.trans e;cases e;cases y;have ae:=(((((((((((g3.trans F).trans G).trans Z).trans H).trans I).trans K).trans Q).trans ab).trans ag).trans ac).trans ah);exact qx ⟨rfl,ae⟩
theorem kbbu{s:kki}{r:khh}(z:Iter ku6 s r):kwp r s:=qbf (λs o e y=>by
 cases s with
 | fn a1 a2=>exact @kbed _ _ a1 a2 e y
 | no=>exact True.intro
 ) z
theorem k81{h:AH}{a1 a2:Int}  {r:khh}(q:runP ku6 (.fn a1 a2)=some r):Runs (go (.fn kmj [.agg [.int .u64 a1,.int .u64 a2]]) h) (kwt h r):=kbbu (ke5 q)
theorem kfg{x:Nat}(h0:0<x)(h:x<B):digs B x=[x]:=by rw[kew B2 (by omega),Nat.mod_eq_of_lt h,Nat.div_eq_of_lt h,kbo]
theorem kol{x:Nat}(h0:0<x)(h:x<B):rt [x]=true:=by rw[<- kfg h0 h];exact kv (qbt h (by decide))
theorem kfv{a:Nat}(h:a<1099511627776):a<B^30:=qbt h (by decide)
noncomputable def badF(a b:Int):Bool:=oddF a||(oddF b||(decide (a=b)||(!decide (bl a.toNat=bl b.toNat)||!decide (Nat.gcd (a.toNat*b.toNat) ((a.toNat-1)*(b.toNat-1))=1))))
noncomputable def keyF(a b:Int):Int:=cond (badF a b) 9 0
theorem kpe{a:Int}(h:oddF a=false):∃p:Nat,a=(p:Int)/\128<=p/\p<1099511627776/\leastN p=p:=by
 unfold oddF at h;by_cases h1:a<128
 ·rw[qbz h1]at h;cases h
 ·rw[qb0 h1,cond_false]at h;by_cases h2:a>=1099511627776
  ·rw[qbz h2]at h;cases h
  ·rw[qb0 h2,cond_false]at h;have y:((leastN (Int.toNat a):Nat):Int)=a:=by simpa using h
   exact⟨a.toNat,by omega,by omega,by omega,by omega⟩
theorem B40:(1099511627776:Nat)<B:=by decide
theorem kbbs{p q:Nat}(hp:128<=p)(y:p<1099511627776)(hq:128<=q)(z:q<1099511627776) :
  (gcdN ((mulN [p] [q]).1) ((mulN [p-1] [q-1]).1)).1=digs B (Nat.gcd (p*q) ((p-1)*(q-1))):=by
 have F:=B40;have lt:∀{a b:Nat},a<1099511627776->b<1099511627776->a*b<B^2:=λG hb=>qbt (Nat.mul_lt_mul'' G hb) (by decide)
 have H:mulN [p] [q]=(digs B (p*q),0):=by rw[<- kfg (x:=p) (by omega) (by omega),<- kfg (x:=q) (by omega) (by omega),khn (kfv y) (kfv z)]
 have I:mulN [p-1] [q-1]=(digs B ((p-1)*(q-1)),0):=by rw[<- kfg (x:=p-1) (by omega) (by omega),<- kfg (x:=q-1) (by omega) (by omega),khn (kfv (by omega)) (kfv (by omega))]
 have r1:rt (digs B (p*q))=true:=kv (qbt (lt y z) (Nat.pow_le_pow_right (by decide) (by decide)));have r2:rt (digs B ((p-1)*(q-1)))=true:=kv (qbt (lt (by omega) (by omega)) (Nat.pow_le_pow_right (by decide) (by decide)));rw[H,I];unfold gcdN;rw[if_pos ⟨r1,r2⟩,kg B2,kg B2]
theorem gcd_lt{p q:Nat}(hp:128<=p)(y:p<1099511627776)(hq:128<=q)(z:q<1099511627776):Nat.gcd (p*q) ((p-1)*(q-1))<B^64:=by have h1:Nat.gcd (p*q) ((p-1)*(q-1))<=p*q:=Nat.gcd_le_left _ (Nat.mul_pos (by omega) (by omega));have h2:p*q<1099511627776*1099511627776:=Nat.mul_lt_mul'' y z;exact qbu h1 (qbt h2 (by decide))
theorem kzq{g:Nat}(h:g<B^64):decide (cmpN (digs B g) [1]=0)=decide (g=1):=by
 rw[kl6 (kv h) (by decide),kg B2];have:num B [1]=1:=by decide
 rw[this,decide_eq_decide];unfold cmp;split
 ·omega
 ·split<;>omega
theorem ks6{p:Nat}(h1:1<=p)(h:p<B):IntKind.wrap .u64 ((p:Int)-1)=((p-1:Nat):Int):=by
 have e:((p:Int)-1)=((p-1:Nat):Int):=by omega
 rw[e,wrapU];have:p-1<18446744073709551616:=qbu (Nat.sub_le _ _) h;omega
theorem u64P_B{p:Nat}(h:p<B):u64P (p:Int)=some p:=kbg h
theorem kbeh(a b:Int):Iter ku6 (.fn a b) (keyF a b):=by
 refine .done ?_;show kmv a b=_;unfold kmv keyF badF;cases G:oddF a
 case true=>rfl
 cases hb:oddF b
 case true=>rfl
 obtain⟨p,rfl,y,p2,p3⟩:=kpe G;obtain⟨q,rfl,z,F,Q⟩:=kpe hb;have H:=B40;rw[cond_false,cond_false,Bool.false_or,Bool.false_or];cases I:decide ((p:Int)=(q:Int))
 case true=>rfl
 rw[cond_false,Bool.false_or,kp (by omega),qbv,kp (by omega),qbv,Int.toNat_natCast,Int.toNat_natCast];have K:decide (((bl p:Nat):Int)=((bl q:Nat):Int))=decide (bl p=bl q):=by rw[decide_eq_decide];omega
 rw[K];cases U:decide (bl p=bl q)
 case false=>rfl
 rw[Bool.not_true,cond_false,Bool.false_or,u64P_B (by omega),qbv,u64P_B (by omega),qbv,ks6 (by omega) (by omega),ks6 (by omega) (by omega),u64P_B (by omega),qbv,u64P_B (by omega),qbv,show u64P 1=some 1 from rfl,qbv,kbbs y p2 z F,kzq (gcd_lt y p2 z F)];cases decide (Nat.gcd (p*q) ((p-1)*(q-1))=1)<;>rfl
theorem kbjp{h:AH}(a b:Int):Runs (go (.fn kmj [.agg [.int .u64 a,.int .u64 b]]) h) (kwt h (keyF a b)):=k81 (kei (kbeh a b))
inductive kjz
 | fn (a1:Int) (a2:Int)
 | no
abbrev khb:=List Nat×Int
noncomputable def kno(a1 a2:Int):Option (kjz⊕khb):=cond (!decide (((keyF a1 a2))=0)) (some (.inr ([],((keyF a1 a2))))) ((u64P a1).bind λy=>(u64P a2).bind λz=>some (.inr ((mulN [y] [z]).1,((mulN [y] [z]).2))))
noncomputable def kxi:kjz->Option (kjz⊕khb)
 | .fn a1 a2=>kno a1 a2
 | .no=>none
@[reducible] def kxf(h0:AH)(r:khb)(v:AV)(h':AH):Prop:=∃s1:Sl,v=.tup [s1.v,.i r.2]/\Nats h' s1 r.1/\Grow h0 h'/\Own h0 s1
def ks7(r:khb):kjz->Prop
 | .fn a1 a2=>∀{h:AH},Runs (go (.fn kjp [.agg [.int .u64 a1,.int .u64 a2]]) h) (kxf h r)
 | .no=>True
theorem kbi9{r:khb}{o:kjz⊕khb}{a1 a2:Int}(e:kno a1 a2=some o)(y:GoodS (ks7 r) r o):ks7 r (.fn a1 a2):=by
 intro h;rw[kblv];unfold kno at e;refine qz λH3 b3 W=>?_;refine qy (qbe b3 0 rfl qcr) (qy (qbe b3 1 rfl qcr) ?_);obtain⟨_,H4,e4,rfl,F⟩:=kbjp a1 a2;refine qy e4 (qy (seen qcr) ?_);refine qbc (λG=>?_) (λG=>?_)
 ·replace e:=(condT G).symm.trans e;cases e;cases y;exact qx ⟨(⟨none,0,.is 0⟩:Sl),rfl,(qu _),(W.trans F),(qr _)⟩
 ·replace e:=(condF G).symm.trans e;refine qy (qbe (F.has b3) 0 rfl qcr) ?_;refine qz λH6 b6 Z=>?_;refine qy (qbe ((F.trans Z).has b3) 1 rfl qcr) ?_;refine qz λH7 b7 g7=>?_;obtain⟨w8,z8,e⟩:=qbw.1 e;obtain⟨w9,z9,e⟩:=qbw.1 e;obtain⟨H,aa,I,K,Q,U⟩:=kfu (qbk (g7.has b6) z8) (qbk b7 z9);refine qy I (qy rfl (qy (seen qcq) (qy (seen qcr) ?_)));cases e;cases y;have z:=(((W.trans F).trans Z).trans g7);have V:=(z.trans Q);exact qx ⟨H,rfl,K,V,(U.of_le z)⟩
theorem kbm2{s:kjz}{r:khb}(z:Iter kxi s r):ks7 r s:=qbf (λs o e y=>by
 cases s with
 | fn a1 a2=>exact @kbi9 _ _ a1 a2 e y
 | no=>exact True.intro
 ) z
theorem kbam{h:AH}{a1 a2:Int}  {r:khb}(q:runP kxi (.fn a1 a2)=some r):Runs (go (.fn kjp [.agg [.int .u64 a1,.int .u64 a2]]) h) (kxf h r):=kbm2 (ke5 q)
noncomputable def pubF(a b:Int):List Nat×Int:=cond (badF a b) ([],9) (digs B (a.toNat*b.toNat),0)
theorem kvw{a b:Int}(h:badF a b=false):∃p q:Nat,a=(p:Int)/\b=(q:Int)/\128<=p/\p<1099511627776/\leastN p=p/\128<=q/\q<1099511627776/\leastN q=q/\p≠q/\bl p=bl q/\Nat.gcd (p*q) ((p-1)*(q-1))=1:=by
 unfold badF at h;rw[Bool.or_eq_false_iff,Bool.or_eq_false_iff,Bool.or_eq_false_iff,Bool.or_eq_false_iff]at h;obtain⟨z,hb,y,F,G⟩:=h;obtain⟨p,rfl,H,p2,p3⟩:=kpe z;obtain⟨q,rfl,I,K,Q⟩:=kpe hb;refine⟨p,q,rfl,rfl,H,p2,p3,I,K,Q,?_,?_,?_⟩
 ·intro e;subst e;simp at y
 ·simpa using F
 ·simpa using G
theorem kbb2{p q:Nat}(hp:128<=p)(y:p<1099511627776)(hq:128<=q)(z:q<1099511627776):mulN [p] [q]=(digs B (p*q),0):=by have F:=B40;rw[<- kfg (x:=p) (by omega) (by omega),<- kfg (x:=q) (by omega) (by omega),khn (kfv y) (kfv z)]
theorem kbiq(a b:Int):Iter kxi (.fn a b) (pubF a b):=by
 refine .done ?_;show kno a b=_;unfold kno keyF pubF;cases hb:badF a b
 ·obtain⟨p,q,rfl,rfl,y,p2,-,z,F,-,-,-,-⟩:=kvw hb;have G:=B40;rw[cond_false,condF (show(!decide ((0:Int)=0))=false from rfl),u64P_B (by omega),qbv,u64P_B (by omega),qbv,kbb2 y p2 z F];rfl
 ·rfl
theorem k3g{h:AH}(a b:Int):Runs (go (.fn kjp [.agg [.int .u64 a,.int .u64 b]]) h) (kxf h (pubF a b)):=kbam (kei (kbiq a b))
def RingAt(h:AH)(j N:Nat):Prop:=∃(v:Nat)(y s2 s3:Sl),RingOk N (digs B N).length v/\h.has j [y.v,.int .u64 (v:Int),s2.v,s3.v] kc3/\Nats h y (digs B N)/\Nats h s2 (form N (digs B N).length 1)/\
 Nats h s3 (digs B (2^(64*(digs B N).length)*2^(64*(digs B N).length)%N))
theorem RingAt.grow{h h':AH}{j N:Nat}(r:RingAt h j N)(g:Grow h h'):RingAt h' j N:=by obtain⟨v,y,s2,s3,a,b,c,d,e⟩:=r;exact⟨v,y,s2,s3,a,g.has b,c.grow g,d.grow g,e.grow g⟩
theorem k8m{h:AH}{s:Sl}{N:Nat}(n:Nats h s (digs B N))(z:N<B^8)(h1:1<N)(F:N%2=1):Runs (go (.fn kft [s.v]) h) λw h'=>∃j,w=.tup [.p (.new j 0),.i 0]/\RingAt h' j N/\Grow h h':=by
 have y:num B (digs B N)=N:=kg B2 _;have K:(digs B N).length<=8:=(kbc B2 _ 8).2 z;obtain⟨_,h2,Q,j,v,U,s2,s3,rfl,V,G,b,W,H,I,Z⟩:=kbcd n (kv (qbt z (Nat.pow_le_pow_right (by decide) (by decide)))) (λe=>by rw[List.length_eq_zero_iff]at e;have:=(kek B2).1 e;omega) K (by rw[y];exact F) (by rw[y];exact h1);refine⟨_,h2,Q,j,rfl,⟨v,U,s2,s3,?_,b,W,?_,?_⟩,Z⟩
 ·rw[y]at G;exact⟨by omega,by have:=num_lt B1 (kbr B2 N);rwa[y]at this,h1,F,V,G,rfl⟩
 ·rw[y]at H;unfold form;rw[Nat.one_mul,<- B_pow2];rwa[Nat.one_mul]at H
 ·rw[y]at I;rw[<- Nat.pow_add,<- Nat.two_mul,show 2*(64*(digs B N).length)=64*(2*(digs B N).length)from by omega,<- B_pow2];exact I
theorem k88{h:AH}{j N A:Nat}(r:RingAt h j N)(y:A<N){t u:Sl}{es:List Nat}(n:Nats h t (digs B A))(m:Nats h u es)(z:rt es=true)(F:es.length<=8) :
  Runs (go (.fn kce [.p (.new j 0),t.v,u.v]) h) λw h'=>∃s':Sl,w=.tup [s'.v,.i 0]/\Nats h' s' (digs B (A^num B es%N))/\Grow h h'/\Own h s':=by
 obtain⟨v,V,s2,s3,a,b,c,d,e⟩:=r;obtain⟨_,G,H,I,rfl,K,Q,U⟩:=kbhn b c d e n m (k65 a y m.lt z F);exact⟨_,G,H,I,rfl,K,Q,U⟩
theorem kh9{h:AH}{i x:Nat}{e:TypeId}(b:h.has i [.int .u64 (x:Int)] e)(z:x<B):Nats h (⟨some (.new i 0),1,.is 1⟩:Sl) [x]:=Nats.of_has (xs:=[x]) b (by intro y F;rw[List.mem_singleton.1 F];exact z) (by simp)
theorem ky1{p:Nat}(hp:0<p)(y:p<1099511627776):kcg [p]=digs B (p*p):=by unfold kcg;rw[<- kfg (x:=p) hp (Nat.lt_trans y B40),khn (kfv y) (kfv y)]
theorem sq_lt{p:Nat}(y:p<1099511627776):p*p<B^2:=qbt (Nat.mul_lt_mul'' y y) (by decide)
theorem up64{a:Nat}(h:a<B^2):a<B^64:=qbt h (Nat.pow_le_pow_right (by decide) (by decide))
theorem koc{xs:List Nat}(F:∀x∈xs,x<B)(y:rt xs=true){m:Nat}(h0:0<m)(z:m<B^64):divN xs (digs B m)=(digs B (num B xs/m),digs B (num B xs%m),0):=by unfold divN;rw[if_pos ⟨y,kv z⟩,if_neg (λe=>by have:=(kek B2).1 e;omega),kg B2]
section
variable{h:AH}{p i2 i3 i4 j:Nat}{s:Sl}
structure SayAt(h:AH)(p i2 i3 i4 j:Nat)(s:Sl):Prop where
 b2:h.has i2 [s.v] kj
 n2:Nats h s [p]
 b3:h.has i3 [.p (.new j 0)] krg
 ring:RingAt h j (p*p)
 b4:h.has i4 [.int .u64 (p:Int)] kf
theorem SayAt.grow{h':AH}(a:SayAt h p i2 i3 i4 j s)(g:Grow h h'):SayAt h' p i2 i3 i4 j s:=⟨g.has a.b2,a.n2.grow g,g.has a.b3,a.ring.grow g,g.has a.b4⟩
theorem say_is(a:SayAt h p i2 i3 i4 j s){q:Nat}(k:KeyOk p q)(p1:128<=p)(p2:p<1099511627776){t:Sl}{xs:List Nat}(n:Nats h t xs)(hx:rt xs=true)(nd:¬p∣num B xs) :
  Runs (go (.fn kpy [t.v,.p (.new i2 0),.p (.new i3 0),.p (.new i4 0)]) h) λw h'=>∃s':Sl,w=s'.v/\Nats h' s' (digs B (sayP p (num B xs)))/\Grow h h'/\Own h s':=by
 have aa:=B40;have F:0<p*p:=Nat.mul_pos (by omega) (by omega);rw[kbo7];refine qy (a.b2.rd0 (f:=AV.asSl) rfl qcq) ?_;obtain⟨_,h1,e1,s1,rfl,n1,V,o1⟩:=kuz a.n2;refine qy e1 (qy (seen qcq) ?_);rw[ky1 (by omega) p2]at n1;obtain⟨sa,sb,h2,W,na,nb,g2,-,-⟩:=kgv (n.grow V) n1;rw[koc n.lt hx F (up64 (sq_lt p2))]at W na nb;have I:=V.trans g2;refine qy W (qy rfl (qy (seen qcq) (qy (seen qcq) (qy (seen qcr) (qy ((I.has a.b3).rd0 (f:=AV.asPtr) rfl rfl) (qy ((I.has a.b4).rd0 (f:=AV.asInt .u64) rfl qcr) ?_))))));rw[ks6 (by omega) (by omega)];refine qz λh3 b3 Z=>?_;have ne:Nats h3 (⟨some (.new h2.blks.size 0),1,.is 1⟩:Sl) [p-1]:=kh9 b3 (by omega);have G3:=I.trans Z;obtain⟨_,h4,e4,s4,rfl,n4,g4,-⟩:=k88 (a.ring.grow G3) (Nat.mod_lt _ F) (nb.grow Z) ne (kol (by omega) (by omega)) (by simp);refine qy e4 (qy rfl (qy (seen qcq) (qy (seen qcr) ?_)));refine qz λh5 b5 g5=>?_;have K:Nats h5 (⟨some (.new h4.blks.size 0),1,.is 1⟩:Sl) [1]:=kh9 b5 (by decide);obtain⟨s6,h6,Q,G,g6,-⟩:=kjw (n4.grow g5) K;obtain⟨u1,u2,-⟩:=k.say nd;have z:∀y:Nat,num B [y]=y:=λy=>by simp[num]
 rw[z,u1]at G Q;generalize hy:sayP p (num B xs)=y at *
 have hu:1+p*y<B^64:=by
  have:p*y<p*p:=Nat.mul_lt_mul_of_pos_left u2 (by omega);have:=sq_lt p2
  exact qbt (show 1+p*y<B^3 from by
   have:B^2+1<B^3:=by decide
   omega) (Nat.pow_le_pow_right (by decide) (by decide))
 have es:subN (digs B (1+p*y)) [1]=(digs B (p*y),0):=by unfold subN;rw[if_pos ⟨kv hu,by decide⟩,kg B2,z,if_neg (by omega),Nat.add_sub_cancel_left]
 rw[es]at G Q;refine qy Q (qy rfl (qy (seen qcq) (qy (seen qcr) ?_)));have H:=((G3.trans g4).trans g5).trans g6;refine qy ((H.has a.b2).rd0 (f:=AV.asSl) rfl qcq) ?_;have U:p*y<B^64:=by omega
 have np:=a.n2.grow H;rw[<- kfg (x:=p) (by omega) (by omega)]at np;obtain⟨sc,sd,h7,e7,nc,ab,g7,oc,-⟩:=kgv G np;rw[koc G.lt (kv U) (by omega) (qbt (show p<B from by omega) (by decide)),kg B2,Nat.mul_div_cancel_left _ (show 0<p from by omega)]at e7 nc;refine qy e7 (qy rfl (qy (seen qcq) (qy (seen qcq) (qy (seen qcr) ?_))));exact qx ⟨sc,rfl,nc,H.trans g7,oc.of_le H⟩
end
theorem kd6(y:Nat):num B [y]=y:=by simp[num]
section
variable{p q:Nat}(k:KeyOk p q)(p1:128<=p)(p2:p<1099511627776)(q2:q<1099511627776)
include k p1 p2 q2
omit k p1 in
theorem k7e:klp (digs B (p*q)) [1]=digs B (1*(p*q)+1):=by
 have h1:p*q<B^2:=qbt (Nat.mul_lt_mul'' p2 q2) (by decide)
 have h2:1*(p*q)+1<B^64:=by
  have:B^2+1<B^64:=by decide
  omega
 unfold klp;rw[<- klb,khn (by decide) (qbt h1 (Nat.pow_le_pow_right (by decide) (by decide)))];unfold addN told;rw[if_pos ⟨kv (by omega),kv (by decide)⟩,kg B2,kg B2];rw[if_pos h2]
theorem kz8{h:AH}{s t:Sl}{cs:List Nat}(nc:Nats h s cs)(nn:Nats h t (digs B (p*q)))(rc:rt cs=true)(co:Nat.Coprime (num B cs) (p*q)){m:Nat}(d:Hid (p*q) ((p-1)*(q-1)) (num B cs) m) :
  Runs (go (.fn koj [s.v,t.v,.int .u64 (p:Int)]) h) λw h'=>∃s':Sl,w=s'.v/\Nats h' s' (digs B (m%p))/\Grow h h'/\Own h s':=by
 have bk:=B40;have a0:1<p*p:=qbt (by decide) (Nat.mul_le_mul p1 p1)
 have odd:p%2=1:=by
  rcases Nat.mod_two_eq_zero_or_one p with e | e
  ·rcases k.hp.2 2 (Nat.dvd_of_mod_eq_zero e)with h | h<;>omega
  ·exact e
 rw[kbh9];refine qz λh4 b4 g4=>?_;refine qy (b4.rd0 (f:=AV.asInt .u64) rfl qcr) ?_;refine qz λh6 b6 g6=>?_;refine qz λh7 b7 g7=>?_;have l4:h.blks.size<h4.blks.size:=b4.lt;have l6:h4.blks.size<h6.blks.size:=b6.lt;have l7:h6.blks.size<h7.blks.size:=b7.lt;refine q0 b7 rfl λh8 b8 u8=>?_;have G7:=(g4.trans g6).trans g7;have G8:Grow h h8:=G7.updr (by omega) u8;have c4:h8.has h.blks.size [.int .u64 (p:Int)] kf:=(g7.has (g6.has b4)).updr (by omega) u8;have c6:h8.has h4.blks.size [.int .u64 (p:Int)] kf:=(g7.has b6).updr (by omega) u8;have l8:h7.blks.size<=h8.blks.size:=u8.size;generalize hs:(⟨some (.new h4.blks.size 0),1,.is 1⟩:Sl)=ps at *
 have np:Nats h8 ps [p]:=by rw[<- hs];exact kh9 c6 (by omega)
 refine qy (b8.rd0 (f:=AV.asSl) rfl qcq) ?_;obtain⟨_,h9,e9,s9,rfl,n9,g9,-⟩:=kuz np;refine qy e9 (qy (seen qcq) ?_);rw[ky1 (by omega) p2]at n9;obtain⟨_,y,ba,j,rfl,ai,Z⟩:=k8m n9 (qbt (sq_lt p2) (by decide)) a0 (by rw[Nat.mul_mod,odd]);refine qy ba (qy rfl (qy (seen rfl) (qy (seen qcr) ?_)));refine qz λbc aj ak=>?_;have bn:y.blks.size<bc.blks.size:=aj.lt;have lA:=g9.size;have lB:=Z.size
 have bq:j<y.blks.size:=by obtain⟨_,_,_,_,_,bb,_⟩:=ai;exact bb.lt
 refine q0 aj rfl λG bd H=>?_;have GG:=(g9.trans Z).trans ak;have d4:=(GG.has c4).updr (i:=y.blks.size) (by omega) H;have d6:=(GG.has c6).updr (i:=y.blks.size) (by omega) H;have d8:=(GG.has b8).updr (i:=y.blks.size) (by omega) H;have gU:Grow y G:=ak.updr (qbr _) H;have be:RingAt G j (p*p):=ai.grow gU;have al:Grow h G:=((G8.trans g9).trans Z).trans gU;have am:SayAt G p h6.blks.size y.blks.size h.blks.size j ps:=⟨d8,by rw[<- hs];exact kh9 d6 (by omega),bd,be,d4⟩;refine qy (d8.rd0 (f:=AV.asSl) rfl qcq) ?_;refine qz λbr b13 z=>?_;refine qbd (z.same d8 0 1) ?_;obtain⟨_,bu,bf,bv,rfl,an,aa,-⟩:=kbnh (nn.grow (al.trans z)) (kh9 b13 (x:=1) (by decide));refine qy bf (qy (seen qcq) ?_);rw[k7e p2 q2]at an;refine qbd (aa.same (z.has d8) 0 1) ?_
 have ao:1*(p*q)+1<B^64:=by
  have h1:p*q<B^2:=qbt (Nat.mul_lt_mul'' p2 q2) (by decide);have:B^2+1<B^64:=by decide
  omega
 have ab:¬p∣num B (digs B (1*(p*q)+1)):=by rw[kg B2];intro hd;have:p∣1:=(Nat.dvd_add_right (Nat.dvd_trans (Nat.dvd_mul_right p q) (by rw[Nat.one_mul];exact Nat.dvd_refl _))).1 hd;have:=Nat.le_of_dvd (by decide) this;omega
 have F:=am.grow (z.trans aa);obtain⟨_,bw,bg,bx,rfl,ac,ad,-⟩:=say_is F k p1 p2 an (kv ao) ab;refine qy bg (qy (seen qcq) ?_);rw[kg B2]at ac;refine qbd (ad.same F.b2 0 1) ?_;have I:=F.grow ad;have K:∀{x:Nat},¬p∣x->sayP p x<p:=λh=>(k.say h).2.1;rw[kg B2]at ab;have hA:=K ab;have Q:=I.n2;obtain⟨_,bz,ap,b0,rfl,aq,ar,-⟩:=k6k ac Q;have sp:=(kwv ac.lt Q.lt).2.2.1 ⟨kv (Nat.lt_trans hA (qbt (show p<B from by omega) (by decide))),kol (by omega) (by omega),by rw[kd6];omega⟩;rw[kd6,kg B2]at sp
 obtain⟨w,w1,w2,w3⟩:=sp.2 (by rw[Nat.gcd_comm,<- Nat.gcd_rec];exact k.say_unit)
 rw[w2]at ap aq;refine qy ap (qy rfl (qy (seen qcq) (qy (seen qcr) ?_)));have U:=I.grow ar;have au:¬p∣num B cs:=k.unit co;have aw:=((((al.trans z).trans aa).trans ad).trans ar);obtain⟨_,b5,bh,b9,rfl,bi,ae,-⟩:=say_is U k p1 p2 (nc.grow aw) rc au;refine qy bh (qy (seen qcq) ?_);obtain⟨ca,cb,ax,af,ay,-⟩:=kfu bi (aq.grow ae);have hC:=K au;rw[khn (kfv (by omega)) (kfv (by omega))]at ax af;refine qy ax (qy rfl (qy (seen qcq) (qy (seen qcr) ?_)));have V:=(U.grow ae).grow ay;refine qy (V.b2.rd0 (f:=AV.asSl) rfl qcq) ?_;have W:=V.n2;rw[<- kfg (x:=p) (by omega) (by omega)]at W;obtain⟨sx,sy,cc,ag,nx,ny,bj,ox,oy⟩:=kgv af W;have ah:sayP p (num B cs)*w<B^64:=qbt (Nat.mul_lt_mul'' (show _<1099511627776 from by omega) (show w<1099511627776 from by omega)) (by decide);rw[koc af.lt (kv ah) (by omega) (qbt (show p<B from by omega) (by decide)),kg B2]at ag ny
 rw[k.found co d (i:=w) (by show _%p=1%p;rw[Nat.mul_comm,w3,Nat.mod_eq_of_lt (show 1<p from by omega)])]at ag ny
 refine qy ag (qy rfl (qy (seen qcq) (qy (seen qcq) (qy (seen qcr) ?_))));have az:=(aw.trans ae).trans ay;exact qx ⟨sy,rfl,ny,az.trans bj,oy.of_le az⟩
end
noncomputable def hidOf(p q c:Nat):Nat:=by
 classical
 exact if h:∃m,Hid (p*q) ((p-1)*(q-1)) c m then h.choose else 0
theorem kjl{p q:Nat}(k:KeyOk p q):0<p*q:=by have:=k.pos;omega
theorem kww{p q c:Nat}(k:KeyOk p q)(h:Nat.Coprime c (p*q)):Hid (p*q) ((p-1)*(q-1)) c (hidOf p q c):=by unfold hidOf;have y:=k.hid h;rw[dif_pos y];exact y.choose_spec
theorem k95{p q c m:Nat}(k:KeyOk p q)(h:Hid (p*q) ((p-1)*(q-1)) c m):hidOf p q c=m:=by unfold hidOf;have y:∃m,Hid (p*q) ((p-1)*(q-1)) c m:=⟨m,h⟩;rw[dif_pos y];exact y.choose_spec.uniq k.co (kjl k) h
theorem k0k{p q:Nat}(z:128<=p)(hp:leastN p=p)(F:128<=q)(hq:leastN q=q)(ne:p≠q)(y:Nat.gcd (p*q) ((p-1)*(q-1))=1):KeyOk p q:=⟨(k3j (by omega)).1 hp,(k3j (by omega)).1 hq,ne,y⟩
theorem kbrb{cs ns bs:List Nat}(G:∀x∈cs,x<B)(H:rt ns=true)(Q:∀x∈ns,x<B)(hb:rt bs=true):kdl cs ns bs=true↔rt cs=true/\cs≠[]/\num B cs<num B bs/\Nat.gcd (num B cs) (num B ns)=1:=by
 unfold kdl;cases z:rt cs with
 | false=>simp
 | true =>
  rw[Bool.not_true,cond_false];by_cases h0:(List.length cs:Int)=0
  ·rw[qbz h0,cond_true];have:cs=[]:=List.length_eq_zero_iff.1 (by omega);simp[this]
  ·rw[qb0 h0,cond_false,kl6 z hb];have y:cs≠[]:=λe=>h0 (by simp[e])
   have I:Nat.gcd (num B cs) (num B ns)<B^64:=by have h1:=kq0 G z;have h2:0<num B cs:=kwd B1 (rt_iff.1 z).2 y;exact qbu (Nat.gcd_le_left _ h2) h1
   have K:decide (cmpN ((gcdN cs ns).1) [1]=0)=decide (Nat.gcd (num B cs) (num B ns)=1):=by unfold gcdN;rw[if_pos ⟨z,H⟩,kzq I]
   rw[K];by_cases F:num B cs<num B bs
   ·have:cmp (num B cs) (num B bs)<0:=cmp_lt.2 F;rw[qb0 (show¬cmp (num B cs) (num B bs)>=0 from by omega),cond_false];simp[y,F]
   ·have:¬cmp (num B cs) (num B bs)<0:=λh=>F (cmp_lt.1 h);rw[qbz (show cmp (num B cs) (num B bs)>=0 from by omega),cond_true];simp[F]
theorem k17{N:Nat}(h:N<B^30):kcg (digs B N)=digs B (N*N):=by unfold kcg;rw[khn h h]
theorem key_lt{p q:Nat}(p2:p<1099511627776)(y:q<1099511627776):p*q<B^2:=qbt (Nat.mul_lt_mul'' p2 y) (by decide)
theorem k1r{p q:Nat}(p2:p<1099511627776)(y:q<1099511627776):p*q<B^30:=qbt (key_lt p2 y) (Nat.pow_le_pow_right (by decide) (by decide))
theorem key_sq{p q:Nat}(p2:p<1099511627776)(y:q<1099511627776):p*q*(p*q)<B^4:=qbt (Nat.mul_lt_mul'' (key_lt p2 y) (key_lt p2 y)) (by decide)
theorem kv7{p q:Nat}(p2:p<1099511627776)(y:q<1099511627776){cs:List Nat}(z:∀x∈cs,x<B) :
  kbs (digs B (p*q)) cs=true↔kbj (digs B (p*q))=true/\rt cs=true/\cs≠[]/\num B cs<p*q*(p*q)/\Nat.Coprime (num B cs) (p*q):=by
 unfold kbs;rw[k17 (k1r p2 y)];cases kbj (digs B (p*q))with
 | false=>simp
 | true =>rw[cond_true,kbrb z (kv (up64 (key_lt p2 y))) (kbr B2 _) (kv (qbt (key_sq p2 y) (Nat.pow_le_pow_right (by decide) (by decide)))),kg B2,kg B2];simp[Nat.Coprime]
noncomputable def decF(a b:Int)(cs:List Nat):List Nat×Int:=cond (badF a b) ([],9) (cond (!kbs (digs B (a.toNat*b.toNat)) cs) ([],11) (digs B (hidOf a.toNat b.toNat (num B cs)),0))
@[reducible] def kbjw(h0:AH)(r:List Nat×Int)(v:AV)(h':AH):Prop:=∃s1:Sl,v=.tup [s1.v,.i r.2]/\Nats h' s1 r.1/\Grow h0 h'/\Own h0 s1
theorem kbck{p q m:Nat}(k:KeyOk p q)(p1:128<=p)(p2:p<1099511627776)(q1:128<=q)(q2:q<1099511627776)(U:m<p*q):crtN (digs B (m%p)) [p] (digs B (m%q)) [q]=(digs B m,0):=by
 have V:=B40;have F:m%p<B:=Nat.lt_trans (Nat.mod_lt _ (by omega)) (by omega);have G:m%q<B:=Nat.lt_trans (Nat.mod_lt _ (by omega)) (by omega);have one:∀{x:Nat},x<B->∀y∈[x],y<B:=λh y W=>by rw[List.mem_singleton.1 W];exact h
 obtain⟨-,-,-,s2,s3⟩:=k4s (x1:=digs B (m%p)) (x2:=[p]) (x3:=digs B (m%q)) (x4:=[q]) (kbr B2 _) (one (by omega)) (kbr B2 _) (one (by omega));have H:∀{x:Nat},x<B->(digs B x).length<=8:=λh=>(kbc B2 _ 8).2 (qbt h (by decide));have r1:∀{x:Nat},x<B->rt (digs B x)=true:=λh=>kv (qbt h (by decide))
 have ok:CrtOk (digs B (m%p)) [p] (digs B (m%q)) [q]:=by
  refine⟨⟨r1 F,H F⟩,⟨kol (by omega) (by omega),by simp⟩,⟨r1 G,H G⟩,⟨kol (by omega) (by omega),by simp⟩,?_,?_,?_,?_⟩
  ·rw[kd6];omega
  ·rw[kd6];omega
  ·rw[kd6,kg B2];exact Nat.mod_lt _ (by omega)
  ·rw[kd6,kg B2];exact Nat.mod_lt _ (by omega)
 have z:Nat.gcd q p=1:=by rw[Nat.gcd_comm];exact k.copq
 obtain⟨X,Z,-,I,K,Q⟩:=s3 (s2 ok (by rw[kd6,kd6,Nat.gcd_comm,<- Nat.gcd_rec];exact z));rw[kd6,kd6]at I;rw[kd6,kg B2]at K;rw[kd6,kg B2]at Q;have:Cg (p*q) X m:=Cg.both k.copq K Q;rw[Z,this.eq I U]
theorem k38{h:AH}{s:Sl}{cs:List Nat}(n:Nats h s cs)(a b:Int):Runs (go (.fn kox [.agg [.int .u64 a,.int .u64 b],s.v]) h) (kbjw h (decF a b cs)):=by
 rw[kbd3];refine qz λh4 b4 g4=>?_;refine qy (b4.rd 0 (f:=AV.asInt .u64) rfl qcr) (qy (b4.rd 1 (f:=AV.asInt .u64) rfl qcr) ?_);obtain⟨_,h7,e7,s7,rfl,n7,g7,o7⟩:=k3g (h:=h4) a b;refine qy e7 (qy rfl (qy (seen qcq) (qy (seen qcr) ?_)));have H:∀h:AH,Nats h (⟨none,0,.is 0⟩:Sl) []:=λh=>qu h;cases hb:badF a b with
 | true =>
  have e:pubF a b=([],9):=by unfold pubF;rw[hb];rfl
  rw[e];refine qba rfl ?_;have I:decF a b cs=([],9):=by unfold decF;rw[hb];rfl
  rw[I];exact qx ⟨(⟨none,0,.is 0⟩:Sl),rfl,H _,g4.trans g7,qr _⟩
 | false =>
  have e:pubF a b=(digs B (a.toNat*b.toNat),0):=by unfold pubF;rw[hb];rfl
  rw[e]at n7|-;refine qbb rfl ?_;obtain⟨p,q,rfl,rfl,p1,p2,p3,q1,q2,q3,ne,-,hg⟩:=kvw hb;rw[Int.toNat_natCast,Int.toNat_natCast]at n7;have k:=k0k p1 p3 q1 q3 ne hg;obtain⟨_,aq,af,rfl,K⟩:=ktc n7 (n.grow (g4.trans g7));refine qy af (qy (seen rfl) ?_)
  have I:decF (p:Int) (q:Int) cs=cond (!kbs (digs B (p*q)) cs) ([],11) (digs B (hidOf p q (num B cs)),0):=by unfold decF;rw[hb,cond_false,Int.toNat_natCast,Int.toNat_natCast]
  rw[I];cases hv:kbs (digs B (p*q)) cs with
  | false =>
   refine qba rfl ?_;exact qx ⟨(⟨none,0,.is 0⟩:Sl),rfl,H _,(g4.trans g7).trans K,qr _⟩
  | true =>
   refine qbb rfl ?_;obtain⟨-,rc,-,-,co⟩:=(kv7 p2 q2 n.lt).1 hv;have hm:=kww k co;have ag:Nat.Coprime (num B cs) (q*p):=by rw[Nat.mul_comm];exact co
   have ah:Hid (q*p) ((q-1)*(p-1)) (num B cs) (hidOf p q (num B cs)):=by rw[Nat.mul_comm q p,Nat.mul_comm (q-1)];exact hm
   have Z:=(g7.trans K);have c4:=Z.has b4;refine qy (c4.rd 0 (f:=AV.asInt .u64) rfl qcr) (qy (c4.rd 1 (f:=AV.asInt .u64) rfl qcr) ?_);refine qz λar ai Q=>qz λaa U F=>?_;have G:=F.has (Q.has c4);have V:=F.has ai;refine qy (G.rd 0 (f:=AV.asInt .u64) rfl qcr) (qy (G.rd 0 (f:=AV.asInt .u64) rfl qcr) (qy (G.rd 1 (f:=AV.asInt .u64) rfl qcr) (qy (G.rd 1 (f:=AV.asInt .u64) rfl qcr) ?_)));have W:Grow h aa:=((g4.trans Z).trans Q).trans F;have nn:Nats aa s7 (digs B (p*q)):=n7.grow ((K.trans Q).trans F);obtain⟨_,au,aj,aw,rfl,ak,y,-⟩:=kz8 k p1 p2 q2 (n.grow W) nn rc co hm;refine qy aj (qy (seen qcq) ?_);refine qbd (y.same G 1 1) (qbd (y.same G 1 1) (qbd (y.same G 0 1) (qbd (y.same U 0 0) (qbd (y.same V 0 0) ?_))));have ab:=nn.grow y;rw[Nat.mul_comm p q]at ab;obtain⟨_,ax,al,ay,rfl,am,z,-⟩:=kz8 k.swap q1 q2 p2 (n.grow (W.trans y)) ab rc ag ah;refine qy al (qy (seen qcq) ?_);refine qbd (z.same (y.has G) 1 1) (qbd (z.same (y.has G) 0 1) (qbd (z.same (y.has U) 0 0) (qbd (z.same (y.has V) 0 0) ?_)));have az:=B40;obtain⟨_,a0,ac,an,rfl,ad,ao,ap⟩:=k6r (ak.grow z) (kh9 (z.has (y.has V)) (by omega)) am (kh9 (z.has (y.has U)) (by omega));rw[kbck k p1 p2 q1 q2 hm.1]at ac ad;refine qy ac (qy rfl (qy (seen qcq) (qy (seen qcr) ?_)));refine qbd rfl ?_;have ae:=(W.trans y).trans z;exact qx ⟨an,rfl,ad,ae.trans ao,ap.of_le ae⟩
theorem k4v{X Y:Nat}(y:X<B^64)(z:Y<B^64)(h0:0<Y):(divN (digs B X) (digs B Y)).2.1=digs B (X%Y):=by rw[koc (kbr B2 X) (kv y) h0 z,kg B2]
theorem k8t{X Y N:Nat}(z:X<B^30)(F:Y<B^30)(G:N<B^64)(h0:0<N):kpt (digs B X) (digs B Y) (digs B N)=digs B (X*Y%N):=by
 unfold kpt;rw[khn z F]
 have y:X*Y<B^64:=by
  calc _<B^30*B^30:=Nat.mul_lt_mul'' z F
   _=B^60:=by rw[<- Nat.pow_add]
   _<=B^64:=Nat.pow_le_pow_right (by decide) (by decide)
 rw[k4v y G h0]
theorem kbfb{n a b:Nat}(h:Cg n a b)(c:Nat.Coprime a n):Nat.Coprime b n:=by unfold Nat.Coprime at c|-;have h2:a%n=b%n:=h;rw[Nat.gcd_comm,Nat.gcd_rec,<- h2,<- Nat.gcd_rec,Nat.gcd_comm];exact c
section
variable{p q:Nat}(k:KeyOk p q)(p2:p<1099511627776)(q2:q<1099511627776)(hb:badF (p:Int) (q:Int)=false)(may:kbj (digs B (p*q))=true)
include k p2 q2 hb may
theorem dec_of{X M:Nat}(co:Nat.Coprime X (p*q))(hid:Hid (p*q) ((p-1)*(q-1)) X M):decF (p:Int) (q:Int) (digs B (X%(p*q*(p*q))))=(digs B M,0):=by
 have h0:=kjl k;have F:0<p*q*(p*q):=Nat.mul_pos h0 h0;generalize G:X%(p*q*(p*q))=C;have cg:Cg (p*q*(p*q)) X C:=by rw[<- G];exact Cg.mod.symm
 have y:Nat.Coprime C (p*q):=kbfb (cg.of_dvd (Nat.dvd_mul_right _ _)) co;have z:C<p*q*(p*q):=by rw[<- G];exact Nat.mod_lt _ F
 have H:C<B^64:=Nat.lt_trans z (qbt (key_sq p2 q2) (Nat.pow_le_pow_right (by decide) (by decide)))
 have v:kbs (digs B (p*q)) (digs B C)=true:=(kv7 p2 q2 (kbr B2 _)).2 ⟨may,kv H,λI=>by have:C=0:=(kek B2).1 I;rw[this,Nat.coprime_zero_left]at y;have:=k.pos;omega,by rw[kg B2];exact z,by rw[kg B2];exact y⟩
 unfold decF;rw[hb,cond_false,Int.toNat_natCast,Int.toNat_natCast,v,Bool.not_true,cond_false,kg B2,k95 k (hid.cg cg)]
end
theorem kboc{X:Nat}(h:X<B^64):told X=(digs B X,0):=by unfold told;rw[if_pos h]
def Ef.byte:Ef Nat where
 w:=1
 pos:=by decide
 has _ _ cs b:=cs=[.int .u8 (b:Int)]/\b<256
 len e:=by rw[e.1];rfl
 grow _ e:=e
 mono _ e:=e
 upd _ _ e:=e
 bound e:=e
theorem k3l:∀(j m:Nat){v c s:Nat},j<m->v<2^s*B^j->c*2^s+2^s<=B->(padD B m v).set j ((padD B m v).getD j 0+c*2^s)=padD B m (v+c*2^s*B^j)/\(padD B m v).getD j 0<2^s
 | _,0,_,_,_,h,_,_=>absurd h (Nat.not_lt_zero _)
 | 0,m+1,v,c,s,_,hv,z=>by
  have B0:0<B:=by decide
  have hv:v<2^s:=by simpa using hv
  have h1:v<B:=by omega
  have h2:v+c*2^s<B:=by omega
  simp only[padD,List.set_cons_zero,List.getD_cons_zero,Nat.pow_zero,Nat.mul_one];rw[Nat.mod_eq_of_lt h1,Nat.mod_eq_of_lt h2,Nat.div_eq_of_lt h1,Nat.div_eq_of_lt h2];exact⟨rfl,hv⟩
 | j+1,m+1,v,c,s,F,hv,z=>by
  have B0:0<B:=by decide
  have y:v/B<2^s*B^j:=Nat.div_lt_of_lt_mul (by rw[Nat.pow_succ]at hv;rw[Nat.mul_comm B,Nat.mul_assoc];exact hv);obtain⟨h1,h2⟩:=k3l j m (c:=c) (show j<m by omega) y z;simp only[padD,List.set_cons_succ,List.getD_cons_succ];refine⟨?_,h2⟩;rw[h1];have e:c*2^s*B^(j+1)=B*(c*2^s*B^j):=by rw[Nat.pow_succ,<- Nat.mul_assoc,Nat.mul_comm]
  rw[e,Nat.add_mul_mod_self_left,Nat.add_mul_div_left _ _ B0]
theorem pow256(i:Nat):256^i=2^(8*(i%8))*B^(i/8):=by have e:B=2^64:=rfl;rw[e,<- Nat.pow_mul,<- Nat.pow_add,show(256:Nat)=2^8 from rfl,<- Nat.pow_mul];congr 1;omega
theorem ku8{bs:List Nat}(h:∀b∈bs,b<256):num 256 bs<256^bs.length:=num_lt (by decide) h
end Go.Ab
set_option maxRecDepth 10000
namespace Go.Ab
open IntKind (wrap)
open Go.Proofs Go.Num
def beN(bs:List Nat):Nat:=num 256 bs.reverse
theorem kpz{h:AH}{S:Fp}{s:Sl}{bs:List Nat}(n:Sq Ef.byte h S s bs){i:Nat}(y:i<bs.length):∃r:Ref,idx s.ref s.len (i:Int) 1=some r/\(h.cell r).bind (AV.asInt .u8)=some ((bs[i]:Nat):Int)/\bs[i]<256:=by obtain⟨r,cs,z,⟨rfl,F⟩,G⟩:=n.at (i:=(i:Int)) (khc y);rw[n.len];exact⟨r,z,G.rd0 (qk h) (f:=AV.asInt .u8) rfl qcr,F⟩
theorem k24{h:AH}{S:Fp}{s:Sl}{bs:List Nat}(n:Sq Ef.byte h S s bs):∀b∈bs,b<256:=by intro b hb;obtain⟨i,y,rfl⟩:=List.getElem_of_mem hb;exact(kpz n y).choose_spec.2.2
theorem k5t{h:AH}{S:Fp}{s:Sl}{bs:List Nat}(n:Sq Ef.byte h S s bs):∀(k i:Nat),i+k=bs.length->
  ∃r:Int,go (.pt khi kkc [(0,s.v),(1,.func (.func kfn) [] []),(7,.i (bs.length:Int)),(8,.i (i:Int))]) h=some (.i r,h)/\
   ((r=-1/\∀t (y:t<bs.length),i<=t->bs[t]=0)\/∃j:Nat,r=(j:Int)/\j<bs.length/\∀t (y:t<bs.length),i<=t->t<j->bs[t]=0)
 | 0,i,I=>by
  refine⟨-1,?_,.inl ⟨rfl,λt y h=>by omega⟩⟩;rw[k3d,condF (by rw[qbx];omega)]
 | k+1,i,I=>by
  have z:i<bs.length:=by omega
  obtain⟨r,K,Q,e3⟩:=kpz n z;have hs:=n.short
  have U:go (.pt khi kkc [(0,s.v),(1,.func (.func kfn) [] []),(7,.i (bs.length:Int)),(8,.i (i:Int))]) h=cond (!decide (((bs[i]:Nat):Int)=0)) (some (.i (i:Int),h)) (go (.pt khi kkc [(0,s.v),(1,.func (.func kfn) [] []),(7,.i (bs.length:Int)),(8,.i ((i+1:Nat):Int))]) h):=by rw[k3d,condT (by rw[qby];omega),K,qbv,Q,qbv,kbcx,qbv,ki (by omega)];rfl
  rw[U];by_cases h0:bs[i]=0
  ·obtain⟨V,W,Z⟩:=k5t n k (i+1) (by omega);refine⟨V,by rw[h0];exact W,?_⟩;rcases Z with⟨F,G⟩ | ⟨j,F,G,g3⟩
   ·exact .inl ⟨F,λt y H=>by
     rcases Nat.lt_or_ge i t with h' | h'
     ·exact G t y h'
     ·have:t=i:=by omega
      subst this;exact h0⟩
   ·exact .inr ⟨j,F,G,λt y H hj=>by
     rcases Nat.lt_or_ge i t with h' | h'
     ·exact g3 t y h' hj
     ·have:t=i:=by omega
      subst this;exact h0⟩
  ·exact⟨(i:Int),by rw[condT (by rw[qb0 (show¬((bs[i]:Nat):Int)=0 from by omega)];rfl)],.inr ⟨i,rfl,z,λt y h1 h2=>by omega⟩⟩
theorem kzo{bs:List Nat}{j:Nat}(h:∀t (y:t<bs.length),t<j->bs[t]=0)(z:j<=bs.length):beN (bs.drop j)=beN bs:=by
 have e:bs=List.replicate j 0++bs.drop j:=by
  conv=>lhs;rw[<- List.take_append_drop j bs]
  congr 1;apply List.ext_getElem
  ·simp;omega
  ·intro i h1 h2;rw[List.getElem_take,List.getElem_replicate];exact h i _ (by simp at h1;omega)
 unfold beN
 conv=>rhs;rw[e]
 rw[List.reverse_append,List.reverse_replicate,kcj];rw[kbld,Nat.mul_zero,Nat.add_zero]
theorem kbc2{bs:List Nat}(h:∀t (y:t<bs.length),bs[t]=0):beN bs=0:=by rw[<- kzo (j:=bs.length) (λt y _=>h t y) (qbr _),List.drop_length];rfl
theorem k91{h0:AH}{S:Fp}{s:Sl}{bs:List Nat}(n0:Sq Ef.byte h0 S s bs)(hl:bs.length<=512){t:Sl}{V:Nat}(G:h0.blks.size<=V):∀(k i:Nat),i+k=bs.length->∀{h:AH},Grow h0 h->Vec h t V (padD B ((bs.length+7)/8) (num 256 (bs.reverse.take i)))->
  Runs (go (.pt kgt kqh [(0,s.v),(5,t.v),(23,.i (bs.length:Int)),(24,.i (i:Int))]) h) λv h'=>∃s1:Sl,v=.tup [s1.v,.i 0]/\Nats h' s1 (digs B (beN bs))/\Grow h0 h'/\Own h0 s1:=by
 have lt:=k24 n0;intro k
 induction k with
 | zero =>
  intro i hi h g v;have F:i=bs.length:=by omega
  rw[k3q];refine qbb (by rw[qbx];omega) ?_;rw[F,List.take_of_length_le (by simp)]at v
  have hb:beN bs<B^((bs.length+7)/8):=by
   have h1:beN bs<256^bs.length:=by have:=ku8 (bs:=bs.reverse) (λb hb=>lt b (List.mem_reverse.1 hb));rwa[List.length_reverse]at this
   refine qbt h1 ?_;rw[show B=256^8 from by decide,<- Nat.pow_mul];exact Nat.pow_le_pow_right (by decide) (by omega)
  have hv:=kut (b:=B) (by decide) _ _ hb;have W:beN bs<B^64:=qbt hb (Nat.pow_le_pow_right (by decide) (by omega));obtain⟨s1,e,n1,o1⟩:=kq9 v.nats;rw[show num 256 bs.reverse=beN bs from rfl,hv,kboc W]at e n1;refine qy e (qy rfl (qy (seen qcq) (qy (seen qcr) ?_)));refine qx ⟨s1,rfl,n1,g,o1 _ ?_⟩;intro r U;rw[v.is]at U;cases U;exact⟨V,0,rfl,G⟩
 | succ k ih =>
  intro i hi h g v;have hm:i/8<(bs.length+7)/8:=by omega
  have U:bs.length-1-i<bs.length:=by omega
  obtain⟨r,e1,e2,e3⟩:=kpz (n0.grow g) U
  have hd:wrap .i64 (Int.tdiv (i:Int) 8)=((i/8:Nat):Int):=by rw[show Int.tdiv (i:Int) 8=((i/8:Nat):Int)from rfl,kbe (by omega)]
  have Z:Int.tmod (i:Int) 8=((i%8:Nat):Int):=rfl
  have H:wrap .i64 ((wrap .i64 ((s.len:Int)-1))-(i:Int))=((bs.length-1-i:Nat):Int):=by rw[n0.len,show((bs.length:Int)-1)=((bs.length-1:Nat):Int)from by omega,kbe (by omega),show(((bs.length-1:Nat):Int)-(i:Int))=((bs.length-1-i:Nat):Int)from by omega,kbe (by omega)]
  have h8:wrap .i64 (8*((i%8:Nat):Int))=((8*(i%8):Nat):Int):=by rw[show(8*((i%8:Nat):Int))=((8*(i%8):Nat):Int)from by omega,kbe (by omega)]
  have y:(padD B ((bs.length+7)/8) (num 256 (bs.reverse.take i))).length=(bs.length+7)/8:=ksb _ _ _;have q:=kba (n:=(bs.length+7)/8) (i:=i/8) hm;rw[k3q];refine qba (by rw[qby];omega) ?_;rw[hd,Z,h8,H,show t.len=(bs.length+7)/8 from by rw[v.nats.len,y]];refine qy (v.idx y q) (qy (v.rd y q qcr) (qy e1 (qy e2 ?_)));refine qbb (by rw[qbx];omega) ?_;refine qy (v.idx y q) ?_;have F:i<bs.reverse.length:=by simp;omega
  have I:bs.reverse[i]=bs[bs.length-1-i]:=by rw[List.getElem_reverse]
  have aa:num 256 (bs.reverse.take i)<2^(8*(i%8))*B^(i/8):=by rw[<- pow256];have:=ku8 (bs:=bs.reverse.take i) (λb hb=>lt b (List.mem_reverse.1 (List.mem_of_mem_take hb)));rwa[qci,Nat.min_eq_left (by omega)]at this
  have ae:(i%8)<=7:=by omega
  have hc:bs[bs.length-1-i]*2^(8*(i%8))+2^(8*(i%8))<=B:=by
   have h1:(bs[bs.length-1-i]+1)*2^(8*(i%8))<=256*2^(8*7):=Nat.mul_le_mul (by omega) (Nat.pow_le_pow_right (by decide) (by omega));rw[Nat.add_mul,Nat.one_mul]at h1;have:256*2^(8*7)=B:=by decide
   omega
  obtain⟨p1,p2⟩:=k3l (i/8) ((bs.length+7)/8) (v:=num 256 (bs.reverse.take i)) (c:=bs[bs.length-1-i]) (s:=8*(i%8)) hm aa hc;generalize hG:(padD B ((bs.length+7)/8) (num 256 (bs.reverse.take i))).getD (i/8) 0=old at *
  have ad:0<2^(8*(i%8)):=Nat.pow_pos (by decide);have wb:wrap .u64 ((bs[bs.length-1-i]:Nat):Int)=((bs[bs.length-1-i]:Nat):Int):=by rw[wrapU];omega
  have hB:B=18446744073709551616:=rfl
  have ab:ior .u64 (old:Int) (ishl .u64 (wrap .u64 ((bs[bs.length-1-i]:Nat):Int)) ((8*(i%8):Nat):Int))=((old+bs[bs.length-1-i]*2^(8*(i%8)):Nat):Int):=by
   have K:bs[bs.length-1-i]*2^(8*(i%8))<18446744073709551616:=by omega
   rw[wb,kjs _ _ (by omega),Nat.mod_eq_of_lt K,kvq,krw K p2 (by omega),Nat.add_comm]
  rw[ab];have z:u64P ((old+bs[bs.length-1-i]*2^(8*(i%8)):Nat):Int)=some (old+bs[bs.length-1-i]*2^(8*(i%8))):=kbg (by omega);refine qbg v y q z λaf Q ac=>?_;rw[ki (by omega)];refine ih (i+1) (by omega) (g.updr G ac) ?_;rw[p1]at Q
  have e5:num 256 (bs.reverse.take (i+1))=num 256 (bs.reverse.take i)+bs[bs.length-1-i]*2^(8*(i%8))*B^(i/8):=by rw[kc0 256 F,I,pow256,Nat.mul_comm (2^(8*(i%8))*B^(i/8)),Nat.mul_assoc]
  rw[e5];exact Q
theorem kbqs{h:AH}{S:Fp}{s:Sl}{bs:List Nat}(n:Sq Ef.byte h S s bs)(W:bs.length<=512):Runs (go (.fn kgt [s.v]) h) λv h'=>∃s1:Sl,v=.tup [s1.v,.i 0]/\Nats h' s1 (digs B (beN bs))/\Grow h h'/\Own h s1:=by
 obtain⟨r,e,H⟩:=k5t n bs.length 0 (by omega);rw[kbhm,kbmt,n.len];refine qy e (qy (seen qcr) ?_);rcases H with⟨rfl,h0⟩ | ⟨j,rfl,Z,h0⟩
 ·refine qba rfl ?_;rw[kbc2 λt y=>h0 t y (Nat.zero_le _),kbo];exact qx ⟨⟨none,0,.is 0⟩,rfl,qu _,qk _,qr _⟩
 ·refine qbb (by rw[qbx];omega) ?_;obtain⟨I,z,F,-⟩:=n.cut (l:=j) (m:=bs.length) (by omega) (qbr _);have z:cutSl s (j:Int) (bs.length:Int) 1=some I:=z;have K:(bs.drop j).take (bs.length-j)=bs.drop j:=List.take_of_length_le (by simp);rw[K]at F;refine qy z ?_;rw[F.len];have l4:(bs.drop j).length=bs.length-j:=by simp
  refine qbb (by rw[qbx];omega) ?_
  have Q:wrap .i64 (Int.tdiv (wrap .i64 (((bs.drop j).length:Int)+7)) 8)=((((bs.drop j).length+7)/8:Nat):Int):=by rw[show(((bs.drop j).length:Int)+7)=(((bs.drop j).length+7:Nat):Int)from by omega,kbe (by omega),show Int.tdiv (((bs.drop j).length+7:Nat):Int) 8=((((bs.drop j).length+7)/8:Nat):Int)from rfl,kbe (by omega)]
  rw[Q];refine Runs.mk (kdt (by omega)) kcz λt h5 G U=>?_
  have V:List.replicate (((bs.drop j).length+7)/8) 0=padD B (((bs.drop j).length+7)/8) (num 256 ((bs.drop j).reverse.take 0)):=by
   rw[List.take_zero];generalize ((bs.drop j).length+7)/8=m
   induction m with
   | zero=>rfl
   | succ m ih=>rw[List.replicate_succ,ih];simp[padD,num]
  rw[V]at G;refine(k91 F (by omega) (qbr _) (bs.drop j).length 0 (by omega) U G).imp λv h' ⟨s1,a,b,c,d⟩=>⟨s1,a,?_,c,d⟩;rw[kzo (λt y h1=>h0 t y (Nat.zero_le _) h1) (by omega)]at b;exact b
end Go.Ab
set_option maxRecDepth 10000
namespace Go.Ab
open Go.Proofs Go.Num
theorem kbe0(L:Nat):256^L<=B^((L+7)/8):=by rw[show B=256^8 from by decide,<- Nat.pow_mul];exact Nat.pow_le_pow_right (by decide) (by omega)
theorem kyl{n:Nat}(h:n<=1000000):growOk Pg n kcy 1=true:=by
 unfold growOk;rw[kbpt,kbmi];have h1:n*1<=ky:=by simp only[ky];omega
 have h2:n<=ky:=by simp only[ky];omega
 simp[h1,h2]
def Fp.but(S:Fp)(i:Nat):Fp:=λj=>S j/\j≠i
def Fp.rng(a b:Nat):Fp:=λj=>a<=j/\j<b
theorem Dis.but{S:Fp}{i:Nat}:Dis (Fp.but S i) (λj=>j=i):=λ_ a b=>a.2 b
theorem GF.byte{e:TypeId}{h:AH}{S:Fp}{s:Sl}:∀{i:Option Nat}{xs:List Nat},GF Ef.byte e h S s i xs->GF Ef.byte e h Fp.no s i xs
 | .none,_,v=>v
 | .some k,_,⟨l,a,r,ln,rows,y,b,c,r2⟩=>⟨l,qbm,r,ln,rows,y,b,c,r2.imp λ_ _ x=>x⟩
theorem Sq.byte{h:AH}{S T:Fp}{s:Sl}{xs:List Nat}(n:Sq Ef.byte h S s xs)(f:∀j o,s.ref=some (.new j o)->T j):Sq Ef.byte h T s xs:=by obtain⟨⟨rows,c,a⟩,l,y,at'⟩:=n;exact⟨⟨rows,c,a.imp λ_ _ x=>x⟩,l,y,.inr f⟩
theorem kyg{h:AH}{S:Fp}{s:Sl}{bs:List Nat}(n:Sq Ef.byte h S s bs)(y:bs.length<=1000000):∃(s':Sl)(i:Option Nat)(h':AH),go (.fn ko8 [s.v]) h=some (s'.v,h')/\GF Ef.byte kcy h' Fp.no s' i bs/\Grow h h'/\LeO h.blks.size i:=by have:=Runs.clone (P:=Pg) (elem:=kcy) n ksz (kyl y);obtain⟨_,h',e,s',i,rfl,v,g,l⟩:=this;exact⟨s',i,h',(kbg8 s h).trans e,v.byte,g,l⟩
def TapeA(h:AH)(S:Fp)(i:Nat)(bs:List Nat):Prop:=(∀j,S j->j<h.blks.size)/\S i/\bs.length<=65536/\∃s:Sl,h.has i [s.v] k6a/\Sq Ef.byte h (Fp.but S i) s bs
def TapeB(h:AH)(S:Fp)(i:Nat)(bs:List Nat):Prop:=(∀j,S j->j<h.blks.size)/\S i/\∃(s:Sl)(all:List Nat)(u:Nat),all.length<=65536/\u<=all.length/\bs=all.drop u/\h.has i [s.v,.i (u:Int)] k1f/\Sq Ef.byte h (Fp.but S i) s all
theorem TapeA.md{h h':AH}{S U:Fp}{i:Nat}{bs:List Nat}(t:TapeA h S i bs)(m:Md U h h')(d:Dis S U):TapeA h' S i bs:=by obtain⟨z,a,l,s,b,n⟩:=t;exact⟨λj k=>qbt (z j k) m.size,a,l,s,m.has b (λk=>d i a k),n.md m (d.mono (λj x=>x.1) λj x=>x)⟩
theorem TapeA.grow{h h':AH}{S:Fp}{i:Nat}{bs:List Nat}(t:TapeA h S i bs)(g:Grow h h'):TapeA h' S i bs:=t.md (g.md Fp.no) Dis.no
theorem TapeA.lt{h:AH}{S:Fp}{i:Nat}{bs:List Nat}(t:TapeA h S i bs):i<h.blks.size:=by obtain⟨z,a,l,s,b,n⟩:=t;exact b.lt
theorem k1l{h:AH}{S:Fp}{s:Sl}{bs:List Nat}(n:Sq Ef.byte h S s bs):Runs (go (.fn kpb [s.v]) h) λv h'=>Grow h h'/\
  (65536<bs.length/\v=.tup [.ptr none,.i 1]\/bs.length<=65536/\∃i,v=.tup [.p (.new i 0),.i 0]/\TapeA h' (Fp.rng h.blks.size h'.blks.size) i bs):=by
 rw[kbfl,n.len];refine qbc (λk=>?_) (λk=>?_)
 ·rw[qby]at k;exact qx ⟨qk h,.inl ⟨by omega,rfl⟩⟩
 ·rw[qbx]at k;obtain⟨s',i,h1,e,v,g,l⟩:=kyg n (by omega);refine qy e (qy (seen qcq) ?_);refine qz λh2 b2 z=>qx ⟨g.trans z,.inr ⟨by omega,h1.blks.size,rfl,λj k=>k.2,⟨g.size,b2.lt⟩,by omega,s',b2,?_⟩⟩;refine((v.sq).grow z).byte λj o y=>?_;have own:=v.own (h0:=h) l;obtain⟨i',Q,G,H⟩:=own _ y;cases G;have I:=(v.lt:LtO h1.blks.size i)
  have F:i=some j:=by
   cases i with
   | none=>rw[v.2.1]at y;cases y
   | some k =>have:=v.2.2.1;rw[y]at this;cases this;rfl
  subst F;have K:j<h1.blks.size:=I;have:=z.size;dsimp only at this|-;exact⟨⟨H,by omega⟩,by omega⟩
theorem k3b{h:AH}{S:Fp}{s:Sl}{bs:List Nat}(n:Sq Ef.byte h S s bs):Runs (go (.fn kxm [s.v]) h) λv h'=>Grow h h'/\
  (65536<bs.length/\v=.tup [.ptr none,.i 1]\/bs.length<=65536/\∃i,v=.tup [.p (.new i 0),.i 0]/\TapeB h' (Fp.rng h.blks.size h'.blks.size) i bs):=by
 rw[kbc8,n.len];refine qbc (λk=>?_) (λk=>?_)
 ·rw[qby]at k;exact qx ⟨qk h,.inl ⟨by omega,rfl⟩⟩
 ·rw[qbx]at k;refine qz λh1 b1 y=>?_;obtain⟨p,s',i,h2,G,H,v,z,l⟩:=kuu (P:=Pg) (n.bound.grow y) ksz (kyl (by omega)) b1 λj x=>x.2;refine qy G (qy H (qy qcq ?_));refine qz λV b3 F=>qx ⟨(y.trans z).trans F,.inr ⟨by omega,h2.blks.size,rfl,λj k=>k.2,⟨(y.trans z).size,b3.lt⟩,s',bs,0,by omega,Nat.zero_le _,rfl,b3,?_⟩⟩;have W:i<h2.blks.size:=v.lt;refine((v.sq).grow F).byte λj o I=>?_;have:=v.2.2.1;rw[I]at this;cases this;have K:=F.size;have Q:=y.size;have U:=z.size;dsimp only at Q U K|-;exact⟨⟨l,by omega⟩,by omega⟩
def TakeP(tape:AH->Fp->Nat->List Nat->Prop)(h:AH)(S:Fp)(i:Nat)(bs:List Nat)(k:Nat)(v:AV)(h':AH):Prop :=
 (bs.length<k/\v=.tup [nV,.i 7]/\h'=h)\/
 (k<=bs.length/\∃(s':Sl)(o:Option Nat),v=.tup [s'.v,.i 0]/\GF Ef.byte kcy h' Fp.no s' o (bs.take k)/\LeO h.blks.size o/\tape h' S i (bs.drop k)/\Md (λj=>j=i) h h')
theorem kzn{h:AH}{S:Fp}{i:Nat}{bs:List Nat}(t:TapeA h S i bs){k:Nat}(hk:k<=65536):Runs (go (.fn keb [.p (.new i 0),.i (k:Int)]) h) (TakeP TapeA h S i bs k):=by
 obtain⟨K,Q,G,s,b,n⟩:=t;rw[kbl8];refine qbb (by rw[qbx];omega) ?_;refine qbb (by rw[qbx];omega) ?_;refine qy rfl (qcs b 0 rfl ?_);rw[n.len];refine qbc (λc=>?_) (λc=>?_)
 ·rw[qby]at c;exact qx (.inl ⟨by omega,rfl,rfl⟩)
 ·rw[qbx]at c;refine qy rfl (qcs b 0 rfl ?_);obtain⟨s1,U,n1,-⟩:=n.cut (l:=0) (m:=k) (by omega) (by omega);refine qy U ?_;rw[List.drop_zero,Nat.sub_zero]at n1;obtain⟨s2,o,h2,V,W,y,H⟩:=kyg n1 (by rw[qci];omega);refine qy V (qy (seen qcq) ?_);refine qy rfl ?_;have b2:=y.has b;refine qcs b2 0 rfl ?_;obtain⟨s3,Z,I,-⟩:=n.cut (l:=k) (m:=bs.length) (by omega) (by omega);rw[n.len];refine qy Z (qy rfl ?_);refine qbl b2 (cs':=[s3.v]) (by simp) (by simp) λh4 b4 z=>qx (.inr ⟨by omega,s2,o,rfl,?_,H,⟨λj k=>qbt (K j k) (qbs y.size z.size),Q,by rw[qch];omega,s3,b4,?_⟩,y.thenM (z.md rfl)⟩)
  ·refine GF.md (z.md (T:=λj=>j=i) rfl) Dis.no.symm W λk' F he=>?_;subst F;have:h.blks.size<=k':=H;have:=b.lt;omega
  ·rw[show(bs.drop k).take (bs.length-k)=bs.drop k from List.take_of_length_le (by simp)]at I;exact(I.grow y).md (z.md (T:=λj=>j=i) rfl) Dis.but
noncomputable def drawn(w n:Nat)(bs:List Nat):Option Nat×List Nat :=
 if h:0<w/\(w+7)/8<=bs.length then
  (if beN (bs.take ((w+7)/8))%2^w<n then(some (beN (bs.take ((w+7)/8))%2^w),bs.drop ((w+7)/8))else drawn w n (bs.drop ((w+7)/8)))
 else(none,bs)
termination_by bs.length
decreasing_by rw[qch];omega
theorem k45{w n:Nat}{bs:List Nat}(h:bs.length<(w+7)/8):drawn w n bs=(none,bs):=by rw[drawn,dif_neg (by omega)]
theorem k79{w n:Nat}{bs:List Nat}(h0:0<w)(h:(w+7)/8<=bs.length)(y:beN (bs.take ((w+7)/8))%2^w<n):drawn w n bs=(some (beN (bs.take ((w+7)/8))%2^w),bs.drop ((w+7)/8)):=by rw[drawn,dif_pos ⟨h0,h⟩,if_pos y]
theorem kbme{w n:Nat}{bs:List Nat}(h0:0<w)(h:(w+7)/8<=bs.length)(y:¬beN (bs.take ((w+7)/8))%2^w<n):drawn w n bs=drawn w n (bs.drop ((w+7)/8)):=by rw[drawn,dif_pos ⟨h0,h⟩,if_neg y]
theorem kbqy{w n x:Nat}:∀(L:Nat){bs:List Nat},bs.length<=L->(drawn w n bs).1=some x->x<n/\x<2^w:=by
 intro L
 induction L with
 | zero =>
  intro bs y h;rw[drawn]at h;split at h
  ·omega
  ·cases h
 | succ L ih =>
  intro bs y h;rw[drawn]at h;split at h
  ·split at h
   ·cases h;exact⟨by assumption,Nat.mod_lt _ (Nat.pow_pos (by decide))⟩
   ·exact ih (by rw[qch];omega) h
  ·cases h
theorem kban:∀(r:_root_.Fin 8)(b:_root_.Fin 256),iand .u8 (b.val:Int) (IntKind.wrap .u8 (ishl .u8 1 (r.val:Int)-1))=((b.val%2^r.val:Nat):Int):=by decide +kernel
theorem k3y(b:Nat)(bs:List Nat):beN (b::bs)=beN bs+256^bs.length*b:=by unfold beN;rw[List.reverse_cons,kcj,List.length_reverse];simp[num]
theorem beN_lt{bs:List Nat}(h:∀b∈bs,b<256):beN bs<256^bs.length:=by have:=ku8 (bs:=bs.reverse) λb hb=>h b (List.mem_reverse.1 hb);rwa[List.length_reverse]at this
theorem k8d{b:Nat}{bs:List Nat}(h:∀x∈bs,x<256)(r:Nat):beN (b%2^r::bs)=beN (b::bs)%2^(8*bs.length+r):=by have y:=beN_lt h;rw[k3y,k3y,Nat.pow_add,show(2:Nat)^(8*bs.length)=256^bs.length from by rw[Nat.pow_mul],Nat.mod_mul,Nat.add_mul_mod_self_left,Nat.mod_eq_of_lt y,Nat.add_mul_div_left _ _ (Nat.pow_pos (by decide)),Nat.div_eq_of_lt y,Nat.zero_add]
theorem Nats.md{h h':AH}{T:Fp}{s:Sl}{xs:List Nat}(n:Nats h s xs)(m:Md T h h')(a:∀j,T j->Av s j xs):Nats h' s xs:=n.mdE (S:=λj=>¬Av s j xs) (λj k=>k) m λj k t=>k (a j t)
def DrawP(tape:AH->Fp->Nat->List Nat->Prop)(h:AH)(S:Fp)(i:Nat)(r:(List Nat×Int)×List Nat)(v:AV)(h':AH):Prop:=∃s1:Sl,v=.tup [s1.v,.i r.1.2]/\Nats h' s1 r.1.1/\Own h s1/\tape h' S i r.2/\Md (λj=>j=i) h h'
def toldD(r:Option Nat×List Nat):(List Nat×Int)×List Nat:=((match r.1 with | none=>[] | some x=>digs B x,match r.1 with | none=>7 | some _=>0),r.2)
theorem DrawP.next{tape:AH->Fp->Nat->List Nat->Prop}{h h1:AH}{S:Fp}{i:Nat}{r:(List Nat×Int)×List Nat}{x:Option (AV×AH)}(m:Md (λj=>j=i) h h1)(R:Runs x (DrawP tape h1 S i r)):Runs x (DrawP tape h S i r):=by refine R.imp λv h' ⟨s1,e,n,o,t,y⟩=>⟨s1,e,n,λq hq=>?_,t,m.trans y⟩;obtain⟨j,k,e,l⟩:=o q hq;exact⟨j,k,e,qbs m.size l⟩
theorem k4q{x n:Nat}(y:x<B^64)(z:n<B^64):(cmpN (digs B x) (digs B n)<0)↔x<n:=by rw[kl6 (kv y) (kv z),kg B2,kg B2,cmp_lt]
theorem kbhw{S:Fp}{i w n:Nat}(hw:0<w)(aj:w<4096)(hn:n<B^64):∀(L:Nat)(bs:List Nat),bs.length<=L->∀{h:AH}{a3:Sl},TapeA h S i bs->Nats h a3 (digs B n)->Av a3 i (digs B n)->
  Runs (go (.pt kgx kij [(0,.func (.func keb) [.p (.new i 0)] []),(1,.i (w:Int)),(2,a3.v)]) h) (DrawP TapeA h S i (toldD (drawn w n bs))):=by
 have wk:IntKind.wrap .i64 (Int.tdiv (IntKind.wrap .i64 ((w:Int)+7)) 8)=(((w+7)/8:Nat):Int):=by rw[show((w:Int)+7)=((w+7:Nat):Int)from rfl,kbe (by omega),show Int.tdiv ((w+7:Nat):Int) 8=(((w+7)/8:Nat):Int)from rfl,kbe (by omega)]
 have wm:Int.tmod (w:Int) 8=((w%8:Nat):Int):=rfl;intro L
 induction L with
 | zero =>
  intro bs hl h a3 t n3 av;rw[k0l,wk];obtain⟨v,h',e,hh⟩:=kzn t (k:=(w+7)/8) (by omega);refine qy e ?_;rcases hh with⟨h1,rfl,rfl⟩ | ⟨h1,_⟩
  ·refine qy rfl (qy (seen qcq) (qy (seen qcr) ?_));refine qba rfl ?_;rw[k45 h1];exact qx ⟨⟨none,0,.is 0⟩,rfl,qu _,qr _,t,Md.refl _ _⟩
  ·omega
 | succ L ih =>
  intro bs hl h a3 t n3 av;rw[k0l,wk];obtain⟨v,h1,e,hh⟩:=kzn t (k:=(w+7)/8) (by omega);refine qy e ?_;rcases hh with⟨c1,rfl,rfl⟩ | ⟨c1,s1,o,rfl,V,l1,t1,m1⟩
  ·refine qy rfl (qy (seen qcq) (qy (seen qcr) ?_));refine qba rfl ?_;rw[k45 c1];exact qx ⟨⟨none,0,.is 0⟩,rfl,qu _,qr _,t,Md.refl _ _⟩
  ·refine qy rfl (qy (seen qcq) (qy (seen qcr) ?_));refine qbb rfl ?_;have F:(bs.take ((w+7)/8)).length=(w+7)/8:=by rw[qci];omega
   have lt:=k24 V.sq
   have hX:beN (bs.take ((w+7)/8))<B^64:=by refine qbt (beN_lt lt) ?_;rw[F];refine qbs (kbe0 _) (Nat.pow_le_pow_right (by decide) (by omega))
   have Z:Nats h1 a3 (digs B n):=n3.md m1 λj W=>by subst W;exact av
   have tail:∀{h2:AH}{y:Nat}{sy:Sl},y=beN (bs.take ((w+7)/8))%2^w->Nats h2 sy (digs B y)->Own h sy->TapeA h2 S i (bs.drop ((w+7)/8))->Md (λj=>j=i) h h2->Nats h2 a3 (digs B n)->
     Runs ((go (.fn kcm [sy.v,a3.v]) h2).bind λG=>((some G.1).bind (AV.asInt .i64)).bind λU=>cond (decide (U<0)) (some (.tup [sy.v,.i 0],G.2))
      (go (.pt kgx kij [(0,.func (.func keb) [.p (.new i 0)] []),(1,.i (w:Int)),(2,a3.v)]) G.2)) (DrawP TapeA h S i (toldD (drawn w n bs))):=λ{h2 y sy} hy ny oy t2 m2 K=>by
    have aa:y<B^64:=by rw[hy];exact qbu (Nat.mod_le _ _) hX
    obtain⟨h3,e3,I⟩:=keg ny K;refine qy e3 (qy (seen qcr) ?_);refine qbc (λc=>?_) (λc=>?_)
    ·rw[qby,k4q aa hn,hy]at c;rw[k79 hw c1 c,<- hy];exact qx ⟨sy,rfl,ny.grow I,oy,t2.grow I,m2.thenG I⟩
    ·rw[qbx,k4q aa hn,hy]at c;rw[kbme hw c1 c];exact DrawP.next (m2.thenG I) (ih _ (by rw[qch];omega) (t2.grow I) (K.grow I) av)
   have Q:∀{h2:AH}{ys:List Nat}{S2:Fp},Sq Ef.byte h2 S2 s1 ys->ys.length=(w+7)/8->beN ys=beN (bs.take ((w+7)/8))%2^w->TapeA h2 S i (bs.drop ((w+7)/8))->Md (λj=>j=i) h h2->Nats h2 a3 (digs B n)->
     Runs ((go (.fn kgt [s1.v]) h2).bind λab=>(AV.asTup2 ab.1).bind λac=>((some ac.1).bind AV.asSl).bind λad=>((some ac.2).bind (AV.asInt .i64)).bind λak =>
      (go (.fn kcm [ad.v,a3.v]) ab.2).bind λG=>((some G.1).bind (AV.asInt .i64)).bind λU=>cond (decide (U<0)) (some (.tup [ad.v,.i 0],G.2))
      (go (.pt kgx kij [(0,.func (.func keb) [.p (.new i 0)] []),(1,.i (w:Int)),(2,a3.v)]) G.2)) (DrawP TapeA h S i (toldD (drawn w n bs))):=λ{h2 ys S2} ny al ah t2 m2 K=>by
    obtain⟨_,h3,e3,sy,rfl,ae,I,o3⟩:=kbqs ny (by omega);refine qy e3 (qy rfl (qy (seen qcq) (qy (seen qcr) ?_)));rw[ah]at ae;refine tail rfl ae (λq hq=>?_) (t2.grow I) (m2.thenG I) (K.grow I);obtain⟨j,k,e,l⟩:=o3 q hq;exact⟨j,k,e,qbs m2.size l⟩
   rw[wm];refine qbc (λc=>?_) (λc=>?_)
   ·rw[qby]at c;have hr:0<w%8:=by omega
    obtain⟨H,rest,af⟩:∃H rest,bs.take ((w+7)/8)=H::rest:=by
     cases hb:bs.take ((w+7)/8)with
     | nil=>rw[hb]at F;simp at F;omega
     | cons a l=>exact⟨a,l,rfl⟩
    rw[af]at V F lt;have ai:rest.length=(w+7)/8-1:=by simp at F;omega
    have ag:H<256:=lt H (by simp);obtain⟨r,f1,f2,-⟩:=kpz V.sq (i:=0) (by simp);have f1:idx s1.ref s1.len 0 1=some r:=f1;refine qy f1 (qy f2 ?_);refine qbb (by rw[qbx];omega) ?_;have hm:iand .u8 ((H:Nat):Int) (IntKind.wrap .u8 (ishl .u8 1 ((w%8:Nat):Int)-1))=((H%2^(w%8):Nat):Int):=kban ⟨w%8,Nat.mod_lt _ (by decide)⟩ ⟨H,ag⟩;obtain⟨r',h4,f4,f5,v4,u4⟩:=V.set (T:=Fp.no) (cs:=[.int .u8 ((H%2^(w%8):Nat):Int)]) (x:=H%2^(w%8)) ⟨rfl,qbu (Nat.mod_le _ _) ag⟩ NotO.no (z:=0) (j:=0) (kba (i:=0) (by simp));have hz:s1.len=(H::rest).length:=V.len;rw[<- hz]at f4;have f4:idx s1.ref s1.len 0 1=some r':=f4;refine qy f4 ?_;show Runs ((h1.puts r' [.int .u8 (iand .u8 ((H:Nat):Int) _)]).bind _) _;rw[hm];refine qy f5 ?_
    have oT:∀k,o=some k->k≠i/\h.blks.size<=k:=λk hk=>by subst hk;have:h.blks.size<=k:=l1;have:=t.lt;exact⟨by omega,by omega⟩
    have m4:Md (λj=>o=some j) h1 h4:=UpdO.md u4 λk hk=>hk
    have m5:Md (λj=>j=i) h h4:=m1.next m4 λj W hk=>by have:=(oT j hk).2;omega
    refine Q v4.sq (by simpa using F) ?_ (t1.md m4 λj W hk=>?_) m5 (Z.md m4 λj W=>?_)
    ·rw[af];show beN (H%2^(w%8)::rest)=_;rw[k8d (λx hx=>lt x (by simp[hx])),ai,show 8*((w+7)/8-1)+w%8=w from by omega]
    ·have:=(oT j hk).2;have:=t.1 j W;omega
    ·exact qbh n3 (oT j W).2
   ·rw[qbx]at c;have hr:w%8=0:=by omega
    refine Q V.sq F ?_ t1 m1 Z;rw[Nat.mod_eq_of_lt];refine qbt (beN_lt lt) ?_;rw[F,show(256:Nat)=2^8 from rfl,<- Nat.pow_mul];exact Nat.pow_le_pow_right (by decide) (by omega)
noncomputable def drawF(xs bs:List Nat):(List Nat×Int)×List Nat:=if rt xs=true/\xs.length≠0 then(if num B xs-1=0 then(([],0),bs)else toldD (drawn (bl (num B xs-1)) (num B xs) bs))else(([],1),bs)
section
variable{S:Fp}{i:Nat}{xs bs:List Nat}
theorem bl_B{x k:Nat}(h:x<B^k):bl x<=64*k:=bl_le (by rw[Nat.pow_mul];exact h)
theorem k93{xs:List Nat}(F:∀x∈xs,x<B)(z:rt xs=true)(h0:xs.length≠0)(G:xs.length<=63):subN xs [1]=(digs B (num B xs-1),0)/\num B xs<B^63/\0<num B xs/\digs B (num B xs)=xs/\bitsN (digs B (num B xs-1))=bl (num B xs-1)/\bl (num B xs-1)<4096:=by
 have H:=(rt_iff.1 z).2;have y:digs B (num B xs)=xs:=kd3 B2 F H;have h1:num B xs<B^63:=(kbc B2 _ 63).1 (by rw[y];exact G)
 have hp:0<num B xs:=by
  rcases Nat.eq_zero_or_pos (num B xs)with h | h
  ·rw[h,kbo]at y;rw[<- y]at h0;exact absurd rfl h0
  ·exact h
 have I:B^63<B^64:=by decide +kernel
 refine⟨?_,h1,hp,y,?_,?_⟩
 ·unfold subN;rw[if_pos ⟨z,by decide⟩,show num B [1]=1 from by decide,if_neg (by omega)]
 ·unfold bitsN;rw[kv (by omega),if_pos rfl,kg B2]
 ·exact qbu (bl_B (k:=63) (qbu (Nat.sub_le _ _) h1)) (by decide)
theorem bl_pos{x:Nat}(h:x≠0):0<bl x:=by rw[kbcz (by omega)];omega
theorem kbhv{h:AH}(t:TapeA h S i bs){s:Sl}(n:Nats h s xs)(av:Av s i xs)(I:xs.length<=63\/rt xs=false):Runs (go (.fn ksv [.p (.new i 0),s.v]) h) (DrawP TapeA h S i (drawF xs bs)):=by
 rw[kbh7];refine qy (kcf n) (qy (seen rfl) ?_);cases F:rt xs with
 | false =>
  refine qba rfl ?_;unfold drawF;rw[F,if_neg (by simp)];exact qx ⟨⟨none,0,.is 0⟩,rfl,qu _,qr _,t,Md.refl _ _⟩
 | true =>
  refine qbb rfl ?_;rw[n.len];refine qbc (λc=>?_) (λc=>?_)
  ·rw[qby]at c;unfold drawF;rw[if_neg (by omega)];exact qx ⟨⟨none,0,.is 0⟩,rfl,qu _,qr _,t,Md.refl _ _⟩
  ·rw[qbx]at c;obtain⟨V,W,f3,K,Z,f6⟩:=k93 n.lt F (by omega) (by rw[F]at I;simpa using I);have hB:B^63<B^64:=by decide +kernel
   refine qz λh1 b1 Q=>?_;have n1:Nats h1 ⟨some (.new h.blks.size 0),1,.is 1⟩ [1]:=Nats.of_has (xs:=[1]) b1 (by simp) (by simp);obtain⟨s2,h2,U,n2,g2,o2⟩:=kjw (n.grow Q) n1;rw[V]at U n2;refine qy U (qy rfl (qy (seen qcq) (qy (seen qcr) ?_)))
   have hb:drawF xs bs=(if num B xs-1=0 then(([],0),bs)else toldD (drawn (bl (num B xs-1)) (num B xs) bs)):=by unfold drawF;rw[if_pos ⟨F,by omega⟩]
   have G:=Q.trans g2;rw[hb];refine qbc (λy=>?_) (λy=>?_)
   ·rw[qby,n2.len]at y;dsimp only at y;have:num B xs-1=0:=(kek B2).1 (List.length_eq_zero_iff.1 (by omega));rw[if_pos this];exact qx ⟨⟨none,0,.is 0⟩,rfl,qu _,qr _,t.grow G,G.md _⟩
   ·rw[qbx,n2.len]at y;dsimp only at y;have z:num B xs-1≠0:=λe=>y (by rw[e,kbo];rfl);rw[if_neg z];obtain⟨_,h3,e3,rfl,H⟩:=kwa n2;refine qy e3 (qy (seen qcr) ?_);rw[Z,kbfk];obtain⟨v,h4,e4,s4,rfl,d⟩:=DrawP.next ((G.trans H).md _) (kbhw (bl_pos z) f6 (Nat.lt_trans W hB) _ bs (qbr _) (t.grow (G.trans H)) (by rw[K];exact n.grow (G.trans H)) (by rw[K];exact av));refine qy e4 (qy rfl (qy (seen qcq) (qy (seen qcr) ?_)));exact qx ⟨s4,rfl,d⟩
end
theorem kbqp{k:IntKind}{x:Int}(h:(Lit.int k x).wf=true)(hk:k=.u8):0<=x/\x<256:=by
 subst hk;have:0<=x/\x<=255:=by simpa[Lit.wf,IntKind.has,IntKind.min,IntKind.max,IntKind.bits,IntKind.signed]using h
 omega
section
variable{S:Fp}{i:Nat}{ns ms:List Nat}
end
end Go.Ab
set_option maxRecDepth 10000
namespace Go.Ab
open Go.Proofs
def idsR(l:List Int):Bool:=decide (l.length<=256)&&(!(l.any λx=>decide (x<0)||decide (x>1073741824))&&decide l.Nodup)
structure Tb where
 ids:List Int
 bins:List Int
 cols:List (List Int)
def colR(t:Tb)(i:Nat):Bool:=!decide (t.bins.getD i 0<2)&&!decide (t.bins.getD i 0>32)&&decide ((t.cols.getD i []).length=t.ids.length)&&!((t.cols.getD i []).any λx=>decide (x<0)||decide (x>=t.bins.getD i 0))
def tabR(t:Tb):Bool:=idsR t.ids&&!decide (t.cols.length>16)&&decide (t.bins.length=t.cols.length)&&(List.range t.cols.length).all (colR t)
structure TabAt(h:AH)(S:Fp)(s1 s2 s3:Sl)(t:Tb):Prop where
 ids:Sq EI h S s1 t.ids
 bins:Sq EI h S s2 t.bins
 cols:Sq (Ef.seq EI) h S s3 t.cols
theorem TabAt.md{h h':AH}{S T:Fp}{s1 s2 s3:Sl}{t:Tb}(n:TabAt h S s1 s2 s3 t)(m:Md T h h')(d:Dis S T):TabAt h' S s1 s2 s3 t:=⟨n.ids.md m d,n.bins.md m d,n.cols.md m d⟩
theorem TabAt.grow{h h':AH}{S:Fp}{s1 s2 s3:Sl}{t:Tb}(n:TabAt h S s1 s2 s3 t)(g:Grow h h'):TabAt h' S s1 s2 s3 t:=⟨n.ids.grow g,n.bins.grow g,n.cols.grow g⟩
section
variable{h0:AH}{S:Fp}{s:Sl}{xs:List Int}
theorem kbim(n:Sq EI h0 S s xs):Runs (go (.fn kcr [s.v,.func (.func kea) [] []]) h0) λv h'=>v=.bool (xs.any λx=>decide (x<0)||decide (x>1073741824))/\Grow h0 h':=by
 rw[kbj7];refine qbq (xs:=xs) ?_;rw[kbae,n.len];refine kf4 (n:=xs.length) (G:=λz h=>go (.pt kbf kb2 [(0,s.v),(1,.func (.func kea) [] []),(7,.i (xs.length:Int)),(8,.i z)]) h) (λi h P H g y F=>?_) (λh g=>?_) xs.length 0 (by omega) (qk h0) (λj Q=>by omega)
 ·obtain⟨r,I,K⟩:=(n.grow g).int H;rw[qb6 H]at y F;simp only[Option.any_some]at y F;show Runs (go _ _) _;rw[k3h];refine qba (qbz (by omega)) (qy I (qy K ?_))
  have key:go (.fn kea [.i xs[i]]) h=some (.bool (decide (xs[i]<0)||decide (xs[i]>1073741824)),h):=by rw[kbqh];cases decide (xs[i]<0)<;>rfl
  refine qy key (qy (seen rfl) ?_);rw[ki (by have:=n.short;omega)];exact qbc (λc=>qx (y h g c)) λc=>F h g c
 ·rw[k3h,condF (qb0 (by omega))]
theorem kbfe(n:Sq EI h0 S s xs)(hl:xs.length<=256){m:Nat}(V:h0.blks.size<=m):∀(k i:Nat),i+k=xs.length->∀{h:AH}{l:List (Int×AV)},Grow h0 h->MapIs h m l->(∀x,(kvGet l x).isSome=true↔x∈xs.take i)->l.length<=i->(l.length=i↔(xs.take i).Nodup)->
  Runs (go (.pt khv kn1 [(3,.map (some m)),(7,s.v),(8,.i (xs.length:Int)),(9,.i (i:Int))]) h) λv h'=>Grow h0 h'/\v=.map (some m)/\∃l,MapIs h' m l/\(l.length=xs.length↔xs.Nodup):=by
 intro k
 induction k with
 | zero =>
  intro i z h l g M hk I F;rw[k27];refine qbb (qb0 (by omega)) (qx ⟨g,rfl,l,M,?_⟩);rw[show i=xs.length from by omega,List.take_length]at F;exact F
 | succ k ih =>
  intro i z h l g M hk I F;have G:i<xs.length:=by omega
  obtain⟨r,W,Z⟩:=(n.grow g).int G;rw[k27];refine qba (qbz (by omega)) (qy W (qy Z ?_));obtain⟨h1,e3,M1,u1⟩:=M.put xs[i] (.i (i:Int));refine qy e3 ?_;rw[ki (by omega)];have U:xs.take (i+1)=xs.take i++[xs[i]]:=qck G;have z:=hk xs[i];refine ih (i+1) (by omega) (g.updr V u1) M1 (λx=>?_) ?_ ?_
  ·rw[kbhk,U,qb7,List.mem_singleton];by_cases H:x=xs[i]
   ·rw[if_pos H];exact⟨λ_=>.inr H,λ_=>rfl⟩
   ·rw[if_neg H,hk x];exact⟨.inl,λh=>h.resolve_right H⟩
  ·cases y:kvGet l xs[i]with
   | none=>rw[k4o _ y];simp;omega
   | some w=>rw[k49 _ y];omega
  ·rw[U,List.nodup_append];cases y:kvGet l xs[i]with
   | none =>
    rw[y]at z;have K:xs[i]∉xs.take i:=λh=>by simpa using z.2 h
    rw[k4o _ y];simp only[qb2,List.length_singleton];constructor
    ·intro e;refine⟨F.1 (by omega),by simp,λa ha b hb=>?_⟩;rw[List.mem_singleton]at hb;subst hb
     rintro rfl
     exact K ha
    ·intro e;rw[F.2 e.1]
   | some w =>
    rw[y]at z;have Q:xs[i]∈xs.take i:=z.1 rfl;rw[k49 _ y];constructor
    ·intro e;omega
    ·intro e;exact absurd rfl (e.2.2 _ Q _ (by simp))
theorem kbou(n:Sq EI h0 S s xs):Runs (go (.fn kuo [s.v]) h0) λv h'=>v=.bool (idsR xs)/\Grow h0 h':=by
 rw[kbhq,n.len];unfold idsR;refine qbc (λc=>?_) (λc=>?_)
 ·rw[qby]at c;rw[qbz (show xs.length<=256 by omega),Bool.true_and];refine(kbim n).call λv h1 ⟨e,y⟩=>?_;subst e;refine qy (seen rfl) ?_;refine qbc (λz=>?_) (λz=>?_)
  ·rw[z,Bool.true_and]
   have key:Runs (go (.fn khv [s.v]) h1) λv h'=>Grow h1 h'/\∃m l,v=.map (some m)/\MapIs h' m l/\(l.length=xs.length↔xs.Nodup):=by rw[kbie,n.len];refine Runs.newMap λh2 M F=>?_;exact(kbfe (n.grow y) (by omega) (m:=h1.blks.size) (qbr _) xs.length 0 (by omega) (l:=[]) F M (λx=>by simp[kvGet]) (qbr _) (by simp)).imp λv h' ⟨g,e,l,M,G⟩=>⟨g,_,l,e,M,G⟩
   refine key.call λv h2 ⟨F,m,l,e,M,G⟩=>?_;subst e;refine qy (seen rfl) (qy M.size (qx ⟨congrArg AV.bool ?_,y.trans F⟩));rw[decide_eq_decide,<- G];omega
  ·rw[z,Bool.false_and];exact qx ⟨rfl,y⟩
 ·rw[qbx]at c;rw[qb0 (show¬xs.length<=256 by omega),Bool.false_and];exact qx ⟨rfl,qk _⟩
end
theorem kbcp{h0:AH}{S:Fp}{s:Sl}{xs:List Int}(n:Sq EI h0 S s xs){b:Nat}{z:Int}{e:TypeId}(hb:h0.has b [.i z] e):Runs (go (.fn kcr [s.v,.func (.func kec) [] [.p (.new b 0)]]) h0) λv h'=>v=.bool (xs.any λx=>decide (x<0)||decide (x>=z))/\Grow h0 h':=by
 rw[kbm9];refine qbq (xs:=xs) ?_;rw[kbdb,n.len];refine kf4 (n:=xs.length) (G:=λy h=>go (.pt kbf kb2 [(0,s.v),(1,.func (.func kec) [] [.p (.new b 0)]),(7,.i (xs.length:Int)),(8,.i y)]) h) (λi h P I g F H=>?_) (λh g=>?_) xs.length 0 (by omega) (qk h0) (λj W=>by omega)
 ·obtain⟨r,K,Q⟩:=(n.grow g).int I;rw[qb6 I]at F H;simp only[Option.any_some]at F H;show Runs (go _ _) _;rw[k4p];refine qba (qbz (by omega)) (qy K (qy Q ?_))
  have key:Runs (go (.fn kec [.i xs[i],.p (.new b 0)]) h) λv h'=>v=.bool (decide (xs[i]<0)||decide (xs[i]>=z))/\h'=h:=by
   rw[kbon];cases decide (xs[i]<0)
   ·refine qbb rfl (qy rfl (qy ((g.has hb).rd0 rfl qcr) ?_));exact qx ⟨rfl,rfl⟩
   ·exact qx ⟨rfl,rfl⟩
  refine key.call λv h' ⟨U,V⟩=>?_;subst U;subst V;refine qy (seen rfl) ?_;rw[ki (by have:=n.short;omega)];exact qbc (λc=>qx (F _ g c)) λc=>H _ g c
 ·rw[k4p,condF (qb0 (by omega))]
section
variable{h0:AH}{S:Fp}{s1 s2 s3:Sl}{t:Tb}
theorem kbnr(n:TabAt h0 S s1 s2 s3 t)(hl:t.cols.length<=16)(hb:t.bins.length=t.cols.length){b:Nat}(V:h0.blks.size<=b):∀(k i:Nat),i+k=t.cols.length->∀{h:AH},Grow h0 h->h.has b [s1.v,s2.v,s3.v] kbu->
  Runs (go (.pt kfp kq4 [(1,.p (.new b 0)),(27,s3.v),(28,.i (t.cols.length:Int)),(29,.i (i:Int))]) h) λv h'=>v=.bool (((List.range t.cols.length).drop i).all (colR t))/\Grow h0 h':=by
 intro k
 induction k with
 | zero =>
  intro i W h g B;rw[kzx];refine qbb (qb0 (by omega)) (qx ⟨?_,g⟩);rw[ku4 (by simp;omega)]
 | succ k ih =>
  intro i W h g B;have I:i<t.cols.length:=by omega
  have z:i<t.bins.length:=by omega
  obtain⟨r,s',Z,e2,-,U⟩:=(n.cols.grow g).sl I;obtain⟨r2,e3,e4⟩:=(n.bins.grow g).int z;rw[kzx];refine qba (qbz (by omega)) (qy Z (qy e2 (qcs B 1 rfl (qy e3 (qy e4 ?_)))));refine qz λh1 b1 g1=>q0 b1 rfl λh2 b2 u2=>?_;have G:Grow h h2:=g1.updr (qbr _) u2;have B2:=G.has B;rw[ktz I]
  have F:colR t i=(!decide (t.bins[i]<2)&&!decide (t.bins[i]>32)&&decide (t.cols[i].length=t.ids.length)&&!(t.cols[i].any λx=>decide (x<0)||decide (x>=t.bins[i]))):=by simp[colR,List.getD,z,I]
  rw[F];refine qy (b2.rd0 rfl qcr) (qbc (λc=>qx ⟨by rw[c];rfl,g.trans G⟩) λc=>?_);refine qy (b2.rd0 rfl qcr) (qbc (λH=>qx ⟨by rw[c,H];rfl,g.trans G⟩) λH=>?_);refine qcs B2 0 rfl ?_;rw[U.len,n.ids.len];refine qbc (λy=>qx ⟨?_,g.trans G⟩) λy=>?_
  ·have:¬t.cols[i].length=t.ids.length:=by simpa[Int.ofNat_inj]using y
   rw[c,H,qb0 this];rfl
  have y:t.cols[i].length=t.ids.length:=by simpa[Int.ofNat_inj]using y
  refine(kbcp (U.grow G) b2).call λv h3 ⟨ev,K⟩=>?_;subst ev;refine qy (seen rfl) (qbc (λQ=>qx ⟨by rw[c,H,qbz y,Q];rfl,(g.trans G).trans K⟩) λQ=>?_);rw[c,H,qbz y,Q,ki (by omega)];exact ih (i+1) (by omega) ((g.trans G).trans K) (K.has B2)
theorem ksa(n:TabAt h0 S s1 s2 s3 t):Runs (go (.fn kfp [.agg [s1.v,s2.v,s3.v]]) h0) λv h'=>v=.bool (tabR t)/\Grow h0 h':=by
 rw[kbk3];refine qz λK b4 F=>qcs b4 0 rfl ?_;refine(kbou (n.ids.grow F)).call λv Q ⟨I,H⟩=>?_;subst I;have B:=H.has b4;have G:=F.trans H;unfold tabR;refine qy (seen rfl) (qbc (λc=>qx ⟨by rw[show idsR t.ids=false by simpa using c];rfl,G⟩) λc=>?_);rw[show idsR t.ids=true by simpa using c,Bool.true_and];refine qcs B 2 rfl ?_;rw[n.cols.len];refine qbc (λz=>qx ⟨?_,G⟩) λz=>?_
 ·rw[qby]at z;rw[qbz (show t.cols.length>16 by omega)];rfl
 rw[qbx]at z;rw[qb0 (show¬t.cols.length>16 by omega)];refine qcs B 1 rfl (qcs B 2 rfl ?_);rw[n.bins.len,n.cols.len];refine qbc (λy=>qx ⟨?_,G⟩) λy=>?_
 ·have:¬t.bins.length=t.cols.length:=by simpa[Int.ofNat_inj]using y
  rw[qb0 this];rfl
 have y:t.bins.length=t.cols.length:=by simpa[Int.ofNat_inj]using y
 rw[qbz y];refine qcs B 2 rfl ?_;rw[n.cols.len];exact kbnr n (by omega) y (qbr _) t.cols.length 0 (by omega) G B
theorem kblp{s:Sl}{xs:List Int}(n:Sq EI h0 S s xs)(x:Int)(Z:xs.length<=1000000):∀(k i:Nat),i+k=xs.length->(∀j (y:j<xs.length),j<i->xs[j]≠x)->
  ∃z,go (.pt kir kn6 [(0,s.v),(1,.i x),(5,.i (i:Int))]) h0=some (.i z,h0)/\∀t (H:t<xs.length),xs[t]=x->(z=(t:Int)↔∀j (y:j<xs.length),j<t->xs[j]≠x):=by
 intro k
 induction k with
 | zero =>
  intro i K F;refine⟨-1,?_,λt H e=>absurd e (F t H (by omega))⟩;rw[kzr,n.len,condF (qb0 (by omega))]
 | succ k ih =>
  intro i K F;have G:i<xs.length:=by omega
  obtain⟨r,Q,U⟩:=n.int G;rw[kzr,Q,n.len,condT (qbz (by omega)),qbv,U,qbv];by_cases I:xs[i]=x
  ·rw[condT (qbz I)];refine⟨_,rfl,λt H e=>⟨λh j y V=>F j y (by omega),λh=>?_⟩⟩;rcases Nat.lt_trichotomy i t with h1 | h1 | h1
   ·exact absurd I (h i G h1)
   ·rw[h1]
   ·exact absurd e (F t H h1)
  ·rw[condF (qb0 I),ki (by omega)];refine ih (i+1) (by omega) λj y W=>?_;by_cases h1:j=i
   ·subst h1;exact I
   ·exact F j y (by omega)
theorem kba6{s:Sl}{xs:List Int}(n:Sq EI h0 S s xs)(hl:xs.length<=256):∀(k i:Nat),i+k=xs.length->(∀j (F:j<xs.length),j<i->0<=xs[j]/\xs[j]<=1073741824)->(xs.take i).Nodup->
  go (.pt kh3 kqn [(0,s.v),(3,.i (i:Int))]) h0=some (.bool (!(xs.any λx=>decide (x<0)||decide (x>1073741824))&&decide xs.Nodup),h0):=by
 intro k
 induction k with
 | zero =>
  intro i hi U I;rw[kzm,n.len,condF (qb0 (by omega))]
  have h1:(xs.any λx=>decide (x<0)||decide (x>1073741824))=false:=by rw[List.any_eq_false];intro x hx;obtain⟨j,F,rfl⟩:=List.getElem_of_mem hx;have:=U j F (by omega);simp;omega
  rw[show i=xs.length by omega,List.take_length]at I;rw[h1,qbz I];rfl
 | succ k ih =>
  intro i hi U I;have y:i<xs.length:=by omega
  obtain⟨r,V,e2⟩:=n.int y;rw[kzm,V,n.len,condT (qbz (by omega))];rw[n.len]at V;simp only[qbv,V,e2]
  have G:(xs[i]<0\/xs[i]>1073741824)->(xs.any λx=>decide (x<0)||decide (x>1073741824))=true:=λh=>by rw[List.any_eq_true];exact⟨xs[i],qb5 y,by simpa using h⟩
  by_cases W:xs[i]<0
  ·rw[condT (qbz W),G (.inl W)];rfl
  rw[condF (qb0 W)];by_cases Z:xs[i]>1073741824
  ·rw[condT (qbz Z),G (.inr Z)];rfl
  rw[condF (qb0 Z)];obtain⟨z,e3,K⟩:=kblp n xs[i] (by omega) xs.length 0 (by omega) λj F h=>by omega
  have K:=K i y rfl
  have hu:go (.fn kir [s.v,.i xs[i]]) h0=some (.i z,h0):=by rw[kbpp];exact e3
  rw[hu];simp only[qbv,kc];have ht:xs.take (i+1)=xs.take i++[xs[i]]:=qck y;by_cases Q:z=(i:Int)
  ·rw[condF (by rw[qbz Q];rfl),ki (by omega)];refine ih (i+1) (by omega) (λj F H=>?_) ?_
   ·by_cases h1:j=i
    ·subst h1;omega
    ·exact U j F (by omega)
   ·rw[ht,List.nodup_append];refine⟨I,by simp,λa ha b hb=>?_⟩;rw[List.mem_singleton]at hb;subst hb
    rintro rfl
    obtain⟨j,F,e⟩:=List.getElem_of_mem ha;rw[List.getElem_take]at e;rw[qci]at F;exact K.1 Q j (by omega) (by omega) e
  ·rw[condT (by rw[qb0 Q];rfl)]
   have:¬xs.Nodup:=λh=>Q (K.2 λj F H e=>by have:=(List.nodup_iff_pairwise_ne.1 h);rw[List.pairwise_iff_getElem]at this;exact this j i F y H e)
   rw[qb0 this,Bool.and_false]
theorem kbdq{s:Sl}{xs:List Int}(n:Sq EI h0 S s xs):go (.fn kh3 [s.v]) h0=some (.bool (idsR xs),h0):=by
 rw[k8q,n.len];unfold idsR;by_cases c:xs.length>256
 ·rw[condT (qbz (by omega)),qb0 (by omega)];rfl
 ·rw[condF (qb0 (by omega)),qbz (show xs.length<=256 by omega),Bool.true_and];exact kba6 n (by omega) xs.length 0 (by omega) (λj y h=>by omega) (by simp)
theorem k7a(n:TabAt h0 S s1 s2 s3 t){b:Nat}(B:h0.has b [s1.v,s2.v,s3.v] kbu){i:Nat}(I:i<t.cols.length)(hl:t.cols.length<=16)(hb:t.bins.length=t.cols.length)(hi:t.cols[i].length=t.ids.length)(H:t.ids.length<=256):∀(k j:Nat),j+k=t.ids.length->
  go (.pt kdg kqk [(1,.p (.new b 0)),(4,.i (i:Int)),(5,.i (j:Int))]) h0=cond ((t.cols[i].drop j).any λx=>decide (x<0)||decide (x>=t.bins[i])) (some (.bool false,h0)) (go (.pt kdg kl3 [(1,.p (.new b 0)),(4,.i ((i+1:Nat):Int))]) h0):=by
 have G:i<t.bins.length:=by omega
 obtain⟨r,s',K,Q,-,U⟩:=n.cols.sl I;obtain⟨r2,V,W⟩:=n.bins.int G;intro k
 induction k with
 | zero =>
  intro j Z;rw[kz2,B.rd 0 rfl qcq,qbv,n.ids.len,condF (qb0 (by omega)),ki (by omega),List.drop_of_length_le (by omega)];rfl
 | succ k ih =>
  intro j Z;have y:j<t.cols[i].length:=by omega
  obtain⟨r3,e5,e6⟩:=U.int y;rw[kz2,B.rd 0 rfl qcq,qbv,n.ids.len,condT (qbz (by omega)),B.rd 2 rfl qcq];simp only[qbv,K,Q,e5,e6,B.rd 1 rfl qcq,V,W];rw[qcj y,List.any_cons];by_cases z:t.cols[i][j]<0
  ·rw[condT (qbz z),qbz z];rfl
  rw[condF (qb0 z),qb0 z,Bool.false_or];by_cases F:t.cols[i][j]>=t.bins[i]
  ·rw[condT (qbz F),qbz F];rfl
  rw[condF (qb0 F),qb0 F,Bool.false_or,ki (by omega)];exact ih (j+1) (by omega)
theorem kbk9(n:TabAt h0 S s1 s2 s3 t){b:Nat}(B:h0.has b [s1.v,s2.v,s3.v] kbu)(V:t.cols.length<=16)(hb:t.bins.length=t.cols.length)(y:t.ids.length<=256):∀(k i:Nat),i+k=t.cols.length->
  go (.pt kdg kl3 [(1,.p (.new b 0)),(4,.i (i:Int))]) h0=some (.bool (((List.range t.cols.length).drop i).all (colR t)),h0):=by
 intro k
 induction k with
 | zero =>
  intro i W;rw[k0t,B.rd 2 rfl qcq,qbv,n.cols.len,condF (qb0 (by omega)),ku4 (by simp;omega)]
 | succ k ih =>
  intro i W;have G:i<t.cols.length:=by omega
  have z:i<t.bins.length:=by omega
  obtain⟨r,s',Z,e2,-,n'⟩:=n.cols.sl G;obtain⟨r2,Q,U⟩:=n.bins.int z
  have F:colR t i=(!decide (t.bins[i]<2)&&!decide (t.bins[i]>32)&&decide (t.cols[i].length=t.ids.length)&&!(t.cols[i].any λx=>decide (x<0)||decide (x>=t.bins[i]))):=by simp[colR,List.getD,z,G]
  rw[ktz G,F];rw[k0t,B.rd 2 rfl qcq,qbv,n.cols.len,condT (qbz (by omega)),B.rd 1 rfl qcq,qbv,Q,qbv,U,qbv];simp only[qbv,B.rd 0 rfl qcq,Z,e2,Q,U];by_cases H:t.bins[i]<2
  ·rw[condT (qbz H),qbz H];rfl
  rw[condF (qb0 H),qb0 H];by_cases I:t.bins[i]>32
  ·rw[condT (qbz I),qbz I];rfl
  rw[condF (qb0 I),qb0 I,n'.len,n.ids.len];by_cases K:t.cols[i].length=t.ids.length
  ·rw[condF (by rw[qbz (by omega)];rfl),qbz K,show(0:Int)=((0:Nat):Int)from rfl,k7a n B G V hb K y t.ids.length 0 (by omega),List.drop_zero];cases(t.cols[i].any λx=>decide (x<0)||decide (x>=t.bins[i]))with
   | true=>rfl
   | false=>rw[cond_false,ih (i+1) (by omega)];rfl
  ·rw[condT (by rw[qb0 (by omega)];rfl),qb0 K];rfl
theorem kx8(n:TabAt h0 S s1 s2 s3 t):Runs (go (.fn kdg [.agg [s1.v,s2.v,s3.v]]) h0) λv h'=>v=.bool (tabR t)/\Grow h0 h':=by
 rw[k83];refine qz λH B G=>qcs B 0 rfl ?_;refine qy (kbdq (n.ids.grow G)) ?_;unfold tabR;refine qy (seen rfl) (qbc (λc=>qx ⟨by rw[show idsR t.ids=false by simpa using c];rfl,G⟩) λc=>?_);have c:idsR t.ids=true:=by simpa using c
 rw[c,Bool.true_and];refine qcs B 2 rfl ?_;rw[n.cols.len];refine qbc (λF=>qx ⟨?_,G⟩) λF=>?_
 ·rw[qby]at F;rw[qbz (show t.cols.length>16 by omega)];rfl
 rw[qbx]at F;rw[qb0 (show¬t.cols.length>16 by omega)];refine qcs B 1 rfl (qcs B 2 rfl ?_);rw[n.bins.len,n.cols.len];refine qbc (λy=>qx ⟨?_,G⟩) λy=>?_
 ·have:¬t.bins.length=t.cols.length:=by simpa[Int.ofNat_inj]using y
  rw[qb0 this];rfl
 have y:t.bins.length=t.cols.length:=by simpa[Int.ofNat_inj]using y
 rw[qbz y]
 have z:t.ids.length<=256:=by unfold idsR at c;simp at c;exact c.1
 have:=kbk9 (n.grow G) B (by omega) y z t.cols.length 0 (by omega);exact⟨_,_,this,rfl,G⟩
end
theorem Runs.yieldF{f:FuncId}{a c xs:List AV}{A:Nat×List AV->Option (AV×AH)}{B:Option (AV×AH)}{P:AV->AH->Prop}(H:Runs B P):Runs (yieldK (.func (.func f) a c) xs A B) P:=H
def Nd.may(x:Nd)(i n:Int):Prop:=if x.leaf=true then(-1099511627776<=x.weight/\x.weight<=1099511627776/\x.party=0/\x.feature=0/\x.cut=0/\x.left=0/\x.right=0)
 else(x.weight=0/\0<=x.party/\x.party<=15/\0<=x.feature/\x.feature<=1073741824/\0<=x.cut/\x.cut<=31/\i<x.left/\x.left<n/\i<x.right/\x.right<n/\x.left≠x.right)
instance Nd.mayDec(x:Nd)(i n:Int):Decidable (x.may i n):=by unfold Nd.may;exact inferInstance
def Nd.no:Nd:=⟨false,0,0,0,0,0,0⟩
section
variable{h0:AH}{S:Fp}{s:Sl}{m:List (List Nd)}
end
def oddI(x:Int):Bool:=decide (x<0)||decide (x>1073741824)
def natNo(x:List Nat):Bool:=!rt x||decide (x.length>4)
def riseOk(l:List Int)(i:Nat):Bool:=decide (i=0)||!decide (l.getD i 0<=l.getD (i-1) 0)
structure Ms where
 kind:Int
 a:Int
 b:Int
 c:Int
 ids:List Int
 rows:List Int
 nats:List (List Nat)
 deriving DecidableEq
structure MsAt(h:AH)(S:Fp)(s5 s6 s7:Sl)(m:Ms):Prop where
 ids:Sq EI h S s5 m.ids
 rows:Sq EI h S s6 m.rows
 nats:Sq Ef.nats h S s7 m.nats
theorem MsAt.grow{h h':AH}{S:Fp}{s5 s6 s7:Sl}{m:Ms}(n:MsAt h S s5 s6 s7 m)(g:Grow h h'):MsAt h' S s5 s6 s7 m:=⟨n.ids.grow g,n.rows.grow g,n.nats.grow g⟩
theorem MsAt.md{h h':AH}{S T:Fp}{s5 s6 s7:Sl}{m:Ms}(n:MsAt h S s5 s6 s7 m)(d:Md T h h')(x:Dis S T):MsAt h' S s5 s6 s7 m:=⟨n.ids.md d x,n.rows.md d x,n.nats.md d x⟩
@[reducible] def Ms.cells(m:Ms)(s5 s6 s7:Sl):List AV:=[.i m.kind,.i m.a,.i m.b,.i m.c,s5.v,s6.v,s7.v]
def Ms.end'(m:Ms):Prop:=(m.kind=1->m.nats.length=1)/\(m.kind=5->m.nats.length=m.ids.length)/\(m.kind=6->m.ids.length≠0)/\(m.kind=9->m.c<=1)
def Ms.lists(m:Ms):Prop:=(m.ids.length<=16384/\(m.kind=5\/m.kind=6\/m.ids.length=0)/\m.ids.any oddI=false)/\(m.rows.length<=16384/\(m.kind=4\/m.kind=7\/m.rows.length=0)/\m.rows.any oddI=false)/\
 (m.nats.length<=16384/\(m.kind=1\/m.kind=3\/m.kind=5\/m.nats.length=0)/\m.nats.any natNo=false)/\(List.range m.rows.length).all (riseOk m.rows)=true
def Ms.heads(m:Ms):Prop:=1<=m.kind/\m.kind<=11/\oddI m.a=false/\oddI m.b=false/\oddI m.c=false/\((m.kind=3\/m.kind=10\/m.kind=11)->m.b=0)/\(¬(m.kind=7\/m.kind=9)->m.c=0)
def Ms.ok(m:Ms):Prop:=m.heads/\m.lists/\m.end'
theorem AH.has.rdo{A:Type}{f:AV->Option A}{h:AH}{i:Nat}{cs:List AV}{e:TypeId}(b:h.has i cs e)(o k:Nat){v:AV}{x:A}(hk:cs[o+k]?=some v)(y:f v=some x):(h.cell ((Ref.new i o).add k)).bind f=some x:=by rw[qj,b.cell,hk];exact y
theorem ko3(x:Int)(h:AH):go (.fn kb4 [.i x]) h=some (.bool (oddI x),h):=by rw[kbpk];unfold oddI;cases decide (x<0)<;>rfl
section
variable{h0:AH}{S:Fp}
theorem kbl0{s:Sl}{xs:List Int}(n:Sq EI h0 S s xs):Runs (go (.fn kcr [s.v,.func (.func kb4) [] []]) h0) λv h'=>v=.bool (xs.any oddI)/\Grow h0 h':=by
 rw[kbom];refine qbq (xs:=xs) ?_;rw[kbfj,n.len];refine kf4 (n:=xs.length) (G:=λz h=>go (.pt kbf kb2 [(0,s.v),(1,.func (.func kb4) [] []),(7,.i (xs.length:Int)),(8,.i z)]) h) (λi h P H g y F=>?_) (λh g=>?_) xs.length 0 (by omega) (qk h0) (λj Q=>by omega)
 ·obtain⟨r,I,K⟩:=(n.grow g).int H;rw[qb6 H]at y F;simp only[Option.any_some]at y F;show Runs (go _ _) _;rw[k3z];refine qba (qbz (by omega)) (qy I (qy K ?_));refine qy (ko3 _ _) (qy (seen rfl) ?_);rw[ki (by have:=n.short;omega)];exact qbc (λc=>qx (y h g c)) λc=>F h g c
 ·rw[k3z,condF (qb0 (by omega))]
theorem k00{s:Sl}{xs:List Int}(n:Sq EI h0 S s xs)(b:Bool):Runs (go (.fn krk [s.v,.bool b,.func (.func kb4) [] []]) h0) λv h'=>v=.bool (decide (xs.length<=16384)&&(b||decide (xs.length=0))&&!xs.any oddI)/\Grow h0 h':=by
 rw[kbp8,n.len];have W:=kbl0 n;by_cases c:xs.length<=16384
 ·refine qba (qbz (by omega)) ?_;rw[qbz c];cases b
  ·by_cases y:xs.length=0
   ·refine qbb rfl (qba (qbz (by omega)) (W.call λv h' ⟨e,g⟩=>?_));subst e;exact qy (seen rfl) (qx ⟨by rw[qbz y];rfl,g⟩)
   ·exact qbb rfl (qbb (qb0 (by omega)) (qx ⟨by rw[qb0 y];rfl,qk _⟩))
  ·refine qba rfl (W.call λv h' ⟨e,g⟩=>?_);subst e;exact qy (seen rfl) (qx ⟨rfl,g⟩)
 ·exact qbb (qb0 (by omega)) (qx ⟨by rw[qb0 c];rfl,qk _⟩)
theorem kbq0{s:Sl}{x:List Nat}{h:AH}(n:Nats h s x):go (.fn kcs [s.v]) h=some (.bool (natNo x),h):=by
 rw[kbis,kcf n,qbv];unfold natNo;rw[n.len];cases rt x
 ·rfl
 ·show some (AV.bool (decide ((x.length:Int)>4)),h)=_;congr 3;rw[Bool.not_true,Bool.false_or,decide_eq_decide];omega
theorem k9h{s:Sl}{xs:List (List Nat)}(n:Sq Ef.nats h0 S s xs):Runs (go (.fn kcx [s.v,.func (.func kcs) [] []]) h0) λv h'=>v=.bool (xs.any natNo)/\Grow h0 h':=by
 rw[k8x];refine qbq (xs:=xs) ?_;rw[kbeb,n.len];refine kf4 (n:=xs.length) (G:=λz h=>go (.pt kbi kb7 [(0,s.v),(1,.func (.func kcs) [] []),(7,.i (xs.length:Int)),(8,.i z)]) h) (λi h P H g y F=>?_) (λh g=>?_) xs.length 0 (by omega) (qk h0) (λj U=>by omega)
 ·obtain⟨r,s',I,K,Q,-⟩:=(n.grow g).nats H;rw[qb6 H]at y F;simp only[Option.any_some]at y F;show Runs (go _ _) _;rw[k2q];refine qba (qbz (by omega)) (qy I (qy K ?_));refine qy (kbq0 Q) (qy (seen rfl) ?_);rw[ki (by have:=n.short;omega)];exact qbc (λc=>qx (y h g c)) λc=>F h g c
 ·rw[k2q,condF (qb0 (by omega))]
theorem kbpl{s:Sl}{xs:List (List Nat)}(n:Sq Ef.nats h0 S s xs)(b:Bool):Runs (go (.fn kvu [s.v,.bool b,.func (.func kcs) [] []]) h0) λv h'=>v=.bool (decide (xs.length<=16384)&&(b||decide (xs.length=0))&&!xs.any natNo)/\Grow h0 h':=by
 rw[k8o,n.len];have W:=k9h n;by_cases c:xs.length<=16384
 ·refine qba (qbz (by omega)) ?_;rw[qbz c];cases b
  ·by_cases y:xs.length=0
   ·refine qbb rfl (qba (qbz (by omega)) (W.call λv h' ⟨e,g⟩=>?_));subst e;exact qy (seen rfl) (qx ⟨by rw[qbz y];rfl,g⟩)
   ·exact qbb rfl (qbb (qb0 (by omega)) (qx ⟨by rw[qb0 y];rfl,qk _⟩))
  ·refine qba rfl (W.call λv h' ⟨e,g⟩=>?_);subst e;exact qy (seen rfl) (qx ⟨rfl,g⟩)
 ·exact qbb (qb0 (by omega)) (qx ⟨by rw[qb0 c];rfl,qk _⟩)
@[reducible] def kindsL:List AV:=[.i 0,.bool false,.bool false,.bool false,.i 2,.bool false,.bool false,.bool true,.i 2,.bool false,.bool false,.bool false,.i 1,.bool false,.bool false,.bool true,.i 2,.bool false,.bool true,.bool false,.i 2,.bool true,.bool false,.bool true,.i 2,.bool true,.bool false,.bool false,.i 3,.bool false,.bool true,.bool false,.i 2,.bool false,.bool false,.bool false,.i 3,.bool false,.bool false,.bool false,.i 1,.bool false,.bool false,.bool false,.i 1,.bool false,.bool false,.bool false]
theorem kbpj{h:AH}:Runs (go (.fn kve []) h) λv h'=>v=.agg kindsL/\Grow h h':=by
 rw[k66];refine qz λh1 b1 y=>q0 b1 rfl λh2 b2 z=>?_
 repeat refine qy (qbe b2 _ rfl (by first | exact kc _ _ | rfl)) ?_
 exact qx ⟨rfl,y.updr (qbr _) z⟩
variable{m:Ms}{s5 s6 s7:Sl}{b:Nat}
theorem k8y(n:MsAt h0 S s5 s6 s7 m)(B:h0.has b (m.cells s5 s6 s7) kc5)(W:m.rows.length<=16384):∀(k i:Nat),i+k=m.rows.length->
  Runs (go (.pt kck kl2 [(1,.p (.new b 0)),(84,.i (m.rows.length:Int)),(85,.i (i:Int))]) h0) λv h'=>(∃z:Bool,v=.bool z/\(z=true↔((List.range m.rows.length).drop i).all (riseOk m.rows)=true/\m.end'))/\Grow h0 h':=by
 intro k
 induction k with
 | zero =>
  intro i I;rw[k0v,ku4 (by simp;omega)];refine qbb (qb0 (by omega)) ?_
  repeat' first
   | refine qy (qbe B _ rfl (by first | exact kc _ _ | exact asSl_v _ | rfl)) ?_
   | refine qbc (λk=>?_) (λk=>?_)
  all_goals
   refine qx ⟨⟨_,rfl,?_⟩,qk _⟩;have G:=n.nats.len;have H:=n.ids.len;unfold Ms.end'
   grind
 | succ k ih =>
  intro i I;have y:i<m.rows.length:=by omega
  obtain⟨r,G,H⟩:=n.rows.int y;rw[k0v,ktz y];refine qba (qbz (by omega)) ?_;rw[ki (by omega)];by_cases c:i=0
  ·refine qbb (qb0 (by omega)) ((ih (i+1) (by omega)).imp λv h' ⟨⟨z,e,q⟩,g⟩=>⟨⟨z,e,?_⟩,g⟩);rw[q];simp[riseOk,c]
  ·refine qba (qbz (by omega)) ?_;have hp:i-1<m.rows.length:=by omega
   obtain⟨r2,K,Q⟩:=n.rows.int hp;have U:IntKind.wrap .i64 ((i:Int)-1)=((i-1:Nat):Int):=by rw[wrap64 (by omega) (by omega)];omega
   rw[U];refine qcs B 5 rfl (qy G (qy H (qcs B 5 rfl (qy K (qy Q ?_)))));have V:riseOk m.rows i=!decide (m.rows[i]<=m.rows[i-1]):=by simp[riseOk,c,List.getD,y,hp]
   rw[V];refine qbc (λF=>qx ⟨⟨_,rfl,by simp[F]⟩,qk _⟩) λF=>(ih (i+1) (by omega)).imp λv h' ⟨⟨z,e,q⟩,g⟩=>⟨⟨z,e,?_⟩,g⟩;rw[q,F];simp
theorem kbgd(n:MsAt h0 S s5 s6 s7 m)(B:h0.has b (m.cells s5 s6 s7) kc5){b2 b3:Nat}{y:Int}{I K Q:Bool}(B2:h0.has b2 [.i y,.bool I,.bool K,.bool Q] ktu)(V:h0.has b3 [.i m.a,.i m.b,.i m.c] T.int)(h1:1<=y) :
  Runs (go (.pt kck kgg [(1,.p (.new b 0)),(4,.p (.new b2 0)),(43,(⟨some (.new b3 0),3,.is 3⟩:Sl).v),(44,.i 3),(45,.i 0)]) h0) λv h'=>(∃z:Bool,v=.bool z/\(z=true↔(y<2->m.b=0)/\(y<3->m.c=0)/\
   (decide (m.ids.length<=16384)&&(I||decide (m.ids.length=0))&&!m.ids.any oddI)=true/\(decide (m.rows.length<=16384)&&(K||decide (m.rows.length=0))&&!m.rows.any oddI)=true/\
   (decide (m.nats.length<=16384)&&(Q||decide (m.nats.length=0))&&!m.nats.any natNo)=true/\(List.range m.rows.length).all (riseOk m.rows)=true/\m.end'))/\Grow h0 h':=by
 have Z:idx (some (.new b3 0)) 3 0 1=some ((Ref.new b3 0).add 0):=rfl;have i1:idx (some (.new b3 0)) 3 1 1=some ((Ref.new b3 0).add 1):=rfl;have i2:idx (some (.new b3 0)) 3 2 1=some ((Ref.new b3 0).add 2):=rfl
 have tail:(y<2->m.b=0)->(y<3->m.c=0)->Runs (go (.pt kck kgg [(1,.p (.new b 0)),(4,.p (.new b2 0)),(43,(⟨some (.new b3 0),3,.is 3⟩:Sl).v),(44,.i 3),(45,.i 3)]) h0) λv h'=>(∃z:Bool,v=.bool z/\(z=true↔(y<2->m.b=0)/\(y<3->m.c=0)/\
   (decide (m.ids.length<=16384)&&(I||decide (m.ids.length=0))&&!m.ids.any oddI)=true/\(decide (m.rows.length<=16384)&&(K||decide (m.rows.length=0))&&!m.rows.any oddI)=true/\
   (decide (m.nats.length<=16384)&&(Q||decide (m.nats.length=0))&&!m.nats.any natNo)=true/\(List.range m.rows.length).all (riseOk m.rows)=true/\m.end'))/\Grow h0 h':=λW p2=>by
  rw[kor];refine qbb rfl (qcs B 4 rfl (qy (B2.rd 1 rfl rfl) ?_));refine(k00 n.ids I).call λv h1 ⟨e,F⟩=>?_;subst e;refine qy (seen rfl) (qbc (λc=>qx ⟨⟨_,rfl,by grind⟩,F⟩) λc=>?_);refine qcs (F.has B) 5 rfl (qy ((F.has B2).rd 2 rfl rfl) ?_);refine(k00 (n.rows.grow F) K).call λv h2 ⟨e,U⟩=>?_;subst e;refine qy (seen rfl) (qbc (λH=>qx ⟨⟨_,rfl,by grind⟩,F.trans U⟩) λH=>?_);refine qy (((F.trans U).has B).rd 6 rfl qcq) (qy (((F.trans U).has B2).rd 3 rfl rfl) ?_);refine(kbpl (n.nats.grow (F.trans U)) Q).call λv h3 ⟨e,g3⟩=>?_;subst e;have G:=(F.trans U).trans g3;refine qy (seen rfl) (qbc (λc3=>qx ⟨⟨_,rfl,by grind⟩,G⟩) λc3=>?_);refine qcs (G.has B) 5 rfl ?_;rw[n.rows.len];have hl:m.rows.length<=16384:=by grind
  refine(k8y (n.grow G) (G.has B) hl m.rows.length 0 (by omega)).imp λv h' ⟨⟨z,e,q⟩,g⟩=>⟨⟨z,e,?_⟩,G.trans g⟩;rw[q,List.drop_zero]
  grind
 rw[kor];refine qba rfl (qy Z (qct V 0 rfl (qct B2 0 rfl (qbb (qb0 (by omega)) ?_))));show Runs (go (.pt kck kgg [(1,.p (.new b 0)),(4,.p (.new b2 0)),(43,(⟨some (.new b3 0),3,.is 3⟩:Sl).v),(44,.i 3),(45,.i 1)]) h0) _;rw[kor];refine qba rfl (qy i1 (qct V 1 rfl (qct B2 0 rfl ?_)))
 have two:(y<2->m.b=0)->Runs (go (.pt kck kgg [(1,.p (.new b 0)),(4,.p (.new b2 0)),(43,(⟨some (.new b3 0),3,.is 3⟩:Sl).v),(44,.i 3),(45,.i 2)]) h0) λv h'=>(∃z:Bool,v=.bool z/\(z=true↔(y<2->m.b=0)/\(y<3->m.c=0)/\
   (decide (m.ids.length<=16384)&&(I||decide (m.ids.length=0))&&!m.ids.any oddI)=true/\(decide (m.rows.length<=16384)&&(K||decide (m.rows.length=0))&&!m.rows.any oddI)=true/\
   (decide (m.nats.length<=16384)&&(Q||decide (m.nats.length=0))&&!m.nats.any natNo)=true/\(List.range m.rows.length).all (riseOk m.rows)=true/\m.end'))/\Grow h0 h':=λW=>by
  rw[kor];refine qba rfl (qy i2 (qct V 2 rfl (qct B2 0 rfl ?_)));refine qbc (λc=>qbc (λH=>qx ⟨⟨_,rfl,by grind⟩,qk _⟩) λH=>?_) λc=>?_
  ·exact tail W (λ_=>by simpa using H)
  ·exact tail W (λh=>by simp at c;omega)
 refine qbc (λc=>qbc (λH=>qx ⟨⟨_,rfl,by grind⟩,qk _⟩) λH=>?_) λc=>?_
 ·exact two (λ_=>by simpa using H)
 ·exact two (λh=>by simp at c;omega)
theorem kbpv(n:MsAt h0 S s5 s6 s7 m):Runs (go (.fn kck [.agg (m.cells s5 s6 s7)]) h0) λv h'=>(∃z:Bool,v=.bool z/\(z=true↔m.ok))/\Grow h0 h':=by
 rw[kbop];refine qz λh8 b8 g8=>?_;refine kbpj.call λv h9 ⟨e,g9⟩=>?_;subst e;refine qy rfl (qba rfl ?_)
 repeat refine qy (seenAt rfl (by first | exact kc _ _ | rfl)) ?_
 refine qz λai Z aa=>q0 Z rfl λH F ab=>?_;have I:Grow h9 H:=aa.updr (qbr _) ab;have G:=(g8.trans g9).trans I;have B:=(g9.trans I).has b8;refine qct B 0 rfl (qbc (λc1=>qx ⟨⟨_,rfl,by unfold Ms.ok Ms.heads;grind⟩,G⟩) λc1=>?_);refine qct B 0 rfl (qbc (λc2=>qx ⟨⟨_,rfl,by unfold Ms.ok Ms.heads;grind⟩,G⟩) λc2=>?_);refine qct B 1 rfl (qy (ko3 _ _) (qy (seen rfl) (qbc (λc3=>qx ⟨⟨_,rfl,by unfold Ms.ok Ms.heads;grind⟩,G⟩) λc3=>?_)));refine qct B 2 rfl (qy (ko3 _ _) (qy (seen rfl) (qbc (λc4=>qx ⟨⟨_,rfl,by unfold Ms.ok Ms.heads;grind⟩,G⟩) λc4=>?_)));refine qct B 3 rfl (qy (ko3 _ _) (qy (seen rfl) (qbc (λc5=>qx ⟨⟨_,rfl,by unfold Ms.ok Ms.heads;grind⟩,G⟩) λc5=>?_)));refine qct B 0 rfl ?_;rw[qbx]at c1 c2
 have key:∀{K:Int}{k1 k2 k3:Bool},1<=K->(K<2↔(m.kind=3\/m.kind=10\/m.kind=11))->(K<3↔¬(m.kind=7\/m.kind=9))->(k1=true↔(m.kind=5\/m.kind=6))->(k2=true↔(m.kind=4\/m.kind=7))->(k3=true↔(m.kind=1\/m.kind=3\/m.kind=5))->∀{h1 h2 Q:AH}{b2 b3:Nat},Grow H Q->Q.has b2 [.i K,.bool k1,.bool k2,.bool k3] ktu->Q.has b3 [.i m.a,.i m.b,.i m.c] T.int->
   Runs (go (.pt kck kgg [(1,.p (.new h0.blks.size 0)),(4,.p (.new b2 0)),(43,(⟨some (.new b3 0),3,.is 3⟩:Sl).v),(44,.i 3),(45,.i 0)]) Q) λv h'=>(∃z:Bool,v=.bool z/\(z=true↔m.ok))/\Grow h0 h':=λ{K k1 k2 k3} p0 p1 p2 p3 p4 p5 {h1 h2 Q b2 b3} g B2 B3=>by
  refine(kbgd (n.grow (G.trans g)) (g.has B) B2 B3 p0).imp λv h' ⟨⟨z,e,q⟩,g'⟩=>⟨⟨z,e,?_⟩,(G.trans g).trans g'⟩;rw[q];unfold Ms.ok Ms.heads Ms.lists
  grind
 have y:m.kind=1\/m.kind=2\/m.kind=3\/m.kind=4\/m.kind=5\/m.kind=6\/m.kind=7\/m.kind=8\/m.kind=9\/m.kind=10\/m.kind=11:=by omega
 rcases y with y | y | y | y | y | y | y | y | y | y | y
 all_goals
  rw[y];refine qy (a:=Ref.new h9.blks.size _) rfl ?_;refine qy (AH.has.rdo F _ _ rfl qcr) (qy (AH.has.rdo F _ _ rfl rfl) (qy (AH.has.rdo F _ _ rfl rfl) (qy (AH.has.rdo F _ _ rfl rfl) ?_)));refine qz λac ad ae=>q0 ad rfl λU af ag=>?_;have V:Grow H U:=ae.updr (qbr _) ag;have B9:=V.has B;refine qct B9 1 rfl (qct B9 2 rfl (qct B9 3 rfl ?_));refine qz λaj ah W=>?_;refine key (h1:=ac) (h2:=U) (by decide) ?_ ?_ ?_ ?_ ?_ (V.trans W) (W.has af) ah<;>simp[y]
end
end Go.Ab
set_option maxRecDepth 10000
namespace Go.Ab
open Go.Proofs
section
variable{h0:AH}{S:Fp}{m:Ms}{s5 s6 s7:Sl}{b:Nat}
end
end Go.Ab
set_option maxRecDepth 10000
namespace Go.Ab
open Go.Proofs
structure Wk where
 m:List (List Nd)
 t:Tb
 row:Nat
 tree:Nat
 node:Nat
 sc:List Int
def Wk.nd(w:Wk):Nd:=(w.m.getD w.tree []).getD w.node Nd.no
def Wk.bin(w:Wk):Int:=(w.t.cols.getD w.nd.feature.toNat []).getD w.row 0
def Wk.kid(w:Wk)(b:Bool):Int:=if b then w.nd.left else w.nd.right
def Wk.step(w:Wk):Option Wk :=
 if w.t.ids.length<=w.row then none
 else if w.m.length<=w.tree then some {w with row:=w.row+1,tree:=0,node:=0}
 else if w.nd.leaf then some {w with tree:=w.tree+1,node:=0,sc:=w.sc.set w.row (IntKind.wrap .i64 (w.sc.getD w.row 0+w.nd.weight))}
 else if w.nd.party≠0 then none
 else some {w with node:=(w.kid (decide (w.bin<=w.nd.cut))).toNat}
def Wk.on:Nat->Wk->Wk
 | 0,w=>w
 | f+1,w=>match w.step with
  | none=>w
  | some w'=>Wk.on f w'
def Wk.mu(w:Wk):Nat:=(w.t.ids.length-w.row)*1089-(w.tree*64+w.node)
section
variable{w:Wk}
end
@[reducible] def Wk.cells(w:Wk)(y s1 s2 s3 s7:Sl):List AV:=[y.v,s1.v,s2.v,s3.v,.i (w.row:Int),.i (w.tree:Int),.i (w.node:Int),s7.v]
section
variable{ty:TypeId}{h h':AH}{S U:Fp}{i j:Nat}{w:Wk}
end
def Fp.two(i j:Nat):Fp:=λk=>k=i\/k=j
theorem k9j{n:Nat}(h:n<=1000000):growOk Pg n T.int 1=true:=by
 unfold growOk;rw[ktl,kpv];have h1:n*8<=ky:=by simp only[ky];omega
 have h2:n<=ky:=by simp only[ky];omega
 simp[h1,h2]
theorem kbg1{h:AH}{S:Fp}{s:Sl}{xs:List Int}(n:Sq EI h S s xs)(y:xs.length<=1000000):Runs (go (.fn ks0 [s.v]) h) λv h'=>∃(s':Sl)(i:Option Nat),v=s'.v/\GF EI T.int h' (λj=>S j/\j<h.blks.size) s' i xs/\Grow h h'/\LeO h.blks.size i:=by rw[kbea];exact Runs.clone (P:=Pg) (elem:=T.int) n kf0 (k9j y)
@[reducible] def nilS:Sl:=⟨none,0,.is 0⟩
def Wk.next(w:Wk):List AV:=if w.row<w.t.ids.length then [.i w.nd.party,.i 8,.i w.nd.feature,.i (w.row:Int),.i 0,nilS.v,nilS.v,nilS.v]
 else [.i 0,.i 0,.i 0,.i 0,.i 0,nilS.v,nilS.v,nilS.v]
def Wk.go(w:Wk):Wk:=w.on w.mu
section
variable{h:AH}{S S':Fp}{i j:Nat}{w:Wk}
end
end Go.Ab
set_option maxRecDepth 10000
namespace Go.Ab
open Go.Proofs
section
variable{h:AH}{S S':Fp}{i j:Nat}{w:Wk}{m:Ms}{s5 s6 s7:Sl}
end
end Go.Ab
set_option maxRecDepth 10000
namespace Go.Ab
open Go.Proofs
theorem kbfa{h:AH}{n:Nat}(y:n<=1000000):∃(s:Sl)(h':AH),kbm (n:Int) (n:Int) T.int (Pg.bytesOf T.int) [.i 0] h=some (s,h')/\GF EI T.int h' Fp.no s (some h.blks.size) (List.replicate n 0)/\Grow h h':=by
 rw[kxk rfl rfl (by rw[kpv];omega) (by omega),ktv];refine⟨_,_,rfl,⟨by simp;omega,qbm,rfl,by simp,List.replicate n [.i 0],T.int,?_,.inl rfl,?_⟩,ql h _⟩
 ·have:(List.replicate n [AV.int .i64 0]).flatten=List.replicate n (AV.int .i64 0):=by
   clear y
   induction n with
   | zero=>rfl
   | succ n ih=>rw[List.replicate_succ,List.flatten_cons,ih,List.replicate_succ];rfl
  rw[this];exact qm h _ T.int
 ·clear y
  induction n with
  | zero=>exact .nil
  | succ n ih=>exact .cons rfl ih
section
variable{h0:AH}{S:Fp}{s s1 s2 s3:Sl}{m:List (List Nd)}{t:Tb}
end
end Go.Ab
set_option maxRecDepth 10000
namespace Go.Ab
open Go.Proofs
section
variable{h0:AH}{S:Fp}{s s1 s2 s3:Sl}{m:List (List Nd)}{t:Tb}
end
end Go.Ab
set_option maxRecDepth 10000
namespace Go.Ab
open Go.Proofs
section
variable{h0:AH}{S S':Fp}{s t:Sl}
end
theorem kuw{h:AH}{cs:List AV}(a:ArgT Pg h ke9 cs):∃(s:Sl)(xs:List Int),cs=[s.v]/\Sq EI h Fp.no s xs:=kbij Fp.no kbio kp5 kf0 a
end Go.Ab
set_option maxRecDepth 10000
namespace Go.Ab
open Go.Proofs
theorem MsAt.mono{h:AH}{S U:Fp}{s5 s6 s7:Sl}{m:Ms}(n:MsAt h S s5 s6 s7 m)(f:∀j,S j->U j):MsAt h U s5 s6 s7 m:=⟨n.ids.mono f,n.rows.mono f,n.nats.mono f⟩
@[reducible] def Ef.msg:Ef Ms where
 w:=7
 pos:=by decide
 has h S cs m:=∃s5 s6 s7,cs=m.cells s5 s6 s7/\MsAt h S s5 s6 s7 m
 len:=λ⟨_,_,_,e,_⟩=>by rw[e];rfl
 grow g:=λ⟨a,b,c,e,n⟩=>⟨a,b,c,e,n.grow g⟩
 mono f:=λ⟨a,b,c,e,n⟩=>⟨a,b,c,e,n.mono f⟩
 upd no u:=λ⟨a,b,c,e,n⟩=>⟨a,b,c,e,⟨n.ids.upd no u,n.rows.upd no u,n.nats.upd no u⟩⟩
 bound:=λ⟨a,b,c,e,n⟩=>⟨a,b,c,e,⟨n.ids.bound,n.rows.bound,n.nats.bound⟩⟩
structure Stp where
 frm:Int
 m:Ms
 right:Bool
 way:Int
section
variable{h0:AH}{S1 S2:Fp}{i1 j1 i2 j2:Nat}{s:Sl}{l:List Stp}
end
end Go.Ab
namespace Go.Ab
theorem kx5:∀(n w:Nat),w≠0->w<2^n->∃k m,k<n/\w=2^(k+1)*m+2^k:=by
 intro n
 induction n with
 | zero=>intro w h0 h;omega
 | succ n ih =>
  intro w h0 h;rcases Nat.mod_two_eq_zero_or_one w with e | e
  ·obtain⟨k,m,hk,y⟩:=ih (w/2) (by omega) (by rw[Nat.pow_succ]at h;omega);refine⟨k+1,m,by omega,?_⟩;have:w=2*(w/2):=by omega
   rw[this,y,Nat.mul_add,<- Nat.mul_assoc,<- Nat.pow_succ',<- Nat.pow_succ']
  ·exact⟨0,w/2,by omega,by simp;omega⟩
theorem kjt{k m:Nat}(j:Nat):(2^(k+1)*m+2^k).testBit j=if j<k then false else if j=k then true else m.testBit (j-(k+1)):=by
 rw[Nat.testBit_two_pow_mul_add _ (Nat.pow_lt_pow_right (by decide) (Nat.lt_succ_self k)),Nat.testBit_two_pow]
 grind
theorem kbfi(k m:Nat):(2^(k+1)*m+2^k)&&&(2^(k+1)*m+2^k-1)=2^(k+1)*m:=by
 have hp:0<2^k:=Nat.two_pow_pos k;have e:2^(k+1)*m+2^k-1=2^(k+1)*m+(2^k-1):=by omega
 rw[e];apply Nat.eq_of_testBit_eq;intro j;rw[Nat.testBit_and,kjt,Nat.testBit_two_pow_mul_add _ (by rw[Nat.pow_succ];omega),Nat.testBit_two_pow_sub_one,Nat.testBit_two_pow_mul]
 grind
theorem kbfp{k m n:Nat}(h:2^(k+1)*m+2^k<2^n):(2^(k+1)*m+2^k)&&&(2^n-(2^(k+1)*m+2^k))=2^k:=by
 have hk:k<n:=by
  rcases Nat.lt_or_ge k n with h1 | h1
  ·exact h1
  ·have:=Nat.pow_le_pow_right (n:=2) (by decide) h1;omega
 obtain⟨d,rfl⟩:∃d,n=(k+1)+d:=⟨n-(k+1),by omega⟩
 have y:m<2^d:=by
  rcases Nat.lt_or_ge m (2^d)with h1 | h1
  ·exact h1
  ·have:=Nat.mul_le_mul_left (2^(k+1)) h1;rw[<- Nat.pow_add]at this;exact absurd h (Nat.not_lt.2 (Nat.le_trans this (Nat.le_add_right _ _)))
 have e:2^(k+1+d)-(2^(k+1)*m+2^k)=2^(k+1)*(2^d-(m+1))+2^k:=by
  have a:2^(k+1+d)=2^(k+1)*2^d:=Nat.pow_add ..;have b:2^(k+1)*2^d=2^(k+1)*(2^d-(m+1))+2^(k+1)*(m+1):=by rw[<- Nat.mul_add];congr 1;omega
  have c:2^(k+1)*(m+1)=2^(k+1)*m+2^(k+1):=by rw[Nat.mul_add,Nat.mul_one]
  have f:2^(k+1)=2^k+2^k:=by rw[Nat.pow_succ];omega
  omega
 rw[e];apply Nat.eq_of_testBit_eq;intro j;rw[Nat.testBit_and,kjt,kjt,Nat.testBit_two_pow];by_cases h1:j<k
 ·have:¬k=j:=by omega
  simp[h1,this]
 ·by_cases h2:j=k
  ·subst h2;simp
  ·have:¬k=j:=by omega
   rw[if_neg h1,if_neg h2,if_neg h1,if_neg h2,Nat.testBit_two_pow_sub_succ y];simp[this];intro a b;exact a
def ones(w:Nat):List Nat:=(List.range 64).filter w.testBit
theorem kbq1{p q:Nat->Bool}{k:Nat}:∀{n:Nat},k<n->p k=true->(∀j,j<k->p j=false)->(∀j,j<n->q j=(p j&&decide (j≠k)))->(List.range n).filter p=k::(List.range n).filter q:=by
 intro n
 induction n with
 | zero=>intro h;omega
 | succ n ih =>
  intro h hp z hq;rw[List.range_succ,List.filter_append,List.filter_append];by_cases e:k=n
  ·subst e;have a:(List.range k).filter p=[]:=List.filter_eq_nil_iff.2 λj y=>by rw[z j (List.mem_range.1 y)];simp
   have b:(List.range k).filter q=[]:=List.filter_eq_nil_iff.2 λj y=>by have:=List.mem_range.1 y;rw[hq j (by omega),z j this];simp
   rw[a,b];have:q k=false:=by rw[hq k (by omega)];simp
   simp[hp,this]
  ·rw[ih (by omega) hp z λj y=>hq j (by omega)];have:q n=p n:=by rw[hq n (by omega)];simp;intro _;omega
   simp[this,List.filter_cons]
theorem k28:ones 0=[]:=by unfold ones;exact List.filter_eq_nil_iff.2 λj _=>by simp
theorem k30{k m:Nat}(hk:k<64):ones (2^(k+1)*m+2^k)=k::ones (2^(k+1)*m):=by
 unfold ones;refine kbq1 hk (by rw[kjt];simp) (λj y=>by rw[kjt];simp[y]) λj _=>?_;rw[kjt,Nat.testBit_two_pow_mul];by_cases h1:j<k
 ·have:¬k+1<=j:=by omega
  simp[h1,this]
 ·by_cases h2:j=k
  ·subst h2;have:¬j+1<=j:=by omega
   simp[this]
  ·have:k+1<=j:=by omega
   simp[h1,h2,this]
end Go.Ab
