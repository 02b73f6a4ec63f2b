/- Words and laws that the last text joins. -/
import Derived.Test.YtgfeahhgoiidiaaGreatDoorPS27
import Derived.Test.YtgfeahhgoiidiaaGreatDoorPU1
import Derived.Test.YtgfeahhgoiidiaaGreatDoorPAbsL
import Derived.Test.YtgfeahhgoiidiaaGreatDoorPS2
set_option linter.unusedVariables false
set_option linter.unusedSimpArgs false
set_option linter.unusedSectionVars false
set_option maxRecDepth 10000
namespace Go.Ab
open Go.Proofs Go.Num
def gcdN(xs ys:List Nat):List Nat×Int:=if rt xs=true/\rt ys=true then(digs B (Nat.gcd (num B xs) (num B ys)),0)else([],1)
theorem kv7{xs ys:List Nat}(y:rt xs=true)(A:rt ys=true)(h0:ys≠[]):(divN xs ys).2.1=digs B (num B xs%num B ys):=by
 simp[divN,y,A,h0]
theorem kbp{n:Nat}(h:n<B^64):rt (digs B n)=true:=rt_iff.2 ⟨(kbj B2 n 64).2 h,kcq B2 n⟩
theorem kjc{xs:List Nat}(y:∀x∈xs,x<B)(h:rt xs=true):num B xs<B^64:=by
 have h1:=num_lt B1 y;have A:B^xs.length<=B^64:=Nat.pow_le_pow_right B1 (rt_iff.1 h).1;omega
theorem kbcl:∀(b a:Nat),a<B^64->b<B^64->Iter kty (.p4 (digs B a) (digs B b)) (digs B (Nat.gcd a b),0):=by
 intro b
 induction b using Nat.strongRecOn with
 | ind b ih =>
  intro a C A;by_cases h0:b=0
  ·subst h0;refine .done ?_;show kh1 _ _=_;unfold kh1;rw[kcc,Nat.gcd_zero_right];rfl
  ·have F:=Nat.mod_lt a (show 0<b by omega);have y:digs B b≠[]:=λh=>h0 ((kf4 B2).1 h);have H:(digs B b).length≠0:=by simpa using y
   refine .next (s':=.p4 (digs B b) (digs B (a%b))) ?_ (by
    have:=ih (a%b) F b A (by omega);rwa[Nat.gcd_comm b,<- Nat.gcd_rec,Nat.gcd_comm b]at this)
   show kh1 _ _=_;unfold kh1;rw[condT (by rw[qbw];omega),kv7 (kbp C) (kbp A) y,ko B2,ko B2]
theorem kbcg:∀(b a:Nat),a<B^64->b<B^64->Iter kt8 (.p7 (digs B a) (digs B b)) (digs B (Nat.gcd a b),0):=by
 intro b
 induction b using Nat.strongRecOn with
 | ind b ih =>
  intro a C A;by_cases h0:b=0
  ·subst h0;refine .done ?_;show ki4 _ _=_;unfold ki4;rw[kcc,Nat.gcd_zero_right];rfl
  ·have F:=Nat.mod_lt a (show 0<b by omega);have y:digs B b≠[]:=λh=>h0 ((kf4 B2).1 h);have H:(digs B b).length≠0:=by simpa using y
   refine .next (s':=.p7 (digs B b) (digs B (a%b))) ?_ (by
    have:=ih (a%b) F b A (by omega);rwa[Nat.gcd_comm b,<- Nat.gcd_rec,Nat.gcd_comm b]at this)
   show ki4 _ _=_;unfold ki4;rw[condT (by rw[qbw];omega),kv7 (kbp C) (kbp A) y,ko B2,ko B2]
theorem kbe2{xs ys:List Nat}(C:∀x∈xs,x<B)(F:∀x∈ys,x<B):Iter kty (.fn xs ys) (gcdN xs ys):=by
 unfold gcdN;cases y:rt xs with
 | false =>
  refine .done ?_;show kf3 _ _=_;unfold kf3;simp[y]
 | true =>
  cases A:rt ys with
  | false =>
   refine .done ?_;show kf3 _ _=_;unfold kf3;simp[y,A]
  | true =>
   obtain⟨H,K⟩:=rt_iff.1 y;obtain⟨I,ty⟩:=rt_iff.1 A;have key:=kbcl (num B ys) (num B xs) (kjc C y) (kjc F A);rw[ke6 B2 C K,ke6 B2 F ty]at key;simp only[and_self,if_true];refine .next ?_ key;show kf3 _ _=_;unfold kf3;rw[y,A,kq (by omega),qbt,kq (by omega),qbt];rfl
theorem kbf3{xs ys:List Nat}(C:∀x∈xs,x<B)(F:∀x∈ys,x<B):Iter kt8 (.fn xs ys) (gcdN xs ys):=by
 unfold gcdN;cases y:rt xs with
 | false =>
  refine .done ?_;show kf9 _ _=_;unfold kf9;simp[y]
 | true =>
  cases A:rt ys with
  | false =>
   refine .done ?_;show kf9 _ _=_;unfold kf9;simp[y,A]
  | true =>
   obtain⟨H,K⟩:=rt_iff.1 y;obtain⟨I,ty⟩:=rt_iff.1 A;have key:=kbcg (num B ys) (num B xs) (kjc C y) (kjc F A);rw[ke6 B2 C K,ke6 B2 F ty]at key;simp only[and_self,if_true];refine .next ?_ key;show kf9 _ _=_;unfold kf9;rw[y,A,kq (by omega),qbt,kq (by omega),qbt];rfl
theorem k1o{h:AH}{s t:Sl}{xs ys:List Nat}(n:Nats h s xs)(m:Nats h t ys):Runs (go (.fn kft [s.v,t.v]) h) (ksz h (gcdN xs ys)):=kbdf (kbe2 n.lt m.lt) n m
theorem kyf{h:AH}{s t:Sl}{xs ys:List Nat}(n:Nats h s xs)(m:Nats h t ys):Runs (go (.fn kf1 [s.v,t.v]) h) (ksr h (gcdN xs ys)):=kbje (kbf3 n.lt m.lt) n m
def floorI(p:Bool)(xs:List Nat)(q:Bool)(ys:List Nat):Bool×List Nat×Bool×List Nat×Int :=
 cond (!(rtI p xs&&rtI q ys)) (false,[],false,[],1)
  (cond (decide (ys=[])) (false,[],false,[],3)
   (cond q (false,[],false,[],1)
    (cond (p&&!decide ((divN xs ys).2.1=[]))
     (cond (decide ((addN (divN xs ys).1 [1]).2=0)) ((fromI true (addN (divN xs ys).1 [1]).1).1,(fromI true (addN (divN xs ys).1 [1]).1).2,(fromI false (subN ys (divN xs ys).2.1).1).1,(fromI false (subN ys (divN xs ys).2.1).1).2,0) (false,[],false,[],(addN (divN xs ys).1 [1]).2))
     ((fromI p (divN xs ys).1).1,(fromI p (divN xs ys).1).2,(fromI false (divN xs ys).2.1).1,(fromI false (divN xs ys).2.1).2,0))))
theorem ko0:digs B 1=[1]:=by decide +kernel
theorem k04:u64P 1=some 1:=kbr (n:=1) (by decide)
theorem kmh{xs:List Nat}:decide ((List.length xs:Int)=0)=decide (xs=[]):=by
 rw[decide_eq_decide];cases xs
 ·simp
 ·simp;omega
theorem kbbr{xs:List Nat}:decide ((List.length xs:Int)>0)=!decide (xs=[]):=by
 cases xs
 ·rfl
 ·simp
theorem kbdn(p:Bool)(xs:List Nat)(q:Bool)(ys:List Nat):Iter kvy (.fn p xs q ys) (floorI p xs q ys):=by
 refine .done ?_;show kni _ _ _ _=_;unfold kni floorI;rw[kmh,kbbr,k04];cases rtI p xs&&rtI q ys
 ·rfl
 ·cases decide (ys=[])
  ·cases q
   ·cases p
    ·rfl
    ·cases decide ((divN xs ys).2.1=[])
     ·simp only[Bool.not_true,Bool.not_false,cond_true,cond_false,Bool.and_self,qbt,ko0];cases decide ((addN (divN xs ys).1 [1]).2=0)
      ·rfl
      ·rfl
     ·rfl
   ·rfl
  ·rfl
theorem kbi3(p:Bool)(xs:List Nat)(q:Bool)(ys:List Nat):Iter kxz (.fn p xs q ys) (floorI p xs q ys):=by
 refine .done ?_;show knh _ _ _ _=_;unfold knh floorI;rw[kmh,kmh,k04];cases rtI p xs
 ·rfl
 ·cases rtI q ys
  ·rfl
  ·cases decide (ys=[])
   ·cases q
    ·cases p
     ·rfl
     ·cases y:decide ((divN xs ys).2.1=[])
      ·simp only[Bool.not_true,Bool.not_false,cond_true,cond_false,Bool.and_self,qbt,ko0];cases decide ((addN (divN xs ys).1 [1]).2=0)
       ·rfl
       ·rfl
      ·rw[qbw]at y;rw[y];rfl
    ·rfl
   ·rfl
theorem k4c{h:AH}{s t:Sl}{xs ys:List Nat}(n:Nats h s xs)(m:Nats h t ys)(p q:Bool):Runs (go (.fn ko6 [.agg [.bool p,s.v],.agg [.bool q,t.v]]) h) (kwq h (floorI p xs q ys)):=kbb8 (kbdn p xs q ys) n m
theorem kbco{h:AH}{s t:Sl}{xs ys:List Nat}(n:Nats h s xs)(m:Nats h t ys)(p q:Bool):Runs (go (.fn kqf [.agg [.bool p,s.v],.agg [.bool q,t.v]]) h) (k3p h (floorI p xs q ys)):=k92 (kbi3 p xs q ys) n m
def intD(z:Int):Bool×List Nat:=(decide (z<0),digs B z.natAbs)
theorem krq(p:Bool):fromI p []=(false,[]):=by simp[fromI]
theorem keh{n:Nat}(h:n<B^64)(neg:Bool):fromI neg (digs B n)=intD (if neg=true then -(n:Int)else(n:Int)):=by
 by_cases h0:n=0
 ·subst h0;rw[kcc,krq];cases neg<;>simp[intD,kcc]
 ·have y:digs B n≠[]:=λe=>h0 ((kf4 B2).1 e);unfold fromI intD;rw[if_pos ⟨kbp h,y⟩];cases neg
  ·have e:((n:Int)).natAbs=n:=by omega
   have A:decide ((n:Int)<0)=false:=by rw[qbv];omega
   simp only[qcl,if_false,e,A]
  ·have e:(-(n:Int)).natAbs=n:=by omega
   have A:decide (-(n:Int)<0)=true:=by rw[qbw];omega
   simp only[if_true,e,A]
theorem kdc{z:Int}(h:z.natAbs<B^64):rtI (intD z).1 (intD z).2=true:=by
 unfold rtI intD;dsimp only;rw[kbp h,Bool.true_and];by_cases A:z<0
 ·have y:digs B z.natAbs≠[]:=λe=>by
   have:=(kf4 B2).1 e;omega
  rw[qbx A];simp[y]
 ·rw[qby A];simp
theorem of_rtI{p:Bool}{xs:List Nat}(C:∀x∈xs,x<B)(h:rtI p xs=true):∃z:Int,p=(intD z).1/\xs=(intD z).2/\z.natAbs<B^64:=by
 have y:=rtI_rt h;have H:=kjc C y;have F:=ke6 B2 C (rt_iff.1 y).2;unfold rtI at h;rw[y,Bool.true_and]at h;cases p
 ·refine⟨(num B xs:Int),?_,?_,by omega⟩
  ·show false=decide ((num B xs:Int)<0);symm;rw[qbv];omega
  ·show xs=digs B ((num B xs:Int)).natAbs;rw[show((num B xs:Int)).natAbs=num B xs from by omega,F]
 ·have A:xs≠[]:=by simpa using h
  have I:=kry B1 (rt_iff.1 y).2 A;refine⟨-(num B xs:Int),?_,?_,by omega⟩
  ·show true=decide (-(num B xs:Int)<0);symm;rw[qbw];omega
  ·show xs=digs B (-(num B xs:Int)).natAbs;rw[show(-(num B xs:Int)).natAbs=num B xs from by omega,F]
theorem kof{n:Nat}(h:n<B^64):told n=(digs B n,0):=by
 unfold told;rw[if_pos h]
theorem kzf{n:Nat}(h:¬n<B^64):told n=([],4):=by
 unfold told;rw[if_neg h]
theorem kjd{u v:Int}(F:u.natAbs<B^64)(H:v.natAbs<B^64):kw (intD u).1 (intD u).2 (intD v).1 (intD v).2=if(u*v).natAbs<B^64 then((intD (u*v)).1,(intD (u*v)).2,0)else(false,[],4):=by
 unfold kw;rw[kdc F,kdc H]
 have e:mulN (intD u).2 (intD v).2=told (u.natAbs*v.natAbs):=by
  unfold mulN intD;dsimp only;rw[if_pos ⟨kbp F,kbp H⟩,ko B2,ko B2]
 rw[e,Int.natAbs_mul];simp only[Bool.and_self,Bool.not_true,cond_false];by_cases h:u.natAbs*v.natAbs<B^64
 ·rw[if_pos h,kof h];dsimp only;rw[keh h]
  have key:(if(!((intD u).1==(intD v).1))=true then -((u.natAbs*v.natAbs:Nat):Int)else((u.natAbs*v.natAbs:Nat):Int))=u*v:=by
   unfold intD;dsimp only;rw[Int.natCast_mul];by_cases h1:u<0
   ·by_cases C:v<0
    ·have y:((u.natAbs:Nat):Int)=-u:=by omega
     have A:((v.natAbs:Nat):Int)=-v:=by omega
     simp[h1,C,y,A,Int.neg_mul,Int.mul_neg]
    ·have y:((u.natAbs:Nat):Int)=-u:=by omega
     have A:((v.natAbs:Nat):Int)=v:=by omega
     simp[h1,C,y,A,Int.neg_mul,Int.mul_neg]
   ·by_cases C:v<0
    ·have y:((u.natAbs:Nat):Int)=u:=by omega
     have A:((v.natAbs:Nat):Int)=-v:=by omega
     simp[h1,C,y,A,Int.neg_mul,Int.mul_neg]
    ·have y:((u.natAbs:Nat):Int)=u:=by omega
     have A:((v.natAbs:Nat):Int)=v:=by omega
     simp[h1,C,y,A,Int.neg_mul,Int.mul_neg]
  rw[key]
 ·rw[if_neg h,kzf h];dsimp only;rw[krq]
theorem k30{u v:Int}(y:u.natAbs<B^64)(A:v.natAbs<B^64):kbf (intD u).1 (intD u).2 (intD v).1 (intD v).2=if(u+v).natAbs<B^64 then((intD (u+v)).1,(intD (u+v)).2,0)else(false,[],4):=by
 unfold kbf;rw[kdc y,kdc A];simp only[Bool.and_self,Bool.not_true,cond_false]
 have H:addN (intD u).2 (intD v).2=told (u.natAbs+v.natAbs):=by
  unfold addN intD;dsimp only;rw[if_pos ⟨kbp y,kbp A⟩,ko B2,ko B2]
 have es:∀{a b:Int},a.natAbs<B^64->b.natAbs<B^64->b.natAbs<=a.natAbs->subN (intD a).2 (intD b).2=(digs B (a.natAbs-b.natAbs),0):=by
  intro a b I C K;unfold subN intD;dsimp only;rw[if_pos ⟨kbp I,kbp C⟩,ko B2,ko B2,if_neg (by omega)]
 have Q:cmpN (intD u).2 (intD v).2=cmp u.natAbs v.natAbs:=by
  unfold cmpN intD;dsimp only;rw[if_pos ⟨kbp y,kbp A⟩,ko B2,ko B2]
 rw[H,Q];have s1:(intD u).1=decide (u<0):=rfl;have s2:(intD v).1=decide (v<0):=rfl;rw[s1,s2];by_cases U:(u<0↔v<0)
 ·have C:(decide (u<0)==decide (v<0))=true:=by simp[U]
  rw[C,cond_true];by_cases h:u.natAbs+v.natAbs<B^64
  ·rw[if_pos (by omega),kof h];dsimp only;rw[keh h]
   have:(if decide (u<0)=true then -((u.natAbs+v.natAbs:Nat):Int)else((u.natAbs+v.natAbs:Nat):Int))=u+v:=by
    by_cases h1:u<0
    ·simp only[h1,decide_true,if_true];omega
    ·simp only[h1,decide_false,qcl,if_false];omega
   rw[this]
  ·rw[if_neg (by omega),kzf h];dsimp only;rw[krq]
 ·have C:(decide (u<0)==decide (v<0))=false:=by
   by_cases h1:u<0<;>by_cases V:v<0<;>simp_all
  rw[C,cond_false,if_pos (by omega)];by_cases F:u.natAbs<v.natAbs
  ·rw[condT (by rw[qbw,cmp_lt];exact F),es A y (by omega)];dsimp only;rw[keh (by omega)]
   have:(if decide (v<0)=true then -((v.natAbs-u.natAbs:Nat):Int)else((v.natAbs-u.natAbs:Nat):Int))=u+v:=by
    by_cases h1:v<0
    ·simp only[h1,decide_true,if_true];omega
    ·simp only[h1,decide_false,qcl,if_false];omega
   rw[this]
  ·rw[condF (by rw[qbv,cmp_lt];exact F),es y A (by omega)];dsimp only;rw[keh (by omega)]
   have:(if decide (u<0)=true then -((u.natAbs-v.natAbs:Nat):Int)else((u.natAbs-v.natAbs:Nat):Int))=u+v:=by
    by_cases h1:u<0
    ·simp only[h1,decide_true,if_true];omega
    ·simp only[h1,decide_false,qcl,if_false];omega
   rw[this]
theorem kvw{v:Int}(y:v.natAbs<B^64):negI (intD v).1 (intD v).2=intD (-v):=by
 unfold negI;rw[if_pos (kdc y)];show fromI (!decide (v<0)) (digs B v.natAbs)=_;rw[keh y];by_cases h1:v<0
 ·have e:((v.natAbs:Nat):Int)=-v:=by omega
  simp[h1,e]
 ·have e:((v.natAbs:Nat):Int)=v:=by omega
  simp[h1,e]
theorem kbc0{u v:Int}(y:u.natAbs<B^64)(A:v.natAbs<B^64):ken (intD u).1 (intD u).2 (intD v).1 (intD v).2=if(u-v).natAbs<B^64 then((intD (u-v)).1,(intD (u-v)).2,0)else(false,[],4):=by
 have e:ken (intD u).1 (intD u).2 (intD v).1 (intD v).2=kbf (intD u).1 (intD u).2 (intD (-v)).1 (intD (-v)).2:=by
  unfold ken;rw[kdc y,kdc A,kvw A];rfl
 rw[e,k30 y (by omega)];rfl
theorem kz7(n:Nat):intD (n:Int)=(false,digs B n):=by
 unfold intD;have:decide ((n:Int)<0)=false:=by rw[qbv];omega
 rw[this];rfl
theorem k2c{u v:Int}(Y:u.natAbs<B^64)(Z:v.natAbs<B^64)(h0:0<v):floorI (intD u).1 (intD u).2 (intD v).1 (intD v).2=((intD (u/v)).1,(intD (u/v)).2,(intD (u%v)).1,(intD (u%v)).2,0):=by
 obtain⟨y,rfl⟩:∃y:Nat,v=(y:Int):=⟨v.toNat,by omega⟩;have hy:y<B^64:=by simpa using Z
 have H:0<y:=by omega
 have I:(intD (y:Int)).2≠[]:=λe=>by
  have:y=0:=by simpa[intD]using (kf4 B2).1 e
  omega
 unfold floorI;rw[kdc Y,kdc Z];have sy:(intD (y:Int)).1=false:=by rw[kz7]
 have dv:divN (intD u).2 (intD (y:Int)).2=(digs B (u.natAbs/y),digs B (u.natAbs%y),0):=by
  unfold divN;rw[if_pos ⟨rtI_rt (kdc Y),rtI_rt (kdc Z)⟩,if_neg I];simp only[intD,ko B2,Int.natAbs_natCast]
 have hQ:u.natAbs/y<B^64:=qbs (Nat.div_le_self _ _) Y;have hR:u.natAbs%y<B^64:=Nat.lt_trans (Nat.mod_lt _ H) hy;have dm:=Nat.div_add_mod u.natAbs y;have hm:=Nat.mod_lt u.natAbs H;rw[dv,sy];simp only[Bool.and_self,Bool.not_true,cond_false,I,decide_false];have s1:(intD u).1=decide (u<0):=rfl;rw[s1];have K:(digs B (u.natAbs%y)=[])↔u.natAbs%y=0:=kf4 B2;by_cases Q:u<0/\u.natAbs%y≠0
 ·have b1:(decide (u<0)&&!decide (digs B (u.natAbs%y)=[]))=true:=by
   rw[qb8,qbw,qch,qbv,K];exact Q
  rw[b1,cond_true];have h1:[1]=digs B 1:=ko0.symm
  have U:u.natAbs/y+1<B^64:=by
   have aa:2<=y:=by
    rcases Nat.lt_or_ge y 2 with h | h
    ·have:y=1:=by omega
     subst this;rw[Nat.mod_one]at Q;exact absurd rfl Q.2
    ·exact h
   have:u.natAbs/y<=u.natAbs/2:=Nat.div_le_div_left aa (by omega);have hb:2<B^64:=by decide +kernel
   omega
  have au:addN (digs B (u.natAbs/y)) [1]=(digs B (u.natAbs/y+1),0):=by
   unfold addN;rw[h1,if_pos ⟨kbp hQ,kbp (by decide +kernel)⟩,ko B2,ko B2,kof U]
  have su:subN (intD (y:Int)).2 (digs B (u.natAbs%y))=(digs B (y-u.natAbs%y),0):=by
   rw[kz7];unfold subN;rw[if_pos ⟨kbp hy,kbp hR⟩,ko B2,ko B2,if_neg (by omega)]
  rw[au,su];dsimp only;rw[keh U,keh (by omega)]
  have F:u/(y:Int)=-((u.natAbs/y+1:Nat):Int):=by
   have A:u=-((y*(u.natAbs/y)+u.natAbs%y:Nat):Int):=by rw[dm];omega
   generalize u.natAbs/y=q at *
   generalize u.natAbs%y=r at *
   rw[A];rw[Int.ediv_eq_iff_of_pos (by omega)];constructor
   ·rw[Int.natCast_add,Int.natCast_add,Int.natCast_mul,Int.neg_mul,Int.add_mul,Int.mul_comm (q:Int)];omega
   ·rw[Int.natCast_add,Int.natCast_add,Int.natCast_mul,Int.neg_mul,Int.add_mul,Int.mul_comm (q:Int)];omega
  have V:u%(y:Int)=((y-u.natAbs%y:Nat):Int):=by
   have:=Int.mul_ediv_add_emod u (y:Int);rw[F]at this
   have X:((y:Int)*((u.natAbs/y:Nat):Int))+((u.natAbs%y:Nat):Int)=((u.natAbs:Nat):Int):=by
    rw[<- Int.natCast_mul,<- Int.natCast_add,dm]
   rw[Int.natCast_add,Int.mul_neg,Int.mul_add]at this;omega
  rw[F,V];rfl
 ·have b1:(decide (u<0)&&!decide (digs B (u.natAbs%y)=[]))=false:=by
   rw[<- Bool.not_eq_true,qb8,qbw,qch,qbv,K];exact Q
  rw[b1,cond_false,keh hQ,keh hR]
  have X:((y:Int)*((u.natAbs/y:Nat):Int))+((u.natAbs%y:Nat):Int)=((u.natAbs:Nat):Int):=by
   rw[<- Int.natCast_mul,<- Int.natCast_add,dm]
  by_cases C:u<0
  ·have hr:u.natAbs%y=0:=by
    rcases Nat.eq_zero_or_pos (u.natAbs%y)with h | h
    ·exact h
    ·exact absurd ⟨C,by omega⟩ Q
   rw[hr]at X|-
   have A:u=(y:Int)*-((u.natAbs/y:Nat):Int):=by
    rw[Int.mul_neg];omega
   have F:u/(y:Int)=-((u.natAbs/y:Nat):Int):=by
    conv=>lhs;rw[A]
    exact Int.mul_ediv_cancel_left _ (by omega)
   have V:u%(y:Int)=0:=by
    conv=>lhs;rw[A]
    exact Int.mul_emod_right _ _
   rw[F,V,if_pos (by simpa using C)];rfl
  ·have A:u=((u.natAbs:Nat):Int):=by omega
   have F:u/(y:Int)=((u.natAbs/y:Nat):Int):=by
    conv=>lhs;rw[A]
    rfl
   have V:u%(y:Int)=((u.natAbs%y:Nat):Int):=by
    conv=>lhs;rw[A]
    rfl
   rw[F,V,if_neg (by simpa using C)];rfl
theorem kx2{u v:Int}(H:u.natAbs<B^64)(h0:0<v):(u/v).natAbs<B^64/\(u/v).natAbs<=u.natAbs:=by
 have h1:=Int.mul_ediv_add_emod u v;have I:=Int.emod_nonneg u (show v≠0 by omega);have K:=Int.emod_lt_of_pos u h0
 have key:(u/v).natAbs<=u.natAbs:=by
  by_cases C:u<0
  ·have y:u/v<0:=Int.ediv_neg_of_neg_of_pos C h0
   have:u<=u/v:=by
    have F:v*(u/v)<=1*(u/v):=Int.mul_le_mul_of_nonpos_right (by omega) (by omega);rcases Int.lt_or_le (u/v) u with A | A
    ·exfalso;have Q:u/v+1<=u:=by omega
     have U:v*(u/v+1)=v*(u/v)+v:=by rw[Int.mul_add,Int.mul_one]
     have V:v*(u/v+1)<=1*(u/v+1):=Int.mul_le_mul_of_nonpos_right (by omega) (by omega);omega
    ·exact A
   omega
  ·have y:0<=u/v:=Int.ediv_nonneg (by omega) (by omega);have F:1*(u/v)<=v*(u/v):=Int.mul_le_mul_of_nonneg_right (by omega) y;omega
 exact⟨by omega,key⟩
theorem kg2:18446744073709551616*18446744073709551616<=B^64:=by
 have:B^64=B*B*B^62:=by
  rw[show 64=2+62 from rfl,Nat.pow_add,Nat.pow_two]
 rw[this];have h:1<=B^62:=Nat.pow_pos B1;have:=Nat.mul_le_mul_left (B*B) h;rw[Nat.mul_one]at this;exact this
theorem kge{n:Int}(h:n.natAbs<18446744073709551616):ofI n=intD n:=by
 have y:n.natAbs<B^64:=by have:=kg2;omega
 unfold ofI;rw[keh y];by_cases h1:n<0
 ·rw[qbx h1];have e:((n.natAbs:Nat):Int)=-n:=by omega
  simp[e]
 ·rw[qby h1];have e:((n.natAbs:Nat):Int)=n:=by omega
  simp[e]
theorem kox(n:Int){h:AH}(c:-9223372036854775808<=n/\n<=9223372036854775807):∃(s':Sl)(h':AH),go (.fn kh9 [.i n]) h=some (.agg [.bool (ofI n).1,s'.v],h')/\Nats h' s' (ofI n).2/\Grow h h'/\Own h s':=k9n c.1 c.2
theorem khg(n:Int){h:AH}(c:-9223372036854775808<=n/\n<=9223372036854775807):∃(s':Sl)(h':AH),go (.fn keo [.i n]) h=some (.agg [.bool (ofI n).1,s'.v],h')/\Nats h' s' (ofI n).2/\Grow h h'/\Own h s':=kbg8 c.1 c.2
end Go.Ab
set_option maxRecDepth 10000
namespace Go.Ab
open Go.Proofs
theorem kso(n a b:Int)(h:AH):go (.fn kdf [.i n,.i a,.i b]) h=some (.bool (decide (a<=n/\n<=b)),h):=by
 rw[kbgp];by_cases h1:a<=n<;>simp[h1]
structure Cfg where
 (trees depth lambda gamma num den loss clip:Int)
@[reducible] def Cfg.v(c:Cfg):AV:=.agg [.i c.trees,.i c.depth,.i c.lambda,.i c.gamma,.i c.num,.i c.den,.i c.loss,.i c.clip]
def Cfg.right(c:Cfg):Bool:=decide (1<=c.trees/\c.trees<=16/\1<=c.depth/\c.depth<=5/\1<=c.lambda/\c.lambda<=1048576/\0<=c.gamma/\c.gamma<=1048576/\1<=c.den/\c.den<=1048576/\1<=c.num/\c.num<=c.den/\(c.loss=0/\c.clip=0\/c.loss=1/\1<=c.clip/\c.clip<=1048576))
theorem kuk(c:Cfg)(h:AH):∃h',go (.fn kj9 [c.v]) h=some (.bool c.right,h')/\Grow h h':=by
 rw[k4h];simp[kso,cond_eq_ite];refine⟨_,?_,qm _ (.cells [.i c.trees,.i c.depth,.i c.lambda,.i c.gamma,.i c.num,.i c.den,.i c.loss,.i c.clip] kbm)⟩;unfold Cfg.right
 repeat' split
 all_goals
  refine kbc4 ?_;simp only[qb8,qbw,qcl,false_iff];omega
theorem ks2(c:Cfg)(h:AH):∃h',go (.fn kj3 [c.v]) h=some (.bool c.right,h')/\Grow h h':=by
 rw[k6l];simp[cond_eq_ite];refine⟨_,?_,qm _ (.cells [.i c.trees,.i c.depth,.i c.lambda,.i c.gamma,.i c.num,.i c.den,.i c.loss,.i c.clip] kbm)⟩;generalize h.push _=h1
 repeat' refine khm (λ_=>?_) (λ_=>?_)
 all_goals
  refine ans_eq ?_;unfold Cfg.right;simp only[qb8,qbw,qcl,true_iff,false_iff];omega
def Cfg.grad(c:Cfg)(s l:Int):Int×Int :=
 if c.right=true/\-1099511627776<=s/\s<=1099511627776/\-1048576<=l/\l<=1048576 then
  (let m:=if c.loss=1 then c.clip else 1048576
   if s-l < -m then -m else if s-l>m then m else s-l,0)
 else(0,1)
theorem Cfg.right_clip{c:Cfg}(h:c.right=true)(h1:c.loss=1):1<=c.clip/\c.clip<=1048576:=by
 unfold Cfg.right at h;simp only[qbw]at h;omega
theorem kbcr(c:Cfg)(s l:Int)(h:AH):∃h',go (.fn kru [c.v,.i s,.i l]) h=some (.tup [.i (c.grad s l).1,.i (c.grad s l).2],h')/\Grow h h':=by
 rw[k4s];simp;obtain⟨h1,A,y⟩:=kuk c (h.push (.cells [.i c.trees,.i c.depth,.i c.lambda,.i c.gamma,.i c.num,.i c.den,.i c.loss,.i c.clip] kbm));rw[A];simp[kso,cond_eq_ite,y.cell_new];refine⟨h1,?_,y.push'⟩;unfold Cfg.grad;cases C:c.right with
 | false=>simp
 | true =>
  have F:=Cfg.right_clip C;by_cases a1:-1099511627776<=s<;>by_cases a2:s<=1099511627776<;>simp[a1,a2];by_cases a3:-1048576<=l<;>by_cases a4:l<=1048576<;>simp[a3,a4];rw[wrap64 (n:=s-l) (by omega) (by omega)];by_cases a5:c.loss=1
  ·have:=F a5;simp only[a5,if_true];rw[wrap64 (n:=-c.clip) (by omega) (by omega),kj5,kij];simp
   repeat' split
   all_goals omega
  ·simp only[a5,if_false];rw[wrap64 (n:=-1048576) (by omega) (by omega),kj5,kij];simp
   repeat' split
   all_goals omega
theorem k9e(c:Cfg)(s l:Int)(h:AH):∃h',go (.fn kuu [c.v,.i s,.i l]) h=some (.tup [.i (c.grad s l).1,.i (c.grad s l).2],h')/\Grow h h':=by
 rw[k6g];simp;obtain⟨h1,C,A⟩:=ks2 c (h.push (.cells [.i c.trees,.i c.depth,.i c.lambda,.i c.gamma,.i c.num,.i c.den,.i c.loss,.i c.clip] kbm));rw[C];simp[cond_eq_ite,A.cell_new];refine⟨h1,?_,A.push'⟩;unfold Cfg.grad;refine khm (λy=>?_) (λy=>?_)
 ·have F:=Cfg.right_clip y;refine khm (λa1=>?_) (λa1=>?_)
  ·rw[if_neg (by omega)]
  refine khm (λa2=>?_) (λa2=>?_)
  ·rw[if_neg (by omega)]
  refine khm (λa3=>?_) (λa3=>?_)
  ·rw[if_neg (by omega)]
  refine khm (λa4=>?_) (λa4=>?_)
  ·rw[if_neg (by omega)]
  have H:c.right=true/\-1099511627776<=s/\s<=1099511627776/\-1048576<=l/\l<=1048576:=⟨y,by omega⟩;rw[if_pos H,wrap64 (n:=s-l) (by omega) (by omega)];refine khm (λa5=>?_) (λa5=>?_)
  ·have:=F a5;simp only[a5,if_true];rw[wrap64 (n:=-c.clip) (by omega) (by omega),kj5,kij];simp
   repeat' split
   all_goals omega
  ·simp only[a5,if_false];rw[wrap64 (n:=-1048576) (by omega) (by omega),kj5,kij];simp
   repeat' split
   all_goals omega
 ·rw[if_neg (λx=>y x.1)]
end Go.Ab
set_option maxRecDepth 10000
namespace Go.Ab
open Go.Proofs Go.Num
def smallN(xs:List Nat):Nat×Bool:=if rt xs=true/\xs.length<=1 then(xs.getD 0 0,true)else(0,false)
theorem kvk{h:AH}{s:Sl}{xs:List Nat}(n:Nats h s xs):go (.fn kt4 [s.v]) h=some (.tup [.int .u64 ((smallN xs).1:Int),.bool (smallN xs).2],h):=by
 rw[kbaf,kgp n];have F:=n.len;simp only[qbt,kbl];cases y:rt xs with
 | false=>simp[smallN,y]
 | true =>
  simp only[Bool.not_true,cond_false];by_cases h1:xs.length<=1
  ·rw[show decide ((s.len:Int)>1)=false from by rw[qbv];omega,cond_false];simp only[smallN,y,h1,and_self,if_true];by_cases h0:xs.length=0
   ·rw[show decide ((s.len:Int)=0)=true from by rw[qbw];omega,cond_true,List.length_eq_zero_iff.1 h0];rfl
   ·rw[show decide ((s.len:Int)=0)=false from by rw[qbv];omega,cond_false];obtain⟨r,A,C⟩:=n.at (i:=0) (by omega);rw[show idx s.ref s.len 0 1=some r from A];simp only[qbt,C,kb];rw[kbx (by omega)]
  ·rw[show decide ((s.len:Int)>1)=true from by rw[qbw];omega];simp[smallN,h1]
theorem kwg{h:AH}{s:Sl}{xs:List Nat}(n:Nats h s xs):go (.fn kvi [s.v]) h=some (.tup [.int .u64 ((smallN xs).1:Int),.bool (smallN xs).2],h):=by
 rw[kbgs,kcl n];have F:=n.len;simp only[qbt,kbl];cases y:rt xs with
 | false=>simp[smallN,y]
 | true =>
  simp only[Bool.not_true,cond_false];by_cases h1:xs.length<=1
  ·rw[show decide ((s.len:Int)>1)=false from by rw[qbv];omega,cond_false];simp only[smallN,y,h1,and_self,if_true];by_cases h0:xs.length=0
   ·rw[show decide ((s.len:Int)=0)=true from by rw[qbw];omega,cond_true,List.length_eq_zero_iff.1 h0];rfl
   ·rw[show decide ((s.len:Int)=0)=false from by rw[qbv];omega,cond_false];obtain⟨r,A,C⟩:=n.at (i:=0) (by omega);rw[show idx s.ref s.len 0 1=some r from A];simp only[qbt,C,kb];rw[kbx (by omega)]
  ·rw[show decide ((s.len:Int)>1)=true from by rw[qbw];omega];simp[smallN,h1]
def smallI(neg:Bool)(xs:List Nat):Int×Bool :=
 if rtI neg xs=true/\(smallN xs).2=true/\(smallN xs).1<=(if neg=true then 9223372036854775808 else 9223372036854775807)then((if neg=true then -((smallN xs).1:Int)else((smallN xs).1:Int)),true)else(0,false)
theorem k77{h:AH}{s:Sl}{xs:List Nat}(n:Nats h s xs)(neg:Bool):∃h',go (.fn kvf [.agg [.bool neg,s.v]]) h=some (.tup [.i (smallI neg xs).1,.bool (smallI neg xs).2],h')/\Grow h h':=by
 rw[kbed];simp only[kbv];have C:=qo h [.bool neg,s.v] ki;have H:=qm h (.cells [.bool neg,s.v] ki);have F:=n.grow H;generalize h.push (.cells [.bool neg,s.v] ki)=h0 at *
 obtain⟨h1,I,K⟩:=kmd F neg;have b1:=K.has C;refine⟨h1,?_,H.trans K⟩
 have U:(smallN xs).1<18446744073709551616:=by
  unfold smallN;split
  ·rename_i V;rcases Nat.eq_zero_or_pos xs.length with A | A
   ·rw[List.length_eq_zero_iff.1 A];decide
   ·rw[kbx A];exact n.lt _ (qb2 _)
  ·decide
 have Q:IntKind.wrap .u64 (9223372036854775807+1)=9223372036854775808:=by rw[wrapU];rfl
 cases neg with
 | true =>
  simp only[qj,Nat.zero_add,C.cell,b1.cell,List.getElem?_cons_zero,List.getElem?_cons_succ,qbt,kbl,asSl_v,kvk F,kc0,kb,cond_true,I,Q];unfold smallI;cases rtI true xs<;>cases(smallN xs).2<;>simp;by_cases y:(smallN xs).1<=9223372036854775808
  ·rw[show decide (9223372036854775808<((smallN xs).1:Int))=false from by rw[qbv];omega];simp only[cond_false,y,if_true];congr 3;rw[wrapU];simp[IntKind.wrap,IntKind.bits,IntKind.signed];omega
  ·rw[show decide (9223372036854775808<((smallN xs).1:Int))=true from by rw[qbw];omega];simp[y]
 | false =>
  simp only[qj,Nat.zero_add,C.cell,b1.cell,List.getElem?_cons_zero,List.getElem?_cons_succ,qbt,kbl,asSl_v,kvk F,kc0,kb,cond_false,I];unfold smallI;cases rtI false xs<;>cases(smallN xs).2<;>simp;by_cases y:(smallN xs).1<=9223372036854775807
  ·rw[show decide (9223372036854775807<((smallN xs).1:Int))=false from by rw[qbv];omega];simp only[cond_false,y,if_true];rw[wrap64 (by omega) (by omega)]
  ·rw[show decide (9223372036854775807<((smallN xs).1:Int))=true from by rw[qbw];omega];simp[y]
theorem kbjs{h:AH}{s:Sl}{xs:List Nat}(n:Nats h s xs)(neg:Bool):∃h',go (.fn ktk [.agg [.bool neg,s.v]]) h=some (.tup [.i (smallI neg xs).1,.bool (smallI neg xs).2],h')/\Grow h h':=by
 rw[k9t];simp only[kbv];have I:=qo h [.bool neg,s.v] ki;have U:=qm h (.cells [.bool neg,s.v] ki);have V:=n.grow U;generalize h.push (.cells [.bool neg,s.v] ki)=h0 at *
 obtain⟨h1,X,K⟩:=kd8 V neg;have b1:=K.has I;have n1:=V.grow K;refine⟨h1,?_,U.trans K⟩
 have hb:(smallN xs).1<18446744073709551616:=by
  unfold smallN;split
  ·rename_i Y;rcases Nat.eq_zero_or_pos xs.length with A | A
   ·rw[List.length_eq_zero_iff.1 A];decide
   ·rw[kbx A];exact n.lt _ (qb2 _)
  ·decide
 have H:neg=true->rtI neg xs=true->(smallN xs).2=true->1<=(smallN xs).1:=by
  rintro rfl h1 C
  unfold smallN at C|-;split at C
  ·rename_i Y;rw[if_pos Y];simp only[rtI,Bool.not_true,Bool.false_or,qb8,qbw]at h1;obtain⟨Q,F⟩:=h1;have Z:=(rt_iff.1 Q).2 F;rw[List.getLast_eq_getElem]at Z
   have hl:xs.length=1:=by
    have:xs.length≠0:=λe=>F (List.length_eq_zero_iff.1 e);omega
   rw[kbx (by omega)];have:xs[xs.length-1]'(by omega)=xs[0]'(by omega):=by congr 1;omega
   omega
  ·cases C
 cases neg with
 | true =>
  simp only[qj,Nat.zero_add,I.cell,b1.cell,List.getElem?_cons_zero,List.getElem?_cons_succ,qbt,kbl,asSl_v,kwg n1,kc0,kb,cond_true,X,Bool.not_true,cond_false];unfold smallI;have H:=H rfl;cases Q:rtI true xs<;>cases C:(smallN xs).2<;>simp;have H:=H Q C;by_cases y:(smallN xs).1<=9223372036854775808
  ·rw[show decide (9223372036854775808<((smallN xs).1:Int))=false from by rw[qbv];omega];simp only[cond_false,y,if_true];congr 3;rw[wrapU,Int.emod_eq_of_lt (by omega) (by omega),wrap64 (n:=((smallN xs).1:Int)-1) (by omega) (by omega),wrap64 (n:=-(((smallN xs).1:Int)-1)) (by omega) (by omega),wrap64 (by omega) (by omega)];rw[show -(((smallN xs).1:Int)-1)-1=-((smallN xs).1:Int)from by omega]
  ·rw[show decide (9223372036854775808<((smallN xs).1:Int))=true from by rw[qbw];omega];simp[y]
 | false =>
  simp only[qj,Nat.zero_add,I.cell,b1.cell,List.getElem?_cons_zero,List.getElem?_cons_succ,qbt,kbl,asSl_v,kwg n1,kc0,kb,cond_false,X,Bool.not_false,cond_true];unfold smallI;cases rtI false xs<;>cases(smallN xs).2<;>simp;by_cases y:(smallN xs).1<=9223372036854775807
  ·rw[show decide (9223372036854775807<((smallN xs).1:Int))=false from by rw[qbv];omega];simp only[cond_false,y,if_true];rw[wrap64 (by omega) (by omega)]
  ·rw[show decide (9223372036854775807<((smallN xs).1:Int))=true from by rw[qbw];omega];simp[y]
theorem kbdt{h:AH}:∃(s':Sl)(h':AH),go (.fn kfz [.int .u64 1]) h=some (s'.v,h')/\Nats h' s' [1]/\Grow h h'/\Own h s':=by
 have:=ktt (h:=h) (x:=1) (by decide);rw[ko0]at this;exact this
def kbb(a1:Bool)(x2 x3:List Nat):Bool :=
 cond (!(rtI a1 x2)) (false) (cond (!(rt x3)) (false) (cond (decide ((List.length x3:Int)=0)) (false) (cond (decide ((List.length x3:Int)>16)) (false) (cond (decide ((List.length x2:Int)>16)) (false) (decide ((cmpN ((gcdN x2 x3).1) [1])=0))))))
theorem kbkm{h:AH}{a2:Sl}{x2:List Nat}{a3:Sl}{x3:List Nat}(V:Nats h a2 x2)(U:Nats h a3 x3)(a1:Bool):Runs (go (.fn ktw [.agg [.bool a1,a2.v,a3.v]]) h) λv h'=>v=.bool (kbb a1 x2 x3)/\Grow h h':=by
 rw[k5q];refine q0 λH4 b4 A=>?_;refine qz (qbf b4 0 rfl rfl) (qz (qbf b4 1 rfl qcm) ?_);obtain⟨H5,e5,y⟩:=kmd (V.grow A) a1;refine qz e5 (qz (seen rfl) ?_);refine qbd (λF=>?_) (λF=>?_)
 ·have z:kbb a1 x2 x3=false:=by unfold kbb;exact(condT F).trans rfl
  rw[z];exact qy ⟨rfl,(A.trans y)⟩
 ·refine qz (qbf (y.has b4) 2 rfl qcm) (qz (kgp (U.grow (A.trans y))) (qz (seen rfl) ?_));refine qbd (λI=>?_) (λI=>?_)
  ·have z:kbb a1 x2 x3=false:=by unfold kbb;exact(condF F).trans ((condT I).trans rfl)
   rw[z];exact qy ⟨rfl,(A.trans y)⟩
  ·refine qz (qbf (y.has b4) 2 rfl qcm) ?_;rw[(U.grow (A.trans y)).len];refine qbd (λK=>?_) (λK=>?_)
   ·have z:kbb a1 x2 x3=false:=by unfold kbb;exact(condF F).trans ((condF I).trans ((condT K).trans rfl))
    rw[z];exact qy ⟨rfl,(A.trans y)⟩
   ·refine qz (qbf (y.has b4) 2 rfl qcm) ?_;rw[(U.grow (A.trans y)).len];refine qbd (λC=>?_) (λC=>?_)
    ·have z:kbb a1 x2 x3=false:=by unfold kbb;exact(condF F).trans ((condF I).trans ((condF K).trans ((condT C).trans rfl)))
     rw[z];exact qy ⟨rfl,(A.trans y)⟩
    ·refine qz (qbf (y.has b4) 1 rfl qcm) ?_;rw[(V.grow (A.trans y)).len];refine qbd (λH=>?_) (λH=>?_)
     ·have z:kbb a1 x2 x3=false:=by unfold kbb;exact(condF F).trans ((condF I).trans ((condF K).trans ((condF C).trans ((condT H).trans rfl))))
      rw[z];exact qy ⟨rfl,(A.trans y)⟩
     ·refine qz (qbf (y.has b4) 1 rfl qcm) (qz (qbf (y.has b4) 2 rfl qcm) ?_);obtain⟨_,af,X,ag,rfl,Y,Z,ah⟩:=k1o (V.grow (A.trans y)) (U.grow (A.trans y));refine qz X (qz rfl (qz (seen qcm) (qz (seen qcn) ?_)));refine q0 λai aa Q=>?_;obtain⟨aj,ac,ad⟩:=kqg (Y.grow Q) (Nats.of_has (xs:=[1]) aa (by decide) (by decide));refine qz ac (qz (seen qcn) ?_);have z:kbb a1 x2 x3=decide ((cmpN ((gcdN x2 x3).1) [1])=0):=by unfold kbb;exact(condF F).trans ((condF I).trans ((condF K).trans ((condF C).trans ((condF H).trans rfl))))
      rw[z];have ae:=((((A.trans y).trans Z).trans Q).trans ad);exact qy ⟨rfl,ae⟩
def kdd(a1:Bool)(x2 x3:List Nat):Bool :=
 cond (!(rtI a1 x2)) (false) (cond (!(rt x3)) (false) (cond (decide ((List.length x3:Int)=0)) (false) (cond (decide ((List.length x3:Int)>16)) (false) (cond (decide ((List.length x2:Int)>16)) (false) (decide ((cmpN ((gcdN x2 x3).1) [1])=0))))))
theorem kbjr{h:AH}{a2:Sl}{x2:List Nat}{a3:Sl}{x3:List Nat}(V:Nats h a2 x2)(U:Nats h a3 x3)(a1:Bool):Runs (go (.fn kf2 [.agg [.bool a1,a2.v,a3.v]]) h) λv h'=>v=.bool (kdd a1 x2 x3)/\Grow h h':=by
 rw[kbhh];refine q0 λH4 b4 A=>?_;refine qz (qbf b4 0 rfl rfl) (qz (qbf b4 1 rfl qcm) ?_);obtain⟨H5,e5,y⟩:=kd8 (V.grow A) a1;refine qz e5 (qz (seen rfl) (qz (qbf (y.has b4) 2 rfl qcm) (qz (kcl (U.grow (A.trans y))) (qz (seen rfl) ?_))));refine qbd (λF=>?_) (λF=>?_)
 ·have z:kdd a1 x2 x3=false:=by unfold kdd;exact(condT F).trans rfl
  rw[z];exact qy ⟨rfl,(A.trans y)⟩
 ·refine qbd (λI=>?_) (λI=>?_)
  ·have z:kdd a1 x2 x3=false:=by unfold kdd;exact(condF F).trans ((condT I).trans rfl)
   rw[z];exact qy ⟨rfl,(A.trans y)⟩
  ·refine qz (qbf (y.has b4) 2 rfl qcm) ?_;rw[(U.grow (A.trans y)).len];refine qbd (λK=>?_) (λK=>?_)
   ·have z:kdd a1 x2 x3=false:=by unfold kdd;exact(condF F).trans ((condF I).trans ((condT K).trans rfl))
    rw[z];exact qy ⟨rfl,(A.trans y)⟩
   ·refine qz (qbf (y.has b4) 2 rfl qcm) ?_;rw[(U.grow (A.trans y)).len];refine qbd (λC=>?_) (λC=>?_)
    ·have z:kdd a1 x2 x3=false:=by unfold kdd;exact(condF F).trans ((condF I).trans ((condF K).trans ((condT C).trans rfl)))
     rw[z];exact qy ⟨rfl,(A.trans y)⟩
    ·refine qz (qbf (y.has b4) 1 rfl qcm) ?_;rw[(V.grow (A.trans y)).len];refine qbd (λH=>?_) (λH=>?_)
     ·have z:kdd a1 x2 x3=false:=by unfold kdd;exact(condF F).trans ((condF I).trans ((condF K).trans ((condF C).trans ((condT H).trans rfl))))
      rw[z];exact qy ⟨rfl,(A.trans y)⟩
     ·refine qz (qbf (y.has b4) 1 rfl qcm) (qz (qbf (y.has b4) 2 rfl qcm) ?_);obtain⟨_,ag,X,ah,rfl,Y,Z,ai⟩:=kyf (V.grow (A.trans y)) (U.grow (A.trans y));refine qz X (qz rfl (qz (seen qcm) (qz (seen qcn) ?_)));obtain⟨aj,ak,aa,ac,Q,al⟩:=kbdt;refine qz aa (qz (seen qcm) ?_);obtain⟨am,ad,ae⟩:=kqb (Y.grow Q) ac;refine qz ad (qz (seen qcn) ?_);have z:kdd a1 x2 x3=decide ((cmpN ((gcdN x2 x3).1) [1])=0):=by unfold kdd;exact(condF F).trans ((condF I).trans ((condF K).trans ((condF C).trans ((condF H).trans rfl))))
      rw[z];have af:=((((A.trans y).trans Z).trans Q).trans ae);exact qy ⟨rfl,af⟩
def kbd(a1:Bool)(x2 x3:List Nat):Bool×List Nat×List Nat×Int :=
 cond (!(rtI a1 x2)) ((false,[],[],1)) (cond (!(rt x3)) ((false,[],[],1)) (cond (decide ((List.length x3:Int)=0)) ((false,[],[],3)) (cond (decide ((imax (List.length ((divN x2 ((gcdN x2 x3).1)).1):Int) (List.length ((divN x3 ((gcdN x2 x3).1)).1):Int))>16)) ((false,[],[],4)) (((((fromI a1 ((divN x2 ((gcdN x2 x3).1)).1)).1)),(fromI a1 ((divN x2 ((gcdN x2 x3).1)).1)).2,(divN x3 ((gcdN x2 x3).1)).1,0)))))
theorem kuh{h:AH}{a2:Sl}{x2:List Nat}{a3:Sl}{x3:List Nat}(n2:Nats h a2 x2)(n3:Nats h a3 x3)(a1:Bool):Runs (go (.fn kk8 [.agg [.bool a1,a2.v],a3.v]) h) λv h'=>∃s1:Sl,∃s2:Sl,v=.tup [.agg [.bool (kbd a1 x2 x3).1,s1.v,s2.v],.i (kbd a1 x2 x3).2.2.2]/\Nats h' s1 ((kbd a1 x2 x3).2.1)/\Nats h' s2 ((kbd a1 x2 x3).2.2.1)/\Grow h h'/\Own h s1/\Own h s2:=by
 rw[kblo];rw[n3.len];refine q0 λH4 b4 Y=>?_;refine q0 λH5 X g5=>?_;refine qz (qbf (g5.has b4) 0 rfl rfl) (qz (qbf (g5.has b4) 1 rfl qcm) ?_);obtain⟨H6,e6,U⟩:=kmd (n2.grow (Y.trans g5)) a1;refine qz e6 (qz (seen rfl) ?_);refine qbd (λk7=>?_) (λk7=>?_)
 ·refine qba (U.has X) rfl λH8 b8 u8=>?_;refine qz (qbf b8 0 rfl rfl) (qz (qbf b8 1 rfl qcm) (qz (qbf b8 2 rfl qcm) ?_));have z:kbd a1 x2 x3=(false,[],[],1):=by unfold kbd;exact(condT k7).trans rfl
  rw[z];have G9:=(((Y.trans g5).trans U).updr (qbq (Y).size (qbp _)) u8);exact qy ⟨(⟨none,0,.is 0⟩:Sl),(⟨none,0,.is 0⟩:Sl),rfl,(qw _),(qw _),G9,(qu _),(qu _)⟩
 ·have G8:=((Y.trans g5).trans U);have F:=n3.grow G8;refine qz (kgp F) (qz (seen rfl) ?_);refine qbd (λZ=>?_) (λZ=>?_)
  ·refine qba (U.has X) rfl λc1 am be=>?_;have b0:=F.upda (qbi n3 (qbq (Y).size (qbp _))) be;refine qz (qbf am 0 rfl rfl) (qz (qbf am 1 rfl qcm) (qz (qbf am 2 rfl qcm) ?_));have z:kbd a1 x2 x3=(false,[],[],1):=by unfold kbd;exact(condF k7).trans ((condT Z).trans rfl)
   rw[z];have b1:=(G8.updr (qbq (Y).size (qbp _)) be);exact qy ⟨(⟨none,0,.is 0⟩:Sl),(⟨none,0,.is 0⟩:Sl),rfl,(qw _),(qw _),b1,(qu _),(qu _)⟩
  ·refine qbd (λaa=>?_) (λaa=>?_)
   ·refine qba (U.has X) rfl λc2 an bf=>?_;have b2:=F.upda (qbi n3 (qbq (Y).size (qbp _))) bf;refine qz (qbf an 0 rfl rfl) (qz (qbf an 1 rfl qcm) (qz (qbf an 2 rfl qcm) ?_));have z:kbd a1 x2 x3=(false,[],[],3):=by unfold kbd;exact(condF k7).trans ((condF Z).trans ((condT aa).trans rfl))
    rw[z];have b3:=(G8.updr (qbq (Y).size (qbp _)) bf);exact qy ⟨(⟨none,0,.is 0⟩:Sl),(⟨none,0,.is 0⟩:Sl),rfl,(qw _),(qw _),b3,(qu _),(qu _)⟩
   ·refine qz (qbf ((g5.trans U).has b4) 1 rfl qcm) ?_;have I:=n2.grow G8;obtain⟨_,c3,b6,c4,rfl,ac,y,bg⟩:=k1o I F;refine qz b6 (qz rfl (qz (seen qcm) (qz (seen qcn) ?_)));have b7:=((g5.trans U).trans y);have K:=b7.has b4;refine qz (qbf K 1 rfl qcm) ?_;obtain⟨c5,cz,c6,b9,ad,ai,C,bh,aj⟩:=kp0 (I.grow y) ac;refine qz b9 (qz rfl (qz (seen qcm) ?_));rw[ad.len];refine qz (seen qcm) (qz (seen qcn) ?_);obtain⟨ca,c0,c7,cb,ap,ak,A,aq,al⟩:=kp0 (F.grow (y.trans C)) (ac.grow C);refine qz cb (qz rfl (qz (seen qcm) ?_));rw[ap.len];refine qz (seen qcm) (qz (seen qcn) ?_);refine qbd (λar=>?_) (λar=>?_)
    ·have cc:=(((U.trans y).trans C).trans A);have au:=cc.has X;refine qba au rfl λcd aw Q=>?_;have bi:=((y.trans C).trans A);have ax:=I.grow bi;have ce:=ax.upda (qbi n2 (qbq (Y).size (qbp _))) Q;have ay:=F.grow bi;have cf:=ay.upda (qbi n3 (qbq (Y).size (qbp _))) Q;have bu:=(ac.grow (C.trans A)).upda (qbj bg (U.has X).lt) Q;have bv:=(ad.grow A).upda (qbj bh ((U.trans y).has X).lt) Q;have bj:=(ai.grow A).upda (qbj aj ((U.trans y).has X).lt) Q;have bk:=((U.trans y).trans C);have bw:=ap.upda (qbj aq (bk.has X).lt) Q;have bm:=ak.upda (qbj al (bk.has X).lt) Q;have cg:=qx ((C.trans A).has K) (Nat.ne_of_lt (qbr (b4).lt (qbp _))) Q;refine qz (qbf aw 0 rfl rfl) (qz (qbf aw 1 rfl qcm) (qz (qbf aw 2 rfl qcm) ?_));have z:kbd a1 x2 x3=(false,[],[],4):=by unfold kbd;exact(condF k7).trans ((condF Z).trans ((condF aa).trans ((condT ar).trans rfl)))
     rw[z];have ae:=((((G8.trans y).trans C).trans A).updr (qbq (Y).size (qbp _)) Q);exact qy ⟨(⟨none,0,.is 0⟩:Sl),(⟨none,0,.is 0⟩:Sl),rfl,(qw _),(qw _),ae,(qu _),(qu _)⟩
    ·refine qz (qbf ((C.trans A).has K) 0 rfl rfl) ?_;obtain⟨ci,cd,cj,cl,V,bn⟩:=kdj (ad.grow A) a1;refine qz cj (qz rfl ?_);refine qbb rfl ?_;refine qz (seenAt rfl rfl) (qz (seenAt rfl qcm) ?_);have cm:=((((U.trans y).trans C).trans A).trans V);have az:=cm.has X;refine qba az rfl λc8 a0 H=>?_;have bp:=(((y.trans C).trans A).trans V);have ba:=I.grow bp;have cp:=ba.upda (qbi n2 (qbq (Y).size (qbp _))) H;have bb:=F.grow bp;have cu:=bb.upda (qbi n3 (qbq (Y).size (qbp _))) H;have ae:=((C.trans A).trans V);have af:=ac.grow ae;have bx:=af.upda (qbj bg (U.has X).lt) H;have bz:=(ad.grow (A.trans V)).upda (qbj bh ((U.trans y).has X).lt) H;have bq:=(ai.grow (A.trans V)).upda (qbj aj ((U.trans y).has X).lt) H;have bc:=((U.trans y).trans C);have ag:=(ap.grow V).upda (qbj aq (bc.has X).lt) H;have br:=(ak.grow V).upda (qbj al (bc.has X).lt) H;have cv:=(bc.trans A);have ah:=cl.upda (qbj bn (cv.has X).lt) H;have bd:=ae.has K;have cw:=qx bd (Nat.ne_of_lt (qbr (b4).lt (qbp _))) H;refine qz (qbf a0 0 rfl rfl) (qz (qbf a0 1 rfl qcm) (qz (qbf a0 2 rfl qcm) ?_));have z:kbd a1 x2 x3=((((fromI a1 ((divN x2 ((gcdN x2 x3).1)).1)).1)),(fromI a1 ((divN x2 ((gcdN x2 x3).1)).1)).2,(divN x3 ((gcdN x2 x3).1)).1,0):=by unfold kbd;exact(condF k7).trans ((condF Z).trans ((condF aa).trans ((condF ar).trans rfl)))
     rw[z];have bt:=(((G8.trans y).trans C).trans A);have cx:=((G8.trans y).trans C);have cy:=((bt.trans V).updr (qbq (Y).size (qbp _)) H);exact qy ⟨ci,ca,rfl,ah,ag,cy,(bn.of_le bt),(aq.of_le cx)⟩
def kcd(a1:Bool)(x2 x3:List Nat):Bool×List Nat×List Nat×Int :=
 cond (!(rtI a1 x2)) ((false,[],[],1)) (cond (!(rt x3)) ((false,[],[],1)) (cond (decide ((List.length x3:Int)=0)) ((false,[],[],3)) (cond (decide ((List.length ((divN x2 ((gcdN x2 x3).1)).1):Int)>16)) ((false,[],[],4)) (cond (decide ((List.length ((divN x3 ((gcdN x2 x3).1)).1):Int)>16)) ((false,[],[],4)) (((((fromI a1 ((divN x2 ((gcdN x2 x3).1)).1)).1)),(fromI a1 ((divN x2 ((gcdN x2 x3).1)).1)).2,(divN x3 ((gcdN x2 x3).1)).1,0))))))
theorem kbib{h:AH}{a2:Sl}{x2:List Nat}{a3:Sl}{x3:List Nat}(n2:Nats h a2 x2)(n3:Nats h a3 x3)(a1:Bool):Runs (go (.fn kkq [.agg [.bool a1,a2.v],a3.v]) h) λv h'=>∃s1:Sl,∃s2:Sl,v=.tup [.agg [.bool (kcd a1 x2 x3).1,s1.v,s2.v],.i (kcd a1 x2 x3).2.2.2]/\Nats h' s1 ((kcd a1 x2 x3).2.1)/\Nats h' s2 ((kcd a1 x2 x3).2.2.1)/\Grow h h'/\Own h s1/\Own h s2:=by
 rw[kbgy];rw[n3.len];refine q0 λH4 b4 Y=>?_;refine q0 λH5 K g5=>?_;refine qz (qbf (g5.has b4) 0 rfl rfl) (qz (qbf (g5.has b4) 1 rfl qcm) ?_);obtain⟨H6,e6,Q⟩:=kd8 (n2.grow (Y.trans g5)) a1;refine qz e6 (qz (seen rfl) ?_);have G7:=((Y.trans g5).trans Q);have F:=n3.grow G7;refine qz (kcl F) (qz (seen rfl) ?_);refine qbd (λaa=>?_) (λaa=>?_)
 ·refine qba (Q.has K) rfl λdl ax bt=>?_;have cj:=F.upda (qbi n3 (qbq (Y).size (qbp _))) bt;refine qz (qbf ax 0 rfl rfl) (qz (qbf ax 1 rfl qcm) (qz (qbf ax 2 rfl qcm) ?_));have z:kcd a1 x2 x3=(false,[],[],1):=by unfold kcd;exact(condT aa).trans rfl
  rw[z];have cl:=(G7.updr (qbq (Y).size (qbp _)) bt);exact qy ⟨(⟨none,0,.is 0⟩:Sl),(⟨none,0,.is 0⟩:Sl),rfl,(qw _),(qw _),cl,(qu _),(qu _)⟩
 ·refine qbd (λac=>?_) (λac=>?_)
  ·refine qba (Q.has K) rfl λdm ay bu=>?_;have cm:=F.upda (qbi n3 (qbq (Y).size (qbp _))) bu;refine qz (qbf ay 0 rfl rfl) (qz (qbf ay 1 rfl qcm) (qz (qbf ay 2 rfl qcm) ?_));have z:kcd a1 x2 x3=(false,[],[],1):=by unfold kcd;exact(condF aa).trans ((condT ac).trans rfl)
   rw[z];have cp:=(G7.updr (qbq (Y).size (qbp _)) bu);exact qy ⟨(⟨none,0,.is 0⟩:Sl),(⟨none,0,.is 0⟩:Sl),rfl,(qw _),(qw _),cp,(qu _),(qu _)⟩
  ·refine qbd (λad=>?_) (λad=>?_)
   ·refine qba (Q.has K) rfl λdn az bv=>?_;have cu:=F.upda (qbi n3 (qbq (Y).size (qbp _))) bv;refine qz (qbf az 0 rfl rfl) (qz (qbf az 1 rfl qcm) (qz (qbf az 2 rfl qcm) ?_));have z:kcd a1 x2 x3=(false,[],[],3):=by unfold kcd;exact(condF aa).trans ((condF ac).trans ((condT ad).trans rfl))
    rw[z];have cv:=(G7.updr (qbq (Y).size (qbp _)) bv);exact qy ⟨(⟨none,0,.is 0⟩:Sl),(⟨none,0,.is 0⟩:Sl),rfl,(qw _),(qw _),cv,(qu _),(qu _)⟩
   ·refine qz (qbf ((g5.trans Q).has b4) 1 rfl qcm) ?_;have H:=n2.grow G7;obtain⟨_,dp,cw,dq,rfl,ae,A,a0⟩:=kyf H F;refine qz cw (qz rfl (qz (seen qcm) (qz (seen qcn) ?_)));have cx:=((g5.trans Q).trans A);have I:=cx.has b4;refine qz (qbf I 1 rfl qcm) ?_;obtain⟨dr,dj,dt,cy,af,ag,C,ba,ah⟩:=koi (H.grow A) ae;refine qz cy (qz rfl (qz (seen qcm) ?_));rw[af.len];refine qz (seen qcm) (qz (seen qcn) ?_);obtain⟨cz,dk,du,c0,ak,ai,y,al,aj⟩:=koi (F.grow (A.trans C)) (ae.grow C);refine qz c0 (qz rfl (qz (seen qcm) ?_));rw[ak.len];refine qz (seen qcm) (qz (seen qcn) ?_);refine qbd (λam=>?_) (λam=>?_)
    ·have c1:=(((Q.trans A).trans C).trans y);have bb:=c1.has K;refine qba bb rfl λdv bc V=>?_;have an:=((A.trans C).trans y);have bd:=H.grow an;have c2:=bd.upda (qbi n2 (qbq (Y).size (qbp _))) V;have be:=F.grow an;have c3:=be.upda (qbi n3 (qbq (Y).size (qbp _))) V;have ca:=(ae.grow (C.trans y)).upda (qbj a0 (Q.has K).lt) V;have cb:=(af.grow y).upda (qbj ba ((Q.trans A).has K).lt) V;have bw:=(ag.grow y).upda (qbj ah ((Q.trans A).has K).lt) V;have bx:=((Q.trans A).trans C);have cc:=ak.upda (qbj al (bx.has K).lt) V;have bz:=ai.upda (qbj aj (bx.has K).lt) V;have c4:=qx ((C.trans y).has I) (Nat.ne_of_lt (qbr (b4).lt (qbp _))) V;refine qz (qbf bc 0 rfl rfl) (qz (qbf bc 1 rfl qcm) (qz (qbf bc 2 rfl qcm) ?_));have z:kcd a1 x2 x3=(false,[],[],4):=by unfold kcd;exact(condF aa).trans ((condF ac).trans ((condF ad).trans ((condT am).trans rfl)))
     rw[z];have ap:=((((G7.trans A).trans C).trans y).updr (qbq (Y).size (qbp _)) V);exact qy ⟨(⟨none,0,.is 0⟩:Sl),(⟨none,0,.is 0⟩:Sl),rfl,(qw _),(qw _),ap,(qu _),(qu _)⟩
    ·refine qbd (λbf=>?_) (λbf=>?_)
     ·have c5:=(((Q.trans A).trans C).trans y);have bg:=c5.has K;refine qba bg rfl λc6 bh X=>?_;have b0:=((A.trans C).trans y);have bi:=H.grow b0;have c7:=bi.upda (qbi n2 (qbq (Y).size (qbp _))) X;have bj:=F.grow b0;have c8:=bj.upda (qbi n3 (qbq (Y).size (qbp _))) X;have cd:=(ae.grow (C.trans y)).upda (qbj a0 (Q.has K).lt) X;have ce:=(af.grow y).upda (qbj ba ((Q.trans A).has K).lt) X;have b1:=(ag.grow y).upda (qbj ah ((Q.trans A).has K).lt) X;have ap:=((Q.trans A).trans C);have cf:=ak.upda (qbj al (ap.has K).lt) X;have b2:=ai.upda (qbj aj (ap.has K).lt) X;have c9:=qx ((C.trans y).has I) (Nat.ne_of_lt (qbr (b4).lt (qbp _))) X;refine qz (qbf bh 0 rfl rfl) (qz (qbf bh 1 rfl qcm) (qz (qbf bh 2 rfl qcm) ?_));have z:kcd a1 x2 x3=(false,[],[],4):=by unfold kcd;exact(condF aa).trans ((condF ac).trans ((condF ad).trans ((condF am).trans ((condT bf).trans rfl))))
      rw[z];have aq:=((((G7.trans A).trans C).trans y).updr (qbq (Y).size (qbp _)) X);exact qy ⟨(⟨none,0,.is 0⟩:Sl),(⟨none,0,.is 0⟩:Sl),rfl,(qw _),(qw _),aq,(qu _),(qu _)⟩
     ·refine qz (qbf ((C.trans y).has I) 0 rfl rfl) ?_;obtain⟨da,c6,db,dc,Z,b3⟩:=kdu (af.grow y) a1;refine qz db (qz rfl ?_);refine qbb rfl ?_;refine qz (seenAt rfl rfl) (qz (seenAt rfl qcm) ?_);have an:=((((Q.trans A).trans C).trans y).trans Z);have bk:=an.has K;refine qba bk rfl λdw bm U=>?_;have b6:=(((A.trans C).trans y).trans Z);have bn:=H.grow b6;have dd:=bn.upda (qbi n2 (qbq (Y).size (qbp _))) U;have bp:=F.grow b6;have de:=bp.upda (qbi n3 (qbq (Y).size (qbp _))) U;have aq:=((C.trans y).trans Z);have ar:=ae.grow aq;have cg:=ar.upda (qbj a0 (Q.has K).lt) U;have ci:=(af.grow (y.trans Z)).upda (qbj ba ((Q.trans A).has K).lt) U;have b7:=(ag.grow (y.trans Z)).upda (qbj ah ((Q.trans A).has K).lt) U;have bq:=((Q.trans A).trans C);have au:=(ak.grow Z).upda (qbj al (bq.has K).lt) U;have b8:=(ai.grow Z).upda (qbj aj (bq.has K).lt) U;have df:=(bq.trans y);have aw:=dc.upda (qbj b3 (df.has K).lt) U;have br:=aq.has I;have dg:=qx br (Nat.ne_of_lt (qbr (b4).lt (qbp _))) U;refine qz (qbf bm 0 rfl rfl) (qz (qbf bm 1 rfl qcm) (qz (qbf bm 2 rfl qcm) ?_));have z:kcd a1 x2 x3=((((fromI a1 ((divN x2 ((gcdN x2 x3).1)).1)).1)),(fromI a1 ((divN x2 ((gcdN x2 x3).1)).1)).2,(divN x3 ((gcdN x2 x3).1)).1,0):=by unfold kcd;exact(condF aa).trans ((condF ac).trans ((condF ad).trans ((condF am).trans ((condF bf).trans rfl))))
      rw[z];have b9:=(((G7.trans A).trans C).trans y);have dh:=((G7.trans A).trans C);have di:=((b9.trans Z).updr (qbq (Y).size (qbp _)) U);exact qy ⟨da,cz,rfl,aw,au,di,(b3.of_le b9),(al.of_le dh)⟩
def kf(a1:Bool)(x2 x3:List Nat)(a4:Bool)(x5 x6:List Nat):Bool×List Nat :=
 (((((kw a1 x2 ((fromI false x6).1) ((fromI false x6).2)).1))),(kw a1 x2 ((fromI false x6).1) ((fromI false x6).2)).2.1)
theorem kp2{h:AH}{a2:Sl}{x2:List Nat}{a3:Sl}{x3:List Nat}{a5:Sl}{x5:List Nat}{a6:Sl}{x6:List Nat}(n2:Nats h a2 x2)(n3:Nats h a3 x3)(n5:Nats h a5 x5)(n6:Nats h a6 x6)(a1 a4:Bool):Runs (go (.fn kjw [.agg [.bool a1,a2.v,a3.v],.agg [.bool a4,a5.v,a6.v]]) h) λv h'=>∃s1:Sl,v=.agg [.bool (kf a1 x2 x3 a4 x5 x6).1,s1.v]/\Nats h' s1 ((kf a1 x2 x3 a4 x5 x6).2)/\Grow h h'/\Own h s1:=by
 rw[k7x];refine q0 λH7 b7 g7=>?_;refine q0 λH8 b8 Z=>?_;refine q0 λH9 b9 g9=>?_;refine q0 λbc K I=>?_;have aq:=((Z.trans g9).trans I);have A:=aq.has b7;refine qz (qbf A 0 rfl rfl) (qz (qbf A 1 rfl qcm) (qz (qbf ((g9.trans I).has b8) 2 rfl qcm) ?_));have aj:=(((g7.trans Z).trans g9).trans I);have Q:=n6.grow aj;obtain⟨bd,be,ar,ak,y,al⟩:=kdj Q false;refine qz ar (qz rfl ?_);refine qbb rfl ?_;refine qz (seenAt rfl rfl) (qz (seenAt rfl qcm) ?_);refine qbe (y.same A 0 2) ?_;refine qbe (y.same K 0 0) ?_;have aa:=(aj.trans y);have U:=n2.grow aa;obtain⟨_,bf,au,aw,rfl,ax,C,ac⟩:=ks7 U ak a1 ((fromI false x6).1);refine qz au (qz rfl (qz rfl ?_));refine qbb rfl ?_;refine qz (seenAt rfl rfl) (qz (seenAt rfl qcm) (qz (seen qcn) ?_));refine qbe (C.same (y.has K) 0 0) ?_;refine qba ((y.trans C).has K) rfl λbg ad F=>?_;have ae:=((g7.trans Z).trans g9);have af:=(U.grow C).upda (qbi n2 (qbq (ae).size (qbp _))) F;have ag:=(Q.grow (y.trans C)).upda (qbi n6 (qbq (ae).size (qbp _))) F;have V:=(ak.grow C).upda (qbj al (K).lt) F;have X:=ax.upda (qbj ac (y.has K).lt) F;have ah:=qx ((y.trans C).has A) (Nat.ne_of_lt (qbr ((Z.trans g9).has b7).lt (qbp _))) F;refine qz (qbf ad 0 rfl rfl) (qz (qbf ad 1 rfl qcm) ?_);have ay:=(((I.trans y).trans C).updr (qbp _) F);have ai:=ay.has b9;refine qba ai rfl λbh am H=>?_;have az:=af.upda (qbi n2 (qbq ((g7.trans Z)).size (qbp _))) H;have a0:=ag.upda (qbi n6 (qbq ((g7.trans Z)).size (qbp _))) H;have an:=V.upda (qbj al (I.has b9).lt) H;have Y:=X.upda (qbj ac ((I.trans y).has b9).lt) H;have ba:=qx ah (Nat.ne_of_lt (qbr (Z.has b7).lt (qbp _))) H;have ap:=qx ad (Nat.ne_of_gt (qbr (b9).lt (qbp _))) H;refine qz (qbf am 0 rfl rfl) (qz (qbf am 1 rfl qcm) ?_);have z:kf a1 x2 x3 a4 x5 x6=(((((kw a1 x2 ((fromI false x6).1) ((fromI false x6).2)).1))),(kw a1 x2 ((fromI false x6).1) ((fromI false x6).2)).2.1):=by unfold kf;exact rfl
 rw[z];have bb:=(((aa.trans C).updr (qbq (ae).size (qbp _)) F).updr (qbq ((g7.trans Z)).size (qbp _)) H);exact qy ⟨aw,rfl,Y,bb,(ac.of_le aa)⟩
def kli(a1:Bool)(x2 x3:List Nat)(a4:Bool)(x5 x6:List Nat):Bool×List Nat :=
 (((((kw a1 x2 ((fromI false x6).1) ((fromI false x6).2)).1))),(kw a1 x2 ((fromI false x6).1) ((fromI false x6).2)).2.1)
theorem kbgl{h:AH}{a2:Sl}{x2:List Nat}{a3:Sl}{x3:List Nat}{a5:Sl}{x5:List Nat}{a6:Sl}{x6:List Nat}(n2:Nats h a2 x2)(n3:Nats h a3 x3)(n5:Nats h a5 x5)(n6:Nats h a6 x6)(a1 a4:Bool):Runs (go (.fn kic [.agg [.bool a1,a2.v,a3.v],.agg [.bool a4,a5.v,a6.v]]) h) λv h'=>∃s1:Sl,v=.agg [.bool (kli a1 x2 x3 a4 x5 x6).1,s1.v]/\Nats h' s1 ((kli a1 x2 x3 a4 x5 x6).2)/\Grow h h'/\Own h s1:=by
 rw[kbfc];refine q0 λH7 b7 g7=>?_;refine q0 λH8 b8 Z=>?_;refine q0 λH9 b9 g9=>?_;refine q0 λbc K I=>?_;have aq:=((Z.trans g9).trans I);have A:=aq.has b7;refine qz (qbf A 0 rfl rfl) (qz (qbf A 1 rfl qcm) (qz (qbf ((g9.trans I).has b8) 2 rfl qcm) ?_));have aj:=(((g7.trans Z).trans g9).trans I);have Q:=n6.grow aj;obtain⟨bd,be,ar,ak,y,al⟩:=kdu Q false;refine qz ar (qz rfl ?_);refine qbb rfl ?_;refine qz (seenAt rfl rfl) (qz (seenAt rfl qcm) ?_);refine qbe (y.same A 0 2) ?_;refine qbe (y.same K 0 0) ?_;have aa:=(aj.trans y);have U:=n2.grow aa;obtain⟨_,bf,au,aw,rfl,ax,C,ac⟩:=kpa U ak a1 ((fromI false x6).1);refine qz au (qz rfl (qz rfl ?_));refine qbb rfl ?_;refine qz (seenAt rfl rfl) (qz (seenAt rfl qcm) (qz (seen qcn) ?_));refine qbe (C.same (y.has K) 0 0) ?_;refine qba ((y.trans C).has K) rfl λbg ad F=>?_;have ae:=((g7.trans Z).trans g9);have af:=(U.grow C).upda (qbi n2 (qbq (ae).size (qbp _))) F;have ag:=(Q.grow (y.trans C)).upda (qbi n6 (qbq (ae).size (qbp _))) F;have V:=(ak.grow C).upda (qbj al (K).lt) F;have X:=ax.upda (qbj ac (y.has K).lt) F;have ah:=qx ((y.trans C).has A) (Nat.ne_of_lt (qbr ((Z.trans g9).has b7).lt (qbp _))) F;refine qz (qbf ad 0 rfl rfl) (qz (qbf ad 1 rfl qcm) ?_);have ay:=(((I.trans y).trans C).updr (qbp _) F);have ai:=ay.has b9;refine qba ai rfl λbh am H=>?_;have az:=af.upda (qbi n2 (qbq ((g7.trans Z)).size (qbp _))) H;have a0:=ag.upda (qbi n6 (qbq ((g7.trans Z)).size (qbp _))) H;have an:=V.upda (qbj al (I.has b9).lt) H;have Y:=X.upda (qbj ac ((I.trans y).has b9).lt) H;have ba:=qx ah (Nat.ne_of_lt (qbr (Z.has b7).lt (qbp _))) H;have ap:=qx ad (Nat.ne_of_gt (qbr (b9).lt (qbp _))) H;refine qz (qbf am 0 rfl rfl) (qz (qbf am 1 rfl qcm) ?_);have z:kli a1 x2 x3 a4 x5 x6=(((((kw a1 x2 ((fromI false x6).1) ((fromI false x6).2)).1))),(kw a1 x2 ((fromI false x6).1) ((fromI false x6).2)).2.1):=by unfold kli;exact rfl
 rw[z];have bb:=(((aa.trans C).updr (qbq (ae).size (qbp _)) F).updr (qbq ((g7.trans Z)).size (qbp _)) H);exact qy ⟨aw,rfl,Y,bb,(ac.of_le aa)⟩
theorem k8l:kdd=kbb:=rfl
theorem kjm{h:AH}{a2:Sl}{x2:List Nat}{a3:Sl}{x3:List Nat}(y:Nats h a2 x2)(A:Nats h a3 x3)(a1:Bool):Runs (go (.fn kf2 [.agg [.bool a1,a2.v,a3.v]]) h) λv h'=>v=.bool (kbb a1 x2 x3)/\Grow h h':=by
 rw[<- k8l];exact kbjr y A a1
theorem kbh6:kli=kf:=rfl
theorem kn3{h:AH}{a2:Sl}{x2:List Nat}{a3:Sl}{x3:List Nat}{a5:Sl}{x5:List Nat}{a6:Sl}{x6:List Nat}(y:Nats h a2 x2)(A:Nats h a3 x3)(C:Nats h a5 x5)(F:Nats h a6 x6)(a1 a4:Bool):Runs (go (.fn kic [.agg [.bool a1,a2.v,a3.v],.agg [.bool a4,a5.v,a6.v]]) h) λv h'=>∃s1:Sl,v=.agg [.bool (kf a1 x2 x3 a4 x5 x6).1,s1.v]/\Nats h' s1 ((kf a1 x2 x3 a4 x5 x6).2)/\Grow h h'/\Own h s1:=by
 rw[<- kbh6];exact kbgl y A C F a1 a4
theorem kbaj:kcd=kbd:=by
 funext p xs ys;unfold kcd kbd;congr 3;generalize ((divN xs (gcdN xs ys).fst).fst.length:Int)=u;generalize ((divN ys (gcdN xs ys).fst).fst.length:Int)=v;generalize (fromI p (divN xs (gcdN xs ys).fst).fst)=w
 have k:decide (imax u v>16)=(decide (u>16)||decide (v>16)):=by
  rw[kij,Bool.eq_iff_iff];simp only[qb9,qbw];omega
 rw[k];cases decide (u>16)<;>cases decide (v>16)<;>rfl
theorem kr4{h:AH}{a2:Sl}{x2:List Nat}{a3:Sl}{x3:List Nat}(y:Nats h a2 x2)(A:Nats h a3 x3)(a1:Bool):Runs (go (.fn kkq [.agg [.bool a1,a2.v],a3.v]) h) λv h'=>∃s1:Sl,∃s2:Sl,v=.tup [.agg [.bool (kbd a1 x2 x3).1,s1.v,s2.v],.i (kbd a1 x2 x3).2.2.2]/\Nats h' s1 ((kbd a1 x2 x3).2.1)/\Nats h' s2 ((kbd a1 x2 x3).2.2.1)/\Grow h h'/\Own h s1/\Own h s2:=by
 rw[<- kbaj];exact kbib y A a1
abbrev FRow:=Bool×(Sl×List Nat)×(Sl×List Nat)
structure FRows(h:AH)(s:Sl)(rows:List FRow):Prop where
 cells:Cells h s 3 (rows.flatMap λp=>[.bool p.1,p.2.1.1.v,p.2.2.1.v])
 num:∀p∈rows,Nats h p.2.1.1 p.2.1.2
 den:∀p∈rows,Nats h p.2.2.1 p.2.2.2
 short:rows.length<=9223372036854775807
theorem FRows.grow{h h':AH}(g:Grow h h'){s:Sl}{rows:List FRow}(n:FRows h s rows):FRows h' s rows:=⟨n.cells.grow g,λp y=>(n.num p y).grow g,λp y=>(n.den p y).grow g,n.short⟩
theorem k3k:∀(rows:List FRow)(i:Nat)(hi:i<rows.length),
  (rows.flatMap λp=>[AV.bool p.1,p.2.1.1.v,p.2.2.1.v])[i*3]?=some (AV.bool rows[i].1)/\(rows.flatMap λp=>[AV.bool p.1,p.2.1.1.v,p.2.2.1.v])[i*3+1]?=some rows[i].2.1.1.v/\(rows.flatMap λp=>[AV.bool p.1,p.2.1.1.v,p.2.2.1.v])[i*3+2]?=some rows[i].2.2.1.v
 | [],i,hi=>by simp at hi
 | p::rows,0,hi=>by simp
 | p::rows,i+1,hi=>by
  have:=k3k rows i (by simpa using hi);rw[show(i+1)*3=i*3+3 from by omega]
  simpa using this
theorem FRows.len{h:AH}{s:Sl}{rows:List FRow}(n:FRows h s rows):s.len=rows.length:=by
 have:=n.cells.len
 have y:(rows.flatMap λp=>[AV.bool p.1,p.2.1.1.v,p.2.2.1.v]).length=rows.length*3:=by
  generalize rows=l
  induction l with
  | nil=>rfl
  | cons a l ih=>rw[List.flatMap_cons,qbz,ih];simp;omega
 omega
theorem FRows.at{h:AH}{s:Sl}{rows:List FRow}(n:FRows h s rows){i:Nat}(hi:i<rows.length):∃r,idx s.ref s.len (i:Int) 3=some r/\h.cell (r.add 0)=some (.bool rows[i].1)/\h.cell (r.add 1)=some rows[i].2.1.1.v/\h.cell (r.add 2)=some rows[i].2.2.1.v:=by
 obtain⟨F,p2,p3⟩:=k3k rows i hi;obtain⟨r,y,H⟩:=n.cells.get _ _ F;obtain⟨U,A,I⟩:=n.cells.get _ _ p2;obtain⟨K,C,Q⟩:=n.cells.get _ _ p3;rw[y]at A C;cases A;cases C;refine⟨r.add (i*3),?_,by simpa using H,by rw[Ref.add_add];exact I,by rw[Ref.add_add];exact Q⟩;rw[y,kdx _ _ _ _ (by omega) (by rw[n.len];omega)];simp
theorem FRows.two{h:AH}{i:Nat}{a a' b b':Sl}{xs y ys A:List Nat}{p q:Bool}(c:h.has i [.bool p,a.v,a'.v,.bool q,b.v,b'.v] ky)(n:Nats h a xs)(F:Nats h a' y)(m:Nats h b ys)(H:Nats h b' A) :
  FRows h ⟨some (.new i 0),2,.is 2⟩ [(p,(a,xs),(a',y)),(q,(b,ys),(b',A))]:=⟨qr c rfl,λr C=>by
  simp at C;rcases C with rfl | rfl
  ·exact n
  ·exact m,λr C=>by
  simp at C;rcases C with rfl | rfl
  ·exact F
  ·exact H,by simp⟩
theorem k5z{h:AH}{s t:Sl}{xs ys:List Nat}(n:Nats h s xs)(m:Nats h t ys)(neg:Bool):∃h',go (.fn ker [.agg [.bool neg,s.v,t.v]]) h=some (.bool (!kbb neg xs ys),h')/\Grow h h':=by
 rw[kbi1];simp only[kbv];have A:=qo h [.bool neg,s.v,t.v] ky;have y:=qm h (.cells [.bool neg,s.v,t.v] ky);generalize h.push (.cells [.bool neg,s.v,t.v] ky)=h0 at *
 obtain⟨_,h1,C,rfl,F⟩:=kbkm (n.grow y) (m.grow y) neg;exact⟨h1,by simp[A.cell,C],y.trans F⟩
theorem k2a{s:Sl}{rows:List FRow}:∀(k i:Nat),i+k=rows.length->∀{h:AH},FRows h s rows->
  ∃(j:Int)(h':AH),go (.pt kkd koj [(0,s.v),(1,.func (.func ker) [] []),(7,.i (rows.length:Int)),(8,.i (i:Int))]) h=some (.i j,h')/\
   (j>=0↔(rows.drop i).all (λp=>kbb p.1 p.2.1.2 p.2.2.2)=false)/\Grow h h'
 | 0,i,hi,h,n=>by
  rw[kyp,show decide ((i:Int)<(rows.length:Int))=false from by rw[qbv];omega,List.drop_of_length_le (by omega)];exact⟨-1,h,rfl,by simp,ql h⟩
 | k+1,i,hi,h,n=>by
  have Z:=n.short;obtain⟨r,C,F,H,y⟩:=n.at (i:=i) (by omega);have I:=n.num rows[i] (qb2 _);have K:=n.den rows[i] (qb2 _);obtain⟨h1,Q,A⟩:=k5z I K rows[i].1;rw[kyp,show decide ((i:Int)<(rows.length:Int))=true from by rw[qbw];omega,cond_true,C];simp only[qbt,F,H,y,asSl_v,kbl,Q];rw[qcf (by omega),List.all_cons,kj (by omega)];cases hr:kbb rows[i].1 (rows[i].2.1.2) (rows[i].2.2.2)with
  | false=>exact⟨(i:Int),h1,rfl,by simp,A⟩
  | true =>
   obtain⟨j,U,V,X,Y⟩:=k2a k (i+1) (by omega) (n.grow A);exact⟨j,U,V,by simpa using X,A.trans Y⟩
theorem kbgu{h:AH}{s:Sl}{rows:List FRow}(n:FRows h s rows):∃h',go (.fn kk4 [s.v]) h=some (.bool (rows.all λp=>kbb p.1 p.2.1.2 p.2.2.2),h')/\Grow h h':=by
 obtain⟨j,h',C,y,g⟩:=k2a rows.length 0 (by omega) n;refine⟨h',?_,g⟩;rw[kbfm,kbek,kbg9,n.len];rw[show(0:Int)=((0:Nat):Int)from rfl,C];simp only[qbt,kb,kbl];rw[List.drop_zero]at y;cases A:rows.all λp=>kbb p.1 p.2.1.2 p.2.2.2 with
 | false=>rw[A]at y;simp at y;simp;omega
 | true=>rw[A]at y;simp at y;simp;omega
theorem k2r{h:AH}{i:Nat}{a a' b b':Sl}{xs y ys A:List Nat}{p q:Bool}(c:h.has i [.bool p,a.v,a'.v,.bool q,b.v,b'.v] ky)(n:Nats h a xs)(C:Nats h a' y)(m:Nats h b ys)(F:Nats h b' A) :
  ∃h',go (.fn kk4 [(⟨some (.new i 0),2,.is 2⟩:Sl).v]) h=some (.bool (kbb p xs y&&kbb q ys A),h')/\Grow h h':=by
 obtain⟨h',e,g⟩:=kbgu (FRows.two c n C m F);exact⟨h',by rw[e];simp,g⟩
def OpS(y:FuncId)(op:Bool->List Nat->Bool->List Nat->Bool×List Nat×Int):Prop:=∀{h:AH}{a2:Sl}{x2:List Nat}{a4:Sl}{x4:List Nat},Nats h a2 x2->Nats h a4 x4->∀a1 a3:Bool,Runs (go (.fn y [.agg [.bool a1,a2.v],.agg [.bool a3,a4.v]]) h) λv h'=>∃s1:Sl,v=.tup [.agg [.bool (op a1 x2 a3 x4).1,s1.v],.i (op a1 x2 a3 x4).2.2]/\Nats h' s1 ((op a1 x2 a3 x4).2.1)/\Grow h h'/\Own h s1
def kcy(op:Bool->List Nat->Bool->List Nat->Bool×List Nat×Int)(a1:Bool)(x2 x3:List Nat)(a4:Bool)(x5 x6:List Nat):Bool×List Nat×List Nat×Int :=
 cond (!((kbb a1 x2 x3&&kbb a4 x5 x6))) ((false,[],[],1)) (((((kbd (((op ((kf a1 x2 x3 a4 x5 x6).1) ((kf a1 x2 x3 a4 x5 x6).2) ((kf a4 x5 x6 a1 x2 x3).1) ((kf a4 x5 x6 a1 x2 x3).2)).1)) ((op ((kf a1 x2 x3 a4 x5 x6).1) ((kf a1 x2 x3 a4 x5 x6).2) ((kf a4 x5 x6 a1 x2 x3).1) ((kf a4 x5 x6 a1 x2 x3).2)).2.1) ((mulN x3 x6).1)).1)),(kbd (((op ((kf a1 x2 x3 a4 x5 x6).1) ((kf a1 x2 x3 a4 x5 x6).2) ((kf a4 x5 x6 a1 x2 x3).1) ((kf a4 x5 x6 a1 x2 x3).2)).1)) ((op ((kf a1 x2 x3 a4 x5 x6).1) ((kf a1 x2 x3 a4 x5 x6).2) ((kf a4 x5 x6 a1 x2 x3).1) ((kf a4 x5 x6 a1 x2 x3).2)).2.1) ((mulN x3 x6).1)).2.1,(kbd (((op ((kf a1 x2 x3 a4 x5 x6).1) ((kf a1 x2 x3 a4 x5 x6).2) ((kf a4 x5 x6 a1 x2 x3).1) ((kf a4 x5 x6 a1 x2 x3).2)).1)) ((op ((kf a1 x2 x3 a4 x5 x6).1) ((kf a1 x2 x3 a4 x5 x6).2) ((kf a4 x5 x6 a1 x2 x3).1) ((kf a4 x5 x6 a1 x2 x3).2)).2.1) ((mulN x3 x6).1)).2.2.1,((kbd (((op ((kf a1 x2 x3 a4 x5 x6).1) ((kf a1 x2 x3 a4 x5 x6).2) ((kf a4 x5 x6 a1 x2 x3).1) ((kf a4 x5 x6 a1 x2 x3).2)).1)) ((op ((kf a1 x2 x3 a4 x5 x6).1) ((kf a1 x2 x3 a4 x5 x6).2) ((kf a4 x5 x6 a1 x2 x3).1) ((kf a4 x5 x6 a1 x2 x3).2)).2.1) ((mulN x3 x6).1)).2.2.2)))
theorem kxg{fu:FuncId}{op:Bool->List Nat->Bool->List Nat->Bool×List Nat×Int}(S:OpS fu op){h:AH}{a2:Sl}{x2:List Nat}{a3:Sl}{x3:List Nat}{a5:Sl}{x5:List Nat}{a6:Sl}{x6:List Nat}(n2:Nats h a2 x2)(n3:Nats h a3 x3)(n5:Nats h a5 x5)(n6:Nats h a6 x6)(a1 a4:Bool):Runs (both_T fu a1 a2 a3 a4 a5 a6 h) λv h'=>∃s1:Sl,∃s2:Sl,v=.tup [.agg [.bool (kcy op a1 x2 x3 a4 x5 x6).1,s1.v,s2.v],.i (kcy op a1 x2 x3 a4 x5 x6).2.2.2]/\Nats h' s1 ((kcy op a1 x2 x3 a4 x5 x6).2.1)/\Nats h' s2 ((kcy op a1 x2 x3 a4 x5 x6).2.2.1)/\Grow h h'/\Own h s1/\Own h s2:=by
 unfold both_T;refine q0 λH7 b7 g7=>?_;refine q0 λH8 b8 g8=>?_;refine q0 λH9 b9 g9=>?_;refine qz (qbf ((g8.trans g9).has b7) 0 rfl rfl) (qz (qbf ((g8.trans g9).has b7) 1 rfl qcm) (qz (qbf ((g8.trans g9).has b7) 2 rfl qcm) (qz (qbf (g9.has b8) 0 rfl rfl) (qz (qbf (g9.has b8) 1 rfl qcm) (qz (qbf (g9.has b8) 2 rfl qcm) ?_)))));refine q0 λdf bc X=>?_;have ag:=(((g7.trans g8).trans g9).trans X);have aa:=n2.grow ag;have ac:=n3.grow ag;have ad:=n5.grow ag;have ae:=n6.grow ag;obtain⟨dg,cg,y⟩:=k2r bc aa ac ad ae;refine qz cg (qz (seen rfl) ?_);refine qbd (λbd=>?_) (λbd=>?_)
 ·refine qba ((X.trans y).has b9) rfl λci Y ah=>?_;have cj:=(aa.grow y).upda (qbi n2 (qbq ((g7.trans g8)).size (qbp _))) ah;have cl:=(ac.grow y).upda (qbi n3 (qbq ((g7.trans g8)).size (qbp _))) ah;have cm:=(ad.grow y).upda (qbi n5 (qbq ((g7.trans g8)).size (qbp _))) ah;have cp:=(ae.grow y).upda (qbi n6 (qbq ((g7.trans g8)).size (qbp _))) ah;have b6:=qx (y.has bc) (Nat.ne_of_gt (qbr (b9).lt (qbp _))) ah;refine qz (qbf Y 0 rfl rfl) (qz (qbf Y 1 rfl qcm) (qz (qbf Y 2 rfl qcm) ?_));have z:kcy op a1 x2 x3 a4 x5 x6=(false,[],[],1):=by unfold kcy;exact(condT bd).trans rfl
  rw[z];have be:=((ag.trans y).updr (qbq ((g7.trans g8)).size (qbp _)) ah);exact qy ⟨(⟨none,0,.is 0⟩:Sl),(⟨none,0,.is 0⟩:Sl),rfl,(qw _),(qw _),be,(qu _),(qu _)⟩
 ·refine q0 λci Y Z=>?_;have be:=((((g8.trans g9).trans X).trans y).trans Z);have A:=be.has b7;refine qz (qbf A 0 rfl rfl) (qz (qbf A 1 rfl qcm) (qz (qbf A 2 rfl qcm) ?_));have cu:=(((g9.trans X).trans y).trans Z);have C:=cu.has b8;refine qz (qbf C 0 rfl rfl) (qz (qbf C 1 rfl qcm) (qz (qbf C 2 rfl qcm) (qz (qbf C 0 rfl rfl) (qz (qbf C 1 rfl qcm) (qz (qbf C 2 rfl qcm) (qz (qbf A 0 rfl rfl) (qz (qbf A 1 rfl qcm) (qz (qbf A 2 rfl qcm) ?_))))))));obtain⟨_,dh,cv,di,rfl,bq,U,br⟩:=kp2 (aa.grow (y.trans Z)) (ac.grow (y.trans Z)) (ad.grow (y.trans Z)) (ae.grow (y.trans Z)) a1 a4;refine qz cv (qz rfl ?_);refine qbb rfl ?_;refine qz (seenAt rfl rfl) (qz (seenAt rfl qcm) ?_);refine qbe (U.same A 0 3) ?_;refine qbe (U.same C 0 3) ?_;refine qbe (U.same Y 0 0) ?_;have aj:=((y.trans Z).trans U);have ak:=ad.grow aj;have al:=ae.grow aj;have am:=aa.grow aj;have an:=ac.grow aj;obtain⟨_,dj,cw,dk,rfl,bt,I,bu⟩:=kp2 ak al am an a4 a1;refine qz cw (qz rfl ?_);refine qbb rfl ?_;refine qz (seenAt rfl rfl) (qz (seenAt rfl qcm) ?_);refine qbe (I.same (U.has Y) 0 0) ?_;obtain⟨_,dl,cx,dm,rfl,cy,V,bv⟩:=S (bq.grow I) bt ((kf a1 x2 x3 a4 x5 x6).1) ((kf a4 x5 x6 a1 x2 x3).1);refine qz cx (qz rfl (qz rfl ?_));refine qbb rfl ?_;refine qz (seenAt rfl rfl) (qz (seenAt rfl qcm) (qz (seen qcn) ?_));refine qbe (V.same ((U.trans I).has Y) 0 0) ?_;have bf:=((U.trans I).trans V);have ax:=bf.has Y;refine qba ax rfl λdn bg Q=>?_;have ai:=(ag.trans y);have bh:=(am.grow (I.trans V)).upda (qbi n2 (qbq (ai).size (qbp _))) Q;have ap:=(an.grow (I.trans V)).upda (qbi n3 (qbq (ai).size (qbp _))) Q;have bi:=(ak.grow (I.trans V)).upda (qbi n5 (qbq (ai).size (qbp _))) Q;have aq:=(al.grow (I.trans V)).upda (qbi n6 (qbq (ai).size (qbp _))) Q;have ay:=(bq.grow (I.trans V)).upda (qbj br (Y).lt) Q;have az:=(bt.grow V).upda (qbj bu (U.has Y).lt) Q;have af:=cy.upda (qbj bv ((U.trans I).has Y).lt) Q;have bj:=bf.has A;have cz:=(((g8.trans g9).trans X).trans y);have ar:=qx bj (Nat.ne_of_lt (qbr (cz.has b7).lt (qbp _))) Q;have bk:=bf.has C;have c0:=((g9.trans X).trans y);have au:=qx bk (Nat.ne_of_lt (qbr (c0.has b8).lt (qbp _))) Q;refine qz (qbf ar 2 rfl qcm) (qz (qbf au 2 rfl qcm) ?_);obtain⟨dp,dq,c1,bw,F,c2⟩:=k0p ap aq;refine qz c1 (qz rfl (qz (seen qcm) (qz (seen qcn) (qz (qbf (F.has bg) 0 rfl rfl) (qz (qbf (F.has bg) 1 rfl qcm) ?_)))));obtain⟨_,dr,c3,c4,bx,rfl,c5,bz,K,b0,bb⟩:=kuh (af.grow F) bw (((op ((kf a1 x2 x3 a4 x5 x6).1) ((kf a1 x2 x3 a4 x5 x6).2) ((kf a4 x5 x6 a1 x2 x3).1) ((kf a4 x5 x6 a1 x2 x3).2)).1));refine qz c3 (qz rfl (qz rfl ?_));refine qbb rfl ?_;refine qz (seenAt rfl rfl) (qz (seenAt rfl qcm) (qz (seenAt rfl qcm) (qz (seen qcn) ?_)));have c6:=((((((((X.trans y).trans Z).trans U).trans I).trans V).updr (qbq ((X.trans y)).size (qbp _)) Q).trans F).trans K);have bm:=c6.has b9;refine qba bm rfl λdt bn H=>?_;have c7:=(bh.grow (F.trans K)).upda (qbi n2 (qbq ((g7.trans g8)).size (qbp _))) H;have c8:=(ap.grow (F.trans K)).upda (qbi n3 (qbq ((g7.trans g8)).size (qbp _))) H;have c9:=(bi.grow (F.trans K)).upda (qbi n5 (qbq ((g7.trans g8)).size (qbp _))) H;have da:=(aq.grow (F.trans K)).upda (qbi n6 (qbq ((g7.trans g8)).size (qbp _))) H;have b1:=((X.trans y).trans Z);have ca:=(ay.grow (F.trans K)).upda (qbj br (b1.has b9).lt) H;have b2:=(b1.trans U);have cb:=(az.grow (F.trans K)).upda (qbj bu (b2.has b9).lt) H;have b3:=(b2.trans I);have cc:=(af.grow (F.trans K)).upda (qbj bv (b3.has b9).lt) H;have b4:=((b3.trans V).updr (qbq ((X.trans y)).size (qbp _)) Q);have cd:=(bw.grow K).upda (qbj c2 (b4.has b9).lt) H;have b5:=(b4.trans F);have a0:=c5.upda (qbj b0 (b5.has b9).lt) H;have aw:=bz.upda (qbj bb (b5.has b9).lt) H;have db:=qx ((F.trans K).has ar) (Nat.ne_of_lt (qbr (g8.has b7).lt (qbp _))) H;have dc:=qx ((F.trans K).has au) (Nat.ne_of_lt (qbr (b8).lt (qbp _))) H;have dd:=(((((aj.trans I).trans V).updr (qbq (y).size (qbp _)) Q).trans F).trans K);have ba:=dd.has bc;have ce:=qx ba (Nat.ne_of_gt (qbr (b9).lt (qbp _))) H;have cf:=qx ((F.trans K).has bg) (Nat.ne_of_gt (qbr ((X.trans y).has b9).lt (qbp _))) H;refine qz (qbf bn 0 rfl rfl) (qz (qbf bn 1 rfl qcm) (qz (qbf bn 2 rfl qcm) ?_));have z:kcy op a1 x2 x3 a4 x5 x6=((((kbd (((op ((kf a1 x2 x3 a4 x5 x6).1) ((kf a1 x2 x3 a4 x5 x6).2) ((kf a4 x5 x6 a1 x2 x3).1) ((kf a4 x5 x6 a1 x2 x3).2)).1)) ((op ((kf a1 x2 x3 a4 x5 x6).1) ((kf a1 x2 x3 a4 x5 x6).2) ((kf a4 x5 x6 a1 x2 x3).1) ((kf a4 x5 x6 a1 x2 x3).2)).2.1) ((mulN x3 x6).1)).1)),(kbd (((op ((kf a1 x2 x3 a4 x5 x6).1) ((kf a1 x2 x3 a4 x5 x6).2) ((kf a4 x5 x6 a1 x2 x3).1) ((kf a4 x5 x6 a1 x2 x3).2)).1)) ((op ((kf a1 x2 x3 a4 x5 x6).1) ((kf a1 x2 x3 a4 x5 x6).2) ((kf a4 x5 x6 a1 x2 x3).1) ((kf a4 x5 x6 a1 x2 x3).2)).2.1) ((mulN x3 x6).1)).2.1,(kbd (((op ((kf a1 x2 x3 a4 x5 x6).1) ((kf a1 x2 x3 a4 x5 x6).2) ((kf a4 x5 x6 a1 x2 x3).1) ((kf a4 x5 x6 a1 x2 x3).2)).1)) ((op ((kf a1 x2 x3 a4 x5 x6).1) ((kf a1 x2 x3 a4 x5 x6).2) ((kf a4 x5 x6 a1 x2 x3).1) ((kf a4 x5 x6 a1 x2 x3).2)).2.1) ((mulN x3 x6).1)).2.2.1,((kbd (((op ((kf a1 x2 x3 a4 x5 x6).1) ((kf a1 x2 x3 a4 x5 x6).2) ((kf a4 x5 x6 a1 x2 x3).1) ((kf a4 x5 x6 a1 x2 x3).2)).1)) ((op ((kf a1 x2 x3 a4 x5 x6).1) ((kf a1 x2 x3 a4 x5 x6).2) ((kf a4 x5 x6 a1 x2 x3).1) ((kf a4 x5 x6 a1 x2 x3).2)).2.1) ((mulN x3 x6).1)).2.2.2)):=by unfold kcy;exact(condF bd).trans rfl
  rw[z];have bp:=((((((ai.trans Z).trans U).trans I).trans V).updr (qbq (ai).size (qbp _)) Q).trans F);have de:=((bp.trans K).updr (qbq ((g7.trans g8)).size (qbp _)) H);exact qy ⟨c4,bx,rfl,a0,aw,de,(b0.of_le bp),(bb.of_le bp)⟩
def kc6:Bool->List Nat->List Nat->Bool->List Nat->List Nat->Bool×List Nat×List Nat×Int:=kcy kbf
theorem kbdw{h:AH}{a2:Sl}{x2:List Nat}{a3:Sl}{x3:List Nat}{a5:Sl}{x5:List Nat}{a6:Sl}{x6:List Nat}(y:Nats h a2 x2)(A:Nats h a3 x3)(C:Nats h a5 x5)(F:Nats h a6 x6)(a1 a4:Bool):Runs (go (.fn kjy [.agg [.bool a1,a2.v,a3.v],.agg [.bool a4,a5.v,a6.v],.func (.func kh0) [] []]) h) λv h'=>∃s1:Sl,∃s2:Sl,v=.tup [.agg [.bool (kc6 a1 x2 x3 a4 x5 x6).1,s1.v,s2.v],.i (kc6 a1 x2 x3 a4 x5 x6).2.2.2]/\Nats h' s1 ((kc6 a1 x2 x3 a4 x5 x6).2.1)/\Nats h' s2 ((kc6 a1 x2 x3 a4 x5 x6).2.2.1)/\Grow h h'/\Own h s1/\Own h s2:=by
 rw[kbd6];exact kxg (λa b=>kzt a b) y A C F a1 a4
def kc4(a1:Bool)(x2 x3:List Nat)(a4:Bool)(x5 x6:List Nat):Bool×List Nat×List Nat×Int :=
 ((((kc6 a1 x2 x3 a4 x5 x6).1)),(kc6 a1 x2 x3 a4 x5 x6).2.1,(kc6 a1 x2 x3 a4 x5 x6).2.2.1,((kc6 a1 x2 x3 a4 x5 x6).2.2.2))
theorem kbe9{h:AH}{a2:Sl}{x2:List Nat}{a3:Sl}{x3:List Nat}{a5:Sl}{x5:List Nat}{a6:Sl}{x6:List Nat}(n2:Nats h a2 x2)(n3:Nats h a3 x3)(n5:Nats h a5 x5)(n6:Nats h a6 x6)(a1 a4:Bool):Runs (go (.fn kos [.agg [.bool a1,a2.v,a3.v],.agg [.bool a4,a5.v,a6.v]]) h) λv h'=>∃s1:Sl,∃s2:Sl,v=.tup [.agg [.bool (kc4 a1 x2 x3 a4 x5 x6).1,s1.v,s2.v],.i (kc4 a1 x2 x3 a4 x5 x6).2.2.2]/\Nats h' s1 ((kc4 a1 x2 x3 a4 x5 x6).2.1)/\Nats h' s2 ((kc4 a1 x2 x3 a4 x5 x6).2.2.1)/\Grow h h'/\Own h s1/\Own h s2:=by
 rw[kbdy];refine q0 λH7 b7 g7=>?_;refine q0 λH8 b8 U=>?_;refine q0 λH9 b9 Y=>?_;refine qz (qbf ((U.trans Y).has b7) 0 rfl rfl) (qz (qbf ((U.trans Y).has b7) 1 rfl qcm) (qz (qbf ((U.trans Y).has b7) 2 rfl qcm) (qz (qbf (Y.has b8) 0 rfl rfl) (qz (qbf (Y.has b8) 1 rfl qcm) (qz (qbf (Y.has b8) 2 rfl qcm) ?_)))));have y:=((g7.trans U).trans Y);have F:=n2.grow y;have H:=n3.grow y;have I:=n5.grow y;have K:=n6.grow y;obtain⟨_,am,ae,af,aa,rfl,ag,ac,C,ad,X⟩:=kbdw F H I K a1 a4;refine qz ae (qz rfl (qz rfl ?_));refine qbb rfl ?_;refine qz (seenAt rfl rfl) (qz (seenAt rfl qcm) (qz (seenAt rfl qcm) (qz (seen qcn) ?_)));refine qba (C.has b9) rfl λan Z A=>?_;have ah:=(F.grow C).upda (qbi n2 (qbq ((g7.trans U)).size (qbp _))) A;have ai:=(H.grow C).upda (qbi n3 (qbq ((g7.trans U)).size (qbp _))) A;have aj:=(I.grow C).upda (qbi n5 (qbq ((g7.trans U)).size (qbp _))) A;have ak:=(K.grow C).upda (qbi n6 (qbq ((g7.trans U)).size (qbp _))) A;have V:=ag.upda (qbj ad (b9).lt) A;have Q:=ac.upda (qbj X (b9).lt) A;refine qz (qbf Z 0 rfl rfl) (qz (qbf Z 1 rfl qcm) (qz (qbf Z 2 rfl qcm) ?_));have z:kc4 a1 x2 x3 a4 x5 x6=((((kc6 a1 x2 x3 a4 x5 x6).1)),(kc6 a1 x2 x3 a4 x5 x6).2.1,(kc6 a1 x2 x3 a4 x5 x6).2.2.1,((kc6 a1 x2 x3 a4 x5 x6).2.2.2)):=by unfold kc4;exact rfl
 rw[z];have al:=((y.trans C).updr (qbq ((g7.trans U)).size (qbp _)) A);exact qy ⟨af,aa,rfl,V,Q,al,(ad.of_le y),(X.of_le y)⟩
theorem kbal{h:AH}{a2:Sl}{x2:List Nat}{a3:Sl}{x3:List Nat}{a5:Sl}{x5:List Nat}{a6:Sl}{x6:List Nat}(y:Nats h a2 x2)(A:Nats h a3 x3)(C:Nats h a5 x5)(F:Nats h a6 x6){a1 a4:Bool}{r:_}(q:kc4 a1 x2 x3 a4 x5 x6=r):Runs (go (.fn kos [.agg [.bool a1,a2.v,a3.v],.agg [.bool a4,a5.v,a6.v]]) h) λv h'=>∃s1:Sl,∃s2:Sl,v=.tup [.agg [.bool r.1,s1.v,s2.v],.i r.2.2.2]/\Nats h' s1 (r.2.1)/\Nats h' s2 (r.2.2.1)/\Grow h h'/\Own h s1/\Own h s2:=by
 subst q;exact kbe9 y A C F a1 a4
def kc3:Bool->List Nat->List Nat->Bool->List Nat->List Nat->Bool×List Nat×List Nat×Int:=kcy ken
theorem k41{h:AH}{a2:Sl}{x2:List Nat}{a3:Sl}{x3:List Nat}{a5:Sl}{x5:List Nat}{a6:Sl}{x6:List Nat}(y:Nats h a2 x2)(A:Nats h a3 x3)(C:Nats h a5 x5)(F:Nats h a6 x6)(a1 a4:Bool):Runs (go (.fn kjy [.agg [.bool a1,a2.v,a3.v],.agg [.bool a4,a5.v,a6.v],.func (.func kkw) [] []]) h) λv h'=>∃s1:Sl,∃s2:Sl,v=.tup [.agg [.bool (kc3 a1 x2 x3 a4 x5 x6).1,s1.v,s2.v],.i (kc3 a1 x2 x3 a4 x5 x6).2.2.2]/\Nats h' s1 ((kc3 a1 x2 x3 a4 x5 x6).2.1)/\Nats h' s2 ((kc3 a1 x2 x3 a4 x5 x6).2.2.1)/\Grow h h'/\Own h s1/\Own h s2:=by
 rw[kbeg];exact kxg (λa b=>kbko a b) y A C F a1 a4
def kdh(a1:Bool)(x2 x3:List Nat)(a4:Bool)(x5 x6:List Nat):Bool×List Nat×List Nat×Int :=
 ((((kc3 a1 x2 x3 a4 x5 x6).1)),(kc3 a1 x2 x3 a4 x5 x6).2.1,(kc3 a1 x2 x3 a4 x5 x6).2.2.1,((kc3 a1 x2 x3 a4 x5 x6).2.2.2))
theorem kbkp{h:AH}{a2:Sl}{x2:List Nat}{a3:Sl}{x3:List Nat}{a5:Sl}{x5:List Nat}{a6:Sl}{x6:List Nat}(n2:Nats h a2 x2)(n3:Nats h a3 x3)(n5:Nats h a5 x5)(n6:Nats h a6 x6)(a1 a4:Bool):Runs (go (.fn kql [.agg [.bool a1,a2.v,a3.v],.agg [.bool a4,a5.v,a6.v]]) h) λv h'=>∃s1:Sl,∃s2:Sl,v=.tup [.agg [.bool (kdh a1 x2 x3 a4 x5 x6).1,s1.v,s2.v],.i (kdh a1 x2 x3 a4 x5 x6).2.2.2]/\Nats h' s1 ((kdh a1 x2 x3 a4 x5 x6).2.1)/\Nats h' s2 ((kdh a1 x2 x3 a4 x5 x6).2.2.1)/\Grow h h'/\Own h s1/\Own h s2:=by
 rw[kbbn];refine q0 λH7 b7 g7=>?_;refine q0 λH8 b8 U=>?_;refine q0 λH9 b9 Y=>?_;refine qz (qbf ((U.trans Y).has b7) 0 rfl rfl) (qz (qbf ((U.trans Y).has b7) 1 rfl qcm) (qz (qbf ((U.trans Y).has b7) 2 rfl qcm) (qz (qbf (Y.has b8) 0 rfl rfl) (qz (qbf (Y.has b8) 1 rfl qcm) (qz (qbf (Y.has b8) 2 rfl qcm) ?_)))));have y:=((g7.trans U).trans Y);have F:=n2.grow y;have H:=n3.grow y;have I:=n5.grow y;have K:=n6.grow y;obtain⟨_,am,ae,af,aa,rfl,ag,ac,C,ad,X⟩:=k41 F H I K a1 a4;refine qz ae (qz rfl (qz rfl ?_));refine qbb rfl ?_;refine qz (seenAt rfl rfl) (qz (seenAt rfl qcm) (qz (seenAt rfl qcm) (qz (seen qcn) ?_)));refine qba (C.has b9) rfl λan Z A=>?_;have ah:=(F.grow C).upda (qbi n2 (qbq ((g7.trans U)).size (qbp _))) A;have ai:=(H.grow C).upda (qbi n3 (qbq ((g7.trans U)).size (qbp _))) A;have aj:=(I.grow C).upda (qbi n5 (qbq ((g7.trans U)).size (qbp _))) A;have ak:=(K.grow C).upda (qbi n6 (qbq ((g7.trans U)).size (qbp _))) A;have V:=ag.upda (qbj ad (b9).lt) A;have Q:=ac.upda (qbj X (b9).lt) A;refine qz (qbf Z 0 rfl rfl) (qz (qbf Z 1 rfl qcm) (qz (qbf Z 2 rfl qcm) ?_));have z:kdh a1 x2 x3 a4 x5 x6=((((kc3 a1 x2 x3 a4 x5 x6).1)),(kc3 a1 x2 x3 a4 x5 x6).2.1,(kc3 a1 x2 x3 a4 x5 x6).2.2.1,((kc3 a1 x2 x3 a4 x5 x6).2.2.2)):=by unfold kdh;exact rfl
 rw[z];have al:=((y.trans C).updr (qbq ((g7.trans U)).size (qbp _)) A);exact qy ⟨af,aa,rfl,V,Q,al,(ad.of_le y),(X.of_le y)⟩
theorem k8j{h:AH}{a2:Sl}{x2:List Nat}{a3:Sl}{x3:List Nat}{a5:Sl}{x5:List Nat}{a6:Sl}{x6:List Nat}(y:Nats h a2 x2)(A:Nats h a3 x3)(C:Nats h a5 x5)(F:Nats h a6 x6){a1 a4:Bool}{r:_}(q:kdh a1 x2 x3 a4 x5 x6=r):Runs (go (.fn kql [.agg [.bool a1,a2.v,a3.v],.agg [.bool a4,a5.v,a6.v]]) h) λv h'=>∃s1:Sl,∃s2:Sl,v=.tup [.agg [.bool r.1,s1.v,s2.v],.i r.2.2.2]/\Nats h' s1 (r.2.1)/\Nats h' s2 (r.2.2.1)/\Grow h h'/\Own h s1/\Own h s2:=by
 subst q;exact kbkp y A C F a1 a4
def kb2(a1:Bool)(x2 x3:List Nat)(a4:Bool)(x5 x6:List Nat):Bool×List Nat×List Nat×Int :=
 cond (!((kbb a1 x2 x3))) ((false,[],[],1)) (cond (!((kbb a4 x5 x6))) ((false,[],[],1)) (((((kbd (((kbf ((kf a1 x2 x3 a4 x5 x6).1) ((kf a1 x2 x3 a4 x5 x6).2) ((kf a4 x5 x6 a1 x2 x3).1) ((kf a4 x5 x6 a1 x2 x3).2)).1)) ((kbf ((kf a1 x2 x3 a4 x5 x6).1) ((kf a1 x2 x3 a4 x5 x6).2) ((kf a4 x5 x6 a1 x2 x3).1) ((kf a4 x5 x6 a1 x2 x3).2)).2.1) ((mulN x3 x6).1)).1)),(kbd (((kbf ((kf a1 x2 x3 a4 x5 x6).1) ((kf a1 x2 x3 a4 x5 x6).2) ((kf a4 x5 x6 a1 x2 x3).1) ((kf a4 x5 x6 a1 x2 x3).2)).1)) ((kbf ((kf a1 x2 x3 a4 x5 x6).1) ((kf a1 x2 x3 a4 x5 x6).2) ((kf a4 x5 x6 a1 x2 x3).1) ((kf a4 x5 x6 a1 x2 x3).2)).2.1) ((mulN x3 x6).1)).2.1,(kbd (((kbf ((kf a1 x2 x3 a4 x5 x6).1) ((kf a1 x2 x3 a4 x5 x6).2) ((kf a4 x5 x6 a1 x2 x3).1) ((kf a4 x5 x6 a1 x2 x3).2)).1)) ((kbf ((kf a1 x2 x3 a4 x5 x6).1) ((kf a1 x2 x3 a4 x5 x6).2) ((kf a4 x5 x6 a1 x2 x3).1) ((kf a4 x5 x6 a1 x2 x3).2)).2.1) ((mulN x3 x6).1)).2.2.1,((kbd (((kbf ((kf a1 x2 x3 a4 x5 x6).1) ((kf a1 x2 x3 a4 x5 x6).2) ((kf a4 x5 x6 a1 x2 x3).1) ((kf a4 x5 x6 a1 x2 x3).2)).1)) ((kbf ((kf a1 x2 x3 a4 x5 x6).1) ((kf a1 x2 x3 a4 x5 x6).2) ((kf a4 x5 x6 a1 x2 x3).1) ((kf a4 x5 x6 a1 x2 x3).2)).2.1) ((mulN x3 x6).1)).2.2.2))))
theorem kyo{h:AH}{a2:Sl}{x2:List Nat}{a3:Sl}{x3:List Nat}{a5:Sl}{x5:List Nat}{a6:Sl}{x6:List Nat}(n2:Nats h a2 x2)(n3:Nats h a3 x3)(n5:Nats h a5 x5)(n6:Nats h a6 x6)(a1 a4:Bool):Runs (go (.fn kk9 [.agg [.bool a1,a2.v,a3.v],.agg [.bool a4,a5.v,a6.v]]) h) λv h'=>∃s1:Sl,∃s2:Sl,v=.tup [.agg [.bool (kb2 a1 x2 x3 a4 x5 x6).1,s1.v,s2.v],.i (kb2 a1 x2 x3 a4 x5 x6).2.2.2]/\Nats h' s1 ((kb2 a1 x2 x3 a4 x5 x6).2.1)/\Nats h' s2 ((kb2 a1 x2 x3 a4 x5 x6).2.2.1)/\Grow h h'/\Own h s1/\Own h s2:=by
 rw[kbd0];refine q0 λH7 b7 g7=>?_;refine q0 λH8 b8 g8=>?_;refine q0 λH9 b9 g9=>?_;refine qz (qbf ((g8.trans g9).has b7) 0 rfl rfl) (qz (qbf ((g8.trans g9).has b7) 1 rfl qcm) (qz (qbf ((g8.trans g9).has b7) 2 rfl qcm) ?_));have be:=((g7.trans g8).trans g9);have aa:=n2.grow be;have ac:=n3.grow be;obtain⟨_,dm,cj,rfl,A⟩:=kjm aa ac a1;refine qz cj (qz (seen rfl) (qz (qbf ((g9.trans A).has b8) 0 rfl rfl) (qz (qbf ((g9.trans A).has b8) 1 rfl qcm) (qz (qbf ((g9.trans A).has b8) 2 rfl qcm) ?_))));have aj:=(be.trans A);have V:=n5.grow aj;have X:=n6.grow aj;obtain⟨_,dn,cl,rfl,y⟩:=kjm V X a4;refine qz cl (qz (seen rfl) ?_);refine qbd (λaz=>?_) (λaz=>?_)
 ·refine qba ((A.trans y).has b9) rfl λdp bf ak=>?_;have cm:=(aa.grow (A.trans y)).upda (qbi n2 (qbq ((g7.trans g8)).size (qbp _))) ak;have cp:=(ac.grow (A.trans y)).upda (qbi n3 (qbq ((g7.trans g8)).size (qbp _))) ak;have cu:=(V.grow y).upda (qbi n5 (qbq ((g7.trans g8)).size (qbp _))) ak;have cv:=(X.grow y).upda (qbi n6 (qbq ((g7.trans g8)).size (qbp _))) ak;refine qz (qbf bf 0 rfl rfl) (qz (qbf bf 1 rfl qcm) (qz (qbf bf 2 rfl qcm) ?_));have z:kb2 a1 x2 x3 a4 x5 x6=(false,[],[],1):=by unfold kb2;exact(condT az).trans rfl
  rw[z];have cw:=((aj.trans y).updr (qbq ((g7.trans g8)).size (qbp _)) ak);exact qy ⟨(⟨none,0,.is 0⟩:Sl),(⟨none,0,.is 0⟩:Sl),rfl,(qw _),(qw _),cw,(qu _),(qu _)⟩
 ·refine qbd (λbg=>?_) (λbg=>?_)
  ·refine qba ((A.trans y).has b9) rfl λcx Y al=>?_;have cy:=(aa.grow (A.trans y)).upda (qbi n2 (qbq ((g7.trans g8)).size (qbp _))) al;have cz:=(ac.grow (A.trans y)).upda (qbi n3 (qbq ((g7.trans g8)).size (qbp _))) al;have c0:=(V.grow y).upda (qbi n5 (qbq ((g7.trans g8)).size (qbp _))) al;have c1:=(X.grow y).upda (qbi n6 (qbq ((g7.trans g8)).size (qbp _))) al;refine qz (qbf Y 0 rfl rfl) (qz (qbf Y 1 rfl qcm) (qz (qbf Y 2 rfl qcm) ?_));have z:kb2 a1 x2 x3 a4 x5 x6=(false,[],[],1):=by unfold kb2;exact(condF az).trans ((condT bg).trans rfl)
   rw[z];have bh:=((aj.trans y).updr (qbq ((g7.trans g8)).size (qbp _)) al);exact qy ⟨(⟨none,0,.is 0⟩:Sl),(⟨none,0,.is 0⟩:Sl),rfl,(qw _),(qw _),bh,(qu _),(qu _)⟩
  ·refine q0 λcx Y ae=>?_;have bh:=((((g8.trans g9).trans A).trans y).trans ae);have C:=bh.has b7;refine qz (qbf C 0 rfl rfl) (qz (qbf C 1 rfl qcm) (qz (qbf C 2 rfl qcm) ?_));have c2:=(((g9.trans A).trans y).trans ae);have F:=c2.has b8;refine qz (qbf F 0 rfl rfl) (qz (qbf F 1 rfl qcm) (qz (qbf F 2 rfl qcm) (qz (qbf F 0 rfl rfl) (qz (qbf F 1 rfl qcm) (qz (qbf F 2 rfl qcm) (qz (qbf C 0 rfl rfl) (qz (qbf C 1 rfl qcm) (qz (qbf C 2 rfl qcm) ?_))))))));have am:=((A.trans y).trans ae);have af:=aa.grow am;have ag:=ac.grow am;obtain⟨_,dq,c3,dr,rfl,bv,I,bw⟩:=kn3 af ag (V.grow (y.trans ae)) (X.grow (y.trans ae)) a1 a4;refine qz c3 (qz rfl ?_);refine qbb rfl ?_;refine qz (seenAt rfl rfl) (qz (seenAt rfl qcm) ?_);refine qbe (I.same C 0 3) ?_;refine qbe (I.same F 0 3) ?_;refine qbe (I.same Y 0 0) ?_;have bx:=((y.trans ae).trans I);have an:=V.grow bx;have ap:=X.grow bx;obtain⟨_,dt,c4,du,rfl,bz,Z,b0⟩:=kn3 an ap (af.grow I) (ag.grow I) a4 a1;refine qz c4 (qz rfl ?_);refine qbb rfl ?_;refine qz (seenAt rfl rfl) (qz (seenAt rfl qcm) ?_);refine qbe (Z.same (I.has Y) 0 0) ?_;obtain⟨_,dv,c5,dw,rfl,c6,ad,b1⟩:=k7v (bv.grow Z) bz ((kf a1 x2 x3 a4 x5 x6).1) ((kf a4 x5 x6 a1 x2 x3).1);refine qz c5 (qz rfl (qz rfl ?_));refine qbb rfl ?_;refine qz (seenAt rfl rfl) (qz (seenAt rfl qcm) (qz (seen qcn) ?_));refine qbe (ad.same ((I.trans Z).has Y) 0 0) ?_;have aq:=((I.trans Z).trans ad);have a0:=aq.has Y;refine qba a0 rfl λdx bi U=>?_;have ai:=(aj.trans y);have bj:=af.grow aq;have bk:=bj.upda (qbi n2 (qbq (ai).size (qbp _))) U;have bm:=ag.grow aq;have ar:=bm.upda (qbi n3 (qbq (ai).size (qbp _))) U;have bn:=(an.grow (Z.trans ad)).upda (qbi n5 (qbq (ai).size (qbp _))) U;have au:=(ap.grow (Z.trans ad)).upda (qbi n6 (qbq (ai).size (qbp _))) U;have ba:=(bv.grow (Z.trans ad)).upda (qbj bw (Y).lt) U;have bb:=(bz.grow ad).upda (qbj b0 (I.has Y).lt) U;have ah:=c6.upda (qbj b1 ((I.trans Z).has Y).lt) U;have bp:=aq.has C;have c7:=(((g8.trans g9).trans A).trans y);have aw:=qx bp (Nat.ne_of_lt (qbr (c7.has b7).lt (qbp _))) U;have bq:=aq.has F;have c8:=((g9.trans A).trans y);have ax:=qx bq (Nat.ne_of_lt (qbr (c8.has b8).lt (qbp _))) U;refine qz (qbf aw 2 rfl qcm) (qz (qbf ax 2 rfl qcm) ?_);obtain⟨dy,dz,c9,b2,H,da⟩:=ky8 ar au;refine qz c9 (qz rfl (qz (seen qcm) (qz (seen qcn) (qz (qbf (H.has bi) 0 rfl rfl) (qz (qbf (H.has bi) 1 rfl qcm) ?_)))));obtain⟨_,d0,db,dc,b3,rfl,dd,b4,Q,b5,bd⟩:=kr4 (ah.grow H) b2 (((kbf ((kf a1 x2 x3 a4 x5 x6).1) ((kf a1 x2 x3 a4 x5 x6).2) ((kf a4 x5 x6 a1 x2 x3).1) ((kf a4 x5 x6 a1 x2 x3).2)).1));refine qz db (qz rfl (qz rfl ?_));refine qbb rfl ?_;refine qz (seenAt rfl rfl) (qz (seenAt rfl qcm) (qz (seenAt rfl qcm) (qz (seen qcn) ?_)));have de:=((((((am.trans I).trans Z).trans ad).updr (qbq ((A.trans y)).size (qbp _)) U).trans H).trans Q);have br:=de.has b9;refine qba br rfl λd1 bt K=>?_;have df:=(bk.grow (H.trans Q)).upda (qbi n2 (qbq ((g7.trans g8)).size (qbp _))) K;have dg:=(ar.grow (H.trans Q)).upda (qbi n3 (qbq ((g7.trans g8)).size (qbp _))) K;have dh:=(bn.grow (H.trans Q)).upda (qbi n5 (qbq ((g7.trans g8)).size (qbp _))) K;have di:=(au.grow (H.trans Q)).upda (qbi n6 (qbq ((g7.trans g8)).size (qbp _))) K;have cd:=(ba.grow (H.trans Q)).upda (qbj bw (am.has b9).lt) K;have b6:=(am.trans I);have ce:=(bb.grow (H.trans Q)).upda (qbj b0 (b6.has b9).lt) K;have ca:=(b6.trans Z);have cf:=(ah.grow (H.trans Q)).upda (qbj b1 (ca.has b9).lt) K;have cb:=((ca.trans ad).updr (qbq ((A.trans y)).size (qbp _)) U);have cg:=(b2.grow Q).upda (qbj da (cb.has b9).lt) K;have cc:=(cb.trans H);have bc:=dd.upda (qbj b5 (cc.has b9).lt) K;have ay:=b4.upda (qbj bd (cc.has b9).lt) K;have dj:=qx ((H.trans Q).has aw) (Nat.ne_of_lt (qbr (g8.has b7).lt (qbp _))) K;have dk:=qx ((H.trans Q).has ax) (Nat.ne_of_lt (qbr (b8).lt (qbp _))) K;have ci:=qx ((H.trans Q).has bi) (Nat.ne_of_gt (qbr ((A.trans y).has b9).lt (qbp _))) K;refine qz (qbf bt 0 rfl rfl) (qz (qbf bt 1 rfl qcm) (qz (qbf bt 2 rfl qcm) ?_));have z:kb2 a1 x2 x3 a4 x5 x6=((((kbd (((kbf ((kf a1 x2 x3 a4 x5 x6).1) ((kf a1 x2 x3 a4 x5 x6).2) ((kf a4 x5 x6 a1 x2 x3).1) ((kf a4 x5 x6 a1 x2 x3).2)).1)) ((kbf ((kf a1 x2 x3 a4 x5 x6).1) ((kf a1 x2 x3 a4 x5 x6).2) ((kf a4 x5 x6 a1 x2 x3).1) ((kf a4 x5 x6 a1 x2 x3).2)).2.1) ((mulN x3 x6).1)).1)),(kbd (((kbf ((kf a1 x2 x3 a4 x5 x6).1) ((kf a1 x2 x3 a4 x5 x6).2) ((kf a4 x5 x6 a1 x2 x3).1) ((kf a4 x5 x6 a1 x2 x3).2)).1)) ((kbf ((kf a1 x2 x3 a4 x5 x6).1) ((kf a1 x2 x3 a4 x5 x6).2) ((kf a4 x5 x6 a1 x2 x3).1) ((kf a4 x5 x6 a1 x2 x3).2)).2.1) ((mulN x3 x6).1)).2.1,(kbd (((kbf ((kf a1 x2 x3 a4 x5 x6).1) ((kf a1 x2 x3 a4 x5 x6).2) ((kf a4 x5 x6 a1 x2 x3).1) ((kf a4 x5 x6 a1 x2 x3).2)).1)) ((kbf ((kf a1 x2 x3 a4 x5 x6).1) ((kf a1 x2 x3 a4 x5 x6).2) ((kf a4 x5 x6 a1 x2 x3).1) ((kf a4 x5 x6 a1 x2 x3).2)).2.1) ((mulN x3 x6).1)).2.2.1,((kbd (((kbf ((kf a1 x2 x3 a4 x5 x6).1) ((kf a1 x2 x3 a4 x5 x6).2) ((kf a4 x5 x6 a1 x2 x3).1) ((kf a4 x5 x6 a1 x2 x3).2)).1)) ((kbf ((kf a1 x2 x3 a4 x5 x6).1) ((kf a1 x2 x3 a4 x5 x6).2) ((kf a4 x5 x6 a1 x2 x3).1) ((kf a4 x5 x6 a1 x2 x3).2)).2.1) ((mulN x3 x6).1)).2.2.2)):=by unfold kb2;exact(condF az).trans ((condF bg).trans rfl)
   rw[z];have bu:=((((((ai.trans ae).trans I).trans Z).trans ad).updr (qbq (ai).size (qbp _)) U).trans H);have dl:=((bu.trans Q).updr (qbq ((g7.trans g8)).size (qbp _)) K);exact qy ⟨dc,b3,rfl,bc,ay,dl,(b5.of_le bu),(bd.of_le bu)⟩
def kcw(a1:Bool)(x2 x3:List Nat)(a4:Bool)(x5 x6:List Nat):Bool×List Nat×List Nat×Int :=
 cond (!((kbb a1 x2 x3))) ((false,[],[],1)) (cond (!((kbb a4 x5 x6))) ((false,[],[],1)) (((((kb2 a1 x2 x3 ((negI a4 x5).1) ((negI a4 x5).2) x6).1)),(kb2 a1 x2 x3 ((negI a4 x5).1) ((negI a4 x5).2) x6).2.1,(kb2 a1 x2 x3 ((negI a4 x5).1) ((negI a4 x5).2) x6).2.2.1,((kb2 a1 x2 x3 ((negI a4 x5).1) ((negI a4 x5).2) x6).2.2.2))))
theorem kbfy{h:AH}{a2:Sl}{x2:List Nat}{a3:Sl}{x3:List Nat}{a5:Sl}{x5:List Nat}{a6:Sl}{x6:List Nat}(n2:Nats h a2 x2)(n3:Nats h a3 x3)(n5:Nats h a5 x5)(n6:Nats h a6 x6)(a1 a4:Bool):Runs (go (.fn kou [.agg [.bool a1,a2.v,a3.v],.agg [.bool a4,a5.v,a6.v]]) h) λv h'=>∃s1:Sl,∃s2:Sl,v=.tup [.agg [.bool (kcw a1 x2 x3 a4 x5 x6).1,s1.v,s2.v],.i (kcw a1 x2 x3 a4 x5 x6).2.2.2]/\Nats h' s1 ((kcw a1 x2 x3 a4 x5 x6).2.1)/\Nats h' s2 ((kcw a1 x2 x3 a4 x5 x6).2.2.1)/\Grow h h'/\Own h s1/\Own h s2:=by
 rw[kbbt];refine q0 λH7 b7 Z=>?_;refine q0 λH8 b8 K=>?_;refine q0 λH9 b9 g9=>?_;refine qz (qbf ((K.trans g9).has b7) 0 rfl rfl) (qz (qbf ((K.trans g9).has b7) 1 rfl qcm) (qz (qbf ((K.trans g9).has b7) 2 rfl qcm) ?_));have al:=((Z.trans K).trans g9);have U:=n2.grow al;have V:=n3.grow al;obtain⟨_,ca,be,rfl,A⟩:=kjm U V a1;refine qz be (qz (seen rfl) (qz (qbf ((g9.trans A).has b8) 0 rfl rfl) (qz (qbf ((g9.trans A).has b8) 1 rfl qcm) (qz (qbf ((g9.trans A).has b8) 2 rfl qcm) ?_))));have aa:=(al.trans A);have C:=n5.grow aa;have F:=n6.grow aa;obtain⟨_,cb,bf,rfl,y⟩:=kjm C F a4;refine qz bf (qz (seen rfl) ?_);refine qbd (λai=>?_) (λai=>?_)
 ·refine qba ((A.trans y).has b9) rfl λcc am ac=>?_;have bg:=(U.grow (A.trans y)).upda (qbi n2 (qbq ((Z.trans K)).size (qbp _))) ac;have bh:=(V.grow (A.trans y)).upda (qbi n3 (qbq ((Z.trans K)).size (qbp _))) ac;have bi:=(C.grow y).upda (qbi n5 (qbq ((Z.trans K)).size (qbp _))) ac;have bj:=(F.grow y).upda (qbi n6 (qbq ((Z.trans K)).size (qbp _))) ac;refine qz (qbf am 0 rfl rfl) (qz (qbf am 1 rfl qcm) (qz (qbf am 2 rfl qcm) ?_));have z:kcw a1 x2 x3 a4 x5 x6=(false,[],[],1):=by unfold kcw;exact(condT ai).trans rfl
  rw[z];have an:=((aa.trans y).updr (qbq ((Z.trans K)).size (qbp _)) ac);exact qy ⟨(⟨none,0,.is 0⟩:Sl),(⟨none,0,.is 0⟩:Sl),rfl,(qw _),(qw _),an,(qu _),(qu _)⟩
 ·refine qbd (λap=>?_) (λap=>?_)
  ·refine qba ((A.trans y).has b9) rfl λcd aq ad=>?_;have bk:=(U.grow (A.trans y)).upda (qbi n2 (qbq ((Z.trans K)).size (qbp _))) ad;have bm:=(V.grow (A.trans y)).upda (qbi n3 (qbq ((Z.trans K)).size (qbp _))) ad;have bn:=(C.grow y).upda (qbi n5 (qbq ((Z.trans K)).size (qbp _))) ad;have bp:=(F.grow y).upda (qbi n6 (qbq ((Z.trans K)).size (qbp _))) ad;refine qz (qbf aq 0 rfl rfl) (qz (qbf aq 1 rfl qcm) (qz (qbf aq 2 rfl qcm) ?_));have z:kcw a1 x2 x3 a4 x5 x6=(false,[],[],1):=by unfold kcw;exact(condF ai).trans ((condT ap).trans rfl)
   rw[z];have bq:=((aa.trans y).updr (qbq ((Z.trans K)).size (qbp _)) ad);exact qy ⟨(⟨none,0,.is 0⟩:Sl),(⟨none,0,.is 0⟩:Sl),rfl,(qw _),(qw _),bq,(qu _),(qu _)⟩
  ·have an:=(((K.trans g9).trans A).trans y);have H:=an.has b7;refine qz (qbf H 0 rfl rfl) (qz (qbf H 1 rfl qcm) (qz (qbf H 2 rfl qcm) ?_));have br:=((g9.trans A).trans y);have I:=br.has b8;refine qz (qbf I 0 rfl rfl) (qz (qbf I 1 rfl qcm) (qz (qbf I 2 rfl qcm) ?_));obtain⟨ce,cf,bt,az,X,bu⟩:=k9f (C.grow y) a4;refine qz bt (qz rfl ?_);refine qbb rfl ?_;refine qz (seenAt rfl rfl) (qz (seenAt rfl qcm) ?_);refine qbe (X.same I 2 1) ?_;refine qbe (X.same H 0 3) ?_;have ae:=((A.trans y).trans X);have af:=U.grow ae;have ag:=V.grow ae;obtain⟨_,cg,bv,bw,a0,rfl,bx,ba,Y,bb,ak⟩:=kyo af ag az (F.grow (y.trans X)) a1 ((negI a4 x5).1);refine qz bv (qz rfl (qz rfl ?_));refine qbb rfl ?_;refine qz (seenAt rfl rfl) (qz (seenAt rfl qcm) (qz (seenAt rfl qcm) (qz (seen qcn) ?_)));have bz:=(ae.trans Y);have ar:=bz.has b9;refine qba ar rfl λci au Q=>?_;have b0:=(af.grow Y).upda (qbi n2 (qbq ((Z.trans K)).size (qbp _))) Q;have b1:=(ag.grow Y).upda (qbi n3 (qbq ((Z.trans K)).size (qbp _))) Q;have bc:=((y.trans X).trans Y);have aw:=C.grow bc;have b2:=aw.upda (qbi n5 (qbq ((Z.trans K)).size (qbp _))) Q;have ax:=F.grow bc;have b3:=ax.upda (qbi n6 (qbq ((Z.trans K)).size (qbp _))) Q;have bd:=(az.grow Y).upda (qbj bu ((A.trans y).has b9).lt) Q;have aj:=bx.upda (qbj bb (ae.has b9).lt) Q;have ah:=ba.upda (qbj ak (ae.has b9).lt) Q;have b4:=qx ((X.trans Y).has H) (Nat.ne_of_lt (qbr (K.has b7).lt (qbp _))) Q;have b5:=qx ((X.trans Y).has I) (Nat.ne_of_lt (qbr (b8).lt (qbp _))) Q;refine qz (qbf au 0 rfl rfl) (qz (qbf au 1 rfl qcm) (qz (qbf au 2 rfl qcm) ?_));have z:kcw a1 x2 x3 a4 x5 x6=((((kb2 a1 x2 x3 ((negI a4 x5).1) ((negI a4 x5).2) x6).1)),(kb2 a1 x2 x3 ((negI a4 x5).1) ((negI a4 x5).2) x6).2.1,(kb2 a1 x2 x3 ((negI a4 x5).1) ((negI a4 x5).2) x6).2.2.1,((kb2 a1 x2 x3 ((negI a4 x5).1) ((negI a4 x5).2) x6).2.2.2)):=by unfold kcw;exact(condF ai).trans ((condF ap).trans rfl)
   rw[z];have ay:=((aa.trans y).trans X);have b6:=((ay.trans Y).updr (qbq ((Z.trans K)).size (qbp _)) Q);exact qy ⟨bw,a0,rfl,aj,ah,b6,(bb.of_le ay),(ak.of_le ay)⟩
theorem kbh5{h:AH}{a2:Sl}{x2:List Nat}{a3:Sl}{x3:List Nat}{a5:Sl}{x5:List Nat}{a6:Sl}{x6:List Nat}(y:Nats h a2 x2)(A:Nats h a3 x3)(C:Nats h a5 x5)(F:Nats h a6 x6){a1 a4:Bool}{r:_}(q:kcw a1 x2 x3 a4 x5 x6=r):Runs (go (.fn kou [.agg [.bool a1,a2.v,a3.v],.agg [.bool a4,a5.v,a6.v]]) h) λv h'=>∃s1:Sl,∃s2:Sl,v=.tup [.agg [.bool r.1,s1.v,s2.v],.i r.2.2.2]/\Nats h' s1 (r.2.1)/\Nats h' s2 (r.2.2.1)/\Grow h h'/\Own h s1/\Own h s2:=by
 subst q;exact kbfy y A C F a1 a4
theorem k6b{h:AH}{a2:Sl}{x2:List Nat}{a3:Sl}{x3:List Nat}{a5:Sl}{x5:List Nat}{a6:Sl}{x6:List Nat}(y:Nats h a2 x2)(A:Nats h a3 x3)(C:Nats h a5 x5)(F:Nats h a6 x6){a1 a4:Bool}{r:_}(q:kb2 a1 x2 x3 a4 x5 x6=r):Runs (go (.fn kk9 [.agg [.bool a1,a2.v,a3.v],.agg [.bool a4,a5.v,a6.v]]) h) λv h'=>∃s1:Sl,∃s2:Sl,v=.tup [.agg [.bool r.1,s1.v,s2.v],.i r.2.2.2]/\Nats h' s1 (r.2.1)/\Nats h' s2 (r.2.2.1)/\Grow h h'/\Own h s1/\Own h s2:=by
 subst q;exact kyo y A C F a1 a4
def kfw(a1:Bool)(x2 x3:List Nat)(a4:Bool)(x5 x6:List Nat):Int :=
 cond (!((kbb a1 x2 x3&&kbb a4 x5 x6))) (0) ((cmpI ((kf a1 x2 x3 a4 x5 x6).1) ((kf a1 x2 x3 a4 x5 x6).2) ((kf a4 x5 x6 a1 x2 x3).1) ((kf a4 x5 x6 a1 x2 x3).2)))
theorem kbew{h:AH}{a2:Sl}{x2:List Nat}{a3:Sl}{x3:List Nat}{a5:Sl}{x5:List Nat}{a6:Sl}{x6:List Nat}(n2:Nats h a2 x2)(n3:Nats h a3 x3)(n5:Nats h a5 x5)(n6:Nats h a6 x6)(a1 a4:Bool):Runs (go (.fn kr3 [.agg [.bool a1,a2.v,a3.v],.agg [.bool a4,a5.v,a6.v]]) h) λv h'=>v=.i (kfw a1 x2 x3 a4 x5 x6)/\Grow h h':=by
 rw[k5n];refine q0 λH7 b7 g7=>?_;refine q0 λH8 U Z=>?_;refine qz (qbf (Z.has b7) 0 rfl rfl) (qz (qbf (Z.has b7) 1 rfl qcm) (qz (qbf (Z.has b7) 2 rfl qcm) (qz (qbf U 0 rfl rfl) (qz (qbf U 1 rfl qcm) (qz (qbf U 2 rfl qcm) ?_)))));refine q0 λH9 b9 V=>?_;have Q:=((g7.trans Z).trans V);have C:=n2.grow Q;have F:=n3.grow Q;have H:=n5.grow Q;have I:=n6.grow Q;obtain⟨ak,ac,y⟩:=k2r b9 C F H I;refine qz ac (qz (seen rfl) ?_);refine qbd (λX=>?_) (λX=>?_)
 ·have z:kfw a1 x2 x3 a4 x5 x6=0:=by unfold kfw;exact(condT X).trans rfl
  rw[z];have Y:=(Q.trans y);exact qy ⟨rfl,Y⟩
 ·have Y:=((Z.trans V).trans y);have A:=Y.has b7;refine qz (qbf A 0 rfl rfl) (qz (qbf A 1 rfl qcm) (qz (qbf A 2 rfl qcm) (qz (qbf ((V.trans y).has U) 0 rfl rfl) (qz (qbf ((V.trans y).has U) 1 rfl qcm) (qz (qbf ((V.trans y).has U) 2 rfl qcm) (qz (qbf ((V.trans y).has U) 0 rfl rfl) (qz (qbf ((V.trans y).has U) 1 rfl qcm) (qz (qbf ((V.trans y).has U) 2 rfl qcm) (qz (qbf A 0 rfl rfl) (qz (qbf A 1 rfl qcm) (qz (qbf A 2 rfl qcm) ?_)))))))))));obtain⟨_,al,ad,am,rfl,ae,K,an⟩:=kp2 (C.grow y) (F.grow y) (H.grow y) (I.grow y) a1 a4;refine qz ad (qz rfl ?_);refine qbb rfl ?_;refine qz (seenAt rfl rfl) (qz (seenAt rfl qcm) ?_);refine qbe (K.same A 0 3) ?_;refine qbe (K.same ((V.trans y).has U) 0 3) ?_;obtain⟨_,ap,af,aq,rfl,ag,aa,ar⟩:=kp2 (H.grow (y.trans K)) (I.grow (y.trans K)) (C.grow (y.trans K)) (F.grow (y.trans K)) a4 a1;refine qz af (qz rfl ?_);refine qbb rfl ?_;refine qz (seenAt rfl rfl) (qz (seenAt rfl qcm) ?_);obtain⟨au,ah,ai⟩:=kbeb (ae.grow aa) ag ((kf a1 x2 x3 a4 x5 x6).1) ((kf a4 x5 x6 a1 x2 x3).1);refine qz ah (qz (seen qcn) ?_);have z:kfw a1 x2 x3 a4 x5 x6=(cmpI ((kf a1 x2 x3 a4 x5 x6).1) ((kf a1 x2 x3 a4 x5 x6).2) ((kf a4 x5 x6 a1 x2 x3).1) ((kf a4 x5 x6 a1 x2 x3).2)):=by unfold kfw;exact(condF X).trans rfl
  rw[z];have aj:=((((Q.trans y).trans K).trans aa).trans ai);exact qy ⟨rfl,aj⟩
def kfs(a1:Bool)(x2 x3:List Nat)(a4:Bool)(x5 x6:List Nat):Int :=
 cond (!((kbb a1 x2 x3))) (0) (cond (!((kbb a4 x5 x6))) (0) ((cmpI ((kf a1 x2 x3 a4 x5 x6).1) ((kf a1 x2 x3 a4 x5 x6).2) ((kf a4 x5 x6 a1 x2 x3).1) ((kf a4 x5 x6 a1 x2 x3).2))))
theorem k7g{h:AH}{a2:Sl}{x2:List Nat}{a3:Sl}{x3:List Nat}{a5:Sl}{x5:List Nat}{a6:Sl}{x6:List Nat}(n2:Nats h a2 x2)(n3:Nats h a3 x3)(n5:Nats h a5 x5)(n6:Nats h a6 x6)(a1 a4:Bool):Runs (go (.fn ks9 [.agg [.bool a1,a2.v,a3.v],.agg [.bool a4,a5.v,a6.v]]) h) λv h'=>v=.i (kfs a1 x2 x3 a4 x5 x6)/\Grow h h':=by
 rw[kba9];refine q0 λH7 b7 g7=>?_;refine q0 λH8 V Y=>?_;refine qz (qbf (Y.has b7) 0 rfl rfl) (qz (qbf (Y.has b7) 1 rfl qcm) (qz (qbf (Y.has b7) 2 rfl qcm) ?_));obtain⟨_,H9,e9,rfl,I⟩:=kjm (n2.grow (g7.trans Y)) (n3.grow (g7.trans Y)) a1;refine qz e9 (qz (seen rfl) (qz (qbf (I.has V) 0 rfl rfl) (qz (qbf (I.has V) 1 rfl qcm) (qz (qbf (I.has V) 2 rfl qcm) ?_))));have K:=((g7.trans Y).trans I);have C:=n5.grow K;have F:=n6.grow K;obtain⟨_,an,ae,rfl,y⟩:=kjm C F a4;refine qz ae (qz (seen rfl) ?_);refine qbd (λX=>?_) (λX=>?_)
 ·have z:kfs a1 x2 x3 a4 x5 x6=0:=by unfold kfs;exact(condT X).trans rfl
  rw[z];have af:=(K.trans y);exact qy ⟨rfl,af⟩
 ·refine qbd (λZ=>?_) (λZ=>?_)
  ·have z:kfs a1 x2 x3 a4 x5 x6=0:=by unfold kfs;exact(condF X).trans ((condT Z).trans rfl)
   rw[z];have aa:=(K.trans y);exact qy ⟨rfl,aa⟩
  ·have aa:=((Y.trans I).trans y);have A:=aa.has b7;refine qz (qbf A 0 rfl rfl) (qz (qbf A 1 rfl qcm) (qz (qbf A 2 rfl qcm) (qz (qbf ((I.trans y).has V) 0 rfl rfl) (qz (qbf ((I.trans y).has V) 1 rfl qcm) (qz (qbf ((I.trans y).has V) 2 rfl qcm) (qz (qbf ((I.trans y).has V) 0 rfl rfl) (qz (qbf ((I.trans y).has V) 1 rfl qcm) (qz (qbf ((I.trans y).has V) 2 rfl qcm) (qz (qbf A 0 rfl rfl) (qz (qbf A 1 rfl qcm) (qz (qbf A 2 rfl qcm) ?_)))))))))));have ac:=(K.trans y);have Q:=n2.grow ac;have U:=n3.grow ac;obtain⟨_,ap,ag,aq,rfl,ah,H,ar⟩:=kn3 Q U (C.grow y) (F.grow y) a1 a4;refine qz ag (qz rfl ?_);refine qbb rfl ?_;refine qz (seenAt rfl rfl) (qz (seenAt rfl qcm) ?_);refine qbe (H.same A 0 3) ?_;refine qbe (H.same ((I.trans y).has V) 0 3) ?_;obtain⟨_,au,ai,aw,rfl,aj,ad,ax⟩:=kn3 (C.grow (y.trans H)) (F.grow (y.trans H)) (Q.grow H) (U.grow H) a4 a1;refine qz ai (qz rfl ?_);refine qbb rfl ?_;refine qz (seenAt rfl rfl) (qz (seenAt rfl qcm) ?_);obtain⟨ay,ak,al⟩:=k58 (ah.grow ad) aj ((kf a1 x2 x3 a4 x5 x6).1) ((kf a4 x5 x6 a1 x2 x3).1);refine qz ak (qz (seen qcn) ?_);have z:kfs a1 x2 x3 a4 x5 x6=(cmpI ((kf a1 x2 x3 a4 x5 x6).1) ((kf a1 x2 x3 a4 x5 x6).2) ((kf a4 x5 x6 a1 x2 x3).1) ((kf a4 x5 x6 a1 x2 x3).2)):=by unfold kfs;exact(condF X).trans ((condF Z).trans rfl)
   rw[z];have am:=(((ac.trans H).trans ad).trans al);exact qy ⟨rfl,am⟩
def fracM(z:Int)(d:Nat):Bool×List Nat×List Nat×Int :=
 if z.natAbs/Nat.gcd z.natAbs d<B^16/\d/Nat.gcd z.natAbs d<B^16 then((intD (z/(Nat.gcd z.natAbs d:Int))).1,(intD (z/(Nat.gcd z.natAbs d:Int))).2,digs B (d/Nat.gcd z.natAbs d),0)else(false,[],[],4)
theorem kpx(m:Nat):decide ((List.length (digs B m):Int)>16)=!decide (m<B^16):=by
 have h:=kbj B2 m 16;by_cases k:m<B^16
 ·have:=h.2 k;rw[qbx k,qbv.2 (by omega)];rfl
 ·have:¬(digs B m).length<=16:=λe=>k (h.1 e);rw[qby k,decide_eq_true_iff.2 (by omega)];rfl
theorem k1s{a b:Nat}(y:a<B^64)(A:b<B^64):gcdN (digs B a) (digs B b)=(digs B (Nat.gcd a b),0):=by
 unfold gcdN;rw[if_pos ⟨kbp y,kbp A⟩,ko B2,ko B2]
theorem k1k{a b:Nat}(y:a<B^64)(A:b<B^64)(h0:b≠0):divN (digs B a) (digs B b)=(digs B (a/b),digs B (a%b),0):=by
 unfold divN;rw[if_pos ⟨kbp y,kbp A⟩,if_neg (λe=>h0 ((kf4 B2).1 e)),ko B2,ko B2]
theorem k4o{z:Int}{g:Nat}(h0:0<g)(h:g∣z.natAbs):z/(g:Int)=if z<0 then -((z.natAbs/g:Nat):Int)else((z.natAbs/g:Nat):Int):=by
 obtain⟨k,y⟩:=h;rw[y,Nat.mul_div_cancel_left _ h0];have A:(g:Int)≠0:=by omega
 by_cases C:z<0
 ·rw[if_pos C]
  have:z=(g:Int)*(-(k:Int)):=by
   rw[Int.mul_neg,<- Int.natCast_mul,<- y];omega
  rw[this,Int.mul_ediv_cancel_left _ A]
 ·rw[if_neg C]
  have:z=(g:Int)*(k:Int):=by
   rw[<- Int.natCast_mul,<- y];omega
  rw[this,Int.mul_ediv_cancel_left _ A]
theorem ko5{z:Int}{d:Nat}(F:z.natAbs<B^64)(H:d<B^64)(h0:d≠0):kbd (intD z).1 (intD z).2 (digs B d)=fracM z d:=by
 unfold kbd fracM;have K:0<Nat.gcd z.natAbs d:=Nat.gcd_pos_of_pos_right _ (by omega);have U:Nat.gcd z.natAbs d<=d:=Nat.gcd_le_right _ (by omega);rw[kdc F,kbp H];have V:(intD z).2=digs B z.natAbs:=rfl;have Q:z.natAbs/Nat.gcd z.natAbs d<B^64:=qbs (Nat.div_le_self _ _) F;have X:d/Nat.gcd z.natAbs d<B^64:=qbs (Nat.div_le_self _ _) H;rw[V,k1s F H];have A:Nat.gcd z.natAbs d<B^64:=by omega
 simp only[Bool.not_true,cond_false];rw[k1k F A (by omega),k1k H A (by omega),kmh,qby (λe=>h0 ((kf4 B2).1 e)),cond_false];dsimp only
 have k:∀u v:Int,decide (imax u v>16)=(decide (u>16)||decide (v>16)):=by
  intro u v;rw[kij,Bool.eq_iff_iff];simp only[qb9,qbw];omega
 rw[k,kpx,kpx,keh Q,k4o K (Nat.gcd_dvd_left _ _)];have s:(intD z).1=decide (z<0):=rfl;rw[s];simp only[qbw];generalize (if z<0 then -((z.natAbs/Nat.gcd z.natAbs d:Nat):Int)else((z.natAbs/Nat.gcd z.natAbs d:Nat):Int))=y;by_cases C:z.natAbs/Nat.gcd z.natAbs d<B^16
 ·by_cases I:d/Nat.gcd z.natAbs d<B^16
  ·rw[if_pos ⟨C,I⟩,qbx C,qbx I];rfl
  ·rw[if_neg (λh=>I h.2),qby I,qbx C];rfl
 ·rw[if_neg (λh=>C h.1),qby C];rfl
structure IsFrac(p:Bool)(xs ys:List Nat)(z:Int)(d:Nat):Prop where
 p:p=(intD z).1
 xs:xs=(intD z).2
 ys:ys=digs B d
 pos:0<d
 zlt:z.natAbs<B^16
 dlt:d<B^16
 co:Nat.gcd z.natAbs d=1
theorem k1a{z:Int}{d:Nat}(F:z.natAbs<B^64)(H:d<B^64):kbb (intD z).1 (intD z).2 (digs B d)=decide (0<d/\z.natAbs<B^16/\d<B^16/\Nat.gcd z.natAbs d=1):=by
 unfold kbb;rw[kdc F,kbp H];have K:(intD z).2=digs B z.natAbs:=rfl;rw[K,k1s F H,kmh,kpx,kpx];simp only[Bool.not_true,cond_false];by_cases I:d=0
 ·subst I;rw[kcc];simp
 ·rw[qby (λe=>I ((kf4 B2).1 e)),cond_false];by_cases y:d<B^16
  ·rw[qbx y];by_cases A:z.natAbs<B^16
   ·rw[qbx A];simp only[Bool.not_true,cond_false]
    have Q:Nat.gcd z.natAbs d<B^64:=by
     have:=Nat.gcd_le_right z.natAbs (n:=d) (by omega);omega
    unfold cmpN;rw[if_pos ⟨kbp Q,by decide +kernel⟩,ko B2];rw[show num B [1]=1 from by decide +kernel];unfold cmp;by_cases h1:Nat.gcd z.natAbs d<1
    ·rw[if_pos h1,qby (by decide),qby];intro h;omega
    ·rw[if_neg h1];by_cases C:Nat.gcd z.natAbs d=1
     ·rw[if_pos C,qbx rfl,qbx];exact⟨by omega,A,y,C⟩
     ·rw[if_neg C,qby (by decide),qby];exactλh=>C h.2.2.2
   ·rw[qby A];simp only[Bool.not_true,cond_false,Bool.not_false,cond_true];symm;rw[qbv];exactλh=>A h.2.1
  ·rw[qby y];simp only[Bool.not_false,cond_true];symm;rw[qbv];exactλh=>y h.2.2.1
theorem kgs{n:Nat}(h:n<B^16):n<B^64:=qbr h (Nat.pow_le_pow_right (by decide) (by decide))
theorem IsFrac.right{p:Bool}{xs ys:List Nat}{z:Int}{d:Nat}(f:IsFrac p xs ys z d):kbb p xs ys=true:=by
 obtain⟨rfl,rfl,rfl,h0,h1,y,A⟩:=f;rw[k1a (kgs h1) (kgs y),qbw];exact⟨h0,h1,y,A⟩
theorem IsFrac.of{p:Bool}{xs ys:List Nat}(C:∀x∈xs,x<B)(y:∀x∈ys,x<B)(h:kbb p xs ys=true):∃(z:Int)(d:Nat),IsFrac p xs ys z d:=by
 have h1:rtI p xs=true:=by
  cases e:rtI p xs with
  | true=>rfl
  | false =>
   unfold kbb at h;rw[e]at h;cases h
 have A:rt ys=true:=by
  cases e:rt ys with
  | true=>rfl
  | false =>
   unfold kbb at h;rw[e,h1]at h;cases h
 obtain⟨z,rfl,rfl,F⟩:=of_rtI C h1;have H:=kjc y A;have e:ys=digs B (num B ys):=(ke6 B2 y (rt_iff.1 A).2).symm;rw[e,k1a F H,qbw]at h;exact⟨z,num B ys,rfl,rfl,e,h.1,h.2.1,h.2.2.1,h.2.2.2⟩
theorem mul16{a b:Nat}(y:a<B^16)(A:b<B^16):a*b<B^16*B^16:=Nat.mul_lt_mul'' y A
theorem B32_64:B^16*B^16*2<=B^64:=by decide +kernel
theorem koo{p q:Bool}{xs ys us vs:List Nat}{z w:Int}{d e:Nat}(f:IsFrac p xs ys z d)(k:IsFrac q us vs w e):kf p xs ys q us vs=intD (z*(e:Int))/\(z*(e:Int)).natAbs<B^16*B^16:=by
 have y:(z*(e:Int)).natAbs<B^16*B^16:=by
  rw[Int.natAbs_mul,Int.natAbs_natCast];exact mul16 f.zlt k.dlt
 refine⟨?_,y⟩;unfold kf;rw[k.ys,keh (kgs k.dlt),f.p,f.xs];simp only[qcl,if_false];have A:=B32_64;rw[kjd (kgs f.zlt) (by simpa using kgs k.dlt),if_pos (by omega)]
theorem k28{d e:Nat}(y:d<B^16)(A:e<B^16):mulN (digs B d) (digs B e)=(digs B (d*e),0):=by
 unfold mulN;rw[if_pos ⟨kbp (kgs y),kbp (kgs A)⟩,ko B2,ko B2,kof];have:=mul16 y A;have:=B32_64;omega
theorem Add_of{p q:Bool}{xs ys us vs:List Nat}{z w:Int}{d e:Nat}(f:IsFrac p xs ys z d)(k:IsFrac q us vs w e):kc4 p xs ys q us vs=fracM (z*(e:Int)+w*(d:Int)) (d*e):=by
 unfold kc4 kc6 kcy;rw[f.right,k.right];obtain⟨y,b1⟩:=koo f k;obtain⟨A,b2⟩:=koo k f;have C:=B32_64;rw[y,A,k30 (by omega) (by omega),if_pos (by omega)];dsimp only[Bool.and_self,Bool.not_true,cond_false];have F:=mul16 f.dlt k.dlt;have H:=Nat.mul_pos f.pos k.pos;rw[f.ys,k.ys,k28 f.dlt k.dlt];dsimp only;rw[ko5 (by omega) (by omega) (by omega)];generalize fracM _ _=r;obtain⟨r1,r2,I,K⟩:=r;rfl
theorem Sub_of{p q:Bool}{xs ys us vs:List Nat}{z w:Int}{d e:Nat}(f:IsFrac p xs ys z d)(k:IsFrac q us vs w e):kdh p xs ys q us vs=fracM (z*(e:Int)-w*(d:Int)) (d*e):=by
 unfold kdh kc3 kcy;rw[f.right,k.right];obtain⟨y,b1⟩:=koo f k;obtain⟨A,b2⟩:=koo k f;have C:=B32_64;rw[y,A,kbc0 (by omega) (by omega),if_pos (by omega)];dsimp only[Bool.and_self,Bool.not_true,cond_false];have F:=mul16 f.dlt k.dlt;have H:=Nat.mul_pos f.pos k.pos;rw[f.ys,k.ys,k28 f.dlt k.dlt];dsimp only;rw[ko5 (by omega) (by omega) (by omega)];generalize fracM _ _=r;obtain⟨r1,r2,I,K⟩:=r;rfl
theorem k3g:kb2=kc4:=by
 funext p xs ys q us vs;unfold kb2 kc4 kc6 kcy;cases kbb p xs ys<;>cases kbb q us vs<;>rfl
theorem kbgm:kfs=kfw:=by
 funext p xs ys q us vs;unfold kfs kfw;cases kbb p xs ys<;>cases kbb q us vs<;>rfl
theorem IsFrac.neg{q:Bool}{us vs:List Nat}{w:Int}{e:Nat}(k:IsFrac q us vs w e):IsFrac (negI q us).1 (negI q us).2 vs (-w) e:=by
 have:=kvw (kgs k.zlt);rw[k.p,k.xs,this];exact⟨rfl,rfl,k.ys,k.pos,by rw[Int.natAbs_neg];exact k.zlt,k.dlt,by rw[Int.natAbs_neg];exact k.co⟩
theorem kbfn{p q:Bool}{xs ys us vs:List Nat}(A:∀x∈xs,x<B)(C:∀x∈ys,x<B)(F:∀x∈us,x<B)(H:∀x∈vs,x<B):kcw p xs ys q us vs=kdh p xs ys q us vs:=by
 cases h1:kbb p xs ys with
 | false =>
  unfold kcw kdh kc3 kcy;rw[h1];rfl
 | true =>
  cases y:kbb q us vs with
  | false =>
   unfold kcw kdh kc3 kcy;rw[h1,y];rfl
  | true =>
   obtain⟨z,d,f⟩:=IsFrac.of A C h1;obtain⟨w,e,k⟩:=IsFrac.of F H y;rw[Sub_of f k];unfold kcw;rw[h1,y,k3g,Add_of f k.neg,Int.neg_mul,<- Int.sub_eq_add_neg];rfl
theorem k9w{z:Int}{d:Nat}(V:0<d)(h:(fracM z d).2.2.2=0):∃(w:Int)(e:Nat),fracM z d=((intD w).1,(intD w).2,digs B e,0)/\IsFrac (fracM z d).1 (fracM z d).2.1 (fracM z d).2.2.1 w e/\w*(d:Int)=z*(e:Int)/\∃g:Nat,0<g/\z=w*(g:Int)/\d=g*e:=by
 unfold fracM at h|-;have y:0<Nat.gcd z.natAbs d:=Nat.gcd_pos_of_pos_right _ V;by_cases c:z.natAbs/Nat.gcd z.natAbs d<B^16/\d/Nat.gcd z.natAbs d<B^16
 ·rw[if_pos c];obtain⟨a,F⟩:=Nat.gcd_dvd_left z.natAbs d;obtain⟨b,C⟩:=Nat.gcd_dvd_right z.natAbs d;have H:z/(Nat.gcd z.natAbs d:Int)*(Nat.gcd z.natAbs d:Int)=z:=Int.ediv_mul_cancel (Int.ofNat_dvd_left.2 (Nat.gcd_dvd_left _ _))
  have I:z.natAbs/Nat.gcd z.natAbs d=a:=by
   have:=Nat.mul_div_cancel_left a y;rwa[<- F]at this
  have A:d/Nat.gcd z.natAbs d=b:=by
   have:=Nat.mul_div_cancel_left b y;rwa[<- C]at this
  rw[I,A]at c;rw[A]
  have Q:(z/(Nat.gcd z.natAbs d:Int)).natAbs=a:=by
   have U:(z/(Nat.gcd z.natAbs d:Int)).natAbs*Nat.gcd z.natAbs d=Nat.gcd z.natAbs d*a:=by
    have:=congrArg Int.natAbs H;rw[Int.natAbs_mul,Int.natAbs_natCast]at this;rw[this];exact F
   rw[Nat.mul_comm]at U;exact Nat.eq_of_mul_eq_mul_left y U
  generalize z/(Nat.gcd z.natAbs d:Int)=w at *
  have K:0<b:=by
   rcases Nat.eq_zero_or_pos b with e | e
   ·subst e;omega
   ·exact e
  have co:Nat.gcd a b=1:=by
   have X:Nat.gcd z.natAbs d=Nat.gcd a b*Nat.gcd z.natAbs d:=by
    have:=Nat.gcd_mul_left (Nat.gcd z.natAbs d) a b;rw[<- F,<- C]at this;rw[Nat.mul_comm];exact this
   have:1*Nat.gcd z.natAbs d=Nat.gcd a b*Nat.gcd z.natAbs d:=by rw[Nat.one_mul];exact X
   exact(Nat.eq_of_mul_eq_mul_right y this).symm
  refine⟨w,b,rfl,⟨rfl,rfl,rfl,K,by rw[Q];exact c.1,c.2,by rw[Q];exact co⟩,?_,Nat.gcd z.natAbs d,y,H.symm,C⟩;have Y:(d:Int)=(Nat.gcd z.natAbs d:Int)*(b:Int):=by rw[<- Int.natCast_mul,<- C]
  rw[Y,<- Int.mul_assoc,H]
 ·rw[if_neg c]at h;cases h
theorem Add_no{p q:Bool}{xs ys us vs:List Nat}(h:(kbb p xs ys&&kbb q us vs)=false):kc4 p xs ys q us vs=(false,[],[],1):=by
 unfold kc4 kc6 kcy;rw[h];rfl
theorem k7a{p q:Bool}{xs ys us vs:List Nat}(y:∀x∈xs,x<B)(A:∀x∈ys,x<B)(C:∀x∈us,x<B)(F:∀x∈vs,x<B)(h:(kbb p xs ys&&kbb q us vs)=true) :
  ∃(z:Int)(d:Nat)(w:Int)(e:Nat),IsFrac p xs ys z d/\IsFrac q us vs w e:=by
 rw[qb8]at h;obtain⟨z,d,f⟩:=IsFrac.of y A h.1;obtain⟨w,e,k⟩:=IsFrac.of C F h.2;exact⟨z,d,w,e,f,k⟩
end Go.Ab
set_option maxRecDepth 10000
namespace Go.Ab
open IntKind (wrap)
open Go.Proofs Go.Num
def kbg(a1 a2:Int):Bool :=
 cond (decide (a1>=(-1099511627776))) (cond (decide (a1<=1099511627776)) (cond (decide (a2>=0)) (decide (a2<=1048576)) (false)) (false)) (false)
theorem kng{h:AH}   (a1 a2:Int):Runs (go (.fn kir [.agg [.i a1,.i a2]]) h) λv h'=>v=.bool (kbg a1 a2)/\Grow h h':=by
 rw[kbkh];refine q0 λH b3 A=>?_;refine qz (qbf b3 0 rfl qcn) ?_;refine qbd (λy=>?_) (λy=>?_)
 ·refine qz (qbf b3 0 rfl qcn) ?_;refine qbd (λC=>?_) (λC=>?_)
  ·refine qz (qbf b3 1 rfl qcn) ?_;refine qbd (λF=>?_) (λF=>?_)
   ·refine qz (qbf b3 1 rfl qcn) ?_;have z:kbg a1 a2=decide (a2<=1048576):=by unfold kbg;exact(condT y).trans ((condT C).trans ((condT F).trans rfl))
    rw[z];exact qy ⟨rfl,A⟩
   ·have z:kbg a1 a2=false:=by unfold kbg;exact(condT y).trans ((condT C).trans ((condF F).trans rfl))
    rw[z];exact qy ⟨rfl,A⟩
  ·have z:kbg a1 a2=false:=by unfold kbg;exact(condT y).trans ((condF C).trans rfl)
   rw[z];exact qy ⟨rfl,A⟩
 ·have z:kbg a1 a2=false:=by unfold kbg;exact(condF y).trans rfl
  rw[z];exact qy ⟨rfl,A⟩
def kdo(a1 a2:Int):Bool :=
 cond (decide (a1>=(-1099511627776))) (cond (decide (a1<=1099511627776)) (cond (decide (a2>=0)) (decide (a2<=1048576)) (false)) (false)) (false)
theorem k3j{h:AH}   (a1 a2:Int):Runs (go (.fn kf6 [.agg [.i a1,.i a2]]) h) λv h'=>v=.bool (kdo a1 a2)/\Grow h h':=by
 rw[kbev];refine q0 λH b3 A=>?_;refine qz (qbf b3 0 rfl qcn) ?_;refine qbd (λy=>?_) (λy=>?_)
 ·refine qz (qbf b3 0 rfl qcn) ?_;refine qbd (λC=>?_) (λC=>?_)
  ·refine qz (qbf b3 1 rfl qcn) ?_;refine qbd (λF=>?_) (λF=>?_)
   ·refine qz (qbf b3 1 rfl qcn) ?_;have z:kdo a1 a2=decide (a2<=1048576):=by unfold kdo;exact(condT y).trans ((condT C).trans ((condT F).trans rfl))
    rw[z];exact qy ⟨rfl,A⟩
   ·have z:kdo a1 a2=false:=by unfold kdo;exact(condT y).trans ((condT C).trans ((condF F).trans rfl))
    rw[z];exact qy ⟨rfl,A⟩
  ·have z:kdo a1 a2=false:=by unfold kdo;exact(condT y).trans ((condF C).trans rfl)
   rw[z];exact qy ⟨rfl,A⟩
 ·have z:kdo a1 a2=false:=by unfold kdo;exact(condF y).trans rfl
  rw[z];exact qy ⟨rfl,A⟩
def kbk(a1:Int):Bool :=
 cond (decide (a1>=1)) (decide (a1<=1048576)) (false)
theorem ku2{h:AH}   (a1:Int):Runs (go (.fn kmk [.i a1]) h) λv h'=>v=.bool (kbk a1)/\Grow h h':=by
 rw[k6n];refine qbd (λy=>?_) (λy=>?_)
 ·have z:kbk a1=decide (a1<=1048576):=by unfold kbk;exact(condT y).trans rfl
  rw[z];exact qy ⟨rfl,(ql _)⟩
 ·have z:kbk a1=false:=by unfold kbk;exact(condF y).trans rfl
  rw[z];exact qy ⟨rfl,(ql _)⟩
def kba(a1 a2 a3 a4:Int):Int×Int×Bool :=
 cond (!((kbg a1 a2))) ((0,0,false)) (cond (!((kbg a3 a4))) ((0,0,false)) ((((wrap .i64 (a3-a1))),((wrap .i64 (a4-a2))),((kbg (wrap .i64 (a3-a1)) (wrap .i64 (a4-a2)))))))
theorem kbls{h:AH}   (a1 a2 a3 a4:Int):Runs (go (.fn ksu [.agg [.i a1,.i a2],.agg [.i a3,.i a4]]) h) λv h'=>v=.tup [.agg [.i (kba a1 a2 a3 a4).1,.i (kba a1 a2 a3 a4).2.1],.bool (kba a1 a2 a3 a4).2.2]/\Grow h h':=by
 rw[k85];refine q0 λH5 b5 V=>?_;refine q0 λH6 b6 I=>?_;refine q0 λH7 b7 Q=>?_;refine qz (qbf ((I.trans Q).has b5) 0 rfl qcn) (qz (qbf ((I.trans Q).has b5) 1 rfl qcn) ?_);obtain⟨_,H8,e8,rfl,F⟩:=kng a1 a2;refine qz e8 (qz (seen rfl) ?_);refine qbd (λk9=>?_) (λk9=>?_)
 ·refine qba (F.has b7) rfl λaj ae ak=>?_;refine qz (qbf ae 0 rfl qcn) (qz (qbf ae 1 rfl qcn) ?_);have z:kba a1 a2 a3 a4=(0,0,false):=by unfold kba;exact(condT k9).trans rfl
  rw[z];have al:=((((V.trans I).trans Q).trans F).updr (qbq ((V.trans I)).size (qbp _)) ak);exact qy ⟨rfl,al⟩
 ·refine qz (qbf ((Q.trans F).has b6) 0 rfl qcn) (qz (qbf ((Q.trans F).has b6) 1 rfl qcn) ?_);obtain⟨_,aj,am,rfl,y⟩:=kng a3 a4;refine qz am (qz (seen rfl) ?_);refine qbd (λX=>?_) (λX=>?_)
  ·refine qba ((F.trans y).has b7) rfl λbb af an=>?_;refine qz (qbf af 0 rfl qcn) (qz (qbf af 1 rfl qcn) ?_);have z:kba a1 a2 a3 a4=(0,0,false):=by unfold kba;exact(condF k9).trans ((condT X).trans rfl)
   rw[z];have ap:=(((((V.trans I).trans Q).trans F).trans y).updr (qbq ((V.trans I)).size (qbp _)) an);exact qy ⟨rfl,ap⟩
  ·have aq:=((Q.trans F).trans y);have A:=aq.has b6;refine qz (qbf A 0 rfl qcn) ?_;have ar:=(((I.trans Q).trans F).trans y);have C:=ar.has b5;refine qz (qbf C 0 rfl qcn) (qz (qbf A 1 rfl qcn) (qz (qbf C 1 rfl qcn) ?_));refine q0 λbc au Y=>?_;refine qba au rfl λbd H Z=>?_;refine qz (qbf H 0 rfl qcn) (qz (qbf H 1 rfl qcn) (qz (qbf H 0 rfl qcn) (qz (qbf H 1 rfl qcn) ?_)));obtain⟨_,be,aw,rfl,K⟩:=kng (wrap .i64 (a3-a1)) (wrap .i64 (a4-a2));refine qz aw (qz (seen rfl) ?_);refine qbe (K.same H 0 2) ?_;have ax:=((((F.trans y).trans Y).updr (qbq ((F.trans y)).size (qbp _)) Z).trans K);have aa:=ax.has b7;refine qba aa rfl λbf ag U=>?_;have ah:=((Y.updr (qbp _) Z).trans K);have ac:=ah.has C;have ay:=qx ac (Nat.ne_of_lt (qbr (I.has b5).lt (qbp _))) U;have ad:=ah.has A;have az:=qx ad (Nat.ne_of_lt (qbr (b6).lt (qbp _))) U;have ai:=qx (K.has H) (Nat.ne_of_gt (qbr ((F.trans y).has b7).lt (qbp _))) U;refine qz (qbf ag 0 rfl qcn) (qz (qbf ag 1 rfl qcn) ?_);have z:kba a1 a2 a3 a4=(((wrap .i64 (a3-a1))),((wrap .i64 (a4-a2))),((kbg (wrap .i64 (a3-a1)) (wrap .i64 (a4-a2))))):=by unfold kba;exact(condF k9).trans ((condF X).trans rfl)
   rw[z];have a0:=((((V.trans I).trans Q).trans F).trans y);have ba:=((((((((V.trans I).trans Q).trans F).trans y).trans Y).updr (qbq (a0).size (qbp _)) Z).trans K).updr (qbq ((V.trans I)).size (qbp _)) U);exact qy ⟨rfl,ba⟩
theorem kbk3:kdo=kbg:=rfl
theorem klu{h:AH}   (a1 a2:Int):Runs (go (.fn kf6 [.agg [.i a1,.i a2]]) h) λv h'=>v=.bool (kbg a1 a2)/\Grow h h':=by
 rw[<- kbk3];exact k3j a1 a2
def kfg(a1 a2 a3 a4:Int):Int×Int×Bool :=
 cond (!((kbg a1 a2))) ((0,0,false)) (cond (!((kbg a3 a4))) ((0,0,false)) ((((wrap .i64 (a3-a1))),((wrap .i64 (a4-a2))),((kbg (wrap .i64 (a3-a1)) (wrap .i64 (a4-a2)))))))
theorem kbiu{h:AH}   (a1 a2 a3 a4:Int):Runs (go (.fn knc [.agg [.i a1,.i a2],.agg [.i a3,.i a4]]) h) λv h'=>v=.tup [.agg [.i (kfg a1 a2 a3 a4).1,.i (kfg a1 a2 a3 a4).2.1],.bool (kfg a1 a2 a3 a4).2.2]/\Grow h h':=by
 rw[kbc5];refine q0 λH5 b5 X=>?_;refine q0 λH6 b6 H=>?_;refine q0 λH7 b7 Q=>?_;refine qz (qbf ((H.trans Q).has b5) 0 rfl qcn) (qz (qbf ((H.trans Q).has b5) 1 rfl qcn) ?_);obtain⟨_,H8,e8,rfl,C⟩:=klu a1 a2;refine qz e8 (qz (seen rfl) (qz (qbf ((Q.trans C).has b6) 0 rfl qcn) (qz (qbf ((Q.trans C).has b6) 1 rfl qcn) ?_)));obtain⟨_,H9,e9,rfl,I⟩:=klu a3 a4;refine qz e9 (qz (seen rfl) ?_);refine qbd (λU=>?_) (λU=>?_)
 ·refine qba ((C.trans I).has b7) rfl λa0 ag al=>?_;refine qz (qbf ag 0 rfl qcn) (qz (qbf ag 1 rfl qcn) ?_);have z:kfg a1 a2 a3 a4=(0,0,false):=by unfold kfg;exact(condT U).trans rfl
  rw[z];have Y:=(((((X.trans H).trans Q).trans C).trans I).updr (qbq ((X.trans H)).size (qbp _)) al);exact qy ⟨rfl,Y⟩
 ·refine qbd (λZ=>?_) (λZ=>?_)
  ·refine qba ((C.trans I).has b7) rfl λba ah am=>?_;refine qz (qbf ah 0 rfl qcn) (qz (qbf ah 1 rfl qcn) ?_);have z:kfg a1 a2 a3 a4=(0,0,false):=by unfold kfg;exact(condF U).trans ((condT Z).trans rfl)
   rw[z];have an:=(((((X.trans H).trans Q).trans C).trans I).updr (qbq ((X.trans H)).size (qbp _)) am);exact qy ⟨rfl,an⟩
  ·have Y:=((Q.trans C).trans I);have y:=Y.has b6;refine qz (qbf y 0 rfl qcn) ?_;have ap:=(((H.trans Q).trans C).trans I);have A:=ap.has b5;refine qz (qbf A 0 rfl qcn) (qz (qbf y 1 rfl qcn) (qz (qbf A 1 rfl qcn) ?_));refine q0 λbb aq aa=>?_;refine qba aq rfl λbc F ac=>?_;refine qz (qbf F 0 rfl qcn) (qz (qbf F 1 rfl qcn) (qz (qbf F 0 rfl qcn) (qz (qbf F 1 rfl qcn) ?_)));obtain⟨_,bd,ar,rfl,K⟩:=klu (wrap .i64 (a3-a1)) (wrap .i64 (a4-a2));refine qz ar (qz (seen rfl) ?_);refine qbe (K.same F 0 2) ?_;have au:=((((C.trans I).trans aa).updr (qbq ((C.trans I)).size (qbp _)) ac).trans K);have ad:=au.has b7;refine qba ad rfl λbe ai V=>?_;have aj:=((aa.updr (qbp _) ac).trans K);have ae:=aj.has A;have aw:=qx ae (Nat.ne_of_lt (qbr (H.has b5).lt (qbp _))) V;have af:=aj.has y;have ax:=qx af (Nat.ne_of_lt (qbr (b6).lt (qbp _))) V;have ak:=qx (K.has F) (Nat.ne_of_gt (qbr ((C.trans I).has b7).lt (qbp _))) V;refine qz (qbf ai 0 rfl qcn) (qz (qbf ai 1 rfl qcn) ?_);have z:kfg a1 a2 a3 a4=(((wrap .i64 (a3-a1))),((wrap .i64 (a4-a2))),((kbg (wrap .i64 (a3-a1)) (wrap .i64 (a4-a2))))):=by unfold kfg;exact(condF U).trans ((condF Z).trans rfl)
   rw[z];have ay:=((((X.trans H).trans Q).trans C).trans I);have az:=((((((((X.trans H).trans Q).trans C).trans I).trans aa).updr (qbq (ay).size (qbp _)) ac).trans K).updr (qbq ((X.trans H)).size (qbp _)) V);exact qy ⟨rfl,az⟩
theorem kbdz:kfg=kba:=rfl
theorem k2w{h:AH}   (a1 a2 a3 a4:Int):Runs (go (.fn knc [.agg [.i a1,.i a2],.agg [.i a3,.i a4]]) h) λv h'=>v=.tup [.agg [.i (kba a1 a2 a3 a4).1,.i (kba a1 a2 a3 a4).2.1],.bool (kba a1 a2 a3 a4).2.2]/\Grow h h':=by
 rw[<- kbdz];exact kbiu a1 a2 a3 a4
inductive kkk
 | fn (a1:Int) (a2:Int) (a3:Int)
 | no
abbrev kim:=Bool×List Nat×List Nat×Int
noncomputable def kmg(a1 a2 a3:Int):Option (kkk⊕kim) :=
 cond (!((kbg a2 a3))) (some (.inr (false,[],[],1))) (cond (!((kbk a1))) (some (.inr (false,[],[],1))) ((need (-9223372036854775808<=(a2:Int)/\(a2:Int)<=9223372036854775807)).bind λA=>(u64P (wrap .u64 (wrap .i64 (a3+a1)))).bind λy=>some (.inr ((((kbd (((kw (((ofI a2).1)) ((ofI a2).2) (((ofI a2).1)) ((ofI a2).2)).1)) ((kw (((ofI a2).1)) ((ofI a2).2) (((ofI a2).1)) ((ofI a2).2)).2.1) (digs B y)).1)),(kbd (((kw (((ofI a2).1)) ((ofI a2).2) (((ofI a2).1)) ((ofI a2).2)).1)) ((kw (((ofI a2).1)) ((ofI a2).2) (((ofI a2).1)) ((ofI a2).2)).2.1) (digs B y)).2.1,(kbd (((kw (((ofI a2).1)) ((ofI a2).2) (((ofI a2).1)) ((ofI a2).2)).1)) ((kw (((ofI a2).1)) ((ofI a2).2) (((ofI a2).1)) ((ofI a2).2)).2.1) (digs B y)).2.2.1,((kbd (((kw (((ofI a2).1)) ((ofI a2).2) (((ofI a2).1)) ((ofI a2).2)).1)) ((kw (((ofI a2).1)) ((ofI a2).2) (((ofI a2).1)) ((ofI a2).2)).2.1) (digs B y)).2.2.2)))))
noncomputable def kx3:kkk->Option (kkk⊕kim)
 | .fn a1 a2 a3=>kmg a1 a2 a3
 | .no=>none
@[reducible] def kx1(h0:AH)(r:kim)(v:AV)(h':AH):Prop:=∃s1:Sl,∃s2:Sl,v=.tup [.agg [.bool r.1,s1.v,s2.v],.i r.2.2.2]/\Nats h' s1 r.2.1/\Nats h' s2 r.2.2.1/\Grow h0 h'/\Own h0 s1/\Own h0 s2
def ku1(r:kim):kkk->Prop
 | .fn a1 a2 a3=>∀{h:AH},Runs (go (.fn ko2 [.i a1,.agg [.i a2,.i a3]]) h) (kx1 h r)
 | .no=>True
theorem kbjx{r:kim}{o:kkk⊕kim}{a1 a2 a3:Int}(e:kmg a1 a2 a3=some o)(Y:GoodS (ku1 r) r o):ku1 r (.fn a1 a2 a3):=by
 intro h;rw[kbi4];unfold kmg at e;refine q0 λH4 b4 g4=>?_;refine q0 λH5 b5 g5=>?_;refine qz (qbf (g5.has b4) 0 rfl qcn) (qz (qbf (g5.has b4) 1 rfl qcn) ?_);obtain⟨_,H6,e6,rfl,g6⟩:=kng a2 a3;refine qz e6 (qz (seen rfl) ?_);refine qbd (λk7=>?_) (λk7=>?_)
 ·replace e:=(condT k7).symm.trans e;refine qba (g6.has b5) rfl λH8 b8 u8=>?_;refine qz (qbf b8 0 rfl rfl) (qz (qbf b8 1 rfl qcm) (qz (qbf b8 2 rfl qcm) ?_));cases e;cases Y;have G9:=(((g4.trans g5).trans g6).updr (qbq (g4).size (qbp _)) u8);exact qy ⟨(⟨none,0,.is 0⟩:Sl),(⟨none,0,.is 0⟩:Sl),rfl,(qw _),(qw _),G9,(qu _),(qu _)⟩
 ·replace e:=(condF k7).symm.trans e;obtain⟨_,H8,e8,rfl,g8⟩:=ku2 a1;refine qz e8 (qz (seen rfl) ?_);refine qbd (λk9=>?_) (λk9=>?_)
  ·replace e:=(condT k9).symm.trans e;refine qba ((g6.trans g8).has b5) rfl λce ak bf=>?_;refine qz (qbf ak 0 rfl rfl) (qz (qbf ak 1 rfl qcm) (qz (qbf ak 2 rfl qcm) ?_));cases e;cases Y;have bg:=((((g4.trans g5).trans g6).trans g8).updr (qbq (g4).size (qbp _)) bf);exact qy ⟨(⟨none,0,.is 0⟩:Sl),(⟨none,0,.is 0⟩:Sl),rfl,(qw _),(qw _),bg,(qu _),(qu _)⟩
  ·replace e:=(condF k9).symm.trans e;have bh:=((g5.trans g6).trans g8);have Z:=bh.has b4;refine qz (qbf Z 0 rfl qcn) ?_;obtain⟨al,bi,e⟩:=qbu.1 e;obtain⟨cf,cg,bj,am,I,bk⟩:=kox a2  al.down;refine qz bj (qz rfl ?_);refine qbb rfl ?_;refine qz (seenAt rfl rfl) (qz (seenAt rfl qcm) ?_);refine q0 λci bm y=>?_;refine qba bm rfl λcj aa A=>?_;refine qz (qbf aa 0 rfl rfl) (qz (qbf aa 1 rfl qcm) (qz (qbf aa 0 rfl rfl) (qz (qbf aa 1 rfl qcm) ?_)));obtain⟨_,cl,bn,cm,rfl,bp,C,bq⟩:=ks7 (am.grow (y.updr (qbp _) A)) (am.grow (y.updr (qbp _) A)) (((ofI a2).1)) (((ofI a2).1));refine qz bn (qz rfl (qz rfl ?_));refine qbb rfl ?_;refine qz (seenAt rfl rfl) (qz (seenAt rfl qcm) (qz (seen qcn) ?_));refine q0 λcp br Q=>?_;refine qba br rfl λcu ae U=>?_;refine qz (qbf ae 0 rfl rfl) (qz (qbf ae 1 rfl qcm) ?_);have bt:=(((I.trans y).updr (qbq (I).size (qbp _)) A).trans C);have bu:=(((((I.trans y).updr (qbq (I).size (qbp _)) A).trans C).trans Q).updr (qbq (bt).size (qbp _)) U);have ac:=bu.has Z;refine qz (qbf ac 1 rfl qcn) ?_;obtain⟨cv,bv,e⟩:=qbu.1 e;obtain⟨cw,cx,bw,au,F,bx⟩:=kpm bv;refine qz bw (qz (seen qcm) ?_);refine qbe (F.same ae 0 2) ?_;have bz:=((Q.updr (qbp _) U).trans F);have V:=bp.grow bz;obtain⟨_,cy,b0,b1,aw,rfl,b2,ax,K,ay,aj⟩:=kuh V au (((kw (((ofI a2).1)) ((ofI a2).2) (((ofI a2).1)) ((ofI a2).2)).1));refine qz b0 (qz rfl (qz rfl ?_));refine qbb rfl ?_;refine qz (seenAt rfl rfl) (qz (seenAt rfl qcm) (qz (seenAt rfl qcm) (qz (seen qcn) ?_)));have X:=((g6.trans g8).trans I);have af:=(((X.trans y).updr (qbq (X).size (qbp _)) A).trans C);have b3:=(((((((((g6.trans g8).trans I).trans y).updr (qbq (X).size (qbp _)) A).trans C).trans Q).updr (qbq (af).size (qbp _)) U).trans F).trans K);have an:=b3.has b5;refine qba an rfl λcz ap H=>?_;have b6:=((y.updr (qbp _) A).trans C);have b7:=((((((y.updr (qbp _) A).trans C).trans Q).updr (qbq (b6).size (qbp _)) U).trans F).trans K);have ag:=am.grow b7;have ba:=ag.upda (qbj bk ((g6.trans g8).has b5).lt) H;have b9:=((X.trans y).updr (qbq (X).size (qbp _)) A);have bb:=(V.grow K).upda (qbj bq (b9.has b5).lt) H;have az:=((af.trans Q).updr (qbq (af).size (qbp _)) U);have bc:=(au.grow K).upda (qbj bx (az.has b5).lt) H;have a0:=(az.trans F);have ah:=b2.upda (qbj ay (a0.has b5).lt) H;have ad:=ax.upda (qbj aj (a0.has b5).lt) H;have ca:=qx ((F.trans K).has ac) (Nat.ne_of_lt (qbr (b4).lt (qbp _))) H;have cb:=((((C.trans Q).updr (qbq (C).size (qbp _)) U).trans F).trans K);have ai:=cb.has aa;have bd:=qx ai (Nat.ne_of_gt (qbr (X.has b5).lt (qbp _))) H;have be:=qx ((F.trans K).has ae) (Nat.ne_of_gt (qbr (af.has b5).lt (qbp _))) H;refine qz (qbf ap 0 rfl rfl) (qz (qbf ap 1 rfl qcm) (qz (qbf ap 2 rfl qcm) ?_));cases e;cases Y;have aq:=((((g4.trans g5).trans g6).trans g8).trans I);have cc:=(((aq.trans y).updr (qbq (aq).size (qbp _)) A).trans C);have ar:=((((((((((g4.trans g5).trans g6).trans g8).trans I).trans y).updr (qbq (aq).size (qbp _)) A).trans C).trans Q).updr (qbq (cc).size (qbp _)) U).trans F);have cd:=((ar.trans K).updr (qbq (g4).size (qbp _)) H);exact qy ⟨b1,aw,rfl,ah,ad,cd,(ay.of_le ar),(aj.of_le ar)⟩
theorem kbk2{s:kkk}{r:kim}(A:Iter kx3 s r):ku1 r s:=qbg (λs o e y=>by
 cases s with
 | fn a1 a2 a3=>exact @kbjx _ _ a1 a2 a3 e y
 | no=>exact True.intro
 ) A
inductive kju
 | fn (a1:Int) (a2:Int) (a3:Int)
 | no
abbrev kh3:=Bool×List Nat×List Nat×Int
noncomputable def klr(a1 a2 a3:Int):Option (kju⊕kh3) :=
 cond (!((kbg a2 a3))) (some (.inr (false,[],[],1))) (cond (decide (a1<1)) (some (.inr (false,[],[],1))) (cond (decide (a1>1048576)) (some (.inr (false,[],[],1))) ((need (-9223372036854775808<=(a2:Int)/\(a2:Int)<=9223372036854775807)).bind λy=>(need (-9223372036854775808<=((wrap .i64 (a3+a1)):Int)/\((wrap .i64 (a3+a1)):Int)<=9223372036854775807)).bind λA=>some (.inr ((((kbd (((kw (((ofI a2).1)) ((ofI a2).2) (((ofI a2).1)) ((ofI a2).2)).1)) ((kw (((ofI a2).1)) ((ofI a2).2) (((ofI a2).1)) ((ofI a2).2)).2.1) ((ofI (wrap .i64 (a3+a1))).2)).1)),(kbd (((kw (((ofI a2).1)) ((ofI a2).2) (((ofI a2).1)) ((ofI a2).2)).1)) ((kw (((ofI a2).1)) ((ofI a2).2) (((ofI a2).1)) ((ofI a2).2)).2.1) ((ofI (wrap .i64 (a3+a1))).2)).2.1,(kbd (((kw (((ofI a2).1)) ((ofI a2).2) (((ofI a2).1)) ((ofI a2).2)).1)) ((kw (((ofI a2).1)) ((ofI a2).2) (((ofI a2).1)) ((ofI a2).2)).2.1) ((ofI (wrap .i64 (a3+a1))).2)).2.2.1,((kbd (((kw (((ofI a2).1)) ((ofI a2).2) (((ofI a2).1)) ((ofI a2).2)).1)) ((kw (((ofI a2).1)) ((ofI a2).2) (((ofI a2).1)) ((ofI a2).2)).2.1) ((ofI (wrap .i64 (a3+a1))).2)).2.2.2))))))
noncomputable def k1d:kju->Option (kju⊕kh3)
 | .fn a1 a2 a3=>klr a1 a2 a3
 | .no=>none
@[reducible] def kwb(h0:AH)(r:kh3)(v:AV)(h':AH):Prop:=∃s1:Sl,∃s2:Sl,v=.tup [.agg [.bool r.1,s1.v,s2.v],.i r.2.2.2]/\Nats h' s1 r.2.1/\Nats h' s2 r.2.2.1/\Grow h0 h'/\Own h0 s1/\Own h0 s2
def ksm(r:kh3):kju->Prop
 | .fn a1 a2 a3=>∀{h:AH},Runs (go (.fn kkl [.i a1,.agg [.i a2,.i a3]]) h) (kwb h r)
 | .no=>True
theorem k8r{r:kh3}{o:kju⊕kh3}{a1 a2 a3:Int}(e:klr a1 a2 a3=some o)(X:GoodS (ksm r) r o):ksm r (.fn a1 a2 a3):=by
 intro h;rw[kbad];unfold klr at e;refine q0 λH4 b4 g4=>?_;refine q0 λH5 Z g5=>?_;refine qz (qbf (g5.has b4) 0 rfl qcn) (qz (qbf (g5.has b4) 1 rfl qcn) ?_);obtain⟨_,H6,e6,rfl,H⟩:=klu a2 a3;refine qz e6 (qz (seen rfl) ?_);refine qbd (λk7=>?_) (λk7=>?_)
 ·replace e:=(condT k7).symm.trans e;refine qba (H.has Z) rfl λH8 b8 u8=>?_;refine qz (qbf b8 0 rfl rfl) (qz (qbf b8 1 rfl qcm) (qz (qbf b8 2 rfl qcm) ?_));cases e;cases X;have G9:=(((g4.trans g5).trans H).updr (qbq (g4).size (qbp _)) u8);exact qy ⟨(⟨none,0,.is 0⟩:Sl),(⟨none,0,.is 0⟩:Sl),rfl,(qw _),(qw _),G9,(qu _),(qu _)⟩
 ·replace e:=(condF k7).symm.trans e;refine qbd (λk8=>?_) (λk8=>?_)
  ·replace e:=(condT k8).symm.trans e;refine qba (H.has Z) rfl λH9 b9 u9=>?_;refine qz (qbf b9 0 rfl rfl) (qz (qbf b9 1 rfl qcm) (qz (qbf b9 2 rfl qcm) ?_));cases e;cases X;have bh:=(((g4.trans g5).trans H).updr (qbq (g4).size (qbp _)) u9);exact qy ⟨(⟨none,0,.is 0⟩:Sl),(⟨none,0,.is 0⟩:Sl),rfl,(qw _),(qw _),bh,(qu _),(qu _)⟩
  ·replace e:=(condF k8).symm.trans e;refine qbd (λk9=>?_) (λk9=>?_)
   ·replace e:=(condT k9).symm.trans e;refine qba (H.has Z) rfl λbi ak bj=>?_;refine qz (qbf ak 0 rfl rfl) (qz (qbf ak 1 rfl qcm) (qz (qbf ak 2 rfl qcm) ?_));cases e;cases X;have bk:=(((g4.trans g5).trans H).updr (qbq (g4).size (qbp _)) bj);exact qy ⟨(⟨none,0,.is 0⟩:Sl),(⟨none,0,.is 0⟩:Sl),rfl,(qw _),(qw _),bk,(qu _),(qu _)⟩
   ·replace e:=(condF k9).symm.trans e;refine qz (qbf ((g5.trans H).has b4) 0 rfl qcn) ?_;obtain⟨al,bm,e⟩:=qbu.1 e;obtain⟨cj,bi,bn,am,y,bp⟩:=khg a2  al.down;refine qz bn (qz rfl ?_);refine qbb rfl ?_;refine qz (seenAt rfl rfl) (qz (seenAt rfl qcm) ?_);refine q0 λcl bq A=>?_;refine qba bq rfl λcm aa C=>?_;refine qz (qbf aa 0 rfl rfl) (qz (qbf aa 1 rfl qcm) (qz (qbf aa 0 rfl rfl) (qz (qbf aa 1 rfl qcm) ?_)));obtain⟨_,cp,br,cu,rfl,bt,F,bu⟩:=kpa (am.grow (A.updr (qbp _) C)) (am.grow (A.updr (qbp _) C)) (((ofI a2).1)) (((ofI a2).1));refine qz br (qz rfl (qz rfl ?_));refine qbb rfl ?_;refine qz (seenAt rfl rfl) (qz (seenAt rfl qcm) (qz (seen qcn) ?_));refine q0 λcv bv U=>?_;refine qba bv rfl λcw ae V=>?_;refine qz (qbf ae 0 rfl rfl) (qz (qbf ae 1 rfl qcm) ?_);have an:=((g5.trans H).trans y);have bw:=(((an.trans A).updr (qbq (an).size (qbp _)) C).trans F);have bx:=(((((((g5.trans H).trans y).trans A).updr (qbq (an).size (qbp _)) C).trans F).trans U).updr (qbq (bw).size (qbp _)) V);have ac:=bx.has b4;refine qz (qbf ac 1 rfl qcn) ?_;obtain⟨ap,bz,e⟩:=qbu.1 e;obtain⟨cx,cy,b0,ax,I,b1⟩:=khg (wrap .i64 (a3+a1))  ap.down;refine qz b0 (qz rfl ?_);refine qbb rfl ?_;refine qz (seenAt rfl rfl) (qz (seenAt rfl qcm) ?_);refine qbe (I.same ae 0 2) ?_;have b2:=((U.updr (qbp _) V).trans I);have Y:=bt.grow b2;obtain⟨_,cz,b3,b6,ay,rfl,b7,az,Q,a0,aj⟩:=kr4 Y ax (((kw (((ofI a2).1)) ((ofI a2).2) (((ofI a2).1)) ((ofI a2).2)).1));refine qz b3 (qz rfl (qz rfl ?_));refine qbb rfl ?_;refine qz (seenAt rfl rfl) (qz (seenAt rfl qcm) (qz (seenAt rfl qcm) (qz (seen qcn) ?_)));have af:=((((H.trans y).trans A).updr (qbq ((H.trans y)).size (qbp _)) C).trans F);have ca:=((((((((H.trans y).trans A).updr (qbq ((H.trans y)).size (qbp _)) C).trans F).trans U).updr (qbq (af).size (qbp _)) V).trans I).trans Q);have aq:=ca.has Z;refine qba aq rfl λc0 ar K=>?_;have cb:=((A.updr (qbp _) C).trans F);have cc:=((((((A.updr (qbp _) C).trans F).trans U).updr (qbq (cb).size (qbp _)) V).trans I).trans Q);have ag:=am.grow cc;have bc:=ag.upda (qbj bp (H.has Z).lt) K;have cd:=(((H.trans y).trans A).updr (qbq ((H.trans y)).size (qbp _)) C);have bd:=(Y.grow Q).upda (qbj bu (cd.has Z).lt) K;have ba:=((af.trans U).updr (qbq (af).size (qbp _)) V);have be:=(ax.grow Q).upda (qbj b1 (ba.has Z).lt) K;have bb:=(ba.trans I);have ah:=b7.upda (qbj a0 (bb.has Z).lt) K;have ad:=az.upda (qbj aj (bb.has Z).lt) K;have ce:=qx ((I.trans Q).has ac) (Nat.ne_of_lt (qbr (b4).lt (qbp _))) K;have cf:=((((F.trans U).updr (qbq (F).size (qbp _)) V).trans I).trans Q);have ai:=cf.has aa;have bf:=qx ai (Nat.ne_of_gt (qbr ((H.trans y).has Z).lt (qbp _))) K;have bg:=qx ((I.trans Q).has ae) (Nat.ne_of_gt (qbr (af.has Z).lt (qbp _))) K;refine qz (qbf ar 0 rfl rfl) (qz (qbf ar 1 rfl qcm) (qz (qbf ar 2 rfl qcm) ?_));cases e;cases X;have au:=(((g4.trans g5).trans H).trans y);have cg:=(((au.trans A).updr (qbq (au).size (qbp _)) C).trans F);have aw:=(((((((((g4.trans g5).trans H).trans y).trans A).updr (qbq (au).size (qbp _)) C).trans F).trans U).updr (qbq (cg).size (qbp _)) V).trans I);have ci:=((aw.trans Q).updr (qbq (g4).size (qbp _)) K);exact qy ⟨b6,ay,rfl,ah,ad,ci,(a0.of_le aw),(aj.of_le aw)⟩
theorem k5c{s:kju}{r:kh3}(A:Iter k1d s r):ksm r s:=qbg (λs o e y=>by
 cases s with
 | fn a1 a2 a3=>exact @k8r _ _ a1 a2 a3 e y
 | no=>exact True.intro
 ) A
end Go.Ab
set_option maxRecDepth 10000
namespace Go.Ab
open Go.Proofs Go.Num
theorem kl2{g n:Int}:kbg g n=true↔-1099511627776<=g/\g<=1099511627776/\0<=n/\n<=1048576:=by
 unfold kbg;by_cases h1:g>=-1099511627776<;>by_cases y:g<=1099511627776<;>by_cases A:n>=0<;>by_cases C:n<=1048576<;>simp[h1,y,A,C]
theorem kkm{l:Int}:kbk l=true↔1<=l/\l<=1048576:=by
 unfold kbk;by_cases h1:l>=1<;>by_cases y:l<=1048576<;>simp[h1,y]
def scoreF(l g n:Int):Bool×List Nat×List Nat×Int:=if kbg g n=true/\kbk l=true then fracM (g*g) (n+l).toNat else(false,[],[],1)
theorem sq_lt{g:Int}(h1:-1099511627776<=g)(y:g<=1099511627776):(g*g).natAbs<=1099511627776*1099511627776:=by
 rw[Int.natAbs_mul];exact Nat.mul_le_mul (by omega) (by omega)
theorem kbgq(l g n:Int):Iter kx3 (.fn l g n) (scoreF l g n):=.done (by
 show kmg _ _ _=_;unfold kmg scoreF;cases h1:kbg g n with
 | false=>rfl
 | true =>
  cases y:kbk l with
  | false=>rfl
  | true =>
   obtain⟨a1,a2,a3,a4⟩:=kl2.1 h1;obtain⟨b1,b2⟩:=kkm.1 y;have A:=kg2;have C:=sq_lt a1 a2;rw[if_pos ⟨rfl,rfl⟩,kq ⟨by omega,by omega⟩,kge (by omega),kjd (by omega) (by omega),if_pos (by omega),wrap64 (by omega) (by omega),wrapU,Int.emod_eq_of_lt (by omega) (by omega)];have e:n+l=(((n+l).toNat:Nat):Int):=by omega
   rw[show u64P (n+l)=some (n+l).toNat from by rw[e];exact kbr (by omega)];simp only[Bool.not_true,cond_false,qbt];rw[ko5 (by omega) (by omega) (by omega)])
theorem kbbl(l g n:Int):Iter k1d (.fn l g n) (scoreF l g n):=.done (by
 show klr _ _ _=_;unfold klr scoreF;cases h1:kbg g n with
 | false=>rfl
 | true =>
  cases y:kbk l with
  | false =>
   rw[if_neg (by simp)];have y:¬(1<=l/\l<=1048576):=λe=>by rw[kkm.2 e]at y;cases y
   simp only[Bool.not_true,cond_false];refine kga (λ_=>rfl) λA=>?_;rw[qbv]at A;rw[condT (by rw[qbw];omega)]
  | true =>
   obtain⟨a1,a2,a3,a4⟩:=kl2.1 h1;obtain⟨b1,b2⟩:=kkm.1 y;have C:=kg2;have F:=sq_lt a1 a2;have w:=wrap64 (n:=n+l) (by omega) (by omega);rw[if_pos ⟨rfl,rfl⟩,w,kq ⟨by omega,by omega⟩,kq ⟨by omega,by omega⟩,kge (by omega),kge (by omega),kjd (by omega) (by omega),if_pos (by omega),qby (by omega),qby (by omega)];simp only[Bool.not_true,cond_false,qbt]
   have e:(intD (n+l)).2=digs B (n+l).toNat:=by
    show digs B (n+l).natAbs=_;rw[show(n+l).natAbs=(n+l).toNat from by omega]
   rw[e,ko5 (by omega) (by omega) (by omega)])
theorem ku0{h:AH}(l g n:Int):Runs (go (.fn ko2 [.i l,.agg [.i g,.i n]]) h) (kx1 h (scoreF l g n)):=kbk2 (kbgq l g n)
theorem ktz{h:AH}(l g n:Int):Runs (go (.fn kkl [.i l,.agg [.i g,.i n]]) h) (kwb h (scoreF l g n)):=k5c (kbbl l g n)
end Go.Ab
