/- Words and laws that the last text joins. -/
import Derived.Test.YtgfeahhgoiidiaaGreatDoorPS27
import Derived.Test.YtgfeahhgoiidiaaGreatDoorPU1
import Derived.Test.YtgfeahhgoiidiaaGreatDoorPAbsL
import Derived.Test.YtgfeahhgoiidiaaGreatDoorPS2
set_option linter.unusedVariables false
set_option linter.unusedSimpArgs false
set_option linter.unusedSectionVars false
set_option maxRecDepth 10000
namespace Go.Ab
open Go.Proofs Go.Num
def gcdN(xs ys:List Nat):List Nat×Int:=if rt xs=true/\rt ys=true then(digs B (Nat.gcd (num B xs) (num B ys)),0)else([],1)
theorem ky0{xs ys:List Nat}(A:rt xs=true)(C:rt ys=true)(h0:ys≠[]):(divN xs ys).2.1=digs B (num B xs%num B ys):=by simp[divN,A,C,h0]
theorem kbr{n:Nat}(h:n<B^64):rt (digs B n)=true:=rt_iff.2 ⟨(kbl B2 n 64).2 h,kcn B2 n⟩
theorem kjn{xs:List Nat}(A:∀x∈xs,x<B)(h:rt xs=true):num B xs<B^64:=by have h1:=num_lt B1 A;have C:B^xs.length<=B^64:=Nat.pow_le_pow_right B1 (rt_iff.1 h).1;omega
theorem k90:∀(b a:Nat),a<B^64->b<B^64->Iter kuq (.p4 (digs B a) (digs B b)) (digs B (Nat.gcd a b),0):=by
 intro b
 induction b using Nat.strongRecOn with
 | ind b ih =>
  intro a F C;by_cases h0:b=0
  ·subst h0;refine .done ?_;show kh4 _ _=_;unfold kh4;rw[kcg,Nat.gcd_zero_right];rfl
  ·have H:=Nat.mod_lt a (show 0<b by omega);have A:digs B b≠[]:=λh=>h0 ((kgt B2).1 h);have I:(digs B b).length≠0:=by simpa using A
   refine .next (s':=.p4 (digs B b) (digs B (a%b))) ?_ (by have:=ih (a%b) H b C (by omega);rwa[Nat.gcd_comm b,<- Nat.gcd_rec,Nat.gcd_comm b]at this)
   show kh4 _ _=_;unfold kh4;rw[condT (by rw[qbw];omega),ky0 (kbr F) (kbr C) A,ko B2,ko B2]
theorem k41:∀(b a:Nat),a<B^64->b<B^64->Iter ku9 (.p7 (digs B a) (digs B b)) (digs B (Nat.gcd a b),0):=by
 intro b
 induction b using Nat.strongRecOn with
 | ind b ih =>
  intro a F C;by_cases h0:b=0
  ·subst h0;refine .done ?_;show khv _ _=_;unfold khv;rw[kcg,Nat.gcd_zero_right];rfl
  ·have H:=Nat.mod_lt a (show 0<b by omega);have A:digs B b≠[]:=λh=>h0 ((kgt B2).1 h);have I:(digs B b).length≠0:=by simpa using A
   refine .next (s':=.p7 (digs B b) (digs B (a%b))) ?_ (by have:=ih (a%b) H b C (by omega);rwa[Nat.gcd_comm b,<- Nat.gcd_rec,Nat.gcd_comm b]at this)
   show khv _ _=_;unfold khv;rw[condT (by rw[qbw];omega),ky0 (kbr F) (kbr C) A,ko B2,ko B2]
theorem kbll{xs ys:List Nat}(F:∀x∈xs,x<B)(H:∀x∈ys,x<B):Iter kuq (.fn xs ys) (gcdN xs ys):=by
 unfold gcdN;cases A:rt xs with
 | false =>
  refine .done ?_;show kgb _ _=_;unfold kgb;simp[A]
 | true =>
  cases C:rt ys with
  | false =>
   refine .done ?_;show kgb _ _=_;unfold kgb;simp[A,C]
  | true =>obtain⟨I,Q⟩:=rt_iff.1 A;obtain⟨K,ty⟩:=rt_iff.1 C;have key:=k90 (num B ys) (num B xs) (kjn F A) (kjn H C);rw[kfs B2 F Q,kfs B2 H ty]at key;simp only[and_self,if_true];refine .next ?_ key;show kgb _ _=_;unfold kgb;rw[A,C,kq (by omega),qbt,kq (by omega),qbt];rfl
theorem kbmc{xs ys:List Nat}(F:∀x∈xs,x<B)(H:∀x∈ys,x<B):Iter ku9 (.fn xs ys) (gcdN xs ys):=by
 unfold gcdN;cases A:rt xs with
 | false =>
  refine .done ?_;show kge _ _=_;unfold kge;simp[A]
 | true =>
  cases C:rt ys with
  | false =>
   refine .done ?_;show kge _ _=_;unfold kge;simp[A,C]
  | true =>obtain⟨I,Q⟩:=rt_iff.1 A;obtain⟨K,ty⟩:=rt_iff.1 C;have key:=k41 (num B ys) (num B xs) (kjn F A) (kjn H C);rw[kfs B2 F Q,kfs B2 H ty]at key;simp only[and_self,if_true];refine .next ?_ key;show kge _ _=_;unfold kge;rw[A,C,kq (by omega),qbt,kq (by omega),qbt];rfl
theorem kyv{h:AH}{s t:Sl}{xs ys:List Nat}(n:Nats h s xs)(m:Nats h t ys):Runs (go (.fn kgj [s.v,t.v]) h) (kuu h (gcdN xs ys)):=k54 (kbll n.lt m.lt) n m
theorem kyz{h:AH}{s t:Sl}{xs ys:List Nat}(n:Nats h s xs)(m:Nats h t ys):Runs (go (.fn kfu [s.v,t.v]) h) (ks7 h (gcdN xs ys)):=kblk (kbmc n.lt m.lt) n m
def floorI(p:Bool)(xs:List Nat)(q:Bool)(ys:List Nat):Bool×List Nat×Bool×List Nat×Int :=
 cond (!(rtI p xs&&rtI q ys)) (false,[],false,[],1)
  (cond (decide (ys=[])) (false,[],false,[],3)
   (cond q (false,[],false,[],1)
    (cond (p&&!decide ((divN xs ys).2.1=[]))
     (cond (decide ((addN (divN xs ys).1 [1]).2=0)) ((fromI true (addN (divN xs ys).1 [1]).1).1,(fromI true (addN (divN xs ys).1 [1]).1).2,(fromI false (subN ys (divN xs ys).2.1).1).1,(fromI false (subN ys (divN xs ys).2.1).1).2,0) (false,[],false,[],(addN (divN xs ys).1 [1]).2))
     ((fromI p (divN xs ys).1).1,(fromI p (divN xs ys).1).2,(fromI false (divN xs ys).2.1).1,(fromI false (divN xs ys).2.1).2,0))))
theorem krz:digs B 1=[1]:=by decide +kernel
theorem kxo:u64P 1=some 1:=kbt (n:=1) (by decide)
theorem kl3{xs:List Nat}:decide ((List.length xs:Int)=0)=decide (xs=[]):=by
 rw[decide_eq_decide];cases xs
 ·simp
 ·simp;omega
theorem kbkk{xs:List Nat}:decide ((List.length xs:Int)>0)=!decide (xs=[]):=by
 cases xs
 ·rfl
 ·simp
theorem kbfd(p:Bool)(xs:List Nat)(q:Bool)(ys:List Nat):Iter k3a (.fn p xs q ys) (floorI p xs q ys):=by
 refine .done ?_;show km6 _ _ _ _=_;unfold km6 floorI;rw[kl3,kbkk,kxo];cases rtI p xs&&rtI q ys
 ·rfl
 ·cases decide (ys=[])
  ·cases q
   ·cases p
    ·rfl
    ·cases decide ((divN xs ys).2.1=[])
     ·simp only[Bool.not_true,Bool.not_false,cond_true,cond_false,Bool.and_self,qbt,krz];cases decide ((addN (divN xs ys).1 [1]).2=0)
      ·rfl
      ·rfl
     ·rfl
   ·rfl
  ·rfl
theorem kbhv(p:Bool)(xs:List Nat)(q:Bool)(ys:List Nat):Iter k2s (.fn p xs q ys) (floorI p xs q ys):=by
 refine .done ?_;show kmp _ _ _ _=_;unfold kmp floorI;rw[kl3,kl3,kxo];cases rtI p xs
 ·rfl
 ·cases rtI q ys
  ·rfl
  ·cases decide (ys=[])
   ·cases q
    ·cases p
     ·rfl
     ·cases A:decide ((divN xs ys).2.1=[])
      ·simp only[Bool.not_true,Bool.not_false,cond_true,cond_false,Bool.and_self,qbt,krz];cases decide ((addN (divN xs ys).1 [1]).2=0)
       ·rfl
       ·rfl
      ·rw[qbw]at A;rw[A];rfl
    ·rfl
   ·rfl
theorem k7f{h:AH}{s t:Sl}{xs ys:List Nat}(n:Nats h s xs)(m:Nats h t ys)(p q:Bool):Runs (go (.fn kr3 [.agg [.bool p,s.v],.agg [.bool q,t.v]]) h) (k09 h (floorI p xs q ys)):=k9s (kbfd p xs q ys) n m
theorem kbnd{h:AH}{s t:Sl}{xs ys:List Nat}(n:Nats h s xs)(m:Nats h t ys)(p q:Bool):Runs (go (.fn kpr [.agg [.bool p,s.v],.agg [.bool q,t.v]]) h) (k1v h (floorI p xs q ys)):=k6g (kbhv p xs q ys) n m
def intD(z:Int):Bool×List Nat:=(decide (z<0),digs B z.natAbs)
theorem kv0(p:Bool):fromI p []=(false,[]):=by simp[fromI]
theorem kee{n:Nat}(h:n<B^64)(neg:Bool):fromI neg (digs B n)=intD (if neg=true then -(n:Int)else(n:Int)):=by
 by_cases h0:n=0
 ·subst h0;rw[kcg,kv0];cases neg<;>simp[intD,kcg]
 ·have A:digs B n≠[]:=λe=>h0 ((kgt B2).1 e);unfold fromI intD;rw[if_pos ⟨kbr h,A⟩];cases neg
  ·have e:((n:Int)).natAbs=n:=by omega
   have C:decide ((n:Int)<0)=false:=by rw[qbv];omega
   simp only[qcn,if_false,e,C]
  ·have e:(-(n:Int)).natAbs=n:=by omega
   have C:decide (-(n:Int)<0)=true:=by rw[qbw];omega
   simp only[if_true,e,C]
theorem kdc{z:Int}(h:z.natAbs<B^64):rtI (intD z).1 (intD z).2=true:=by
 unfold rtI intD;dsimp only;rw[kbr h,Bool.true_and];by_cases C:z<0
 ·have A:digs B z.natAbs≠[]:=λe=>by
   have:=(kgt B2).1 e;omega
  rw[qbx C];simp[A]
 ·rw[qby C];simp
theorem of_rtI{p:Bool}{xs:List Nat}(F:∀x∈xs,x<B)(h:rtI p xs=true):∃z:Int,p=(intD z).1/\xs=(intD z).2/\z.natAbs<B^64:=by
 have A:=rtI_rt h;have I:=kjn F A;have H:=kfs B2 F (rt_iff.1 A).2;unfold rtI at h;rw[A,Bool.true_and]at h;cases p
 ·refine⟨(num B xs:Int),?_,?_,by omega⟩
  ·show false=decide ((num B xs:Int)<0);symm;rw[qbv];omega
  ·show xs=digs B ((num B xs:Int)).natAbs;rw[show((num B xs:Int)).natAbs=num B xs from by omega,H]
 ·have C:xs≠[]:=by simpa using h
  have K:=ku0 B1 (rt_iff.1 A).2 C;refine⟨-(num B xs:Int),?_,?_,by omega⟩
  ·show true=decide (-(num B xs:Int)<0);symm;rw[qbw];omega
  ·show xs=digs B (-(num B xs:Int)).natAbs;rw[show(-(num B xs:Int)).natAbs=num B xs from by omega,H]
theorem kpi{n:Nat}(h:n<B^64):told n=(digs B n,0):=by unfold told;rw[if_pos h]
theorem kz2{n:Nat}(h:¬n<B^64):told n=([],4):=by unfold told;rw[if_neg h]
theorem kkw{u v:Int}(H:u.natAbs<B^64)(I:v.natAbs<B^64):kx (intD u).1 (intD u).2 (intD v).1 (intD v).2=if(u*v).natAbs<B^64 then((intD (u*v)).1,(intD (u*v)).2,0)else(false,[],4):=by
 unfold kx;rw[kdc H,kdc I]
 have e:mulN (intD u).2 (intD v).2=told (u.natAbs*v.natAbs):=by unfold mulN intD;dsimp only;rw[if_pos ⟨kbr H,kbr I⟩,ko B2,ko B2]
 rw[e,Int.natAbs_mul];simp only[Bool.and_self,Bool.not_true,cond_false];by_cases h:u.natAbs*v.natAbs<B^64
 ·rw[if_pos h,kpi h];dsimp only;rw[kee h]
  have key:(if(!((intD u).1==(intD v).1))=true then -((u.natAbs*v.natAbs:Nat):Int)else((u.natAbs*v.natAbs:Nat):Int))=u*v:=by
   unfold intD;dsimp only;rw[Int.natCast_mul];by_cases h1:u<0
   ·by_cases F:v<0
    ·have A:((u.natAbs:Nat):Int)=-u:=by omega
     have C:((v.natAbs:Nat):Int)=-v:=by omega
     simp[h1,F,A,C,Int.neg_mul,Int.mul_neg]
    ·have A:((u.natAbs:Nat):Int)=-u:=by omega
     have C:((v.natAbs:Nat):Int)=v:=by omega
     simp[h1,F,A,C,Int.neg_mul,Int.mul_neg]
   ·by_cases F:v<0
    ·have A:((u.natAbs:Nat):Int)=u:=by omega
     have C:((v.natAbs:Nat):Int)=-v:=by omega
     simp[h1,F,A,C,Int.neg_mul,Int.mul_neg]
    ·have A:((u.natAbs:Nat):Int)=u:=by omega
     have C:((v.natAbs:Nat):Int)=v:=by omega
     simp[h1,F,A,C,Int.neg_mul,Int.mul_neg]
  rw[key]
 ·rw[if_neg h,kz2 h];dsimp only;rw[kv0]
theorem k3p{u v:Int}(A:u.natAbs<B^64)(C:v.natAbs<B^64):kbf (intD u).1 (intD u).2 (intD v).1 (intD v).2=if(u+v).natAbs<B^64 then((intD (u+v)).1,(intD (u+v)).2,0)else(false,[],4):=by
 unfold kbf;rw[kdc A,kdc C];simp only[Bool.and_self,Bool.not_true,cond_false]
 have I:addN (intD u).2 (intD v).2=told (u.natAbs+v.natAbs):=by unfold addN intD;dsimp only;rw[if_pos ⟨kbr A,kbr C⟩,ko B2,ko B2]
 have es:∀{a b:Int},a.natAbs<B^64->b.natAbs<B^64->b.natAbs<=a.natAbs->subN (intD a).2 (intD b).2=(digs B (a.natAbs-b.natAbs),0):=by intro a b K F Q;unfold subN intD;dsimp only;rw[if_pos ⟨kbr K,kbr F⟩,ko B2,ko B2,if_neg (by omega)]
 have U:cmpN (intD u).2 (intD v).2=cmp u.natAbs v.natAbs:=by unfold cmpN intD;dsimp only;rw[if_pos ⟨kbr A,kbr C⟩,ko B2,ko B2]
 rw[I,U];have s1:(intD u).1=decide (u<0):=rfl;have s2:(intD v).1=decide (v<0):=rfl;rw[s1,s2];by_cases X:(u<0↔v<0)
 ·have F:(decide (u<0)==decide (v<0))=true:=by simp[X]
  rw[F,cond_true];by_cases h:u.natAbs+v.natAbs<B^64
  ·rw[if_pos (by omega),kpi h];dsimp only;rw[kee h]
   have:(if decide (u<0)=true then -((u.natAbs+v.natAbs:Nat):Int)else((u.natAbs+v.natAbs:Nat):Int))=u+v:=by
    by_cases h1:u<0
    ·simp only[h1,decide_true,if_true];omega
    ·simp only[h1,decide_false,qcn,if_false];omega
   rw[this]
  ·rw[if_neg (by omega),kz2 h];dsimp only;rw[kv0]
 ·have F:(decide (u<0)==decide (v<0))=false:=by
   by_cases h1:u<0<;>by_cases Y:v<0<;>simp_all
  rw[F,cond_false,if_pos (by omega)];by_cases H:u.natAbs<v.natAbs
  ·rw[condT (by rw[qbw,cmp_lt];exact H),es C A (by omega)];dsimp only;rw[kee (by omega)]
   have:(if decide (v<0)=true then -((v.natAbs-u.natAbs:Nat):Int)else((v.natAbs-u.natAbs:Nat):Int))=u+v:=by
    by_cases h1:v<0
    ·simp only[h1,decide_true,if_true];omega
    ·simp only[h1,decide_false,qcn,if_false];omega
   rw[this]
  ·rw[condF (by rw[qbv,cmp_lt];exact H),es A C (by omega)];dsimp only;rw[kee (by omega)]
   have:(if decide (u<0)=true then -((u.natAbs-v.natAbs:Nat):Int)else((u.natAbs-v.natAbs:Nat):Int))=u+v:=by
    by_cases h1:u<0
    ·simp only[h1,decide_true,if_true];omega
    ·simp only[h1,decide_false,qcn,if_false];omega
   rw[this]
theorem k2j{v:Int}(A:v.natAbs<B^64):negI (intD v).1 (intD v).2=intD (-v):=by
 unfold negI;rw[if_pos (kdc A)];show fromI (!decide (v<0)) (digs B v.natAbs)=_;rw[kee A];by_cases h1:v<0
 ·have e:((v.natAbs:Nat):Int)=-v:=by omega
  simp[h1,e]
 ·have e:((v.natAbs:Nat):Int)=v:=by omega
  simp[h1,e]
theorem k6r{u v:Int}(A:u.natAbs<B^64)(C:v.natAbs<B^64):ken (intD u).1 (intD u).2 (intD v).1 (intD v).2=if(u-v).natAbs<B^64 then((intD (u-v)).1,(intD (u-v)).2,0)else(false,[],4):=by
 have e:ken (intD u).1 (intD u).2 (intD v).1 (intD v).2=kbf (intD u).1 (intD u).2 (intD (-v)).1 (intD (-v)).2:=by unfold ken;rw[kdc A,kdc C,k2j C];rfl
 rw[e,k3p A (by omega)];rfl
theorem k3i(n:Nat):intD (n:Int)=(false,digs B n):=by
 unfold intD;have:decide ((n:Int)<0)=false:=by rw[qbv];omega
 rw[this];rfl
theorem k4d{u v:Int}(Z:u.natAbs<B^64)(hv:v.natAbs<B^64)(h0:0<v):floorI (intD u).1 (intD u).2 (intD v).1 (intD v).2=((intD (u/v)).1,(intD (u/v)).2,(intD (u%v)).1,(intD (u%v)).2,0):=by
 obtain⟨y,rfl⟩:∃y:Nat,v=(y:Int):=⟨v.toNat,by omega⟩;have hy:y<B^64:=by simpa using hv
 have H:0<y:=by omega
 have I:(intD (y:Int)).2≠[]:=λe=>by
  have:y=0:=by simpa[intD]using (kgt B2).1 e
  omega
 unfold floorI;rw[kdc Z,kdc hv];have sy:(intD (y:Int)).1=false:=by rw[k3i]
 have dv:divN (intD u).2 (intD (y:Int)).2=(digs B (u.natAbs/y),digs B (u.natAbs%y),0):=by unfold divN;rw[if_pos ⟨rtI_rt (kdc Z),rtI_rt (kdc hv)⟩,if_neg I];simp only[intD,ko B2,Int.natAbs_natCast]
 have hQ:u.natAbs/y<B^64:=qbs (Nat.div_le_self _ _) Z;have hR:u.natAbs%y<B^64:=Nat.lt_trans (Nat.mod_lt _ H) hy;have dm:=Nat.div_add_mod u.natAbs y;have hm:=Nat.mod_lt u.natAbs H;rw[dv,sy];simp only[Bool.and_self,Bool.not_true,cond_false,I,decide_false];have s1:(intD u).1=decide (u<0):=rfl;rw[s1];have K:(digs B (u.natAbs%y)=[])↔u.natAbs%y=0:=kgt B2;by_cases Q:u<0/\u.natAbs%y≠0
 ·have b1:(decide (u<0)&&!decide (digs B (u.natAbs%y)=[]))=true:=by
   rw[qb9,qbw,qci,qbv,K];exact Q
  rw[b1,cond_true];have h1:[1]=digs B 1:=krz.symm
  have U:u.natAbs/y+1<B^64:=by
   have aa:2<=y:=by
    rcases Nat.lt_or_ge y 2 with h | h
    ·have:y=1:=by omega
     subst this;rw[Nat.mod_one]at Q;exact absurd rfl Q.2
    ·exact h
   have:u.natAbs/y<=u.natAbs/2:=Nat.div_le_div_left aa (by omega);have hb:2<B^64:=by decide +kernel
   omega
  have au:addN (digs B (u.natAbs/y)) [1]=(digs B (u.natAbs/y+1),0):=by unfold addN;rw[h1,if_pos ⟨kbr hQ,kbr (by decide +kernel)⟩,ko B2,ko B2,kpi U]
  have su:subN (intD (y:Int)).2 (digs B (u.natAbs%y))=(digs B (y-u.natAbs%y),0):=by rw[k3i];unfold subN;rw[if_pos ⟨kbr hy,kbr hR⟩,ko B2,ko B2,if_neg (by omega)]
  rw[au,su];dsimp only;rw[kee U,kee (by omega)]
  have F:u/(y:Int)=-((u.natAbs/y+1:Nat):Int):=by
   have A:u=-((y*(u.natAbs/y)+u.natAbs%y:Nat):Int):=by rw[dm];omega
   generalize u.natAbs/y=q at *
   generalize u.natAbs%y=r at *
   rw[A];rw[Int.ediv_eq_iff_of_pos (by omega)];constructor
   ·rw[Int.natCast_add,Int.natCast_add,Int.natCast_mul,Int.neg_mul,Int.add_mul,Int.mul_comm (q:Int)];omega
   ·rw[Int.natCast_add,Int.natCast_add,Int.natCast_mul,Int.neg_mul,Int.add_mul,Int.mul_comm (q:Int)];omega
  have X:u%(y:Int)=((y-u.natAbs%y:Nat):Int):=by
   have:=Int.mul_ediv_add_emod u (y:Int);rw[F]at this
   have Y:((y:Int)*((u.natAbs/y:Nat):Int))+((u.natAbs%y:Nat):Int)=((u.natAbs:Nat):Int):=by rw[<- Int.natCast_mul,<- Int.natCast_add,dm]
   rw[Int.natCast_add,Int.mul_neg,Int.mul_add]at this;omega
  rw[F,X];rfl
 ·have b1:(decide (u<0)&&!decide (digs B (u.natAbs%y)=[]))=false:=by
   rw[<- Bool.not_eq_true,qb9,qbw,qci,qbv,K];exact Q
  rw[b1,cond_false,kee hQ,kee hR]
  have Y:((y:Int)*((u.natAbs/y:Nat):Int))+((u.natAbs%y:Nat):Int)=((u.natAbs:Nat):Int):=by rw[<- Int.natCast_mul,<- Int.natCast_add,dm]
  by_cases C:u<0
  ·have hr:u.natAbs%y=0:=by
    rcases Nat.eq_zero_or_pos (u.natAbs%y)with h | h
    ·exact h
    ·exact absurd ⟨C,by omega⟩ Q
   rw[hr]at Y|-
   have A:u=(y:Int)*-((u.natAbs/y:Nat):Int):=by rw[Int.mul_neg];omega
   have F:u/(y:Int)=-((u.natAbs/y:Nat):Int):=by
    conv=>lhs;rw[A]
    exact Int.mul_ediv_cancel_left _ (by omega)
   have X:u%(y:Int)=0:=by
    conv=>lhs;rw[A]
    exact Int.mul_emod_right _ _
   rw[F,X,if_pos (by simpa using C)];rfl
  ·have A:u=((u.natAbs:Nat):Int):=by omega
   have F:u/(y:Int)=((u.natAbs/y:Nat):Int):=by
    conv=>lhs;rw[A]
    rfl
   have X:u%(y:Int)=((u.natAbs%y:Nat):Int):=by
    conv=>lhs;rw[A]
    rfl
   rw[F,X,if_neg (by simpa using C)];rfl
theorem kya{u v:Int}(I:u.natAbs<B^64)(h0:0<v):(u/v).natAbs<B^64/\(u/v).natAbs<=u.natAbs:=by
 have h1:=Int.mul_ediv_add_emod u v;have K:=Int.emod_nonneg u (show v≠0 by omega);have Q:=Int.emod_lt_of_pos u h0
 have key:(u/v).natAbs<=u.natAbs:=by
  by_cases F:u<0
  ·have A:u/v<0:=Int.ediv_neg_of_neg_of_pos F h0
   have:u<=u/v:=by
    have H:v*(u/v)<=1*(u/v):=Int.mul_le_mul_of_nonpos_right (by omega) (by omega);rcases Int.lt_or_le (u/v) u with C | C
    ·exfalso;have U:u/v+1<=u:=by omega
     have X:v*(u/v+1)=v*(u/v)+v:=by rw[Int.mul_add,Int.mul_one]
     have Y:v*(u/v+1)<=1*(u/v+1):=Int.mul_le_mul_of_nonpos_right (by omega) (by omega);omega
    ·exact C
   omega
  ·have A:0<=u/v:=Int.ediv_nonneg (by omega) (by omega);have H:1*(u/v)<=v*(u/v):=Int.mul_le_mul_of_nonneg_right (by omega) A;omega
 exact⟨by omega,key⟩
theorem kg2:18446744073709551616*18446744073709551616<=B^64:=by
 have:B^64=B*B*B^62:=by rw[show 64=2+62 from rfl,Nat.pow_add,Nat.pow_two]
 rw[this];have h:1<=B^62:=Nat.pow_pos B1;have:=Nat.mul_le_mul_left (B*B) h;rw[Nat.mul_one]at this;exact this
theorem kfv{n:Int}(h:n.natAbs<18446744073709551616):ofI n=intD n:=by
 have A:n.natAbs<B^64:=by have:=kg2;omega
 unfold ofI;rw[kee A];by_cases h1:n<0
 ·rw[qbx h1];have e:((n.natAbs:Nat):Int)=-n:=by omega
  simp[e]
 ·rw[qby h1];have e:((n.natAbs:Nat):Int)=n:=by omega
  simp[e]
theorem kqb(n:Int){h:AH}(c:-9223372036854775808<=n/\n<=9223372036854775807):∃(s':Sl)(h':AH),go (.fn kjb [.i n]) h=some (.agg [.bool (ofI n).1,s'.v],h')/\Nats h' s' (ofI n).2/\Grow h h'/\Own h s':=k5w c.1 c.2
theorem kho(n:Int){h:AH}(c:-9223372036854775808<=n/\n<=9223372036854775807):∃(s':Sl)(h':AH),go (.fn ke0 [.i n]) h=some (.agg [.bool (ofI n).1,s'.v],h')/\Nats h' s' (ofI n).2/\Grow h h'/\Own h s':=kbd4 c.1 c.2
end Go.Ab
set_option maxRecDepth 10000
namespace Go.Ab
open Go.Proofs
theorem ks6(n a b:Int)(h:AH):go (.fn kdk [.i n,.i a,.i b]) h=some (.bool (decide (a<=n/\n<=b)),h):=by rw[kbac];by_cases h1:a<=n<;>simp[h1]
structure Cfg where
 (trees depth lambda gamma num den loss clip:Int)
@[reducible] def Cfg.v(c:Cfg):AV:=.agg [.i c.trees,.i c.depth,.i c.lambda,.i c.gamma,.i c.num,.i c.den,.i c.loss,.i c.clip]
def Cfg.right(c:Cfg):Bool:=decide (1<=c.trees/\c.trees<=16/\1<=c.depth/\c.depth<=5/\1<=c.lambda/\c.lambda<=1048576/\0<=c.gamma/\c.gamma<=1048576/\1<=c.den/\c.den<=1048576/\1<=c.num/\c.num<=c.den/\(c.loss=0/\c.clip=0\/c.loss=1/\1<=c.clip/\c.clip<=1048576))
theorem kti(c:Cfg)(h:AH):∃h',go (.fn kjm [c.v]) h=some (.bool c.right,h')/\Grow h h':=by
 rw[kbhw];simp[ks6,cond_eq_ite];refine⟨_,?_,qm _ (.cells [.i c.trees,.i c.depth,.i c.lambda,.i c.gamma,.i c.num,.i c.den,.i c.loss,.i c.clip] kbn)⟩;unfold Cfg.right
 repeat' split
 all_goals
  refine kbmg ?_;simp only[qb9,qbw,qcn,false_iff];omega
theorem kt9(c:Cfg)(h:AH):∃h',go (.fn kjl [c.v]) h=some (.bool c.right,h')/\Grow h h':=by
 rw[k6x];simp[cond_eq_ite];refine⟨_,?_,qm _ (.cells [.i c.trees,.i c.depth,.i c.lambda,.i c.gamma,.i c.num,.i c.den,.i c.loss,.i c.clip] kbn)⟩;generalize h.push _=h1
 repeat' refine kiw (λ_=>?_) (λ_=>?_)
 all_goals
  refine ans_eq ?_;unfold Cfg.right;simp only[qb9,qbw,qcn,true_iff,false_iff];omega
def Cfg.grad(c:Cfg)(s l:Int):Int×Int :=
 if c.right=true/\-1099511627776<=s/\s<=1099511627776/\-1048576<=l/\l<=1048576 then
  (let m:=if c.loss=1 then c.clip else 1048576
   if s-l < -m then -m else if s-l>m then m else s-l,0)
 else(0,1)
theorem Cfg.right_clip{c:Cfg}(h:c.right=true)(h1:c.loss=1):1<=c.clip/\c.clip<=1048576:=by unfold Cfg.right at h;simp only[qbw]at h;omega
theorem kbge(c:Cfg)(s l:Int)(h:AH):∃h',go (.fn kvr [c.v,.i s,.i l]) h=some (.tup [.i (c.grad s l).1,.i (c.grad s l).2],h')/\Grow h h':=by
 rw[kbmk];simp;obtain⟨h1,C,A⟩:=kti c (h.push (.cells [.i c.trees,.i c.depth,.i c.lambda,.i c.gamma,.i c.num,.i c.den,.i c.loss,.i c.clip] kbn));rw[C];simp[ks6,cond_eq_ite,A.cell_new];refine⟨h1,?_,A.push'⟩;unfold Cfg.grad;cases F:c.right with
 | false=>simp
 | true =>
  have H:=Cfg.right_clip F;by_cases a1:-1099511627776<=s<;>by_cases a2:s<=1099511627776<;>simp[a1,a2];by_cases a3:-1048576<=l<;>by_cases a4:l<=1048576<;>simp[a3,a4];rw[wrap64 (n:=s-l) (by omega) (by omega)];by_cases a5:c.loss=1
  ·have:=H a5;simp only[a5,if_true];rw[wrap64 (n:=-c.clip) (by omega) (by omega),klb,kih];simp
   repeat' split
   all_goals omega
  ·simp only[a5,if_false];rw[wrap64 (n:=-1048576) (by omega) (by omega),klb,kih];simp
   repeat' split
   all_goals omega
theorem k77(c:Cfg)(s l:Int)(h:AH):∃h',go (.fn kuy [c.v,.i s,.i l]) h=some (.tup [.i (c.grad s l).1,.i (c.grad s l).2],h')/\Grow h h':=by
 rw[kben];simp;obtain⟨h1,F,C⟩:=kt9 c (h.push (.cells [.i c.trees,.i c.depth,.i c.lambda,.i c.gamma,.i c.num,.i c.den,.i c.loss,.i c.clip] kbn));rw[F];simp[cond_eq_ite,C.cell_new];refine⟨h1,?_,C.push'⟩;unfold Cfg.grad;refine kiw (λA=>?_) (λA=>?_)
 ·have H:=Cfg.right_clip A;refine kiw (λa1=>?_) (λa1=>?_)
  ·rw[if_neg (by omega)]
  refine kiw (λa2=>?_) (λa2=>?_)
  ·rw[if_neg (by omega)]
  refine kiw (λa3=>?_) (λa3=>?_)
  ·rw[if_neg (by omega)]
  refine kiw (λa4=>?_) (λa4=>?_)
  ·rw[if_neg (by omega)]
  have I:c.right=true/\-1099511627776<=s/\s<=1099511627776/\-1048576<=l/\l<=1048576:=⟨A,by omega⟩;rw[if_pos I,wrap64 (n:=s-l) (by omega) (by omega)];refine kiw (λa5=>?_) (λa5=>?_)
  ·have:=H a5;simp only[a5,if_true];rw[wrap64 (n:=-c.clip) (by omega) (by omega),klb,kih];simp
   repeat' split
   all_goals omega
  ·simp only[a5,if_false];rw[wrap64 (n:=-1048576) (by omega) (by omega),klb,kih];simp
   repeat' split
   all_goals omega
 ·rw[if_neg (λx=>A x.1)]
end Go.Ab
set_option maxRecDepth 10000
namespace Go.Ab
open Go.Proofs Go.Num
def smallN(xs:List Nat):Nat×Bool:=if rt xs=true/\xs.length<=1 then(xs.getD 0 0,true)else(0,false)
theorem kxr{h:AH}{s:Sl}{xs:List Nat}(n:Nats h s xs):go (.fn kvf [s.v]) h=some (.tup [.int .u64 ((smallN xs).1:Int),.bool (smallN xs).2],h):=by
 rw[k68,khf n];have H:=n.len;simp only[qbt,kbo];cases A:rt xs with
 | false=>simp[smallN,A]
 | true =>
  simp only[Bool.not_true,cond_false];by_cases h1:xs.length<=1
  ·rw[show decide ((s.len:Int)>1)=false from by rw[qbv];omega,cond_false];simp only[smallN,A,h1,and_self,if_true];by_cases h0:xs.length=0
   ·rw[show decide ((s.len:Int)=0)=true from by rw[qbw];omega,cond_true,List.length_eq_zero_iff.1 h0];rfl
   ·rw[show decide ((s.len:Int)=0)=false from by rw[qbv];omega,cond_false];obtain⟨r,C,F⟩:=n.at (i:=0) (by omega);rw[show idx s.ref s.len 0 1=some r from C];simp only[qbt,F,kb];rw[kb0 (by omega)]
  ·rw[show decide ((s.len:Int)>1)=true from by rw[qbw];omega];simp[smallN,h1]
theorem k0r{h:AH}{s:Sl}{xs:List Nat}(n:Nats h s xs):go (.fn kv3 [s.v]) h=some (.tup [.int .u64 ((smallN xs).1:Int),.bool (smallN xs).2],h):=by
 rw[kbmn,kco n];have H:=n.len;simp only[qbt,kbo];cases A:rt xs with
 | false=>simp[smallN,A]
 | true =>
  simp only[Bool.not_true,cond_false];by_cases h1:xs.length<=1
  ·rw[show decide ((s.len:Int)>1)=false from by rw[qbv];omega,cond_false];simp only[smallN,A,h1,and_self,if_true];by_cases h0:xs.length=0
   ·rw[show decide ((s.len:Int)=0)=true from by rw[qbw];omega,cond_true,List.length_eq_zero_iff.1 h0];rfl
   ·rw[show decide ((s.len:Int)=0)=false from by rw[qbv];omega,cond_false];obtain⟨r,C,F⟩:=n.at (i:=0) (by omega);rw[show idx s.ref s.len 0 1=some r from C];simp only[qbt,F,kb];rw[kb0 (by omega)]
  ·rw[show decide ((s.len:Int)>1)=true from by rw[qbw];omega];simp[smallN,h1]
def smallI(neg:Bool)(xs:List Nat):Int×Bool:=if rtI neg xs=true/\(smallN xs).2=true/\(smallN xs).1<=(if neg=true then 9223372036854775808 else 9223372036854775807)then((if neg=true then -((smallN xs).1:Int)else((smallN xs).1:Int)),true)else(0,false)
theorem kbhj{h:AH}{s:Sl}{xs:List Nat}(n:Nats h s xs)(neg:Bool):∃h',go (.fn ksr [.agg [.bool neg,s.v]]) h=some (.tup [.i (smallI neg xs).1,.bool (smallI neg xs).2],h')/\Grow h h':=by
 rw[k6z];simp only[kbw];have F:=qo h [.bool neg,s.v] ki;have I:=qm h (.cells [.bool neg,s.v] ki);have H:=n.grow I;generalize h.push (.cells [.bool neg,s.v] ki)=h0 at *
 obtain⟨h1,K,Q⟩:=km0 H neg;have b1:=Q.has F;refine⟨h1,?_,I.trans Q⟩
 have X:(smallN xs).1<18446744073709551616:=by
  unfold smallN;split
  ·rename_i Y;rcases Nat.eq_zero_or_pos xs.length with C | C
   ·rw[List.length_eq_zero_iff.1 C];decide
   ·rw[kb0 C];exact n.lt _ (qb3 _)
  ·decide
 have U:IntKind.wrap .u64 (9223372036854775807+1)=9223372036854775808:=by rw[wrapU];rfl
 cases neg with
 | true =>
  simp only[qj,Nat.zero_add,F.cell,b1.cell,List.getElem?_cons_zero,List.getElem?_cons_succ,qbt,kbo,asSl_v,kxr H,kc5,kb,cond_true,K,U];unfold smallI;cases rtI true xs<;>cases(smallN xs).2<;>simp;by_cases A:(smallN xs).1<=9223372036854775808
  ·rw[show decide (9223372036854775808<((smallN xs).1:Int))=false from by rw[qbv];omega];simp only[cond_false,A,if_true];congr 3;rw[wrapU];simp[IntKind.wrap,IntKind.bits,IntKind.signed];omega
  ·rw[show decide (9223372036854775808<((smallN xs).1:Int))=true from by rw[qbw];omega];simp[A]
 | false =>
  simp only[qj,Nat.zero_add,F.cell,b1.cell,List.getElem?_cons_zero,List.getElem?_cons_succ,qbt,kbo,asSl_v,kxr H,kc5,kb,cond_false,K];unfold smallI;cases rtI false xs<;>cases(smallN xs).2<;>simp;by_cases A:(smallN xs).1<=9223372036854775807
  ·rw[show decide (9223372036854775807<((smallN xs).1:Int))=false from by rw[qbv];omega];simp only[cond_false,A,if_true];rw[wrap64 (by omega) (by omega)]
  ·rw[show decide (9223372036854775807<((smallN xs).1:Int))=true from by rw[qbw];omega];simp[A]
theorem kbgk{h:AH}{s:Sl}{xs:List Nat}(n:Nats h s xs)(neg:Bool):∃h',go (.fn kud [.agg [.bool neg,s.v]]) h=some (.tup [.i (smallI neg xs).1,.bool (smallI neg xs).2],h')/\Grow h h':=by
 rw[k8l];simp only[kbw];have K:=qo h [.bool neg,s.v] ki;have X:=qm h (.cells [.bool neg,s.v] ki);have Y:=n.grow X;generalize h.push (.cells [.bool neg,s.v] ki)=h0 at *
 obtain⟨h1,Z,Q⟩:=keh Y neg;have b1:=Q.has K;have n1:=Y.grow Q;refine⟨h1,?_,X.trans Q⟩
 have hb:(smallN xs).1<18446744073709551616:=by
  unfold smallN;split
  ·rename_i hx;rcases Nat.eq_zero_or_pos xs.length with C | C
   ·rw[List.length_eq_zero_iff.1 C];decide
   ·rw[kb0 C];exact n.lt _ (qb3 _)
  ·decide
 have I:neg=true->rtI neg xs=true->(smallN xs).2=true->1<=(smallN xs).1:=by
  rintro rfl h1 F
  unfold smallN at F|-;split at F
  ·rename_i hx;rw[if_pos hx];simp only[rtI,Bool.not_true,Bool.false_or,qb9,qbw]at h1;obtain⟨U,H⟩:=h1;have ht:=(rt_iff.1 U).2 H;rw[List.getLast_eq_getElem]at ht
   have hl:xs.length=1:=by have:xs.length≠0:=λe=>H (List.length_eq_zero_iff.1 e);omega
   rw[kb0 (by omega)];have:xs[xs.length-1]'(by omega)=xs[0]'(by omega):=by congr 1;omega
   omega
  ·cases F
 cases neg with
 | true =>
  simp only[qj,Nat.zero_add,K.cell,b1.cell,List.getElem?_cons_zero,List.getElem?_cons_succ,qbt,kbo,asSl_v,k0r n1,kc5,kb,cond_true,Z,Bool.not_true,cond_false];unfold smallI;have I:=I rfl;cases U:rtI true xs<;>cases F:(smallN xs).2<;>simp;have I:=I U F;by_cases A:(smallN xs).1<=9223372036854775808
  ·rw[show decide (9223372036854775808<((smallN xs).1:Int))=false from by rw[qbv];omega];simp only[cond_false,A,if_true];congr 3;rw[wrapU,Int.emod_eq_of_lt (by omega) (by omega),wrap64 (n:=((smallN xs).1:Int)-1) (by omega) (by omega),wrap64 (n:=-(((smallN xs).1:Int)-1)) (by omega) (by omega),wrap64 (by omega) (by omega)];rw[show -(((smallN xs).1:Int)-1)-1=-((smallN xs).1:Int)from by omega]
  ·rw[show decide (9223372036854775808<((smallN xs).1:Int))=true from by rw[qbw];omega];simp[A]
 | false =>
  simp only[qj,Nat.zero_add,K.cell,b1.cell,List.getElem?_cons_zero,List.getElem?_cons_succ,qbt,kbo,asSl_v,k0r n1,kc5,kb,cond_false,Z,Bool.not_false,cond_true];unfold smallI;cases rtI false xs<;>cases(smallN xs).2<;>simp;by_cases A:(smallN xs).1<=9223372036854775807
  ·rw[show decide (9223372036854775807<((smallN xs).1:Int))=false from by rw[qbv];omega];simp only[cond_false,A,if_true];rw[wrap64 (by omega) (by omega)]
  ·rw[show decide (9223372036854775807<((smallN xs).1:Int))=true from by rw[qbw];omega];simp[A]
theorem kbhz{h:AH}:∃(s':Sl)(h':AH),go (.fn kgr [.int .u64 1]) h=some (s'.v,h')/\Nats h' s' [1]/\Grow h h'/\Own h s':=by have:=ksh (h:=h) (x:=1) (by decide);rw[krz]at this;exact this
def kbb(a1:Bool)(x2 x3:List Nat):Bool:=cond (!(rtI a1 x2)) (false) (cond (!(rt x3)) (false) (cond (decide ((List.length x3:Int)=0)) (false) (cond (decide ((List.length x3:Int)>16)) (false) (cond (decide ((List.length x2:Int)>16)) (false) (decide ((cmpN ((gcdN x2 x3).1) [1])=0))))))
theorem kbdo{h:AH}{a2:Sl}{x2:List Nat}{a3:Sl}{x3:List Nat}(Y:Nats h a2 x2)(X:Nats h a3 x3)(a1:Bool):Runs (go (.fn kux [.agg [.bool a1,a2.v,a3.v]]) h) λv h'=>v=.bool (kbb a1 x2 x3)/\Grow h h':=by
 rw[kbje];refine q0 λH4 b4 C=>?_;refine qz (qbf b4 0 rfl rfl) (qz (qbf b4 1 rfl qco) ?_);obtain⟨H5,e5,A⟩:=km0 (Y.grow C) a1;refine qz e5 (qz (seen rfl) ?_);refine qbd (λH=>?_) (λH=>?_)
 ·have z:kbb a1 x2 x3=false:=by unfold kbb;exact(condT H).trans rfl
  rw[z];exact qy ⟨rfl,(C.trans A)⟩
 ·refine qz (qbf (A.has b4) 2 rfl qco) (qz (khf (X.grow (C.trans A))) (qz (seen rfl) ?_));refine qbd (λK=>?_) (λK=>?_)
  ·have z:kbb a1 x2 x3=false:=by unfold kbb;exact(condF H).trans ((condT K).trans rfl)
   rw[z];exact qy ⟨rfl,(C.trans A)⟩
  ·refine qz (qbf (A.has b4) 2 rfl qco) ?_;rw[(X.grow (C.trans A)).len];refine qbd (λQ=>?_) (λQ=>?_)
   ·have z:kbb a1 x2 x3=false:=by unfold kbb;exact(condF H).trans ((condF K).trans ((condT Q).trans rfl))
    rw[z];exact qy ⟨rfl,(C.trans A)⟩
   ·refine qz (qbf (A.has b4) 2 rfl qco) ?_;rw[(X.grow (C.trans A)).len];refine qbd (λF=>?_) (λF=>?_)
    ·have z:kbb a1 x2 x3=false:=by unfold kbb;exact(condF H).trans ((condF K).trans ((condF Q).trans ((condT F).trans rfl)))
     rw[z];exact qy ⟨rfl,(C.trans A)⟩
    ·refine qz (qbf (A.has b4) 1 rfl qco) ?_;rw[(Y.grow (C.trans A)).len];refine qbd (λI=>?_) (λI=>?_)
     ·have z:kbb a1 x2 x3=false:=by unfold kbb;exact(condF H).trans ((condF K).trans ((condF Q).trans ((condF F).trans ((condT I).trans rfl))))
      rw[z];exact qy ⟨rfl,(C.trans A)⟩
     ·refine qz (qbf (A.has b4) 1 rfl qco) (qz (qbf (A.has b4) 2 rfl qco) ?_);obtain⟨_,ah,Z,ai,rfl,aa,ac,aj⟩:=kyv (Y.grow (C.trans A)) (X.grow (C.trans A));refine qz Z (qz rfl (qz (seen qco) (qz (seen qcp) ?_)));refine q0 λak ad U=>?_;obtain⟨al,ae,af⟩:=kqr (aa.grow U) (Nats.of_has (xs:=[1]) ad (by decide) (by decide));refine qz ae (qz (seen qcp) ?_);have z:kbb a1 x2 x3=decide ((cmpN ((gcdN x2 x3).1) [1])=0):=by unfold kbb;exact(condF H).trans ((condF K).trans ((condF Q).trans ((condF F).trans ((condF I).trans rfl))))
      rw[z];have ag:=((((C.trans A).trans ac).trans U).trans af);exact qy ⟨rfl,ag⟩
def kdm(a1:Bool)(x2 x3:List Nat):Bool:=cond (!(rtI a1 x2)) (false) (cond (!(rt x3)) (false) (cond (decide ((List.length x3:Int)=0)) (false) (cond (decide ((List.length x3:Int)>16)) (false) (cond (decide ((List.length x2:Int)>16)) (false) (decide ((cmpN ((gcdN x2 x3).1) [1])=0))))))
theorem k44{h:AH}{a2:Sl}{x2:List Nat}{a3:Sl}{x3:List Nat}(Y:Nats h a2 x2)(X:Nats h a3 x3)(a1:Bool):Runs (go (.fn kf7 [.agg [.bool a1,a2.v,a3.v]]) h) λv h'=>v=.bool (kdm a1 x2 x3)/\Grow h h':=by
 rw[k7p];refine q0 λH4 b4 C=>?_;refine qz (qbf b4 0 rfl rfl) (qz (qbf b4 1 rfl qco) ?_);obtain⟨H5,e5,A⟩:=keh (Y.grow C) a1;refine qz e5 (qz (seen rfl) (qz (qbf (A.has b4) 2 rfl qco) (qz (kco (X.grow (C.trans A))) (qz (seen rfl) ?_))));refine qbd (λH=>?_) (λH=>?_)
 ·have z:kdm a1 x2 x3=false:=by unfold kdm;exact(condT H).trans rfl
  rw[z];exact qy ⟨rfl,(C.trans A)⟩
 ·refine qbd (λK=>?_) (λK=>?_)
  ·have z:kdm a1 x2 x3=false:=by unfold kdm;exact(condF H).trans ((condT K).trans rfl)
   rw[z];exact qy ⟨rfl,(C.trans A)⟩
  ·refine qz (qbf (A.has b4) 2 rfl qco) ?_;rw[(X.grow (C.trans A)).len];refine qbd (λQ=>?_) (λQ=>?_)
   ·have z:kdm a1 x2 x3=false:=by unfold kdm;exact(condF H).trans ((condF K).trans ((condT Q).trans rfl))
    rw[z];exact qy ⟨rfl,(C.trans A)⟩
   ·refine qz (qbf (A.has b4) 2 rfl qco) ?_;rw[(X.grow (C.trans A)).len];refine qbd (λF=>?_) (λF=>?_)
    ·have z:kdm a1 x2 x3=false:=by unfold kdm;exact(condF H).trans ((condF K).trans ((condF Q).trans ((condT F).trans rfl)))
     rw[z];exact qy ⟨rfl,(C.trans A)⟩
    ·refine qz (qbf (A.has b4) 1 rfl qco) ?_;rw[(Y.grow (C.trans A)).len];refine qbd (λI=>?_) (λI=>?_)
     ·have z:kdm a1 x2 x3=false:=by unfold kdm;exact(condF H).trans ((condF K).trans ((condF Q).trans ((condF F).trans ((condT I).trans rfl))))
      rw[z];exact qy ⟨rfl,(C.trans A)⟩
     ·refine qz (qbf (A.has b4) 1 rfl qco) (qz (qbf (A.has b4) 2 rfl qco) ?_);obtain⟨_,ai,Z,aj,rfl,aa,ac,ak⟩:=kyz (Y.grow (C.trans A)) (X.grow (C.trans A));refine qz Z (qz rfl (qz (seen qco) (qz (seen qcp) ?_)));obtain⟨al,am,ad,ae,U,an⟩:=kbhz;refine qz ad (qz (seen qco) ?_);obtain⟨ap,af,ag⟩:=kou (aa.grow U) ae;refine qz af (qz (seen qcp) ?_);have z:kdm a1 x2 x3=decide ((cmpN ((gcdN x2 x3).1) [1])=0):=by unfold kdm;exact(condF H).trans ((condF K).trans ((condF Q).trans ((condF F).trans ((condF I).trans rfl))))
      rw[z];have ah:=((((C.trans A).trans ac).trans U).trans ag);exact qy ⟨rfl,ah⟩
def kbd(a1:Bool)(x2 x3:List Nat):Bool×List Nat×List Nat×Int:=cond (!(rtI a1 x2)) ((false,[],[],1)) (cond (!(rt x3)) ((false,[],[],1)) (cond (decide ((List.length x3:Int)=0)) ((false,[],[],3)) (cond (decide ((imax (List.length ((divN x2 ((gcdN x2 x3).1)).1):Int) (List.length ((divN x3 ((gcdN x2 x3).1)).1):Int))>16)) ((false,[],[],4)) (((((fromI a1 ((divN x2 ((gcdN x2 x3).1)).1)).1)),(fromI a1 ((divN x2 ((gcdN x2 x3).1)).1)).2,(divN x3 ((gcdN x2 x3).1)).1,0)))))
theorem ks2{h:AH}{a2:Sl}{x2:List Nat}{a3:Sl}{x3:List Nat}(n2:Nats h a2 x2)(n3:Nats h a3 x3)(a1:Bool):Runs (go (.fn kny [.agg [.bool a1,a2.v],a3.v]) h) λv h'=>∃s1:Sl,∃s2:Sl,v=.tup [.agg [.bool (kbd a1 x2 x3).1,s1.v,s2.v],.i (kbd a1 x2 x3).2.2.2]/\Nats h' s1 ((kbd a1 x2 x3).2.1)/\Nats h' s2 ((kbd a1 x2 x3).2.2.1)/\Grow h h'/\Own h s1/\Own h s2:=by
 rw[k64];rw[n3.len];refine q0 λH4 b4 g4=>?_;refine q0 λH5 Z g5=>?_;refine qz (qbf (g5.has b4) 0 rfl rfl) (qz (qbf (g5.has b4) 1 rfl qco) ?_);obtain⟨H6,e6,X⟩:=km0 (n2.grow (g4.trans g5)) a1;refine qz e6 (qz (seen rfl) ?_);refine qbd (λk7=>?_) (λk7=>?_)
 ·refine qba (X.has Z) rfl λH8 b8 u8=>?_;refine qz (qbf b8 0 rfl rfl) (qz (qbf b8 1 rfl qco) (qz (qbf b8 2 rfl qco) ?_));have z:kbd a1 x2 x3=(false,[],[],1):=by unfold kbd;exact(condT k7).trans rfl
  rw[z];have G9:=(((g4.trans g5).trans X).updr (qbq (g4).size (qbp _)) u8);exact qy ⟨(⟨none,0,.is 0⟩:Sl),(⟨none,0,.is 0⟩:Sl),rfl,(qw _),(qw _),G9,(qu _),(qu _)⟩
 ·have G8:=((g4.trans g5).trans X);have H:=n3.grow G8;refine qz (khf H) (qz (seen rfl) ?_);refine qbd (λaa=>?_) (λaa=>?_)
  ·refine qba (X.has Z) rfl λc2 an bf=>?_;have b1:=H.upda (qbi n3 (qbq (g4).size (qbp _))) bf;refine qz (qbf an 0 rfl rfl) (qz (qbf an 1 rfl qco) (qz (qbf an 2 rfl qco) ?_));have z:kbd a1 x2 x3=(false,[],[],1):=by unfold kbd;exact(condF k7).trans ((condT aa).trans rfl)
   rw[z];have b2:=(G8.updr (qbq (g4).size (qbp _)) bf);exact qy ⟨(⟨none,0,.is 0⟩:Sl),(⟨none,0,.is 0⟩:Sl),rfl,(qw _),(qw _),b2,(qu _),(qu _)⟩
  ·refine qbd (λac=>?_) (λac=>?_)
   ·refine qba (X.has Z) rfl λc3 ap bg=>?_;have b3:=H.upda (qbi n3 (qbq (g4).size (qbp _))) bg;refine qz (qbf ap 0 rfl rfl) (qz (qbf ap 1 rfl qco) (qz (qbf ap 2 rfl qco) ?_));have z:kbd a1 x2 x3=(false,[],[],3):=by unfold kbd;exact(condF k7).trans ((condF aa).trans ((condT ac).trans rfl))
    rw[z];have b6:=(G8.updr (qbq (g4).size (qbp _)) bg);exact qy ⟨(⟨none,0,.is 0⟩:Sl),(⟨none,0,.is 0⟩:Sl),rfl,(qw _),(qw _),b6,(qu _),(qu _)⟩
   ·refine qz (qbf ((g5.trans X).has b4) 1 rfl qco) ?_;have K:=n2.grow G8;obtain⟨_,c4,b7,c5,rfl,ad,A,bh⟩:=kyv K H;refine qz b7 (qz rfl (qz (seen qco) (qz (seen qcp) ?_)));have b9:=((g5.trans X).trans A);have Q:=b9.has b4;refine qz (qbf Q 1 rfl qco) ?_;obtain⟨c6,c0,c7,ca,ae,aj,F,bi,ak⟩:=kp0 (K.grow A) ad;refine qz ca (qz rfl (qz (seen qco) ?_));rw[ae.len];refine qz (seen qco) (qz (seen qcp) ?_);obtain⟨cb,c1,c8,cc,aq,al,C,ar,am⟩:=kp0 (H.grow (A.trans F)) (ad.grow F);refine qz cc (qz rfl (qz (seen qco) ?_));rw[aq.len];refine qz (seen qco) (qz (seen qcp) ?_);refine qbd (λau=>?_) (λau=>?_)
    ·have cd:=(((X.trans A).trans F).trans C);have aw:=cd.has Z;refine qba aw rfl λce ax U=>?_;have bj:=((A.trans F).trans C);have ay:=K.grow bj;have cf:=ay.upda (qbi n2 (qbq (g4).size (qbp _))) U;have az:=H.grow bj;have cg:=az.upda (qbi n3 (qbq (g4).size (qbp _))) U;have bv:=(ad.grow (F.trans C)).upda (qbj bh (X.has Z).lt) U;have bw:=(ae.grow C).upda (qbj bi ((X.trans A).has Z).lt) U;have bk:=(aj.grow C).upda (qbj ak ((X.trans A).has Z).lt) U;have bm:=((X.trans A).trans F);have bx:=aq.upda (qbj ar (bm.has Z).lt) U;have bn:=al.upda (qbj am (bm.has Z).lt) U;have ci:=qx ((F.trans C).has Q) (Nat.ne_of_lt (qbr (b4).lt (qbp _))) U;refine qz (qbf ax 0 rfl rfl) (qz (qbf ax 1 rfl qco) (qz (qbf ax 2 rfl qco) ?_));have z:kbd a1 x2 x3=(false,[],[],4):=by unfold kbd;exact(condF k7).trans ((condF aa).trans ((condF ac).trans ((condT au).trans rfl)))
     rw[z];have af:=((((G8.trans A).trans F).trans C).updr (qbq (g4).size (qbp _)) U);exact qy ⟨(⟨none,0,.is 0⟩:Sl),(⟨none,0,.is 0⟩:Sl),rfl,(qw _),(qw _),af,(qu _),(qu _)⟩
    ·refine qz (qbf ((F.trans C).has Q) 0 rfl rfl) ?_;obtain⟨cj,ce,cl,cm,Y,bp⟩:=kdo (ae.grow C) a1;refine qz cl (qz rfl ?_);refine qbb rfl ?_;refine qz (seenAt rfl rfl) (qz (seenAt rfl qco) ?_);have cp:=((((X.trans A).trans F).trans C).trans Y);have a0:=cp.has Z;refine qba a0 rfl λc9 ba I=>?_;have bq:=(((A.trans F).trans C).trans Y);have bb:=K.grow bq;have cu:=bb.upda (qbi n2 (qbq (g4).size (qbp _))) I;have bc:=H.grow bq;have cv:=bc.upda (qbi n3 (qbq (g4).size (qbp _))) I;have af:=((F.trans C).trans Y);have ag:=ad.grow af;have bz:=ag.upda (qbj bh (X.has Z).lt) I;have b0:=(ae.grow (C.trans Y)).upda (qbj bi ((X.trans A).has Z).lt) I;have br:=(aj.grow (C.trans Y)).upda (qbj ak ((X.trans A).has Z).lt) I;have bd:=((X.trans A).trans F);have ah:=(aq.grow Y).upda (qbj ar (bd.has Z).lt) I;have bt:=(al.grow Y).upda (qbj am (bd.has Z).lt) I;have cw:=(bd.trans C);have ai:=cm.upda (qbj bp (cw.has Z).lt) I;have be:=af.has Q;have cx:=qx be (Nat.ne_of_lt (qbr (b4).lt (qbp _))) I;refine qz (qbf ba 0 rfl rfl) (qz (qbf ba 1 rfl qco) (qz (qbf ba 2 rfl qco) ?_));have z:kbd a1 x2 x3=((((fromI a1 ((divN x2 ((gcdN x2 x3).1)).1)).1)),(fromI a1 ((divN x2 ((gcdN x2 x3).1)).1)).2,(divN x3 ((gcdN x2 x3).1)).1,0):=by unfold kbd;exact(condF k7).trans ((condF aa).trans ((condF ac).trans ((condF au).trans rfl)))
     rw[z];have bu:=(((G8.trans A).trans F).trans C);have cy:=((G8.trans A).trans F);have cz:=((bu.trans Y).updr (qbq (g4).size (qbp _)) I);exact qy ⟨cj,cb,rfl,ai,ah,cz,(bp.of_le bu),(ar.of_le cy)⟩
def kcj(a1:Bool)(x2 x3:List Nat):Bool×List Nat×List Nat×Int:=cond (!(rtI a1 x2)) ((false,[],[],1)) (cond (!(rt x3)) ((false,[],[],1)) (cond (decide ((List.length x3:Int)=0)) ((false,[],[],3)) (cond (decide ((List.length ((divN x2 ((gcdN x2 x3).1)).1):Int)>16)) ((false,[],[],4)) (cond (decide ((List.length ((divN x3 ((gcdN x2 x3).1)).1):Int)>16)) ((false,[],[],4)) (((((fromI a1 ((divN x2 ((gcdN x2 x3).1)).1)).1)),(fromI a1 ((divN x2 ((gcdN x2 x3).1)).1)).2,(divN x3 ((gcdN x2 x3).1)).1,0))))))
theorem kbhg{h:AH}{a2:Sl}{x2:List Nat}{a3:Sl}{x3:List Nat}(n2:Nats h a2 x2)(n3:Nats h a3 x3)(a1:Bool):Runs (go (.fn kjj [.agg [.bool a1,a2.v],a3.v]) h) λv h'=>∃s1:Sl,∃s2:Sl,v=.tup [.agg [.bool (kcj a1 x2 x3).1,s1.v,s2.v],.i (kcj a1 x2 x3).2.2.2]/\Nats h' s1 ((kcj a1 x2 x3).2.1)/\Nats h' s2 ((kcj a1 x2 x3).2.2.1)/\Grow h h'/\Own h s1/\Own h s2:=by
 rw[kbgg];rw[n3.len];refine q0 λH4 b4 g4=>?_;refine q0 λH5 Q g5=>?_;refine qz (qbf (g5.has b4) 0 rfl rfl) (qz (qbf (g5.has b4) 1 rfl qco) ?_);obtain⟨H6,e6,U⟩:=keh (n2.grow (g4.trans g5)) a1;refine qz e6 (qz (seen rfl) ?_);have G7:=((g4.trans g5).trans U);have H:=n3.grow G7;refine qz (kco H) (qz (seen rfl) ?_);refine qbd (λac=>?_) (λac=>?_)
 ·refine qba (U.has Q) rfl λdm ay bu=>?_;have cl:=H.upda (qbi n3 (qbq (g4).size (qbp _))) bu;refine qz (qbf ay 0 rfl rfl) (qz (qbf ay 1 rfl qco) (qz (qbf ay 2 rfl qco) ?_));have z:kcj a1 x2 x3=(false,[],[],1):=by unfold kcj;exact(condT ac).trans rfl
  rw[z];have cm:=(G7.updr (qbq (g4).size (qbp _)) bu);exact qy ⟨(⟨none,0,.is 0⟩:Sl),(⟨none,0,.is 0⟩:Sl),rfl,(qw _),(qw _),cm,(qu _),(qu _)⟩
 ·refine qbd (λad=>?_) (λad=>?_)
  ·refine qba (U.has Q) rfl λdn az bv=>?_;have cp:=H.upda (qbi n3 (qbq (g4).size (qbp _))) bv;refine qz (qbf az 0 rfl rfl) (qz (qbf az 1 rfl qco) (qz (qbf az 2 rfl qco) ?_));have z:kcj a1 x2 x3=(false,[],[],1):=by unfold kcj;exact(condF ac).trans ((condT ad).trans rfl)
   rw[z];have cu:=(G7.updr (qbq (g4).size (qbp _)) bv);exact qy ⟨(⟨none,0,.is 0⟩:Sl),(⟨none,0,.is 0⟩:Sl),rfl,(qw _),(qw _),cu,(qu _),(qu _)⟩
  ·refine qbd (λae=>?_) (λae=>?_)
   ·refine qba (U.has Q) rfl λdp a0 bw=>?_;have cv:=H.upda (qbi n3 (qbq (g4).size (qbp _))) bw;refine qz (qbf a0 0 rfl rfl) (qz (qbf a0 1 rfl qco) (qz (qbf a0 2 rfl qco) ?_));have z:kcj a1 x2 x3=(false,[],[],3):=by unfold kcj;exact(condF ac).trans ((condF ad).trans ((condT ae).trans rfl))
    rw[z];have cw:=(G7.updr (qbq (g4).size (qbp _)) bw);exact qy ⟨(⟨none,0,.is 0⟩:Sl),(⟨none,0,.is 0⟩:Sl),rfl,(qw _),(qw _),cw,(qu _),(qu _)⟩
   ·refine qz (qbf ((g5.trans U).has b4) 1 rfl qco) ?_;have I:=n2.grow G7;obtain⟨_,dq,cx,dr,rfl,af,C,ba⟩:=kyz I H;refine qz cx (qz rfl (qz (seen qco) (qz (seen qcp) ?_)));have cy:=((g5.trans U).trans C);have K:=cy.has b4;refine qz (qbf K 1 rfl qco) ?_;obtain⟨dt,dk,du,cz,ag,ah,F,bb,ai⟩:=kqf (I.grow C) af;refine qz cz (qz rfl (qz (seen qco) ?_));rw[ag.len];refine qz (seen qco) (qz (seen qcp) ?_);obtain⟨c0,dl,dv,c1,al,aj,A,am,ak⟩:=kqf (H.grow (C.trans F)) (af.grow F);refine qz c1 (qz rfl (qz (seen qco) ?_));rw[al.len];refine qz (seen qco) (qz (seen qcp) ?_);refine qbd (λan=>?_) (λan=>?_)
    ·have c2:=(((U.trans C).trans F).trans A);have bc:=c2.has Q;refine qba bc rfl λdw bd Y=>?_;have ap:=((C.trans F).trans A);have be:=I.grow ap;have c3:=be.upda (qbi n2 (qbq (g4).size (qbp _))) Y;have bf:=H.grow ap;have c4:=bf.upda (qbi n3 (qbq (g4).size (qbp _))) Y;have cb:=(af.grow (F.trans A)).upda (qbj ba (U.has Q).lt) Y;have cc:=(ag.grow A).upda (qbj bb ((U.trans C).has Q).lt) Y;have bx:=(ah.grow A).upda (qbj ai ((U.trans C).has Q).lt) Y;have bz:=((U.trans C).trans F);have cd:=al.upda (qbj am (bz.has Q).lt) Y;have b0:=aj.upda (qbj ak (bz.has Q).lt) Y;have c5:=qx ((F.trans A).has K) (Nat.ne_of_lt (qbr (b4).lt (qbp _))) Y;refine qz (qbf bd 0 rfl rfl) (qz (qbf bd 1 rfl qco) (qz (qbf bd 2 rfl qco) ?_));have z:kcj a1 x2 x3=(false,[],[],4):=by unfold kcj;exact(condF ac).trans ((condF ad).trans ((condF ae).trans ((condT an).trans rfl)))
     rw[z];have aq:=((((G7.trans C).trans F).trans A).updr (qbq (g4).size (qbp _)) Y);exact qy ⟨(⟨none,0,.is 0⟩:Sl),(⟨none,0,.is 0⟩:Sl),rfl,(qw _),(qw _),aq,(qu _),(qu _)⟩
    ·refine qbd (λbg=>?_) (λbg=>?_)
     ·have c6:=(((U.trans C).trans F).trans A);have bh:=c6.has Q;refine qba bh rfl λc7 bi Z=>?_;have b1:=((C.trans F).trans A);have bj:=I.grow b1;have c8:=bj.upda (qbi n2 (qbq (g4).size (qbp _))) Z;have bk:=H.grow b1;have c9:=bk.upda (qbi n3 (qbq (g4).size (qbp _))) Z;have ce:=(af.grow (F.trans A)).upda (qbj ba (U.has Q).lt) Z;have cf:=(ag.grow A).upda (qbj bb ((U.trans C).has Q).lt) Z;have b2:=(ah.grow A).upda (qbj ai ((U.trans C).has Q).lt) Z;have aq:=((U.trans C).trans F);have cg:=al.upda (qbj am (aq.has Q).lt) Z;have b3:=aj.upda (qbj ak (aq.has Q).lt) Z;have da:=qx ((F.trans A).has K) (Nat.ne_of_lt (qbr (b4).lt (qbp _))) Z;refine qz (qbf bi 0 rfl rfl) (qz (qbf bi 1 rfl qco) (qz (qbf bi 2 rfl qco) ?_));have z:kcj a1 x2 x3=(false,[],[],4):=by unfold kcj;exact(condF ac).trans ((condF ad).trans ((condF ae).trans ((condF an).trans ((condT bg).trans rfl))))
      rw[z];have ar:=((((G7.trans C).trans F).trans A).updr (qbq (g4).size (qbp _)) Z);exact qy ⟨(⟨none,0,.is 0⟩:Sl),(⟨none,0,.is 0⟩:Sl),rfl,(qw _),(qw _),ar,(qu _),(qu _)⟩
     ·refine qz (qbf ((F.trans A).has K) 0 rfl rfl) ?_;obtain⟨db,c7,dc,dd,aa,b6⟩:=kd2 (ag.grow A) a1;refine qz dc (qz rfl ?_);refine qbb rfl ?_;refine qz (seenAt rfl rfl) (qz (seenAt rfl qco) ?_);have ap:=((((U.trans C).trans F).trans A).trans aa);have bm:=ap.has Q;refine qba bm rfl λdx bn X=>?_;have b7:=(((C.trans F).trans A).trans aa);have bp:=I.grow b7;have de:=bp.upda (qbi n2 (qbq (g4).size (qbp _))) X;have bq:=H.grow b7;have df:=bq.upda (qbi n3 (qbq (g4).size (qbp _))) X;have ar:=((F.trans A).trans aa);have au:=af.grow ar;have ci:=au.upda (qbj ba (U.has Q).lt) X;have cj:=(ag.grow (A.trans aa)).upda (qbj bb ((U.trans C).has Q).lt) X;have b8:=(ah.grow (A.trans aa)).upda (qbj ai ((U.trans C).has Q).lt) X;have br:=((U.trans C).trans F);have aw:=(al.grow aa).upda (qbj am (br.has Q).lt) X;have b9:=(aj.grow aa).upda (qbj ak (br.has Q).lt) X;have dg:=(br.trans A);have ax:=dd.upda (qbj b6 (dg.has Q).lt) X;have bt:=ar.has K;have dh:=qx bt (Nat.ne_of_lt (qbr (b4).lt (qbp _))) X;refine qz (qbf bn 0 rfl rfl) (qz (qbf bn 1 rfl qco) (qz (qbf bn 2 rfl qco) ?_));have z:kcj a1 x2 x3=((((fromI a1 ((divN x2 ((gcdN x2 x3).1)).1)).1)),(fromI a1 ((divN x2 ((gcdN x2 x3).1)).1)).2,(divN x3 ((gcdN x2 x3).1)).1,0):=by unfold kcj;exact(condF ac).trans ((condF ad).trans ((condF ae).trans ((condF an).trans ((condF bg).trans rfl))))
      rw[z];have ca:=(((G7.trans C).trans F).trans A);have di:=((G7.trans C).trans F);have dj:=((ca.trans aa).updr (qbq (g4).size (qbp _)) X);exact qy ⟨db,c0,rfl,ax,aw,dj,(b6.of_le ca),(am.of_le di)⟩
def kf(a1:Bool)(x2 x3:List Nat)(a4:Bool)(x5 x6:List Nat):Bool×List Nat:=(((((kx a1 x2 ((fromI false x6).1) ((fromI false x6).2)).1))),(kx a1 x2 ((fromI false x6).1) ((fromI false x6).2)).2.1)
theorem kr0{h:AH}{a2:Sl}{x2:List Nat}{a3:Sl}{x3:List Nat}{a5:Sl}{x5:List Nat}{a6:Sl}{x6:List Nat}(n2:Nats h a2 x2)(n3:Nats h a3 x3)(n5:Nats h a5 x5)(n6:Nats h a6 x6)(a1 a4:Bool):Runs (go (.fn kjo [.agg [.bool a1,a2.v,a3.v],.agg [.bool a4,a5.v,a6.v]]) h) λv h'=>∃s1:Sl,v=.agg [.bool (kf a1 x2 x3 a4 x5 x6).1,s1.v]/\Nats h' s1 ((kf a1 x2 x3 a4 x5 x6).2)/\Grow h h'/\Own h s1:=by
 rw[k8d];refine q0 λH7 b7 g7=>?_;refine q0 λH8 b8 g8=>?_;refine q0 λH9 b9 g9=>?_;refine q0 λbd Q K=>?_;have ar:=((g8.trans g9).trans K);have C:=ar.has b7;refine qz (qbf C 0 rfl rfl) (qz (qbf C 1 rfl qco) (qz (qbf ((g9.trans K).has b8) 2 rfl qco) ?_));have ak:=(((g7.trans g8).trans g9).trans K);have U:=n6.grow ak;obtain⟨be,bf,au,al,A,am⟩:=kdo U false;refine qz au (qz rfl ?_);refine qbb rfl ?_;refine qz (seenAt rfl rfl) (qz (seenAt rfl qco) ?_);refine qbe (A.same C 0 2) ?_;refine qbe (A.same Q 0 0) ?_;have ac:=(ak.trans A);have X:=n2.grow ac;obtain⟨_,bg,aw,ax,rfl,ay,F,ad⟩:=kt8 X al a1 ((fromI false x6).1);refine qz aw (qz rfl (qz rfl ?_));refine qbb rfl ?_;refine qz (seenAt rfl rfl) (qz (seenAt rfl qco) (qz (seen qcp) ?_));refine qbe (F.same (A.has Q) 0 0) ?_;refine qba ((A.trans F).has Q) rfl λbh ae H=>?_;have af:=((g7.trans g8).trans g9);have ag:=(X.grow F).upda (qbi n2 (qbq (af).size (qbp _))) H;have ah:=(U.grow (A.trans F)).upda (qbi n6 (qbq (af).size (qbp _))) H;have Y:=(al.grow F).upda (qbj am (Q).lt) H;have Z:=ay.upda (qbj ad (A.has Q).lt) H;have ai:=qx ((A.trans F).has C) (Nat.ne_of_lt (qbr ((g8.trans g9).has b7).lt (qbp _))) H;refine qz (qbf ae 0 rfl rfl) (qz (qbf ae 1 rfl qco) ?_);have az:=(((K.trans A).trans F).updr (qbp _) H);have aj:=az.has b9;refine qba aj rfl λbi an I=>?_;have a0:=ag.upda (qbi n2 (qbq ((g7.trans g8)).size (qbp _))) I;have ba:=ah.upda (qbi n6 (qbq ((g7.trans g8)).size (qbp _))) I;have ap:=Y.upda (qbj am (K.has b9).lt) I;have aa:=Z.upda (qbj ad ((K.trans A).has b9).lt) I;have bb:=qx ai (Nat.ne_of_lt (qbr (g8.has b7).lt (qbp _))) I;have aq:=qx ae (Nat.ne_of_gt (qbr (b9).lt (qbp _))) I;refine qz (qbf an 0 rfl rfl) (qz (qbf an 1 rfl qco) ?_);have z:kf a1 x2 x3 a4 x5 x6=(((((kx a1 x2 ((fromI false x6).1) ((fromI false x6).2)).1))),(kx a1 x2 ((fromI false x6).1) ((fromI false x6).2)).2.1):=by unfold kf;exact rfl
 rw[z];have bc:=(((ac.trans F).updr (qbq (af).size (qbp _)) H).updr (qbq ((g7.trans g8)).size (qbp _)) I);exact qy ⟨ax,rfl,aa,bc,(ad.of_le ac)⟩
def kmz(a1:Bool)(x2 x3:List Nat)(a4:Bool)(x5 x6:List Nat):Bool×List Nat:=(((((kx a1 x2 ((fromI false x6).1) ((fromI false x6).2)).1))),(kx a1 x2 ((fromI false x6).1) ((fromI false x6).2)).2.1)
theorem k9e{h:AH}{a2:Sl}{x2:List Nat}{a3:Sl}{x3:List Nat}{a5:Sl}{x5:List Nat}{a6:Sl}{x6:List Nat}(n2:Nats h a2 x2)(n3:Nats h a3 x3)(n5:Nats h a5 x5)(n6:Nats h a6 x6)(a1 a4:Bool):Runs (go (.fn kij [.agg [.bool a1,a2.v,a3.v],.agg [.bool a4,a5.v,a6.v]]) h) λv h'=>∃s1:Sl,v=.agg [.bool (kmz a1 x2 x3 a4 x5 x6).1,s1.v]/\Nats h' s1 ((kmz a1 x2 x3 a4 x5 x6).2)/\Grow h h'/\Own h s1:=by
 rw[k96];refine q0 λH7 b7 g7=>?_;refine q0 λH8 b8 g8=>?_;refine q0 λH9 b9 g9=>?_;refine q0 λbd Q K=>?_;have ar:=((g8.trans g9).trans K);have C:=ar.has b7;refine qz (qbf C 0 rfl rfl) (qz (qbf C 1 rfl qco) (qz (qbf ((g9.trans K).has b8) 2 rfl qco) ?_));have ak:=(((g7.trans g8).trans g9).trans K);have U:=n6.grow ak;obtain⟨be,bf,au,al,A,am⟩:=kd2 U false;refine qz au (qz rfl ?_);refine qbb rfl ?_;refine qz (seenAt rfl rfl) (qz (seenAt rfl qco) ?_);refine qbe (A.same C 0 2) ?_;refine qbe (A.same Q 0 0) ?_;have ac:=(ak.trans A);have X:=n2.grow ac;obtain⟨_,bg,aw,ax,rfl,ay,F,ad⟩:=kr2 X al a1 ((fromI false x6).1);refine qz aw (qz rfl (qz rfl ?_));refine qbb rfl ?_;refine qz (seenAt rfl rfl) (qz (seenAt rfl qco) (qz (seen qcp) ?_));refine qbe (F.same (A.has Q) 0 0) ?_;refine qba ((A.trans F).has Q) rfl λbh ae H=>?_;have af:=((g7.trans g8).trans g9);have ag:=(X.grow F).upda (qbi n2 (qbq (af).size (qbp _))) H;have ah:=(U.grow (A.trans F)).upda (qbi n6 (qbq (af).size (qbp _))) H;have Y:=(al.grow F).upda (qbj am (Q).lt) H;have Z:=ay.upda (qbj ad (A.has Q).lt) H;have ai:=qx ((A.trans F).has C) (Nat.ne_of_lt (qbr ((g8.trans g9).has b7).lt (qbp _))) H;refine qz (qbf ae 0 rfl rfl) (qz (qbf ae 1 rfl qco) ?_);have az:=(((K.trans A).trans F).updr (qbp _) H);have aj:=az.has b9;refine qba aj rfl λbi an I=>?_;have a0:=ag.upda (qbi n2 (qbq ((g7.trans g8)).size (qbp _))) I;have ba:=ah.upda (qbi n6 (qbq ((g7.trans g8)).size (qbp _))) I;have ap:=Y.upda (qbj am (K.has b9).lt) I;have aa:=Z.upda (qbj ad ((K.trans A).has b9).lt) I;have bb:=qx ai (Nat.ne_of_lt (qbr (g8.has b7).lt (qbp _))) I;have aq:=qx ae (Nat.ne_of_gt (qbr (b9).lt (qbp _))) I;refine qz (qbf an 0 rfl rfl) (qz (qbf an 1 rfl qco) ?_);have z:kmz a1 x2 x3 a4 x5 x6=(((((kx a1 x2 ((fromI false x6).1) ((fromI false x6).2)).1))),(kx a1 x2 ((fromI false x6).1) ((fromI false x6).2)).2.1):=by unfold kmz;exact rfl
 rw[z];have bc:=(((ac.trans F).updr (qbq (af).size (qbp _)) H).updr (qbq ((g7.trans g8)).size (qbp _)) I);exact qy ⟨ax,rfl,aa,bc,(ad.of_le ac)⟩
theorem kbip:kdm=kbb:=rfl
theorem kj4{h:AH}{a2:Sl}{x2:List Nat}{a3:Sl}{x3:List Nat}(A:Nats h a2 x2)(C:Nats h a3 x3)(a1:Bool):Runs (go (.fn kf7 [.agg [.bool a1,a2.v,a3.v]]) h) λv h'=>v=.bool (kbb a1 x2 x3)/\Grow h h':=by rw[<- kbip];exact k44 A C a1
theorem kbbm:kmz=kf:=rfl
theorem kqi{h:AH}{a2:Sl}{x2:List Nat}{a3:Sl}{x3:List Nat}{a5:Sl}{x5:List Nat}{a6:Sl}{x6:List Nat}(A:Nats h a2 x2)(C:Nats h a3 x3)(F:Nats h a5 x5)(H:Nats h a6 x6)(a1 a4:Bool):Runs (go (.fn kij [.agg [.bool a1,a2.v,a3.v],.agg [.bool a4,a5.v,a6.v]]) h) λv h'=>∃s1:Sl,v=.agg [.bool (kf a1 x2 x3 a4 x5 x6).1,s1.v]/\Nats h' s1 ((kf a1 x2 x3 a4 x5 x6).2)/\Grow h h'/\Own h s1:=by rw[<- kbbm];exact k9e A C F H a1 a4
theorem kbkn:kcj=kbd:=by
 funext p xs ys;unfold kcj kbd;congr 3;generalize ((divN xs (gcdN xs ys).fst).fst.length:Int)=u;generalize ((divN ys (gcdN xs ys).fst).fst.length:Int)=v;generalize (fromI p (divN xs (gcdN xs ys).fst).fst)=w
 have k:decide (imax u v>16)=(decide (u>16)||decide (v>16)):=by rw[kih,Bool.eq_iff_iff];simp only[qca,qbw];omega
 rw[k];cases decide (u>16)<;>cases decide (v>16)<;>rfl
theorem kuc{h:AH}{a2:Sl}{x2:List Nat}{a3:Sl}{x3:List Nat}(A:Nats h a2 x2)(C:Nats h a3 x3)(a1:Bool):Runs (go (.fn kjj [.agg [.bool a1,a2.v],a3.v]) h) λv h'=>∃s1:Sl,∃s2:Sl,v=.tup [.agg [.bool (kbd a1 x2 x3).1,s1.v,s2.v],.i (kbd a1 x2 x3).2.2.2]/\Nats h' s1 ((kbd a1 x2 x3).2.1)/\Nats h' s2 ((kbd a1 x2 x3).2.2.1)/\Grow h h'/\Own h s1/\Own h s2:=by rw[<- kbkn];exact kbhg A C a1
abbrev FRow:=Bool×(Sl×List Nat)×(Sl×List Nat)
structure FRows(h:AH)(s:Sl)(rows:List FRow):Prop where
 cells:Cells h s 3 (rows.flatMap λp=>[.bool p.1,p.2.1.1.v,p.2.2.1.v])
 num:∀p∈rows,Nats h p.2.1.1 p.2.1.2
 den:∀p∈rows,Nats h p.2.2.1 p.2.2.2
 short:rows.length<=9223372036854775807
theorem FRows.grow{h h':AH}(g:Grow h h'){s:Sl}{rows:List FRow}(n:FRows h s rows):FRows h' s rows:=⟨n.cells.grow g,λp A=>(n.num p A).grow g,λp A=>(n.den p A).grow g,n.short⟩
theorem k35:∀(rows:List FRow)(i:Nat)(hi:i<rows.length),
  (rows.flatMap λp=>[AV.bool p.1,p.2.1.1.v,p.2.2.1.v])[i*3]?=some (AV.bool rows[i].1)/\(rows.flatMap λp=>[AV.bool p.1,p.2.1.1.v,p.2.2.1.v])[i*3+1]?=some rows[i].2.1.1.v/\(rows.flatMap λp=>[AV.bool p.1,p.2.1.1.v,p.2.2.1.v])[i*3+2]?=some rows[i].2.2.1.v
 | [],i,hi=>by simp at hi
 | p::rows,0,hi=>by simp
 | p::rows,i+1,hi=>by
  have:=k35 rows i (by simpa using hi);rw[show(i+1)*3=i*3+3 from by omega]
  simpa using this
theorem FRows.len{h:AH}{s:Sl}{rows:List FRow}(n:FRows h s rows):s.len=rows.length:=by
 have:=n.cells.len
 have A:(rows.flatMap λp=>[AV.bool p.1,p.2.1.1.v,p.2.2.1.v]).length=rows.length*3:=by
  generalize rows=l
  induction l with
  | nil=>rfl
  | cons a l ih=>rw[List.flatMap_cons,qb0,ih];simp;omega
 omega
theorem FRows.at{h:AH}{s:Sl}{rows:List FRow}(n:FRows h s rows){i:Nat}(hi:i<rows.length):∃r,idx s.ref s.len (i:Int) 3=some r/\h.cell (r.add 0)=some (.bool rows[i].1)/\h.cell (r.add 1)=some rows[i].2.1.1.v/\h.cell (r.add 2)=some rows[i].2.2.1.v:=by obtain⟨H,p2,p3⟩:=k35 rows i hi;obtain⟨r,A,I⟩:=n.cells.get _ _ H;obtain⟨X,C,K⟩:=n.cells.get _ _ p2;obtain⟨Q,F,U⟩:=n.cells.get _ _ p3;rw[A]at C F;cases C;cases F;refine⟨r.add (i*3),?_,by simpa using I,by rw[Ref.add_add];exact K,by rw[Ref.add_add];exact U⟩;rw[A,kdq _ _ _ _ (by omega) (by rw[n.len];omega)];simp
theorem FRows.two{h:AH}{i:Nat}{a a' b b':Sl}{xs A ys C:List Nat}{p q:Bool}(c:h.has i [.bool p,a.v,a'.v,.bool q,b.v,b'.v] ky)(n:Nats h a xs)(H:Nats h a' A)(m:Nats h b ys)(I:Nats h b' C) :
  FRows h ⟨some (.new i 0),2,.is 2⟩ [(p,(a,xs),(a',A)),(q,(b,ys),(b',C))]:=⟨qr c rfl,λr F=>by
  simp at F;rcases F with rfl | rfl
  ·exact n
  ·exact m,λr F=>by
  simp at F;rcases F with rfl | rfl
  ·exact H
  ·exact I,by simp⟩
theorem kbfz{h:AH}{s t:Sl}{xs ys:List Nat}(n:Nats h s xs)(m:Nats h t ys)(neg:Bool):∃h',go (.fn keo [.agg [.bool neg,s.v,t.v]]) h=some (.bool (!kbb neg xs ys),h')/\Grow h h':=by
 rw[kbg3];simp only[kbw];have C:=qo h [.bool neg,s.v,t.v] ky;have A:=qm h (.cells [.bool neg,s.v,t.v] ky);generalize h.push (.cells [.bool neg,s.v,t.v] ky)=h0 at *
 obtain⟨_,h1,F,rfl,H⟩:=kbdo (n.grow A) (m.grow A) neg;exact⟨h1,by simp[C.cell,F],A.trans H⟩
theorem k1m{s:Sl}{rows:List FRow}:∀(k i:Nat),i+k=rows.length->∀{h:AH},FRows h s rows->
  ∃(j:Int)(h':AH),go (.pt kj5 kog [(0,s.v),(1,.func (.func keo) [] []),(7,.i (rows.length:Int)),(8,.i (i:Int))]) h=some (.i j,h')/\
   (j>=0↔(rows.drop i).all (λp=>kbb p.1 p.2.1.2 p.2.2.2)=false)/\Grow h h'
 | 0,i,hi,h,n=>by
  rw[k2a,show decide ((i:Int)<(rows.length:Int))=false from by rw[qbv];omega,List.drop_of_length_le (by omega)];exact⟨-1,h,rfl,by simp,ql h⟩
 | k+1,i,hi,h,n=>by
  have hs:=n.short;obtain⟨r,F,H,I,A⟩:=n.at (i:=i) (by omega);have K:=n.num rows[i] (qb3 _);have Q:=n.den rows[i] (qb3 _);obtain⟨h1,U,C⟩:=kbfz K Q rows[i].1;rw[k2a,show decide ((i:Int)<(rows.length:Int))=true from by rw[qbw];omega,cond_true,F];simp only[qbt,H,I,A,asSl_v,kbo,U];rw[qcg (by omega),List.all_cons,kj (by omega)];cases hr:kbb rows[i].1 (rows[i].2.1.2) (rows[i].2.2.2)with
  | false=>exact⟨(i:Int),h1,rfl,by simp,C⟩
  | true =>obtain⟨j,X,Y,Z,g2⟩:=k1m k (i+1) (by omega) (n.grow C);exact⟨j,X,Y,by simpa using Z,C.trans g2⟩
theorem kbcg{h:AH}{s:Sl}{rows:List FRow}(n:FRows h s rows):∃h',go (.fn km3 [s.v]) h=some (.bool (rows.all λp=>kbb p.1 p.2.1.2 p.2.2.2),h')/\Grow h h':=by
 obtain⟨j,h',F,A,g⟩:=k1m rows.length 0 (by omega) n;refine⟨h',?_,g⟩;rw[kbir,k5l,kbkc,n.len];rw[show(0:Int)=((0:Nat):Int)from rfl,F];simp only[qbt,kb,kbo];rw[List.drop_zero]at A;cases C:rows.all λp=>kbb p.1 p.2.1.2 p.2.2.2 with
 | false=>rw[C]at A;simp at A;simp;omega
 | true=>rw[C]at A;simp at A;simp;omega
theorem k23{h:AH}{i:Nat}{a a' b b':Sl}{xs A ys C:List Nat}{p q:Bool}(c:h.has i [.bool p,a.v,a'.v,.bool q,b.v,b'.v] ky)(n:Nats h a xs)(F:Nats h a' A)(m:Nats h b ys)(H:Nats h b' C) :
  ∃h',go (.fn km3 [(⟨some (.new i 0),2,.is 2⟩:Sl).v]) h=some (.bool (kbb p xs A&&kbb q ys C),h')/\Grow h h':=by
 obtain⟨h',e,g⟩:=kbcg (FRows.two c n F m H);exact⟨h',by rw[e];simp,g⟩
def OpS(A:FuncId)(op:Bool->List Nat->Bool->List Nat->Bool×List Nat×Int):Prop:=∀{h:AH}{a2:Sl}{x2:List Nat}{a4:Sl}{x4:List Nat},Nats h a2 x2->Nats h a4 x4->∀a1 a3:Bool,Runs (go (.fn A [.agg [.bool a1,a2.v],.agg [.bool a3,a4.v]]) h) λv h'=>∃s1:Sl,v=.tup [.agg [.bool (op a1 x2 a3 x4).1,s1.v],.i (op a1 x2 a3 x4).2.2]/\Nats h' s1 ((op a1 x2 a3 x4).2.1)/\Grow h h'/\Own h s1
def kc3(op:Bool->List Nat->Bool->List Nat->Bool×List Nat×Int)(a1:Bool)(x2 x3:List Nat)(a4:Bool)(x5 x6:List Nat):Bool×List Nat×List Nat×Int:=cond (!((kbb a1 x2 x3&&kbb a4 x5 x6))) ((false,[],[],1)) (((((kbd (((op ((kf a1 x2 x3 a4 x5 x6).1) ((kf a1 x2 x3 a4 x5 x6).2) ((kf a4 x5 x6 a1 x2 x3).1) ((kf a4 x5 x6 a1 x2 x3).2)).1)) ((op ((kf a1 x2 x3 a4 x5 x6).1) ((kf a1 x2 x3 a4 x5 x6).2) ((kf a4 x5 x6 a1 x2 x3).1) ((kf a4 x5 x6 a1 x2 x3).2)).2.1) ((mulN x3 x6).1)).1)),(kbd (((op ((kf a1 x2 x3 a4 x5 x6).1) ((kf a1 x2 x3 a4 x5 x6).2) ((kf a4 x5 x6 a1 x2 x3).1) ((kf a4 x5 x6 a1 x2 x3).2)).1)) ((op ((kf a1 x2 x3 a4 x5 x6).1) ((kf a1 x2 x3 a4 x5 x6).2) ((kf a4 x5 x6 a1 x2 x3).1) ((kf a4 x5 x6 a1 x2 x3).2)).2.1) ((mulN x3 x6).1)).2.1,(kbd (((op ((kf a1 x2 x3 a4 x5 x6).1) ((kf a1 x2 x3 a4 x5 x6).2) ((kf a4 x5 x6 a1 x2 x3).1) ((kf a4 x5 x6 a1 x2 x3).2)).1)) ((op ((kf a1 x2 x3 a4 x5 x6).1) ((kf a1 x2 x3 a4 x5 x6).2) ((kf a4 x5 x6 a1 x2 x3).1) ((kf a4 x5 x6 a1 x2 x3).2)).2.1) ((mulN x3 x6).1)).2.2.1,((kbd (((op ((kf a1 x2 x3 a4 x5 x6).1) ((kf a1 x2 x3 a4 x5 x6).2) ((kf a4 x5 x6 a1 x2 x3).1) ((kf a4 x5 x6 a1 x2 x3).2)).1)) ((op ((kf a1 x2 x3 a4 x5 x6).1) ((kf a1 x2 x3 a4 x5 x6).2) ((kf a4 x5 x6 a1 x2 x3).1) ((kf a4 x5 x6 a1 x2 x3).2)).2.1) ((mulN x3 x6).1)).2.2.2)))
theorem k1z{fu:FuncId}{op:Bool->List Nat->Bool->List Nat->Bool×List Nat×Int}(S:OpS fu op){h:AH}{a2:Sl}{x2:List Nat}{a3:Sl}{x3:List Nat}{a5:Sl}{x5:List Nat}{a6:Sl}{x6:List Nat}(n2:Nats h a2 x2)(n3:Nats h a3 x3)(n5:Nats h a5 x5)(n6:Nats h a6 x6)(a1 a4:Bool):Runs (both_T fu a1 a2 a3 a4 a5 a6 h) λv h'=>∃s1:Sl,∃s2:Sl,v=.tup [.agg [.bool (kc3 op a1 x2 x3 a4 x5 x6).1,s1.v,s2.v],.i (kc3 op a1 x2 x3 a4 x5 x6).2.2.2]/\Nats h' s1 ((kc3 op a1 x2 x3 a4 x5 x6).2.1)/\Nats h' s2 ((kc3 op a1 x2 x3 a4 x5 x6).2.2.1)/\Grow h h'/\Own h s1/\Own h s2:=by
 unfold both_T;refine q0 λH7 b7 g7=>?_;refine q0 λH8 b8 g8=>?_;refine q0 λH9 b9 g9=>?_;refine qz (qbf ((g8.trans g9).has b7) 0 rfl rfl) (qz (qbf ((g8.trans g9).has b7) 1 rfl qco) (qz (qbf ((g8.trans g9).has b7) 2 rfl qco) (qz (qbf (g9.has b8) 0 rfl rfl) (qz (qbf (g9.has b8) 1 rfl qco) (qz (qbf (g9.has b8) 2 rfl qco) ?_)))));refine q0 λdh be Z=>?_;have ai:=(((g7.trans g8).trans g9).trans Z);have ad:=n2.grow ai;have ae:=n3.grow ai;have af:=n5.grow ai;have ag:=n6.grow ai;obtain⟨di,cj,A⟩:=k23 be ad ae af ag;refine qz cj (qz (seen rfl) ?_);refine qbd (λbf=>?_) (λbf=>?_)
 ·refine qba ((Z.trans A).has b9) rfl λcl aa aj=>?_;have cm:=(ad.grow A).upda (qbi n2 (qbq ((g7.trans g8)).size (qbp _))) aj;have cp:=(ae.grow A).upda (qbi n3 (qbq ((g7.trans g8)).size (qbp _))) aj;have cu:=(af.grow A).upda (qbi n5 (qbq ((g7.trans g8)).size (qbp _))) aj;have cv:=(ag.grow A).upda (qbi n6 (qbq ((g7.trans g8)).size (qbp _))) aj;have cb:=qx (A.has be) (Nat.ne_of_gt (qbr (b9).lt (qbp _))) aj;refine qz (qbf aa 0 rfl rfl) (qz (qbf aa 1 rfl qco) (qz (qbf aa 2 rfl qco) ?_));have z:kc3 op a1 x2 x3 a4 x5 x6=(false,[],[],1):=by unfold kc3;exact(condT bf).trans rfl
  rw[z];have bg:=((ai.trans A).updr (qbq ((g7.trans g8)).size (qbp _)) aj);exact qy ⟨(⟨none,0,.is 0⟩:Sl),(⟨none,0,.is 0⟩:Sl),rfl,(qw _),(qw _),bg,(qu _),(qu _)⟩
 ·refine q0 λcl aa ac=>?_;have bg:=((((g8.trans g9).trans Z).trans A).trans ac);have C:=bg.has b7;refine qz (qbf C 0 rfl rfl) (qz (qbf C 1 rfl qco) (qz (qbf C 2 rfl qco) ?_));have cw:=(((g9.trans Z).trans A).trans ac);have F:=cw.has b8;refine qz (qbf F 0 rfl rfl) (qz (qbf F 1 rfl qco) (qz (qbf F 2 rfl qco) (qz (qbf F 0 rfl rfl) (qz (qbf F 1 rfl qco) (qz (qbf F 2 rfl qco) (qz (qbf C 0 rfl rfl) (qz (qbf C 1 rfl qco) (qz (qbf C 2 rfl qco) ?_))))))));obtain⟨_,dj,cx,dk,rfl,bt,X,bu⟩:=kr0 (ad.grow (A.trans ac)) (ae.grow (A.trans ac)) (af.grow (A.trans ac)) (ag.grow (A.trans ac)) a1 a4;refine qz cx (qz rfl ?_);refine qbb rfl ?_;refine qz (seenAt rfl rfl) (qz (seenAt rfl qco) ?_);refine qbe (X.same C 0 3) ?_;refine qbe (X.same F 0 3) ?_;refine qbe (X.same aa 0 0) ?_;have al:=((A.trans ac).trans X);have am:=af.grow al;have an:=ag.grow al;have ap:=ad.grow al;have aq:=ae.grow al;obtain⟨_,dl,cy,dm,rfl,bv,K,bw⟩:=kr0 am an ap aq a4 a1;refine qz cy (qz rfl ?_);refine qbb rfl ?_;refine qz (seenAt rfl rfl) (qz (seenAt rfl qco) ?_);refine qbe (K.same (X.has aa) 0 0) ?_;obtain⟨_,dn,cz,dp,rfl,c0,Y,bx⟩:=S (bt.grow K) bv ((kf a1 x2 x3 a4 x5 x6).1) ((kf a4 x5 x6 a1 x2 x3).1);refine qz cz (qz rfl (qz rfl ?_));refine qbb rfl ?_;refine qz (seenAt rfl rfl) (qz (seenAt rfl qco) (qz (seen qcp) ?_));refine qbe (Y.same ((X.trans K).has aa) 0 0) ?_;have bh:=((X.trans K).trans Y);have az:=bh.has aa;refine qba az rfl λdq bi U=>?_;have ak:=(ai.trans A);have bj:=(ap.grow (K.trans Y)).upda (qbi n2 (qbq (ak).size (qbp _))) U;have ar:=(aq.grow (K.trans Y)).upda (qbi n3 (qbq (ak).size (qbp _))) U;have bk:=(am.grow (K.trans Y)).upda (qbi n5 (qbq (ak).size (qbp _))) U;have au:=(an.grow (K.trans Y)).upda (qbi n6 (qbq (ak).size (qbp _))) U;have a0:=(bt.grow (K.trans Y)).upda (qbj bu (aa).lt) U;have ba:=(bv.grow Y).upda (qbj bw (X.has aa).lt) U;have ah:=c0.upda (qbj bx ((X.trans K).has aa).lt) U;have bm:=bh.has C;have c1:=(((g8.trans g9).trans Z).trans A);have aw:=qx bm (Nat.ne_of_lt (qbr (c1.has b7).lt (qbp _))) U;have bn:=bh.has F;have c2:=((g9.trans Z).trans A);have ax:=qx bn (Nat.ne_of_lt (qbr (c2.has b8).lt (qbp _))) U;refine qz (qbf aw 2 rfl qco) (qz (qbf ax 2 rfl qco) ?_);obtain⟨dr,dt,c3,bz,H,c4⟩:=ky7 ar au;refine qz c3 (qz rfl (qz (seen qco) (qz (seen qcp) (qz (qbf (H.has bi) 0 rfl rfl) (qz (qbf (H.has bi) 1 rfl qco) ?_)))));obtain⟨_,du,c5,c6,b0,rfl,c7,b1,Q,b2,bd⟩:=ks2 (ah.grow H) bz (((op ((kf a1 x2 x3 a4 x5 x6).1) ((kf a1 x2 x3 a4 x5 x6).2) ((kf a4 x5 x6 a1 x2 x3).1) ((kf a4 x5 x6 a1 x2 x3).2)).1));refine qz c5 (qz rfl (qz rfl ?_));refine qbb rfl ?_;refine qz (seenAt rfl rfl) (qz (seenAt rfl qco) (qz (seenAt rfl qco) (qz (seen qcp) ?_)));have c8:=((((((((Z.trans A).trans ac).trans X).trans K).trans Y).updr (qbq ((Z.trans A)).size (qbp _)) U).trans H).trans Q);have bp:=c8.has b9;refine qba bp rfl λdv bq I=>?_;have c9:=(bj.grow (H.trans Q)).upda (qbi n2 (qbq ((g7.trans g8)).size (qbp _))) I;have da:=(ar.grow (H.trans Q)).upda (qbi n3 (qbq ((g7.trans g8)).size (qbp _))) I;have db:=(bk.grow (H.trans Q)).upda (qbi n5 (qbq ((g7.trans g8)).size (qbp _))) I;have dc:=(au.grow (H.trans Q)).upda (qbi n6 (qbq ((g7.trans g8)).size (qbp _))) I;have b3:=((Z.trans A).trans ac);have cc:=(a0.grow (H.trans Q)).upda (qbj bu (b3.has b9).lt) I;have b4:=(b3.trans X);have cd:=(ba.grow (H.trans Q)).upda (qbj bw (b4.has b9).lt) I;have b5:=(b4.trans K);have ce:=(ah.grow (H.trans Q)).upda (qbj bx (b5.has b9).lt) I;have b6:=((b5.trans Y).updr (qbq ((Z.trans A)).size (qbp _)) U);have cf:=(bz.grow Q).upda (qbj c4 (b6.has b9).lt) I;have ca:=(b6.trans H);have bb:=c7.upda (qbj b2 (ca.has b9).lt) I;have ay:=b1.upda (qbj bd (ca.has b9).lt) I;have dd:=qx ((H.trans Q).has aw) (Nat.ne_of_lt (qbr (g8.has b7).lt (qbp _))) I;have de:=qx ((H.trans Q).has ax) (Nat.ne_of_lt (qbr (b8).lt (qbp _))) I;have df:=(((((al.trans K).trans Y).updr (qbq (A).size (qbp _)) U).trans H).trans Q);have bc:=df.has be;have cg:=qx bc (Nat.ne_of_gt (qbr (b9).lt (qbp _))) I;have ci:=qx ((H.trans Q).has bi) (Nat.ne_of_gt (qbr ((Z.trans A).has b9).lt (qbp _))) I;refine qz (qbf bq 0 rfl rfl) (qz (qbf bq 1 rfl qco) (qz (qbf bq 2 rfl qco) ?_));have z:kc3 op a1 x2 x3 a4 x5 x6=((((kbd (((op ((kf a1 x2 x3 a4 x5 x6).1) ((kf a1 x2 x3 a4 x5 x6).2) ((kf a4 x5 x6 a1 x2 x3).1) ((kf a4 x5 x6 a1 x2 x3).2)).1)) ((op ((kf a1 x2 x3 a4 x5 x6).1) ((kf a1 x2 x3 a4 x5 x6).2) ((kf a4 x5 x6 a1 x2 x3).1) ((kf a4 x5 x6 a1 x2 x3).2)).2.1) ((mulN x3 x6).1)).1)),(kbd (((op ((kf a1 x2 x3 a4 x5 x6).1) ((kf a1 x2 x3 a4 x5 x6).2) ((kf a4 x5 x6 a1 x2 x3).1) ((kf a4 x5 x6 a1 x2 x3).2)).1)) ((op ((kf a1 x2 x3 a4 x5 x6).1) ((kf a1 x2 x3 a4 x5 x6).2) ((kf a4 x5 x6 a1 x2 x3).1) ((kf a4 x5 x6 a1 x2 x3).2)).2.1) ((mulN x3 x6).1)).2.1,(kbd (((op ((kf a1 x2 x3 a4 x5 x6).1) ((kf a1 x2 x3 a4 x5 x6).2) ((kf a4 x5 x6 a1 x2 x3).1) ((kf a4 x5 x6 a1 x2 x3).2)).1)) ((op ((kf a1 x2 x3 a4 x5 x6).1) ((kf a1 x2 x3 a4 x5 x6).2) ((kf a4 x5 x6 a1 x2 x3).1) ((kf a4 x5 x6 a1 x2 x3).2)).2.1) ((mulN x3 x6).1)).2.2.1,((kbd (((op ((kf a1 x2 x3 a4 x5 x6).1) ((kf a1 x2 x3 a4 x5 x6).2) ((kf a4 x5 x6 a1 x2 x3).1) ((kf a4 x5 x6 a1 x2 x3).2)).1)) ((op ((kf a1 x2 x3 a4 x5 x6).1) ((kf a1 x2 x3 a4 x5 x6).2) ((kf a4 x5 x6 a1 x2 x3).1) ((kf a4 x5 x6 a1 x2 x3).2)).2.1) ((mulN x3 x6).1)).2.2.2)):=by unfold kc3;exact(condF bf).trans rfl
  rw[z];have br:=((((((ak.trans ac).trans X).trans K).trans Y).updr (qbq (ak).size (qbp _)) U).trans H);have dg:=((br.trans Q).updr (qbq ((g7.trans g8)).size (qbp _)) I);exact qy ⟨c6,b0,rfl,bb,ay,dg,(b2.of_le br),(bd.of_le br)⟩
def kc4:Bool->List Nat->List Nat->Bool->List Nat->List Nat->Bool×List Nat×List Nat×Int:=kc3 kbf
theorem kbms{h:AH}{a2:Sl}{x2:List Nat}{a3:Sl}{x3:List Nat}{a5:Sl}{x5:List Nat}{a6:Sl}{x6:List Nat}(A:Nats h a2 x2)(C:Nats h a3 x3)(F:Nats h a5 x5)(H:Nats h a6 x6)(a1 a4:Bool):Runs (go (.fn kk2 [.agg [.bool a1,a2.v,a3.v],.agg [.bool a4,a5.v,a6.v],.func (.func ki2) [] []]) h) λv h'=>∃s1:Sl,∃s2:Sl,v=.tup [.agg [.bool (kc4 a1 x2 x3 a4 x5 x6).1,s1.v,s2.v],.i (kc4 a1 x2 x3 a4 x5 x6).2.2.2]/\Nats h' s1 ((kc4 a1 x2 x3 a4 x5 x6).2.1)/\Nats h' s2 ((kc4 a1 x2 x3 a4 x5 x6).2.2.1)/\Grow h h'/\Own h s1/\Own h s2:=by rw[k5n];exact k1z (λa b=>kzp a b) A C F H a1 a4
def kc8(a1:Bool)(x2 x3:List Nat)(a4:Bool)(x5 x6:List Nat):Bool×List Nat×List Nat×Int:=((((kc4 a1 x2 x3 a4 x5 x6).1)),(kc4 a1 x2 x3 a4 x5 x6).2.1,(kc4 a1 x2 x3 a4 x5 x6).2.2.1,((kc4 a1 x2 x3 a4 x5 x6).2.2.2))
theorem kblq{h:AH}{a2:Sl}{x2:List Nat}{a3:Sl}{x3:List Nat}{a5:Sl}{x5:List Nat}{a6:Sl}{x6:List Nat}(n2:Nats h a2 x2)(n3:Nats h a3 x3)(n5:Nats h a5 x5)(n6:Nats h a6 x6)(a1 a4:Bool):Runs (go (.fn krv [.agg [.bool a1,a2.v,a3.v],.agg [.bool a4,a5.v,a6.v]]) h) λv h'=>∃s1:Sl,∃s2:Sl,v=.tup [.agg [.bool (kc8 a1 x2 x3 a4 x5 x6).1,s1.v,s2.v],.i (kc8 a1 x2 x3 a4 x5 x6).2.2.2]/\Nats h' s1 ((kc8 a1 x2 x3 a4 x5 x6).2.1)/\Nats h' s2 ((kc8 a1 x2 x3 a4 x5 x6).2.2.1)/\Grow h h'/\Own h s1/\Own h s2:=by
 rw[kbdz];refine q0 λH7 b7 g7=>?_;refine q0 λH8 b8 X=>?_;refine q0 λH9 b9 g9=>?_;refine qz (qbf ((X.trans g9).has b7) 0 rfl rfl) (qz (qbf ((X.trans g9).has b7) 1 rfl qco) (qz (qbf ((X.trans g9).has b7) 2 rfl qco) (qz (qbf (g9.has b8) 0 rfl rfl) (qz (qbf (g9.has b8) 1 rfl qco) (qz (qbf (g9.has b8) 2 rfl qco) ?_)))));have A:=((g7.trans X).trans g9);have H:=n2.grow A;have I:=n3.grow A;have K:=n5.grow A;have Q:=n6.grow A;obtain⟨_,an,af,ag,ac,rfl,ah,ad,F,ae,Z⟩:=kbms H I K Q a1 a4;refine qz af (qz rfl (qz rfl ?_));refine qbb rfl ?_;refine qz (seenAt rfl rfl) (qz (seenAt rfl qco) (qz (seenAt rfl qco) (qz (seen qcp) ?_)));refine qba (F.has b9) rfl λap aa C=>?_;have ai:=(H.grow F).upda (qbi n2 (qbq ((g7.trans X)).size (qbp _))) C;have aj:=(I.grow F).upda (qbi n3 (qbq ((g7.trans X)).size (qbp _))) C;have ak:=(K.grow F).upda (qbi n5 (qbq ((g7.trans X)).size (qbp _))) C;have al:=(Q.grow F).upda (qbi n6 (qbq ((g7.trans X)).size (qbp _))) C;have Y:=ah.upda (qbj ae (b9).lt) C;have U:=ad.upda (qbj Z (b9).lt) C;refine qz (qbf aa 0 rfl rfl) (qz (qbf aa 1 rfl qco) (qz (qbf aa 2 rfl qco) ?_));have z:kc8 a1 x2 x3 a4 x5 x6=((((kc4 a1 x2 x3 a4 x5 x6).1)),(kc4 a1 x2 x3 a4 x5 x6).2.1,(kc4 a1 x2 x3 a4 x5 x6).2.2.1,((kc4 a1 x2 x3 a4 x5 x6).2.2.2)):=by unfold kc8;exact rfl
 rw[z];have am:=((A.trans F).updr (qbq ((g7.trans X)).size (qbp _)) C);exact qy ⟨ag,ac,rfl,Y,U,am,(ae.of_le A),(Z.of_le A)⟩
theorem k5q{h:AH}{a2:Sl}{x2:List Nat}{a3:Sl}{x3:List Nat}{a5:Sl}{x5:List Nat}{a6:Sl}{x6:List Nat}(A:Nats h a2 x2)(C:Nats h a3 x3)(F:Nats h a5 x5)(H:Nats h a6 x6){a1 a4:Bool}{r:_}(q:kc8 a1 x2 x3 a4 x5 x6=r):Runs (go (.fn krv [.agg [.bool a1,a2.v,a3.v],.agg [.bool a4,a5.v,a6.v]]) h) λv h'=>∃s1:Sl,∃s2:Sl,v=.tup [.agg [.bool r.1,s1.v,s2.v],.i r.2.2.2]/\Nats h' s1 (r.2.1)/\Nats h' s2 (r.2.2.1)/\Grow h h'/\Own h s1/\Own h s2:=by subst q;exact kblq A C F H a1 a4
def kc9:Bool->List Nat->List Nat->Bool->List Nat->List Nat->Bool×List Nat×List Nat×Int:=kc3 ken
theorem kbfg{h:AH}{a2:Sl}{x2:List Nat}{a3:Sl}{x3:List Nat}{a5:Sl}{x5:List Nat}{a6:Sl}{x6:List Nat}(A:Nats h a2 x2)(C:Nats h a3 x3)(F:Nats h a5 x5)(H:Nats h a6 x6)(a1 a4:Bool):Runs (go (.fn kk2 [.agg [.bool a1,a2.v,a3.v],.agg [.bool a4,a5.v,a6.v],.func (.func kjy) [] []]) h) λv h'=>∃s1:Sl,∃s2:Sl,v=.tup [.agg [.bool (kc9 a1 x2 x3 a4 x5 x6).1,s1.v,s2.v],.i (kc9 a1 x2 x3 a4 x5 x6).2.2.2]/\Nats h' s1 ((kc9 a1 x2 x3 a4 x5 x6).2.1)/\Nats h' s2 ((kc9 a1 x2 x3 a4 x5 x6).2.2.1)/\Grow h h'/\Own h s1/\Own h s2:=by rw[kbed];exact k1z (λa b=>k6k a b) A C F H a1 a4
def kdi(a1:Bool)(x2 x3:List Nat)(a4:Bool)(x5 x6:List Nat):Bool×List Nat×List Nat×Int:=((((kc9 a1 x2 x3 a4 x5 x6).1)),(kc9 a1 x2 x3 a4 x5 x6).2.1,(kc9 a1 x2 x3 a4 x5 x6).2.2.1,((kc9 a1 x2 x3 a4 x5 x6).2.2.2))
theorem kbaj{h:AH}{a2:Sl}{x2:List Nat}{a3:Sl}{x3:List Nat}{a5:Sl}{x5:List Nat}{a6:Sl}{x6:List Nat}(n2:Nats h a2 x2)(n3:Nats h a3 x3)(n5:Nats h a5 x5)(n6:Nats h a6 x6)(a1 a4:Bool):Runs (go (.fn kq6 [.agg [.bool a1,a2.v,a3.v],.agg [.bool a4,a5.v,a6.v]]) h) λv h'=>∃s1:Sl,∃s2:Sl,v=.tup [.agg [.bool (kdi a1 x2 x3 a4 x5 x6).1,s1.v,s2.v],.i (kdi a1 x2 x3 a4 x5 x6).2.2.2]/\Nats h' s1 ((kdi a1 x2 x3 a4 x5 x6).2.1)/\Nats h' s2 ((kdi a1 x2 x3 a4 x5 x6).2.2.1)/\Grow h h'/\Own h s1/\Own h s2:=by
 rw[kbdr];refine q0 λH7 b7 g7=>?_;refine q0 λH8 b8 X=>?_;refine q0 λH9 b9 g9=>?_;refine qz (qbf ((X.trans g9).has b7) 0 rfl rfl) (qz (qbf ((X.trans g9).has b7) 1 rfl qco) (qz (qbf ((X.trans g9).has b7) 2 rfl qco) (qz (qbf (g9.has b8) 0 rfl rfl) (qz (qbf (g9.has b8) 1 rfl qco) (qz (qbf (g9.has b8) 2 rfl qco) ?_)))));have A:=((g7.trans X).trans g9);have H:=n2.grow A;have I:=n3.grow A;have K:=n5.grow A;have Q:=n6.grow A;obtain⟨_,an,af,ag,ac,rfl,ah,ad,F,ae,Z⟩:=kbfg H I K Q a1 a4;refine qz af (qz rfl (qz rfl ?_));refine qbb rfl ?_;refine qz (seenAt rfl rfl) (qz (seenAt rfl qco) (qz (seenAt rfl qco) (qz (seen qcp) ?_)));refine qba (F.has b9) rfl λap aa C=>?_;have ai:=(H.grow F).upda (qbi n2 (qbq ((g7.trans X)).size (qbp _))) C;have aj:=(I.grow F).upda (qbi n3 (qbq ((g7.trans X)).size (qbp _))) C;have ak:=(K.grow F).upda (qbi n5 (qbq ((g7.trans X)).size (qbp _))) C;have al:=(Q.grow F).upda (qbi n6 (qbq ((g7.trans X)).size (qbp _))) C;have Y:=ah.upda (qbj ae (b9).lt) C;have U:=ad.upda (qbj Z (b9).lt) C;refine qz (qbf aa 0 rfl rfl) (qz (qbf aa 1 rfl qco) (qz (qbf aa 2 rfl qco) ?_));have z:kdi a1 x2 x3 a4 x5 x6=((((kc9 a1 x2 x3 a4 x5 x6).1)),(kc9 a1 x2 x3 a4 x5 x6).2.1,(kc9 a1 x2 x3 a4 x5 x6).2.2.1,((kc9 a1 x2 x3 a4 x5 x6).2.2.2)):=by unfold kdi;exact rfl
 rw[z];have am:=((A.trans F).updr (qbq ((g7.trans X)).size (qbp _)) C);exact qy ⟨ag,ac,rfl,Y,U,am,(ae.of_le A),(Z.of_le A)⟩
theorem k93{h:AH}{a2:Sl}{x2:List Nat}{a3:Sl}{x3:List Nat}{a5:Sl}{x5:List Nat}{a6:Sl}{x6:List Nat}(A:Nats h a2 x2)(C:Nats h a3 x3)(F:Nats h a5 x5)(H:Nats h a6 x6){a1 a4:Bool}{r:_}(q:kdi a1 x2 x3 a4 x5 x6=r):Runs (go (.fn kq6 [.agg [.bool a1,a2.v,a3.v],.agg [.bool a4,a5.v,a6.v]]) h) λv h'=>∃s1:Sl,∃s2:Sl,v=.tup [.agg [.bool r.1,s1.v,s2.v],.i r.2.2.2]/\Nats h' s1 (r.2.1)/\Nats h' s2 (r.2.2.1)/\Grow h h'/\Own h s1/\Own h s2:=by subst q;exact kbaj A C F H a1 a4
def kb4(a1:Bool)(x2 x3:List Nat)(a4:Bool)(x5 x6:List Nat):Bool×List Nat×List Nat×Int:=cond (!((kbb a1 x2 x3))) ((false,[],[],1)) (cond (!((kbb a4 x5 x6))) ((false,[],[],1)) (((((kbd (((kbf ((kf a1 x2 x3 a4 x5 x6).1) ((kf a1 x2 x3 a4 x5 x6).2) ((kf a4 x5 x6 a1 x2 x3).1) ((kf a4 x5 x6 a1 x2 x3).2)).1)) ((kbf ((kf a1 x2 x3 a4 x5 x6).1) ((kf a1 x2 x3 a4 x5 x6).2) ((kf a4 x5 x6 a1 x2 x3).1) ((kf a4 x5 x6 a1 x2 x3).2)).2.1) ((mulN x3 x6).1)).1)),(kbd (((kbf ((kf a1 x2 x3 a4 x5 x6).1) ((kf a1 x2 x3 a4 x5 x6).2) ((kf a4 x5 x6 a1 x2 x3).1) ((kf a4 x5 x6 a1 x2 x3).2)).1)) ((kbf ((kf a1 x2 x3 a4 x5 x6).1) ((kf a1 x2 x3 a4 x5 x6).2) ((kf a4 x5 x6 a1 x2 x3).1) ((kf a4 x5 x6 a1 x2 x3).2)).2.1) ((mulN x3 x6).1)).2.1,(kbd (((kbf ((kf a1 x2 x3 a4 x5 x6).1) ((kf a1 x2 x3 a4 x5 x6).2) ((kf a4 x5 x6 a1 x2 x3).1) ((kf a4 x5 x6 a1 x2 x3).2)).1)) ((kbf ((kf a1 x2 x3 a4 x5 x6).1) ((kf a1 x2 x3 a4 x5 x6).2) ((kf a4 x5 x6 a1 x2 x3).1) ((kf a4 x5 x6 a1 x2 x3).2)).2.1) ((mulN x3 x6).1)).2.2.1,((kbd (((kbf ((kf a1 x2 x3 a4 x5 x6).1) ((kf a1 x2 x3 a4 x5 x6).2) ((kf a4 x5 x6 a1 x2 x3).1) ((kf a4 x5 x6 a1 x2 x3).2)).1)) ((kbf ((kf a1 x2 x3 a4 x5 x6).1) ((kf a1 x2 x3 a4 x5 x6).2) ((kf a4 x5 x6 a1 x2 x3).1) ((kf a4 x5 x6 a1 x2 x3).2)).2.1) ((mulN x3 x6).1)).2.2.2))))
theorem k3g{h:AH}{a2:Sl}{x2:List Nat}{a3:Sl}{x3:List Nat}{a5:Sl}{x5:List Nat}{a6:Sl}{x6:List Nat}(n2:Nats h a2 x2)(n3:Nats h a3 x3)(n5:Nats h a5 x5)(n6:Nats h a6 x6)(a1 a4:Bool):Runs (go (.fn kma [.agg [.bool a1,a2.v,a3.v],.agg [.bool a4,a5.v,a6.v]]) h) λv h'=>∃s1:Sl,∃s2:Sl,v=.tup [.agg [.bool (kb4 a1 x2 x3 a4 x5 x6).1,s1.v,s2.v],.i (kb4 a1 x2 x3 a4 x5 x6).2.2.2]/\Nats h' s1 ((kb4 a1 x2 x3 a4 x5 x6).2.1)/\Nats h' s2 ((kb4 a1 x2 x3 a4 x5 x6).2.2.1)/\Grow h h'/\Own h s1/\Own h s2:=by
 rw[k6o];refine q0 λH7 b7 g7=>?_;refine q0 λH8 b8 g8=>?_;refine q0 λH9 b9 g9=>?_;refine qz (qbf ((g8.trans g9).has b7) 0 rfl rfl) (qz (qbf ((g8.trans g9).has b7) 1 rfl qco) (qz (qbf ((g8.trans g9).has b7) 2 rfl qco) ?_));have bg:=((g7.trans g8).trans g9);have ad:=n2.grow bg;have ae:=n3.grow bg;obtain⟨_,dp,cm,rfl,C⟩:=kj4 ad ae a1;refine qz cm (qz (seen rfl) (qz (qbf ((g9.trans C).has b8) 0 rfl rfl) (qz (qbf ((g9.trans C).has b8) 1 rfl qco) (qz (qbf ((g9.trans C).has b8) 2 rfl qco) ?_))));have al:=(bg.trans C);have Y:=n5.grow al;have Z:=n6.grow al;obtain⟨_,dq,cp,rfl,A⟩:=kj4 Y Z a4;refine qz cp (qz (seen rfl) ?_);refine qbd (λba=>?_) (λba=>?_)
 ·refine qba ((C.trans A).has b9) rfl λdr bh am=>?_;have cu:=(ad.grow (C.trans A)).upda (qbi n2 (qbq ((g7.trans g8)).size (qbp _))) am;have cv:=(ae.grow (C.trans A)).upda (qbi n3 (qbq ((g7.trans g8)).size (qbp _))) am;have cw:=(Y.grow A).upda (qbi n5 (qbq ((g7.trans g8)).size (qbp _))) am;have cx:=(Z.grow A).upda (qbi n6 (qbq ((g7.trans g8)).size (qbp _))) am;refine qz (qbf bh 0 rfl rfl) (qz (qbf bh 1 rfl qco) (qz (qbf bh 2 rfl qco) ?_));have z:kb4 a1 x2 x3 a4 x5 x6=(false,[],[],1):=by unfold kb4;exact(condT ba).trans rfl
  rw[z];have cy:=((al.trans A).updr (qbq ((g7.trans g8)).size (qbp _)) am);exact qy ⟨(⟨none,0,.is 0⟩:Sl),(⟨none,0,.is 0⟩:Sl),rfl,(qw _),(qw _),cy,(qu _),(qu _)⟩
 ·refine qbd (λbi=>?_) (λbi=>?_)
  ·refine qba ((C.trans A).has b9) rfl λcz aa an=>?_;have c0:=(ad.grow (C.trans A)).upda (qbi n2 (qbq ((g7.trans g8)).size (qbp _))) an;have c1:=(ae.grow (C.trans A)).upda (qbi n3 (qbq ((g7.trans g8)).size (qbp _))) an;have c2:=(Y.grow A).upda (qbi n5 (qbq ((g7.trans g8)).size (qbp _))) an;have c3:=(Z.grow A).upda (qbi n6 (qbq ((g7.trans g8)).size (qbp _))) an;refine qz (qbf aa 0 rfl rfl) (qz (qbf aa 1 rfl qco) (qz (qbf aa 2 rfl qco) ?_));have z:kb4 a1 x2 x3 a4 x5 x6=(false,[],[],1):=by unfold kb4;exact(condF ba).trans ((condT bi).trans rfl)
   rw[z];have bj:=((al.trans A).updr (qbq ((g7.trans g8)).size (qbp _)) an);exact qy ⟨(⟨none,0,.is 0⟩:Sl),(⟨none,0,.is 0⟩:Sl),rfl,(qw _),(qw _),bj,(qu _),(qu _)⟩
  ·refine q0 λcz aa ag=>?_;have bj:=((((g8.trans g9).trans C).trans A).trans ag);have F:=bj.has b7;refine qz (qbf F 0 rfl rfl) (qz (qbf F 1 rfl qco) (qz (qbf F 2 rfl qco) ?_));have c4:=(((g9.trans C).trans A).trans ag);have H:=c4.has b8;refine qz (qbf H 0 rfl rfl) (qz (qbf H 1 rfl qco) (qz (qbf H 2 rfl qco) (qz (qbf H 0 rfl rfl) (qz (qbf H 1 rfl qco) (qz (qbf H 2 rfl qco) (qz (qbf F 0 rfl rfl) (qz (qbf F 1 rfl qco) (qz (qbf F 2 rfl qco) ?_))))))));have ap:=((C.trans A).trans ag);have ah:=ad.grow ap;have ai:=ae.grow ap;obtain⟨_,dt,c5,du,rfl,bx,K,bz⟩:=kqi ah ai (Y.grow (A.trans ag)) (Z.grow (A.trans ag)) a1 a4;refine qz c5 (qz rfl ?_);refine qbb rfl ?_;refine qz (seenAt rfl rfl) (qz (seenAt rfl qco) ?_);refine qbe (K.same F 0 3) ?_;refine qbe (K.same H 0 3) ?_;refine qbe (K.same aa 0 0) ?_;have b0:=((A.trans ag).trans K);have aq:=Y.grow b0;have ar:=Z.grow b0;obtain⟨_,dv,c6,dw,rfl,b1,ac,b2⟩:=kqi aq ar (ah.grow K) (ai.grow K) a4 a1;refine qz c6 (qz rfl ?_);refine qbb rfl ?_;refine qz (seenAt rfl rfl) (qz (seenAt rfl qco) ?_);refine qbe (ac.same (K.has aa) 0 0) ?_;obtain⟨_,dx,c7,dy,rfl,c8,af,b3⟩:=kbng (bx.grow ac) b1 ((kf a1 x2 x3 a4 x5 x6).1) ((kf a4 x5 x6 a1 x2 x3).1);refine qz c7 (qz rfl (qz rfl ?_));refine qbb rfl ?_;refine qz (seenAt rfl rfl) (qz (seenAt rfl qco) (qz (seen qcp) ?_));refine qbe (af.same ((K.trans ac).has aa) 0 0) ?_;have au:=((K.trans ac).trans af);have bb:=au.has aa;refine qba bb rfl λdz bk X=>?_;have ak:=(al.trans A);have bm:=ah.grow au;have bn:=bm.upda (qbi n2 (qbq (ak).size (qbp _))) X;have bp:=ai.grow au;have aw:=bp.upda (qbi n3 (qbq (ak).size (qbp _))) X;have bq:=(aq.grow (ac.trans af)).upda (qbi n5 (qbq (ak).size (qbp _))) X;have ax:=(ar.grow (ac.trans af)).upda (qbi n6 (qbq (ak).size (qbp _))) X;have bc:=(bx.grow (ac.trans af)).upda (qbj bz (aa).lt) X;have bd:=(b1.grow af).upda (qbj b2 (K.has aa).lt) X;have aj:=c8.upda (qbj b3 ((K.trans ac).has aa).lt) X;have br:=au.has F;have c9:=(((g8.trans g9).trans C).trans A);have ay:=qx br (Nat.ne_of_lt (qbr (c9.has b7).lt (qbp _))) X;have bt:=au.has H;have da:=((g9.trans C).trans A);have az:=qx bt (Nat.ne_of_lt (qbr (da.has b8).lt (qbp _))) X;refine qz (qbf ay 2 rfl qco) (qz (qbf az 2 rfl qco) ?_);obtain⟨d0,d1,db,b4,I,dc⟩:=kxz aw ax;refine qz db (qz rfl (qz (seen qco) (qz (seen qcp) (qz (qbf (I.has bk) 0 rfl rfl) (qz (qbf (I.has bk) 1 rfl qco) ?_)))));obtain⟨_,d2,dd,de,b5,rfl,df,b6,U,ca,bf⟩:=kuc (aj.grow I) b4 (((kbf ((kf a1 x2 x3 a4 x5 x6).1) ((kf a1 x2 x3 a4 x5 x6).2) ((kf a4 x5 x6 a1 x2 x3).1) ((kf a4 x5 x6 a1 x2 x3).2)).1));refine qz dd (qz rfl (qz rfl ?_));refine qbb rfl ?_;refine qz (seenAt rfl rfl) (qz (seenAt rfl qco) (qz (seenAt rfl qco) (qz (seen qcp) ?_)));have dg:=((((((ap.trans K).trans ac).trans af).updr (qbq ((C.trans A)).size (qbp _)) X).trans I).trans U);have bu:=dg.has b9;refine qba bu rfl λd3 bv Q=>?_;have dh:=(bn.grow (I.trans U)).upda (qbi n2 (qbq ((g7.trans g8)).size (qbp _))) Q;have di:=(aw.grow (I.trans U)).upda (qbi n3 (qbq ((g7.trans g8)).size (qbp _))) Q;have dj:=(bq.grow (I.trans U)).upda (qbi n5 (qbq ((g7.trans g8)).size (qbp _))) Q;have dk:=(ax.grow (I.trans U)).upda (qbi n6 (qbq ((g7.trans g8)).size (qbp _))) Q;have cf:=(bc.grow (I.trans U)).upda (qbj bz (ap.has b9).lt) Q;have cb:=(ap.trans K);have cg:=(bd.grow (I.trans U)).upda (qbj b2 (cb.has b9).lt) Q;have cc:=(cb.trans ac);have ci:=(aj.grow (I.trans U)).upda (qbj b3 (cc.has b9).lt) Q;have cd:=((cc.trans af).updr (qbq ((C.trans A)).size (qbp _)) X);have cj:=(b4.grow U).upda (qbj dc (cd.has b9).lt) Q;have ce:=(cd.trans I);have be:=df.upda (qbj ca (ce.has b9).lt) Q;have a0:=b6.upda (qbj bf (ce.has b9).lt) Q;have dl:=qx ((I.trans U).has ay) (Nat.ne_of_lt (qbr (g8.has b7).lt (qbp _))) Q;have dm:=qx ((I.trans U).has az) (Nat.ne_of_lt (qbr (b8).lt (qbp _))) Q;have cl:=qx ((I.trans U).has bk) (Nat.ne_of_gt (qbr ((C.trans A).has b9).lt (qbp _))) Q;refine qz (qbf bv 0 rfl rfl) (qz (qbf bv 1 rfl qco) (qz (qbf bv 2 rfl qco) ?_));have z:kb4 a1 x2 x3 a4 x5 x6=((((kbd (((kbf ((kf a1 x2 x3 a4 x5 x6).1) ((kf a1 x2 x3 a4 x5 x6).2) ((kf a4 x5 x6 a1 x2 x3).1) ((kf a4 x5 x6 a1 x2 x3).2)).1)) ((kbf ((kf a1 x2 x3 a4 x5 x6).1) ((kf a1 x2 x3 a4 x5 x6).2) ((kf a4 x5 x6 a1 x2 x3).1) ((kf a4 x5 x6 a1 x2 x3).2)).2.1) ((mulN x3 x6).1)).1)),(kbd (((kbf ((kf a1 x2 x3 a4 x5 x6).1) ((kf a1 x2 x3 a4 x5 x6).2) ((kf a4 x5 x6 a1 x2 x3).1) ((kf a4 x5 x6 a1 x2 x3).2)).1)) ((kbf ((kf a1 x2 x3 a4 x5 x6).1) ((kf a1 x2 x3 a4 x5 x6).2) ((kf a4 x5 x6 a1 x2 x3).1) ((kf a4 x5 x6 a1 x2 x3).2)).2.1) ((mulN x3 x6).1)).2.1,(kbd (((kbf ((kf a1 x2 x3 a4 x5 x6).1) ((kf a1 x2 x3 a4 x5 x6).2) ((kf a4 x5 x6 a1 x2 x3).1) ((kf a4 x5 x6 a1 x2 x3).2)).1)) ((kbf ((kf a1 x2 x3 a4 x5 x6).1) ((kf a1 x2 x3 a4 x5 x6).2) ((kf a4 x5 x6 a1 x2 x3).1) ((kf a4 x5 x6 a1 x2 x3).2)).2.1) ((mulN x3 x6).1)).2.2.1,((kbd (((kbf ((kf a1 x2 x3 a4 x5 x6).1) ((kf a1 x2 x3 a4 x5 x6).2) ((kf a4 x5 x6 a1 x2 x3).1) ((kf a4 x5 x6 a1 x2 x3).2)).1)) ((kbf ((kf a1 x2 x3 a4 x5 x6).1) ((kf a1 x2 x3 a4 x5 x6).2) ((kf a4 x5 x6 a1 x2 x3).1) ((kf a4 x5 x6 a1 x2 x3).2)).2.1) ((mulN x3 x6).1)).2.2.2)):=by unfold kb4;exact(condF ba).trans ((condF bi).trans rfl)
   rw[z];have bw:=((((((ak.trans ag).trans K).trans ac).trans af).updr (qbq (ak).size (qbp _)) X).trans I);have dn:=((bw.trans U).updr (qbq ((g7.trans g8)).size (qbp _)) Q);exact qy ⟨de,b5,rfl,be,a0,dn,(ca.of_le bw),(bf.of_le bw)⟩
def kcz(a1:Bool)(x2 x3:List Nat)(a4:Bool)(x5 x6:List Nat):Bool×List Nat×List Nat×Int:=cond (!((kbb a1 x2 x3))) ((false,[],[],1)) (cond (!((kbb a4 x5 x6))) ((false,[],[],1)) (((((kb4 a1 x2 x3 ((negI a4 x5).1) ((negI a4 x5).2) x6).1)),(kb4 a1 x2 x3 ((negI a4 x5).1) ((negI a4 x5).2) x6).2.1,(kb4 a1 x2 x3 ((negI a4 x5).1) ((negI a4 x5).2) x6).2.2.1,((kb4 a1 x2 x3 ((negI a4 x5).1) ((negI a4 x5).2) x6).2.2.2))))
theorem kbgh{h:AH}{a2:Sl}{x2:List Nat}{a3:Sl}{x3:List Nat}{a5:Sl}{x5:List Nat}{a6:Sl}{x6:List Nat}(n2:Nats h a2 x2)(n3:Nats h a3 x3)(n5:Nats h a5 x5)(n6:Nats h a6 x6)(a1 a4:Bool):Runs (go (.fn kra [.agg [.bool a1,a2.v,a3.v],.agg [.bool a4,a5.v,a6.v]]) h) λv h'=>∃s1:Sl,∃s2:Sl,v=.tup [.agg [.bool (kcz a1 x2 x3 a4 x5 x6).1,s1.v,s2.v],.i (kcz a1 x2 x3 a4 x5 x6).2.2.2]/\Nats h' s1 ((kcz a1 x2 x3 a4 x5 x6).2.1)/\Nats h' s2 ((kcz a1 x2 x3 a4 x5 x6).2.2.1)/\Grow h h'/\Own h s1/\Own h s2:=by
 rw[kbdx];refine q0 λH7 b7 g7=>?_;refine q0 λH8 b8 Q=>?_;refine q0 λH9 b9 g9=>?_;refine qz (qbf ((Q.trans g9).has b7) 0 rfl rfl) (qz (qbf ((Q.trans g9).has b7) 1 rfl qco) (qz (qbf ((Q.trans g9).has b7) 2 rfl qco) ?_));have am:=((g7.trans Q).trans g9);have X:=n2.grow am;have Y:=n3.grow am;obtain⟨_,cb,bf,rfl,C⟩:=kj4 X Y a1;refine qz bf (qz (seen rfl) (qz (qbf ((g9.trans C).has b8) 0 rfl rfl) (qz (qbf ((g9.trans C).has b8) 1 rfl qco) (qz (qbf ((g9.trans C).has b8) 2 rfl qco) ?_))));have ac:=(am.trans C);have F:=n5.grow ac;have H:=n6.grow ac;obtain⟨_,cc,bg,rfl,A⟩:=kj4 F H a4;refine qz bg (qz (seen rfl) ?_);refine qbd (λaj=>?_) (λaj=>?_)
 ·refine qba ((C.trans A).has b9) rfl λcd an ad=>?_;have bh:=(X.grow (C.trans A)).upda (qbi n2 (qbq ((g7.trans Q)).size (qbp _))) ad;have bi:=(Y.grow (C.trans A)).upda (qbi n3 (qbq ((g7.trans Q)).size (qbp _))) ad;have bj:=(F.grow A).upda (qbi n5 (qbq ((g7.trans Q)).size (qbp _))) ad;have bk:=(H.grow A).upda (qbi n6 (qbq ((g7.trans Q)).size (qbp _))) ad;refine qz (qbf an 0 rfl rfl) (qz (qbf an 1 rfl qco) (qz (qbf an 2 rfl qco) ?_));have z:kcz a1 x2 x3 a4 x5 x6=(false,[],[],1):=by unfold kcz;exact(condT aj).trans rfl
  rw[z];have ap:=((ac.trans A).updr (qbq ((g7.trans Q)).size (qbp _)) ad);exact qy ⟨(⟨none,0,.is 0⟩:Sl),(⟨none,0,.is 0⟩:Sl),rfl,(qw _),(qw _),ap,(qu _),(qu _)⟩
 ·refine qbd (λaq=>?_) (λaq=>?_)
  ·refine qba ((C.trans A).has b9) rfl λce ar ae=>?_;have bm:=(X.grow (C.trans A)).upda (qbi n2 (qbq ((g7.trans Q)).size (qbp _))) ae;have bn:=(Y.grow (C.trans A)).upda (qbi n3 (qbq ((g7.trans Q)).size (qbp _))) ae;have bp:=(F.grow A).upda (qbi n5 (qbq ((g7.trans Q)).size (qbp _))) ae;have bq:=(H.grow A).upda (qbi n6 (qbq ((g7.trans Q)).size (qbp _))) ae;refine qz (qbf ar 0 rfl rfl) (qz (qbf ar 1 rfl qco) (qz (qbf ar 2 rfl qco) ?_));have z:kcz a1 x2 x3 a4 x5 x6=(false,[],[],1):=by unfold kcz;exact(condF aj).trans ((condT aq).trans rfl)
   rw[z];have br:=((ac.trans A).updr (qbq ((g7.trans Q)).size (qbp _)) ae);exact qy ⟨(⟨none,0,.is 0⟩:Sl),(⟨none,0,.is 0⟩:Sl),rfl,(qw _),(qw _),br,(qu _),(qu _)⟩
  ·have ap:=(((Q.trans g9).trans C).trans A);have I:=ap.has b7;refine qz (qbf I 0 rfl rfl) (qz (qbf I 1 rfl qco) (qz (qbf I 2 rfl qco) ?_));have bt:=((g9.trans C).trans A);have K:=bt.has b8;refine qz (qbf K 0 rfl rfl) (qz (qbf K 1 rfl qco) (qz (qbf K 2 rfl qco) ?_));obtain⟨cf,cg,bu,a0,Z,bv⟩:=k5d (F.grow A) a4;refine qz bu (qz rfl ?_);refine qbb rfl ?_;refine qz (seenAt rfl rfl) (qz (seenAt rfl qco) ?_);refine qbe (Z.same K 2 1) ?_;refine qbe (Z.same I 0 3) ?_;have af:=((C.trans A).trans Z);have ag:=X.grow af;have ah:=Y.grow af;obtain⟨_,ci,bw,bx,ba,rfl,bz,bb,aa,bc,al⟩:=k3g ag ah a0 (H.grow (A.trans Z)) a1 ((negI a4 x5).1);refine qz bw (qz rfl (qz rfl ?_));refine qbb rfl ?_;refine qz (seenAt rfl rfl) (qz (seenAt rfl qco) (qz (seenAt rfl qco) (qz (seen qcp) ?_)));have b0:=(af.trans aa);have au:=b0.has b9;refine qba au rfl λcj aw U=>?_;have b1:=(ag.grow aa).upda (qbi n2 (qbq ((g7.trans Q)).size (qbp _))) U;have b2:=(ah.grow aa).upda (qbi n3 (qbq ((g7.trans Q)).size (qbp _))) U;have bd:=((A.trans Z).trans aa);have ax:=F.grow bd;have b3:=ax.upda (qbi n5 (qbq ((g7.trans Q)).size (qbp _))) U;have ay:=H.grow bd;have b4:=ay.upda (qbi n6 (qbq ((g7.trans Q)).size (qbp _))) U;have be:=(a0.grow aa).upda (qbj bv ((C.trans A).has b9).lt) U;have ak:=bz.upda (qbj bc (af.has b9).lt) U;have ai:=bb.upda (qbj al (af.has b9).lt) U;have b5:=qx ((Z.trans aa).has I) (Nat.ne_of_lt (qbr (Q.has b7).lt (qbp _))) U;have b6:=qx ((Z.trans aa).has K) (Nat.ne_of_lt (qbr (b8).lt (qbp _))) U;refine qz (qbf aw 0 rfl rfl) (qz (qbf aw 1 rfl qco) (qz (qbf aw 2 rfl qco) ?_));have z:kcz a1 x2 x3 a4 x5 x6=((((kb4 a1 x2 x3 ((negI a4 x5).1) ((negI a4 x5).2) x6).1)),(kb4 a1 x2 x3 ((negI a4 x5).1) ((negI a4 x5).2) x6).2.1,(kb4 a1 x2 x3 ((negI a4 x5).1) ((negI a4 x5).2) x6).2.2.1,((kb4 a1 x2 x3 ((negI a4 x5).1) ((negI a4 x5).2) x6).2.2.2)):=by unfold kcz;exact(condF aj).trans ((condF aq).trans rfl)
   rw[z];have az:=((ac.trans A).trans Z);have ca:=((az.trans aa).updr (qbq ((g7.trans Q)).size (qbp _)) U);exact qy ⟨bx,ba,rfl,ak,ai,ca,(bc.of_le az),(al.of_le az)⟩
theorem kbet{h:AH}{a2:Sl}{x2:List Nat}{a3:Sl}{x3:List Nat}{a5:Sl}{x5:List Nat}{a6:Sl}{x6:List Nat}(A:Nats h a2 x2)(C:Nats h a3 x3)(F:Nats h a5 x5)(H:Nats h a6 x6){a1 a4:Bool}{r:_}(q:kcz a1 x2 x3 a4 x5 x6=r):Runs (go (.fn kra [.agg [.bool a1,a2.v,a3.v],.agg [.bool a4,a5.v,a6.v]]) h) λv h'=>∃s1:Sl,∃s2:Sl,v=.tup [.agg [.bool r.1,s1.v,s2.v],.i r.2.2.2]/\Nats h' s1 (r.2.1)/\Nats h' s2 (r.2.2.1)/\Grow h h'/\Own h s1/\Own h s2:=by subst q;exact kbgh A C F H a1 a4
theorem kbe7{h:AH}{a2:Sl}{x2:List Nat}{a3:Sl}{x3:List Nat}{a5:Sl}{x5:List Nat}{a6:Sl}{x6:List Nat}(A:Nats h a2 x2)(C:Nats h a3 x3)(F:Nats h a5 x5)(H:Nats h a6 x6){a1 a4:Bool}{r:_}(q:kb4 a1 x2 x3 a4 x5 x6=r):Runs (go (.fn kma [.agg [.bool a1,a2.v,a3.v],.agg [.bool a4,a5.v,a6.v]]) h) λv h'=>∃s1:Sl,∃s2:Sl,v=.tup [.agg [.bool r.1,s1.v,s2.v],.i r.2.2.2]/\Nats h' s1 (r.2.1)/\Nats h' s2 (r.2.2.1)/\Grow h h'/\Own h s1/\Own h s2:=by subst q;exact k3g A C F H a1 a4
def kfz(a1:Bool)(x2 x3:List Nat)(a4:Bool)(x5 x6:List Nat):Int:=cond (!((kbb a1 x2 x3&&kbb a4 x5 x6))) (0) ((cmpI ((kf a1 x2 x3 a4 x5 x6).1) ((kf a1 x2 x3 a4 x5 x6).2) ((kf a4 x5 x6 a1 x2 x3).1) ((kf a4 x5 x6 a1 x2 x3).2)))
theorem k8f{h:AH}{a2:Sl}{x2:List Nat}{a3:Sl}{x3:List Nat}{a5:Sl}{x5:List Nat}{a6:Sl}{x6:List Nat}(n2:Nats h a2 x2)(n3:Nats h a3 x3)(n5:Nats h a5 x5)(n6:Nats h a6 x6)(a1 a4:Bool):Runs (go (.fn kvu [.agg [.bool a1,a2.v,a3.v],.agg [.bool a4,a5.v,a6.v]]) h) λv h'=>v=.i (kfz a1 x2 x3 a4 x5 x6)/\Grow h h':=by
 rw[kbhr];refine q0 λH7 b7 g7=>?_;refine q0 λH8 X g8=>?_;refine qz (qbf (g8.has b7) 0 rfl rfl) (qz (qbf (g8.has b7) 1 rfl qco) (qz (qbf (g8.has b7) 2 rfl qco) (qz (qbf X 0 rfl rfl) (qz (qbf X 1 rfl qco) (qz (qbf X 2 rfl qco) ?_)))));refine q0 λH9 b9 Y=>?_;have U:=((g7.trans g8).trans Y);have F:=n2.grow U;have H:=n3.grow U;have I:=n5.grow U;have K:=n6.grow U;obtain⟨al,ad,A⟩:=k23 b9 F H I K;refine qz ad (qz (seen rfl) ?_);refine qbd (λZ=>?_) (λZ=>?_)
 ·have z:kfz a1 x2 x3 a4 x5 x6=0:=by unfold kfz;exact(condT Z).trans rfl
  rw[z];have aa:=(U.trans A);exact qy ⟨rfl,aa⟩
 ·have aa:=((g8.trans Y).trans A);have C:=aa.has b7;refine qz (qbf C 0 rfl rfl) (qz (qbf C 1 rfl qco) (qz (qbf C 2 rfl qco) (qz (qbf ((Y.trans A).has X) 0 rfl rfl) (qz (qbf ((Y.trans A).has X) 1 rfl qco) (qz (qbf ((Y.trans A).has X) 2 rfl qco) (qz (qbf ((Y.trans A).has X) 0 rfl rfl) (qz (qbf ((Y.trans A).has X) 1 rfl qco) (qz (qbf ((Y.trans A).has X) 2 rfl qco) (qz (qbf C 0 rfl rfl) (qz (qbf C 1 rfl qco) (qz (qbf C 2 rfl qco) ?_)))))))))));obtain⟨_,am,ae,an,rfl,af,Q,ap⟩:=kr0 (F.grow A) (H.grow A) (I.grow A) (K.grow A) a1 a4;refine qz ae (qz rfl ?_);refine qbb rfl ?_;refine qz (seenAt rfl rfl) (qz (seenAt rfl qco) ?_);refine qbe (Q.same C 0 3) ?_;refine qbe (Q.same ((Y.trans A).has X) 0 3) ?_;obtain⟨_,aq,ag,ar,rfl,ah,ac,au⟩:=kr0 (I.grow (A.trans Q)) (K.grow (A.trans Q)) (F.grow (A.trans Q)) (H.grow (A.trans Q)) a4 a1;refine qz ag (qz rfl ?_);refine qbb rfl ?_;refine qz (seenAt rfl rfl) (qz (seenAt rfl qco) ?_);obtain⟨aw,ai,aj⟩:=kbjz (af.grow ac) ah ((kf a1 x2 x3 a4 x5 x6).1) ((kf a4 x5 x6 a1 x2 x3).1);refine qz ai (qz (seen qcp) ?_);have z:kfz a1 x2 x3 a4 x5 x6=(cmpI ((kf a1 x2 x3 a4 x5 x6).1) ((kf a1 x2 x3 a4 x5 x6).2) ((kf a4 x5 x6 a1 x2 x3).1) ((kf a4 x5 x6 a1 x2 x3).2)):=by unfold kfz;exact(condF Z).trans rfl
  rw[z];have ak:=((((U.trans A).trans Q).trans ac).trans aj);exact qy ⟨rfl,ak⟩
def kf4(a1:Bool)(x2 x3:List Nat)(a4:Bool)(x5 x6:List Nat):Int:=cond (!((kbb a1 x2 x3))) (0) (cond (!((kbb a4 x5 x6))) (0) ((cmpI ((kf a1 x2 x3 a4 x5 x6).1) ((kf a1 x2 x3 a4 x5 x6).2) ((kf a4 x5 x6 a1 x2 x3).1) ((kf a4 x5 x6 a1 x2 x3).2))))
theorem kbft{h:AH}{a2:Sl}{x2:List Nat}{a3:Sl}{x3:List Nat}{a5:Sl}{x5:List Nat}{a6:Sl}{x6:List Nat}(n2:Nats h a2 x2)(n3:Nats h a3 x3)(n5:Nats h a5 x5)(n6:Nats h a6 x6)(a1 a4:Bool):Runs (go (.fn kuz [.agg [.bool a1,a2.v,a3.v],.agg [.bool a4,a5.v,a6.v]]) h) λv h'=>v=.i (kf4 a1 x2 x3 a4 x5 x6)/\Grow h h':=by
 rw[k7c];refine q0 λH7 b7 g7=>?_;refine q0 λH8 Y g8=>?_;refine qz (qbf (g8.has b7) 0 rfl rfl) (qz (qbf (g8.has b7) 1 rfl qco) (qz (qbf (g8.has b7) 2 rfl qco) ?_));obtain⟨_,H9,e9,rfl,K⟩:=kj4 (n2.grow (g7.trans g8)) (n3.grow (g7.trans g8)) a1;refine qz e9 (qz (seen rfl) (qz (qbf (K.has Y) 0 rfl rfl) (qz (qbf (K.has Y) 1 rfl qco) (qz (qbf (K.has Y) 2 rfl qco) ?_))));have Q:=((g7.trans g8).trans K);have F:=n5.grow Q;have H:=n6.grow Q;obtain⟨_,ap,af,rfl,A⟩:=kj4 F H a4;refine qz af (qz (seen rfl) ?_);refine qbd (λZ=>?_) (λZ=>?_)
 ·have z:kf4 a1 x2 x3 a4 x5 x6=0:=by unfold kf4;exact(condT Z).trans rfl
  rw[z];have ag:=(Q.trans A);exact qy ⟨rfl,ag⟩
 ·refine qbd (λaa=>?_) (λaa=>?_)
  ·have z:kf4 a1 x2 x3 a4 x5 x6=0:=by unfold kf4;exact(condF Z).trans ((condT aa).trans rfl)
   rw[z];have ac:=(Q.trans A);exact qy ⟨rfl,ac⟩
  ·have ac:=((g8.trans K).trans A);have C:=ac.has b7;refine qz (qbf C 0 rfl rfl) (qz (qbf C 1 rfl qco) (qz (qbf C 2 rfl qco) (qz (qbf ((K.trans A).has Y) 0 rfl rfl) (qz (qbf ((K.trans A).has Y) 1 rfl qco) (qz (qbf ((K.trans A).has Y) 2 rfl qco) (qz (qbf ((K.trans A).has Y) 0 rfl rfl) (qz (qbf ((K.trans A).has Y) 1 rfl qco) (qz (qbf ((K.trans A).has Y) 2 rfl qco) (qz (qbf C 0 rfl rfl) (qz (qbf C 1 rfl qco) (qz (qbf C 2 rfl qco) ?_)))))))))));have ad:=(Q.trans A);have U:=n2.grow ad;have X:=n3.grow ad;obtain⟨_,aq,ah,ar,rfl,ai,I,au⟩:=kqi U X (F.grow A) (H.grow A) a1 a4;refine qz ah (qz rfl ?_);refine qbb rfl ?_;refine qz (seenAt rfl rfl) (qz (seenAt rfl qco) ?_);refine qbe (I.same C 0 3) ?_;refine qbe (I.same ((K.trans A).has Y) 0 3) ?_;obtain⟨_,aw,aj,ax,rfl,ak,ae,ay⟩:=kqi (F.grow (A.trans I)) (H.grow (A.trans I)) (U.grow I) (X.grow I) a4 a1;refine qz aj (qz rfl ?_);refine qbb rfl ?_;refine qz (seenAt rfl rfl) (qz (seenAt rfl qco) ?_);obtain⟨az,al,am⟩:=kbgm (ai.grow ae) ak ((kf a1 x2 x3 a4 x5 x6).1) ((kf a4 x5 x6 a1 x2 x3).1);refine qz al (qz (seen qcp) ?_);have z:kf4 a1 x2 x3 a4 x5 x6=(cmpI ((kf a1 x2 x3 a4 x5 x6).1) ((kf a1 x2 x3 a4 x5 x6).2) ((kf a4 x5 x6 a1 x2 x3).1) ((kf a4 x5 x6 a1 x2 x3).2)):=by unfold kf4;exact(condF Z).trans ((condF aa).trans rfl)
   rw[z];have an:=(((ad.trans I).trans ae).trans am);exact qy ⟨rfl,an⟩
def fracM(z:Int)(d:Nat):Bool×List Nat×List Nat×Int:=if z.natAbs/Nat.gcd z.natAbs d<B^16/\d/Nat.gcd z.natAbs d<B^16 then((intD (z/(Nat.gcd z.natAbs d:Int))).1,(intD (z/(Nat.gcd z.natAbs d:Int))).2,digs B (d/Nat.gcd z.natAbs d),0)else(false,[],[],4)
theorem kov(m:Nat):decide ((List.length (digs B m):Int)>16)=!decide (m<B^16):=by
 have h:=kbl B2 m 16;by_cases k:m<B^16
 ·have:=h.2 k;rw[qbx k,qbv.2 (by omega)];rfl
 ·have:¬(digs B m).length<=16:=λe=>k (h.1 e);rw[qby k,decide_eq_true_iff.2 (by omega)];rfl
theorem kw9{a b:Nat}(A:a<B^64)(C:b<B^64):gcdN (digs B a) (digs B b)=(digs B (Nat.gcd a b),0):=by unfold gcdN;rw[if_pos ⟨kbr A,kbr C⟩,ko B2,ko B2]
theorem kyq{a b:Nat}(A:a<B^64)(C:b<B^64)(h0:b≠0):divN (digs B a) (digs B b)=(digs B (a/b),digs B (a%b),0):=by unfold divN;rw[if_pos ⟨kbr A,kbr C⟩,if_neg (λe=>h0 ((kgt B2).1 e)),ko B2,ko B2]
theorem kbcf{z:Int}{g:Nat}(h0:0<g)(h:g∣z.natAbs):z/(g:Int)=if z<0 then -((z.natAbs/g:Nat):Int)else((z.natAbs/g:Nat):Int):=by
 obtain⟨k,A⟩:=h;rw[A,Nat.mul_div_cancel_left _ h0];have C:(g:Int)≠0:=by omega
 by_cases F:z<0
 ·rw[if_pos F]
  have:z=(g:Int)*(-(k:Int)):=by rw[Int.mul_neg,<- Int.natCast_mul,<- A];omega
  rw[this,Int.mul_ediv_cancel_left _ C]
 ·rw[if_neg F]
  have:z=(g:Int)*(k:Int):=by rw[<- Int.natCast_mul,<- A];omega
  rw[this,Int.mul_ediv_cancel_left _ C]
theorem koi{z:Int}{d:Nat}(F:z.natAbs<B^64)(H:d<B^64)(h0:d≠0):kbd (intD z).1 (intD z).2 (digs B d)=fracM z d:=by
 unfold kbd fracM;have K:0<Nat.gcd z.natAbs d:=Nat.gcd_pos_of_pos_right _ (by omega);have U:Nat.gcd z.natAbs d<=d:=Nat.gcd_le_right _ (by omega);rw[kdc F,kbr H];have X:(intD z).2=digs B z.natAbs:=rfl;have Q:z.natAbs/Nat.gcd z.natAbs d<B^64:=qbs (Nat.div_le_self _ _) F;have Y:d/Nat.gcd z.natAbs d<B^64:=qbs (Nat.div_le_self _ _) H;rw[X,kw9 F H];have A:Nat.gcd z.natAbs d<B^64:=by omega
 simp only[Bool.not_true,cond_false];rw[kyq F A (by omega),kyq H A (by omega),kl3,qby (λe=>h0 ((kgt B2).1 e)),cond_false];dsimp only
 have k:∀u v:Int,decide (imax u v>16)=(decide (u>16)||decide (v>16)):=by intro u v;rw[kih,Bool.eq_iff_iff];simp only[qca,qbw];omega
 rw[k,kov,kov,kee Q,kbcf K (Nat.gcd_dvd_left _ _)];have s:(intD z).1=decide (z<0):=rfl;rw[s];simp only[qbw];generalize (if z<0 then -((z.natAbs/Nat.gcd z.natAbs d:Nat):Int)else((z.natAbs/Nat.gcd z.natAbs d:Nat):Int))=y;by_cases C:z.natAbs/Nat.gcd z.natAbs d<B^16
 ·by_cases I:d/Nat.gcd z.natAbs d<B^16
  ·rw[if_pos ⟨C,I⟩,qbx C,qbx I];rfl
  ·rw[if_neg (λh=>I h.2),qby I,qbx C];rfl
 ·rw[if_neg (λh=>C h.1),qby C];rfl
structure IsFrac(p:Bool)(xs ys:List Nat)(z:Int)(d:Nat):Prop where
 p:p=(intD z).1
 xs:xs=(intD z).2
 ys:ys=digs B d
 pos:0<d
 zlt:z.natAbs<B^16
 dlt:d<B^16
 co:Nat.gcd z.natAbs d=1
theorem kxj{z:Int}{d:Nat}(H:z.natAbs<B^64)(I:d<B^64):kbb (intD z).1 (intD z).2 (digs B d)=decide (0<d/\z.natAbs<B^16/\d<B^16/\Nat.gcd z.natAbs d=1):=by
 unfold kbb;rw[kdc H,kbr I];have Q:(intD z).2=digs B z.natAbs:=rfl;rw[Q,kw9 H I,kl3,kov,kov];simp only[Bool.not_true,cond_false];by_cases K:d=0
 ·subst K;rw[kcg];simp
 ·rw[qby (λe=>K ((kgt B2).1 e)),cond_false];by_cases A:d<B^16
  ·rw[qbx A];by_cases C:z.natAbs<B^16
   ·rw[qbx C];simp only[Bool.not_true,cond_false]
    have U:Nat.gcd z.natAbs d<B^64:=by have:=Nat.gcd_le_right z.natAbs (n:=d) (by omega);omega
    unfold cmpN;rw[if_pos ⟨kbr U,by decide +kernel⟩,ko B2];rw[show num B [1]=1 from by decide +kernel];unfold cmp;by_cases h1:Nat.gcd z.natAbs d<1
    ·rw[if_pos h1,qby (by decide),qby];intro h;omega
    ·rw[if_neg h1];by_cases F:Nat.gcd z.natAbs d=1
     ·rw[if_pos F,qbx rfl,qbx];exact⟨by omega,C,A,F⟩
     ·rw[if_neg F,qby (by decide),qby];exactλh=>F h.2.2.2
   ·rw[qby C];simp only[Bool.not_true,cond_false,Bool.not_false,cond_true];symm;rw[qbv];exactλh=>C h.2.1
  ·rw[qby A];simp only[Bool.not_false,cond_true];symm;rw[qbv];exactλh=>A h.2.2.1
theorem kgw{n:Nat}(h:n<B^16):n<B^64:=qbr h (Nat.pow_le_pow_right (by decide) (by decide))
theorem IsFrac.right{p:Bool}{xs ys:List Nat}{z:Int}{d:Nat}(f:IsFrac p xs ys z d):kbb p xs ys=true:=by obtain⟨rfl,rfl,rfl,h0,h1,A,C⟩:=f;rw[kxj (kgw h1) (kgw A),qbw];exact⟨h0,h1,A,C⟩
theorem IsFrac.of{p:Bool}{xs ys:List Nat}(F:∀x∈xs,x<B)(A:∀x∈ys,x<B)(h:kbb p xs ys=true):∃(z:Int)(d:Nat),IsFrac p xs ys z d:=by
 have h1:rtI p xs=true:=by
  cases e:rtI p xs with
  | true=>rfl
  | false =>unfold kbb at h;rw[e]at h;cases h
 have C:rt ys=true:=by
  cases e:rt ys with
  | true=>rfl
  | false =>unfold kbb at h;rw[e,h1]at h;cases h
 obtain⟨z,rfl,rfl,H⟩:=of_rtI F h1;have I:=kjn A C;have e:ys=digs B (num B ys):=(kfs B2 A (rt_iff.1 C).2).symm;rw[e,kxj H I,qbw]at h;exact⟨z,num B ys,rfl,rfl,e,h.1,h.2.1,h.2.2.1,h.2.2.2⟩
theorem mul16{a b:Nat}(A:a<B^16)(C:b<B^16):a*b<B^16*B^16:=Nat.mul_lt_mul'' A C
theorem B32_64:B^16*B^16*2<=B^64:=by decide +kernel
theorem kqx{p q:Bool}{xs ys us vs:List Nat}{z w:Int}{d e:Nat}(f:IsFrac p xs ys z d)(k:IsFrac q us vs w e):kf p xs ys q us vs=intD (z*(e:Int))/\(z*(e:Int)).natAbs<B^16*B^16:=by
 have A:(z*(e:Int)).natAbs<B^16*B^16:=by rw[Int.natAbs_mul,Int.natAbs_natCast];exact mul16 f.zlt k.dlt
 refine⟨?_,A⟩;unfold kf;rw[k.ys,kee (kgw k.dlt),f.p,f.xs];simp only[qcn,if_false];have C:=B32_64;rw[kkw (kgw f.zlt) (by simpa using kgw k.dlt),if_pos (by omega)]
theorem kwz{d e:Nat}(A:d<B^16)(C:e<B^16):mulN (digs B d) (digs B e)=(digs B (d*e),0):=by unfold mulN;rw[if_pos ⟨kbr (kgw A),kbr (kgw C)⟩,ko B2,ko B2,kpi];have:=mul16 A C;have:=B32_64;omega
theorem Add_of{p q:Bool}{xs ys us vs:List Nat}{z w:Int}{d e:Nat}(f:IsFrac p xs ys z d)(k:IsFrac q us vs w e):kc8 p xs ys q us vs=fracM (z*(e:Int)+w*(d:Int)) (d*e):=by unfold kc8 kc4 kc3;rw[f.right,k.right];obtain⟨A,b1⟩:=kqx f k;obtain⟨C,b2⟩:=kqx k f;have F:=B32_64;rw[A,C,k3p (by omega) (by omega),if_pos (by omega)];dsimp only[Bool.and_self,Bool.not_true,cond_false];have H:=mul16 f.dlt k.dlt;have I:=Nat.mul_pos f.pos k.pos;rw[f.ys,k.ys,kwz f.dlt k.dlt];dsimp only;rw[koi (by omega) (by omega) (by omega)];generalize fracM _ _=r;obtain⟨r1,r2,K,Q⟩:=r;rfl
theorem Sub_of{p q:Bool}{xs ys us vs:List Nat}{z w:Int}{d e:Nat}(f:IsFrac p xs ys z d)(k:IsFrac q us vs w e):kdi p xs ys q us vs=fracM (z*(e:Int)-w*(d:Int)) (d*e):=by unfold kdi kc9 kc3;rw[f.right,k.right];obtain⟨A,b1⟩:=kqx f k;obtain⟨C,b2⟩:=kqx k f;have F:=B32_64;rw[A,C,k6r (by omega) (by omega),if_pos (by omega)];dsimp only[Bool.and_self,Bool.not_true,cond_false];have H:=mul16 f.dlt k.dlt;have I:=Nat.mul_pos f.pos k.pos;rw[f.ys,k.ys,kwz f.dlt k.dlt];dsimp only;rw[koi (by omega) (by omega) (by omega)];generalize fracM _ _=r;obtain⟨r1,r2,K,Q⟩:=r;rfl
theorem k4o:kb4=kc8:=by funext p xs ys q us vs;unfold kb4 kc8 kc4 kc3;cases kbb p xs ys<;>cases kbb q us vs<;>rfl
theorem kbbl:kf4=kfz:=by funext p xs ys q us vs;unfold kf4 kfz;cases kbb p xs ys<;>cases kbb q us vs<;>rfl
theorem IsFrac.neg{q:Bool}{us vs:List Nat}{w:Int}{e:Nat}(k:IsFrac q us vs w e):IsFrac (negI q us).1 (negI q us).2 vs (-w) e:=by have:=k2j (kgw k.zlt);rw[k.p,k.xs,this];exact⟨rfl,rfl,k.ys,k.pos,by rw[Int.natAbs_neg];exact k.zlt,k.dlt,by rw[Int.natAbs_neg];exact k.co⟩
theorem k9x{p q:Bool}{xs ys us vs:List Nat}(C:∀x∈xs,x<B)(F:∀x∈ys,x<B)(H:∀x∈us,x<B)(I:∀x∈vs,x<B):kcz p xs ys q us vs=kdi p xs ys q us vs:=by
 cases h1:kbb p xs ys with
 | false =>
  unfold kcz kdi kc9 kc3;rw[h1];rfl
 | true =>
  cases A:kbb q us vs with
  | false =>
   unfold kcz kdi kc9 kc3;rw[h1,A];rfl
  | true =>obtain⟨z,d,f⟩:=IsFrac.of C F h1;obtain⟨w,e,k⟩:=IsFrac.of H I A;rw[Sub_of f k];unfold kcz;rw[h1,A,k4o,Add_of f k.neg,Int.neg_mul,<- Int.sub_eq_add_neg];rfl
theorem k8z{z:Int}{d:Nat}(Y:0<d)(h:(fracM z d).2.2.2=0):∃(w:Int)(e:Nat),fracM z d=((intD w).1,(intD w).2,digs B e,0)/\IsFrac (fracM z d).1 (fracM z d).2.1 (fracM z d).2.2.1 w e/\w*(d:Int)=z*(e:Int)/\∃g:Nat,0<g/\z=w*(g:Int)/\d=g*e:=by
 unfold fracM at h|-;have A:0<Nat.gcd z.natAbs d:=Nat.gcd_pos_of_pos_right _ Y;by_cases c:z.natAbs/Nat.gcd z.natAbs d<B^16/\d/Nat.gcd z.natAbs d<B^16
 ·rw[if_pos c];obtain⟨a,H⟩:=Nat.gcd_dvd_left z.natAbs d;obtain⟨b,F⟩:=Nat.gcd_dvd_right z.natAbs d;have I:z/(Nat.gcd z.natAbs d:Int)*(Nat.gcd z.natAbs d:Int)=z:=Int.ediv_mul_cancel (Int.ofNat_dvd_left.2 (Nat.gcd_dvd_left _ _))
  have K:z.natAbs/Nat.gcd z.natAbs d=a:=by have:=Nat.mul_div_cancel_left a A;rwa[<- H]at this
  have C:d/Nat.gcd z.natAbs d=b:=by have:=Nat.mul_div_cancel_left b A;rwa[<- F]at this
  rw[K,C]at c;rw[C]
  have U:(z/(Nat.gcd z.natAbs d:Int)).natAbs=a:=by
   have X:(z/(Nat.gcd z.natAbs d:Int)).natAbs*Nat.gcd z.natAbs d=Nat.gcd z.natAbs d*a:=by have:=congrArg Int.natAbs I;rw[Int.natAbs_mul,Int.natAbs_natCast]at this;rw[this];exact H
   rw[Nat.mul_comm]at X;exact Nat.eq_of_mul_eq_mul_left A X
  generalize z/(Nat.gcd z.natAbs d:Int)=w at *
  have Q:0<b:=by
   rcases Nat.eq_zero_or_pos b with e | e
   ·subst e;omega
   ·exact e
  have co:Nat.gcd a b=1:=by
   have Z:Nat.gcd z.natAbs d=Nat.gcd a b*Nat.gcd z.natAbs d:=by have:=Nat.gcd_mul_left (Nat.gcd z.natAbs d) a b;rw[<- H,<- F]at this;rw[Nat.mul_comm];exact this
   have:1*Nat.gcd z.natAbs d=Nat.gcd a b*Nat.gcd z.natAbs d:=by rw[Nat.one_mul];exact Z
   exact(Nat.eq_of_mul_eq_mul_right A this).symm
  refine⟨w,b,rfl,⟨rfl,rfl,rfl,Q,by rw[U];exact c.1,c.2,by rw[U];exact co⟩,?_,Nat.gcd z.natAbs d,A,I.symm,F⟩;have e1:(d:Int)=(Nat.gcd z.natAbs d:Int)*(b:Int):=by rw[<- Int.natCast_mul,<- F]
  rw[e1,<- Int.mul_assoc,I]
 ·rw[if_neg c]at h;cases h
theorem Add_no{p q:Bool}{xs ys us vs:List Nat}(h:(kbb p xs ys&&kbb q us vs)=false):kc8 p xs ys q us vs=(false,[],[],1):=by unfold kc8 kc4 kc3;rw[h];rfl
theorem kbee{p q:Bool}{xs ys us vs:List Nat}(A:∀x∈xs,x<B)(C:∀x∈ys,x<B)(F:∀x∈us,x<B)(H:∀x∈vs,x<B)(h:(kbb p xs ys&&kbb q us vs)=true) :
  ∃(z:Int)(d:Nat)(w:Int)(e:Nat),IsFrac p xs ys z d/\IsFrac q us vs w e:=by
 rw[qb9]at h;obtain⟨z,d,f⟩:=IsFrac.of A C h.1;obtain⟨w,e,k⟩:=IsFrac.of F H h.2;exact⟨z,d,w,e,f,k⟩
end Go.Ab
set_option maxRecDepth 10000
namespace Go.Ab
open IntKind (wrap)
open Go.Proofs Go.Num
def kbh(a1 a2:Int):Bool:=cond (decide (a1>=(-1099511627776))) (cond (decide (a1<=1099511627776)) (cond (decide (a2>=0)) (decide (a2<=1048576)) (false)) (false)) (false)
theorem km8{h:AH}   (a1 a2:Int):Runs (go (.fn kiu [.agg [.i a1,.i a2]]) h) λv h'=>v=.bool (kbh a1 a2)/\Grow h h':=by
 rw[kbi2];refine q0 λI b3 C=>?_;refine qz (qbf b3 0 rfl qcp) ?_;refine qbd (λA=>?_) (λA=>?_)
 ·refine qz (qbf b3 0 rfl qcp) ?_;refine qbd (λF=>?_) (λF=>?_)
  ·refine qz (qbf b3 1 rfl qcp) ?_;refine qbd (λH=>?_) (λH=>?_)
   ·refine qz (qbf b3 1 rfl qcp) ?_;have z:kbh a1 a2=decide (a2<=1048576):=by unfold kbh;exact(condT A).trans ((condT F).trans ((condT H).trans rfl))
    rw[z];exact qy ⟨rfl,C⟩
   ·have z:kbh a1 a2=false:=by unfold kbh;exact(condT A).trans ((condT F).trans ((condF H).trans rfl))
    rw[z];exact qy ⟨rfl,C⟩
  ·have z:kbh a1 a2=false:=by unfold kbh;exact(condT A).trans ((condF F).trans rfl)
   rw[z];exact qy ⟨rfl,C⟩
 ·have z:kbh a1 a2=false:=by unfold kbh;exact(condF A).trans rfl
  rw[z];exact qy ⟨rfl,C⟩
def kds(a1 a2:Int):Bool:=cond (decide (a1>=(-1099511627776))) (cond (decide (a1<=1099511627776)) (cond (decide (a2>=0)) (decide (a2<=1048576)) (false)) (false)) (false)
theorem kzj{h:AH}   (a1 a2:Int):Runs (go (.fn kf5 [.agg [.i a1,.i a2]]) h) λv h'=>v=.bool (kds a1 a2)/\Grow h h':=by
 rw[kbgl];refine q0 λI b3 C=>?_;refine qz (qbf b3 0 rfl qcp) ?_;refine qbd (λA=>?_) (λA=>?_)
 ·refine qz (qbf b3 0 rfl qcp) ?_;refine qbd (λF=>?_) (λF=>?_)
  ·refine qz (qbf b3 1 rfl qcp) ?_;refine qbd (λH=>?_) (λH=>?_)
   ·refine qz (qbf b3 1 rfl qcp) ?_;have z:kds a1 a2=decide (a2<=1048576):=by unfold kds;exact(condT A).trans ((condT F).trans ((condT H).trans rfl))
    rw[z];exact qy ⟨rfl,C⟩
   ·have z:kds a1 a2=false:=by unfold kds;exact(condT A).trans ((condT F).trans ((condF H).trans rfl))
    rw[z];exact qy ⟨rfl,C⟩
  ·have z:kds a1 a2=false:=by unfold kds;exact(condT A).trans ((condF F).trans rfl)
   rw[z];exact qy ⟨rfl,C⟩
 ·have z:kds a1 a2=false:=by unfold kds;exact(condF A).trans rfl
  rw[z];exact qy ⟨rfl,C⟩
def kbm(a1:Int):Bool:=cond (decide (a1>=1)) (decide (a1<=1048576)) (false)
theorem ks0{h:AH}   (a1:Int):Runs (go (.fn kob [.i a1]) h) λv h'=>v=.bool (kbm a1)/\Grow h h':=by
 rw[k9b];refine qbd (λA=>?_) (λA=>?_)
 ·have z:kbm a1=decide (a1<=1048576):=by unfold kbm;exact(condT A).trans rfl
  rw[z];exact qy ⟨rfl,(ql _)⟩
 ·have z:kbm a1=false:=by unfold kbm;exact(condF A).trans rfl
  rw[z];exact qy ⟨rfl,(ql _)⟩
def kba(a1 a2 a3 a4:Int):Int×Int×Bool:=cond (!((kbh a1 a2))) ((0,0,false)) (cond (!((kbh a3 a4))) ((0,0,false)) ((((wrap .i64 (a3-a1))),((wrap .i64 (a4-a2))),((kbh (wrap .i64 (a3-a1)) (wrap .i64 (a4-a2)))))))
theorem k7a{h:AH}   (a1 a2 a3 a4:Int):Runs (go (.fn kvq [.agg [.i a1,.i a2],.agg [.i a3,.i a4]]) h) λv h'=>v=.tup [.agg [.i (kba a1 a2 a3 a4).1,.i (kba a1 a2 a3 a4).2.1],.bool (kba a1 a2 a3 a4).2.2]/\Grow h h':=by
 rw[kbgf];refine q0 λH5 b5 Y=>?_;refine q0 λH6 b6 K=>?_;refine q0 λH7 b7 U=>?_;refine qz (qbf ((K.trans U).has b5) 0 rfl qcp) (qz (qbf ((K.trans U).has b5) 1 rfl qcp) ?_);obtain⟨_,H8,e8,rfl,H⟩:=km8 a1 a2;refine qz e8 (qz (seen rfl) ?_);refine qbd (λk9=>?_) (λk9=>?_)
 ·refine qba (H.has b7) rfl λal ag am=>?_;refine qz (qbf ag 0 rfl qcp) (qz (qbf ag 1 rfl qcp) ?_);have z:kba a1 a2 a3 a4=(0,0,false):=by unfold kba;exact(condT k9).trans rfl
  rw[z];have an:=((((Y.trans K).trans U).trans H).updr (qbq ((Y.trans K)).size (qbp _)) am);exact qy ⟨rfl,an⟩
 ·refine qz (qbf ((U.trans H).has b6) 0 rfl qcp) (qz (qbf ((U.trans H).has b6) 1 rfl qcp) ?_);obtain⟨_,al,ap,rfl,A⟩:=km8 a3 a4;refine qz ap (qz (seen rfl) ?_);refine qbd (λZ=>?_) (λZ=>?_)
  ·refine qba ((H.trans A).has b7) rfl λbd ah aq=>?_;refine qz (qbf ah 0 rfl qcp) (qz (qbf ah 1 rfl qcp) ?_);have z:kba a1 a2 a3 a4=(0,0,false):=by unfold kba;exact(condF k9).trans ((condT Z).trans rfl)
   rw[z];have ar:=(((((Y.trans K).trans U).trans H).trans A).updr (qbq ((Y.trans K)).size (qbp _)) aq);exact qy ⟨rfl,ar⟩
  ·have au:=((U.trans H).trans A);have C:=au.has b6;refine qz (qbf C 0 rfl qcp) ?_;have aw:=(((K.trans U).trans H).trans A);have F:=aw.has b5;refine qz (qbf F 0 rfl qcp) (qz (qbf C 1 rfl qcp) (qz (qbf F 1 rfl qcp) ?_));refine q0 λbe ax aa=>?_;refine qba ax rfl λbf I ac=>?_;refine qz (qbf I 0 rfl qcp) (qz (qbf I 1 rfl qcp) (qz (qbf I 0 rfl qcp) (qz (qbf I 1 rfl qcp) ?_)));obtain⟨_,bg,ay,rfl,Q⟩:=km8 (wrap .i64 (a3-a1)) (wrap .i64 (a4-a2));refine qz ay (qz (seen rfl) ?_);refine qbe (Q.same I 0 2) ?_;have az:=((((H.trans A).trans aa).updr (qbq ((H.trans A)).size (qbp _)) ac).trans Q);have ad:=az.has b7;refine qba ad rfl λbh ai X=>?_;have aj:=((aa.updr (qbp _) ac).trans Q);have ae:=aj.has F;have a0:=qx ae (Nat.ne_of_lt (qbr (K.has b5).lt (qbp _))) X;have af:=aj.has C;have ba:=qx af (Nat.ne_of_lt (qbr (b6).lt (qbp _))) X;have ak:=qx (Q.has I) (Nat.ne_of_gt (qbr ((H.trans A).has b7).lt (qbp _))) X;refine qz (qbf ai 0 rfl qcp) (qz (qbf ai 1 rfl qcp) ?_);have z:kba a1 a2 a3 a4=(((wrap .i64 (a3-a1))),((wrap .i64 (a4-a2))),((kbh (wrap .i64 (a3-a1)) (wrap .i64 (a4-a2))))):=by unfold kba;exact(condF k9).trans ((condF Z).trans rfl)
   rw[z];have bb:=((((Y.trans K).trans U).trans H).trans A);have bc:=((((((((Y.trans K).trans U).trans H).trans A).trans aa).updr (qbq (bb).size (qbp _)) ac).trans Q).updr (qbq ((Y.trans K)).size (qbp _)) X);exact qy ⟨rfl,bc⟩
theorem kbce:kds=kbh:=rfl
theorem knn{h:AH}   (a1 a2:Int):Runs (go (.fn kf5 [.agg [.i a1,.i a2]]) h) λv h'=>v=.bool (kbh a1 a2)/\Grow h h':=by rw[<- kbce];exact kzj a1 a2
def kfb(a1 a2 a3 a4:Int):Int×Int×Bool:=cond (!((kbh a1 a2))) ((0,0,false)) (cond (!((kbh a3 a4))) ((0,0,false)) ((((wrap .i64 (a3-a1))),((wrap .i64 (a4-a2))),((kbh (wrap .i64 (a3-a1)) (wrap .i64 (a4-a2)))))))
theorem kbjb{h:AH}   (a1 a2 a3 a4:Int):Runs (go (.fn klv [.agg [.i a1,.i a2],.agg [.i a3,.i a4]]) h) λv h'=>v=.tup [.agg [.i (kfb a1 a2 a3 a4).1,.i (kfb a1 a2 a3 a4).2.1],.bool (kfb a1 a2 a3 a4).2.2]/\Grow h h':=by
 rw[k5j];refine q0 λH5 b5 Z=>?_;refine q0 λH6 b6 I=>?_;refine q0 λH7 b7 U=>?_;refine qz (qbf ((I.trans U).has b5) 0 rfl qcp) (qz (qbf ((I.trans U).has b5) 1 rfl qcp) ?_);obtain⟨_,H8,e8,rfl,F⟩:=knn a1 a2;refine qz e8 (qz (seen rfl) (qz (qbf ((U.trans F).has b6) 0 rfl qcp) (qz (qbf ((U.trans F).has b6) 1 rfl qcp) ?_)));obtain⟨_,H9,e9,rfl,K⟩:=knn a3 a4;refine qz e9 (qz (seen rfl) ?_);refine qbd (λX=>?_) (λX=>?_)
 ·refine qba ((F.trans K).has b7) rfl λbb ai an=>?_;refine qz (qbf ai 0 rfl qcp) (qz (qbf ai 1 rfl qcp) ?_);have z:kfb a1 a2 a3 a4=(0,0,false):=by unfold kfb;exact(condT X).trans rfl
  rw[z];have aa:=(((((Z.trans I).trans U).trans F).trans K).updr (qbq ((Z.trans I)).size (qbp _)) an);exact qy ⟨rfl,aa⟩
 ·refine qbd (λac=>?_) (λac=>?_)
  ·refine qba ((F.trans K).has b7) rfl λbc aj ap=>?_;refine qz (qbf aj 0 rfl qcp) (qz (qbf aj 1 rfl qcp) ?_);have z:kfb a1 a2 a3 a4=(0,0,false):=by unfold kfb;exact(condF X).trans ((condT ac).trans rfl)
   rw[z];have aq:=(((((Z.trans I).trans U).trans F).trans K).updr (qbq ((Z.trans I)).size (qbp _)) ap);exact qy ⟨rfl,aq⟩
  ·have aa:=((U.trans F).trans K);have A:=aa.has b6;refine qz (qbf A 0 rfl qcp) ?_;have ar:=(((I.trans U).trans F).trans K);have C:=ar.has b5;refine qz (qbf C 0 rfl qcp) (qz (qbf A 1 rfl qcp) (qz (qbf C 1 rfl qcp) ?_));refine q0 λbd au ad=>?_;refine qba au rfl λbe H ae=>?_;refine qz (qbf H 0 rfl qcp) (qz (qbf H 1 rfl qcp) (qz (qbf H 0 rfl qcp) (qz (qbf H 1 rfl qcp) ?_)));obtain⟨_,bf,aw,rfl,Q⟩:=knn (wrap .i64 (a3-a1)) (wrap .i64 (a4-a2));refine qz aw (qz (seen rfl) ?_);refine qbe (Q.same H 0 2) ?_;have ax:=((((F.trans K).trans ad).updr (qbq ((F.trans K)).size (qbp _)) ae).trans Q);have af:=ax.has b7;refine qba af rfl λbg ak Y=>?_;have al:=((ad.updr (qbp _) ae).trans Q);have ag:=al.has C;have ay:=qx ag (Nat.ne_of_lt (qbr (I.has b5).lt (qbp _))) Y;have ah:=al.has A;have az:=qx ah (Nat.ne_of_lt (qbr (b6).lt (qbp _))) Y;have am:=qx (Q.has H) (Nat.ne_of_gt (qbr ((F.trans K).has b7).lt (qbp _))) Y;refine qz (qbf ak 0 rfl qcp) (qz (qbf ak 1 rfl qcp) ?_);have z:kfb a1 a2 a3 a4=(((wrap .i64 (a3-a1))),((wrap .i64 (a4-a2))),((kbh (wrap .i64 (a3-a1)) (wrap .i64 (a4-a2))))):=by unfold kfb;exact(condF X).trans ((condF ac).trans rfl)
   rw[z];have a0:=((((Z.trans I).trans U).trans F).trans K);have ba:=((((((((Z.trans I).trans U).trans F).trans K).trans ad).updr (qbq (a0).size (qbp _)) ae).trans Q).updr (qbq ((Z.trans I)).size (qbp _)) Y);exact qy ⟨rfl,ba⟩
theorem kbjt:kfb=kba:=rfl
theorem kw3{h:AH}   (a1 a2 a3 a4:Int):Runs (go (.fn klv [.agg [.i a1,.i a2],.agg [.i a3,.i a4]]) h) λv h'=>v=.tup [.agg [.i (kba a1 a2 a3 a4).1,.i (kba a1 a2 a3 a4).2.1],.bool (kba a1 a2 a3 a4).2.2]/\Grow h h':=by rw[<- kbjt];exact kbjb a1 a2 a3 a4
inductive kky
 | fn (a1:Int) (a2:Int) (a3:Int)
 | no
abbrev kik:=Bool×List Nat×List Nat×Int
noncomputable def kmw(a1 a2 a3:Int):Option (kky⊕kik):=cond (!((kbh a2 a3))) (some (.inr (false,[],[],1))) (cond (!((kbm a1))) (some (.inr (false,[],[],1))) ((need (-9223372036854775808<=(a2:Int)/\(a2:Int)<=9223372036854775807)).bind λC=>(u64P (wrap .u64 (wrap .i64 (a3+a1)))).bind λA=>some (.inr ((((kbd (((kx (((ofI a2).1)) ((ofI a2).2) (((ofI a2).1)) ((ofI a2).2)).1)) ((kx (((ofI a2).1)) ((ofI a2).2) (((ofI a2).1)) ((ofI a2).2)).2.1) (digs B A)).1)),(kbd (((kx (((ofI a2).1)) ((ofI a2).2) (((ofI a2).1)) ((ofI a2).2)).1)) ((kx (((ofI a2).1)) ((ofI a2).2) (((ofI a2).1)) ((ofI a2).2)).2.1) (digs B A)).2.1,(kbd (((kx (((ofI a2).1)) ((ofI a2).2) (((ofI a2).1)) ((ofI a2).2)).1)) ((kx (((ofI a2).1)) ((ofI a2).2) (((ofI a2).1)) ((ofI a2).2)).2.1) (digs B A)).2.2.1,((kbd (((kx (((ofI a2).1)) ((ofI a2).2) (((ofI a2).1)) ((ofI a2).2)).1)) ((kx (((ofI a2).1)) ((ofI a2).2) (((ofI a2).1)) ((ofI a2).2)).2.1) (digs B A)).2.2.2)))))
noncomputable def k06:kky->Option (kky⊕kik)
 | .fn a1 a2 a3=>kmw a1 a2 a3
 | .no=>none
@[reducible] def kyn(h0:AH)(r:kik)(v:AV)(h':AH):Prop:=∃s1:Sl,∃s2:Sl,v=.tup [.agg [.bool r.1,s1.v,s2.v],.i r.2.2.2]/\Nats h' s1 r.2.1/\Nats h' s2 r.2.2.1/\Grow h0 h'/\Own h0 s1/\Own h0 s2
def ksy(r:kik):kky->Prop
 | .fn a1 a2 a3=>∀{h:AH},Runs (go (.fn kp8 [.i a1,.agg [.i a2,.i a3]]) h) (kyn h r)
 | .no=>True
theorem k6u{r:kik}{o:kky⊕kik}{a1 a2 a3:Int}(e:kmw a1 a2 a3=some o)(aa:GoodS (ksy r) r o):ksy r (.fn a1 a2 a3):=by
 intro h;rw[k57];unfold kmw at e;refine q0 λH4 b4 g4=>?_;refine q0 λH5 b5 g5=>?_;refine qz (qbf (g5.has b4) 0 rfl qcp) (qz (qbf (g5.has b4) 1 rfl qcp) ?_);obtain⟨_,H6,e6,rfl,g6⟩:=km8 a2 a3;refine qz e6 (qz (seen rfl) ?_);refine qbd (λk7=>?_) (λk7=>?_)
 ·replace e:=(condT k7).symm.trans e;refine qba (g6.has b5) rfl λH8 b8 u8=>?_;refine qz (qbf b8 0 rfl rfl) (qz (qbf b8 1 rfl qco) (qz (qbf b8 2 rfl qco) ?_));cases e;cases aa;have G9:=(((g4.trans g5).trans g6).updr (qbq (g4).size (qbp _)) u8);exact qy ⟨(⟨none,0,.is 0⟩:Sl),(⟨none,0,.is 0⟩:Sl),rfl,(qw _),(qw _),G9,(qu _),(qu _)⟩
 ·replace e:=(condF k7).symm.trans e;obtain⟨_,H8,e8,rfl,g8⟩:=ks0 a1;refine qz e8 (qz (seen rfl) ?_);refine qbd (λk9=>?_) (λk9=>?_)
  ·replace e:=(condT k9).symm.trans e;refine qba ((g6.trans g8).has b5) rfl λcg am bh=>?_;refine qz (qbf am 0 rfl rfl) (qz (qbf am 1 rfl qco) (qz (qbf am 2 rfl qco) ?_));cases e;cases aa;have bi:=((((g4.trans g5).trans g6).trans g8).updr (qbq (g4).size (qbp _)) bh);exact qy ⟨(⟨none,0,.is 0⟩:Sl),(⟨none,0,.is 0⟩:Sl),rfl,(qw _),(qw _),bi,(qu _),(qu _)⟩
  ·replace e:=(condF k9).symm.trans e;have bj:=((g5.trans g6).trans g8);have ac:=bj.has b4;refine qz (qbf ac 0 rfl qcp) ?_;obtain⟨an,bk,e⟩:=qbu.1 e;obtain⟨ci,cj,bm,ap,K,bn⟩:=kqb a2  an.down;refine qz bm (qz rfl ?_);refine qbb rfl ?_;refine qz (seenAt rfl rfl) (qz (seenAt rfl qco) ?_);refine q0 λcl bp A=>?_;refine qba bp rfl λcm ad C=>?_;refine qz (qbf ad 0 rfl rfl) (qz (qbf ad 1 rfl qco) (qz (qbf ad 0 rfl rfl) (qz (qbf ad 1 rfl qco) ?_)));obtain⟨_,cp,bq,cu,rfl,br,F,bt⟩:=kt8 (ap.grow (A.updr (qbp _) C)) (ap.grow (A.updr (qbp _) C)) (((ofI a2).1)) (((ofI a2).1));refine qz bq (qz rfl (qz rfl ?_));refine qbb rfl ?_;refine qz (seenAt rfl rfl) (qz (seenAt rfl qco) (qz (seen qcp) ?_));refine q0 λcv bu U=>?_;refine qba bu rfl λcw ag X=>?_;refine qz (qbf ag 0 rfl rfl) (qz (qbf ag 1 rfl qco) ?_);have bv:=(((K.trans A).updr (qbq (K).size (qbp _)) C).trans F);have bw:=(((((K.trans A).updr (qbq (K).size (qbp _)) C).trans F).trans U).updr (qbq (bv).size (qbp _)) X);have ae:=bw.has ac;refine qz (qbf ae 1 rfl qcp) ?_;obtain⟨cx,bx,e⟩:=qbu.1 e;obtain⟨cy,cz,bz,ax,H,b0⟩:=kom bx;refine qz bz (qz (seen qco) ?_);refine qbe (H.same ag 0 2) ?_;have b1:=((U.updr (qbp _) X).trans H);have Y:=br.grow b1;obtain⟨_,c0,b2,b3,ay,rfl,b6,az,Q,a0,al⟩:=ks2 Y ax (((kx (((ofI a2).1)) ((ofI a2).2) (((ofI a2).1)) ((ofI a2).2)).1));refine qz b2 (qz rfl (qz rfl ?_));refine qbb rfl ?_;refine qz (seenAt rfl rfl) (qz (seenAt rfl qco) (qz (seenAt rfl qco) (qz (seen qcp) ?_)));have Z:=((g6.trans g8).trans K);have ah:=(((Z.trans A).updr (qbq (Z).size (qbp _)) C).trans F);have b7:=(((((((((g6.trans g8).trans K).trans A).updr (qbq (Z).size (qbp _)) C).trans F).trans U).updr (qbq (ah).size (qbp _)) X).trans H).trans Q);have aq:=b7.has b5;refine qba aq rfl λc1 ar I=>?_;have b9:=((A.updr (qbp _) C).trans F);have ca:=((((((A.updr (qbp _) C).trans F).trans U).updr (qbq (b9).size (qbp _)) X).trans H).trans Q);have ai:=ap.grow ca;have bc:=ai.upda (qbj bn ((g6.trans g8).has b5).lt) I;have cb:=((Z.trans A).updr (qbq (Z).size (qbp _)) C);have bd:=(Y.grow Q).upda (qbj bt (cb.has b5).lt) I;have ba:=((ah.trans U).updr (qbq (ah).size (qbp _)) X);have be:=(ax.grow Q).upda (qbj b0 (ba.has b5).lt) I;have bb:=(ba.trans H);have aj:=b6.upda (qbj a0 (bb.has b5).lt) I;have af:=az.upda (qbj al (bb.has b5).lt) I;have cc:=qx ((H.trans Q).has ae) (Nat.ne_of_lt (qbr (b4).lt (qbp _))) I;have cd:=((((F.trans U).updr (qbq (F).size (qbp _)) X).trans H).trans Q);have ak:=cd.has ad;have bf:=qx ak (Nat.ne_of_gt (qbr (Z.has b5).lt (qbp _))) I;have bg:=qx ((H.trans Q).has ag) (Nat.ne_of_gt (qbr (ah.has b5).lt (qbp _))) I;refine qz (qbf ar 0 rfl rfl) (qz (qbf ar 1 rfl qco) (qz (qbf ar 2 rfl qco) ?_));cases e;cases aa;have au:=((((g4.trans g5).trans g6).trans g8).trans K);have ce:=(((au.trans A).updr (qbq (au).size (qbp _)) C).trans F);have aw:=((((((((((g4.trans g5).trans g6).trans g8).trans K).trans A).updr (qbq (au).size (qbp _)) C).trans F).trans U).updr (qbq (ce).size (qbp _)) X).trans H);have cf:=((aw.trans Q).updr (qbq (g4).size (qbp _)) I);exact qy ⟨b3,ay,rfl,aj,af,cf,(a0.of_le aw),(al.of_le aw)⟩
theorem kbd9{s:kky}{r:kik}(C:Iter k06 s r):ksy r s:=qbg (λs o e A=>by
 cases s with
 | fn a1 a2 a3=>exact @k6u _ _ a1 a2 a3 e A
 | no=>exact True.intro
 ) C
inductive kld
 | fn (a1:Int) (a2:Int) (a3:Int)
 | no
abbrev khx:=Bool×List Nat×List Nat×Int
noncomputable def km4(a1 a2 a3:Int):Option (kld⊕khx):=cond (!((kbh a2 a3))) (some (.inr (false,[],[],1))) (cond (decide (a1<1)) (some (.inr (false,[],[],1))) (cond (decide (a1>1048576)) (some (.inr (false,[],[],1))) ((need (-9223372036854775808<=(a2:Int)/\(a2:Int)<=9223372036854775807)).bind λA=>(need (-9223372036854775808<=((wrap .i64 (a3+a1)):Int)/\((wrap .i64 (a3+a1)):Int)<=9223372036854775807)).bind λC=>some (.inr ((((kbd (((kx (((ofI a2).1)) ((ofI a2).2) (((ofI a2).1)) ((ofI a2).2)).1)) ((kx (((ofI a2).1)) ((ofI a2).2) (((ofI a2).1)) ((ofI a2).2)).2.1) ((ofI (wrap .i64 (a3+a1))).2)).1)),(kbd (((kx (((ofI a2).1)) ((ofI a2).2) (((ofI a2).1)) ((ofI a2).2)).1)) ((kx (((ofI a2).1)) ((ofI a2).2) (((ofI a2).1)) ((ofI a2).2)).2.1) ((ofI (wrap .i64 (a3+a1))).2)).2.1,(kbd (((kx (((ofI a2).1)) ((ofI a2).2) (((ofI a2).1)) ((ofI a2).2)).1)) ((kx (((ofI a2).1)) ((ofI a2).2) (((ofI a2).1)) ((ofI a2).2)).2.1) ((ofI (wrap .i64 (a3+a1))).2)).2.2.1,((kbd (((kx (((ofI a2).1)) ((ofI a2).2) (((ofI a2).1)) ((ofI a2).2)).1)) ((kx (((ofI a2).1)) ((ofI a2).2) (((ofI a2).1)) ((ofI a2).2)).2.1) ((ofI (wrap .i64 (a3+a1))).2)).2.2.2))))))
noncomputable def k2o:kld->Option (kld⊕khx)
 | .fn a1 a2 a3=>km4 a1 a2 a3
 | .no=>none
@[reducible] def k2u(h0:AH)(r:khx)(v:AV)(h':AH):Prop:=∃s1:Sl,∃s2:Sl,v=.tup [.agg [.bool r.1,s1.v,s2.v],.i r.2.2.2]/\Nats h' s1 r.2.1/\Nats h' s2 r.2.2.1/\Grow h0 h'/\Own h0 s1/\Own h0 s2
def kt0(r:khx):kld->Prop
 | .fn a1 a2 a3=>∀{h:AH},Runs (go (.fn kk7 [.i a1,.agg [.i a2,.i a3]]) h) (k2u h r)
 | .no=>True
theorem kbmh{r:khx}{o:kld⊕khx}{a1 a2 a3:Int}(e:km4 a1 a2 a3=some o)(Z:GoodS (kt0 r) r o):kt0 r (.fn a1 a2 a3):=by
 intro h;rw[kbih];unfold km4 at e;refine q0 λH4 b4 g4=>?_;refine q0 λH5 b5 g5=>?_;refine qz (qbf (g5.has b4) 0 rfl qcp) (qz (qbf (g5.has b4) 1 rfl qcp) ?_);obtain⟨_,H6,e6,rfl,I⟩:=knn a2 a3;refine qz e6 (qz (seen rfl) ?_);refine qbd (λk7=>?_) (λk7=>?_)
 ·replace e:=(condT k7).symm.trans e;refine qba (I.has b5) rfl λH8 b8 u8=>?_;refine qz (qbf b8 0 rfl rfl) (qz (qbf b8 1 rfl qco) (qz (qbf b8 2 rfl qco) ?_));cases e;cases Z;have G9:=(((g4.trans g5).trans I).updr (qbq (g4).size (qbp _)) u8);exact qy ⟨(⟨none,0,.is 0⟩:Sl),(⟨none,0,.is 0⟩:Sl),rfl,(qw _),(qw _),G9,(qu _),(qu _)⟩
 ·replace e:=(condF k7).symm.trans e;refine qbd (λk8=>?_) (λk8=>?_)
  ·replace e:=(condT k8).symm.trans e;refine qba (I.has b5) rfl λH9 b9 u9=>?_;refine qz (qbf b9 0 rfl rfl) (qz (qbf b9 1 rfl qco) (qz (qbf b9 2 rfl qco) ?_));cases e;cases Z;have bi:=(((g4.trans g5).trans I).updr (qbq (g4).size (qbp _)) u9);exact qy ⟨(⟨none,0,.is 0⟩:Sl),(⟨none,0,.is 0⟩:Sl),rfl,(qw _),(qw _),bi,(qu _),(qu _)⟩
  ·replace e:=(condF k8).symm.trans e;refine qbd (λk9=>?_) (λk9=>?_)
   ·replace e:=(condT k9).symm.trans e;refine qba (I.has b5) rfl λbj al bk=>?_;refine qz (qbf al 0 rfl rfl) (qz (qbf al 1 rfl qco) (qz (qbf al 2 rfl qco) ?_));cases e;cases Z;have bm:=(((g4.trans g5).trans I).updr (qbq (g4).size (qbp _)) bk);exact qy ⟨(⟨none,0,.is 0⟩:Sl),(⟨none,0,.is 0⟩:Sl),rfl,(qw _),(qw _),bm,(qu _),(qu _)⟩
   ·replace e:=(condF k9).symm.trans e;refine qz (qbf ((g5.trans I).has b4) 0 rfl qcp) ?_;obtain⟨am,bn,e⟩:=qbu.1 e;obtain⟨cl,bj,bp,an,A,bq⟩:=kho a2  am.down;refine qz bp (qz rfl ?_);refine qbb rfl ?_;refine qz (seenAt rfl rfl) (qz (seenAt rfl qco) ?_);refine q0 λcm br C=>?_;refine qba br rfl λcp ac F=>?_;refine qz (qbf ac 0 rfl rfl) (qz (qbf ac 1 rfl qco) (qz (qbf ac 0 rfl rfl) (qz (qbf ac 1 rfl qco) ?_)));obtain⟨_,cu,bt,cv,rfl,bu,H,bv⟩:=kr2 (an.grow (C.updr (qbp _) F)) (an.grow (C.updr (qbp _) F)) (((ofI a2).1)) (((ofI a2).1));refine qz bt (qz rfl (qz rfl ?_));refine qbb rfl ?_;refine qz (seenAt rfl rfl) (qz (seenAt rfl qco) (qz (seen qcp) ?_));refine q0 λcw bw X=>?_;refine qba bw rfl λcx af Y=>?_;refine qz (qbf af 0 rfl rfl) (qz (qbf af 1 rfl qco) ?_);have ap:=((g5.trans I).trans A);have bx:=(((ap.trans C).updr (qbq (ap).size (qbp _)) F).trans H);have bz:=(((((((g5.trans I).trans A).trans C).updr (qbq (ap).size (qbp _)) F).trans H).trans X).updr (qbq (bx).size (qbp _)) Y);have ad:=bz.has b4;refine qz (qbf ad 1 rfl qcp) ?_;obtain⟨aq,b0,e⟩:=qbu.1 e;obtain⟨cy,cz,b1,ay,K,b2⟩:=kho (wrap .i64 (a3+a1))  aq.down;refine qz b1 (qz rfl ?_);refine qbb rfl ?_;refine qz (seenAt rfl rfl) (qz (seenAt rfl qco) ?_);refine qbe (K.same af 0 2) ?_;have b3:=((X.updr (qbp _) Y).trans K);have aa:=bu.grow b3;obtain⟨_,c0,b6,b7,az,rfl,ca,a0,U,ba,ak⟩:=kuc aa ay (((kx (((ofI a2).1)) ((ofI a2).2) (((ofI a2).1)) ((ofI a2).2)).1));refine qz b6 (qz rfl (qz rfl ?_));refine qbb rfl ?_;refine qz (seenAt rfl rfl) (qz (seenAt rfl qco) (qz (seenAt rfl qco) (qz (seen qcp) ?_)));have ag:=((((I.trans A).trans C).updr (qbq ((I.trans A)).size (qbp _)) F).trans H);have cb:=((((((((I.trans A).trans C).updr (qbq ((I.trans A)).size (qbp _)) F).trans H).trans X).updr (qbq (ag).size (qbp _)) Y).trans K).trans U);have ar:=cb.has b5;refine qba ar rfl λc1 au Q=>?_;have cc:=((C.updr (qbp _) F).trans H);have cd:=((((((C.updr (qbp _) F).trans H).trans X).updr (qbq (cc).size (qbp _)) Y).trans K).trans U);have ah:=an.grow cd;have bd:=ah.upda (qbj bq (I.has b5).lt) Q;have ce:=(((I.trans A).trans C).updr (qbq ((I.trans A)).size (qbp _)) F);have be:=(aa.grow U).upda (qbj bv (ce.has b5).lt) Q;have bb:=((ag.trans X).updr (qbq (ag).size (qbp _)) Y);have bf:=(ay.grow U).upda (qbj b2 (bb.has b5).lt) Q;have bc:=(bb.trans K);have ai:=ca.upda (qbj ba (bc.has b5).lt) Q;have ae:=a0.upda (qbj ak (bc.has b5).lt) Q;have cf:=qx ((K.trans U).has ad) (Nat.ne_of_lt (qbr (b4).lt (qbp _))) Q;have cg:=((((H.trans X).updr (qbq (H).size (qbp _)) Y).trans K).trans U);have aj:=cg.has ac;have bg:=qx aj (Nat.ne_of_gt (qbr ((I.trans A).has b5).lt (qbp _))) Q;have bh:=qx ((K.trans U).has af) (Nat.ne_of_gt (qbr (ag.has b5).lt (qbp _))) Q;refine qz (qbf au 0 rfl rfl) (qz (qbf au 1 rfl qco) (qz (qbf au 2 rfl qco) ?_));cases e;cases Z;have aw:=(((g4.trans g5).trans I).trans A);have ci:=(((aw.trans C).updr (qbq (aw).size (qbp _)) F).trans H);have ax:=(((((((((g4.trans g5).trans I).trans A).trans C).updr (qbq (aw).size (qbp _)) F).trans H).trans X).updr (qbq (ci).size (qbp _)) Y).trans K);have cj:=((ax.trans U).updr (qbq (g4).size (qbp _)) Q);exact qy ⟨b7,az,rfl,ai,ae,cj,(ba.of_le ax),(ak.of_le ax)⟩
theorem kbfq{s:kld}{r:khx}(C:Iter k2o s r):kt0 r s:=qbg (λs o e A=>by
 cases s with
 | fn a1 a2 a3=>exact @kbmh _ _ a1 a2 a3 e A
 | no=>exact True.intro
 ) C
end Go.Ab
set_option maxRecDepth 10000
namespace Go.Ab
open Go.Proofs Go.Num
theorem kns{g n:Int}:kbh g n=true↔-1099511627776<=g/\g<=1099511627776/\0<=n/\n<=1048576:=by unfold kbh;by_cases h1:g>=-1099511627776<;>by_cases A:g<=1099511627776<;>by_cases C:n>=0<;>by_cases F:n<=1048576<;>simp[h1,A,C,F]
theorem kkz{l:Int}:kbm l=true↔1<=l/\l<=1048576:=by unfold kbm;by_cases h1:l>=1<;>by_cases A:l<=1048576<;>simp[h1,A]
def scoreF(l g n:Int):Bool×List Nat×List Nat×Int:=if kbh g n=true/\kbm l=true then fracM (g*g) (n+l).toNat else(false,[],[],1)
theorem sq_lt{g:Int}(h1:-1099511627776<=g)(A:g<=1099511627776):(g*g).natAbs<=1099511627776*1099511627776:=by rw[Int.natAbs_mul];exact Nat.mul_le_mul (by omega) (by omega)
theorem kbke(l g n:Int):Iter k06 (.fn l g n) (scoreF l g n):=.done (by
 show kmw _ _ _=_;unfold kmw scoreF;cases h1:kbh g n with
 | false=>rfl
 | true =>
  cases A:kbm l with
  | false=>rfl
  | true =>
   obtain⟨a1,a2,a3,a4⟩:=kns.1 h1;obtain⟨b1,b2⟩:=kkz.1 A;have C:=kg2;have F:=sq_lt a1 a2;rw[if_pos ⟨rfl,rfl⟩,kq ⟨by omega,by omega⟩,kfv (by omega),kkw (by omega) (by omega),if_pos (by omega),wrap64 (by omega) (by omega),wrapU,Int.emod_eq_of_lt (by omega) (by omega)];have e:n+l=(((n+l).toNat:Nat):Int):=by omega
   rw[show u64P (n+l)=some (n+l).toNat from by rw[e];exact kbt (by omega)];simp only[Bool.not_true,cond_false,qbt];rw[koi (by omega) (by omega) (by omega)])
theorem k6b(l g n:Int):Iter k2o (.fn l g n) (scoreF l g n):=.done (by
 show km4 _ _ _=_;unfold km4 scoreF;cases h1:kbh g n with
 | false=>rfl
 | true =>
  cases A:kbm l with
  | false =>
   rw[if_neg (by simp)];have A:¬(1<=l/\l<=1048576):=λe=>by rw[kkz.2 e]at A;cases A
   simp only[Bool.not_true,cond_false];refine kft (λ_=>rfl) λC=>?_;rw[qbv]at C;rw[condT (by rw[qbw];omega)]
  | true =>
   obtain⟨a1,a2,a3,a4⟩:=kns.1 h1;obtain⟨b1,b2⟩:=kkz.1 A;have F:=kg2;have H:=sq_lt a1 a2;have w:=wrap64 (n:=n+l) (by omega) (by omega);rw[if_pos ⟨rfl,rfl⟩,w,kq ⟨by omega,by omega⟩,kq ⟨by omega,by omega⟩,kfv (by omega),kfv (by omega),kkw (by omega) (by omega),if_pos (by omega),qby (by omega),qby (by omega)];simp only[Bool.not_true,cond_false,qbt]
   have e:(intD (n+l)).2=digs B (n+l).toNat:=by show digs B (n+l).natAbs=_;rw[show(n+l).natAbs=(n+l).toNat from by omega]
   rw[e,koi (by omega) (by omega) (by omega)])
theorem ksw{h:AH}(l g n:Int):Runs (go (.fn kp8 [.i l,.agg [.i g,.i n]]) h) (kyn h (scoreF l g n)):=kbd9 (kbke l g n)
theorem kt5{h:AH}(l g n:Int):Runs (go (.fn kk7 [.i l,.agg [.i g,.i n]]) h) (k2u h (scoreF l g n)):=kbfq (k6b l g n)
end Go.Ab
