/- Words and laws that the last text joins. -/
import Derived.Test.YtgfeahhgoiidiaaGreatDoorPS10
import Derived.Test.YtgfeahhgoiidiaaGreatDoorPU1b
import Derived.Test.YtgfeahhgoiidiaaGreatDoorPAbsDra
import Derived.Test.YtgfeahhgoiidiaaGreatDoorPAbsT
set_option linter.unusedVariables false
set_option linter.unusedSimpArgs false
set_option linter.unusedSectionVars false
set_option maxRecDepth 10000
namespace Go.Ab
open Go.Proofs Go.Num
theorem kji{s:Nat}(hs:s≤64):2^(64-s)*2^s=18446744073709551616:=by rw[← Nat.pow_add,show 64-s+s=64 from by omega]
theorem k4a{s:Nat}(hs:s≤64)(t:List Nat):num B t%2^s=t.getD 0 0%2^s:=by
 cases t with
 | nil=>rfl
 | cons x t =>
  show(x+B*num B t)%2^s=x%2^s
  have e:B*num B t=2^s*(2^(64-s)*num B t):=by
   rw[← Nat.mul_assoc,Nat.mul_comm (2^s),kji hs]
  rw[e,Nat.add_mul_mod_self_left]
theorem k5u{s x:Nat}(hs:s≤64)(t:List Nat):(x+B*num B t)/2^s=(t.getD 0 0%2^s*2^(64-s)+x/2^s)+B*(num B t/2^s):=by
 have p:0<2^s:=Nat.pow_pos (by decide);have hm:=k4a hs t;have dm:=Nat.div_add_mod (num B t) (2^s);rw[hm]at dm;generalize t.getD 0 0%2^s=z at *
 generalize num B t/2^s=q at *
 have e:x+B*num B t=x+2^s*(B*q+2^(64-s)*z):=by
  rw[← dm,Nat.mul_add,Nat.mul_add,Nat.mul_left_comm B,← Nat.mul_assoc (2^s) (2^(64-s)),Nat.mul_comm (2^s) (2^(64-s)),kji hs]
 rw[e,Nat.add_mul_div_left _ _ p,Nat.mul_comm (2^(64-s))];omega
theorem k38{s x z:Nat}(hs:s≤64)(hx:x<18446744073709551616):z%2^s*2^(64-s)+x/2^s<18446744073709551616∧x/2^s<2^(64-s)∧z%2^s*2^(64-s)<18446744073709551616:=by
 have p:0<2^s:=Nat.pow_pos (by decide);have e:=kji hs;have h1:x/2^s<2^(64-s):=by rw[Nat.div_lt_iff_lt_mul p,e];exact hx
 have h2:=Nat.mul_le_mul_right (2^(64-s)) (Nat.mod_lt z p);rw[Nat.mul_comm (2^s),e,Nat.succ_mul]at h2;generalize x/2^s=f at *
 omega
theorem klj{q L:List Nat}{s:Nat}(lL:∀x∈L,x<B)(hs:s≤63)(hl:L.length≤8796093022208) :
  ∀(d i:Nat)(o:List Nat),i+d=L.length→o.length=L.length→num B (o.take i)+B^i*(num B (L.drop i)/2^s)=num B L/2^s→
   Iter kh7 (.p18 s q L o L.length i) (digs B (num B q),digs B (num B L/2^s))
 | 0,i,o,hi,lo,e=>by
  have hi:i=L.length:=by omega
  subst hi;refine .done ?_;show kdv _ _ _ _ _ _=_;unfold kdv;rw[condF (by rw[decide_eq_false_iff_not];omega)];rw[List.take_of_length_le (by omega),List.drop_of_length_le (by omega)]at e;simp only[num,Nat.zero_div,Nat.mul_zero,Nat.add_zero]at e;rw[e]
 | d+1,i,o,hi,lo,e=>by
  have hi':i<L.length:=by omega
  have hio:i<o.length:=by omega
  have hx:L[i]<18446744073709551616:=lL L[i] (List.getElem_mem _);obtain⟨w1,w2,w3⟩:=k38 (z:=(L.drop (i+1)).getD 0 0) (show s≤64 by omega) hx;have hg:(L.drop (i+1)).getD 0 0=L.getD (i+1) 0:=by simp[List.getD]
  have inv:∀w,w=(L.drop (i+1)).getD 0 0%2^s*2^(64-s)+L[i]/2^s→num B ((o.set i w).take (i+1))+B^(i+1)*(num B (L.drop (i+1))/2^s)=num B L/2^s:=by
   intro w hw;rw[List.drop_eq_getElem_cons hi']at e;simp only[num]at e;rw[k5u (by omega),← hw]at e;rw[kcv B (by simpa using hio),List.getElem_set_self,List.take_set_of_le (Nat.le_refl i),Nat.pow_succ,Nat.mul_assoc];rw[Nat.mul_add]at e;omega
  have sr:ishr .u64 (L[i]:Int) (s:Int)=((L[i]/2^s:Nat):Int):=by rw[kcd,Nat.min_eq_left (by omega)]
  have hL0:L[i]/2^s<18446744073709551616:=Nat.lt_of_le_of_lt (Nat.div_le_self _ _) hx;by_cases hs0:s=0
  ·subst hs0;refine .next (s':=.p18 ((0:Nat):Int) q L (o.set i (L[i]/2^0)) L.length ((i+1:Nat):Int)) ?_ (klj lL hs hl d (i+1) _ (by omega) (by simpa using lo) (inv _ (by rw[Nat.pow_zero,Nat.mod_one];omega)));show kdv _ _ _ _ _ _=_;unfold kdv;rw[condT (by rw[decide_eq_true_eq];omega),kck hi',Option.bind_some,condF (by rfl),kbb hio,Option.bind_some,sr,kbr hL0,Option.bind_some,condF (by rfl),ko (by omega)]
  by_cases hl1:i+1<L.length
  ·have hg':L.getD (i+1) 0=L[i+1]:=kdt hl1;rw[hg,hg']at w1 w3 inv;refine .next (s':=.p18 s q L (o.set i (L[i+1]%2^s*2^(64-s)+L[i]/2^s)) L.length ((i+1:Nat):Int)) ?_ (klj lL hs hl d (i+1) _ (by omega) (by simpa using lo) (inv _ rfl));show kdv _ _ _ _ _ _=_;unfold kdv;have w64:IntKind.wrap .u64 (64-(s:Int))=((64-s:Nat):Int):=by rw[wrapU];omega
   have sl:ishl .u64 (L[i+1]:Int) ((64-s:Nat):Int)=((L[i+1]%2^s*2^(64-s):Nat):Int):=by
    rw[kjv _ _ (by omega)];congr 1;rw[← kji (show s≤64 by omega),Nat.mul_comm (2^(64-s)) (2^s),Nat.mul_mod_mul_right]
   have io:ior .u64 ((L[i]/2^s:Nat):Int) ((L[i+1]%2^s*2^(64-s):Nat):Int)=((L[i+1]%2^s*2^(64-s)+L[i]/2^s:Nat):Int):=by rw[ktg,kpp w3 w2 (by omega)]
   have hio2:i<(o.set i (L[i]/2^s)).length:=by simpa using hio
   rw[condT (by rw[decide_eq_true_eq];omega),kck hi',Option.bind_some,condF (by rw[decide_eq_false_iff_not];omega),kbb hio,Option.bind_some,sr,kbr hL0,Option.bind_some,condT (by rw[decide_eq_true_eq];omega),ko (by omega),condT (by rw[decide_eq_true_eq];omega),Option.bind_some,kck hl1,Option.bind_some,w64,condF (by rw[decide_eq_false_iff_not];omega),Option.bind_some,kdt hio2,List.getElem_set_self,sl,io,kbr w1,Option.bind_some,List.set_set]
  ·have hg':L.getD (i+1) 0=0:=by simp[List.getD,List.getElem?_eq_none (Nat.le_of_not_lt hl1)]
   rw[hg,hg']at inv;refine .next (s':=.p18 s q L (o.set i (L[i]/2^s)) L.length ((i+1:Nat):Int)) ?_ (klj lL hs hl d (i+1) _ (by omega) (by simpa using lo) (inv _ (by rw[Nat.zero_mod];omega)));show kdv _ _ _ _ _ _=_;unfold kdv;rw[condT (by rw[decide_eq_true_eq];omega),kck hi',Option.bind_some,condF (by rw[decide_eq_false_iff_not];omega),kbb hio,Option.bind_some,sr,kbr hL0,Option.bind_some,condT (by rw[decide_eq_true_eq];omega),ko (by omega),condF (by rw[decide_eq_false_iff_not];omega)]
theorem cmp_ge{a b:Nat}:cmp a b≥0↔b≤a:=by
 unfold cmp;by_cases h:a<b
 ·rw[if_pos h];omega
 ·rw[if_neg h];by_cases h2:a=b
  ·rw[if_pos h2];omega
  ·rw[if_neg h2];omega
theorem k7a{xs ys:List Nat}{lo n:Nat}(h:lo+n≤xs.length)(hy:ys.length=n):setW xs lo n ys=some (xs.take lo++ys++xs.drop (lo+n)):=by
 unfold setW;rw[if_pos ⟨h,hy⟩]
theorem kvi{s:Int}{r d q:List Nat}{j:Nat}{res:kcc}(hr:∀x∈r,x<B)(hd:∀x∈d,x<B)(hj:j<q.length)(hw:j+(d.length+1)≤r.length)(hrl:r.length≤1073741823)(hql:q.length≤1073741823)(hd0:0<num B d)
  (K:Iter kh7 (.p6 s (r.take j++padD B (d.length+1) (num B ((r.drop j).take (d.length+1))%num B d)++r.drop (j+(d.length+1))) d d.length (q.set j (num B ((r.drop j).take (d.length+1))/num B d)) ((j:Int)-1)) res) :
  ∀g:Nat,g<18446744073709551616→num B ((r.drop j).take (d.length+1))/num B d≤g→Iter kh7 (.p10 s r d d.length q j g (j,d.length+1)) res
 | g,hg,hge=>by
  have lw:((r.drop j).take (d.length+1)).length=d.length+1:=by simp;omega
  have tw:∀x∈(r.drop j).take (d.length+1),x<B:=fun x hx=>hr x (List.mem_of_mem_drop (List.mem_of_mem_take hx));have hP:=num_lt B1 tw;rw[lw]at hP
  have lg:(digs B g).length≤1:=by
   rw[kbs B2,Nat.pow_one];exact hg
  by_cases hc:num B d*g≤num B ((r.drop j).take (d.length+1))
  ·have hq:num B ((r.drop j).take (d.length+1))/num B d=g:=Nat.le_antisymm hge (by rw[Nat.le_div_iff_mul_le hd0,Nat.mul_comm];exact hc)
   have hm:num B ((r.drop j).take (d.length+1))-num B d*g=num B ((r.drop j).take (d.length+1))%num B d:=by
    have:=Nat.div_add_mod (num B ((r.drop j).take (d.length+1))) (num B d);rw[hq]at this;omega
   rw[hq]at K;refine .next ?_ K;show kgk _ _ _ _ _ _ _ _=_;unfold kgk
   have lp:(digs B (num B d*g)).length≤d.length+1:=by
    rw[kbs B2];omega
   rw[kbr hg,Option.bind_some,kbq (by omega),Option.bind_some,kbq (by rw[lw];omega),Option.bind_some,kbq (khv B2 _),Option.bind_some,kbq (khv B2 _),Option.bind_some];dsimp only;rw[kw B2,kw B2,kw B2,condT (by rw[decide_eq_true_eq,cmp_ge];exact hc),kbq (by rw[lw];exact⟨by omega,lp,hc⟩),Option.bind_some,lw,hm,k7a (by omega) (kra _ _ _),Option.bind_some,kbb hj,Option.bind_some,Option.bind_some,wrap64 (by omega) (by omega)]
  ·obtain⟨p,rfl⟩:∃p,g=p+1:=⟨g-1,by
    rcases Nat.eq_zero_or_pos g with e | e
    ·subst e;rw[Nat.mul_zero]at hc;omega
    ·omega⟩
   have hlt:num B ((r.drop j).take (d.length+1))/num B d<p+1:=by
    rw[Nat.div_lt_iff_lt_mul hd0,Nat.mul_comm];omega
   refine .next (s':=.p10 s r d d.length q j p (j,d.length+1)) ?_ (kvi hr hd hj hw hrl hql hd0 K p (by omega) (by omega));show kgk _ _ _ _ _ _ _ _=_;unfold kgk;rw[kbr hg,Option.bind_some,kbq (by omega),Option.bind_some,kbq (by rw[lw];omega),Option.bind_some,kbq (khv B2 _),Option.bind_some,kbq (khv B2 _),Option.bind_some];dsimp only;rw[kw B2,kw B2,kw B2,condF (by rw[decide_eq_false_iff_not,cmp_ge];exact hc),show IntKind.wrap .u64 (((p+1:Nat):Int)-1)=(p:Int)from by rw[wrapU];omega]
termination_by g=>g
theorem k5p{b:Nat}{zs:List Nat}{n:Nat}(h:zs.length=n+2):num b zs=num b (zs.take n)+b^n*(zs[n+1]*b+zs[n]):=by
 have e:num b zs=num b (zs.take (n+1+1)):=by rw[List.take_of_length_le (by omega)]
 rw[e,kcv b (by omega),kcv b (by omega),Nat.pow_succ,Nat.mul_add,Nat.mul_assoc,Nat.mul_comm b];omega
theorem kbch{b:Nat}{zs:List Nat}{n:Nat}(h:zs.length=n+3):num b zs=num b (zs.take n)+b^n*((zs[n+2]*b+zs[n+1])*b+zs[n]):=by
 have e:num b zs=num b (zs.take (n+1+1+1)):=by rw[List.take_of_length_le (by omega)]
 rw[e,kcv b (by omega),kcv b (by omega),kcv b (by omega)];have e1:b^(n+1)*zs[n+1]=b^n*(zs[n+1]*b):=by rw[Nat.pow_succ,Nat.mul_assoc,Nat.mul_comm b]
 have e2:b^(n+1+1)*zs[n+1+1]=b^n*(zs[n+2]*b*b):=by rw[Nat.pow_succ,Nat.pow_succ,Nat.mul_assoc,Nat.mul_assoc,Nat.mul_comm b,Nat.mul_comm b]
 rw[e1,e2,Nat.add_mul,Nat.mul_add,Nat.mul_add];omega
theorem top_le{E T D p e:Nat}(hp:p<E)(hD:0<D):(p+E*T)/(e+E*D)≤T/D:=by
 have hE:0<E:=by omega
 have hv:0<e+E*D:=by have:=Nat.mul_pos hE hD;omega
 have h1:T<(T/D+1)*D:=by rw[Nat.mul_comm];exact Nat.lt_mul_div_succ T hD
 have h2:E*(T+1)≤E*((T/D+1)*D):=Nat.mul_le_mul_left _ h1;rw[Nat.mul_add,Nat.mul_one]at h2
 have h3:(p+E*T)/(e+E*D)<T/D+1:=by
  rw[Nat.div_lt_iff_lt_mul hv,Nat.mul_add,Nat.mul_left_comm _ E D];omega
 omega
theorem k0b{dn P low Bj X Qh n1:Nat}(h1:n1+dn*(Bj*18446744073709551616)*Qh=X)(h2:n1=low+Bj*P):low+Bj*(P%dn)+dn*Bj*(P/dn+18446744073709551616*Qh)=X:=by
 have dm:=Nat.div_add_mod P dn;have e1:Bj*P=Bj*(dn*(P/dn))+Bj*(P%dn):=by rw[← Nat.mul_add,dm]
 have e2:dn*Bj*(P/dn)=Bj*(dn*(P/dn)):=by rw[Nat.mul_comm dn Bj,Nat.mul_assoc]
 have e3:dn*(Bj*18446744073709551616)*Qh=dn*Bj*(18446744073709551616*Qh):=by rw[← Nat.mul_assoc dn,Nat.mul_assoc (dn*Bj)]
 rw[Nat.mul_add,e2,← e3];omega
theorem kus{s X m k:Nat}{d:List Nat}(hs:s≤63)(hk:d.length=k+2)(hd:∀x∈d,x<B)(ht:Trim d)(hm:m≤536870911)(hk2:k≤536870000) :
  ∀(i:Nat)(r q:List Nat),i≤m→r.length=m+(k+2)→q.length=m→(∀x∈r,x<B)→num B r+num B d*B^i*num B (q.drop i)=X→num B r<num B d*B^i→
   Iter kh7 (.p6 s r d d.length q ((i:Int)-1)) (digs B (X/num B d),digs B (X%num B d/2^s))
 | 0,r,q,hi,lr,lq,tr,e,lt=>by
  rw[List.drop_zero,Nat.pow_zero,Nat.mul_one]at e;rw[Nat.pow_zero,Nat.mul_one]at lt;have hd0:0<num B d:=by omega
  have hq:X/num B d=num B q:=by rw[← e,Nat.add_mul_div_left _ _ hd0,Nat.div_eq_of_lt lt,Nat.zero_add]
  have hr:X%num B d=num B r:=by rw[← e,Nat.add_mul_mod_self_left,Nat.mod_eq_of_lt lt]
  rw[hq,hr];have hl:=ki9 tr;have key:=klj (q:=q) (krv B2 (num B r)) hs (by omega) (digs B (num B r)).length 0 (List.replicate (digs B (num B r)).length 0) (by omega) (by simp) (by simp[num]);rw[kw B2]at key;refine .next ?_ key;show kgj _ _ _ _ _ _=_;unfold kgj;rw[condF (by rw[decide_eq_false_iff_not];omega),kgl (by omega),Option.bind_some];rfl
 | j+1,r,q,hi,lr,lq,tr,e,lt=>by
  have hd0:0<num B d:=by
   rcases Nat.eq_zero_or_pos (num B d)with h | h
   ·rw[h,Nat.zero_mul]at lt;omega
   ·exact h
  have hdB:=num_lt B1 hd;rw[hk]at hdB;have lw:((r.drop j).take (d.length+1)).length=k+3:=by simp;omega
  have tw:∀x∈(r.drop j).take (d.length+1),x<B:=fun x hx=>tr x (List.mem_of_mem_drop (List.mem_of_mem_take hx));have ltake:(r.take j).length=j:=by simp;omega
  have er:num B r=num B (r.take j)+B^j*num B ((r.drop j).take (d.length+1))+B^(j+(d.length+1))*num B (r.drop (j+(d.length+1))):=by
   have e1:num B r=num B (r.take j++((r.drop j).take (d.length+1)++(r.drop j).drop (d.length+1))):=by rw[List.take_append_drop,List.take_append_drop]
   rw[kem,kem,ltake,lw,List.drop_drop]at e1;have e3:j+(k+3)=j+(d.length+1):=by omega
   rw[e1,Nat.mul_add (B^j),← Nat.mul_assoc (B^j),← Nat.pow_add,e3];omega
  have hlow:=num_lt (b:=B) B1 (xs:=r.take j) fun x hx=>tr x (List.mem_of_mem_take hx);rw[ltake]at hlow
  have hrest:num B (r.drop (j+(d.length+1)))=0:=by
   rcases Nat.eq_zero_or_pos (num B (r.drop (j+(d.length+1))))with h | h
   ·exact h
   ·exfalso;have h1:B^(j+(d.length+1))*1≤B^(j+(d.length+1))*num B (r.drop (j+(d.length+1))):=Nat.mul_le_mul_left _ h;have h2:num B d*B^(j+1)≤B^(k+2)*B^(j+1):=Nat.mul_le_mul_right _ (by omega);rw[← Nat.pow_add,show k+2+(j+1)=j+(d.length+1)from by omega]at h2;omega
  rw[hrest,Nat.mul_zero,Nat.add_zero]at er
  have hP:num B ((r.drop j).take (d.length+1))<num B d*B:=by
   have h1:B^j*num B ((r.drop j).take (d.length+1))<B^j*(num B d*B):=by
    have:num B d*B^(j+1)=B^j*(num B d*B):=by rw[Nat.pow_succ,Nat.mul_left_comm]
    omega
   exact Nat.lt_of_mul_lt_mul_left h1
  have hq:num B ((r.drop j).take (d.length+1))/num B d<18446744073709551616:=by
   rw[Nat.div_lt_iff_lt_mul hd0,Nat.mul_comm];exact hP
  have i2:j+(k+2)<r.length:=by omega
  have i1:j+(k+1)<r.length:=by omega
  have i0:j+k<r.length:=by omega
  have g2:((r.drop j).take (d.length+1))[k+2]=r[j+(k+2)]:=by simp
  have g1:((r.drop j).take (d.length+1))[k+1]=r[j+(k+1)]:=by simp
  have g0:((r.drop j).take (d.length+1))[k]=r[j+k]:=by simp
  have top:=kbch (b:=B) lw;rw[g2,g1,g0]at top;have topd:=k5p (b:=B) hk
  have hd1:0<d[k+1]:=by
   have hne:d≠[]:=by intro h;rw[h]at hk;simp at hk
   have:=ht hne;rw[List.getLast_eq_getElem]at this;have e:d.length-1=k+1:=by omega
   simp only[e]at this;omega
  have lpt:(((r.drop j).take (d.length+1)).take k).length=k:=by simp;omega
  have hpt:=num_lt (b:=B) B1 (xs:=((r.drop j).take (d.length+1)).take k) fun x hx=>tw x (List.mem_of_mem_take hx);rw[lpt]at hpt;have tl:=top_le (E:=B^k) (T:=(r[j+(k+2)]*B+r[j+(k+1)])*B+r[j+k]) (D:=d[k+1]*B+d[k]) (e:=num B (d.take k)) hpt (by have:1*B≤d[k+1]*B:=Nat.mul_le_mul_right _ hd1;have:=B0;omega);rw[← top,← topd]at tl;obtain⟨g,itg,hg1,hg2⟩:=kzg (r2:=r[j+(k+2)]) (r1:=r[j+(k+1)]) (r0:=r[j+k]) (d1:=d[k+1]) (d0:=d[k]) (tr _ (List.getElem_mem _)) (tr _ (List.getElem_mem _)) (tr _ (List.getElem_mem _)) (hd _ (List.getElem_mem _)) hd1 (hd _ (List.getElem_mem _))
  have hge:num B ((r.drop j).take (d.length+1))/num B d≤g:=by
   rcases hg2 with h | h
   ·omega
   ·exact Nat.le_trans tl h
  have hmod:=Nat.mod_lt (num B ((r.drop j).take (d.length+1))) hd0
  have hpd:num B (padD B (d.length+1) (num B ((r.drop j).take (d.length+1))%num B d))=num B ((r.drop j).take (d.length+1))%num B d:=by
   refine ktp B0 _ _ ?_;have:B^(k+2)≤B^(d.length+1):=Nat.pow_le_pow_right B1 (by omega);omega
  have nr:num B (r.take j++padD B (d.length+1) (num B ((r.drop j).take (d.length+1))%num B d)++r.drop (j+(d.length+1)))=num B (r.take j)+B^j*(num B ((r.drop j).take (d.length+1))%num B d):=by
   rw[kem,kem,hrest,Nat.mul_zero,Nat.add_zero,ltake,hpd]
  have hjq:j<q.length:=by omega
  have IH:=kus (s:=s) (X:=X) hs hk hd ht hm hk2 j (r.take j++padD B (d.length+1) (num B ((r.drop j).take (d.length+1))%num B d)++r.drop (j+(d.length+1))) (q.set j (num B ((r.drop j).take (d.length+1))/num B d)) (by omega) (by simp[kra];omega) (by simpa using lq) (by
    intro x hx;rcases List.mem_append.1 hx with hx | hx
    ·rcases List.mem_append.1 hx with hx | hx
     ·exact tr x (List.mem_of_mem_take hx)
     ·exact kv5 B0 _ _ x hx
    ·exact tr x (List.mem_of_mem_drop hx)) (by
    rw[nr,kw1 hjq];simp only[num];rw[Nat.pow_succ]at e;exact k0b e er) (by
    rw[nr];have:B^j*(num B ((r.drop j).take (d.length+1))%num B d+1)≤B^j*num B d:=Nat.mul_le_mul_left _ hmod;rw[Nat.mul_add,Nat.mul_one,Nat.mul_comm _ (num B d)]at this;omega)
  refine .next (s':=.p10 s r d d.length q j g (j,d.length+1)) ?_ (kvi tr hd hjq (by omega) (by omega) (by omega) hd0 IH g hg1 hge);show kgj _ _ _ _ _ _=_;unfold kgj;have w0:IntKind.wrap .i64 ((j:Int)+(d.length:Int))=((j+(k+2):Nat):Int):=by rw[wrap64 (by omega) (by omega)];omega
  rw[condT (by rw[decide_eq_true_eq];omega),show((j+1:Nat):Int)-1=(j:Int)from by omega,w0];rw[show IntKind.wrap .i64 (((j+(k+2):Nat):Int)-1)=((j+(k+1):Nat):Int)from by rw[wrap64 (by omega) (by omega)];omega];rw[show IntKind.wrap .i64 (((j+(k+2):Nat):Int)-2)=((j+k:Nat):Int)from by rw[wrap64 (by omega) (by omega)];omega];rw[show IntKind.wrap .i64 ((d.length:Int)-1)=((k+1:Nat):Int)from by rw[wrap64 (by omega) (by omega)];omega];rw[show IntKind.wrap .i64 ((d.length:Int)-2)=(k:Int)from by rw[wrap64 (by omega) (by omega)];omega];rw[show IntKind.wrap .i64 (((j+(k+2):Nat):Int)+1)=((j+(d.length+1):Nat):Int)from by rw[wrap64 (by omega) (by omega)];omega];rw[kbb i2,Option.bind_some,kbb i1,Option.bind_some,kbb i0,Option.bind_some,kck (by omega),Option.bind_some,kck (by omega),Option.bind_some,kdt i2,kdt i1,kdt i0,kje itg,Option.bind_some,k91 (by omega) (by omega),Option.bind_some]
theorem k5t{xs ys:List Nat}(lx:∀x∈xs,x<B)(ly:∀x∈ys,x<B)(ty:Trim ys)(hy:2≤ys.length)(hxl:xs.length≤64)(hle:ys.length≤xs.length) :
  Iter kh7 (.fn xs ys) (digs B (num B xs/num B ys),digs B (num B xs%num B ys)):=by
 obtain⟨k,hk⟩:∃k,ys.length=k+2:=⟨ys.length-2,by omega⟩;have hky:k+1<ys.length:=by omega
 have hy0:0<ys[k+1]:=by
  have hne:ys≠[]:=by intro h;rw[h]at hk;simp at hk
  have:=ty hne;rw[List.getLast_eq_getElem]at this;have e:ys.length-1=k+1:=by omega
  simp only[e]at this;omega
 have hyB:ys[k+1]<18446744073709551616:=ly _ (List.getElem_mem _);obtain⟨hs,hb1,hb2⟩:=kvd hyB hy0;obtain⟨r,itr,lr,tr,vr⟩:=ksy (n:=64-bl ys[k+1]) lx hs (by omega);obtain⟨p,itp,lp,tp,vp⟩:=ksy (n:=64-bl ys[k+1]) ly hs (by omega);have hs':64-bl ys[k+1]≤63:=hs;generalize hsd:64-bl ys[k+1]=s at *
 have ps:0<2^s:=Nat.pow_pos (by decide);have e64:=kji (show s≤64 by omega)
 have eys:num B ys=num B (ys.take (k+1))+B^(k+1)*ys[k+1]:=by
  have:num B ys=num B (ys.take (k+1+1)):=by rw[List.take_of_length_le (by omega)]
  rw[this,kcv B hky]
 have hlow:=num_lt (b:=B) B1 (xs:=ys.take (k+1)) fun x hx=>ly x (List.mem_of_mem_take hx);have hl1:(ys.take (k+1)).length=k+1:=by simp;omega
 rw[hl1]at hlow
 have y1:ys[k+1]+1≤2^(64-s):=by
  have:ys[k+1]<2^(64-s):=Nat.lt_of_mul_lt_mul_right (a:=2^s) (by rw[e64];exact hb2);omega
 have up:num B ys*2^s<B^(k+2):=by
  have h1:num B ys<B^(k+1)*(ys[k+1]+1):=by rw[Nat.mul_add,Nat.mul_one];omega
  have h2:B^(k+1)*(ys[k+1]+1)≤B^(k+1)*2^(64-s):=Nat.mul_le_mul_left _ y1;have h3:num B ys*2^s<B^(k+1)*2^(64-s)*2^s:=Nat.mul_lt_mul_of_pos_right (by omega) ps;rw[Nat.mul_assoc,e64]at h3;exact h3
 have lo:B^(k+1)*9223372036854775808≤num B ys*2^s:=by
  have h1:B^(k+1)*ys[k+1]≤num B ys:=by omega
  have h2:=Nat.mul_le_mul_right (2^s) h1;rw[Nat.mul_assoc]at h2;exact Nat.le_trans (Nat.mul_le_mul_left _ hb1) h2
 have ld:(digs B (num B p)).length=k+2:=by
  rw[vp];refine Nat.le_antisymm ((kbs B2 _ _).2 up) ?_;rcases Nat.lt_or_ge (digs B (num B ys*2^s)).length (k+2)with h | h
  ·have:=(kbs B2 (num B ys*2^s) (k+1)).1 (by omega);omega
  ·exact h
 have hX:num B r<num B p*B^(xs.length+1-(k+2)):=by
  rw[vr,vp];have h1:num B xs*2^s<B^xs.length*2^s:=Nat.mul_lt_mul_of_pos_right (num_lt B1 lx) ps;have h2:B^xs.length*2^s≤B^xs.length*9223372036854775808:=Nat.mul_le_mul_left _ (show 2^s≤2^63 from Nat.pow_le_pow_right (by decide) hs');have h3:=Nat.mul_le_mul_right (B^(xs.length+1-(k+2))) lo;rw[Nat.mul_right_comm,← Nat.pow_add,show k+1+(xs.length+1-(k+2))=xs.length from by omega]at h3;omega
 have key:=kus (s:=s) (X:=num B xs*2^s) (m:=xs.length+1-(k+2)) (k:=k) (d:=digs B (num B p)) hs' ld (krv B2 _) (khv B2 _) (by omega) (by omega) (xs.length+1-(k+2)) r (List.replicate (xs.length+1-(k+2)) 0) (Nat.le_refl _) (by rw[lr];omega) (by simp) tr (by simp[num,vr]) (by rw[kw B2];exact hX);rw[kw B2,vp,Nat.mul_div_mul_right _ _ ps,Nat.mul_mod_mul_right,Nat.mul_div_cancel _ ps]at key;refine .next ?_ key;show kj4 _ _=_;unfold kj4;have w1:IntKind.wrap .i64 ((ys.length:Int)-1)=((k+1:Nat):Int):=by rw[wrap64 (by omega) (by omega)];omega
 have w2:IntKind.wrap .u64 ((s:Nat):Int)=(s:Int):=ken (by omega);have w3:IntKind.wrap .i64 ((r.length:Int)-((digs B (num B p)).length:Int))=((xs.length+1-(k+2):Nat):Int):=by rw[lr,ld,wrap64 (by omega) (by omega)];omega
 rw[w1,kck hky,Option.bind_some,kbq (by omega),Option.bind_some,Int.toNat_natCast,hsd,w2,kje itr,Option.bind_some,kje itp,Option.bind_some,w3,kgl (by omega),Option.bind_some,← vp,List.length_replicate,wrap64 (by omega) (by omega)]
theorem kym{h:AH}{s t:Sl}{xs ys:List Nat}(n:Nats h s xs)(m:Nats h t ys)(ty:Trim ys)(hy:2≤ys.length)(hxl:xs.length≤64)(hle:ys.length≤xs.length) :
  ∃(a b:Sl)(h':AH),go (.fn kb6 [s.v,t.v]) h=some (.tup [a.v,b.v],h')∧Nats h' a (digs B (num B xs/num B ys))∧Nats h' b (digs B (num B xs%num B ys))∧Grow h h'∧Own h a∧Own h b:=by
 obtain⟨_,h',e,a,b,rfl,k⟩:=k04 (k5t n.lt m.lt ty hy hxl hle) n m;exact⟨a,b,h',e,k⟩
theorem k59{h:AH}{i:Nat}{a b:Sl}{xs ys:List Nat}(c:h.has i [a.v,b.v] kch)(n:Nats h a xs)(m:Nats h b ys):go (.fn kfw [(⟨some (.new i 0),2,.is 2⟩:Sl).v]) h=some (.bool (rt xs&&rt ys),h):=by
 have r:Rows h ⟨some (.new i 0),2,.is 2⟩ [(a,xs),(b,ys)]:=⟨Cells.of_has c rfl,fun p hp=>by
  simp at hp;rcases hp with rfl | rfl
  ·exact n
  ·exact m,by simp⟩
 rw[kkp r];simp
theorem kbc7{h:AH}{s:Sl}{xs:List Nat}(n:Nats h s xs)(d:Int)(c:0<d∧d<18446744073709551616∧xs.length≤8796093022208):∃(s':Sl)(h':AH),go (.fn kez [s.v,.int .u64 d]) h=some (.tup [s'.v,.int .u64 ((num B xs%d.toNat:Nat):Int)],h')∧Nats h' s' (digs B (num B xs/d.toNat))∧Grow h h'∧Own h s':=by
 obtain⟨x,rfl⟩:∃x:Nat,d=(x:Int):=⟨d.toNat,by omega⟩;rw[Int.toNat_natCast];exact kz3 n (show x<18446744073709551616 by omega) (by omega) c.2.2
inductive kiq
 | fn (x1:List Nat) (x2:List Nat)
 | no
abbrev kgd:=List Nat×List Nat×Int
noncomputable def kjh(x1 x2:List Nat):Option (kiq⊕kgd) :=
 cond (!((rt x1&&rt x2))) (some (.inr ([],[],1))) (cond (decide ((List.length x2:Int)=0)) (some (.inr ([],[],3))) ((need (Trim x1)).bind fun c7_0=>(need (Trim x2)).bind fun c7_1=>cond (decide ((cmp (num B x1) (num B x2))<0)) ((need (List.length x1≤8796093022208)).bind fun c9_0=>some (.inr ([],x1,0))) (cond (decide ((List.length x2:Int)=1)) ((atI x2 0).bind fun y10=>(need (0<((y10:Int))∧((y10:Int))<18446744073709551616∧List.length x1≤8796093022208)).bind fun c11_0=>(u64P (((num B x1%Int.toNat ((y10:Int)):Nat):Int))).bind fun p12=>some (.inr (digs B (num B x1/Int.toNat ((y10:Int))),digs B p12,0))) ((need (Trim x2)).bind fun c10_0=>(need (2≤List.length x2)).bind fun c10_1=>(need (List.length x1≤64)).bind fun c10_2=>(need (List.length x2≤List.length x1)).bind fun c10_3=>some (.inr (digs B (num B x1/num B x2),digs B (num B x1%num B x2),0))))))
noncomputable def kwf:kiq→Option (kiq⊕kgd)
 | .fn x1 x2=>kjh x1 x2
 | .no=>none
@[reducible] def kyy(h0:AH)(r:kgd)(v:AV)(h':AH):Prop:=∃s1:Sl,∃s2:Sl,v=.tup [s1.v,s2.v,.int .i64 r.2.2]∧Nats h' s1 r.1∧Nats h' s2 r.2.1∧Grow h0 h'∧Own h0 s1∧Own h0 s2
def ko7(r:kgd):kiq→Prop
 | .fn x1 x2=>∀{h:AH}{a1:Sl}{a2:Sl},Nats h a1 x1→Nats h a2 x2→Runs (go (.fn kgp [a1.v,a2.v]) h) (kyy h r)
 | .no=>True
theorem k0t{r:kgd}{o:kiq⊕kgd}{x1 x2:List Nat}(e:kjh x1 x2=some o)(good:GoodS (ko7 r) r o):ko7 r (.fn x1 x2):=by
 intro h a1 a2 n1 n2;rw[k8f];unfold kjh at e;rw[n2.len];refine Runs.new fun H3 b3 g3=>?_;refine Runs.step (k59 b3 (n1.grow g3) (n2.grow g3)) ?_;refine Runs.step (seen rfl) ?_;refine Runs.cond (fun k5=>?_) (fun k5=>?_)
 ·replace e:=(condT k5).symm.trans e;cases e;cases good;exact Runs.ret ⟨(⟨none,0,.is 0⟩:Sl),(⟨none,0,.is 0⟩:Sl),rfl,(Nats.nil _),(Nats.nil _),g3,(Own.nil _),(Own.nil _)⟩
 ·replace e:=(condF k5).symm.trans e;refine Runs.cond (fun k6=>?_) (fun k6=>?_)
  ·replace e:=(condT k6).symm.trans e;cases e;cases good;exact Runs.ret ⟨(⟨none,0,.is 0⟩:Sl),(⟨none,0,.is 0⟩:Sl),rfl,(Nats.nil _),(Nats.nil _),g3,(Own.nil _),(Own.nil _)⟩
  ·replace e:=(condF k6).symm.trans e;obtain⟨c7_0,q7_0,e⟩:=Option.bind_eq_some_iff.1 e;obtain⟨c7_1,q7_1,e⟩:=Option.bind_eq_some_iff.1 e;refine Runs.step (kl1 (n1.grow g3) (n2.grow g3)  c7_0.down c7_1.down) ?_;refine Runs.step (seen (ke _ _)) ?_;refine Runs.cond (fun k8=>?_) (fun k8=>?_)
   ·replace e:=(condT k8).symm.trans e;obtain⟨c9_0,q9_0,e⟩:=Option.bind_eq_some_iff.1 e;obtain⟨s9,H9,e9,n9,g9,o9⟩:=kju (n1.grow g3)  c9_0.down;refine Runs.step e9 ?_;refine Runs.step (seen (asSl_v _)) ?_;cases e;cases good;exact Runs.ret ⟨(⟨none,0,.is 0⟩:Sl),s9,rfl,(Nats.nil _),n9,(g3.trans g9),(Own.nil _),(o9.of_le g3)⟩
   ·replace e:=(condF k8).symm.trans e;refine Runs.cond (fun k9=>?_) (fun k9=>?_)
    ·replace e:=(condT k9).symm.trans e;obtain⟨y10,q10,e⟩:=Option.bind_eq_some_iff.1 e;obtain⟨r10,j10,l10⟩:=(n2.grow g3).atI q10;refine Runs.step j10 ?_;refine Runs.step (rdc l10 (ke _ _)) ?_;obtain⟨c11_0,q11_0,e⟩:=Option.bind_eq_some_iff.1 e;obtain⟨s11,H11,e11,n11,g11,o11⟩:=kbc7 (n1.grow g3) ((y10:Int))  c11_0.down;refine Runs.step e11 ?_;refine Runs.step rfl ?_;refine Runs.step (seen (asSl_v _)) ?_;refine Runs.step (seen (ke _ _)) ?_;obtain⟨p12,q12,e⟩:=Option.bind_eq_some_iff.1 e;obtain⟨s12,H12,e12,n12,g12,o12⟩:=km4 q12;refine Runs.step e12 ?_;refine Runs.step (seen (asSl_v _)) ?_;cases e;cases good;exact Runs.ret ⟨s11,s12,rfl,(n11.grow g12),n12,((g3.trans g11).trans g12),(o11.of_le g3),(o12.of_le (g3.trans g11))⟩
    ·replace e:=(condF k9).symm.trans e;obtain⟨c10_0,q10_0,e⟩:=Option.bind_eq_some_iff.1 e;obtain⟨c10_1,q10_1,e⟩:=Option.bind_eq_some_iff.1 e;obtain⟨c10_2,q10_2,e⟩:=Option.bind_eq_some_iff.1 e;obtain⟨c10_3,q10_3,e⟩:=Option.bind_eq_some_iff.1 e;obtain⟨s10,s10b,H10,e10,n10,n10b,g10,o10,o10b⟩:=kym (n1.grow g3) (n2.grow g3)  c10_0.down c10_1.down c10_2.down c10_3.down;refine Runs.step e10 ?_;refine Runs.step rfl ?_;refine Runs.step (seen (asSl_v _)) ?_;refine Runs.step (seen (asSl_v _)) ?_;cases e;cases good;exact Runs.ret ⟨s10,s10b,rfl,n10,n10b,(g3.trans g10),(o10.of_le g3),(o10b.of_le g3)⟩
theorem kbds{s:kiq}{r:kgd}(it:Iter kwf s r):ko7 r s:=Iter.ind (fun s o e good=>by
 cases s with
 | fn x1 x2=>exact @k0t _ _ x1 x2 e good
 | no=>exact True.intro
 ) it
def divN(xs ys:List Nat):List Nat×List Nat×Int :=
 if rt xs=true∧rt ys=true then(if ys=[]then([],[],3)else(digs B (num B xs/num B ys),digs B (num B xs%num B ys),0))else([],[],1)
theorem k48{b:Nat}(hb:1≤b){xs:List Nat}(t:Trim xs)(h:xs≠[]):0<num b xs:=by
 rcases Nat.eq_zero_or_pos (num b xs)with e | e
 ·exact absurd (kpa hb t e) h
 ·exact e
theorem cmp_lt{a b:Nat}:cmp a b<0↔a<b:=by
 unfold cmp;by_cases h:a<b
 ·rw[if_pos h];omega
 ·rw[if_neg h];by_cases h2:a=b
  ·rw[if_pos h2];omega
  ·rw[if_neg h2];omega
theorem k7q{xs ys:List Nat}(lx:∀x∈xs,x<B)(ly:∀x∈ys,x<B):Iter kwf (.fn xs ys) (divN xs ys):=by
 refine .done ?_;show kjh _ _=_;unfold kjh divN;cases hx:rt xs with
 | false=>simp
 | true =>
  cases hy:rt ys with
  | false=>simp
  | true =>
   obtain⟨lx64,tx⟩:=rt_iff.1 hx;obtain⟨ly64,ty⟩:=rt_iff.1 hy;simp only[Bool.and_self,Bool.not_true,cond_false,and_self,if_true];by_cases h0:ys=[]
   ·subst h0;rfl
   ·have hl:ys.length≠0:=by simpa using h0
    have hp:=k48 B1 ty h0;rw[if_neg h0,condF (by rw[decide_eq_false_iff_not];omega),kbq tx,Option.bind_some,kbq ty,Option.bind_some];by_cases hc:num B xs<num B ys
    ·rw[condT (by rw[decide_eq_true_eq,cmp_lt];exact hc),kbq (by omega),Option.bind_some,Nat.div_eq_of_lt hc,Nat.mod_eq_of_lt hc,kcz,khs B2 lx tx]
    ·rw[condF (by rw[decide_eq_false_iff_not,cmp_lt];exact hc)];by_cases h1:ys.length=1
     ·obtain⟨y,rfl⟩:=List.length_eq_one_iff.1 h1;have hy:y<18446744073709551616:=ly y (by simp);have e:num B [y]=y:=by simp[num]
      rw[e]at hp⊢;have hm:=Nat.mod_lt (num B xs) hp;have a0:=kck (xs:=[y]) (i:=0) (by simp);rw[show((0:Nat):Int)=0 from rfl]at a0;rw[condT (by rw[decide_eq_true_eq];omega),a0,Option.bind_some];rw[List.getElem_cons_zero,kbq ⟨by omega,by omega,by omega⟩,Option.bind_some,Int.toNat_natCast,kbr (by omega),Option.bind_some]
     ·have hle:=kr3 lx ly ty (Nat.le_of_not_lt hc);rw[condF (by rw[decide_eq_false_iff_not];omega),Option.bind_some,kbq (by omega),Option.bind_some,kbq lx64,Option.bind_some,kbq hle,Option.bind_some]
theorem kmt{h:AH}{s t:Sl}{xs ys:List Nat}(n:Nats h s xs)(m:Nats h t ys):∃(a b:Sl)(h':AH),go (.fn kgp [s.v,t.v]) h=some (.tup [a.v,b.v,.int .i64 (divN xs ys).2.2],h')∧Nats h' a (divN xs ys).1∧Nats h' b (divN xs ys).2.1∧Grow h h'∧Own h a∧Own h b:=by
 obtain⟨_,h',e,a,b,rfl,k⟩:=kbds (k7q n.lt m.lt) n m;exact⟨a,b,h',e,k⟩
inductive kfz
 | fn (x1:List Nat) (x2:List Nat)
 | p4 (x1:List Nat) (x2:List Nat)
abbrev ked:=List Nat×Int
noncomputable def kel(x1 x2:List Nat):Option (kfz⊕ked) :=
 cond (!(rt x1)) (some (.inr ([],1))) (cond (!(rt x2)) (some (.inr ([],1))) ((need (List.length x1≤8796093022208)).bind fun c7_0=>(need (List.length x2≤8796093022208)).bind fun c8_0=>some (.inl (.p4 x1 x2))))
noncomputable def kgm(x1 x2:List Nat):Option (kfz⊕ked) :=
 cond (decide ((List.length x2:Int)>0)) (some (.inl (.p4 x2 ((divN x1 x2).2.1)))) (some (.inr (x1,0)))
noncomputable def koa:kfz→Option (kfz⊕ked)
 | .fn x1 x2=>kel x1 x2
 | .p4 x1 x2=>kgm x1 x2
@[reducible] def kq7(h0:AH)(r:ked)(v:AV)(h':AH):Prop:=∃s1:Sl,v=.tup [s1.v,.int .i64 r.2]∧Nats h' s1 r.1∧Grow h0 h'∧Own h0 s1
def ki5(r:ked):kfz→Prop
 | .fn x1 x2=>∀{h:AH}{a1:Sl}{a2:Sl},Nats h a1 x1→Nats h a2 x2→Runs (go (.fn kes [a1.v,a2.v]) h) (kq7 h r)
 | .p4 x1 x2=>∀{h0 h:AH}{a1:Sl}{a2:Sl},Grow h0 h→Nats h a1 x1→Nats h a2 x2→Own h0 a1→Own h0 a2→Runs (go (.pt kes knt [(0,a1.v),(1,a2.v)]) h) (kq7 h0 r)
theorem k9w{r:ked}{o:kfz⊕ked}{x1 x2:List Nat}(e:kel x1 x2=some o)(good:GoodS (ki5 r) r o):ki5 r (.fn x1 x2):=by
 intro h a1 a2 n1 n2;rw[kbcc];unfold kel at e;refine Runs.step (kfa n1) ?_;refine Runs.step (seen rfl) ?_;refine Runs.cond (fun k4=>?_) (fun k4=>?_)
 ·replace e:=(condT k4).symm.trans e;cases e;cases good;exact Runs.ret ⟨(⟨none,0,.is 0⟩:Sl),rfl,(Nats.nil _),(Grow.refl _),(Own.nil _)⟩
 ·replace e:=(condF k4).symm.trans e;refine Runs.step (kfa n2) ?_;refine Runs.step (seen rfl) ?_;refine Runs.cond (fun k6=>?_) (fun k6=>?_)
  ·replace e:=(condT k6).symm.trans e;cases e;cases good;exact Runs.ret ⟨(⟨none,0,.is 0⟩:Sl),rfl,(Nats.nil _),(Grow.refl _),(Own.nil _)⟩
  ·replace e:=(condF k6).symm.trans e;obtain⟨c7_0,q7_0,e⟩:=Option.bind_eq_some_iff.1 e;obtain⟨s7,H7,e7,n7,g7,o7⟩:=kju n1  c7_0.down;refine Runs.step e7 ?_;refine Runs.step (seen (asSl_v _)) ?_;obtain⟨c8_0,q8_0,e⟩:=Option.bind_eq_some_iff.1 e;obtain⟨s8,H8,e8,n8,g8,o8⟩:=kju (n2.grow g7)  c8_0.down;refine Runs.step e8 ?_;refine Runs.step (seen (asSl_v _)) ?_;cases e;exact good (g7.trans g8) (n7.grow g8) n8 (o7.of_le (Grow.refl _)) (o8.of_le g7)
theorem kzw{r:ked}{o:kfz⊕ked}{x1 x2:List Nat}(e:kgm x1 x2=some o)(good:GoodS (ki5 r) r o):ki5 r (.p4 x1 x2):=by
 intro h0 h a1 a2 g0 n1 n2 ow1 ow2;rw[kzu];unfold kgm at e;rw[n2.len];refine Runs.cond (fun k3=>?_) (fun k3=>?_)
 ·replace e:=(condT k3).symm.trans e;obtain⟨s4,s4b,H4,e4,n4,n4b,g4,o4,o4b⟩:=kmt n1 n2;refine Runs.step e4 ?_;refine Runs.step rfl ?_;refine Runs.step (seen (asSl_v _)) ?_;refine Runs.step (seen (asSl_v _)) ?_;refine Runs.step (seen (ke _ _)) ?_;cases e;exact good (g0.trans g4) (n2.grow g4) n4b (ow2.of_le (Grow.refl _)) (o4b.of_le g0)
 ·replace e:=(condF k3).symm.trans e;cases e;cases good;exact Runs.ret ⟨a1,rfl,n1,g0,(ow1.of_le (Grow.refl _))⟩
theorem k3d{s:kfz}{r:ked}(it:Iter koa s r):ki5 r s:=Iter.ind (fun s o e good=>by
 cases s with
 | fn x1 x2=>exact @k9w _ _ x1 x2 e good
 | p4 x1 x2=>exact @kzw _ _ x1 x2 e good
 ) it
inductive khg
 | fn (a1:Bool) (x2:List Nat) (a3:Bool) (x4:List Nat)
 | no
abbrev kge:=Bool×List Nat×Bool×List Nat×Int
noncomputable def kkc(a1:Bool)(x2:List Nat)(a3:Bool)(x4:List Nat):Option (khg⊕kge) :=
 cond (!((rtI a1 x2&&rtI a3 x4))) (some (.inr (false,[],false,[],1))) (cond (decide ((List.length x4:Int)=0)) (some (.inr (false,[],false,[],3))) (cond (a3) (some (.inr (false,[],false,[],1))) (cond (a1) (cond (decide ((List.length ((divN x2 x4).2.1):Int)>0)) ((u64P 1).bind fun p17=>cond (!decide (((addN ((divN x2 x4).1) (digs B p17)).2)=0)) (some (.inr (false,[],false,[],((addN ((divN x2 x4).1) (digs B p17)).2)))) (some (.inr ((((fromI a1 ((addN ((divN x2 x4).1) (digs B p17)).1)).1)),(fromI a1 ((addN ((divN x2 x4).1) (digs B p17)).1)).2,(((fromI false ((subN x4 ((divN x2 x4).2.1)).1)).1)),(fromI false ((subN x4 ((divN x2 x4).2.1)).1)).2,0)))) (some (.inr ((((fromI a1 ((divN x2 x4).1)).1)),(fromI a1 ((divN x2 x4).1)).2,(((fromI false ((divN x2 x4).2.1)).1)),(fromI false ((divN x2 x4).2.1)).2,0)))) (some (.inr ((((fromI a1 ((divN x2 x4).1)).1)),(fromI a1 ((divN x2 x4).1)).2,(((fromI false ((divN x2 x4).2.1)).1)),(fromI false ((divN x2 x4).2.1)).2,0))))))
noncomputable def kvy:khg→Option (khg⊕kge)
 | .fn a1 x2 a3 x4=>kkc a1 x2 a3 x4
 | .no=>none
@[reducible] def kvt(h0:AH)(r:kge)(v:AV)(h':AH):Prop:=∃s1:Sl,∃s2:Sl,v=.tup [.agg [.bool r.1,s1.v],.agg [.bool r.2.2.1,s2.v],.int .i64 r.2.2.2.2]∧Nats h' s1 r.2.1∧Nats h' s2 r.2.2.2.1∧Grow h0 h'∧Own h0 s1∧Own h0 s2
def krc(r:kge):khg→Prop
 | .fn a1 x2 a3 x4=>∀{h:AH}{a2:Sl}{a4:Sl},Nats h a2 x2→Nats h a4 x4→Runs (go (.fn klh [.agg [.bool a1,a2.v],.agg [.bool a3,a4.v]]) h) (kvt h r)
 | .no=>True
theorem kz8{r:kge}{o:khg⊕kge}{a1:Bool}{x2:List Nat}{a3:Bool}{x4:List Nat}(e:kkc a1 x2 a3 x4=some o)(good:GoodS (krc r) r o):krc r (.fn a1 x2 a3 x4):=by
 intro h a2 a4 n2 n4;rw[k85];unfold kkc at e;refine Runs.new fun H5 b5 g5=>?_;refine Runs.new fun H6 b6 g6=>?_;refine Runs.new fun H7 b7 g7=>?_;refine Runs.new fun H8 b8 g8=>?_;refine Runs.step (AH.has.rd (((g6.trans g7).trans g8).has b5) 0 rfl rfl) ?_;refine Runs.step (AH.has.rd (((g6.trans g7).trans g8).has b5) 1 rfl (asSl_v _)) ?_;refine Runs.step (AH.has.rd ((g7.trans g8).has b6) 0 rfl rfl) ?_;refine Runs.step (AH.has.rd ((g7.trans g8).has b6) 1 rfl (asSl_v _)) ?_;refine Runs.new fun H9 b9 g9=>?_;obtain⟨H10,e10,g10⟩:=kno b9 (n2.grow ((((g5.trans g6).trans g7).trans g8).trans g9)) (n4.grow ((((g5.trans g6).trans g7).trans g8).trans g9));refine Runs.step e10 ?_;refine Runs.step (seen rfl) ?_;refine Runs.cond (fun k11=>?_) (fun k11=>?_)
 ·replace e:=(condT k11).symm.trans e;refine Runs.puts (((g8.trans g9).trans g10).has b7) rfl fun H12 b12 u12=>?_;have b8_12:=AH.has.updr ((g9.trans g10).has b8) (Nat.ne_of_gt (Nat.lt_of_lt_of_le (b7).lt (Nat.le_refl _))) u12;have b9_12:=AH.has.updr (g10.has b9) (Nat.ne_of_gt (Nat.lt_of_lt_of_le (g8.has b7).lt (Nat.le_refl _))) u12;refine Runs.puts b8_12 rfl fun H13 b13 u13=>?_;have b12_13:=AH.has.updr b12 (Nat.ne_of_lt (Nat.lt_of_lt_of_le (b7).lt (Nat.le_refl _))) u13;have b9_13:=AH.has.updr b9_12 (Nat.ne_of_gt (Nat.lt_of_lt_of_le (b8).lt (Nat.le_refl _))) u13;refine Runs.step (AH.has.rd b12_13 0 rfl rfl) ?_;refine Runs.step (AH.has.rd b12_13 1 rfl (asSl_v _)) ?_;refine Runs.step (AH.has.rd b13 0 rfl rfl) ?_;refine Runs.step (AH.has.rd b13 1 rfl (asSl_v _)) ?_;cases e;cases good;exact Runs.ret ⟨(⟨none,0,.is 0⟩:Sl),(⟨none,0,.is 0⟩:Sl),rfl,(Nats.nil _),(Nats.nil _),(((((((g5.trans g6).trans g7).trans g8).trans g9).trans g10).updr (Nat.le_trans ((g5.trans g6)).size (Nat.le_refl _)) u12).updr (Nat.le_trans (((g5.trans g6).trans g7)).size (Nat.le_refl _)) u13),(Own.nil _),(Own.nil _)⟩
 ·replace e:=(condF k11).symm.trans e;refine Runs.step (AH.has.rd ((((g7.trans g8).trans g9).trans g10).has b6) 1 rfl (asSl_v _)) ?_;rw[(n4.grow (((((g5.trans g6).trans g7).trans g8).trans g9).trans g10)).len];refine Runs.cond (fun k12=>?_) (fun k12=>?_)
  ·replace e:=(condT k12).symm.trans e;refine Runs.puts (((g8.trans g9).trans g10).has b7) rfl fun H13 b13 u13=>?_;have b8_13:=AH.has.updr ((g9.trans g10).has b8) (Nat.ne_of_gt (Nat.lt_of_lt_of_le (b7).lt (Nat.le_refl _))) u13;have b9_13:=AH.has.updr (g10.has b9) (Nat.ne_of_gt (Nat.lt_of_lt_of_le (g8.has b7).lt (Nat.le_refl _))) u13;refine Runs.puts b8_13 rfl fun H14 b14 u14=>?_;have b13_14:=AH.has.updr b13 (Nat.ne_of_lt (Nat.lt_of_lt_of_le (b7).lt (Nat.le_refl _))) u14;have b9_14:=AH.has.updr b9_13 (Nat.ne_of_gt (Nat.lt_of_lt_of_le (b8).lt (Nat.le_refl _))) u14;refine Runs.step (AH.has.rd b13_14 0 rfl rfl) ?_;refine Runs.step (AH.has.rd b13_14 1 rfl (asSl_v _)) ?_;refine Runs.step (AH.has.rd b14 0 rfl rfl) ?_;refine Runs.step (AH.has.rd b14 1 rfl (asSl_v _)) ?_;cases e;cases good;exact Runs.ret ⟨(⟨none,0,.is 0⟩:Sl),(⟨none,0,.is 0⟩:Sl),rfl,(Nats.nil _),(Nats.nil _),(((((((g5.trans g6).trans g7).trans g8).trans g9).trans g10).updr (Nat.le_trans ((g5.trans g6)).size (Nat.le_refl _)) u13).updr (Nat.le_trans (((g5.trans g6).trans g7)).size (Nat.le_refl _)) u14),(Own.nil _),(Own.nil _)⟩
  ·replace e:=(condF k12).symm.trans e;refine Runs.step (AH.has.rd ((((g7.trans g8).trans g9).trans g10).has b6) 0 rfl rfl) ?_;refine Runs.cond (fun k13=>?_) (fun k13=>?_)
   ·replace e:=(condT k13).symm.trans e;refine Runs.puts (((g8.trans g9).trans g10).has b7) rfl fun H14 b14 u14=>?_;have b8_14:=AH.has.updr ((g9.trans g10).has b8) (Nat.ne_of_gt (Nat.lt_of_lt_of_le (b7).lt (Nat.le_refl _))) u14;have b9_14:=AH.has.updr (g10.has b9) (Nat.ne_of_gt (Nat.lt_of_lt_of_le (g8.has b7).lt (Nat.le_refl _))) u14;refine Runs.puts b8_14 rfl fun H15 b15 u15=>?_;have b14_15:=AH.has.updr b14 (Nat.ne_of_lt (Nat.lt_of_lt_of_le (b7).lt (Nat.le_refl _))) u15;have b9_15:=AH.has.updr b9_14 (Nat.ne_of_gt (Nat.lt_of_lt_of_le (b8).lt (Nat.le_refl _))) u15;refine Runs.step (AH.has.rd b14_15 0 rfl rfl) ?_;refine Runs.step (AH.has.rd b14_15 1 rfl (asSl_v _)) ?_;refine Runs.step (AH.has.rd b15 0 rfl rfl) ?_;refine Runs.step (AH.has.rd b15 1 rfl (asSl_v _)) ?_;cases e;cases good;exact Runs.ret ⟨(⟨none,0,.is 0⟩:Sl),(⟨none,0,.is 0⟩:Sl),rfl,(Nats.nil _),(Nats.nil _),(((((((g5.trans g6).trans g7).trans g8).trans g9).trans g10).updr (Nat.le_trans ((g5.trans g6)).size (Nat.le_refl _)) u14).updr (Nat.le_trans (((g5.trans g6).trans g7)).size (Nat.le_refl _)) u15),(Own.nil _),(Own.nil _)⟩
   ·replace e:=(condF k13).symm.trans e;refine Runs.step (AH.has.rd (((((g6.trans g7).trans g8).trans g9).trans g10).has b5) 1 rfl (asSl_v _)) ?_;refine Runs.step (AH.has.rd ((((g7.trans g8).trans g9).trans g10).has b6) 1 rfl (asSl_v _)) ?_;obtain⟨s14,s14b,H14,e14,n14,n14b,g14,o14,o14b⟩:=kmt (n2.grow (((((g5.trans g6).trans g7).trans g8).trans g9).trans g10)) (n4.grow (((((g5.trans g6).trans g7).trans g8).trans g9).trans g10));refine Runs.step e14 ?_;refine Runs.step rfl ?_;refine Runs.step (seen (asSl_v _)) ?_;refine Runs.step (seen (asSl_v _)) ?_;rw[n14b.len];refine Runs.step (seen (ke _ _)) ?_;refine Runs.step (AH.has.rd ((((((g6.trans g7).trans g8).trans g9).trans g10).trans g14).has b5) 0 rfl rfl) ?_;refine Runs.cond (fun k15=>?_) (fun k15=>?_)
    ·replace e:=(condT k15).symm.trans e;refine Runs.cond (fun k16=>?_) (fun k16=>?_)
     ·replace e:=(condT k16).symm.trans e;obtain⟨p17,q17,e⟩:=Option.bind_eq_some_iff.1 e;obtain⟨s17,H17,e17,n17,g17,o17⟩:=km4 q17;refine Runs.step e17 ?_;refine Runs.step (seen (asSl_v _)) ?_;obtain⟨s18,H18,e18,n18,g18,o18⟩:=kv2 (n14.grow g17) n17;refine Runs.step e18 ?_;refine Runs.step rfl ?_;refine Runs.step (seen (asSl_v _)) ?_;refine Runs.step (seen (ke _ _)) ?_;refine Runs.cond (fun k19=>?_) (fun k19=>?_)
      ·replace e:=(condT k19).symm.trans e;refine Runs.puts ((((((g8.trans g9).trans g10).trans g14).trans g17).trans g18).has b7) rfl fun H20 b20 u20=>?_;have n14_20:=(n14.grow (g17.trans g18)).upda (Av.of_own o14 (((g8.trans g9).trans g10).has b7).lt) u20;have n14b_20:=(n14b.grow (g17.trans g18)).upda (Av.of_own o14b (((g8.trans g9).trans g10).has b7).lt) u20;have n17_20:=(n17.grow g18).upda (Av.of_own o17 ((((g8.trans g9).trans g10).trans g14).has b7).lt) u20;have n18_20:=n18.upda (Av.of_own o18 (((((g8.trans g9).trans g10).trans g14).trans g17).has b7).lt) u20;have b8_20:=AH.has.updr (((((g9.trans g10).trans g14).trans g17).trans g18).has b8) (Nat.ne_of_gt (Nat.lt_of_lt_of_le (b7).lt (Nat.le_refl _))) u20;have b9_20:=AH.has.updr ((((g10.trans g14).trans g17).trans g18).has b9) (Nat.ne_of_gt (Nat.lt_of_lt_of_le (g8.has b7).lt (Nat.le_refl _))) u20;refine Runs.puts b8_20 rfl fun H21 b21 u21=>?_;have n14_21:=n14_20.upda (Av.of_own o14 ((g9.trans g10).has b8).lt) u21;have n14b_21:=n14b_20.upda (Av.of_own o14b ((g9.trans g10).has b8).lt) u21;have n17_21:=n17_20.upda (Av.of_own o17 (((g9.trans g10).trans g14).has b8).lt) u21;have n18_21:=n18_20.upda (Av.of_own o18 ((((g9.trans g10).trans g14).trans g17).has b8).lt) u21;have b20_21:=AH.has.updr b20 (Nat.ne_of_lt (Nat.lt_of_lt_of_le (b7).lt (Nat.le_refl _))) u21;have b9_21:=AH.has.updr b9_20 (Nat.ne_of_gt (Nat.lt_of_lt_of_le (b8).lt (Nat.le_refl _))) u21;refine Runs.step (AH.has.rd b20_21 0 rfl rfl) ?_;refine Runs.step (AH.has.rd b20_21 1 rfl (asSl_v _)) ?_;refine Runs.step (AH.has.rd b21 0 rfl rfl) ?_;refine Runs.step (AH.has.rd b21 1 rfl (asSl_v _)) ?_;cases e;cases good;exact Runs.ret ⟨(⟨none,0,.is 0⟩:Sl),(⟨none,0,.is 0⟩:Sl),rfl,(Nats.nil _),(Nats.nil _),((((((((((g5.trans g6).trans g7).trans g8).trans g9).trans g10).trans g14).trans g17).trans g18).updr (Nat.le_trans ((g5.trans g6)).size (Nat.le_refl _)) u20).updr (Nat.le_trans (((g5.trans g6).trans g7)).size (Nat.le_refl _)) u21),(Own.nil _),(Own.nil _)⟩
      ·replace e:=(condF k19).symm.trans e;refine Runs.step (AH.has.rd (((((((g7.trans g8).trans g9).trans g10).trans g14).trans g17).trans g18).has b6) 1 rfl (asSl_v _)) ?_;obtain⟨s20,H20,e20,n20,g20,o20⟩:=kpj (n4.grow ((((((((g5.trans g6).trans g7).trans g8).trans g9).trans g10).trans g14).trans g17).trans g18)) (n14b.grow (g17.trans g18));refine Runs.step e20 ?_;refine Runs.step rfl ?_;refine Runs.step (seen (asSl_v _)) ?_;refine Runs.step (seen (ke _ _)) ?_;refine Runs.step (AH.has.rd (((((((((g6.trans g7).trans g8).trans g9).trans g10).trans g14).trans g17).trans g18).trans g20).has b5) 0 rfl rfl) ?_;obtain⟨s21,H21,e21,n21,g21,o21⟩:=kco (n18.grow g20) a1;refine Runs.step e21 ?_;refine Runs.step rfl ?_;refine Runs.ifT rfl ?_;refine Runs.step (seenAt rfl rfl) ?_;refine Runs.step (seenAt rfl (asSl_v _)) ?_;obtain⟨s22,H22,e22,n22,g22,o22⟩:=kco (n20.grow g21) false;refine Runs.step e22 ?_;refine Runs.step rfl ?_;refine Runs.ifT rfl ?_;refine Runs.step (seenAt rfl rfl) ?_;refine Runs.step (seenAt rfl (asSl_v _)) ?_;refine Runs.puts (((((((((g8.trans g9).trans g10).trans g14).trans g17).trans g18).trans g20).trans g21).trans g22).has b7) rfl fun H23 b23 u23=>?_;have n14_23:=(n14.grow ((((g17.trans g18).trans g20).trans g21).trans g22)).upda (Av.of_own o14 (((g8.trans g9).trans g10).has b7).lt) u23;have n14b_23:=(n14b.grow ((((g17.trans g18).trans g20).trans g21).trans g22)).upda (Av.of_own o14b (((g8.trans g9).trans g10).has b7).lt) u23;have n17_23:=(n17.grow (((g18.trans g20).trans g21).trans g22)).upda (Av.of_own o17 ((((g8.trans g9).trans g10).trans g14).has b7).lt) u23;have n18_23:=(n18.grow ((g20.trans g21).trans g22)).upda (Av.of_own o18 (((((g8.trans g9).trans g10).trans g14).trans g17).has b7).lt) u23;have n20_23:=(n20.grow (g21.trans g22)).upda (Av.of_own o20 ((((((g8.trans g9).trans g10).trans g14).trans g17).trans g18).has b7).lt) u23;have n21_23:=(n21.grow g22).upda (Av.of_own o21 (((((((g8.trans g9).trans g10).trans g14).trans g17).trans g18).trans g20).has b7).lt) u23;have n22_23:=n22.upda (Av.of_own o22 ((((((((g8.trans g9).trans g10).trans g14).trans g17).trans g18).trans g20).trans g21).has b7).lt) u23;have b8_23:=AH.has.updr ((((((((g9.trans g10).trans g14).trans g17).trans g18).trans g20).trans g21).trans g22).has b8) (Nat.ne_of_gt (Nat.lt_of_lt_of_le (b7).lt (Nat.le_refl _))) u23;have b9_23:=AH.has.updr (((((((g10.trans g14).trans g17).trans g18).trans g20).trans g21).trans g22).has b9) (Nat.ne_of_gt (Nat.lt_of_lt_of_le (g8.has b7).lt (Nat.le_refl _))) u23;refine Runs.puts b8_23 rfl fun H24 b24 u24=>?_;have n14_24:=n14_23.upda (Av.of_own o14 ((g9.trans g10).has b8).lt) u24;have n14b_24:=n14b_23.upda (Av.of_own o14b ((g9.trans g10).has b8).lt) u24;have n17_24:=n17_23.upda (Av.of_own o17 (((g9.trans g10).trans g14).has b8).lt) u24;have n18_24:=n18_23.upda (Av.of_own o18 ((((g9.trans g10).trans g14).trans g17).has b8).lt) u24;have n20_24:=n20_23.upda (Av.of_own o20 (((((g9.trans g10).trans g14).trans g17).trans g18).has b8).lt) u24;have n21_24:=n21_23.upda (Av.of_own o21 ((((((g9.trans g10).trans g14).trans g17).trans g18).trans g20).has b8).lt) u24;have n22_24:=n22_23.upda (Av.of_own o22 (((((((g9.trans g10).trans g14).trans g17).trans g18).trans g20).trans g21).has b8).lt) u24;have b23_24:=AH.has.updr b23 (Nat.ne_of_lt (Nat.lt_of_lt_of_le (b7).lt (Nat.le_refl _))) u24;have b9_24:=AH.has.updr b9_23 (Nat.ne_of_gt (Nat.lt_of_lt_of_le (b8).lt (Nat.le_refl _))) u24;refine Runs.step (AH.has.rd b23_24 0 rfl rfl) ?_;refine Runs.step (AH.has.rd b23_24 1 rfl (asSl_v _)) ?_;refine Runs.step (AH.has.rd b24 0 rfl rfl) ?_;refine Runs.step (AH.has.rd b24 1 rfl (asSl_v _)) ?_;cases e;cases good;exact Runs.ret ⟨s21,s22,rfl,n21_24,n22_24,(((((((((((((g5.trans g6).trans g7).trans g8).trans g9).trans g10).trans g14).trans g17).trans g18).trans g20).trans g21).trans g22).updr (Nat.le_trans ((g5.trans g6)).size (Nat.le_refl _)) u23).updr (Nat.le_trans (((g5.trans g6).trans g7)).size (Nat.le_refl _)) u24),(o21.of_le (((((((((g5.trans g6).trans g7).trans g8).trans g9).trans g10).trans g14).trans g17).trans g18).trans g20)),(o22.of_le ((((((((((g5.trans g6).trans g7).trans g8).trans g9).trans g10).trans g14).trans g17).trans g18).trans g20).trans g21))⟩
     ·replace e:=(condF k16).symm.trans e;refine Runs.step (AH.has.rd ((((((g6.trans g7).trans g8).trans g9).trans g10).trans g14).has b5) 0 rfl rfl) ?_;obtain⟨s17,H17,e17,n17,g17,o17⟩:=kco n14 a1;refine Runs.step e17 ?_;refine Runs.step rfl ?_;refine Runs.ifT rfl ?_;refine Runs.step (seenAt rfl rfl) ?_;refine Runs.step (seenAt rfl (asSl_v _)) ?_;obtain⟨s18,H18,e18,n18,g18,o18⟩:=kco (n14b.grow g17) false;refine Runs.step e18 ?_;refine Runs.step rfl ?_;refine Runs.ifT rfl ?_;refine Runs.step (seenAt rfl rfl) ?_;refine Runs.step (seenAt rfl (asSl_v _)) ?_;refine Runs.puts ((((((g8.trans g9).trans g10).trans g14).trans g17).trans g18).has b7) rfl fun H19 b19 u19=>?_;have n14_19:=(n14.grow (g17.trans g18)).upda (Av.of_own o14 (((g8.trans g9).trans g10).has b7).lt) u19;have n14b_19:=(n14b.grow (g17.trans g18)).upda (Av.of_own o14b (((g8.trans g9).trans g10).has b7).lt) u19;have n17_19:=(n17.grow g18).upda (Av.of_own o17 ((((g8.trans g9).trans g10).trans g14).has b7).lt) u19;have n18_19:=n18.upda (Av.of_own o18 (((((g8.trans g9).trans g10).trans g14).trans g17).has b7).lt) u19;have b8_19:=AH.has.updr (((((g9.trans g10).trans g14).trans g17).trans g18).has b8) (Nat.ne_of_gt (Nat.lt_of_lt_of_le (b7).lt (Nat.le_refl _))) u19;have b9_19:=AH.has.updr ((((g10.trans g14).trans g17).trans g18).has b9) (Nat.ne_of_gt (Nat.lt_of_lt_of_le (g8.has b7).lt (Nat.le_refl _))) u19;refine Runs.puts b8_19 rfl fun H20 b20 u20=>?_;have n14_20:=n14_19.upda (Av.of_own o14 ((g9.trans g10).has b8).lt) u20;have n14b_20:=n14b_19.upda (Av.of_own o14b ((g9.trans g10).has b8).lt) u20;have n17_20:=n17_19.upda (Av.of_own o17 (((g9.trans g10).trans g14).has b8).lt) u20;have n18_20:=n18_19.upda (Av.of_own o18 ((((g9.trans g10).trans g14).trans g17).has b8).lt) u20;have b19_20:=AH.has.updr b19 (Nat.ne_of_lt (Nat.lt_of_lt_of_le (b7).lt (Nat.le_refl _))) u20;have b9_20:=AH.has.updr b9_19 (Nat.ne_of_gt (Nat.lt_of_lt_of_le (b8).lt (Nat.le_refl _))) u20;refine Runs.step (AH.has.rd b19_20 0 rfl rfl) ?_;refine Runs.step (AH.has.rd b19_20 1 rfl (asSl_v _)) ?_;refine Runs.step (AH.has.rd b20 0 rfl rfl) ?_;refine Runs.step (AH.has.rd b20 1 rfl (asSl_v _)) ?_;cases e;cases good;exact Runs.ret ⟨s17,s18,rfl,n17_20,n18_20,((((((((((g5.trans g6).trans g7).trans g8).trans g9).trans g10).trans g14).trans g17).trans g18).updr (Nat.le_trans ((g5.trans g6)).size (Nat.le_refl _)) u19).updr (Nat.le_trans (((g5.trans g6).trans g7)).size (Nat.le_refl _)) u20),(o17.of_le ((((((g5.trans g6).trans g7).trans g8).trans g9).trans g10).trans g14)),(o18.of_le (((((((g5.trans g6).trans g7).trans g8).trans g9).trans g10).trans g14).trans g17))⟩
    ·replace e:=(condF k15).symm.trans e;refine Runs.step (AH.has.rd ((((((g6.trans g7).trans g8).trans g9).trans g10).trans g14).has b5) 0 rfl rfl) ?_;obtain⟨s16,H16,e16,n16,g16,o16⟩:=kco n14 a1;refine Runs.step e16 ?_;refine Runs.step rfl ?_;refine Runs.ifT rfl ?_;refine Runs.step (seenAt rfl rfl) ?_;refine Runs.step (seenAt rfl (asSl_v _)) ?_;obtain⟨s17,H17,e17,n17,g17,o17⟩:=kco (n14b.grow g16) false;refine Runs.step e17 ?_;refine Runs.step rfl ?_;refine Runs.ifT rfl ?_;refine Runs.step (seenAt rfl rfl) ?_;refine Runs.step (seenAt rfl (asSl_v _)) ?_;refine Runs.puts ((((((g8.trans g9).trans g10).trans g14).trans g16).trans g17).has b7) rfl fun H18 b18 u18=>?_;have n14_18:=(n14.grow (g16.trans g17)).upda (Av.of_own o14 (((g8.trans g9).trans g10).has b7).lt) u18;have n14b_18:=(n14b.grow (g16.trans g17)).upda (Av.of_own o14b (((g8.trans g9).trans g10).has b7).lt) u18;have n16_18:=(n16.grow g17).upda (Av.of_own o16 ((((g8.trans g9).trans g10).trans g14).has b7).lt) u18;have n17_18:=n17.upda (Av.of_own o17 (((((g8.trans g9).trans g10).trans g14).trans g16).has b7).lt) u18;have b8_18:=AH.has.updr (((((g9.trans g10).trans g14).trans g16).trans g17).has b8) (Nat.ne_of_gt (Nat.lt_of_lt_of_le (b7).lt (Nat.le_refl _))) u18;have b9_18:=AH.has.updr ((((g10.trans g14).trans g16).trans g17).has b9) (Nat.ne_of_gt (Nat.lt_of_lt_of_le (g8.has b7).lt (Nat.le_refl _))) u18;refine Runs.puts b8_18 rfl fun H19 b19 u19=>?_;have n14_19:=n14_18.upda (Av.of_own o14 ((g9.trans g10).has b8).lt) u19;have n14b_19:=n14b_18.upda (Av.of_own o14b ((g9.trans g10).has b8).lt) u19;have n16_19:=n16_18.upda (Av.of_own o16 (((g9.trans g10).trans g14).has b8).lt) u19;have n17_19:=n17_18.upda (Av.of_own o17 ((((g9.trans g10).trans g14).trans g16).has b8).lt) u19;have b18_19:=AH.has.updr b18 (Nat.ne_of_lt (Nat.lt_of_lt_of_le (b7).lt (Nat.le_refl _))) u19;have b9_19:=AH.has.updr b9_18 (Nat.ne_of_gt (Nat.lt_of_lt_of_le (b8).lt (Nat.le_refl _))) u19;refine Runs.step (AH.has.rd b18_19 0 rfl rfl) ?_;refine Runs.step (AH.has.rd b18_19 1 rfl (asSl_v _)) ?_;refine Runs.step (AH.has.rd b19 0 rfl rfl) ?_;refine Runs.step (AH.has.rd b19 1 rfl (asSl_v _)) ?_;cases e;cases good;exact Runs.ret ⟨s16,s17,rfl,n16_19,n17_19,((((((((((g5.trans g6).trans g7).trans g8).trans g9).trans g10).trans g14).trans g16).trans g17).updr (Nat.le_trans ((g5.trans g6)).size (Nat.le_refl _)) u18).updr (Nat.le_trans (((g5.trans g6).trans g7)).size (Nat.le_refl _)) u19),(o16.of_le ((((((g5.trans g6).trans g7).trans g8).trans g9).trans g10).trans g14)),(o17.of_le (((((((g5.trans g6).trans g7).trans g8).trans g9).trans g10).trans g14).trans g16))⟩
theorem kbbg{s:khg}{r:kge}(it:Iter kvy s r):krc r s:=Iter.ind (fun s o e good=>by
 cases s with
 | fn a1 x2 a3 x4=>exact @kz8 _ _ a1 x2 a3 x4 e good
 | no=>exact True.intro
 ) it
def gcdN(xs ys:List Nat):List Nat×Int:=if rt xs=true∧rt ys=true then(digs B (Nat.gcd (num B xs) (num B ys)),0)else([],1)
theorem k94{xs ys:List Nat}(hx:rt xs=true)(hy:rt ys=true)(h0:ys≠[]):(divN xs ys).2.1=digs B (num B xs%num B ys):=by
 simp[divN,hx,hy,h0]
theorem kbk{n:Nat}(h:n<B^64):rt (digs B n)=true:=rt_iff.2 ⟨(kbs B2 n 64).2 h,khv B2 n⟩
theorem ksn{xs:List Nat}(hl:∀x∈xs,x<B)(h:rt xs=true):num B xs<B^64:=by
 have h1:=num_lt B1 hl;have h2:B^xs.length≤B^64:=Nat.pow_le_pow_right B1 (rt_iff.1 h).1;omega
theorem k1z:∀(b a:Nat),a<B^64→b<B^64→Iter koa (.p4 (digs B a) (digs B b)) (digs B (Nat.gcd a b),0):=by
 intro b
 induction b using Nat.strongRecOn with
 | ind b ih =>
  intro a ha hb;by_cases h0:b=0
  ·subst h0;refine .done ?_;show kgm _ _=_;unfold kgm;rw[kcz,Nat.gcd_zero_right];rfl
  ·have hm:=Nat.mod_lt a (show 0<b by omega);have hne:digs B b≠[]:=fun h=>h0 ((kfu B2).1 h);have hl:(digs B b).length≠0:=by simpa using hne
   refine .next (s':=.p4 (digs B b) (digs B (a%b))) ?_ (by
    have:=ih (a%b) hm b hb (by omega);rwa[Nat.gcd_comm b,← Nat.gcd_rec,Nat.gcd_comm b]at this)
   show kgm _ _=_;unfold kgm;rw[condT (by rw[decide_eq_true_eq];omega),k94 (kbk ha) (kbk hb) hne,kw B2,kw B2]
theorem kbae{xs ys:List Nat}(lx:∀x∈xs,x<B)(ly:∀x∈ys,x<B):Iter koa (.fn xs ys) (gcdN xs ys):=by
 unfold gcdN;cases hx:rt xs with
 | false =>
  refine .done ?_;show kel _ _=_;unfold kel;simp[hx]
 | true =>
  cases hy:rt ys with
  | false =>
   refine .done ?_;show kel _ _=_;unfold kel;simp[hx,hy]
  | true =>
   obtain⟨lx64,tx⟩:=rt_iff.1 hx;obtain⟨ly64,ty⟩:=rt_iff.1 hy;have key:=k1z (num B ys) (num B xs) (ksn lx hx) (ksn ly hy);rw[khs B2 lx tx,khs B2 ly ty]at key;simp only[and_self,if_true];refine .next ?_ key;show kel _ _=_;unfold kel;rw[hx,hy,kbq (by omega),Option.bind_some,kbq (by omega),Option.bind_some];rfl
theorem kt4{h:AH}{s t:Sl}{xs ys:List Nat}(n:Nats h s xs)(m:Nats h t ys):Runs (go (.fn kes [s.v,t.v]) h) (kq7 h (gcdN xs ys)):=k3d (kbae n.lt m.lt) n m
def floorI(p:Bool)(xs:List Nat)(q:Bool)(ys:List Nat):Bool×List Nat×Bool×List Nat×Int :=
 cond (!(rtI p xs&&rtI q ys)) (false,[],false,[],1)
  (cond (decide (ys=[])) (false,[],false,[],3)
   (cond q (false,[],false,[],1)
    (cond (p&&!decide ((divN xs ys).2.1=[]))
     (cond (decide ((addN (divN xs ys).1 [1]).2=0)) ((fromI true (addN (divN xs ys).1 [1]).1).1,(fromI true (addN (divN xs ys).1 [1]).1).2,(fromI false (subN ys (divN xs ys).2.1).1).1,(fromI false (subN ys (divN xs ys).2.1).1).2,0) (false,[],false,[],(addN (divN xs ys).1 [1]).2))
     ((fromI p (divN xs ys).1).1,(fromI p (divN xs ys).1).2,(fromI false (divN xs ys).2.1).1,(fromI false (divN xs ys).2.1).2,0))))
theorem kxw:digs B 1=[1]:=by decide +kernel
theorem kbdy:u64P 1=some 1:=kbr (n:=1) (by decide)
theorem ko4{xs:List Nat}:decide ((List.length xs:Int)=0)=decide (xs=[]):=by
 rw[decide_eq_decide];cases xs
 ·simp
 ·simp;omega
theorem k0y{xs:List Nat}:decide ((List.length xs:Int)>0)=!decide (xs=[]):=by
 cases xs
 ·rfl
 ·simp
theorem kbc1(p:Bool)(xs:List Nat)(q:Bool)(ys:List Nat):Iter kvy (.fn p xs q ys) (floorI p xs q ys):=by
 refine .done ?_;show kkc _ _ _ _=_;unfold kkc floorI;rw[ko4,k0y,kbdy];cases rtI p xs&&rtI q ys
 ·rfl
 ·cases decide (ys=[])
  ·cases q
   ·cases p
    ·rfl
    ·cases decide ((divN xs ys).2.1=[])
     ·simp only[Bool.not_true,Bool.not_false,cond_true,cond_false,Bool.and_self,Option.bind_some,kxw];cases decide ((addN (divN xs ys).1 [1]).2=0)
      ·rfl
      ·rfl
     ·rfl
   ·rfl
  ·rfl
theorem k97{h:AH}{s t:Sl}{xs ys:List Nat}(n:Nats h s xs)(m:Nats h t ys)(p q:Bool):Runs (go (.fn klh [.agg [.bool p,s.v],.agg [.bool q,t.v]]) h) (kvt h (floorI p xs q ys)):=kbbg (kbc1 p xs q ys) n m
def intD(z:Int):Bool×List Nat:=(decide (z<0),digs B z.natAbs)
theorem ko8(p:Bool):fromI p []=(false,[]):=by simp[fromI]
theorem kc8{n:Nat}(h:n<B^64)(neg:Bool):fromI neg (digs B n)=intD (if neg=true then -(n:Int)else(n:Int)):=by
 by_cases h0:n=0
 ·subst h0;rw[kcz,ko8];cases neg<;>simp[intD,kcz]
 ·have hne:digs B n≠[]:=fun e=>h0 ((kfu B2).1 e);unfold fromI intD;rw[if_pos ⟨kbk h,hne⟩];cases neg
  ·have e:((n:Int)).natAbs=n:=by omega
   have e2:decide ((n:Int)<0)=false:=by rw[decide_eq_false_iff_not];omega
   simp only[Bool.false_eq_true,if_false,e,e2]
  ·have e:(-(n:Int)).natAbs=n:=by omega
   have e2:decide (-(n:Int)<0)=true:=by rw[decide_eq_true_eq];omega
   simp only[if_true,e,e2]
theorem kcm{z:Int}(h:z.natAbs<B^64):rtI (intD z).1 (intD z).2=true:=by
 unfold rtI intD;dsimp only;rw[kbk h,Bool.true_and];by_cases hz:z<0
 ·have hne:digs B z.natAbs≠[]:=fun e=>by
   have:=(kfu B2).1 e;omega
  rw[decide_eq_true hz];simp[hne]
 ·rw[decide_eq_false hz];simp
theorem kmv{n:Nat}(h:n<B^64):told n=(digs B n,0):=by
 unfold told;rw[if_pos h]
theorem ku5{n:Nat}(h:¬n<B^64):told n=([],4):=by
 unfold told;rw[if_neg h]
theorem kox{u v:Int}(hu:u.natAbs<B^64)(hv:v.natAbs<B^64):kbm (intD u).1 (intD u).2 (intD v).1 (intD v).2=if(u*v).natAbs<B^64 then((intD (u*v)).1,(intD (u*v)).2,0)else(false,[],4):=by
 unfold kbm;rw[kcm hu,kcm hv]
 have e:mulN (intD u).2 (intD v).2=told (u.natAbs*v.natAbs):=by
  unfold mulN intD;dsimp only;rw[if_pos ⟨kbk hu,kbk hv⟩,kw B2,kw B2]
 rw[e,Int.natAbs_mul];simp only[Bool.and_self,Bool.not_true,cond_false];by_cases h:u.natAbs*v.natAbs<B^64
 ·rw[if_pos h,kmv h];dsimp only;rw[kc8 h]
  have key:(if(!((intD u).1==(intD v).1))=true then -((u.natAbs*v.natAbs:Nat):Int)else((u.natAbs*v.natAbs:Nat):Int))=u*v:=by
   unfold intD;dsimp only;rw[Int.natCast_mul];by_cases h1:u<0
   ·by_cases h2:v<0
    ·have e1:((u.natAbs:Nat):Int)=-u:=by omega
     have e2:((v.natAbs:Nat):Int)=-v:=by omega
     simp[h1,h2,e1,e2,Int.neg_mul,Int.mul_neg]
    ·have e1:((u.natAbs:Nat):Int)=-u:=by omega
     have e2:((v.natAbs:Nat):Int)=v:=by omega
     simp[h1,h2,e1,e2,Int.neg_mul,Int.mul_neg]
   ·by_cases h2:v<0
    ·have e1:((u.natAbs:Nat):Int)=u:=by omega
     have e2:((v.natAbs:Nat):Int)=-v:=by omega
     simp[h1,h2,e1,e2,Int.neg_mul,Int.mul_neg]
    ·have e1:((u.natAbs:Nat):Int)=u:=by omega
     have e2:((v.natAbs:Nat):Int)=v:=by omega
     simp[h1,h2,e1,e2,Int.neg_mul,Int.mul_neg]
  rw[key]
 ·rw[if_neg h,ku5 h];dsimp only;rw[ko8]
theorem kw5{u v:Int}(hu:u.natAbs<B^64)(hv:v.natAbs<B^64):kbv (intD u).1 (intD u).2 (intD v).1 (intD v).2=if(u+v).natAbs<B^64 then((intD (u+v)).1,(intD (u+v)).2,0)else(false,[],4):=by
 unfold kbv;rw[kcm hu,kcm hv];simp only[Bool.and_self,Bool.not_true,cond_false]
 have ea:addN (intD u).2 (intD v).2=told (u.natAbs+v.natAbs):=by
  unfold addN intD;dsimp only;rw[if_pos ⟨kbk hu,kbk hv⟩,kw B2,kw B2]
 have es:∀{a b:Int},a.natAbs<B^64→b.natAbs<B^64→b.natAbs≤a.natAbs→subN (intD a).2 (intD b).2=(digs B (a.natAbs-b.natAbs),0):=by
  intro a b ha hb hle;unfold subN intD;dsimp only;rw[if_pos ⟨kbk ha,kbk hb⟩,kw B2,kw B2,if_neg (by omega)]
 have ec:cmpN (intD u).2 (intD v).2=cmp u.natAbs v.natAbs:=by
  unfold cmpN intD;dsimp only;rw[if_pos ⟨kbk hu,kbk hv⟩,kw B2,kw B2]
 rw[ea,ec];have s1:(intD u).1=decide (u<0):=rfl;have s2:(intD v).1=decide (v<0):=rfl;rw[s1,s2];by_cases hs:(u<0↔v<0)
 ·have hb:(decide (u<0)==decide (v<0))=true:=by simp[hs]
  rw[hb,cond_true];by_cases h:u.natAbs+v.natAbs<B^64
  ·rw[if_pos (by omega),kmv h];dsimp only;rw[kc8 h]
   have:(if decide (u<0)=true then -((u.natAbs+v.natAbs:Nat):Int)else((u.natAbs+v.natAbs:Nat):Int))=u+v:=by
    by_cases h1:u<0
    ·simp only[h1,decide_true,if_true];omega
    ·simp only[h1,decide_false,Bool.false_eq_true,if_false];omega
   rw[this]
  ·rw[if_neg (by omega),ku5 h];dsimp only;rw[ko8]
 ·have hb:(decide (u<0)==decide (v<0))=false:=by
   by_cases h1:u<0<;>by_cases h2:v<0<;>simp_all
  rw[hb,cond_false,if_pos (by omega)];by_cases hc:u.natAbs<v.natAbs
  ·rw[condT (by rw[decide_eq_true_eq,cmp_lt];exact hc),es hv hu (by omega)];dsimp only;rw[kc8 (by omega)]
   have:(if decide (v<0)=true then -((v.natAbs-u.natAbs:Nat):Int)else((v.natAbs-u.natAbs:Nat):Int))=u+v:=by
    by_cases h1:v<0
    ·simp only[h1,decide_true,if_true];omega
    ·simp only[h1,decide_false,Bool.false_eq_true,if_false];omega
   rw[this]
  ·rw[condF (by rw[decide_eq_false_iff_not,cmp_lt];exact hc),es hu hv (by omega)];dsimp only;rw[kc8 (by omega)]
   have:(if decide (u<0)=true then -((u.natAbs-v.natAbs:Nat):Int)else((u.natAbs-v.natAbs:Nat):Int))=u+v:=by
    by_cases h1:u<0
    ·simp only[h1,decide_true,if_true];omega
    ·simp only[h1,decide_false,Bool.false_eq_true,if_false];omega
   rw[this]
theorem k05{v:Int}(hv:v.natAbs<B^64):negI (intD v).1 (intD v).2=intD (-v):=by
 unfold negI;rw[if_pos (kcm hv)];show fromI (!decide (v<0)) (digs B v.natAbs)=_;rw[kc8 hv];by_cases h1:v<0
 ·have e:((v.natAbs:Nat):Int)=-v:=by omega
  simp[h1,e]
 ·have e:((v.natAbs:Nat):Int)=v:=by omega
  simp[h1,e]
theorem k6o{u v:Int}(hu:u.natAbs<B^64)(hv:v.natAbs<B^64):kdn (intD u).1 (intD u).2 (intD v).1 (intD v).2=if(u-v).natAbs<B^64 then((intD (u-v)).1,(intD (u-v)).2,0)else(false,[],4):=by
 have e:kdn (intD u).1 (intD u).2 (intD v).1 (intD v).2=kbv (intD u).1 (intD u).2 (intD (-v)).1 (intD (-v)).2:=by
  unfold kdn;rw[kcm hu,kcm hv,k05 hv];rfl
 rw[e,kw5 hu (by omega)];rfl
theorem kui(n:Nat):intD (n:Int)=(false,digs B n):=by
 unfold intD;have:decide ((n:Int)<0)=false:=by rw[decide_eq_false_iff_not];omega
 rw[this];rfl
theorem kyq{u v:Int}(hu:u.natAbs<B^64)(hv:v.natAbs<B^64)(h0:0<v):floorI (intD u).1 (intD u).2 (intD v).1 (intD v).2=((intD (u/v)).1,(intD (u/v)).2,(intD (u%v)).1,(intD (u%v)).2,0):=by
 obtain⟨y,rfl⟩:∃y:Nat,v=(y:Int):=⟨v.toNat,by omega⟩;have hy:y<B^64:=by simpa using hv
 have hy0:0<y:=by omega
 have hne:(intD (y:Int)).2≠[]:=fun e=>by
  have:y=0:=by simpa[intD]using (kfu B2).1 e
  omega
 unfold floorI;rw[kcm hu,kcm hv];have sy:(intD (y:Int)).1=false:=by rw[kui]
 have dv:divN (intD u).2 (intD (y:Int)).2=(digs B (u.natAbs/y),digs B (u.natAbs%y),0):=by
  unfold divN;rw[if_pos ⟨rtI_rt (kcm hu),rtI_rt (kcm hv)⟩,if_neg hne];simp only[intD,kw B2,Int.natAbs_natCast]
 have hQ:u.natAbs/y<B^64:=Nat.lt_of_le_of_lt (Nat.div_le_self _ _) hu;have hR:u.natAbs%y<B^64:=Nat.lt_trans (Nat.mod_lt _ hy0) hy;have dm:=Nat.div_add_mod u.natAbs y;have hm:=Nat.mod_lt u.natAbs hy0;rw[dv,sy];simp only[Bool.and_self,Bool.not_true,cond_false,hne,decide_false];have s1:(intD u).1=decide (u<0):=rfl;rw[s1];have hr0:(digs B (u.natAbs%y)=[])↔u.natAbs%y=0:=kfu B2;by_cases hc:u<0∧u.natAbs%y≠0
 ·have b1:(decide (u<0)&&!decide (digs B (u.natAbs%y)=[]))=true:=by
   rw[Bool.and_eq_true,decide_eq_true_eq,Bool.not_eq_true',decide_eq_false_iff_not,hr0];exact hc
  rw[b1,cond_true];have h1:[1]=digs B 1:=kxw.symm
  have hq1:u.natAbs/y+1<B^64:=by
   have hy2:2≤y:=by
    rcases Nat.lt_or_ge y 2 with h | h
    ·have:y=1:=by omega
     subst this;rw[Nat.mod_one]at hc;exact absurd rfl hc.2
    ·exact h
   have:u.natAbs/y≤u.natAbs/2:=Nat.div_le_div_left hy2 (by omega);have hb:2<B^64:=by decide +kernel
   omega
  have au:addN (digs B (u.natAbs/y)) [1]=(digs B (u.natAbs/y+1),0):=by
   unfold addN;rw[h1,if_pos ⟨kbk hQ,kbk (by decide +kernel)⟩,kw B2,kw B2,kmv hq1]
  have su:subN (intD (y:Int)).2 (digs B (u.natAbs%y))=(digs B (y-u.natAbs%y),0):=by
   rw[kui];unfold subN;rw[if_pos ⟨kbk hy,kbk hR⟩,kw B2,kw B2,if_neg (by omega)]
  rw[au,su];dsimp only;rw[kc8 hq1,kc8 (by omega)]
  have e1:u/(y:Int)=-((u.natAbs/y+1:Nat):Int):=by
   have hu':u=-((y*(u.natAbs/y)+u.natAbs%y:Nat):Int):=by rw[dm];omega
   generalize u.natAbs/y=q at *
   generalize u.natAbs%y=r at *
   rw[hu'];rw[Int.ediv_eq_iff_of_pos (by omega)];constructor
   ·rw[Int.natCast_add,Int.natCast_add,Int.natCast_mul,Int.neg_mul,Int.add_mul,Int.mul_comm (q:Int)];omega
   ·rw[Int.natCast_add,Int.natCast_add,Int.natCast_mul,Int.neg_mul,Int.add_mul,Int.mul_comm (q:Int)];omega
  have e2:u%(y:Int)=((y-u.natAbs%y:Nat):Int):=by
   have:=Int.mul_ediv_add_emod u (y:Int);rw[e1]at this
   have dm':((y:Int)*((u.natAbs/y:Nat):Int))+((u.natAbs%y:Nat):Int)=((u.natAbs:Nat):Int):=by
    rw[← Int.natCast_mul,← Int.natCast_add,dm]
   rw[Int.natCast_add,Int.mul_neg,Int.mul_add]at this;omega
  rw[e1,e2];rfl
 ·have b1:(decide (u<0)&&!decide (digs B (u.natAbs%y)=[]))=false:=by
   rw[← Bool.not_eq_true,Bool.and_eq_true,decide_eq_true_eq,Bool.not_eq_true',decide_eq_false_iff_not,hr0];exact hc
  rw[b1,cond_false,kc8 hQ,kc8 hR]
  have dm':((y:Int)*((u.natAbs/y:Nat):Int))+((u.natAbs%y:Nat):Int)=((u.natAbs:Nat):Int):=by
   rw[← Int.natCast_mul,← Int.natCast_add,dm]
  by_cases hneg:u<0
  ·have hr:u.natAbs%y=0:=by
    rcases Nat.eq_zero_or_pos (u.natAbs%y)with h | h
    ·exact h
    ·exact absurd ⟨hneg,by omega⟩ hc
   rw[hr]at dm'⊢
   have hu':u=(y:Int)*-((u.natAbs/y:Nat):Int):=by
    rw[Int.mul_neg];omega
   have e1:u/(y:Int)=-((u.natAbs/y:Nat):Int):=by
    conv=>lhs;rw[hu']
    exact Int.mul_ediv_cancel_left _ (by omega)
   have e2:u%(y:Int)=0:=by
    conv=>lhs;rw[hu']
    exact Int.mul_emod_right _ _
   rw[e1,e2,if_pos (by simpa using hneg)];rfl
  ·have hu':u=((u.natAbs:Nat):Int):=by omega
   have e1:u/(y:Int)=((u.natAbs/y:Nat):Int):=by
    conv=>lhs;rw[hu']
    rfl
   have e2:u%(y:Int)=((u.natAbs%y:Nat):Int):=by
    conv=>lhs;rw[hu']
    rfl
   rw[e1,e2,if_neg (by simpa using hneg)];rfl
theorem k9y{u v:Int}(hu:u.natAbs<B^64)(h0:0<v):(u/v).natAbs<B^64∧(u/v).natAbs≤u.natAbs:=by
 have h1:=Int.mul_ediv_add_emod u v;have h2:=Int.emod_nonneg u (show v≠0 by omega);have h3:=Int.emod_lt_of_pos u h0
 have key:(u/v).natAbs≤u.natAbs:=by
  by_cases hn:u<0
  ·have hq:u/v<0:=Int.ediv_neg_of_neg_of_pos hn h0
   have:u≤u/v:=by
    have h4:v*(u/v)≤1*(u/v):=Int.mul_le_mul_of_nonpos_right (by omega) (by omega);rcases Int.lt_or_le (u/v) u with h5 | h5
    ·exfalso;have h6:u/v+1≤u:=by omega
     have h7:v*(u/v+1)=v*(u/v)+v:=by rw[Int.mul_add,Int.mul_one]
     have h8:v*(u/v+1)≤1*(u/v+1):=Int.mul_le_mul_of_nonpos_right (by omega) (by omega);omega
    ·exact h5
   omega
  ·have hq:0≤u/v:=Int.ediv_nonneg (by omega) (by omega);have h4:1*(u/v)≤v*(u/v):=Int.mul_le_mul_of_nonneg_right (by omega) hq;omega
 exact⟨by omega,key⟩
theorem kha:18446744073709551616*18446744073709551616≤B^64:=by
 have:B^64=B*B*B^62:=by
  rw[show 64=2+62 from rfl,Nat.pow_add,Nat.pow_two]
 rw[this];have h:1≤B^62:=Nat.pow_pos B1;have:=Nat.mul_le_mul_left (B*B) h;rw[Nat.mul_one]at this;exact this
theorem krg{n:Int}(h:n.natAbs<18446744073709551616):ofI n=intD n:=by
 have hb:n.natAbs<B^64:=by have:=kha;omega
 unfold ofI;rw[kc8 hb];by_cases h1:n<0
 ·rw[decide_eq_true h1];have e:((n.natAbs:Nat):Int)=-n:=by omega
  simp[e]
 ·rw[decide_eq_false h1];have e:((n.natAbs:Nat):Int)=n:=by omega
  simp[e]
theorem klf(n:Int){h:AH}(c:-9223372036854775808≤n∧n≤9223372036854775807):∃(s':Sl)(h':AH),go (.fn kg1 [.int .i64 n]) h=some (.agg [.bool (ofI n).1,s'.v],h')∧Nats h' s' (ofI n).2∧Grow h h'∧Own h s':=k55 c.1 c.2
end Go.Ab
set_option maxRecDepth 10000
namespace Go.Ab
open Go.Proofs
theorem koh(n a b:Int)(h:AH):go (.fn kcu [.int .i64 n,.int .i64 a,.int .i64 b]) h=some (.bool (decide (a≤n∧n≤b)),h):=by
 rw[kbbq];by_cases h1:a≤n<;>simp[h1]
structure Cfg where
 (trees depth lambda gamma num den loss clip:Int)
@[reducible] def Cfg.v(c:Cfg):AV:=.agg [.int .i64 c.trees,.int .i64 c.depth,.int .i64 c.lambda,.int .i64 c.gamma,.int .i64 c.num,.int .i64 c.den,.int .i64 c.loss,.int .i64 c.clip]
def Cfg.right(c:Cfg):Bool:=decide (1≤c.trees∧c.trees≤16∧1≤c.depth∧c.depth≤5∧1≤c.lambda∧c.lambda≤1048576∧0≤c.gamma∧c.gamma≤1048576∧1≤c.den∧c.den≤1048576∧1≤c.num∧c.num≤c.den∧(c.loss=0∧c.clip=0∨c.loss=1∧1≤c.clip∧c.clip≤1048576))
theorem kpr(c:Cfg)(h:AH):∃h',go (.fn kim [c.v]) h=some (.bool c.right,h')∧Grow h h':=by
 rw[k4j];simp[koh,cond_eq_ite];refine⟨_,?_,Grow.push _ (.cells [.int .i64 c.trees,.int .i64 c.depth,.int .i64 c.lambda,.int .i64 c.gamma,.int .i64 c.num,.int .i64 c.den,.int .i64 c.loss,.int .i64 c.clip] kdu)⟩;unfold Cfg.right
 repeat' split
 all_goals
  refine k2z ?_;simp only[Bool.and_eq_true,decide_eq_true_eq,Bool.false_eq_true,false_iff];omega
def Cfg.grad(c:Cfg)(s l:Int):Int×Int :=
 if c.right=true∧-1099511627776≤s∧s≤1099511627776∧-1048576≤l∧l≤1048576 then
  (let m:=if c.loss=1 then c.clip else 1048576
   if s-l < -m then -m else if s-l>m then m else s-l,0)
 else(0,1)
theorem Cfg.right_clip{c:Cfg}(h:c.right=true)(h1:c.loss=1):1≤c.clip∧c.clip≤1048576:=by
 unfold Cfg.right at h;simp only[decide_eq_true_eq]at h;omega
theorem k2f(c:Cfg)(s l:Int)(h:AH):∃h',go (.fn krf [c.v,.int .i64 s,.int .i64 l]) h=some (.tup [.int .i64 (c.grad s l).1,.int .i64 (c.grad s l).2],h')∧Grow h h':=by
 rw[kbbp];simp;obtain⟨h1,e1,g1⟩:=kpr c (h.push (.cells [.int .i64 c.trees,.int .i64 c.depth,.int .i64 c.lambda,.int .i64 c.gamma,.int .i64 c.num,.int .i64 c.den,.int .i64 c.loss,.int .i64 c.clip] kdu));rw[e1];simp[koh,cond_eq_ite,g1.cell_new];refine⟨h1,?_,g1.push'⟩;unfold Cfg.grad;cases hr:c.right with
 | false=>simp
 | true =>
  have hc:=Cfg.right_clip hr;by_cases a1:-1099511627776≤s<;>by_cases a2:s≤1099511627776<;>simp[a1,a2];by_cases a3:-1048576≤l<;>by_cases a4:l≤1048576<;>simp[a3,a4];rw[wrap64 (n:=s-l) (by omega) (by omega)];by_cases a5:c.loss=1
  ·have:=hc a5;simp only[a5,if_true];rw[wrap64 (n:=-c.clip) (by omega) (by omega),kmq,kl6];simp
   repeat' split
   all_goals omega
  ·simp only[a5,if_false];rw[wrap64 (n:=-1048576) (by omega) (by omega),kmq,kl6];simp
   repeat' split
   all_goals omega
end Go.Ab
set_option maxRecDepth 10000
namespace Go.Ab
open Go.Proofs Go.Num
def smallN(xs:List Nat):Nat×Bool:=if rt xs=true∧xs.length≤1 then(xs.getD 0 0,true)else(0,false)
theorem kwh{h:AH}{s:Sl}{xs:List Nat}(n:Nats h s xs):go (.fn kqz [s.v]) h=some (.tup [.int .u64 ((smallN xs).1:Int),.bool (smallN xs).2],h):=by
 rw[k7b,kfa n];have hl:=n.len;simp only[Option.bind_some,kcf];cases hrt:rt xs with
 | false=>simp[smallN,hrt]
 | true =>
  simp only[Bool.not_true,cond_false];by_cases h1:xs.length≤1
  ·rw[show decide ((s.len:Int)>1)=false from by rw[decide_eq_false_iff_not];omega,cond_false];simp only[smallN,hrt,h1,and_self,if_true];by_cases h0:xs.length=0
   ·rw[show decide ((s.len:Int)=0)=true from by rw[decide_eq_true_eq];omega,cond_true,List.length_eq_zero_iff.1 h0];rfl
   ·rw[show decide ((s.len:Int)=0)=false from by rw[decide_eq_false_iff_not];omega,cond_false];obtain⟨r,e1,e2⟩:=n.at (i:=0) (by omega);rw[show idx s.ref s.len 0 1=some r from e1];simp only[Option.bind_some,e2,ke];rw[kcj (by omega)]
  ·rw[show decide ((s.len:Int)>1)=true from by rw[decide_eq_true_eq];omega];simp[smallN,h1]
def smallI(neg:Bool)(xs:List Nat):Int×Bool :=
 if rtI neg xs=true∧(smallN xs).2=true∧(smallN xs).1≤(if neg=true then 9223372036854775808 else 9223372036854775807)then((if neg=true then -((smallN xs).1:Int)else((smallN xs).1:Int)),true)else(0,false)
theorem k3h{h:AH}{s:Sl}{xs:List Nat}(n:Nats h s xs)(neg:Bool):∃h',go (.fn kob [.agg [.bool neg,s.v]]) h=some (.tup [.int .i64 (smallI neg xs).1,.bool (smallI neg xs).2],h')∧Grow h h':=by
 rw[k62];simp only[kcp];have b0:=AH.has_push h [.bool neg,s.v] ki;have g0:=Grow.push h (.cells [.bool neg,s.v] ki);have n0:=n.grow g0;generalize h.push (.cells [.bool neg,s.v] ki)=h0 at *
 obtain⟨h1,e1,g1⟩:=kkt n0 neg;have b1:=g1.has b0;refine⟨h1,?_,g0.trans g1⟩
 have hb:(smallN xs).1<18446744073709551616:=by
  unfold smallN;split
  ·rename_i hx;rcases Nat.eq_zero_or_pos xs.length with h0' | h0'
   ·rw[List.length_eq_zero_iff.1 h0'];decide
   ·rw[kcj h0'];exact n.lt _ (List.getElem_mem _)
  ·decide
 have w1:IntKind.wrap .u64 (9223372036854775807+1)=9223372036854775808:=by rw[wrapU];rfl
 cases neg with
 | true =>
  simp only[Ref.add_new,Nat.zero_add,b0.cell,b1.cell,List.getElem?_cons_zero,List.getElem?_cons_succ,Option.bind_some,kcf,asSl_v,kwh n0,ke4,ke,cond_true,e1,w1];unfold smallI;cases rtI true xs<;>cases(smallN xs).2<;>simp;by_cases hle:(smallN xs).1≤9223372036854775808
  ·rw[show decide (9223372036854775808<((smallN xs).1:Int))=false from by rw[decide_eq_false_iff_not];omega];simp only[cond_false,hle,if_true];congr 3;rw[wrapU];simp[IntKind.wrap,IntKind.bits,IntKind.signed];omega
  ·rw[show decide (9223372036854775808<((smallN xs).1:Int))=true from by rw[decide_eq_true_eq];omega];simp[hle]
 | false =>
  simp only[Ref.add_new,Nat.zero_add,b0.cell,b1.cell,List.getElem?_cons_zero,List.getElem?_cons_succ,Option.bind_some,kcf,asSl_v,kwh n0,ke4,ke,cond_false,e1];unfold smallI;cases rtI false xs<;>cases(smallN xs).2<;>simp;by_cases hle:(smallN xs).1≤9223372036854775807
  ·rw[show decide (9223372036854775807<((smallN xs).1:Int))=false from by rw[decide_eq_false_iff_not];omega];simp only[cond_false,hle,if_true];rw[wrap64 (by omega) (by omega)]
  ·rw[show decide (9223372036854775807<((smallN xs).1:Int))=true from by rw[decide_eq_true_eq];omega];simp[hle]
def kbj(a1:Bool)(x2 x3:List Nat):Bool :=
 cond (!(rtI a1 x2)) (false) (cond (!(rt x3)) (false) (cond (decide ((List.length x3:Int)=0)) (false) (cond (decide ((List.length x3:Int)>16)) (false) (cond (decide ((List.length x2:Int)>16)) (false) (decide ((cmpN ((gcdN x2 x3).1) [1])=0))))))
theorem k6y{h:AH}{a2:Sl}{x2:List Nat}{a3:Sl}{x3:List Nat}(n2:Nats h a2 x2)(n3:Nats h a3 x3)(a1:Bool):Runs (go (.fn ko5 [.agg [.bool a1,a2.v,a3.v]]) h) fun v h'=>v=.bool (kbj a1 x2 x3)∧Grow h h':=by
 rw[kba2];refine Runs.new fun H4 b4 g4=>?_;refine Runs.step (AH.has.rd b4 0 rfl rfl) ?_;refine Runs.step (AH.has.rd b4 1 rfl (asSl_v _)) ?_;obtain⟨H5,e5,g5⟩:=kkt (n2.grow g4) a1;refine Runs.step e5 ?_;refine Runs.step (seen rfl) ?_;refine Runs.cond (fun k6=>?_) (fun k6=>?_)
 ·have z:kbj a1 x2 x3=false:=by unfold kbj;exact(condT k6).trans rfl
  rw[z];exact Runs.ret ⟨rfl,(g4.trans g5)⟩
 ·refine Runs.step (AH.has.rd (g5.has b4) 2 rfl (asSl_v _)) ?_;refine Runs.step (kfa (n3.grow (g4.trans g5))) ?_;refine Runs.step (seen rfl) ?_;refine Runs.cond (fun k8=>?_) (fun k8=>?_)
  ·have z:kbj a1 x2 x3=false:=by unfold kbj;exact(condF k6).trans ((condT k8).trans rfl)
   rw[z];exact Runs.ret ⟨rfl,(g4.trans g5)⟩
  ·refine Runs.step (AH.has.rd (g5.has b4) 2 rfl (asSl_v _)) ?_;rw[(n3.grow (g4.trans g5)).len];refine Runs.cond (fun k9=>?_) (fun k9=>?_)
   ·have z:kbj a1 x2 x3=false:=by unfold kbj;exact(condF k6).trans ((condF k8).trans ((condT k9).trans rfl))
    rw[z];exact Runs.ret ⟨rfl,(g4.trans g5)⟩
   ·refine Runs.step (AH.has.rd (g5.has b4) 2 rfl (asSl_v _)) ?_;rw[(n3.grow (g4.trans g5)).len];refine Runs.cond (fun k10=>?_) (fun k10=>?_)
    ·have z:kbj a1 x2 x3=false:=by unfold kbj;exact(condF k6).trans ((condF k8).trans ((condF k9).trans ((condT k10).trans rfl)))
     rw[z];exact Runs.ret ⟨rfl,(g4.trans g5)⟩
    ·refine Runs.step (AH.has.rd (g5.has b4) 1 rfl (asSl_v _)) ?_;rw[(n2.grow (g4.trans g5)).len];refine Runs.cond (fun k11=>?_) (fun k11=>?_)
     ·have z:kbj a1 x2 x3=false:=by unfold kbj;exact(condF k6).trans ((condF k8).trans ((condF k9).trans ((condF k10).trans ((condT k11).trans rfl))))
      rw[z];exact Runs.ret ⟨rfl,(g4.trans g5)⟩
     ·refine Runs.step (AH.has.rd (g5.has b4) 1 rfl (asSl_v _)) ?_;refine Runs.step (AH.has.rd (g5.has b4) 2 rfl (asSl_v _)) ?_;obtain⟨_,H12,e12,s12,rfl,n12,g12,o12⟩:=kt4 (n2.grow (g4.trans g5)) (n3.grow (g4.trans g5));refine Runs.step e12 ?_;refine Runs.step rfl ?_;refine Runs.step (seen (asSl_v _)) ?_;refine Runs.step (seen (ke _ _)) ?_;refine Runs.new fun H13 b13 g13=>?_;obtain⟨H14,e14,g14⟩:=kmc (n12.grow g13) (Nats.of_has (xs:=[1]) b13 (by decide) (by decide));refine Runs.step e14 ?_;refine Runs.step (seen (ke _ _)) ?_;have z:kbj a1 x2 x3=decide ((cmpN ((gcdN x2 x3).1) [1])=0):=by unfold kbj;exact(condF k6).trans ((condF k8).trans ((condF k9).trans ((condF k10).trans ((condF k11).trans rfl))))
      rw[z];have G15:=((((g4.trans g5).trans g12).trans g13).trans g14);exact Runs.ret ⟨rfl,G15⟩
def kbg(a1:Bool)(x2 x3:List Nat):Bool×List Nat×List Nat×Int :=
 cond (!(rtI a1 x2)) ((false,[],[],1)) (cond (!(rt x3)) ((false,[],[],1)) (cond (decide ((List.length x3:Int)=0)) ((false,[],[],3)) (cond (decide ((imax (List.length ((divN x2 ((gcdN x2 x3).1)).1):Int) (List.length ((divN x3 ((gcdN x2 x3).1)).1):Int))>16)) ((false,[],[],4)) (((((fromI a1 ((divN x2 ((gcdN x2 x3).1)).1)).1)),(fromI a1 ((divN x2 ((gcdN x2 x3).1)).1)).2,(divN x3 ((gcdN x2 x3).1)).1,0)))))
theorem ko3{h:AH}{a2:Sl}{x2:List Nat}{a3:Sl}{x3:List Nat}(n2:Nats h a2 x2)(n3:Nats h a3 x3)(a1:Bool):Runs (go (.fn kj3 [.agg [.bool a1,a2.v],a3.v]) h) fun v h'=>∃s1:Sl,∃s2:Sl,v=.tup [.agg [.bool (kbg a1 x2 x3).1,s1.v,s2.v],.int .i64 (kbg a1 x2 x3).2.2.2]∧Nats h' s1 ((kbg a1 x2 x3).2.1)∧Nats h' s2 ((kbg a1 x2 x3).2.2.1)∧Grow h h'∧Own h s1∧Own h s2:=by
 rw[k84];rw[n3.len];refine Runs.new fun H4 b4 g4=>?_;refine Runs.new fun H5 b5 g5=>?_;refine Runs.step (AH.has.rd (g5.has b4) 0 rfl rfl) ?_;refine Runs.step (AH.has.rd (g5.has b4) 1 rfl (asSl_v _)) ?_;obtain⟨H6,e6,g6⟩:=kkt (n2.grow (g4.trans g5)) a1;refine Runs.step e6 ?_;refine Runs.step (seen rfl) ?_;refine Runs.cond (fun k7=>?_) (fun k7=>?_)
 ·refine Runs.puts (g6.has b5) rfl fun H8 b8 u8=>?_;refine Runs.step (AH.has.rd b8 0 rfl rfl) ?_;refine Runs.step (AH.has.rd b8 1 rfl (asSl_v _)) ?_;refine Runs.step (AH.has.rd b8 2 rfl (asSl_v _)) ?_;have z:kbg a1 x2 x3=(false,[],[],1):=by unfold kbg;exact(condT k7).trans rfl
  rw[z];have G9:=(((g4.trans g5).trans g6).updr (Nat.le_trans (g4).size (Nat.le_refl _)) u8);exact Runs.ret ⟨(⟨none,0,.is 0⟩:Sl),(⟨none,0,.is 0⟩:Sl),rfl,(Nats.nil _),(Nats.nil _),G9,(Own.nil _),(Own.nil _)⟩
 ·have G8:=((g4.trans g5).trans g6);have n3_9:=n3.grow G8;refine Runs.step (kfa n3_9) ?_;refine Runs.step (seen rfl) ?_;refine Runs.cond (fun k11=>?_) (fun k11=>?_)
  ·refine Runs.puts (g6.has b5) rfl fun H12 b12 u12=>?_;have n3_12:=n3_9.upda (Av.of_base n3 (Nat.le_trans (g4).size (Nat.le_refl _))) u12;refine Runs.step (AH.has.rd b12 0 rfl rfl) ?_;refine Runs.step (AH.has.rd b12 1 rfl (asSl_v _)) ?_;refine Runs.step (AH.has.rd b12 2 rfl (asSl_v _)) ?_;have z:kbg a1 x2 x3=(false,[],[],1):=by unfold kbg;exact(condF k7).trans ((condT k11).trans rfl)
   rw[z];have G13:=(G8.updr (Nat.le_trans (g4).size (Nat.le_refl _)) u12);exact Runs.ret ⟨(⟨none,0,.is 0⟩:Sl),(⟨none,0,.is 0⟩:Sl),rfl,(Nats.nil _),(Nats.nil _),G13,(Own.nil _),(Own.nil _)⟩
  ·refine Runs.cond (fun k12=>?_) (fun k12=>?_)
   ·refine Runs.puts (g6.has b5) rfl fun H13 b13 u13=>?_;have n3_13:=n3_9.upda (Av.of_base n3 (Nat.le_trans (g4).size (Nat.le_refl _))) u13;refine Runs.step (AH.has.rd b13 0 rfl rfl) ?_;refine Runs.step (AH.has.rd b13 1 rfl (asSl_v _)) ?_;refine Runs.step (AH.has.rd b13 2 rfl (asSl_v _)) ?_;have z:kbg a1 x2 x3=(false,[],[],3):=by unfold kbg;exact(condF k7).trans ((condF k11).trans ((condT k12).trans rfl))
    rw[z];have G14:=(G8.updr (Nat.le_trans (g4).size (Nat.le_refl _)) u13);exact Runs.ret ⟨(⟨none,0,.is 0⟩:Sl),(⟨none,0,.is 0⟩:Sl),rfl,(Nats.nil _),(Nats.nil _),G14,(Own.nil _),(Own.nil _)⟩
   ·refine Runs.step (AH.has.rd ((g5.trans g6).has b4) 1 rfl (asSl_v _)) ?_;have n2_13:=n2.grow G8;obtain⟨_,H14,e14,s14,rfl,n14,g14,o14⟩:=kt4 n2_13 n3_9;refine Runs.step e14 ?_;refine Runs.step rfl ?_;refine Runs.step (seen (asSl_v _)) ?_;refine Runs.step (seen (ke _ _)) ?_;have G15:=((g5.trans g6).trans g14);have b4_16:=G15.has b4;refine Runs.step (AH.has.rd b4_16 1 rfl (asSl_v _)) ?_;obtain⟨s17,s17b,H17,e17,n17,n17b,g17,o17,o17b⟩:=kmt (n2_13.grow g14) n14;refine Runs.step e17 ?_;refine Runs.step rfl ?_;refine Runs.step (seen (asSl_v _)) ?_;rw[n17.len];refine Runs.step (seen (asSl_v _)) ?_;refine Runs.step (seen (ke _ _)) ?_;obtain⟨s18,s18b,H18,e18,n18,n18b,g18,o18,o18b⟩:=kmt (n3_9.grow (g14.trans g17)) (n14.grow g17);refine Runs.step e18 ?_;refine Runs.step rfl ?_;refine Runs.step (seen (asSl_v _)) ?_;rw[n18.len];refine Runs.step (seen (asSl_v _)) ?_;refine Runs.step (seen (ke _ _)) ?_;refine Runs.cond (fun k19=>?_) (fun k19=>?_)
    ·have G21:=(((g6.trans g14).trans g17).trans g18);have b5_22:=G21.has b5;refine Runs.puts b5_22 rfl fun H20 b20 u20=>?_;have G23:=((g14.trans g17).trans g18);have n2_24:=n2_13.grow G23;have n2_20:=n2_24.upda (Av.of_base n2 (Nat.le_trans (g4).size (Nat.le_refl _))) u20;have n3_25:=n3_9.grow G23;have n3_20:=n3_25.upda (Av.of_base n3 (Nat.le_trans (g4).size (Nat.le_refl _))) u20;have n14_20:=(n14.grow (g17.trans g18)).upda (Av.of_own o14 (g6.has b5).lt) u20;have n17_20:=(n17.grow g18).upda (Av.of_own o17 ((g6.trans g14).has b5).lt) u20;have n17b_20:=(n17b.grow g18).upda (Av.of_own o17b ((g6.trans g14).has b5).lt) u20;have G26:=((g6.trans g14).trans g17);have n18_20:=n18.upda (Av.of_own o18 (G26.has b5).lt) u20;have n18b_20:=n18b.upda (Av.of_own o18b (G26.has b5).lt) u20;have b4_20:=AH.has.updr ((g17.trans g18).has b4_16) (Nat.ne_of_lt (Nat.lt_of_lt_of_le (b4).lt (Nat.le_refl _))) u20;refine Runs.step (AH.has.rd b20 0 rfl rfl) ?_;refine Runs.step (AH.has.rd b20 1 rfl (asSl_v _)) ?_;refine Runs.step (AH.has.rd b20 2 rfl (asSl_v _)) ?_;have z:kbg a1 x2 x3=(false,[],[],4):=by unfold kbg;exact(condF k7).trans ((condF k11).trans ((condF k12).trans ((condT k19).trans rfl)))
     rw[z];have G27:=((((G8.trans g14).trans g17).trans g18).updr (Nat.le_trans (g4).size (Nat.le_refl _)) u20);exact Runs.ret ⟨(⟨none,0,.is 0⟩:Sl),(⟨none,0,.is 0⟩:Sl),rfl,(Nats.nil _),(Nats.nil _),G27,(Own.nil _),(Own.nil _)⟩
    ·refine Runs.step (AH.has.rd ((g17.trans g18).has b4_16) 0 rfl rfl) ?_;obtain⟨s20,H20,e20,n20,g20,o20⟩:=kco (n17.grow g18) a1;refine Runs.step e20 ?_;refine Runs.step rfl ?_;refine Runs.ifT rfl ?_;refine Runs.step (seenAt rfl rfl) ?_;refine Runs.step (seenAt rfl (asSl_v _)) ?_;have G22:=((((g6.trans g14).trans g17).trans g18).trans g20);have b5_23:=G22.has b5;refine Runs.puts b5_23 rfl fun H21 b21 u21=>?_;have G24:=(((g14.trans g17).trans g18).trans g20);have n2_25:=n2_13.grow G24;have n2_21:=n2_25.upda (Av.of_base n2 (Nat.le_trans (g4).size (Nat.le_refl _))) u21;have n3_26:=n3_9.grow G24;have n3_21:=n3_26.upda (Av.of_base n3 (Nat.le_trans (g4).size (Nat.le_refl _))) u21;have G27:=((g17.trans g18).trans g20);have n14_28:=n14.grow G27;have n14_21:=n14_28.upda (Av.of_own o14 (g6.has b5).lt) u21;have n17_21:=(n17.grow (g18.trans g20)).upda (Av.of_own o17 ((g6.trans g14).has b5).lt) u21;have n17b_21:=(n17b.grow (g18.trans g20)).upda (Av.of_own o17b ((g6.trans g14).has b5).lt) u21;have G29:=((g6.trans g14).trans g17);have n18_21:=(n18.grow g20).upda (Av.of_own o18 (G29.has b5).lt) u21;have n18b_21:=(n18b.grow g20).upda (Av.of_own o18b (G29.has b5).lt) u21;have G30:=(G29.trans g18);have n20_21:=n20.upda (Av.of_own o20 (G30.has b5).lt) u21;have b4_31:=G27.has b4_16;have b4_21:=AH.has.updr b4_31 (Nat.ne_of_lt (Nat.lt_of_lt_of_le (b4).lt (Nat.le_refl _))) u21;refine Runs.step (AH.has.rd b21 0 rfl rfl) ?_;refine Runs.step (AH.has.rd b21 1 rfl (asSl_v _)) ?_;refine Runs.step (AH.has.rd b21 2 rfl (asSl_v _)) ?_;have z:kbg a1 x2 x3=((((fromI a1 ((divN x2 ((gcdN x2 x3).1)).1)).1)),(fromI a1 ((divN x2 ((gcdN x2 x3).1)).1)).2,(divN x3 ((gcdN x2 x3).1)).1,0):=by unfold kbg;exact(condF k7).trans ((condF k11).trans ((condF k12).trans ((condF k19).trans rfl)))
     rw[z];have G32:=(((G8.trans g14).trans g17).trans g18);have G33:=((G8.trans g14).trans g17);have G34:=((G32.trans g20).updr (Nat.le_trans (g4).size (Nat.le_refl _)) u21);exact Runs.ret ⟨s20,s18,rfl,n20_21,n18_21,G34,(o20.of_le G32),(o18.of_le G33)⟩
def kg(a1:Bool)(x2 x3:List Nat)(a4:Bool)(x5 x6:List Nat):Bool×List Nat :=
 (((((kbm a1 x2 ((fromI false x6).1) ((fromI false x6).2)).1))),(kbm a1 x2 ((fromI false x6).1) ((fromI false x6).2)).2.1)
theorem klk{h:AH}{a2:Sl}{x2:List Nat}{a3:Sl}{x3:List Nat}{a5:Sl}{x5:List Nat}{a6:Sl}{x6:List Nat}(n2:Nats h a2 x2)(n3:Nats h a3 x3)(n5:Nats h a5 x5)(n6:Nats h a6 x6)(a1 a4:Bool):Runs (go (.fn kio [.agg [.bool a1,a2.v,a3.v],.agg [.bool a4,a5.v,a6.v]]) h) fun v h'=>∃s1:Sl,v=.agg [.bool (kg a1 x2 x3 a4 x5 x6).1,s1.v]∧Nats h' s1 ((kg a1 x2 x3 a4 x5 x6).2)∧Grow h h'∧Own h s1:=by
 rw[k0o];refine Runs.new fun H7 b7 g7=>?_;refine Runs.new fun H8 b8 g8=>?_;refine Runs.new fun H9 b9 g9=>?_;refine Runs.new fun H10 b10 g10=>?_;have G11:=((g8.trans g9).trans g10);have b7_12:=G11.has b7;refine Runs.step (AH.has.rd b7_12 0 rfl rfl) ?_;refine Runs.step (AH.has.rd b7_12 1 rfl (asSl_v _)) ?_;refine Runs.step (AH.has.rd ((g9.trans g10).has b8) 2 rfl (asSl_v _)) ?_;have G13:=(((g7.trans g8).trans g9).trans g10);have n6_14:=n6.grow G13;obtain⟨s15,H15,e15,n15,g15,o15⟩:=kco n6_14 false;refine Runs.step e15 ?_;refine Runs.step rfl ?_;refine Runs.ifT rfl ?_;refine Runs.step (seenAt rfl rfl) ?_;refine Runs.step (seenAt rfl (asSl_v _)) ?_;refine Runs.when (g15.same b7_12 0 2) ?_;refine Runs.when (g15.same b10 0 0) ?_;have G16:=(G13.trans g15);have n2_17:=n2.grow G16;obtain⟨_,H18,e18,s18,rfl,n18,g18,o18⟩:=kqc n2_17 n15 a1 ((fromI false x6).1);refine Runs.step e18 ?_;refine Runs.step rfl ?_;refine Runs.step rfl ?_;refine Runs.ifT rfl ?_;refine Runs.step (seenAt rfl rfl) ?_;refine Runs.step (seenAt rfl (asSl_v _)) ?_;refine Runs.step (seen (ke _ _)) ?_;refine Runs.when (g18.same (g15.has b10) 0 0) ?_;refine Runs.puts ((g15.trans g18).has b10) rfl fun H19 b19 u19=>?_;have G20:=((g7.trans g8).trans g9);have n2_19:=(n2_17.grow g18).upda (Av.of_base n2 (Nat.le_trans (G20).size (Nat.le_refl _))) u19;have n6_19:=(n6_14.grow (g15.trans g18)).upda (Av.of_base n6 (Nat.le_trans (G20).size (Nat.le_refl _))) u19;have n15_19:=(n15.grow g18).upda (Av.of_own o15 (b10).lt) u19;have n18_19:=n18.upda (Av.of_own o18 (g15.has b10).lt) u19;have b7_19:=AH.has.updr ((g15.trans g18).has b7_12) (Nat.ne_of_lt (Nat.lt_of_lt_of_le ((g8.trans g9).has b7).lt (Nat.le_refl _))) u19;refine Runs.step (AH.has.rd b19 0 rfl rfl) ?_;refine Runs.step (AH.has.rd b19 1 rfl (asSl_v _)) ?_;have G22:=(((g10.trans g15).trans g18).updr (Nat.le_refl _) u19);have b9_23:=G22.has b9;refine Runs.puts b9_23 rfl fun H21 b21 u21=>?_;have n2_21:=n2_19.upda (Av.of_base n2 (Nat.le_trans ((g7.trans g8)).size (Nat.le_refl _))) u21;have n6_21:=n6_19.upda (Av.of_base n6 (Nat.le_trans ((g7.trans g8)).size (Nat.le_refl _))) u21;have n15_21:=n15_19.upda (Av.of_own o15 (g10.has b9).lt) u21;have n18_21:=n18_19.upda (Av.of_own o18 ((g10.trans g15).has b9).lt) u21;have b7_21:=AH.has.updr b7_19 (Nat.ne_of_lt (Nat.lt_of_lt_of_le (g8.has b7).lt (Nat.le_refl _))) u21;have b19_21:=AH.has.updr b19 (Nat.ne_of_gt (Nat.lt_of_lt_of_le (b9).lt (Nat.le_refl _))) u21;refine Runs.step (AH.has.rd b21 0 rfl rfl) ?_;refine Runs.step (AH.has.rd b21 1 rfl (asSl_v _)) ?_;have z:kg a1 x2 x3 a4 x5 x6=(((((kbm a1 x2 ((fromI false x6).1) ((fromI false x6).2)).1))),(kbm a1 x2 ((fromI false x6).1) ((fromI false x6).2)).2.1):=by unfold kg;exact rfl
 rw[z];have G24:=(((G16.trans g18).updr (Nat.le_trans (G20).size (Nat.le_refl _)) u19).updr (Nat.le_trans ((g7.trans g8)).size (Nat.le_refl _)) u21);exact Runs.ret ⟨s18,rfl,n18_21,G24,(o18.of_le G16)⟩
abbrev FRow:=Bool×(Sl×List Nat)×(Sl×List Nat)
structure FRows(h:AH)(s:Sl)(rows:List FRow):Prop where
 cells:Cells h s 3 (rows.flatMap fun p=>[.bool p.1,p.2.1.1.v,p.2.2.1.v])
 num:∀p∈rows,Nats h p.2.1.1 p.2.1.2
 den:∀p∈rows,Nats h p.2.2.1 p.2.2.2
 short:rows.length≤9223372036854775807
theorem FRows.grow{h h':AH}(g:Grow h h'){s:Sl}{rows:List FRow}(n:FRows h s rows):FRows h' s rows:=⟨n.cells.grow g,fun p hp=>(n.num p hp).grow g,fun p hp=>(n.den p hp).grow g,n.short⟩
theorem kta:∀(rows:List FRow)(i:Nat)(hi:i<rows.length),
  (rows.flatMap fun p=>[AV.bool p.1,p.2.1.1.v,p.2.2.1.v])[i*3]?=some (AV.bool rows[i].1)∧(rows.flatMap fun p=>[AV.bool p.1,p.2.1.1.v,p.2.2.1.v])[i*3+1]?=some rows[i].2.1.1.v∧(rows.flatMap fun p=>[AV.bool p.1,p.2.1.1.v,p.2.2.1.v])[i*3+2]?=some rows[i].2.2.1.v
 | [],i,hi=>by simp at hi
 | p::rows,0,hi=>by simp
 | p::rows,i+1,hi=>by
  have:=kta rows i (by simpa using hi);rw[show(i+1)*3=i*3+3 from by omega]
  simpa using this
theorem FRows.len{h:AH}{s:Sl}{rows:List FRow}(n:FRows h s rows):s.len=rows.length:=by
 have:=n.cells.len
 have hl:(rows.flatMap fun p=>[AV.bool p.1,p.2.1.1.v,p.2.2.1.v]).length=rows.length*3:=by
  generalize rows=l
  induction l with
  | nil=>rfl
  | cons a l ih=>rw[List.flatMap_cons,List.length_append,ih];simp;omega
 omega
theorem FRows.at{h:AH}{s:Sl}{rows:List FRow}(n:FRows h s rows){i:Nat}(hi:i<rows.length):∃r,idx s.ref s.len (i:Int) 3=some r∧h.cell (r.add 0)=some (.bool rows[i].1)∧h.cell (r.add 1)=some rows[i].2.1.1.v∧h.cell (r.add 2)=some rows[i].2.2.1.v:=by
 obtain⟨p1,p2,p3⟩:=kta rows i hi;obtain⟨r,e1,e2⟩:=n.cells.get _ _ p1;obtain⟨r',e3,e4⟩:=n.cells.get _ _ p2;obtain⟨r'',e5,e6⟩:=n.cells.get _ _ p3;rw[e1]at e3 e5;cases e3;cases e5;refine⟨r.add (i*3),?_,by simpa using e2,by rw[Ref.add_add];exact e4,by rw[Ref.add_add];exact e6⟩;rw[e1,kcy _ _ _ _ (by omega) (by rw[n.len];omega)];simp
theorem FRows.two{h:AH}{i:Nat}{a a' b b':Sl}{xs xs' ys ys':List Nat}{p q:Bool}(c:h.has i [.bool p,a.v,a'.v,.bool q,b.v,b'.v] kba)(n:Nats h a xs)(n':Nats h a' xs')(m:Nats h b ys)(m':Nats h b' ys') :
  FRows h ⟨some (.new i 0),2,.is 2⟩ [(p,(a,xs),(a',xs')),(q,(b,ys),(b',ys'))]:=⟨Cells.of_has c rfl,fun r hr=>by
  simp at hr;rcases hr with rfl | rfl
  ·exact n
  ·exact m,fun r hr=>by
  simp at hr;rcases hr with rfl | rfl
  ·exact n'
  ·exact m',by simp⟩
theorem k3k{h:AH}{s t:Sl}{xs ys:List Nat}(n:Nats h s xs)(m:Nats h t ys)(neg:Bool):∃h',go (.fn kdp [.agg [.bool neg,s.v,t.v]]) h=some (.bool (!kbj neg xs ys),h')∧Grow h h':=by
 rw[kbd9];simp only[kcp];have b0:=AH.has_push h [.bool neg,s.v,t.v] kba;have g0:=Grow.push h (.cells [.bool neg,s.v,t.v] kba);generalize h.push (.cells [.bool neg,s.v,t.v] kba)=h0 at *
 obtain⟨_,h1,e1,rfl,g1⟩:=k6y (n.grow g0) (m.grow g0) neg;exact⟨h1,by simp[b0.cell,e1],g0.trans g1⟩
theorem kv4{s:Sl}{rows:List FRow}:∀(k i:Nat),i+k=rows.length→∀{h:AH},FRows h s rows→
  ∃(j:Int)(h':AH),go (.pt khi kmd [(0,s.v),(1,.func (.func kdp) [] []),(7,.int .i64 (rows.length:Int)),(8,.int .i64 (i:Int))]) h=some (.int .i64 j,h')∧
   (j≥0↔(rows.drop i).all (fun p=>kbj p.1 p.2.1.2 p.2.2.2)=false)∧Grow h h'
 | 0,i,hi,h,n=>by
  rw[kwr,show decide ((i:Int)<(rows.length:Int))=false from by rw[decide_eq_false_iff_not];omega,List.drop_of_length_le (by omega)];exact⟨-1,h,rfl,by simp,Grow.refl h⟩
 | k+1,i,hi,h,n=>by
  have hs:=n.short;obtain⟨r,e1,e2,e3,e3'⟩:=n.at (i:=i) (by omega);have hp:=n.num rows[i] (List.getElem_mem _);have hq:=n.den rows[i] (List.getElem_mem _);obtain⟨h1,e4,g1⟩:=k3k hp hq rows[i].1;rw[kwr,show decide ((i:Int)<(rows.length:Int))=true from by rw[decide_eq_true_eq];omega,cond_true,e1];simp only[Option.bind_some,e2,e3,e3',asSl_v,kcf,e4];rw[List.drop_eq_getElem_cons (by omega),List.all_cons,ko (by omega)];cases hr:kbj rows[i].1 (rows[i].2.1.2) (rows[i].2.2.2)with
  | false=>exact⟨(i:Int),h1,rfl,by simp,g1⟩
  | true =>
   obtain⟨j,h2,e5,e6,g2⟩:=kv4 k (i+1) (by omega) (n.grow g1);exact⟨j,h2,e5,by simpa using e6,g1.trans g2⟩
theorem kbea{h:AH}{s:Sl}{rows:List FRow}(n:FRows h s rows):∃h',go (.fn kj1 [s.v]) h=some (.bool (rows.all fun p=>kbj p.1 p.2.1.2 p.2.2.2),h')∧Grow h h':=by
 obtain⟨j,h',e1,e2,g⟩:=kv4 rows.length 0 (by omega) n;refine⟨h',?_,g⟩;rw[kbdg,kyp,k6c,n.len];rw[show(0:Int)=((0:Nat):Int)from rfl,e1];simp only[Option.bind_some,ke,kcf];rw[List.drop_zero]at e2;cases ha:rows.all fun p=>kbj p.1 p.2.1.2 p.2.2.2 with
 | false=>rw[ha]at e2;simp at e2;simp;omega
 | true=>rw[ha]at e2;simp at e2;simp;omega
theorem kx4{h:AH}{i:Nat}{a a' b b':Sl}{xs xs' ys ys':List Nat}{p q:Bool}(c:h.has i [.bool p,a.v,a'.v,.bool q,b.v,b'.v] kba)(n:Nats h a xs)(n':Nats h a' xs')(m:Nats h b ys)(m':Nats h b' ys') :
  ∃h',go (.fn kj1 [(⟨some (.new i 0),2,.is 2⟩:Sl).v]) h=some (.bool (kbj p xs xs'&&kbj q ys ys'),h')∧Grow h h':=by
 obtain⟨h',e,g⟩:=kbea (FRows.two c n n' m m');exact⟨h',by rw[e];simp,g⟩
def OpS(fu:FuncId)(op:Bool→List Nat→Bool→List Nat→Bool×List Nat×Int):Prop:=∀{h:AH}{a2:Sl}{x2:List Nat}{a4:Sl}{x4:List Nat},Nats h a2 x2→Nats h a4 x4→∀a1 a3:Bool,Runs (go (.fn fu [.agg [.bool a1,a2.v],.agg [.bool a3,a4.v]]) h) fun v h'=>∃s1:Sl,v=.tup [.agg [.bool (op a1 x2 a3 x4).1,s1.v],.int .i64 (op a1 x2 a3 x4).2.2]∧Nats h' s1 ((op a1 x2 a3 x4).2.1)∧Grow h h'∧Own h s1
def kda(op:Bool→List Nat→Bool→List Nat→Bool×List Nat×Int)(a1:Bool)(x2 x3:List Nat)(a4:Bool)(x5 x6:List Nat):Bool×List Nat×List Nat×Int :=
 cond (!((kbj a1 x2 x3&&kbj a4 x5 x6))) ((false,[],[],1)) (((((kbg (((op ((kg a1 x2 x3 a4 x5 x6).1) ((kg a1 x2 x3 a4 x5 x6).2) ((kg a4 x5 x6 a1 x2 x3).1) ((kg a4 x5 x6 a1 x2 x3).2)).1)) ((op ((kg a1 x2 x3 a4 x5 x6).1) ((kg a1 x2 x3 a4 x5 x6).2) ((kg a4 x5 x6 a1 x2 x3).1) ((kg a4 x5 x6 a1 x2 x3).2)).2.1) ((mulN x3 x6).1)).1)),(kbg (((op ((kg a1 x2 x3 a4 x5 x6).1) ((kg a1 x2 x3 a4 x5 x6).2) ((kg a4 x5 x6 a1 x2 x3).1) ((kg a4 x5 x6 a1 x2 x3).2)).1)) ((op ((kg a1 x2 x3 a4 x5 x6).1) ((kg a1 x2 x3 a4 x5 x6).2) ((kg a4 x5 x6 a1 x2 x3).1) ((kg a4 x5 x6 a1 x2 x3).2)).2.1) ((mulN x3 x6).1)).2.1,(kbg (((op ((kg a1 x2 x3 a4 x5 x6).1) ((kg a1 x2 x3 a4 x5 x6).2) ((kg a4 x5 x6 a1 x2 x3).1) ((kg a4 x5 x6 a1 x2 x3).2)).1)) ((op ((kg a1 x2 x3 a4 x5 x6).1) ((kg a1 x2 x3 a4 x5 x6).2) ((kg a4 x5 x6 a1 x2 x3).1) ((kg a4 x5 x6 a1 x2 x3).2)).2.1) ((mulN x3 x6).1)).2.2.1,((kbg (((op ((kg a1 x2 x3 a4 x5 x6).1) ((kg a1 x2 x3 a4 x5 x6).2) ((kg a4 x5 x6 a1 x2 x3).1) ((kg a4 x5 x6 a1 x2 x3).2)).1)) ((op ((kg a1 x2 x3 a4 x5 x6).1) ((kg a1 x2 x3 a4 x5 x6).2) ((kg a4 x5 x6 a1 x2 x3).1) ((kg a4 x5 x6 a1 x2 x3).2)).2.1) ((mulN x3 x6).1)).2.2.2)))
theorem kug{fu:FuncId}{op:Bool→List Nat→Bool→List Nat→Bool×List Nat×Int}(S:OpS fu op){h:AH}{a2:Sl}{x2:List Nat}{a3:Sl}{x3:List Nat}{a5:Sl}{x5:List Nat}{a6:Sl}{x6:List Nat}(n2:Nats h a2 x2)(n3:Nats h a3 x3)(n5:Nats h a5 x5)(n6:Nats h a6 x6)(a1 a4:Bool):Runs (both_T fu a1 a2 a3 a4 a5 a6 h) fun v h'=>∃s1:Sl,∃s2:Sl,v=.tup [.agg [.bool (kda op a1 x2 x3 a4 x5 x6).1,s1.v,s2.v],.int .i64 (kda op a1 x2 x3 a4 x5 x6).2.2.2]∧Nats h' s1 ((kda op a1 x2 x3 a4 x5 x6).2.1)∧Nats h' s2 ((kda op a1 x2 x3 a4 x5 x6).2.2.1)∧Grow h h'∧Own h s1∧Own h s2:=by
 unfold both_T;refine Runs.new fun H7 b7 g7=>?_;refine Runs.new fun H8 b8 g8=>?_;refine Runs.new fun H9 b9 g9=>?_;refine Runs.step (AH.has.rd ((g8.trans g9).has b7) 0 rfl rfl) ?_;refine Runs.step (AH.has.rd ((g8.trans g9).has b7) 1 rfl (asSl_v _)) ?_;refine Runs.step (AH.has.rd ((g8.trans g9).has b7) 2 rfl (asSl_v _)) ?_;refine Runs.step (AH.has.rd (g9.has b8) 0 rfl rfl) ?_;refine Runs.step (AH.has.rd (g9.has b8) 1 rfl (asSl_v _)) ?_;refine Runs.step (AH.has.rd (g9.has b8) 2 rfl (asSl_v _)) ?_;refine Runs.new fun H10 b10 g10=>?_;have G11:=(((g7.trans g8).trans g9).trans g10);have n2_12:=n2.grow G11;have n3_13:=n3.grow G11;have n5_14:=n5.grow G11;have n6_15:=n6.grow G11;obtain⟨H16,e16,g16⟩:=kx4 b10 n2_12 n3_13 n5_14 n6_15;refine Runs.step e16 ?_;refine Runs.step (seen rfl) ?_;refine Runs.cond (fun k17=>?_) (fun k17=>?_)
 ·refine Runs.puts ((g10.trans g16).has b9) rfl fun H18 b18 u18=>?_;have n2_18:=(n2_12.grow g16).upda (Av.of_base n2 (Nat.le_trans ((g7.trans g8)).size (Nat.le_refl _))) u18;have n3_18:=(n3_13.grow g16).upda (Av.of_base n3 (Nat.le_trans ((g7.trans g8)).size (Nat.le_refl _))) u18;have n5_18:=(n5_14.grow g16).upda (Av.of_base n5 (Nat.le_trans ((g7.trans g8)).size (Nat.le_refl _))) u18;have n6_18:=(n6_15.grow g16).upda (Av.of_base n6 (Nat.le_trans ((g7.trans g8)).size (Nat.le_refl _))) u18;have b10_18:=AH.has.updr (g16.has b10) (Nat.ne_of_gt (Nat.lt_of_lt_of_le (b9).lt (Nat.le_refl _))) u18;refine Runs.step (AH.has.rd b18 0 rfl rfl) ?_;refine Runs.step (AH.has.rd b18 1 rfl (asSl_v _)) ?_;refine Runs.step (AH.has.rd b18 2 rfl (asSl_v _)) ?_;have z:kda op a1 x2 x3 a4 x5 x6=(false,[],[],1):=by unfold kda;exact(condT k17).trans rfl
  rw[z];have G19:=((G11.trans g16).updr (Nat.le_trans ((g7.trans g8)).size (Nat.le_refl _)) u18);exact Runs.ret ⟨(⟨none,0,.is 0⟩:Sl),(⟨none,0,.is 0⟩:Sl),rfl,(Nats.nil _),(Nats.nil _),G19,(Own.nil _),(Own.nil _)⟩
 ·refine Runs.new fun H18 b18 g18=>?_;have G19:=((((g8.trans g9).trans g10).trans g16).trans g18);have b7_20:=G19.has b7;refine Runs.step (AH.has.rd b7_20 0 rfl rfl) ?_;refine Runs.step (AH.has.rd b7_20 1 rfl (asSl_v _)) ?_;refine Runs.step (AH.has.rd b7_20 2 rfl (asSl_v _)) ?_;have G21:=(((g9.trans g10).trans g16).trans g18);have b8_22:=G21.has b8;refine Runs.step (AH.has.rd b8_22 0 rfl rfl) ?_;refine Runs.step (AH.has.rd b8_22 1 rfl (asSl_v _)) ?_;refine Runs.step (AH.has.rd b8_22 2 rfl (asSl_v _)) ?_;refine Runs.step (AH.has.rd b8_22 0 rfl rfl) ?_;refine Runs.step (AH.has.rd b8_22 1 rfl (asSl_v _)) ?_;refine Runs.step (AH.has.rd b8_22 2 rfl (asSl_v _)) ?_;refine Runs.step (AH.has.rd b7_20 0 rfl rfl) ?_;refine Runs.step (AH.has.rd b7_20 1 rfl (asSl_v _)) ?_;refine Runs.step (AH.has.rd b7_20 2 rfl (asSl_v _)) ?_;obtain⟨_,H23,e23,s23,rfl,n23,g23,o23⟩:=klk (n2_12.grow (g16.trans g18)) (n3_13.grow (g16.trans g18)) (n5_14.grow (g16.trans g18)) (n6_15.grow (g16.trans g18)) a1 a4;refine Runs.step e23 ?_;refine Runs.step rfl ?_;refine Runs.ifT rfl ?_;refine Runs.step (seenAt rfl rfl) ?_;refine Runs.step (seenAt rfl (asSl_v _)) ?_;refine Runs.when (g23.same b7_20 0 3) ?_;refine Runs.when (g23.same b8_22 0 3) ?_;refine Runs.when (g23.same b18 0 0) ?_;have G24:=((g16.trans g18).trans g23);have n5_25:=n5_14.grow G24;have n6_26:=n6_15.grow G24;have n2_27:=n2_12.grow G24;have n3_28:=n3_13.grow G24;obtain⟨_,H29,e29,s29,rfl,n29,g29,o29⟩:=klk n5_25 n6_26 n2_27 n3_28 a4 a1;refine Runs.step e29 ?_;refine Runs.step rfl ?_;refine Runs.ifT rfl ?_;refine Runs.step (seenAt rfl rfl) ?_;refine Runs.step (seenAt rfl (asSl_v _)) ?_;refine Runs.when (g29.same (g23.has b18) 0 0) ?_;obtain⟨_,H30,e30,s30,rfl,n30,g30,o30⟩:=S (n23.grow g29) n29 ((kg a1 x2 x3 a4 x5 x6).1) ((kg a4 x5 x6 a1 x2 x3).1);refine Runs.step e30 ?_;refine Runs.step rfl ?_;refine Runs.step rfl ?_;refine Runs.ifT rfl ?_;refine Runs.step (seenAt rfl rfl) ?_;refine Runs.step (seenAt rfl (asSl_v _)) ?_;refine Runs.step (seen (ke _ _)) ?_;refine Runs.when (g30.same ((g23.trans g29).has b18) 0 0) ?_;have G32:=((g23.trans g29).trans g30);have b18_33:=G32.has b18;refine Runs.puts b18_33 rfl fun H31 b31 u31=>?_;have G34:=(G11.trans g16);have n2_31:=(n2_27.grow (g29.trans g30)).upda (Av.of_base n2 (Nat.le_trans (G34).size (Nat.le_refl _))) u31;have n3_31:=(n3_28.grow (g29.trans g30)).upda (Av.of_base n3 (Nat.le_trans (G34).size (Nat.le_refl _))) u31;have n5_31:=(n5_25.grow (g29.trans g30)).upda (Av.of_base n5 (Nat.le_trans (G34).size (Nat.le_refl _))) u31;have n6_31:=(n6_26.grow (g29.trans g30)).upda (Av.of_base n6 (Nat.le_trans (G34).size (Nat.le_refl _))) u31;have n23_31:=(n23.grow (g29.trans g30)).upda (Av.of_own o23 (b18).lt) u31;have n29_31:=(n29.grow g30).upda (Av.of_own o29 (g23.has b18).lt) u31;have n30_31:=n30.upda (Av.of_own o30 ((g23.trans g29).has b18).lt) u31;have b7_35:=G32.has b7_20;have G36:=(((g8.trans g9).trans g10).trans g16);have b7_31:=AH.has.updr b7_35 (Nat.ne_of_lt (Nat.lt_of_lt_of_le (G36.has b7).lt (Nat.le_refl _))) u31;have b8_37:=G32.has b8_22;have G38:=((g9.trans g10).trans g16);have b8_31:=AH.has.updr b8_37 (Nat.ne_of_lt (Nat.lt_of_lt_of_le (G38.has b8).lt (Nat.le_refl _))) u31;refine Runs.step (AH.has.rd b7_31 2 rfl (asSl_v _)) ?_;refine Runs.step (AH.has.rd b8_31 2 rfl (asSl_v _)) ?_;obtain⟨s39,H39,e39,n39,g39,o39⟩:=kte n3_31 n6_31;refine Runs.step e39 ?_;refine Runs.step rfl ?_;refine Runs.step (seen (asSl_v _)) ?_;refine Runs.step (seen (ke _ _)) ?_;refine Runs.step (AH.has.rd (g39.has b31) 0 rfl rfl) ?_;refine Runs.step (AH.has.rd (g39.has b31) 1 rfl (asSl_v _)) ?_;obtain⟨_,H40,e40,s40,s40b,rfl,n40,n40b,g40,o40,o40b⟩:=ko3 (n30_31.grow g39) n39 (((op ((kg a1 x2 x3 a4 x5 x6).1) ((kg a1 x2 x3 a4 x5 x6).2) ((kg a4 x5 x6 a1 x2 x3).1) ((kg a4 x5 x6 a1 x2 x3).2)).1));refine Runs.step e40 ?_;refine Runs.step rfl ?_;refine Runs.step rfl ?_;refine Runs.ifT rfl ?_;refine Runs.step (seenAt rfl rfl) ?_;refine Runs.step (seenAt rfl (asSl_v _)) ?_;refine Runs.step (seenAt rfl (asSl_v _)) ?_;refine Runs.step (seen (ke _ _)) ?_;have G42:=((((((((g10.trans g16).trans g18).trans g23).trans g29).trans g30).updr (Nat.le_trans ((g10.trans g16)).size (Nat.le_refl _)) u31).trans g39).trans g40);have b9_43:=G42.has b9;refine Runs.puts b9_43 rfl fun H41 b41 u41=>?_;have n2_41:=(n2_31.grow (g39.trans g40)).upda (Av.of_base n2 (Nat.le_trans ((g7.trans g8)).size (Nat.le_refl _))) u41;have n3_41:=(n3_31.grow (g39.trans g40)).upda (Av.of_base n3 (Nat.le_trans ((g7.trans g8)).size (Nat.le_refl _))) u41;have n5_41:=(n5_31.grow (g39.trans g40)).upda (Av.of_base n5 (Nat.le_trans ((g7.trans g8)).size (Nat.le_refl _))) u41;have n6_41:=(n6_31.grow (g39.trans g40)).upda (Av.of_base n6 (Nat.le_trans ((g7.trans g8)).size (Nat.le_refl _))) u41;have G44:=((g10.trans g16).trans g18);have n23_41:=(n23_31.grow (g39.trans g40)).upda (Av.of_own o23 (G44.has b9).lt) u41;have G45:=(G44.trans g23);have n29_41:=(n29_31.grow (g39.trans g40)).upda (Av.of_own o29 (G45.has b9).lt) u41;have G46:=(G45.trans g29);have n30_41:=(n30_31.grow (g39.trans g40)).upda (Av.of_own o30 (G46.has b9).lt) u41;have G47:=((G46.trans g30).updr (Nat.le_trans ((g10.trans g16)).size (Nat.le_refl _)) u31);have n39_41:=(n39.grow g40).upda (Av.of_own o39 (G47.has b9).lt) u41;have G48:=(G47.trans g39);have n40_41:=n40.upda (Av.of_own o40 (G48.has b9).lt) u41;have n40b_41:=n40b.upda (Av.of_own o40b (G48.has b9).lt) u41;have b7_41:=AH.has.updr ((g39.trans g40).has b7_31) (Nat.ne_of_lt (Nat.lt_of_lt_of_le (g8.has b7).lt (Nat.le_refl _))) u41;have b8_41:=AH.has.updr ((g39.trans g40).has b8_31) (Nat.ne_of_lt (Nat.lt_of_lt_of_le (b8).lt (Nat.le_refl _))) u41;have G49:=(((((G24.trans g29).trans g30).updr (Nat.le_trans (g16).size (Nat.le_refl _)) u31).trans g39).trans g40);have b10_50:=G49.has b10;have b10_41:=AH.has.updr b10_50 (Nat.ne_of_gt (Nat.lt_of_lt_of_le (b9).lt (Nat.le_refl _))) u41;have b31_41:=AH.has.updr ((g39.trans g40).has b31) (Nat.ne_of_gt (Nat.lt_of_lt_of_le ((g10.trans g16).has b9).lt (Nat.le_refl _))) u41;refine Runs.step (AH.has.rd b41 0 rfl rfl) ?_;refine Runs.step (AH.has.rd b41 1 rfl (asSl_v _)) ?_;refine Runs.step (AH.has.rd b41 2 rfl (asSl_v _)) ?_;have z:kda op a1 x2 x3 a4 x5 x6=((((kbg (((op ((kg a1 x2 x3 a4 x5 x6).1) ((kg a1 x2 x3 a4 x5 x6).2) ((kg a4 x5 x6 a1 x2 x3).1) ((kg a4 x5 x6 a1 x2 x3).2)).1)) ((op ((kg a1 x2 x3 a4 x5 x6).1) ((kg a1 x2 x3 a4 x5 x6).2) ((kg a4 x5 x6 a1 x2 x3).1) ((kg a4 x5 x6 a1 x2 x3).2)).2.1) ((mulN x3 x6).1)).1)),(kbg (((op ((kg a1 x2 x3 a4 x5 x6).1) ((kg a1 x2 x3 a4 x5 x6).2) ((kg a4 x5 x6 a1 x2 x3).1) ((kg a4 x5 x6 a1 x2 x3).2)).1)) ((op ((kg a1 x2 x3 a4 x5 x6).1) ((kg a1 x2 x3 a4 x5 x6).2) ((kg a4 x5 x6 a1 x2 x3).1) ((kg a4 x5 x6 a1 x2 x3).2)).2.1) ((mulN x3 x6).1)).2.1,(kbg (((op ((kg a1 x2 x3 a4 x5 x6).1) ((kg a1 x2 x3 a4 x5 x6).2) ((kg a4 x5 x6 a1 x2 x3).1) ((kg a4 x5 x6 a1 x2 x3).2)).1)) ((op ((kg a1 x2 x3 a4 x5 x6).1) ((kg a1 x2 x3 a4 x5 x6).2) ((kg a4 x5 x6 a1 x2 x3).1) ((kg a4 x5 x6 a1 x2 x3).2)).2.1) ((mulN x3 x6).1)).2.2.1,((kbg (((op ((kg a1 x2 x3 a4 x5 x6).1) ((kg a1 x2 x3 a4 x5 x6).2) ((kg a4 x5 x6 a1 x2 x3).1) ((kg a4 x5 x6 a1 x2 x3).2)).1)) ((op ((kg a1 x2 x3 a4 x5 x6).1) ((kg a1 x2 x3 a4 x5 x6).2) ((kg a4 x5 x6 a1 x2 x3).1) ((kg a4 x5 x6 a1 x2 x3).2)).2.1) ((mulN x3 x6).1)).2.2.2)):=by unfold kda;exact(condF k17).trans rfl
  rw[z];have G51:=((((((G34.trans g18).trans g23).trans g29).trans g30).updr (Nat.le_trans (G34).size (Nat.le_refl _)) u31).trans g39);have G52:=((G51.trans g40).updr (Nat.le_trans ((g7.trans g8)).size (Nat.le_refl _)) u41);exact Runs.ret ⟨s40,s40b,rfl,n40_41,n40b_41,G52,(o40.of_le G51),(o40b.of_le G51)⟩
def kc3:Bool→List Nat→List Nat→Bool→List Nat→List Nat→Bool×List Nat×List Nat×Int:=kda kbv
theorem kyi{h:AH}{a2:Sl}{x2:List Nat}{a3:Sl}{x3:List Nat}{a5:Sl}{x5:List Nat}{a6:Sl}{x6:List Nat}(n2:Nats h a2 x2)(n3:Nats h a3 x3)(n5:Nats h a5 x5)(n6:Nats h a6 x6)(a1 a4:Bool):Runs (go (.fn kh6 [.agg [.bool a1,a2.v,a3.v],.agg [.bool a4,a5.v,a6.v],.func (.func kf2) [] []]) h) fun v h'=>∃s1:Sl,∃s2:Sl,v=.tup [.agg [.bool (kc3 a1 x2 x3 a4 x5 x6).1,s1.v,s2.v],.int .i64 (kc3 a1 x2 x3 a4 x5 x6).2.2.2]∧Nats h' s1 ((kc3 a1 x2 x3 a4 x5 x6).2.1)∧Nats h' s2 ((kc3 a1 x2 x3 a4 x5 x6).2.2.1)∧Grow h h'∧Own h s1∧Own h s2:=by
 rw[k3c];exact kug (fun a b=>kvf a b) n2 n3 n5 n6 a1 a4
def kdo(a1:Bool)(x2 x3:List Nat)(a4:Bool)(x5 x6:List Nat):Bool×List Nat×List Nat×Int :=
 ((((kc3 a1 x2 x3 a4 x5 x6).1)),(kc3 a1 x2 x3 a4 x5 x6).2.1,(kc3 a1 x2 x3 a4 x5 x6).2.2.1,((kc3 a1 x2 x3 a4 x5 x6).2.2.2))
theorem k3q{h:AH}{a2:Sl}{x2:List Nat}{a3:Sl}{x3:List Nat}{a5:Sl}{x5:List Nat}{a6:Sl}{x6:List Nat}(n2:Nats h a2 x2)(n3:Nats h a3 x3)(n5:Nats h a5 x5)(n6:Nats h a6 x6)(a1 a4:Bool):Runs (go (.fn knk [.agg [.bool a1,a2.v,a3.v],.agg [.bool a4,a5.v,a6.v]]) h) fun v h'=>∃s1:Sl,∃s2:Sl,v=.tup [.agg [.bool (kdo a1 x2 x3 a4 x5 x6).1,s1.v,s2.v],.int .i64 (kdo a1 x2 x3 a4 x5 x6).2.2.2]∧Nats h' s1 ((kdo a1 x2 x3 a4 x5 x6).2.1)∧Nats h' s2 ((kdo a1 x2 x3 a4 x5 x6).2.2.1)∧Grow h h'∧Own h s1∧Own h s2:=by
 rw[k4n];refine Runs.new fun H7 b7 g7=>?_;refine Runs.new fun H8 b8 g8=>?_;refine Runs.new fun H9 b9 g9=>?_;refine Runs.step (AH.has.rd ((g8.trans g9).has b7) 0 rfl rfl) ?_;refine Runs.step (AH.has.rd ((g8.trans g9).has b7) 1 rfl (asSl_v _)) ?_;refine Runs.step (AH.has.rd ((g8.trans g9).has b7) 2 rfl (asSl_v _)) ?_;refine Runs.step (AH.has.rd (g9.has b8) 0 rfl rfl) ?_;refine Runs.step (AH.has.rd (g9.has b8) 1 rfl (asSl_v _)) ?_;refine Runs.step (AH.has.rd (g9.has b8) 2 rfl (asSl_v _)) ?_;have G10:=((g7.trans g8).trans g9);have n2_11:=n2.grow G10;have n3_12:=n3.grow G10;have n5_13:=n5.grow G10;have n6_14:=n6.grow G10;obtain⟨_,H15,e15,s15,s15b,rfl,n15,n15b,g15,o15,o15b⟩:=kyi n2_11 n3_12 n5_13 n6_14 a1 a4;refine Runs.step e15 ?_;refine Runs.step rfl ?_;refine Runs.step rfl ?_;refine Runs.ifT rfl ?_;refine Runs.step (seenAt rfl rfl) ?_;refine Runs.step (seenAt rfl (asSl_v _)) ?_;refine Runs.step (seenAt rfl (asSl_v _)) ?_;refine Runs.step (seen (ke _ _)) ?_;refine Runs.puts (g15.has b9) rfl fun H16 b16 u16=>?_;have n2_16:=(n2_11.grow g15).upda (Av.of_base n2 (Nat.le_trans ((g7.trans g8)).size (Nat.le_refl _))) u16;have n3_16:=(n3_12.grow g15).upda (Av.of_base n3 (Nat.le_trans ((g7.trans g8)).size (Nat.le_refl _))) u16;have n5_16:=(n5_13.grow g15).upda (Av.of_base n5 (Nat.le_trans ((g7.trans g8)).size (Nat.le_refl _))) u16;have n6_16:=(n6_14.grow g15).upda (Av.of_base n6 (Nat.le_trans ((g7.trans g8)).size (Nat.le_refl _))) u16;have n15_16:=n15.upda (Av.of_own o15 (b9).lt) u16;have n15b_16:=n15b.upda (Av.of_own o15b (b9).lt) u16;refine Runs.step (AH.has.rd b16 0 rfl rfl) ?_;refine Runs.step (AH.has.rd b16 1 rfl (asSl_v _)) ?_;refine Runs.step (AH.has.rd b16 2 rfl (asSl_v _)) ?_;have z:kdo a1 x2 x3 a4 x5 x6=((((kc3 a1 x2 x3 a4 x5 x6).1)),(kc3 a1 x2 x3 a4 x5 x6).2.1,(kc3 a1 x2 x3 a4 x5 x6).2.2.1,((kc3 a1 x2 x3 a4 x5 x6).2.2.2)):=by unfold kdo;exact rfl
 rw[z];have G17:=((G10.trans g15).updr (Nat.le_trans ((g7.trans g8)).size (Nat.le_refl _)) u16);exact Runs.ret ⟨s15,s15b,rfl,n15_16,n15b_16,G17,(o15.of_le G10),(o15b.of_le G10)⟩
theorem kz7{h:AH}{a2:Sl}{x2:List Nat}{a3:Sl}{x3:List Nat}{a5:Sl}{x5:List Nat}{a6:Sl}{x6:List Nat}(n2:Nats h a2 x2)(n3:Nats h a3 x3)(n5:Nats h a5 x5)(n6:Nats h a6 x6){a1 a4:Bool}{r:_}(q:kdo a1 x2 x3 a4 x5 x6=r):Runs (go (.fn knk [.agg [.bool a1,a2.v,a3.v],.agg [.bool a4,a5.v,a6.v]]) h) fun v h'=>∃s1:Sl,∃s2:Sl,v=.tup [.agg [.bool r.1,s1.v,s2.v],.int .i64 r.2.2.2]∧Nats h' s1 (r.2.1)∧Nats h' s2 (r.2.2.1)∧Grow h h'∧Own h s1∧Own h s2:=by
 subst q;exact k3q n2 n3 n5 n6 a1 a4
def kcx:Bool→List Nat→List Nat→Bool→List Nat→List Nat→Bool×List Nat×List Nat×Int:=kda kdn
theorem k5v{h:AH}{a2:Sl}{x2:List Nat}{a3:Sl}{x3:List Nat}{a5:Sl}{x5:List Nat}{a6:Sl}{x6:List Nat}(n2:Nats h a2 x2)(n3:Nats h a3 x3)(n5:Nats h a5 x5)(n6:Nats h a6 x6)(a1 a4:Bool):Runs (go (.fn kh6 [.agg [.bool a1,a2.v,a3.v],.agg [.bool a4,a5.v,a6.v],.func (.func khj) [] []]) h) fun v h'=>∃s1:Sl,∃s2:Sl,v=.tup [.agg [.bool (kcx a1 x2 x3 a4 x5 x6).1,s1.v,s2.v],.int .i64 (kcx a1 x2 x3 a4 x5 x6).2.2.2]∧Nats h' s1 ((kcx a1 x2 x3 a4 x5 x6).2.1)∧Nats h' s2 ((kcx a1 x2 x3 a4 x5 x6).2.2.1)∧Grow h h'∧Own h s1∧Own h s2:=by
 rw[kbdk];exact kug (fun a b=>k2x a b) n2 n3 n5 n6 a1 a4
def kdw(a1:Bool)(x2 x3:List Nat)(a4:Bool)(x5 x6:List Nat):Bool×List Nat×List Nat×Int :=
 ((((kcx a1 x2 x3 a4 x5 x6).1)),(kcx a1 x2 x3 a4 x5 x6).2.1,(kcx a1 x2 x3 a4 x5 x6).2.2.1,((kcx a1 x2 x3 a4 x5 x6).2.2.2))
theorem k2l{h:AH}{a2:Sl}{x2:List Nat}{a3:Sl}{x3:List Nat}{a5:Sl}{x5:List Nat}{a6:Sl}{x6:List Nat}(n2:Nats h a2 x2)(n3:Nats h a3 x3)(n5:Nats h a5 x5)(n6:Nats h a6 x6)(a1 a4:Bool):Runs (go (.fn kl7 [.agg [.bool a1,a2.v,a3.v],.agg [.bool a4,a5.v,a6.v]]) h) fun v h'=>∃s1:Sl,∃s2:Sl,v=.tup [.agg [.bool (kdw a1 x2 x3 a4 x5 x6).1,s1.v,s2.v],.int .i64 (kdw a1 x2 x3 a4 x5 x6).2.2.2]∧Nats h' s1 ((kdw a1 x2 x3 a4 x5 x6).2.1)∧Nats h' s2 ((kdw a1 x2 x3 a4 x5 x6).2.2.1)∧Grow h h'∧Own h s1∧Own h s2:=by
 rw[k1j];refine Runs.new fun H7 b7 g7=>?_;refine Runs.new fun H8 b8 g8=>?_;refine Runs.new fun H9 b9 g9=>?_;refine Runs.step (AH.has.rd ((g8.trans g9).has b7) 0 rfl rfl) ?_;refine Runs.step (AH.has.rd ((g8.trans g9).has b7) 1 rfl (asSl_v _)) ?_;refine Runs.step (AH.has.rd ((g8.trans g9).has b7) 2 rfl (asSl_v _)) ?_;refine Runs.step (AH.has.rd (g9.has b8) 0 rfl rfl) ?_;refine Runs.step (AH.has.rd (g9.has b8) 1 rfl (asSl_v _)) ?_;refine Runs.step (AH.has.rd (g9.has b8) 2 rfl (asSl_v _)) ?_;have G10:=((g7.trans g8).trans g9);have n2_11:=n2.grow G10;have n3_12:=n3.grow G10;have n5_13:=n5.grow G10;have n6_14:=n6.grow G10;obtain⟨_,H15,e15,s15,s15b,rfl,n15,n15b,g15,o15,o15b⟩:=k5v n2_11 n3_12 n5_13 n6_14 a1 a4;refine Runs.step e15 ?_;refine Runs.step rfl ?_;refine Runs.step rfl ?_;refine Runs.ifT rfl ?_;refine Runs.step (seenAt rfl rfl) ?_;refine Runs.step (seenAt rfl (asSl_v _)) ?_;refine Runs.step (seenAt rfl (asSl_v _)) ?_;refine Runs.step (seen (ke _ _)) ?_;refine Runs.puts (g15.has b9) rfl fun H16 b16 u16=>?_;have n2_16:=(n2_11.grow g15).upda (Av.of_base n2 (Nat.le_trans ((g7.trans g8)).size (Nat.le_refl _))) u16;have n3_16:=(n3_12.grow g15).upda (Av.of_base n3 (Nat.le_trans ((g7.trans g8)).size (Nat.le_refl _))) u16;have n5_16:=(n5_13.grow g15).upda (Av.of_base n5 (Nat.le_trans ((g7.trans g8)).size (Nat.le_refl _))) u16;have n6_16:=(n6_14.grow g15).upda (Av.of_base n6 (Nat.le_trans ((g7.trans g8)).size (Nat.le_refl _))) u16;have n15_16:=n15.upda (Av.of_own o15 (b9).lt) u16;have n15b_16:=n15b.upda (Av.of_own o15b (b9).lt) u16;refine Runs.step (AH.has.rd b16 0 rfl rfl) ?_;refine Runs.step (AH.has.rd b16 1 rfl (asSl_v _)) ?_;refine Runs.step (AH.has.rd b16 2 rfl (asSl_v _)) ?_;have z:kdw a1 x2 x3 a4 x5 x6=((((kcx a1 x2 x3 a4 x5 x6).1)),(kcx a1 x2 x3 a4 x5 x6).2.1,(kcx a1 x2 x3 a4 x5 x6).2.2.1,((kcx a1 x2 x3 a4 x5 x6).2.2.2)):=by unfold kdw;exact rfl
 rw[z];have G17:=((G10.trans g15).updr (Nat.le_trans ((g7.trans g8)).size (Nat.le_refl _)) u16);exact Runs.ret ⟨s15,s15b,rfl,n15_16,n15b_16,G17,(o15.of_le G10),(o15b.of_le G10)⟩
theorem k8c{h:AH}{a2:Sl}{x2:List Nat}{a3:Sl}{x3:List Nat}{a5:Sl}{x5:List Nat}{a6:Sl}{x6:List Nat}(n2:Nats h a2 x2)(n3:Nats h a3 x3)(n5:Nats h a5 x5)(n6:Nats h a6 x6){a1 a4:Bool}{r:_}(q:kdw a1 x2 x3 a4 x5 x6=r):Runs (go (.fn kl7 [.agg [.bool a1,a2.v,a3.v],.agg [.bool a4,a5.v,a6.v]]) h) fun v h'=>∃s1:Sl,∃s2:Sl,v=.tup [.agg [.bool r.1,s1.v,s2.v],.int .i64 r.2.2.2]∧Nats h' s1 (r.2.1)∧Nats h' s2 (r.2.2.1)∧Grow h h'∧Own h s1∧Own h s2:=by
 subst q;exact k2l n2 n3 n5 n6 a1 a4
def kgn(a1:Bool)(x2 x3:List Nat)(a4:Bool)(x5 x6:List Nat):Int :=
 cond (!((kbj a1 x2 x3&&kbj a4 x5 x6))) (0) ((cmpI ((kg a1 x2 x3 a4 x5 x6).1) ((kg a1 x2 x3 a4 x5 x6).2) ((kg a4 x5 x6 a1 x2 x3).1) ((kg a4 x5 x6 a1 x2 x3).2)))
theorem k8u{h:AH}{a2:Sl}{x2:List Nat}{a3:Sl}{x3:List Nat}{a5:Sl}{x5:List Nat}{a6:Sl}{x6:List Nat}(n2:Nats h a2 x2)(n3:Nats h a3 x3)(n5:Nats h a5 x5)(n6:Nats h a6 x6)(a1 a4:Bool):Runs (go (.fn kor [.agg [.bool a1,a2.v,a3.v],.agg [.bool a4,a5.v,a6.v]]) h) fun v h'=>v=.int .i64 (kgn a1 x2 x3 a4 x5 x6)∧Grow h h':=by
 rw[k8m];refine Runs.new fun H7 b7 g7=>?_;refine Runs.new fun H8 b8 g8=>?_;refine Runs.step (AH.has.rd (g8.has b7) 0 rfl rfl) ?_;refine Runs.step (AH.has.rd (g8.has b7) 1 rfl (asSl_v _)) ?_;refine Runs.step (AH.has.rd (g8.has b7) 2 rfl (asSl_v _)) ?_;refine Runs.step (AH.has.rd b8 0 rfl rfl) ?_;refine Runs.step (AH.has.rd b8 1 rfl (asSl_v _)) ?_;refine Runs.step (AH.has.rd b8 2 rfl (asSl_v _)) ?_;refine Runs.new fun H9 b9 g9=>?_;have G10:=((g7.trans g8).trans g9);have n2_11:=n2.grow G10;have n3_12:=n3.grow G10;have n5_13:=n5.grow G10;have n6_14:=n6.grow G10;obtain⟨H15,e15,g15⟩:=kx4 b9 n2_11 n3_12 n5_13 n6_14;refine Runs.step e15 ?_;refine Runs.step (seen rfl) ?_;refine Runs.cond (fun k16=>?_) (fun k16=>?_)
 ·have z:kgn a1 x2 x3 a4 x5 x6=0:=by unfold kgn;exact(condT k16).trans rfl
  rw[z];have G17:=(G10.trans g15);exact Runs.ret ⟨rfl,G17⟩
 ·have G17:=((g8.trans g9).trans g15);have b7_18:=G17.has b7;refine Runs.step (AH.has.rd b7_18 0 rfl rfl) ?_;refine Runs.step (AH.has.rd b7_18 1 rfl (asSl_v _)) ?_;refine Runs.step (AH.has.rd b7_18 2 rfl (asSl_v _)) ?_;refine Runs.step (AH.has.rd ((g9.trans g15).has b8) 0 rfl rfl) ?_;refine Runs.step (AH.has.rd ((g9.trans g15).has b8) 1 rfl (asSl_v _)) ?_;refine Runs.step (AH.has.rd ((g9.trans g15).has b8) 2 rfl (asSl_v _)) ?_;refine Runs.step (AH.has.rd ((g9.trans g15).has b8) 0 rfl rfl) ?_;refine Runs.step (AH.has.rd ((g9.trans g15).has b8) 1 rfl (asSl_v _)) ?_;refine Runs.step (AH.has.rd ((g9.trans g15).has b8) 2 rfl (asSl_v _)) ?_;refine Runs.step (AH.has.rd b7_18 0 rfl rfl) ?_;refine Runs.step (AH.has.rd b7_18 1 rfl (asSl_v _)) ?_;refine Runs.step (AH.has.rd b7_18 2 rfl (asSl_v _)) ?_;obtain⟨_,H19,e19,s19,rfl,n19,g19,o19⟩:=klk (n2_11.grow g15) (n3_12.grow g15) (n5_13.grow g15) (n6_14.grow g15) a1 a4;refine Runs.step e19 ?_;refine Runs.step rfl ?_;refine Runs.ifT rfl ?_;refine Runs.step (seenAt rfl rfl) ?_;refine Runs.step (seenAt rfl (asSl_v _)) ?_;refine Runs.when (g19.same b7_18 0 3) ?_;refine Runs.when (g19.same ((g9.trans g15).has b8) 0 3) ?_;obtain⟨_,H20,e20,s20,rfl,n20,g20,o20⟩:=klk (n5_13.grow (g15.trans g19)) (n6_14.grow (g15.trans g19)) (n2_11.grow (g15.trans g19)) (n3_12.grow (g15.trans g19)) a4 a1;refine Runs.step e20 ?_;refine Runs.step rfl ?_;refine Runs.ifT rfl ?_;refine Runs.step (seenAt rfl rfl) ?_;refine Runs.step (seenAt rfl (asSl_v _)) ?_;obtain⟨H21,e21,g21⟩:=k8z (n19.grow g20) n20 ((kg a1 x2 x3 a4 x5 x6).1) ((kg a4 x5 x6 a1 x2 x3).1);refine Runs.step e21 ?_;refine Runs.step (seen (ke _ _)) ?_;have z:kgn a1 x2 x3 a4 x5 x6=(cmpI ((kg a1 x2 x3 a4 x5 x6).1) ((kg a1 x2 x3 a4 x5 x6).2) ((kg a4 x5 x6 a1 x2 x3).1) ((kg a4 x5 x6 a1 x2 x3).2)):=by unfold kgn;exact(condF k16).trans rfl
  rw[z];have G22:=((((G10.trans g15).trans g19).trans g20).trans g21);exact Runs.ret ⟨rfl,G22⟩
def fracM(z:Int)(d:Nat):Bool×List Nat×List Nat×Int :=
 if z.natAbs/Nat.gcd z.natAbs d<B^16∧d/Nat.gcd z.natAbs d<B^16 then((intD (z/(Nat.gcd z.natAbs d:Int))).1,(intD (z/(Nat.gcd z.natAbs d:Int))).2,digs B (d/Nat.gcd z.natAbs d),0)else(false,[],[],4)
theorem kk4(m:Nat):decide ((List.length (digs B m):Int)>16)=!decide (m<B^16):=by
 have h:=kbs B2 m 16;by_cases k:m<B^16
 ·have:=h.2 k;rw[decide_eq_true k,decide_eq_false_iff_not.2 (by omega)];rfl
 ·have:¬(digs B m).length≤16:=fun e=>k (h.1 e);rw[decide_eq_false k,decide_eq_true_iff.2 (by omega)];rfl
theorem kth{a b:Nat}(ha:a<B^64)(hb:b<B^64):gcdN (digs B a) (digs B b)=(digs B (Nat.gcd a b),0):=by
 unfold gcdN;rw[if_pos ⟨kbk ha,kbk hb⟩,kw B2,kw B2]
theorem ksb{a b:Nat}(ha:a<B^64)(hb:b<B^64)(h0:b≠0):divN (digs B a) (digs B b)=(digs B (a/b),digs B (a%b),0):=by
 unfold divN;rw[if_pos ⟨kbk ha,kbk hb⟩,if_neg (fun e=>h0 ((kfu B2).1 e)),kw B2,kw B2]
theorem k6m{z:Int}{g:Nat}(h0:0<g)(h:g∣z.natAbs):z/(g:Int)=if z<0 then -((z.natAbs/g:Nat):Int)else((z.natAbs/g:Nat):Int):=by
 obtain⟨k,hk⟩:=h;rw[hk,Nat.mul_div_cancel_left _ h0];have hg:(g:Int)≠0:=by omega
 by_cases hz:z<0
 ·rw[if_pos hz]
  have:z=(g:Int)*(-(k:Int)):=by
   rw[Int.mul_neg,← Int.natCast_mul,← hk];omega
  rw[this,Int.mul_ediv_cancel_left _ hg]
 ·rw[if_neg hz]
  have:z=(g:Int)*(k:Int):=by
   rw[← Int.natCast_mul,← hk];omega
  rw[this,Int.mul_ediv_cancel_left _ hg]
theorem koy{z:Int}{d:Nat}(hz:z.natAbs<B^64)(hd:d<B^64)(h0:d≠0):kbg (intD z).1 (intD z).2 (digs B d)=fracM z d:=by
 unfold kbg fracM;have hg0:0<Nat.gcd z.natAbs d:=Nat.gcd_pos_of_pos_right _ (by omega);have hgd:Nat.gcd z.natAbs d≤d:=Nat.gcd_le_right _ (by omega);rw[kcm hz,kbk hd];have e2:(intD z).2=digs B z.natAbs:=rfl;have hq1:z.natAbs/Nat.gcd z.natAbs d<B^64:=Nat.lt_of_le_of_lt (Nat.div_le_self _ _) hz;have hq2:d/Nat.gcd z.natAbs d<B^64:=Nat.lt_of_le_of_lt (Nat.div_le_self _ _) hd;rw[e2,kth hz hd];have hgb:Nat.gcd z.natAbs d<B^64:=by omega
 simp only[Bool.not_true,cond_false];rw[ksb hz hgb (by omega),ksb hd hgb (by omega),ko4,decide_eq_false (fun e=>h0 ((kfu B2).1 e)),cond_false];dsimp only
 have k:∀u v:Int,decide (imax u v>16)=(decide (u>16)||decide (v>16)):=by
  intro u v;rw[kl6,Bool.eq_iff_iff];simp only[Bool.or_eq_true,decide_eq_true_eq];omega
 rw[k,kk4,kk4,kc8 hq1,k6m hg0 (Nat.gcd_dvd_left _ _)];have s:(intD z).1=decide (z<0):=rfl;rw[s];simp only[decide_eq_true_eq];generalize (if z<0 then -((z.natAbs/Nat.gcd z.natAbs d:Nat):Int)else((z.natAbs/Nat.gcd z.natAbs d:Nat):Int))=y;by_cases c1:z.natAbs/Nat.gcd z.natAbs d<B^16
 ·by_cases c2:d/Nat.gcd z.natAbs d<B^16
  ·rw[if_pos ⟨c1,c2⟩,decide_eq_true c1,decide_eq_true c2];rfl
  ·rw[if_neg (fun h=>c2 h.2),decide_eq_false c2,decide_eq_true c1];rfl
 ·rw[if_neg (fun h=>c1 h.1),decide_eq_false c1];rfl
structure IsFrac(p:Bool)(xs ys:List Nat)(z:Int)(d:Nat):Prop where
 p:p=(intD z).1
 xs:xs=(intD z).2
 ys:ys=digs B d
 pos:0<d
 zlt:z.natAbs<B^16
 dlt:d<B^16
 co:Nat.gcd z.natAbs d=1
theorem kbdn{z:Int}{d:Nat}(hz:z.natAbs<B^64)(hd:d<B^64):kbj (intD z).1 (intD z).2 (digs B d)=decide (0<d∧z.natAbs<B^16∧d<B^16∧Nat.gcd z.natAbs d=1):=by
 unfold kbj;rw[kcm hz,kbk hd];have e2:(intD z).2=digs B z.natAbs:=rfl;rw[e2,kth hz hd,ko4,kk4,kk4];simp only[Bool.not_true,cond_false];by_cases c0:d=0
 ·subst c0;rw[kcz];simp
 ·rw[decide_eq_false (fun e=>c0 ((kfu B2).1 e)),cond_false];by_cases c2:d<B^16
  ·rw[decide_eq_true c2];by_cases c1:z.natAbs<B^16
   ·rw[decide_eq_true c1];simp only[Bool.not_true,cond_false]
    have hg:Nat.gcd z.natAbs d<B^64:=by
     have:=Nat.gcd_le_right z.natAbs (n:=d) (by omega);omega
    unfold cmpN;rw[if_pos ⟨kbk hg,by decide +kernel⟩,kw B2];rw[show num B [1]=1 from by decide +kernel];unfold cmp;by_cases h1:Nat.gcd z.natAbs d<1
    ·rw[if_pos h1,decide_eq_false (by decide),decide_eq_false];intro h;omega
    ·rw[if_neg h1];by_cases h2:Nat.gcd z.natAbs d=1
     ·rw[if_pos h2,decide_eq_true rfl,decide_eq_true];exact⟨by omega,c1,c2,h2⟩
     ·rw[if_neg h2,decide_eq_false (by decide),decide_eq_false];exact fun h=>h2 h.2.2.2
   ·rw[decide_eq_false c1];simp only[Bool.not_true,cond_false,Bool.not_false,cond_true];symm;rw[decide_eq_false_iff_not];exact fun h=>c1 h.2.1
  ·rw[decide_eq_false c2];simp only[Bool.not_false,cond_true];symm;rw[decide_eq_false_iff_not];exact fun h=>c2 h.2.2.1
theorem kgf{n:Nat}(h:n<B^16):n<B^64:=Nat.lt_of_lt_of_le h (Nat.pow_le_pow_right (by decide) (by decide))
theorem IsFrac.right{p:Bool}{xs ys:List Nat}{z:Int}{d:Nat}(f:IsFrac p xs ys z d):kbj p xs ys=true:=by
 obtain⟨rfl,rfl,rfl,h0,h1,h2,h3⟩:=f;rw[kbdn (kgf h1) (kgf h2),decide_eq_true_eq];exact⟨h0,h1,h2,h3⟩
theorem mul16{a b:Nat}(ha:a<B^16)(hb:b<B^16):a*b<B^16*B^16:=Nat.mul_lt_mul'' ha hb
theorem B32_64:B^16*B^16*2≤B^64:=by decide +kernel
theorem kk0{p q:Bool}{xs ys us vs:List Nat}{z w:Int}{d e:Nat}(f:IsFrac p xs ys z d)(k:IsFrac q us vs w e):kg p xs ys q us vs=intD (z*(e:Int))∧(z*(e:Int)).natAbs<B^16*B^16:=by
 have hb:(z*(e:Int)).natAbs<B^16*B^16:=by
  rw[Int.natAbs_mul,Int.natAbs_natCast];exact mul16 f.zlt k.dlt
 refine⟨?_,hb⟩;unfold kg;rw[k.ys,kc8 (kgf k.dlt),f.p,f.xs];simp only[Bool.false_eq_true,if_false];have h64:=B32_64;rw[kox (kgf f.zlt) (by simpa using kgf k.dlt),if_pos (by omega)]
theorem kvs{d e:Nat}(hd:d<B^16)(he:e<B^16):mulN (digs B d) (digs B e)=(digs B (d*e),0):=by
 unfold mulN;rw[if_pos ⟨kbk (kgf hd),kbk (kgf he)⟩,kw B2,kw B2,kmv];have:=mul16 hd he;have:=B32_64;omega
theorem Add_of{p q:Bool}{xs ys us vs:List Nat}{z w:Int}{d e:Nat}(f:IsFrac p xs ys z d)(k:IsFrac q us vs w e):kdo p xs ys q us vs=fracM (z*(e:Int)+w*(d:Int)) (d*e):=by
 unfold kdo kc3 kda;rw[f.right,k.right];obtain⟨o1,b1⟩:=kk0 f k;obtain⟨o2,b2⟩:=kk0 k f;have h64:=B32_64;rw[o1,o2,kw5 (by omega) (by omega),if_pos (by omega)];dsimp only[Bool.and_self,Bool.not_true,cond_false];have hb:=mul16 f.dlt k.dlt;have hp:=Nat.mul_pos f.pos k.pos;rw[f.ys,k.ys,kvs f.dlt k.dlt];dsimp only;rw[koy (by omega) (by omega) (by omega)];generalize fracM _ _=r;obtain⟨r1,r2,r3,r4⟩:=r;rfl
theorem Sub_of{p q:Bool}{xs ys us vs:List Nat}{z w:Int}{d e:Nat}(f:IsFrac p xs ys z d)(k:IsFrac q us vs w e):kdw p xs ys q us vs=fracM (z*(e:Int)-w*(d:Int)) (d*e):=by
 unfold kdw kcx kda;rw[f.right,k.right];obtain⟨o1,b1⟩:=kk0 f k;obtain⟨o2,b2⟩:=kk0 k f;have h64:=B32_64;rw[o1,o2,k6o (by omega) (by omega),if_pos (by omega)];dsimp only[Bool.and_self,Bool.not_true,cond_false];have hb:=mul16 f.dlt k.dlt;have hp:=Nat.mul_pos f.pos k.pos;rw[f.ys,k.ys,kvs f.dlt k.dlt];dsimp only;rw[koy (by omega) (by omega) (by omega)];generalize fracM _ _=r;obtain⟨r1,r2,r3,r4⟩:=r;rfl
theorem k0x{z:Int}{d:Nat}(hd:0<d)(h:(fracM z d).2.2.2=0):∃(w:Int)(e:Nat),fracM z d=((intD w).1,(intD w).2,digs B e,0)∧IsFrac (fracM z d).1 (fracM z d).2.1 (fracM z d).2.2.1 w e∧w*(d:Int)=z*(e:Int)∧∃g:Nat,0<g∧z=w*(g:Int)∧d=g*e:=by
 unfold fracM at h⊢;have hg0:0<Nat.gcd z.natAbs d:=Nat.gcd_pos_of_pos_right _ hd;by_cases c:z.natAbs/Nat.gcd z.natAbs d<B^16∧d/Nat.gcd z.natAbs d<B^16
 ·rw[if_pos c];obtain⟨a,ha⟩:=Nat.gcd_dvd_left z.natAbs d;obtain⟨b,hb⟩:=Nat.gcd_dvd_right z.natAbs d;have hz:z/(Nat.gcd z.natAbs d:Int)*(Nat.gcd z.natAbs d:Int)=z:=Int.ediv_mul_cancel (Int.ofNat_dvd_left.2 (Nat.gcd_dvd_left _ _))
  have hq1:z.natAbs/Nat.gcd z.natAbs d=a:=by
   have:=Nat.mul_div_cancel_left a hg0;rwa[← ha]at this
  have hq2:d/Nat.gcd z.natAbs d=b:=by
   have:=Nat.mul_div_cancel_left b hg0;rwa[← hb]at this
  rw[hq1,hq2]at c;rw[hq2]
  have hw:(z/(Nat.gcd z.natAbs d:Int)).natAbs=a:=by
   have h5:(z/(Nat.gcd z.natAbs d:Int)).natAbs*Nat.gcd z.natAbs d=Nat.gcd z.natAbs d*a:=by
    have:=congrArg Int.natAbs hz;rw[Int.natAbs_mul,Int.natAbs_natCast]at this;rw[this];exact ha
   rw[Nat.mul_comm]at h5;exact Nat.eq_of_mul_eq_mul_left hg0 h5
  generalize z/(Nat.gcd z.natAbs d:Int)=w at *
  have hb0:0<b:=by
   rcases Nat.eq_zero_or_pos b with e | e
   ·subst e;omega
   ·exact e
  have co:Nat.gcd a b=1:=by
   have h6:Nat.gcd z.natAbs d=Nat.gcd a b*Nat.gcd z.natAbs d:=by
    have:=Nat.gcd_mul_left (Nat.gcd z.natAbs d) a b;rw[← ha,← hb]at this;rw[Nat.mul_comm];exact this
   have:1*Nat.gcd z.natAbs d=Nat.gcd a b*Nat.gcd z.natAbs d:=by rw[Nat.one_mul];exact h6
   exact(Nat.eq_of_mul_eq_mul_right hg0 this).symm
  refine⟨w,b,rfl,⟨rfl,rfl,rfl,hb0,by rw[hw];exact c.1,c.2,by rw[hw];exact co⟩,?_,Nat.gcd z.natAbs d,hg0,hz.symm,hb⟩;have e1:(d:Int)=(Nat.gcd z.natAbs d:Int)*(b:Int):=by rw[← Int.natCast_mul,← hb]
  rw[e1,← Int.mul_assoc,hz]
 ·rw[if_neg c]at h;cases h
def kbe(a1 a2:Int):Bool :=
 cond (decide (a1≥(-1099511627776))) (cond (decide (a1≤1099511627776)) (cond (decide (a2≥0)) (decide (a2≤1048576)) (false)) (false)) (false)
theorem ki3{h:AH}   (a1 a2:Int):Runs (go (.fn kg4 [.agg [.int .i64 a1,.int .i64 a2]]) h) fun v h'=>v=.bool (kbe a1 a2)∧Grow h h':=by
 rw[k7v];refine Runs.new fun H3 b3 g3=>?_;refine Runs.step (AH.has.rd b3 0 rfl (ke _ _)) ?_;refine Runs.cond (fun k4=>?_) (fun k4=>?_)
 ·refine Runs.step (AH.has.rd b3 0 rfl (ke _ _)) ?_;refine Runs.cond (fun k5=>?_) (fun k5=>?_)
  ·refine Runs.step (AH.has.rd b3 1 rfl (ke _ _)) ?_;refine Runs.cond (fun k6=>?_) (fun k6=>?_)
   ·refine Runs.step (AH.has.rd b3 1 rfl (ke _ _)) ?_;have z:kbe a1 a2=decide (a2≤1048576):=by unfold kbe;exact(condT k4).trans ((condT k5).trans ((condT k6).trans rfl))
    rw[z];exact Runs.ret ⟨rfl,g3⟩
   ·have z:kbe a1 a2=false:=by unfold kbe;exact(condT k4).trans ((condT k5).trans ((condF k6).trans rfl))
    rw[z];exact Runs.ret ⟨rfl,g3⟩
  ·have z:kbe a1 a2=false:=by unfold kbe;exact(condT k4).trans ((condF k5).trans rfl)
   rw[z];exact Runs.ret ⟨rfl,g3⟩
 ·have z:kbe a1 a2=false:=by unfold kbe;exact(condF k4).trans rfl
  rw[z];exact Runs.ret ⟨rfl,g3⟩
def kb1(a1:Int):Bool :=
 cond (decide (a1≥1)) (decide (a1≤1048576)) (false)
theorem kqb{h:AH}   (a1:Int):Runs (go (.fn kj6 [.int .i64 a1]) h) fun v h'=>v=.bool (kb1 a1)∧Grow h h':=by
 rw[kbdt];refine Runs.cond (fun k2=>?_) (fun k2=>?_)
 ·have z:kb1 a1=decide (a1≤1048576):=by unfold kb1;exact(condT k2).trans rfl
  rw[z];exact Runs.ret ⟨rfl,(Grow.refl _)⟩
 ·have z:kb1 a1=false:=by unfold kb1;exact(condF k2).trans rfl
  rw[z];exact Runs.ret ⟨rfl,(Grow.refl _)⟩
def kbi(a1 a2 a3 a4:Int):Int×Int×Bool :=
 cond (!((kbe a1 a2))) ((0,0,false)) (cond (!((kbe a3 a4))) ((0,0,false)) ((((IntKind.wrap .i64 (a3-a1))),((IntKind.wrap .i64 (a4-a2))),((kbe (IntKind.wrap .i64 (a3-a1)) (IntKind.wrap .i64 (a4-a2)))))))
theorem kbcu{h:AH}   (a1 a2 a3 a4:Int):Runs (go (.fn kqw [.agg [.int .i64 a1,.int .i64 a2],.agg [.int .i64 a3,.int .i64 a4]]) h) fun v h'=>v=.tup [.agg [.int .i64 (kbi a1 a2 a3 a4).1,.int .i64 (kbi a1 a2 a3 a4).2.1],.bool (kbi a1 a2 a3 a4).2.2]∧Grow h h':=by
 rw[k4l];refine Runs.new fun H5 b5 g5=>?_;refine Runs.new fun H6 b6 g6=>?_;refine Runs.new fun H7 b7 g7=>?_;refine Runs.step (AH.has.rd ((g6.trans g7).has b5) 0 rfl (ke _ _)) ?_;refine Runs.step (AH.has.rd ((g6.trans g7).has b5) 1 rfl (ke _ _)) ?_;obtain⟨_,H8,e8,rfl,g8⟩:=ki3 a1 a2;refine Runs.step e8 ?_;refine Runs.step (seen rfl) ?_;refine Runs.cond (fun k9=>?_) (fun k9=>?_)
 ·refine Runs.puts (g8.has b7) rfl fun H10 b10 u10=>?_;refine Runs.step (AH.has.rd b10 0 rfl (ke _ _)) ?_;refine Runs.step (AH.has.rd b10 1 rfl (ke _ _)) ?_;have z:kbi a1 a2 a3 a4=(0,0,false):=by unfold kbi;exact(condT k9).trans rfl
  rw[z];have G11:=((((g5.trans g6).trans g7).trans g8).updr (Nat.le_trans ((g5.trans g6)).size (Nat.le_refl _)) u10);exact Runs.ret ⟨rfl,G11⟩
 ·refine Runs.step (AH.has.rd ((g7.trans g8).has b6) 0 rfl (ke _ _)) ?_;refine Runs.step (AH.has.rd ((g7.trans g8).has b6) 1 rfl (ke _ _)) ?_;obtain⟨_,H10,e10,rfl,g10⟩:=ki3 a3 a4;refine Runs.step e10 ?_;refine Runs.step (seen rfl) ?_;refine Runs.cond (fun k11=>?_) (fun k11=>?_)
  ·refine Runs.puts ((g8.trans g10).has b7) rfl fun H12 b12 u12=>?_;refine Runs.step (AH.has.rd b12 0 rfl (ke _ _)) ?_;refine Runs.step (AH.has.rd b12 1 rfl (ke _ _)) ?_;have z:kbi a1 a2 a3 a4=(0,0,false):=by unfold kbi;exact(condF k9).trans ((condT k11).trans rfl)
   rw[z];have G13:=(((((g5.trans g6).trans g7).trans g8).trans g10).updr (Nat.le_trans ((g5.trans g6)).size (Nat.le_refl _)) u12);exact Runs.ret ⟨rfl,G13⟩
  ·have G12:=((g7.trans g8).trans g10);have b6_13:=G12.has b6;refine Runs.step (AH.has.rd b6_13 0 rfl (ke _ _)) ?_;have G14:=(((g6.trans g7).trans g8).trans g10);have b5_15:=G14.has b5;refine Runs.step (AH.has.rd b5_15 0 rfl (ke _ _)) ?_;refine Runs.step (AH.has.rd b6_13 1 rfl (ke _ _)) ?_;refine Runs.step (AH.has.rd b5_15 1 rfl (ke _ _)) ?_;refine Runs.new fun H16 b16 g16=>?_;refine Runs.puts b16 rfl fun H17 b17 u17=>?_;refine Runs.step (AH.has.rd b17 0 rfl (ke _ _)) ?_;refine Runs.step (AH.has.rd b17 1 rfl (ke _ _)) ?_;refine Runs.step (AH.has.rd b17 0 rfl (ke _ _)) ?_;refine Runs.step (AH.has.rd b17 1 rfl (ke _ _)) ?_;obtain⟨_,H18,e18,rfl,g18⟩:=ki3 (IntKind.wrap .i64 (a3-a1)) (IntKind.wrap .i64 (a4-a2));refine Runs.step e18 ?_;refine Runs.step (seen rfl) ?_;refine Runs.when (g18.same b17 0 2) ?_;have G20:=((((g8.trans g10).trans g16).updr (Nat.le_trans ((g8.trans g10)).size (Nat.le_refl _)) u17).trans g18);have b7_21:=G20.has b7;refine Runs.puts b7_21 rfl fun H19 b19 u19=>?_;have G22:=((g16.updr (Nat.le_refl _) u17).trans g18);have b5_23:=G22.has b5_15;have b5_19:=AH.has.updr b5_23 (Nat.ne_of_lt (Nat.lt_of_lt_of_le (g6.has b5).lt (Nat.le_refl _))) u19;have b6_24:=G22.has b6_13;have b6_19:=AH.has.updr b6_24 (Nat.ne_of_lt (Nat.lt_of_lt_of_le (b6).lt (Nat.le_refl _))) u19;have b17_19:=AH.has.updr (g18.has b17) (Nat.ne_of_gt (Nat.lt_of_lt_of_le ((g8.trans g10).has b7).lt (Nat.le_refl _))) u19;refine Runs.step (AH.has.rd b19 0 rfl (ke _ _)) ?_;refine Runs.step (AH.has.rd b19 1 rfl (ke _ _)) ?_;have z:kbi a1 a2 a3 a4=(((IntKind.wrap .i64 (a3-a1))),((IntKind.wrap .i64 (a4-a2))),((kbe (IntKind.wrap .i64 (a3-a1)) (IntKind.wrap .i64 (a4-a2))))):=by unfold kbi;exact(condF k9).trans ((condF k11).trans rfl)
   rw[z];have G25:=((((g5.trans g6).trans g7).trans g8).trans g10);have G26:=((((((((g5.trans g6).trans g7).trans g8).trans g10).trans g16).updr (Nat.le_trans (G25).size (Nat.le_refl _)) u17).trans g18).updr (Nat.le_trans ((g5.trans g6)).size (Nat.le_refl _)) u19);exact Runs.ret ⟨rfl,G26⟩
inductive khp
 | fn (a1:Int) (a2:Int) (a3:Int)
 | no
abbrev kf9:=Bool×List Nat×List Nat×Int
noncomputable def ki1(a1 a2 a3:Int):Option (khp⊕kf9) :=
 cond (!((kbe a2 a3))) (some (.inr (false,[],[],1))) (cond (!((kb1 a1))) (some (.inr (false,[],[],1))) ((need (-9223372036854775808≤(a2:Int)∧(a2:Int)≤9223372036854775807)).bind fun c12_0=>(u64P (IntKind.wrap .u64 (IntKind.wrap .i64 (a3+a1)))).bind fun p21=>some (.inr ((((kbg (((kbm (((ofI a2).1)) ((ofI a2).2) (((ofI a2).1)) ((ofI a2).2)).1)) ((kbm (((ofI a2).1)) ((ofI a2).2) (((ofI a2).1)) ((ofI a2).2)).2.1) (digs B p21)).1)),(kbg (((kbm (((ofI a2).1)) ((ofI a2).2) (((ofI a2).1)) ((ofI a2).2)).1)) ((kbm (((ofI a2).1)) ((ofI a2).2) (((ofI a2).1)) ((ofI a2).2)).2.1) (digs B p21)).2.1,(kbg (((kbm (((ofI a2).1)) ((ofI a2).2) (((ofI a2).1)) ((ofI a2).2)).1)) ((kbm (((ofI a2).1)) ((ofI a2).2) (((ofI a2).1)) ((ofI a2).2)).2.1) (digs B p21)).2.2.1,((kbg (((kbm (((ofI a2).1)) ((ofI a2).2) (((ofI a2).1)) ((ofI a2).2)).1)) ((kbm (((ofI a2).1)) ((ofI a2).2) (((ofI a2).1)) ((ofI a2).2)).2.1) (digs B p21)).2.2.2)))))
noncomputable def kv7:khp→Option (khp⊕kf9)
 | .fn a1 a2 a3=>ki1 a1 a2 a3
 | .no=>none
@[reducible] def kw2(h0:AH)(r:kf9)(v:AV)(h':AH):Prop:=∃s1:Sl,∃s2:Sl,v=.tup [.agg [.bool r.1,s1.v,s2.v],.int .i64 r.2.2.2]∧Nats h' s1 r.2.1∧Nats h' s2 r.2.2.1∧Grow h0 h'∧Own h0 s1∧Own h0 s2
def kp8(r:kf9):khp→Prop
 | .fn a1 a2 a3=>∀{h:AH},Runs (go (.fn km6 [.int .i64 a1,.agg [.int .i64 a2,.int .i64 a3]]) h) (kw2 h r)
 | .no=>True
theorem kbaj{r:kf9}{o:khp⊕kf9}{a1 a2 a3:Int}(e:ki1 a1 a2 a3=some o)(good:GoodS (kp8 r) r o):kp8 r (.fn a1 a2 a3):=by
 intro h;rw[kbbc];unfold ki1 at e;refine Runs.new fun H4 b4 g4=>?_;refine Runs.new fun H5 b5 g5=>?_;refine Runs.step (AH.has.rd (g5.has b4) 0 rfl (ke _ _)) ?_;refine Runs.step (AH.has.rd (g5.has b4) 1 rfl (ke _ _)) ?_;obtain⟨_,H6,e6,rfl,g6⟩:=ki3 a2 a3;refine Runs.step e6 ?_;refine Runs.step (seen rfl) ?_;refine Runs.cond (fun k7=>?_) (fun k7=>?_)
 ·replace e:=(condT k7).symm.trans e;refine Runs.puts (g6.has b5) rfl fun H8 b8 u8=>?_;refine Runs.step (AH.has.rd b8 0 rfl rfl) ?_;refine Runs.step (AH.has.rd b8 1 rfl (asSl_v _)) ?_;refine Runs.step (AH.has.rd b8 2 rfl (asSl_v _)) ?_;cases e;cases good;have G9:=(((g4.trans g5).trans g6).updr (Nat.le_trans (g4).size (Nat.le_refl _)) u8);exact Runs.ret ⟨(⟨none,0,.is 0⟩:Sl),(⟨none,0,.is 0⟩:Sl),rfl,(Nats.nil _),(Nats.nil _),G9,(Own.nil _),(Own.nil _)⟩
 ·replace e:=(condF k7).symm.trans e;obtain⟨_,H8,e8,rfl,g8⟩:=kqb a1;refine Runs.step e8 ?_;refine Runs.step (seen rfl) ?_;refine Runs.cond (fun k9=>?_) (fun k9=>?_)
  ·replace e:=(condT k9).symm.trans e;refine Runs.puts ((g6.trans g8).has b5) rfl fun H10 b10 u10=>?_;refine Runs.step (AH.has.rd b10 0 rfl rfl) ?_;refine Runs.step (AH.has.rd b10 1 rfl (asSl_v _)) ?_;refine Runs.step (AH.has.rd b10 2 rfl (asSl_v _)) ?_;cases e;cases good;have G11:=((((g4.trans g5).trans g6).trans g8).updr (Nat.le_trans (g4).size (Nat.le_refl _)) u10);exact Runs.ret ⟨(⟨none,0,.is 0⟩:Sl),(⟨none,0,.is 0⟩:Sl),rfl,(Nats.nil _),(Nats.nil _),G11,(Own.nil _),(Own.nil _)⟩
  ·replace e:=(condF k9).symm.trans e;have G10:=((g5.trans g6).trans g8);have b4_11:=G10.has b4;refine Runs.step (AH.has.rd b4_11 0 rfl (ke _ _)) ?_;obtain⟨c12_0,q12_0,e⟩:=Option.bind_eq_some_iff.1 e;obtain⟨s12,H12,e12,n12,g12,o12⟩:=klf a2  c12_0.down;refine Runs.step e12 ?_;refine Runs.step rfl ?_;refine Runs.ifT rfl ?_;refine Runs.step (seenAt rfl rfl) ?_;refine Runs.step (seenAt rfl (asSl_v _)) ?_;refine Runs.new fun H13 b13 g13=>?_;refine Runs.puts b13 rfl fun H14 b14 u14=>?_;refine Runs.step (AH.has.rd b14 0 rfl rfl) ?_;refine Runs.step (AH.has.rd b14 1 rfl (asSl_v _)) ?_;refine Runs.step (AH.has.rd b14 0 rfl rfl) ?_;refine Runs.step (AH.has.rd b14 1 rfl (asSl_v _)) ?_;obtain⟨_,H15,e15,s15,rfl,n15,g15,o15⟩:=kqc (n12.grow (g13.updr (Nat.le_refl _) u14)) (n12.grow (g13.updr (Nat.le_refl _) u14)) (((ofI a2).1)) (((ofI a2).1));refine Runs.step e15 ?_;refine Runs.step rfl ?_;refine Runs.step rfl ?_;refine Runs.ifT rfl ?_;refine Runs.step (seenAt rfl rfl) ?_;refine Runs.step (seenAt rfl (asSl_v _)) ?_;refine Runs.step (seen (ke _ _)) ?_;refine Runs.new fun H16 b16 g16=>?_;refine Runs.puts b16 rfl fun H17 b17 u17=>?_;refine Runs.step (AH.has.rd b17 0 rfl rfl) ?_;refine Runs.step (AH.has.rd b17 1 rfl (asSl_v _)) ?_;have G18:=(((g12.trans g13).updr (Nat.le_trans (g12).size (Nat.le_refl _)) u14).trans g15);have G19:=(((((g12.trans g13).updr (Nat.le_trans (g12).size (Nat.le_refl _)) u14).trans g15).trans g16).updr (Nat.le_trans (G18).size (Nat.le_refl _)) u17);have b4_20:=G19.has b4_11;refine Runs.step (AH.has.rd b4_20 1 rfl (ke _ _)) ?_;obtain⟨p21,q21,e⟩:=Option.bind_eq_some_iff.1 e;obtain⟨s21,H21,e21,n21,g21,o21⟩:=km4 q21;refine Runs.step e21 ?_;refine Runs.step (seen (asSl_v _)) ?_;refine Runs.when (g21.same b17 0 2) ?_;have G22:=((g16.updr (Nat.le_refl _) u17).trans g21);have n15_23:=n15.grow G22;obtain⟨_,H24,e24,s24,s24b,rfl,n24,n24b,g24,o24,o24b⟩:=ko3 n15_23 n21 (((kbm (((ofI a2).1)) ((ofI a2).2) (((ofI a2).1)) ((ofI a2).2)).1));refine Runs.step e24 ?_;refine Runs.step rfl ?_;refine Runs.step rfl ?_;refine Runs.ifT rfl ?_;refine Runs.step (seenAt rfl rfl) ?_;refine Runs.step (seenAt rfl (asSl_v _)) ?_;refine Runs.step (seenAt rfl (asSl_v _)) ?_;refine Runs.step (seen (ke _ _)) ?_;have G26:=((g6.trans g8).trans g12);have G27:=(((G26.trans g13).updr (Nat.le_trans (G26).size (Nat.le_refl _)) u14).trans g15);have G28:=(((((((((g6.trans g8).trans g12).trans g13).updr (Nat.le_trans (G26).size (Nat.le_refl _)) u14).trans g15).trans g16).updr (Nat.le_trans (G27).size (Nat.le_refl _)) u17).trans g21).trans g24);have b5_29:=G28.has b5;refine Runs.puts b5_29 rfl fun H25 b25 u25=>?_;have G30:=((g13.updr (Nat.le_refl _) u14).trans g15);have G31:=((((((g13.updr (Nat.le_refl _) u14).trans g15).trans g16).updr (Nat.le_trans (G30).size (Nat.le_refl _)) u17).trans g21).trans g24);have n12_32:=n12.grow G31;have n12_25:=n12_32.upda (Av.of_own o12 ((g6.trans g8).has b5).lt) u25;have G33:=((G26.trans g13).updr (Nat.le_trans (G26).size (Nat.le_refl _)) u14);have n15_25:=(n15_23.grow g24).upda (Av.of_own o15 (G33.has b5).lt) u25;have G34:=((G27.trans g16).updr (Nat.le_trans (G27).size (Nat.le_refl _)) u17);have n21_25:=(n21.grow g24).upda (Av.of_own o21 (G34.has b5).lt) u25;have G35:=(G34.trans g21);have n24_25:=n24.upda (Av.of_own o24 (G35.has b5).lt) u25;have n24b_25:=n24b.upda (Av.of_own o24b (G35.has b5).lt) u25;have b4_25:=AH.has.updr ((g21.trans g24).has b4_20) (Nat.ne_of_lt (Nat.lt_of_lt_of_le (b4).lt (Nat.le_refl _))) u25;have G36:=((((g15.trans g16).updr (Nat.le_trans (g15).size (Nat.le_refl _)) u17).trans g21).trans g24);have b14_37:=G36.has b14;have b14_25:=AH.has.updr b14_37 (Nat.ne_of_gt (Nat.lt_of_lt_of_le (G26.has b5).lt (Nat.le_refl _))) u25;have b17_25:=AH.has.updr ((g21.trans g24).has b17) (Nat.ne_of_gt (Nat.lt_of_lt_of_le (G27.has b5).lt (Nat.le_refl _))) u25;refine Runs.step (AH.has.rd b25 0 rfl rfl) ?_;refine Runs.step (AH.has.rd b25 1 rfl (asSl_v _)) ?_;refine Runs.step (AH.has.rd b25 2 rfl (asSl_v _)) ?_;cases e;cases good;have G38:=((((g4.trans g5).trans g6).trans g8).trans g12);have G39:=(((G38.trans g13).updr (Nat.le_trans (G38).size (Nat.le_refl _)) u14).trans g15);have G40:=((((((((((g4.trans g5).trans g6).trans g8).trans g12).trans g13).updr (Nat.le_trans (G38).size (Nat.le_refl _)) u14).trans g15).trans g16).updr (Nat.le_trans (G39).size (Nat.le_refl _)) u17).trans g21);have G41:=((G40.trans g24).updr (Nat.le_trans (g4).size (Nat.le_refl _)) u25);exact Runs.ret ⟨s24,s24b,rfl,n24_25,n24b_25,G41,(o24.of_le G40),(o24b.of_le G40)⟩
theorem kba6{s:khp}{r:kf9}(it:Iter kv7 s r):kp8 r s:=Iter.ind (fun s o e good=>by
 cases s with
 | fn a1 a2 a3=>exact @kbaj _ _ a1 a2 a3 e good
 | no=>exact True.intro
 ) it
theorem kk9{g n:Int}:kbe g n=true↔-1099511627776≤g∧g≤1099511627776∧0≤n∧n≤1048576:=by
 unfold kbe;by_cases h1:g≥-1099511627776<;>by_cases h2:g≤1099511627776<;>by_cases h3:n≥0<;>by_cases h4:n≤1048576<;>simp[h1,h2,h3,h4]
theorem kvx{l:Int}:kb1 l=true↔1≤l∧l≤1048576:=by
 unfold kb1;by_cases h1:l≥1<;>by_cases h2:l≤1048576<;>simp[h1,h2]
def scoreF(l g n:Int):Bool×List Nat×List Nat×Int:=if kbe g n=true∧kb1 l=true then fracM (g*g) (n+l).toNat else(false,[],[],1)
theorem sq_lt{g:Int}(h1:-1099511627776≤g)(h2:g≤1099511627776):(g*g).natAbs≤1099511627776*1099511627776:=by
 rw[Int.natAbs_mul];exact Nat.mul_le_mul (by omega) (by omega)
theorem k33(l g n:Int):Iter kv7 (.fn l g n) (scoreF l g n):=.done (by
 show ki1 _ _ _=_;unfold ki1 scoreF;cases h1:kbe g n with
 | false=>rfl
 | true =>
  cases h2:kb1 l with
  | false=>rfl
  | true =>
   obtain⟨a1,a2,a3,a4⟩:=kk9.1 h1;obtain⟨b1,b2⟩:=kvx.1 h2;have h64:=kha;have hs:=sq_lt a1 a2;rw[if_pos ⟨rfl,rfl⟩,kbq ⟨by omega,by omega⟩,krg (by omega),kox (by omega) (by omega),if_pos (by omega),wrap64 (by omega) (by omega),wrapU,Int.emod_eq_of_lt (by omega) (by omega)];have e:n+l=(((n+l).toNat:Nat):Int):=by omega
   rw[show u64P (n+l)=some (n+l).toNat from by rw[e];exact kbr (by omega)];simp only[Bool.not_true,cond_false,Option.bind_some];rw[koy (by omega) (by omega) (by omega)])
theorem kqd{h:AH}(l g n:Int):Runs (go (.fn km6 [.int .i64 l,.agg [.int .i64 g,.int .i64 n]]) h) (kw2 h (scoreF l g n)):=kba6 (k33 l g n)
end Go.Ab
