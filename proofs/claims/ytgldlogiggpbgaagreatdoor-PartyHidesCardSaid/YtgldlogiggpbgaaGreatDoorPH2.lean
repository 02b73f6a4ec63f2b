/- Words and laws that the last text joins. -/
import Derived.Test.YtgldlogiggpbgaaGreatDoorPU1
import Derived.Test.YtgldlogiggpbgaaGreatDoorPS54
import Derived.Test.YtgldlogiggpbgaaGreatDoorPP8
import Derived.Test.YtgldlogiggpbgaaGreatDoorPS30
set_option linter.unusedVariables false
set_option linter.unusedSimpArgs false
set_option linter.unusedSectionVars false
set_option maxRecDepth 10000
namespace Go.Ab
open Go.Proofs
theorem kt5{a b:Nat}(y:a<18446744073709551616)(hb:b<18446744073709551616):iand .u64 (a:Int) (b:Int)=((a&&&b:Nat):Int):=by unfold iand;rw[show IntKind.bits .u64=64 from rfl,wrapU];have z:BitVec.ofInt 64 (a:Int)=BitVec.ofNat 64 a:=rfl;have F:BitVec.ofInt 64 (b:Int)=BitVec.ofNat 64 b:=rfl;rw[z,F,BitVec.toNat_and,BitVec.toNat_ofNat,BitVec.toNat_ofNat,Nat.mod_eq_of_lt (show a<2^64 from y),Nat.mod_eq_of_lt (show b<2^64 from hb)];have:a&&&b<=a:=Nat.and_le_left;omega
theorem or_nat{a b:Nat}(y:a<18446744073709551616)(hb:b<18446744073709551616):ior .u64 (a:Int) (b:Int)=((a|||b:Nat):Int):=by unfold ior;rw[show IntKind.bits .u64=64 from rfl,wrapU];have z:BitVec.ofInt 64 (a:Int)=BitVec.ofNat 64 a:=rfl;have F:BitVec.ofInt 64 (b:Int)=BitVec.ofNat 64 b:=rfl;rw[z,F,BitVec.toNat_or,BitVec.toNat_ofNat,BitVec.toNat_ofNat,Nat.mod_eq_of_lt (show a<2^64 from y),Nat.mod_eq_of_lt (show b<2^64 from hb)];have:a|||b<2^64:=Nat.or_lt_two_pow y hb;omega
theorem k5y(x n:Nat):ishr .u64 (x:Int) (n:Int)=((x/2^min n 64:Nat):Int):=by
 unfold ishr;rw[Int.toNat_natCast,show IntKind.bits .u64=64 from rfl];have:((2:Int)^min n 64)=((2^min n 64:Nat):Int):=by simp
 rw[this,Int.fdiv_eq_ediv_of_nonneg _ (Int.natCast_nonneg _)];exact(Int.natCast_ediv _ _).symm
theorem kbgt{n:Nat}(y:n<64):ishl .u64 1 (n:Int)=((2^n:Nat):Int):=by
 unfold ishl;rw[Int.toNat_natCast,show IntKind.bits .u64=64 from rfl,Nat.min_eq_left (by omega),wrapU];have h1:(1:Int)*(2:Int)^n=((2^n:Nat):Int):=by simp
 have h2:2^n<2^64:=Nat.pow_lt_pow_right (by decide) y;rw[h1];generalize 2^n=q at *
 omega
def tzTab:List Nat:=[0,1,56,2,57,49,28,3,61,58,42,50,38,29,17,4,62,47,59,36,45,43,51,22,53,39,33,30,24,18,12,5,63,55,48,27,60,41,37,16,46,35,44,21,52,32,23,11,54,26,40,15,34,20,31,10,25,14,19,9,13,8,7,6]
theorem tz_idx:∀k:_root_.Fin 64,tzTab.getD ((2^k.val*285870213051353865%18446744073709551616)/288230376151711744) 0=k.val:=by decide +kernel
def Tab(h:AH):Prop:=∀k:Nat,k<64->h.cell (.old ⟨Gl.math_bits_deBruijn64tab,k,none⟩)=some (.int .u8 ((tzTab.getD k 0:Nat):Int))
theorem Tab.md{h h':AH}{T:Fp}(t:Tab h)(m:Md T h h'):Tab h':=λk hk=>by rw[<- t k hk];simp only[AH.cell,m.old]
theorem Tab.grow{h h':AH}(t:Tab h)(g:Grow h h'):Tab h':=t.md (g.md Fp.no)
theorem tz_is{h:AH}(T:Tab h){k m:Nat}(hk:k<64)(z:2^(k+1)*m+2^k<18446744073709551616):go (.fn kws [.int .u64 ((2^(k+1)*m+2^k:Nat):Int)]) h=some (.i (k:Int),h):=by
 rw[kbhy];have hp:=Nat.two_pow_pos k;have G:=kbfp (k:=k) (m:=m) (n:=64) z;generalize V:2^(k+1)*m+2^k=W at *
 have H:0<W:=by omega
 have I:IntKind.wrap .u64 (0-(W:Int))=((18446744073709551616-W:Nat):Int):=by rw[wrapU];omega
 rw[condF (qb0 (by omega)),I,kt5 z (by omega),G]
 have K:IntKind.wrap .u64 (((2^k:Nat):Int)*285870213051353865)=((2^k*285870213051353865%18446744073709551616:Nat):Int):=by rw[wrapU,show((2^k:Nat):Int)*285870213051353865=((2^k*285870213051353865:Nat):Int)from by simp];rfl
 have F:=tz_idx ⟨k,hk⟩;dsimp only at F;rw[K,show(58:Int)=((58:Nat):Int)from rfl,k5y,show 2^min 58 64=288230376151711744 from rfl];generalize Q:2^k*285870213051353865%18446744073709551616/288230376151711744=J at *
 have y:J<64:=by rw[<- Q,Nat.div_lt_iff_lt_mul (by decide)];exact Nat.mod_lt _ (by decide)
 have U:idx (some (Ref.old ⟨Gl.math_bits_deBruijn64tab,0,none⟩)) 64 (J:Int) 1=some (.old ⟨Gl.math_bits_deBruijn64tab,J,none⟩):=by rw[keq _ _ _ _ (by omega) (by omega),Int.toNat_natCast,Nat.mul_one];simp[Ref.add,Addr.add];exactλh=>h.symm
 rw[U,qbv,T J y,F];show some (AV.int .i64 (IntKind.wrap .i64 (k:Int)),h)=_;rw[wrap64 (by omega) (by omega)]
def wbit(w:List Nat)(i:Nat):Bool:=(w.getD (i/64) 0).testBit (i%64)
def btR(n:Int)(w:List Nat):Bool:=decide (0<=n)&&(decide (n<=65536)&&(decide (w.length=(n.toNat+63)/64)&&(List.range (64*w.length)).all λi=>decide (i<n.toNat)||!wbit w i))
theorem kbc7{x k:Nat}:x<2^k↔∀i,k<=i->x.testBit i=false:=⟨λh i y=>Nat.testBit_lt_two_pow (qbt h (Nat.pow_le_pow_right (by decide) y)),λh=>Nat.lt_pow_two_of_testBit x h⟩
section
variable{h0:AH}{s:Sl}{w:List Nat}{n:Int}
theorem Nats.rdN{h:AH}(N:Nats h s w){i:Nat}(y:i<w.length):∃r:Ref,idx s.ref s.len (i:Int) 1=some r/\(h.cell r).bind (AV.asInt .u64)=some (w[i]:Int):=by obtain⟨r,z,F⟩:=N.at y;exact⟨r,z,rdc F qcr⟩
theorem kp1(N:Nats h0 s w):Runs (go (.fn kka [.agg [.i n,s.v]]) h0) λv h'=>v=.bool (btR n w)/\Grow h0 h':=by
 rw[kbl7];refine qz λh1 b1 y=>qct b1 0 rfl (qbc (λc=>?_) λc=>?_)
 ·rw[qby]at c;refine qx ⟨?_,y⟩;unfold btR;rw[qb0 (by omega)];rfl
 rw[qbx]at c;refine qct b1 0 rfl (qbc (λG=>?_) λG=>?_)
 ·rw[qby]at G;refine qx ⟨?_,y⟩;unfold btR;rw[qb0 (show¬n<=65536 by omega)];simp
 rw[qbx]at G;obtain⟨z,rfl⟩:∃z:Nat,n=(z:Int):=⟨n.toNat,by omega⟩;have W:=N.grow y;refine qcs b1 1 rfl (qct b1 0 rfl ?_);rw[N.len,wrap64 (n:=(z:Int)+64) (by omega) (by omega),wrap64 (n:=(z:Int)+64-1) (by omega) (by omega),show(z:Int)+64-1=((z+63:Nat):Int)from by omega,show Int.tdiv ((z+63:Nat):Int) 64=(((z+63)/64:Nat):Int)from rfl,wrap64 (by omega) (by omega)]
 have hb:btR (z:Int) w=(decide (w.length=(z+63)/64)&&(List.range (64*w.length)).all λi=>decide (i<z)||!wbit w i):=by unfold btR;rw[qbz (show(0:Int)<=(z:Int) by omega),qbz (show(z:Int)<=65536 by omega),Int.toNat_natCast];rfl
 rw[hb];refine qbc (λI=>?_) λI=>?_
 ·refine qx ⟨?_,y⟩;rw[qcl,qbx]at I;rw[qb0 (by omega)];rfl
 rw[qcm,qby]at I;have Z:w.length=(z+63)/64:=by omega
 rw[qbz Z,Bool.true_and];refine qct b1 0 rfl ?_;rw[show Int.tmod (z:Int) 64=((z%64:Nat):Int)from rfl];refine qbc (λK=>?_) λK=>?_
 ·rw[qby]at K;refine qx ⟨congrArg AV.bool ?_,y⟩;symm;rw[List.all_eq_true];intro i F;rw[qco]at F;rw[qbz (by omega)];rfl
 rw[qbx]at K;have F:z/64<w.length:=by omega
 obtain⟨r,U,e2⟩:=W.rdN F;refine qcs b1 1 rfl (qcs b1 1 rfl ?_);rw[N.len,show((w.length:Nat):Int)-1=((z/64:Nat):Int)from by omega,wrap64 (by omega) (by omega)];rw[N.len]at U;refine qy U (qy e2 (qct b1 0 rfl ?_));rw[show Int.tmod (z:Int) 64=((z%64:Nat):Int)from rfl,k5y];refine qbb (qb0 (by omega)) (qx ⟨congrArg AV.bool ?_,y⟩);rw[Bool.eq_iff_iff,qby,List.all_eq_true,Nat.min_eq_left (by omega)]
 have hx:((w[z/64]/2^(z%64):Nat):Int)=0↔w[z/64]<2^(z%64):=by have:=Nat.div_eq_zero_iff (a:=w[z/64]) (b:=2^(z%64));have:=Nat.two_pow_pos (z%64);omega
 rw[hx,kbc7];have V:w.getD (z/64) 0=w[z/64]:=by simp[List.getD,F]
 constructor
 ·intro H i Q;rw[qco]at Q;rcases Nat.lt_or_ge i z with h | h
  ·rw[qbz h];rfl
  ·have:i/64=z/64:=by omega
   unfold wbit;rw[this,V,H (i%64) (by omega)];simp
 ·intro H j hj;rcases Nat.lt_or_ge j 64 with h | h
  ·have:=H (64*(z/64)+j) (by rw[qco];omega);unfold wbit at this;rw[qb0 (by omega),show(64*(z/64)+j)/64=z/64 from by omega,show(64*(z/64)+j)%64=j from by omega,V]at this
   simpa using this
  ·exact Nat.testBit_lt_two_pow (qbt (N.lt _ (qb5 F)) (show 2^64<=2^j from Nat.pow_le_pow_right (by decide) h))
end
def zs(l:List Nat):List Int:=l.map λx:Nat=>(x:Int)
theorem zs_len(l:List Nat):(zs l).length=l.length:=qb3 _
theorem zs_app(l m:List Nat):zs (l++m)=zs l++zs m:=List.map_append
theorem klz{n:Nat}(h:n<=1000000):growOk Pg n T.int 1=true:=by
 unfold growOk;rw[ktl,kpv];have h1:n*8<=ky:=by simp only[ky];omega
 have h2:n<=ky:=by simp only[ky];omega
 simp[h1,h2]
def btL(n:Int)(w:List Nat):List Nat:=if btR n w then(List.range n.toNat).filter (wbit w)else []
theorem btR_n{n:Int}{w:List Nat}(h:btR n w=true):0<=n/\n<=65536/\w.length=(n.toNat+63)/64/\∀i,i<64*w.length->n.toNat<=i->wbit w i=false:=by unfold btR at h;simp only[qcb,qby,List.all_eq_true,qco,qcc,qcl]at h;exact⟨h.1,h.2.1,h.2.2.1,λi y z=>(h.2.2.2 i y).resolve_left (by omega)⟩
theorem btR_of{n:Int}{w:List Nat}(h1:0<=n)(h2:n<=65536)(y:w.length=(n.toNat+63)/64)(z:∀i,i<64*w.length->n.toNat<=i->wbit w i=false):btR n w=true:=by unfold btR;simp only[qcb,qby,List.all_eq_true,qco,qcc,qcl];exact⟨h1,h2,y,λi F=>(Nat.lt_or_ge i n.toNat).imp_right (z i F)⟩
section
variable{h0:AH}{s:Sl}{w:List Nat}{n:Int}
theorem kbic{i:Nat}:∀(k j:Nat),j+k=i%64->∀(x:Nat)(h:AH),x<18446744073709551616->
  go (.pt kil koe [(1,.i (i:Int)),(5,.int .u64 (x:Int)),(6,.i (j:Int))]) h=some (.bool (x.testBit k),h):=by
 intro k
 induction k with
 | zero =>
  intro j y x h z;rw[kz4,show Int.tmod (i:Int) 64=((i%64:Nat):Int)from rfl,condF (qb0 (by omega)),show Int.tmod (x:Int) 2=((x%2:Nat):Int)from rfl]
  have:x.testBit 0=decide (((x%2:Nat):Int)=1):=by rw[Nat.testBit_zero,decide_eq_decide];omega
  rw[this]
 | succ k ih =>
  intro j y x h z;rw[kz4,show Int.tmod (i:Int) 64=((i%64:Nat):Int)from rfl,condT (qbz (by omega)),show Int.tdiv (x:Int) 2=((x/2:Nat):Int)from rfl,ki (by omega)];have:IntKind.wrap .u64 ((x/2:Nat):Int)=((x/2:Nat):Int):=by rw[wrapU];omega
  rw[this,ih (j+1) (by omega) (x/2) h (by omega),Nat.testBit_succ]
theorem kbc4(N:Nats h0 s w){i:Nat}(y:i/64<w.length)(H:i<4611686018427387904):Runs (go (.fn kil [.agg [.i n,s.v],.i (i:Int)]) h0) λv h'=>v=.bool (wbit w i)/\Grow h0 h':=by rw[kbng];refine qz λh1 b1 z=>qcs b1 1 rfl ?_;obtain⟨r,F,G⟩:=(N.grow z).rdN y;rw[show Int.tdiv (i:Int) 64=((i/64:Nat):Int)from rfl,wrap64 (by omega) (by omega)];refine qy F (qy G ?_);rw[show(0:Int)=((0:Nat):Int)from rfl,kbic (i%64) 0 (by omega) _ _ (N.lt _ (qb5 y))];refine qx ⟨?_,z⟩;unfold wbit;simp[List.getD,y]
end
theorem kz1{w:List Nat}{i j:Nat}(y:i/64<w.length):wbit (w.set (i/64) (w[i/64]|||2^(i%64))) j=(decide (j=i)||wbit w j):=by
 unfold wbit;by_cases h:j/64=i/64
 ·rw[h];have:(w.set (i/64) (w[i/64]|||2^(i%64))).getD (i/64) 0=w[i/64]|||2^(i%64):=by simp[List.getD,y]
  rw[this,Nat.testBit_or,Nat.testBit_two_pow];have h2:w.getD (i/64) 0=w[i/64]:=by simp[List.getD,y]
  rw[h2,Bool.or_comm];congr 1;rw[decide_eq_decide];omega
 ·have h1:(w.set (i/64) (w[i/64]|||2^(i%64))).getD (j/64) 0=w.getD (j/64) 0:=by
   simp only[List.getD];rw[List.getElem?_set_ne (by omega)]
  rw[h1];have:¬j=i:=λe=>h (by rw[e]);simp[this]
theorem kzb(n i:Nat):wbit (List.replicate n 0) i=false:=by
 unfold wbit
 have:(List.replicate n 0).getD (i/64) 0=0:=by simp only[List.getD,List.getElem?_replicate];split<;>rfl
 rw[this];exact Nat.zero_testBit _
section
variable{h0:AH}
theorem kur{n:Nat}(G:n<=65536):Runs (go (.fn kro [.i (n:Int)]) h0) λv h'=>Grow h0 h'/\∃(s:Sl)(i:Nat),v=.tup [.agg [.i (n:Int),s.v],.i 0]/\h0.blks.size<=i/\Vec h' s i (List.replicate ((n+63)/64) 0):=by rw[kbi5];refine qz λh1 b1 y=>qbb (qb0 (by omega)) (qbb (qb0 (by omega)) ?_);rw[wrap64 (n:=(n:Int)+64) (by omega) (by omega),wrap64 (n:=(n:Int)+64-1) (by omega) (by omega),show(n:Int)+64-1=((n+63:Nat):Int)from by omega,show Int.tdiv ((n+63:Nat):Int) 64=(((n+63)/64:Nat):Int)from rfl,wrap64 (by omega) (by omega)];refine Runs.mk (kdt (by omega)) kcz λs h2 V z=>?_;refine q0 (z.has b1) rfl λH b3 F=>?_;refine qct b3 0 rfl (qcs b3 1 rfl (qx ⟨(y.trans z).updr (qbr _) F,s,h1.blks.size,rfl,y.size,V.updr (by have:=b1.lt;omega) F⟩))
end
theorem kbge{w:List Nat}{i:Nat}(y:i<w.length):(List.range (64*(i+1))).filter (wbit w)=(List.range (64*i)).filter (wbit w)++(ones w[i]).map (λk=>64*i+k):=by rw[Nat.mul_add,Nat.mul_one,List.range_add,List.filter_append,List.filter_map];congr 1;unfold ones;congr 1;apply List.filter_congr;intro k hk;rw[qco]at hk;simp only[Function.comp,wbit];rw[show(64*i+k)/64=i from by omega,show(64*i+k)%64=k from by omega];simp[List.getD,y]
section
variable{w:List Nat}{s:Sl}{l:Nat}
theorem kbqk{Inv:List Nat->AH->Prop}(U:∀d h,Inv d h->Tab h)(y:∀d i h,Inv d h->i<64*w.length->d.length<64*w.length->Runs (go (.round l [.i (i:Int)]) h) λv h'=>v=.bool true/\Inv (d++[i]) h')(hl:w.length<=2000){i:Nat}(hi:i<w.length){P:AV->AH->Prop} :
  ∀(n x:Nat),x<18446744073709551616->(ones x).length=n->∀(d:List Nat)(h:AH),d.length+n<=64*w.length->Inv d h->(∀h',Inv (d++(ones x).map (λk=>64*i+k)) h'->Runs (go (.pt kca kls [(0,.func (.yield l) [] []),(6,s.v),(7,.i (w.length:Int)),(8,.i ((i+1:Nat):Int))]) h') P)->
  Runs (go (.pt kca kqd [(0,.func (.yield l) [] []),(3,.i (i:Int)),(4,.int .u64 (x:Int)),(6,s.v),(7,.i (w.length:Int)),(8,.i (i:Int))]) h) P:=by
 intro n
 induction n with
 | zero =>
  intro x G z d h V I H
  have F:x=0:=by
   rcases Nat.eq_zero_or_pos x with h0 | h0
   ·exact h0
   ·obtain⟨k,m,hk,rfl⟩:=kx5 64 x (by omega) G;rw[k30 hk]at z;simp at z
  subst F;rw[kzh];refine qbb (by rfl) ?_;rw[ki (by omega)];rw[k28]at H;exact H h (by simpa using I)
 | succ n ih =>
  intro x G z d h V I H;have F:x≠0:=λe=>by subst e;rw[k28]at z;simp at z
  obtain⟨k,m,hk,K⟩:=kx5 64 x F G;subst K;rw[k30 hk]at z H;rw[kzh];refine qba (by rw[qb0 (by omega)];rfl) ?_;refine qy (tz_is (U _ _ I) hk G) (qy (seen rfl) ?_);rw[wrap64 (n:=64*(i:Int)) (by omega) (by omega),wrap64 (by omega) (by omega),show 64*(i:Int)+(k:Int)=((64*i+k:Nat):Int)from by omega];refine(y d (64*i+k) h I (by omega) (by omega)).call λv h1 ⟨e,Z⟩=>?_;subst e;refine qy (seen rfl) (qbb rfl ?_)
  have e1:IntKind.wrap .u64 (((2^(k+1)*m+2^k:Nat):Int)-1)=((2^(k+1)*m+2^k-1:Nat):Int):=by
   have:=Nat.two_pow_pos k;generalize 2^(k+1)*m+2^k=W at *
   rw[wrapU];omega
  have Q:2^(k+1)*m<18446744073709551616:=by have:=Nat.two_pow_pos k;exact qbu (Nat.le_add_right _ _) G
  dsimp only;rw[e1,kt5 G (by omega),kbfi];refine ih _ Q (by simpa using z) (d++[64*i+k]) h1 (by rw[qb2,List.length_singleton];omega) Z λh' I'=>H h' ?_
  simpa using I'
theorem kbf3{Inv:List Nat->AH->Prop}(H:∀d h,Inv d h->Tab h)(F:∀d h,Inv d h->Nats h s w)(y:∀d i h,Inv d h->i<64*w.length->d.length<64*w.length->Runs (go (.round l [.i (i:Int)]) h) λv h'=>v=.bool true/\Inv (d++[i]) h')(K:w.length<=2000) :
  ∀(k i:Nat),i+k=w.length->∀h,Inv ((List.range (64*i)).filter (wbit w)) h->
  Runs (go (.pt kca kls [(0,.func (.yield l) [] []),(6,s.v),(7,.i (w.length:Int)),(8,.i (i:Int))]) h) λv h'=>v=.tup []/\Inv ((List.range (64*w.length)).filter (wbit w)) h':=by
 intro k
 induction k with
 | zero =>
  intro i Q h I;obtain rfl:i=w.length:=by omega
  rw[k0r];exact qbb (qb0 (by omega)) (qx ⟨rfl,I⟩)
 | succ k ih =>
  intro i Q h I;have z:i<w.length:=by omega
  obtain⟨r,U,V⟩:=(F _ _ I).rdN z;rw[k0r];refine qba (qbz (by omega)) (qy U (qy V ?_));refine kbqk H y K z _ _ ((F _ _ I).lt _ (qb5 z)) rfl _ h ?_ I λh' G=>?_
  ·have h1:=List.length_filter_le (wbit w) (List.range (64*i));have h2:=List.length_filter_le w[i].testBit (List.range 64);rw[qcn]at h1 h2;show _+((List.range 64).filter _).length<=_;omega
  rw[<- kbge z]at G;exact ih (i+1) (by omega) h' G
end
noncomputable def aNote(y:LoopState)(b:Nat)(g:AV):ABlk:=kdn kv8 kfy 0 y none [(0,nV),(1,g),(2,.p (.new b 0)),(4,nV),(6,g)]
structure Coll(h0:AH)(b l:Nat)(g:AV)(d:List Nat)(h:AH):Prop where
 grow:Grow h0 h
 note:h.blks[l]?=some (aNote .ready b g)
 out:∃(t:Sl)(j:Option Nat),h.has b [t.v] ke9/\LeO (l+1) j/\GF EI T.int h Fp.no t j (zs d)
theorem keo{m n:Nat}(h:m<n):∀{j:Option Nat},LeO n j->∀k,j=some k->k≠m
 | some x,l,k,e=>by cases e;have:n<=x:=l;omega
theorem kbnq{h0 h:AH}{b l:Nat}{g:AV}{d:List Nat}(hb:h0.blks.size<=b)(aa:b<l)(I:Coll h0 b l g d h)(hd:d.length<900000)(i:Nat):Runs (go (.round l [.i (i:Int)]) h) λv h'=>v=.bool true/\Coll h0 b l g (d++[i]) h':=by
 obtain⟨G,H,t,j,B,K,V⟩:=I;have hl:l<h.blks.size:=(qcf.1 H).1;rw[kbe3 l none _ _ _ _ _ _ _ H,kp2 (h:=h) H,qbv];generalize hq:h.setBlk l _=h1;have F:Upd h h1 l:=by rw[<- hq];exact qbp _
 have n1:h1.blks[l]?=some (aNote .busy b g):=by rw[<- hq];exact qbo hl
 have B1:h1.has b [t.v] ke9:=B.updr (by omega) F;have V1:GF EI T.int h1 Fp.no t j (zs d):=V.upd F qbm (keo (Nat.lt_succ_self l) K);refine qy (B1.rd0 rfl qcq) ?_;refine qz λh2 b2 y=>?_;refine qy (kdk b2 (by rw[kf0];rfl)) ?_;obtain⟨t',z,e3,V3,Z⟩:=(V1.grow y).push (T:=Fp.no) (cs:=[.i (i:Int)]) (x:=(i:Int)) rfl NotO.no (klz (by rw[zs_len];omega));refine qy e3 (qy qcq ?_);have m3:Md (Fp.opt j) h2 z:=Z.md λk e=>e;have no:∀{m:Nat},m<=l->¬Fp.opt j m:=λhm e=>keo (Nat.lt_succ_of_le hm) K _ e rfl;have B3:z.has b [t.v] ke9:=m3.has (y.has B1) (no (by omega));have n3:z.blks[l]?=some (aNote .busy b g):=m3.get ((y.blk l (qcf.1 n1).1).trans n1) (no (qbr _));refine q0 B3 rfl λQ B4 U=>?_;have n4:Q.blks[l]?=some (aNote .busy b g):=(U.blk l (by omega) (qcf.1 n3).1).trans n3;rw[klf n4];have W:Upd Q (Q.setBlk l (aNote .ready b g)) l:=qbp _;have hs:h.blks.size<=h2.blks.size:=qbs F.size y.size;refine qx ⟨rfl,?_,qbo (qcf.1 n4).1,t',some h2.blks.size,B4.updr (by omega) W,show l+1<=h2.blks.size by omega,?_⟩
 ·have G2:Grow h0 h2:=(G.updr (by omega) F).trans y;have G3:Grow h0 z:=G2.updo (LeO.trans (by omega) K) Z;exact(G3.updr hb U).updr (by omega) W
 ·rw[zs_app];have V4:GF EI T.int z Fp.no t' (some h2.blks.size) (zs d++[(i:Int)]):=V3.mono (λj x=>x.1.elim id id) NotO.no;have:=(V4.upd U qbm λk e=>by cases e;omega).upd W qbm λk e=>by cases e;omega
  exact this
section
variable{h0:AH}{s:Sl}{w:List Nat}{n:Int}
theorem k8z(T0:Tab h0)(N:Nats h0 s w):Runs (go (.fn kny [.agg [.i n,s.v]]) h0) λv h'=>Grow h0 h'/\∃(t':Sl)(H:Option Nat),v=t'.v/\LeO h0.blks.size H/\GF EI T.int h' Fp.no t' H (zs (btL n w)):=by
 rw[kbi3];refine qz λh1 b1 g1=>qct b1 0 rfl (qcs b1 1 rfl ?_);refine(kp1 (N.grow g1)).call λv h2 ⟨e,Z⟩=>?_;subst e;refine qy (seen rfl) ?_;cases hR:btR n w with
 | false =>
  refine qba rfl (qx ⟨g1.trans Z,_,none,rfl,trivial,?_⟩);unfold btL;rw[hR];exact GF.none _ _ _ _
 | true =>
  obtain⟨ab,ac,U,W⟩:=btR_n hR;refine qbb rfl (qct (Z.has b1) 0 rfl (qcs (Z.has b1) 1 rfl ?_))
  have k0:Runs (go (.fn ksj [.agg [.i n,s.v]]) h2) λv h'=>v=.func (.func kca) [] [.p (.new h2.blks.size 0)]/\h'.has h2.blks.size [.i n,s.v] kz/\Grow h2 h':=by rw[kbp5];exact qz λF b3 g3=>qx ⟨rfl,b3,g3⟩
  refine k0.call λv F ⟨e,b3,g3⟩=>?_;subst e;have G3:Grow h0 F:=(g1.trans Z).trans g3
  have key:Runs (go (.fn kfy [nV,.func (.func kca) [] [.p (.new h2.blks.size 0)]]) F) λv h'=>Grow F h'/\∃(t':Sl)(H:Option Nat),v=t'.v/\LeO F.blks.size H/\GF EI T.int h' Fp.no t' H (zs (btL n w)):=by
   rw[k74];refine qz λK b4 g4=>?_;rw[kbh8,kq8];refine Runs.newM λh5 hb g5=>?_;rw[kbf2];generalize ad:(AV.func (.func kca) [] [AV.ptr (some (Ref.new h2.blks.size 0))])=gv at hb;have s4:F.blks.size<K.blks.size:=b4.lt;have aa:h5.has h2.blks.size [.i n,s.v] kz:=g5.has (g4.has b3);have I0:Coll F F.blks.size K.blks.size gv [] h5:=⟨g4.trans g5,hb,_,none,g5.has b4,trivial,GF.none _ _ _ _⟩;have N3:Nats F s w:=N.grow G3;have T3:Tab F:=T0.grow G3
   have k1:Runs (go (.fn kca [.func (.yield K.blks.size) [] [],.p (.new h2.blks.size 0)]) h5) λv h'=>v=.tup []/\Coll F F.blks.size K.blks.size gv ((List.range (64*w.length)).filter (wbit w)) h':=by rw[kbap];refine qcs aa 1 rfl ?_;rw[N.len];exact kbf3 (Inv:=Coll F F.blks.size K.blks.size gv) (λd h I=>T3.grow I.grow) (λd h I=>N3.grow I.grow) (λd i h I hi hd=>kbnq (qbr _) s4 I (by omega) i) (by omega) w.length 0 (by omega) h5 (by simpa using I0)
   refine k1.call λv h6 ⟨e,I⟩=>?_;obtain⟨G,hn,t,j,B,Q,V⟩:=I;rw[kn8 hn,qbv];rw[kbhd];have hl:=(qcf.1 hn).1;have u6:Upd h6 (h6.setBlk K.blks.size .dead) K.blks.size:=qbp _;refine qy ((B.updr (by omega) u6).rd0 rfl qcq) (qx ⟨G.updr (by omega) u6,t,j,rfl,LeO.trans (by omega) Q,?_⟩)
   have e:btL n w=(List.range (64*w.length)).filter (wbit w):=by
    unfold btL;rw[hR,if_pos rfl];obtain⟨z,rfl⟩:∃z:Nat,n=(z:Int):=⟨n.toNat,by omega⟩;rw[Int.toNat_natCast]at U W|-;obtain⟨q,hq⟩:∃q,64*w.length=z+q:=⟨64*w.length-z,by omega⟩;rw[hq,List.range_add,List.filter_append]
    have:((List.range q).map (z + ·)).filter (wbit w)=[]:=List.filter_eq_nil_iff.2 λx hx=>by rw[List.mem_map]at hx;obtain⟨y,hy,rfl⟩:=hx;rw[qco]at hy;rw[W (z+y) (by omega) (by omega)];simp
    rw[this,List.append_nil]
   rw[e];exact V.upd u6 qbm (keo (Nat.lt_succ_self _) Q)
  have k2:Runs (go (.fn kuf [.func (.func kca) [] [.p (.new h2.blks.size 0)]]) F) λv h'=>Grow F h'/\∃(t':Sl)(H:Option Nat),v=t'.v/\LeO F.blks.size H/\GF EI T.int h' Fp.no t' H (zs (btL n w)):=by rw[kbjq];refine key.call λv h' ⟨g,t',H,e,Q,V⟩=>?_;subst e;exact qy (seen qcq) (qx ⟨g,t',H,rfl,Q,V⟩)
  refine k2.call λv h' ⟨g,t',H,e,Q,V⟩=>?_;subst e;exact qy (seen qcq) (qx ⟨G3.trans g,t',H,rfl,LeO.trans G3.size Q,V⟩)
end
theorem kblb{w:List Nat}{i x:Nat}(y:i<w.length)(j:Nat):wbit (w.set i x) j=if j/64=i then x.testBit (j%64)else wbit w j:=by
 unfold wbit;split
 ·rename_i h;rw[h];have:(w.set i x).getD i 0=x:=by simp[List.getD,y]
  rw[this]
 ·rename_i h
  have:(w.set i x).getD (j/64) 0=w.getD (j/64) 0:=by simp only[List.getD];rw[List.getElem?_set_ne (by omega)]
  rw[this]
theorem k3a{w:List Nat}{j:Nat}(h:w.length<=j/64):wbit w j=false:=by
 unfold wbit;have:w.getD (j/64) 0=0:=by simp[List.getD,h]
 rw[this];exact Nat.zero_testBit _
section
variable{h0:AH}{S:Fp}{s:Sl}
theorem k3k{xs:List Int}(n:Sq EI h0 S s xs){b:Nat}{z:Int}{e:TypeId}(hb:h0.has b [.i z] e):Runs (go (.fn kcr [s.v,.func (.func kee) [] [.p (.new b 0)]]) h0) λv h'=>v=.bool (xs.any λx=>decide (x<0)||decide (x>=z))/\Grow h0 h':=by
 rw[kbff];refine qbq (xs:=xs) ?_;rw[k9f,n.len];refine kf4 (n:=xs.length) (G:=λy h=>go (.pt kbf kb2 [(0,s.v),(1,.func (.func kee) [] [.p (.new b 0)]),(7,.i (xs.length:Int)),(8,.i y)]) h) (λi h P I g F H=>?_) (λh g=>?_) xs.length 0 (by omega) (qk h0) (λj W=>by omega)
 ·obtain⟨r,K,Q⟩:=(n.grow g).int I;rw[qb6 I]at F H;simp only[Option.any_some]at F H;show Runs (go _ _) _;rw[k52];refine qba (qbz (by omega)) (qy K (qy Q ?_))
  have key:Runs (go (.fn kee [.i xs[i],.p (.new b 0)]) h) λv h'=>v=.bool (decide (xs[i]<0)||decide (xs[i]>=z))/\h'=h:=by
   rw[kbpq];cases decide (xs[i]<0)
   ·refine qbb rfl (qy rfl (qy ((g.has hb).rd0 rfl qcr) ?_));exact qx ⟨rfl,rfl⟩
   ·exact qx ⟨rfl,rfl⟩
  refine key.call λv h' ⟨U,V⟩=>?_;subst U;subst V;refine qy (seen rfl) ?_;rw[ki (by have:=n.short;omega)];exact qbc (λc=>qx (F _ g c)) λc=>H _ g c
 ·rw[k52,condF (qb0 (by omega))]
theorem kbi7{l:List Nat}{n:Nat}(q:Sq EI h0 S s (zs l))(hl:∀x∈l,x<n)(hn:n<=65536){b c i:Nat}{t:Sl}(hb:h0.blks.size<=b)(K:c≠i)(aa:b≠c)(F:b≠i)(hi:h0.blks.size<=i):∀(k j:Nat),j+k=l.length->∀(h:AH)(w:List Nat),Grow h0 h->(∃cs:List AV,cs.length=2/\h.has b cs kz)->h.has c [.i (n:Int),t.v] kz->Vec h t i w->w.length=(n+63)/64->(∀m,wbit w m=decide (m∈l.take j))->
  Runs (go (.pt kgd kqp [(4,.p (.new b 0)),(6,.p (.new c 0)),(23,s.v),(24,.i (l.length:Int)),(25,.i (j:Int))]) h) λv h'=>Grow h0 h'/\∃(t:Sl)(w:List Nat),v=.tup [.agg [.i (n:Int),t.v],.i 0]/\Nats h' t w/\w.length=(n+63)/64/\Own h0 t/\∀m,wbit w m=decide (m∈l):=by
 intro k
 induction k with
 | zero =>
  intro j hj h w g ⟨cs,y,B⟩ C V Q U;obtain rfl:j=l.length:=by omega
  rw[k1v];refine qbb (qb0 (by omega)) (qct C 0 rfl (qcs C 1 rfl ?_));refine q0 B (by rw[y];rfl) λh1 B1 z=>?_;refine qct B1 0 rfl (qcs B1 1 rfl (qx ⟨g.updr hb z,t,w,rfl,(V.updr (λe=>F e.symm) z).nats,Q,V.own hi,λm=>?_⟩));rw[U,List.take_length]
 | succ k ih =>
  intro j hj h w g hB C V Q U;have W:j<(zs l).length:=by rw[zs_len];omega
  obtain⟨r,e1,e2⟩:=(q.grow g).int W;have hx:(zs l)[j]=((l[j]'(by omega):Nat):Int):=by simp[zs]
  have G:j<l.length:=by omega
  have ab:l[j]<n:=hl _ (qb5 G);have hq:l[j]/64<w.length:=by omega
  rw[k1v];refine qba (qbz (by omega)) (qy e1 (qy e2 ?_));rw[hx];refine qcs C 1 rfl ?_;rw[show Int.tdiv ((l[j]:Nat):Int) 64=((l[j]/64:Nat):Int)from rfl,wrap64 (by omega) (by omega),show Int.tmod ((l[j]:Nat):Int) 64=((l[j]%64:Nat):Int)from rfl,V.len];refine qy (V.idx rfl (kba hq)) (qy (V.rd rfl (kba hq) qcr) (qbb (qb0 (by omega)) (qy (V.idx rfl (kba hq)) ?_)));have H:w[l[j]/64]<18446744073709551616:=V.lt _ (qb5 hq);have I:2^(l[j]%64)<2^64:=Nat.pow_lt_pow_right (by decide) (by omega);have Z:w.getD (l[j]/64) 0=w[l[j]/64]:=by simp[List.getD,hq]
  rw[Z,kbgt (by omega),or_nat H I];refine qbg V rfl (kba hq) (kbg (Nat.or_lt_two_pow (n:=64) H I)) λh1 V1 z=>?_;rw[ki (by have:=q.short;rw[zs_len]at this;omega)];obtain⟨cs,y,B⟩:=hB;refine ih (j+1) (by omega) h1 _ (g.updr hi z) ⟨cs,y,B.updr F z⟩ (C.updr K z) V1 (by rw[qb9];exact Q) λm=>?_;rw[kz1 hq,U,qck G,Bool.eq_iff_iff];simp only[qcc,qby,qb7,List.mem_singleton];exact Or.comm
theorem k34{l:List Nat}{n:Nat}(q:Sq EI h0 S s (zs l))(Z:∀x∈l,x<n)(hn:n<=65536):Runs (go (.fn kgd [.i (n:Int),s.v]) h0) λv h'=>Grow h0 h'/\∃(t:Sl)(w:List Nat),v=.tup [.agg [.i (n:Int),t.v],.i 0]/\Nats h' t w/\w.length=(n+63)/64/\Own h0 t/\∀m,wbit w m=decide (m∈l):=by
 rw[k04];refine qz λh1 b1 g1=>qz λh2 b2 H=>qy ((H.has b1).rd0 rfl qcr) ?_;refine(kur hn).call λv I ⟨K,t,i,e,hi,V⟩=>?_;subst e;refine qy rfl (qy rfl (qba rfl (qy rfl (qy (seenAt rfl qcq) (qy rfl ?_)))));dsimp only;refine qz λh4 b4 Q=>q0 b4 rfl λh5 b5 U=>qbb rfl ?_;have s1:h0.blks.size<h1.blks.size:=b1.lt;have s2:h1.blks.size<h2.blks.size:=b2.lt;have s3:i<I.blks.size:=V.inn;have s4:h2.blks.size<=I.blks.size:=K.size;have G4:Grow h0 h4:=(((g1.trans H).trans K).trans Q);have G5:Grow h0 h5:=G4.updr (by have:=G4.size;omega) U;have z:Grow h2 h5:=(K.trans Q).updr (by omega) U;refine(k3k (q.grow G5) (z.has (H.has b1))).call λv h6 ⟨e,G⟩=>?_;subst e
 have F:((zs l).any λx=>decide (x<0)||decide (x>=(n:Int)))=false:=by rw[List.any_eq_false];intro x W;unfold zs at W;rw[List.mem_map]at W;obtain⟨y,hy,rfl⟩:=W;have:=Z y hy;simp;omega
 rw[F];refine qy (seen rfl) (qbb rfl ?_);rw[q.len,zs_len];have V6:Vec h6 t i (List.replicate ((n+63)/64) 0):=((V.grow Q).updr (by omega) U).grow G;exact kbi7 q Z hn (b:=h1.blks.size) (c:=I.blks.size) (i:=i) (by omega) (by omega) (by omega) (by omega) (by omega) l.length 0 (by omega) h6 _ (G5.trans G) ⟨_,rfl,G.has (z.has b2)⟩ (G.has b5) V6 (by simp) (λm=>by rw[kzb];simp)
end
def andL(n1:Int)(w1:List Nat)(n2:Int)(w2:List Nat):List Nat:=if btR n1 w1&&(btR n2 w2&&decide (n1=n2))then(btL n1 w1).filter (wbit w2)else []
def SetP(h0:AH)(l:List Nat)(v:AV)(h':AH):Prop:=Grow h0 h'/\∃(n:Int)(t:Sl)(w:List Nat)(e:Int),v=.tup [.agg [.i n,t.v],.i e]/\Nats h' t w/\Own h0 t/\btL n w=l
theorem k94:btL 0 []=[]:=by unfold btL;split<;>rfl
section
variable{h0:AH}{s1 s2:Sl}{w1 w2:List Nat}{n1 n2:Int}
theorem kbbl(Z:Nats h0 s1 w1)(N2:Nats h0 s2 w2)(hl:w1.length=w2.length)(hs:w1.length<=2000){b1 b2 b3 b4 i:Nat}{t:Sl}{x1 x2:Int}(i1:b1≠i)(i2:b2≠i)(i3:b3≠i)(i4:b4≠i)(h3:h0.blks.size<=b3)(hi:h0.blks.size<=i):∀(k j:Nat),j+k=w1.length->∀(h:AH)(w:List Nat),Grow h0 h->h.has b1 [.i x1,s1.v] kz->h.has b2 [.i x2,s2.v] kz->(∃cs:List AV,cs.length=2/\h.has b3 cs kz)->h.has b4 [.i n1,t.v] kz->Vec h t i w->w.length=w1.length->(∀m,m/64<j->wbit w m=(wbit w1 m&&wbit w2 m))->
  Runs (go (.pt ki0 ksc [(2,.func (.func kf2) [] []),(3,.p (.new b1 0)),(4,.p (.new b2 0)),(6,.p (.new b3 0)),(8,.p (.new b4 0)),(9,.i 0),(35,.i (w1.length:Int)),(36,.i (j:Int))]) h) λv h'=>Grow h0 h'/\∃(t:Sl)(w:List Nat),v=.tup [.agg [.i n1,t.v],.i 0]/\Nats h' t w/\w.length=w1.length/\Own h0 t/\∀m,wbit w m=(wbit w1 m&&wbit w2 m):=by
 intro k
 induction k with
 | zero =>
  intro j hj h w g B1 B2 ⟨cs,z,G⟩ F V H I;obtain rfl:j=w1.length:=by omega
  rw[k2w];refine qbb (qb0 (by omega)) (qct F 0 rfl (qcs F 1 rfl ?_));refine q0 G (by rw[z];rfl) λh1 B5 y=>?_;refine qct B5 0 rfl (qcs B5 1 rfl (qx ⟨g.updr h3 y,t,w,rfl,(V.updr (λe=>i3 e.symm) y).nats,H,V.own hi,λm=>?_⟩));rcases Nat.lt_or_ge (m/64) w1.length with h' | h'
  ·exact I m h'
  ·rw[k3a (by omega),k3a (w:=w1) h'];rfl
 | succ k ih =>
  intro j hj h w g B1 B2 ⟨cs,z,G⟩ F V H I;have K:j<w1.length:=by omega
  have Q:j<w2.length:=by omega
  obtain⟨r1,e1,e2⟩:=(Z.grow g).rdN K;obtain⟨r2,e3,e4⟩:=(N2.grow g).rdN Q;rw[k2w];refine qba (qbz (by omega)) (qcs F 1 rfl (qcs B1 1 rfl (qy e1 (qy e2 (qcs B2 1 rfl (qy e3 (qy e4 ?_)))))));have a1:w1[j]<18446744073709551616:=Z.lt _ (qb5 K);have a2:w2[j]<18446744073709551616:=N2.lt _ (qb5 Q);refine qy (k77 _ _ _) (qy (seen rfl) ?_);rw[kt5 a1 a2];refine qbd ((qk h).same F 1 1) ?_;rw[V.len];have hq:j<w.length:=by omega
  have U:w1[j]&&&w2[j]<18446744073709551616:=qbu Nat.and_le_left a1;refine qy (V.idx rfl (kba hq)) (qbg V rfl (kba hq) (kbg U) λh1 V1 y=>?_);rw[ki (by omega)];refine ih (j+1) (by omega) h1 _ (g.updr hi y) (B1.updr i1 y) (B2.updr i2 y) ⟨cs,z,G.updr i3 y⟩ (F.updr i4 y) V1 (by rw[qb9];exact H) λm aa=>?_;rw[kblb hq];split
  ·rename_i W;subst W;rw[Nat.testBit_and];unfold wbit;simp[List.getD,K,Q]
  ·exact I m (by omega)
theorem kbhj(N1:Nats h0 s1 w1)(N2:Nats h0 s2 w2):Runs (go (.fn ki0 [.agg [.i n1,s1.v],.agg [.i n2,s2.v],.func (.func kf2) [] []]) h0) (SetP h0 (andL n1 w1 n2 w2)):=by
 rw[kbkf];refine qz λh1 b1 g1=>qz λh2 b2 g2=>qz λK b3 g3=>?_;have B1:=g3.has (g2.has b1);have B2:=g3.has b2;have W:Grow h0 K:=(g1.trans g2).trans g3;have ad:h0.blks.size<h1.blks.size:=b1.lt;have ae:h1.blks.size<h2.blks.size:=b2.lt;have af:h2.blks.size<K.blks.size:=b3.lt;refine qct B1 0 rfl (qcs B1 1 rfl ?_);refine(kp1 (N1.grow W)).call λv h4 ⟨e,Z⟩=>?_;subst e;refine qy (seen rfl) ?_
 have G:∀{h:AH},Grow K h->andL n1 w1 n2 w2=[]->Runs ((h.puts (Ref.new h2.blks.size 0) [.i 0,nV]).bind λH =>
   ((H.cell ((Ref.new h2.blks.size 0).add 0)).bind (AV.asInt .i64)).bind λaa=>((H.cell ((Ref.new h2.blks.size 0).add 1)).bind AV.asSl).bind λab=>some (.tup [.agg [.i aa,ab.v],.i 1],H)) (SetP h0 (andL n1 w1 n2 w2)):=by
  intro h g e;refine q0 (g.has b3) rfl λh' b' u'=>qct b' 0 rfl (qcs b' 1 rfl (qx ⟨(W.trans g).updr (by omega) u',0,_,[],1,rfl,qu _,qr _,?_⟩));rw[e,k94]
 refine qbc (λc=>G Z ?_) λc=>?_
 ·rw[qcl]at c;unfold andL;rw[c];rfl
 rw[qcm]at c;have Q:=Z.has B2;refine qct Q 0 rfl (qcs Q 1 rfl ?_);refine(kp1 (N2.grow (W.trans Z))).call λv h5 ⟨e,g5⟩=>?_;subst e;refine qy (seen rfl) ?_;have y:Grow K h5:=Z.trans g5;refine qbc (λI=>G y ?_) λI=>?_
 ·rw[qcl]at I;unfold andL;rw[c,I];rfl
 rw[qcm]at I;refine qct (y.has B1) 0 rfl (qct (y.has B2) 0 rfl ?_);refine qbc (λU=>G y ?_) λU=>?_
 ·rw[qcl,qbx]at U;unfold andL;rw[c,I,qb0 U];rfl
 rw[qcm,qby]at U;subst U;obtain⟨p0,p1,p2,p3⟩:=btR_n c;obtain⟨-,-,q2,q3⟩:=btR_n I;obtain⟨z,rfl⟩:∃z:Nat,n1=(z:Int):=⟨n1.toNat,by omega⟩;rw[Int.toNat_natCast]at p2 q2 p3 q3;refine qct (y.has B1) 0 rfl ?_;refine(kur (n:=z) (by omega)).call λv h6 ⟨g6,t,i,e,hi,V⟩=>?_;have hi:h5.blks.size<=i:=hi;subst e;refine qy rfl (qy rfl (qba rfl (qy rfl (qy (seenAt rfl qcq) (qy rfl ?_)))));dsimp only;refine qz λh7 b7 g7=>q0 b7 rfl λh8 b8 u8=>qcs b8 1 rfl ?_;have s6:i<h6.blks.size:=V.inn;have s5:K.blks.size<=h5.blks.size:=y.size;have ag:h5.blks.size<=h6.blks.size:=g6.size;have F:Grow K h8:=((y.trans g6).trans g7).updr (by omega) u8;have V8:Vec h8 t i (List.replicate ((z+63)/64) 0):=(V.grow g7).updr (by omega) u8;rw[V8.len,qca,<- p2];have:=kbbl (n1:=(z:Int)) (x1:=(z:Int)) (x2:=(z:Int)) N1 N2 (by omega) (by omega) (b1:=h0.blks.size) (b2:=h1.blks.size) (b3:=h2.blks.size) (b4:=h6.blks.size) (i:=i) (t:=t) (by omega) (by omega) (by omega) (by omega) (by omega) (by omega) w1.length 0 (by omega) h8 _ (W.trans F) (F.has B1) (F.has B2) ⟨_,rfl,F.has b3⟩ b8 V8 (by rw[qca,p2]) (λm hm=>absurd hm (Nat.not_lt_zero _));refine this.imp λv h' ⟨g,t',w,e,N,hw,o,hm⟩=>⟨g,(z:Int),t',w,0,e,N,o,?_⟩
 have hR:btR (z:Int) w=true:=btR_of p0 p1 (by rw[Int.toNat_natCast];omega) λm ah ac=>by rw[hm,p3 m (by omega) ac];rfl
 unfold andL btL;rw[hR,c,I,qbz rfl,Int.toNat_natCast];simp only[Bool.and_self,if_true,List.filter_filter];apply List.filter_congr;intro x _;rw[hm,Bool.and_comm]
theorem kbqn(Q:Nats h0 s1 w1)(U:Nats h0 s2 w2):Runs (go (.fn kon [.agg [.i n1,s1.v],.agg [.i n2,s2.v]]) h0) (SetP h0 (andL n1 w1 n2 w2)):=by rw[kbn8];refine qz λh1 b1 V=>qz λh2 b2 F=>qz λW b3 z=>?_;have B1:=z.has (F.has b1);have B2:=z.has b2;have y:Grow h0 W:=(V.trans F).trans z;refine qct B1 0 rfl (qcs B1 1 rfl (qct B2 0 rfl (qcs B2 1 rfl ?_)));refine(kbhj (Q.grow y) (U.grow y)).call λv h4 ⟨G,n,t,w,e,Z,N,H,hb⟩=>?_;subst Z;refine qy rfl (qy rfl (qba rfl (qy rfl (qy (seenAt rfl qcq) (qy rfl ?_)))));dsimp only;have s1:h0.blks.size<h1.blks.size:=b1.lt;have s2:h1.blks.size<h2.blks.size:=b2.lt;refine q0 (G.has b3) rfl λh5 I K=>qct I 0 rfl (qcs I 1 rfl (qx ⟨(y.trans G).updr (by omega) K,n,t,w,e,rfl,N.updr H b3.lt K,H.of_le y,hb⟩))
end
theorem kdq{t:Tb}(h:tabR t=true):t.ids.length<=256/\t.cols.length<=16/\t.bins.length=t.cols.length/\∀i,i<t.cols.length->colR t i=true:=by unfold tabR idsR at h;simp only[qcb,qby,List.all_eq_true,qco,qcl,qbx]at h;exact⟨h.1.1.1.1,by omega,h.1.2,h.2⟩
theorem khd{t:Tb}{i:Nat}(h:colR t i=true)(z:i<t.cols.length)(hb:t.bins.length=t.cols.length):∃y:i<t.bins.length,2<=t.bins[i]/\t.bins[i]<=32/\t.cols[i].length=t.ids.length:=by
 unfold colR at h;have y:i<t.bins.length:=by omega
 simp only[qcb,qby,qcl,qbx,List.getD,qb6 z,qb6 y,Option.getD_some]at h;exact⟨y,by omega,by omega,h.1.2⟩
def leftP(t:Tb)(f:Nat)(c:Int)(i:Nat):Bool:=decide ((t.cols.getD f []).getD i 0<=c)
def leftR(t:Tb)(f:Nat)(c:Int):List Nat:=(List.range t.ids.length).filter (leftP t f c)
section
variable{h0:AH}{S:Fp}{s1 s2 s3:Sl}{t:Tb}
theorem kbqg{s:Sl}{f:Nat}{c:Int}(hf:f<t.cols.length)(Z:t.cols[f].length=t.ids.length)(aa:t.ids.length<=256)(q:Sq EI h0 S s t.cols[f]){b1 b2:Nat}{cs2:List AV}(n1:Sq EI h0 S s1 t.ids)(B1:h0.has b1 [s1.v,s2.v,s3.v] kbu)(B2:h0.has b2 [.i 0,nV] kz){G:AH}(ga:Grow G h0)(H:G.blks.size<=b2):∀(k i:Nat),i+k=t.ids.length->∀(h:AH)(x:Sl)(j:Option Nat),Grow h0 h->LeO h0.blks.size j->GF EI T.int h Fp.no x j (zs ((List.range i).filter (leftP t f c)))->
  Runs (go (.pt kf8 kmu [(2,.i c),(3,.p (.new b1 0)),(6,.p (.new b2 0)),(8,x.v),(44,s.v),(45,.i (t.ids.length:Int)),(46,.i (i:Int))]) h) λv h'=>Grow G h'/\∃(y:Sl)(w:List Nat),v=.tup [.agg [.i (t.ids.length:Int),y.v],.i 0]/\Nats h' y w/\Own G y/\w.length=(t.ids.length+63)/64/\∀m,wbit w m=decide (m∈leftR t f c):=by
 intro k
 induction k with
 | zero =>
  intro i hi h x j g I V;obtain rfl:i=t.ids.length:=by omega
  rw[kxr];refine qbb (qb0 (by omega)) (qcs (g.has B1) 0 rfl ?_);rw[n1.len];refine(k34 (S:=Fp.or (Fp.opt j) Fp.no) (l:=leftR t f c) (n:=t.ids.length) V.sq (λy K=>?_) (by omega)).call λv h1 ⟨g1,y,w,e,N,hw,o,hm⟩=>?_
  ·unfold leftR at K;rw[List.mem_filter,qco]at K;exact K.1
  subst e;refine qy rfl (qy rfl (qba rfl (qy rfl (qy (seenAt rfl qcq) (qy rfl ?_)))));dsimp only;have Q:=(g.has B2).lt;refine q0 (g1.has (g.has B2)) rfl λh2 z u2=>qct z 0 rfl (qcs z 1 rfl (qx ⟨?_,y,w,rfl,N.updr o Q u2,?_,hw,hm⟩))
  ·exact((ga.trans g).trans g1).updr H u2
  ·exact o.of_le (ga.trans g)
 | succ k ih =>
  intro i hi h x j g I V;have F:i<t.cols[f].length:=by omega
  obtain⟨r,e1,e2⟩:=(q.grow g).int F;rw[q.len,Z]at e1;rw[kxr]
  have hp:leftP t f c i=decide (t.cols[f][i]<=c):=by unfold leftP;simp[List.getD,hf,F]
  have hr:(List.range (i+1)).filter (leftP t f c)=(List.range i).filter (leftP t f c)++if leftP t f c i then [i]else []:=by rw[List.range_succ,List.filter_append];cases hq:leftP t f c i<;>simp[hq]
  have ab:(zs ((List.range i).filter (leftP t f c))).length<=i:=by rw[zs_len];exact qbs (List.length_filter_le _ _) (by simp)
  refine qba (qbz (by omega)) ?_;rw[q.len,Z];refine qy e1 (qy e2 (qbc (λU=>?_) λU=>?_))
  ·refine qz λh2 b2 W=>?_;refine qy (kdk b2 (by rw[kf0];rfl)) ?_;have V2:=V.grow W;obtain⟨y,h3,e3,V3,u3⟩:=V2.push (T:=Fp.no) (cs:=[.i (i:Int)]) (x:=(i:Int)) rfl NotO.no (klz (by omega));refine qy e3 (qy qcq ?_);rw[ki (by omega)];refine ih (i+1) (by omega) h3 y (some h2.blks.size) ((g.trans W).updo I u3) (show _<=_ from(g.trans W).size) ?_;rw[hr,hp,U,if_pos rfl,zs_app];exact V3.mono (λj x=>x.1.elim id id) NotO.no
  ·rw[ki (by omega)];refine ih (i+1) (by omega) h x j g I ?_;rw[hr,hp,U]
   simpa using V
theorem kbbz(n:TabAt h0 S s1 s2 s3 t)(hR:tabR t=true){f c:Nat}(K:f<t.cols.length)(hc:(c:Int)<t.bins.getD f 0):Runs (go (.fn kf8 [.agg [s1.v,s2.v,s3.v],.i (f:Int),.i (c:Int)]) h0) λv h'=>Grow h0 h'/\∃(y:Sl)(w:List Nat),v=.tup [.agg [.i (t.ids.length:Int),y.v],.i 0]/\Nats h' y w/\Own h0 y/\w.length=(t.ids.length+63)/64/\∀m,wbit w m=decide (m∈leftR t f (c:Int)):=by
 obtain⟨G,U,F,H⟩:=kdq hR;obtain⟨hb,h2,ab,I⟩:=khd (H f K) K F;rw[kbfo];refine qz λh1 b1 V=>qz λh2 b2 W=>?_;have B1:=W.has b1;refine qcs B1 0 rfl (qcs B1 1 rfl (qcs B1 2 rfl ?_));refine(ksa (n.grow (V.trans W))).call λv Z ⟨e,g3⟩=>?_;subst e;rw[hR];refine qy (seen rfl) (qbb rfl (qbb (qb0 (by omega)) ?_));have Q:Grow h0 Z:=(V.trans W).trans g3;have z:=g3.has B1;refine qcs z 2 rfl ?_;rw[n.cols.len];refine qbb (qb0 (by omega)) (qbb (qb0 (by omega)) (qcs z 1 rfl ?_));obtain⟨r,e1,e2⟩:=(n.bins.grow Q).int hb;have aa:t.bins.getD f 0=t.bins[f]:=by simp[List.getD,hb]
 rw[aa]at hc;refine qy e1 (qy e2 (qbb (qb0 (by omega)) (qcs z 2 rfl ?_)));obtain⟨r2,s',e3,e4,-,q⟩:=(n.cols.grow Q).sl K;refine qy e3 (qy e4 ?_);rw[q.len,I];have ac:=b1.lt;exact kbqg (cs2:=[]) K I G q ((n.grow Q).ids) z (g3.has b2) Q (by have:=V.size;omega) t.ids.length 0 (by omega) Z _ none (qk Z) trivial (GF.none _ _ _ _)
end
def nb(t:Tb)(f:Nat):Nat:=(t.bins.getD f 0).toNat-1
def cutsTo(t:Tb)(f:Nat):List (Nat×Nat):=(List.range f).flatMap λf=>(List.range (nb t f)).map λc=>(f,c)
def cutsL(t:Tb):List (Nat×Nat):=if tabR t then cutsTo t t.cols.length else []
def rowsL(t:Tb)(n:Int)(w:List Nat)(p:Nat×Nat):List Nat:=if btR n w&&decide ((t.ids.length:Int)=n)then(leftR t p.1 (p.2:Int)).filter (wbit w)else []
theorem ktj(t:Tb)(f:Nat):cutsTo t (f+1)=cutsTo t f++(List.range (nb t f)).map λc=>(f,c):=by unfold cutsTo;rw[List.range_succ,List.flatMap_append];simp
theorem knz(t:Tb):∀f:Nat,(∀i,i<f->nb t i<=31)->(cutsTo t f).length<=31*f
 | 0,_=>by simp[cutsTo]
 | f+1,h=>by rw[ktj,qb2,qb3,qcn];have:=knz t f λi y=>h i (by omega);have:=h f (by omega);omega
section
variable{S:Fp}{s1 s2 s3 s:Sl}{t:Tb}{n:Int}{w:List Nat}{l b1 b2:Nat}
structure EachOk(S:Fp)(s1 s2 s3 s:Sl)(t:Tb)(n:Int)(w:List Nat)(b1 b2:Nat)(h:AH):Prop where
 tab:Tab h
 at':TabAt h S s1 s2 s3 t
 nats:Nats h s w
 has1:h.has b1 [s1.v,s2.v,s3.v] kbu
 has2:h.has b2 [.i n,s.v] kz
theorem EachOk.grow{h h':AH}(e:EachOk S s1 s2 s3 s t n w b1 b2 h)(g:Grow h h'):EachOk S s1 s2 s3 s t n w b1 b2 h':=⟨e.tab.grow g,e.at'.grow g,e.nats.grow g,g.has e.has1,g.has e.has2⟩
theorem kbhz{h:AH}(E:EachOk S s1 s2 s3 s t n w b1 b2 h)(hR:tabR t=true){f c:Nat}(hf:f<t.cols.length)(hc:(c:Int)<t.bins.getD f 0){K:Sl->AH->Option (AV×AH)}{P:AV->AH->Prop}(H:∀(y:Sl)(j:Option Nat)(h':AH),Grow h h'->GF EI T.int h' Fp.no y j (zs (rowsL t n w (f,c)))->Runs (K y h') P) :
  Runs (((h.cell ((Ref.new b1 0).add 0)).bind AV.asSl).bind λae =>
   ((h.cell ((Ref.new b1 0).add 1)).bind AV.asSl).bind λaf =>
   ((h.cell ((Ref.new b1 0).add 2)).bind AV.asSl).bind λag =>
   (go (.fn kf8 [.agg [ae.v,af.v,ag.v],.i (f:Int),.i (c:Int)]) h).bind λU =>
   (AV.asTup2 U.1).bind λW =>
   (AV.asAgg W.1).bind λF =>
   cond (Nat.beq F.length 2) (
   ((F[0]?).bind (AV.asInt .i64)).bind λah =>
   ((F[1]?).bind AV.asSl).bind λai =>
   ((some W.2).bind (AV.asInt .i64)).bind λaz =>
   newK U.2 (.cells [.i 0,nV] kz) λz aj =>
   (aj.puts z [.i ah,ai.v]).bind λG =>
   ((G.cell (z.add 0)).bind (AV.asInt .i64)).bind λak =>
   ((G.cell (z.add 1)).bind AV.asSl).bind λal =>
   ((G.cell ((Ref.new b2 0).add 0)).bind (AV.asInt .i64)).bind λam =>
   ((G.cell ((Ref.new b2 0).add 1)).bind AV.asSl).bind λan =>
   (go (.fn kon [.agg [.i ak,al.v],.agg [.i am,an.v]]) G).bind λZ =>
   (AV.asTup2 Z.1).bind λaa =>
   (AV.asAgg aa.1).bind λI =>
   cond (Nat.beq I.length 2) (
   ((I[0]?).bind (AV.asInt .i64)).bind λao =>
   ((I[1]?).bind AV.asSl).bind λap =>
   ((some aa.2).bind (AV.asInt .i64)).bind λa0 =>
   (Z.2.puts z [.i ao,ap.v]).bind λQ =>
   ((Q.cell (z.add 0)).bind (AV.asInt .i64)).bind λaq =>
   ((Q.cell (z.add 1)).bind AV.asSl).bind λar =>
   (go (.fn kny [.agg [.i aq,ar.v]]) Q).bind λab =>
   ((some ab.1).bind AV.asSl).bind λau=>K au ab.2) none) none) P:=by
 refine qy (E.has1.rd 0 rfl qcq) (qy (E.has1.rd 1 rfl qcq) (qy (E.has1.rd 2 rfl qcq) ?_));refine(kbbz E.at' hR hf hc).call λv h1 ⟨g1,y1,w1,e,N1,o1,l1,m1⟩=>?_;subst e;refine qy rfl (qy rfl (qba rfl (qy rfl (qy (seenAt rfl qcq) (qy rfl ?_)))));dsimp only;refine qz λh2 b3 g2=>q0 b3 rfl λh3 b4 u3=>?_;have G3:Grow h1 h3:=g2.updr (qbr _) u3;have E3:=E.grow (g1.trans G3);refine qct b4 0 rfl (qcs b4 1 rfl (qy (E3.has2.rd 0 rfl qcr) (qy (E3.has2.rd 1 rfl qcq) ?_)));refine(kbqn (N1.grow G3) E3.nats).call λv h4 ⟨g4,n4,y4,w4,e4,he,N4,o4,hb⟩=>?_;subst he;refine qy rfl (qy rfl (qba rfl (qy rfl (qy (seenAt rfl qcq) (qy rfl ?_)))));dsimp only;refine q0 (g4.has b4) rfl λh5 b5 u5=>qct b5 0 rfl (qcs b5 1 rfl ?_);have G5:Grow h1 h5:=(G3.trans g4).updr (qbr _) u5;have ac:Grow h h5:=g1.trans G5;refine(k8z (n:=n4) (E.tab.grow ac) (N4.updr o4 b4.lt u5)).call λv h6 ⟨g6,y6,j6,e,lj,V⟩=>?_;subst e;refine qy (seen qcq) ?_;refine H y6 j6 h6 (ac.trans g6) ?_;rw[hb]at V;have ay:=(kdq hR).1
 have aw:∀i,t.ids.length<=i->wbit w1 i=false:=λi hi=>by rw[m1,qb0];intro hm;unfold leftR at hm;rw[List.mem_filter,qco]at hm;omega
 have ad:btR (t.ids.length:Int) w1=true:=btR_of (by omega) (by omega) (by rw[Int.toNat_natCast];exact l1) λi _ hi=>aw i (by rw[Int.toNat_natCast]at hi;exact hi)
 have ax:btL (t.ids.length:Int) w1=leftR t f (c:Int):=by unfold btL;rw[ad,if_pos rfl,Int.toNat_natCast];unfold leftR;apply List.filter_congr;intro i hi;rw[m1];unfold leftR;rw[Bool.eq_iff_iff,qby,List.mem_filter];exact⟨λh=>h.2,λh=>⟨hi,h⟩⟩
 have:andL (t.ids.length:Int) w1 n w=rowsL t n w (f,c):=by unfold andL rowsL;rw[ad,ax,Bool.true_and]
 rw[this]at V;exact V
theorem kbkx{Inv:List (Nat×Nat)->AH->Prop}(hE:∀d h,Inv d h->EachOk S s1 s2 s3 s t n w b1 b2 h)(hG:∀d h h',Inv d h->Grow h h'->Inv d h')(hR:tabR t=true)
  (F:∀(d:List (Nat×Nat))(f c:Nat)(h:AH)(y:Sl)(j:Option Nat),f<t.cols.length->(c:Int)<t.bins.getD f 0->d.length<1000->Inv d h->GF EI T.int h Fp.no y j (zs (rowsL t n w (f,c)))->Runs (go (.round l [.agg [.i (f:Int),.i (c:Int)],y.v]) h) λv h'=>v=.bool true/\Inv (d++[(f,c)]) h')
  {f:Nat} (W:f<t.cols.length) {P:AV->AH->Prop} (hP:∀h,Inv (cutsTo t (f+1)) h->Runs (go (.pt kbz kmz [(0,.func (.yield l) [] []),(1,.p (.new b1 0)),(2,.p (.new b2 0)),(10,s2.v),(11,.i (t.bins.length:Int)),(12,.i ((f+1:Nat):Int))]) h) P) :
  ∀(k c:Nat),c+k=nb t f->∀h,Inv (cutsTo t f++(List.range c).map λc=>(f,c)) h->
  Runs (go (.pt kbz kl7 [(0,.func (.yield l) [] []),(1,.p (.new b1 0)),(2,.p (.new b2 0)),(4,.i (f:Int)),(10,s2.v),(11,.i (t.bins.length:Int)),(12,.i (f:Int)),(18,.i (nb t f:Int)),(19,.i (c:Int))]) h) P:=by
 obtain⟨ac,Z,z,G⟩:=kdq hR;obtain⟨hb,ag,ad,ah⟩:=khd (G f W) W z;have Q:t.bins.getD f 0=t.bins[f]:=by simp[List.getD,hb]
 have ai:(nb t f:Int)=t.bins[f]-1:=by unfold nb;rw[Q];omega
 have ae:(cutsTo t f).length<=31*f:=knz t f λi hi=>by
  obtain⟨aa,aj,af,-⟩:=khd (G i (by omega)) (by omega) z;have:t.bins.getD i 0=t.bins[i]:=by simp[List.getD,aa]
  unfold nb;rw[this];omega
 intro k
 induction k with
 | zero =>
  intro c hc h I;obtain rfl:c=nb t f:=by omega
  rw[<- ktj]at I;rw[k2c];refine qbb (qb0 (by omega)) ?_;rw[ki (by omega)];exact hP h I
 | succ k ih =>
  intro c hc h I;rw[k2c];refine qba (qbz (by omega)) ?_;have U:(c:Int)<t.bins.getD f 0:=by rw[Q];omega
  refine kbhz (hE _ _ I) hR W U (K:=λy h'=>(go (.round l [.agg [.i (f:Int),.i (c:Int)],y.v]) h').bind λH=>((some H.1).bind AV.asBool).bind λab=>cond (!ab) (some (.tup [],H.2)) (go (.pt kbz kl7 [(0,.func (.yield l) [] []),(1,.p (.new b1 0)),(2,.p (.new b2 0)),(4,.i (f:Int)),(10,s2.v),(11,.i (t.bins.length:Int)),(12,.i (f:Int)),(18,.i (nb t f:Int)),(19,.i (IntKind.wrap .i64 ((c:Int)+1)))]) H.2)) λy j h1 g1 V=>?_;refine(F _ f c h1 y j W U ?_ (hG _ _ _ I g1) V).call λv h2 ⟨e,I2⟩=>?_
  ·rw[qb2,qb3,qcn];omega
  subst e;refine qy (seen rfl) (qbb rfl ?_);rw[ki (by omega)];refine ih (c+1) (by omega) h2 ?_;rw[List.range_succ,List.map_append,<- List.append_assoc];exact I2
theorem kbfd{Inv:List (Nat×Nat)->AH->Prop}(K:∀d h,Inv d h->EachOk S s1 s2 s3 s t n w b1 b2 h)(hG:∀d h h',Inv d h->Grow h h'->Inv d h')(V:tabR t=true)
  (z:∀(d:List (Nat×Nat))(f c:Nat)(h:AH)(y:Sl)(j:Option Nat),f<t.cols.length->(c:Int)<t.bins.getD f 0->d.length<1000->Inv d h->GF EI T.int h Fp.no y j (zs (rowsL t n w (f,c)))->Runs (go (.round l [.agg [.i (f:Int),.i (c:Int)],y.v]) h) λv h'=>v=.bool true/\Inv (d++[(f,c)]) h') :
  ∀(k f:Nat),f+k=t.cols.length->∀h,Inv (cutsTo t f) h->
  Runs (go (.pt kbz kmz [(0,.func (.yield l) [] []),(1,.p (.new b1 0)),(2,.p (.new b2 0)),(10,s2.v),(11,.i (t.bins.length:Int)),(12,.i (f:Int))]) h) λv h'=>v=.tup []/\Inv (cutsTo t t.cols.length) h':=by
 obtain⟨W,Q,F,H⟩:=kdq V;intro k
 induction k with
 | zero =>
  intro f hf h I;obtain rfl:f=t.cols.length:=by omega
  rw[kzc];exact qbb (qb0 (by omega)) (qx ⟨rfl,I⟩)
 | succ k ih =>
  intro f hf h I;have G:f<t.cols.length:=by omega
  obtain⟨hb,aa,Z,ab⟩:=khd (H f G) G F;obtain⟨r,e1,e2⟩:=(K _ _ I).at'.bins.int hb;rw[(K _ _ I).at'.bins.len]at e1;rw[kzc];refine qba (qbz (by omega)) ?_;rw[(K _ _ I).at'.bins.len];refine qy e1 (qy e2 ?_);have U:t.bins.getD f 0=t.bins[f]:=by simp[List.getD,hb]
  rw[wrap64 (by omega) (by omega),show t.bins[f]-1=(nb t f:Int)from by unfold nb;rw[U];omega];exact kbkx K hG V z G (λh I=>ih (f+1) (by omega) h I) (nb t f) 0 (by omega) h (by simpa using I)
theorem ky6{Inv:List (Nat×Nat)->AH->Prop}(F:∀d h,Inv d h->EachOk S s1 s2 s3 s t n w b1 b2 h)(H:∀d h h',Inv d h->Grow h h'->Inv d h')(G:tabR t=true)
  (z:∀(d:List (Nat×Nat))(f c:Nat)(h:AH)(y:Sl)(j:Option Nat),f<t.cols.length->(c:Int)<t.bins.getD f 0->d.length<1000->Inv d h->GF EI T.int h Fp.no y j (zs (rowsL t n w (f,c)))->Runs (go (.round l [.agg [.i (f:Int),.i (c:Int)],y.v]) h) λv h'=>v=.bool true/\Inv (d++[(f,c)]) h') {h:AH} (I:Inv [] h) :
  Runs (go (.fn kbz [.func (.yield l) [] [],.p (.new b1 0),.p (.new b2 0)]) h) λv h'=>v=.tup []/\Inv (cutsL t) h':=by
 rw[kbjh];refine qy ((F _ _ I).has1.rd 1 rfl qcq) ?_;rw[(F _ _ I).at'.bins.len];unfold cutsL;rw[G,if_pos rfl];exact kbfd F H G z t.cols.length 0 (by omega) h I
end
@[reducible] def EP:Ef (Int×Int):=Ef.pair EI EI
def zc(l:List (Nat×Nat)):List (Int×Int):=l.map λp=>((p.1:Int),(p.2:Int))
theorem zc_len(l:List (Nat×Nat)):(zc l).length=l.length:=qb3 _
theorem zc_app(l m:List (Nat×Nat)):zc (l++m)=zc l++zc m:=List.map_append
theorem k2r{n:Nat}(h:n<=1000000):growOk Pg n kbk 2=true:=by
 unfold growOk;rw[kbfn,kbnf];have h1:n*16<=ky:=by simp only[ky];omega
 have h2:n*2<=ky:=by simp only[ky];omega
 have y:n<=ky:=by simp only[ky];omega
 simp[h1,h2,y]
theorem EP.of{h:AH}{S:Fp}(a b:Int):EP.has h S [.i a,.i b] (a,b):=⟨[.i a],[.i b],rfl,rfl,rfl⟩
theorem Sq.two{h:AH}{S:Fp}{s:Sl}{xs:List (Int×Int)}(n:Sq EP h S s xs){i:Nat}(y:i<xs.length):∃r:Ref,idx s.ref s.len (i:Int) 2=some r/\(h.cell (r.add 0)).bind (AV.asInt .i64)=some xs[i].1/\(h.cell (r.add 1)).bind (AV.asInt .i64)=some xs[i].2:=by obtain⟨r,cs,z,⟨F,G,rfl,a1,a2⟩,l⟩:=n.at (khc y);have a1:F=[.i xs[i].1]:=a1;have a2:G=[.i xs[i].2]:=a2;subst a1;subst a2;rw[n.len];exact⟨r,z,l.rd (qk _) 0 rfl qcr,l.rd (qk _) 1 rfl qcr⟩
structure Lp{α:Type}(E:Ef α)(elem tl:TypeId)(note:LoopState->ABlk)(hs:AH)(bo l:Nat)(xs:List α)(h:AH):Prop where
 md:Md (λm=>m=bo\/m=l) hs h
 note:h.blks[l]?=some (note .ready)
 out:∃(t:Sl)(j:Option Nat),h.has bo [t.v] tl/\LeO hs.blks.size j/\GF E elem h Fp.no t j xs
section
variable{α:Type}{E:Ef α}{elem tl:TypeId}{note:LoopState->ABlk}{hs h:AH}{bo l:Nat}{xs:List α}
theorem Lp.grow{h':AH}(L:Lp E elem tl note hs bo l xs h)(g:Grow h h'):Lp E elem tl note hs bo l xs h':=⟨L.md.thenG g,(g.blk l (qcf.1 L.note).1).trans L.note,L.out.imp λ_ ⟨j,B,y,V⟩=>⟨j,g.has B,y,V.grow g⟩⟩
theorem kbq4{t:Sl}{j:Option Nat}{x:α}{cs:List AV}{k:Nat}{e':TypeId}(B:h.has bo [t.v] tl)(hn:h.blks[l]?=some (note .busy))(y:bo≠l)(G:bo<hs.blks.size)(H:l<hs.blks.size)(I:hs.blks.size<=h.blks.size)(lj:LeO hs.blks.size j)(V:GF E elem h Fp.no t j xs)(hx:E.has h Fp.no cs x)(hg:growOk Pg (xs.length+1) elem E.w=true)(bx:h.has k cs e')(K:1*Pg.cellsOf elem=cs.length)(z:∀h',h'.blks[l]?=some (note .busy)->kcq l none h'=some (.bool true,h'.setBlk l (note .ready))) :
  Runs ((kbb Pg elem ((⟨some (.new k 0),1,.is 1⟩:Sl).v) h).bind λp=>(kx Pg t p.1 p.2 elem E.w h).bind λq=>(AV.asSl q.1).bind λQ=>(q.2.puts (.new bo 0) [Q.v]).bind λU=>kcq l none U) λv h'=>v=.bool true/\Md (λm=>m=bo\/m=l\/j=some m) h h'/\h'.blks[l]?=some (note .ready)/\∃(t:Sl)(j:Option Nat),h'.has bo [t.v] tl/\LeO hs.blks.size j/\GF E elem h' Fp.no t j (xs++[x]):=by
 refine qy (kdk bx K) ?_;obtain⟨t',F,e3,V3,u3⟩:=V.push (T:=Fp.no) hx NotO.no hg;refine qy e3 (qy qcq ?_);have W:Md (Fp.opt j) h F:=u3.md λk e=>e;have no:∀{m:Nat},m<hs.blks.size->¬Fp.opt j m:=λhm e=>keo hm lj _ e rfl;have B3:F.has bo [t.v] tl:=W.has B (no G);have n3:F.blks[l]?=some (note .busy):=W.get hn (no H);refine q0 B3 rfl λZ B4 u4=>?_;have n4:Z.blks[l]?=some (note .busy):=(u4.blk l (λe=>y e.symm) (qcf.1 n3).1).trans n3;rw[z _ n4];have u5:Upd Z (Z.setBlk l (note .ready)) l:=qbp _;refine qx ⟨rfl,?_,qbo (qcf.1 n4).1,t',some h.blks.size,B4.updr y u5,I,?_⟩
 ·refine((W.mono λm _ e=>.inr (.inr e)).trans (u4.md (.inl rfl))).trans (u5.md (.inr (.inl rfl)))
 ·have V4:GF E elem F Fp.no t' (some h.blks.size) (xs++[x]):=V3.mono (λj x=>x.1.elim id id) NotO.no;exact(V4.upd u4 qbm λk e=>by cases e;omega).upd u5 qbm λk e=>by cases e;omega
theorem Lp.next{xs ys:List α}{h h1 h':AH}{j:Option Nat}(y:Md (λm=>m=bo\/m=l) hs h1)(z:LeO hs.blks.size j)(F:Md (λm=>m=bo\/m=l\/j=some m) h1 h')(G:h'.blks[l]?=some (note .ready))(o:∃(t:Sl)(j:Option Nat),h'.has bo [t.v] tl/\LeO hs.blks.size j/\GF E elem h' Fp.no t j ys):Lp E elem tl note hs bo l ys h':=⟨y.next F λm H t=>t.elim .inl λt=>t.elim .inr λe=>absurd rfl (keo H z _ e),G,o⟩
end
theorem EachOk.md{S T:Fp}{s1 s2 s3 s:Sl}{t:Tb}{n:Int}{w:List Nat}{b1 b2:Nat}{h h':AH}(e:EachOk S s1 s2 s3 s t n w b1 b2 h)(m:Md T h h')(d:Dis S T)(y:∀j,¬Av s j w->S j)(n1:¬T b1)(n2:¬T b2):EachOk S s1 s2 s3 s t n w b1 b2 h':=⟨e.tab.md m,e.at'.md m d,e.nats.mdE y m d,m.has e.has1 n1,m.has e.has2 n2⟩
theorem TabAt.bound{h:AH}{S:Fp}{s1 s2 s3:Sl}{t:Tb}(n:TabAt h S s1 s2 s3 t):TabAt h (Fp.below h.blks.size) s1 s2 s3 t:=⟨n.ids.bound.mono λ_ x=>x.2,n.bins.bound.mono λ_ x=>x.2,n.cols.bound.mono λ_ x=>x.2⟩
noncomputable def cNote(s1 s2 s3:Sl)(b bo:Nat)(g:AV)(y:LoopState):ABlk:=kdn kwg kfl 0 y none [(0,.agg [s1.v,s2.v,s3.v]),(1,.p (.new b 0)),(2,nV),(3,.p (.new bo 0)),(5,.agg [s1.v,s2.v,s3.v]),(6,.bool true),(7,.agg [s1.v,s2.v,s3.v]),(8,.agg [.i 0,nV]),(9,g)]
section
variable{h0:AH}{S:Fp}{s1 s2 s3:Sl}{t:Tb}
theorem k8l{hs h:AH}{b bo l:Nat}{g:AV}{d:List (Nat×Nat)}{f c:Nat}{y:Sl}(z:bo≠l)(U:bo<hs.blks.size)(F:l<hs.blks.size)(hd:d.length<1000)(I:Lp EP kbk kku (cNote s1 s2 s3 b bo g) hs bo l (zc d) h):Runs (go (.round l [.agg [.i (f:Int),.i (c:Int)],y.v]) h) λv h'=>v=.bool true/\Lp EP kbk kku (cNote s1 s2 s3 b bo g) hs bo l (zc (d++[(f,c)])) h':=by
 obtain⟨M,W,t,j,B,Z,V⟩:=I;rw[k6x l none _ _ _ _ _ _ _ _ _ _ _ _ _ _ _ _ _ _ _ _ W];refine qz λh1 b1 g1=>q0 b1 rfl λh2 b2 u2=>?_;have H:Grow h h2:=g1.updr (qbr _) u2;have n2:h2.blks[l]?=some (cNote s1 s2 s3 b bo g .ready):=(H.blk l (qcf.1 W).1).trans W;rw[kp2 (h:=h2) n2,qbv];generalize hq:h2.setBlk l _=G;have K:Upd h2 G l:=by rw[<- hq];exact qbp _
 have n3:G.blks[l]?=some (cNote s1 s2 s3 b bo g .busy):=by rw[<- hq];exact qbo (qcf.1 n2).1
 have ab:=M.size;have ac:l<h.blks.size:=by omega
 have B3:G.has bo [t.v] kku:=(H.has B).updr z K;have V3:GF EP kbk G Fp.no t j (zc d):=(V.grow H).upd K qbm (keo F Z);have b3:G.has h.blks.size [.i (f:Int),.i (c:Int)] kbk:=b2.updr (by omega) K;refine qy (B3.rd0 rfl qcq) (qct b3 0 rfl (qct b3 1 rfl ?_));refine qz λh4 b4 Q=>?_;have n4:=(Q.blk l (qcf.1 n3).1).trans n3;have m4:Md (λm=>m=bo\/m=l) hs h4:=((M.thenG H).trans (K.md (.inr rfl))).thenG Q;have:=kbq4 (note:=cNote s1 s2 s3 b bo g) (hs:=hs) (E:=EP) (x:=((f:Int),(c:Int))) (Q.has B3) n4 z U F m4.size Z (V3.grow Q) (EP.of _ _) (k2r (by rw[zc_len];omega)) b4 (by rw[ky0];rfl) (λh' aa=>by rw[klf aa];rfl);refine this.imp λv h' ⟨e,m5,n5,o5⟩=>⟨e,?_⟩;rw[zc_app];exact Lp.next (h:=h) (xs:=zc d) m4 Z m5 n5 o5
theorem kbjc(T0:Tab h0)(q:TabAt h0 S s1 s2 s3 t):Runs (go (.fn kfl [.agg [s1.v,s2.v,s3.v]]) h0) λv h'=>Grow h0 h'/\∃(y:Sl)(j:Option Nat),v=y.v/\LeO h0.blks.size j/\GF EP kbk h' Fp.no y j (zc (cutsL t)):=by
 rw[kbgo];refine qz λh1 b1 g1=>qz λh2 b2 g2=>?_;have B1:=g2.has b1;have z1:=b1.lt;have z2:=b2.lt;refine qcs B1 0 rfl (qcs B1 1 rfl (qcs B1 2 rfl ?_));refine(ksa (q.grow (g1.trans g2))).call λv U ⟨e,W⟩=>?_;subst e;refine qy (seen rfl) ?_;have G3:Grow h0 U:=(g1.trans g2).trans W;have G:=W.has B1;cases hR:tabR t with
 | false =>
  refine qbb rfl (qy ((W.has b2).rd0 rfl qcq) (qx ⟨G3,_,none,rfl,trivial,?_⟩));unfold cutsL;rw[hR];exact GF.none _ _ _ _
 | true =>
  refine qba rfl (qcs G 0 rfl (qcs G 1 rfl (qcs G 2 rfl ?_)))
  have k0:Runs (go (.fn klo [.agg [s1.v,s2.v,s3.v],.agg [.i 0,nV]]) U) λv h'=>∃H K:Nat,v=.func (.func kbz) [] [.p (.new H 0),.p (.new K 0)]/\U.blks.size<=H/\U.blks.size<=K/\h'.has H [s1.v,s2.v,s3.v] kbu/\h'.has K [.i 0,nV] kz/\Grow U h':=by rw[kza];exact qz λz b4 Z=>qz λF b5 Q=>qx ⟨_,_,rfl,qbr _,Z.size,Q.has b4,b5,Z.trans Q⟩
  refine k0.call λv z ⟨H,K,e,l1,l2,d1,d2,Z⟩=>?_;subst e;dsimp only;rw[kbbh,kq8];refine Runs.newM λF hb Q=>?_;rw[kyf];generalize aa:(AV.func (.func kbz) [] [AV.ptr (some (Ref.new H 0)),AV.ptr (some (Ref.new K 0))])=gv at hb;have G5:Grow h0 F:=(G3.trans Z).trans Q;have z3:=W.size;have z4:=d1.lt;have z5:=d2.lt;have z6:z.blks.size<F.blks.size:=(qcf.1 hb).1;have E5:EachOk (Fp.below h0.blks.size) s1 s2 s3 ⟨none,0,.is 0⟩ t 0 [] H K F:=⟨T0.grow G5,q.bound.grow G5,qu _,Q.has d1,Q.has d2⟩;have I0:Lp EP kbk kku (cNote s1 s2 s3 h0.blks.size h1.blks.size gv) F h1.blks.size z.blks.size (zc []) F:=⟨Md.refl _ _,hb,_,none,Q.has (Z.has (W.has b2)),trivial,GF.none _ _ _ _⟩;have k1:=ky6 (l:=z.blks.size) (Inv:=λd h=>Lp EP kbk kku (cNote s1 s2 s3 h0.blks.size h1.blks.size gv) F h1.blks.size z.blks.size (zc d) h) (λd h I=>E5.md I.md (λj a b=>by have a:j<h0.blks.size:=a;rcases b with rfl | rfl<;>omega) (λj hj=>absurd (.inl rfl) hj) (by omega) (by omega)) (λd h h' I g=>I.grow g) hR (λd f c h y j hf hc hd I V=>k8l (by omega) (by omega) (by omega) hd I) I0;show Runs ((go (.fn kbz [.func (.yield z.blks.size) [] [],.p (.new H 0),.p (.new K 0)]) F).bind _) _;refine k1.call λv h6 ⟨e,I⟩=>?_;obtain⟨M,hn,t',j,B,lj,V⟩:=I;dsimp only;rw[kn8 hn,qbv,k6o];have u7:Upd h6 (h6.setBlk z.blks.size .dead) z.blks.size:=qbp _;have z7:=M.size;have G6:Grow h0 h6:=(G5.thenM M).grow λj hj=>by intro k;rcases k with rfl | rfl<;>omega
  refine qy ((B.updr (by omega) u7).rd0 rfl qcq) (qx ⟨G6.updr (by omega) u7,t',j,rfl,LeO.trans (by omega) lj,?_⟩);exact V.upd u7 qbm (keo (by omega) lj)
end
def faultH(t:Tb)(n:Int)(w:List Nat)(m:Int):Int:=if !tabR t then 20 else if !btR n w then 1 else if !decide (n=(t.ids.length:Int))then 1 else if !decide (m=(t.ids.length:Int))then 1 else 0
theorem kbqd{t:Tb}{n:Int}{w:List Nat}{m:Int}(h:faultH t n w m=0):tabR t=true/\btR n w=true/\n=(t.ids.length:Int)/\m=(t.ids.length:Int):=by
 unfold faultH at h
 grind
theorem kbks{t:Tb}{n:Int}{w:List Nat}{p:Nat×Nat}:∀x∈rowsL t n w p,x<t.ids.length:=by
 intro x y;unfold rowsL at y;split at y
 ·rw[List.mem_filter]at y;have:=y.1;unfold leftR at this;rw[List.mem_filter,qco]at this;exact this.1
 ·simp at y
theorem k72{t:Tb}{n:Int}{w:List Nat}{p:Nat×Nat}:(rowsL t n w p).length<=t.ids.length:=by
 unfold rowsL;split
 ·refine qbs (List.length_filter_le _ _) ?_;unfold leftR;exact qbs (List.length_filter_le _ _) (by simp)
 ·simp
section
variable{h0:AH}{S:Fp}{s1 s2 s3 s u:Sl}{t:Tb}{n:Int}{w:List Nat}{g:List Int}
theorem kbn7(q:TabAt h0 S s1 s2 s3 t)(N:Nats h0 s w){m:Int}:Runs (go (.fn kvv [.agg [s1.v,s2.v,s3.v],.agg [.i n,s.v],.i m]) h0) λv h'=>v=.i (faultH t n w m)/\Grow h0 h':=by rw[kbg6];refine qz λh1 b1 Q=>qz λh2 b2 K=>?_;have B1:=K.has b1;have F:=Q.trans K;refine qcs B1 0 rfl (qcs B1 1 rfl (qcs B1 2 rfl ?_));refine(ksa (q.grow F)).call λv U ⟨e,y⟩=>?_;subst e;unfold faultH;refine qy (seen rfl) (qbc (λc=>qx ⟨by rw[if_pos c],F.trans y⟩) λc=>?_);rw[if_neg (by rw[c];simp)];refine qct (y.has b2) 0 rfl (qcs (y.has b2) 1 rfl ?_);refine(kp1 (N.grow (F.trans y))).call λv V ⟨e,H⟩=>?_;subst e;have G:=(F.trans y).trans H;have I:=H.has (y.has b2);have z:=H.has (y.has B1);refine qy (seen rfl) (qbc (λc=>qx ⟨by rw[if_pos c],G⟩) λc=>?_);rw[if_neg (by rw[c];simp)];refine qct I 0 rfl (qcs z 0 rfl ?_);rw[q.ids.len];refine qbc (λc=>qx ⟨by rw[if_pos c],G⟩) λc=>?_;rw[if_neg (by rw[c];simp)];refine qcs z 0 rfl ?_;rw[q.ids.len];refine qbc (λc=>qx ⟨by rw[if_pos c],G⟩) λc=>?_;rw[if_neg (by rw[c];simp)];exact qx ⟨rfl,G⟩
end
end Go.Ab
set_option maxRecDepth 10000
namespace Go.Ab
open Go.Proofs
section
variable{h0:AH}{S:Fp}{s1 s2 s3 s u:Sl}{t:Tb}{n:Int}{w:List Nat}{g:List Int}
end
end Go.Ab
set_option maxRecDepth 10000
namespace Go.Ab
open Go.Proofs
section
variable{h0:AH}{S:Fp}{s1 s2 s3 s u:Sl}{t:Tb}{n:Int}{w:List Nat}{g:List Int}
theorem kbg5(q:TabAt h0 S s1 s2 s3 t)(hR:tabR t=true){b:Nat}(B:h0.has b [s1.v,s2.v,s3.v] kbu){f:Nat}(hf:f<t.cols.length){Q:AV->AH->Prop}(hP:∀(h:AH)(y:Sl)(j:Option Nat),Grow h0 h->LeO h0.blks.size j->GF EP kbk h Fp.no y j (zc (cutsTo t (f+1)))->Runs (go (.pt kd9 kmo [(1,.p (.new b 0)),(3,.bool true),(4,y.v),(5,.i ((f+1:Nat):Int))]) h) Q) :
  ∀(k c:Nat),c+k=nb t f->∀(h:AH)(y:Sl)(j:Option Nat),Grow h0 h->LeO h0.blks.size j->GF EP kbk h Fp.no y j (zc (cutsTo t f++(List.range c).map λc=>(f,c)))->
  Runs (go (.pt kd9 kr7 [(1,.p (.new b 0)),(3,.bool true),(4,y.v),(5,.i (f:Int)),(6,.i (c:Int))]) h) Q:=by
 obtain⟨aa,I,z,F⟩:=kdq hR;obtain⟨hb,ae,ab,af⟩:=khd (F f hf) hf z;have K:t.bins.getD f 0=t.bins[f]:=by simp[List.getD,hb]
 have H:(nb t f:Int)=t.bins[f]-1:=by unfold nb;rw[K];omega
 have ac:(cutsTo t f).length<=31*f:=knz t f λi hi=>by
  obtain⟨U,ag,ad,-⟩:=khd (F i (by omega)) (by omega) z;have:t.bins.getD i 0=t.bins[i]:=by simp[List.getD,U]
  unfold nb;rw[this];omega
 intro k
 induction k with
 | zero =>
  intro c hc h y j G W V;obtain rfl:c=nb t f:=by omega
  rw[<- ktj]at V;obtain⟨r,Z,e2⟩:=(q.bins.grow G).int hb;rw[k4i];refine qcs (G.has B) 1 rfl (qy Z (qy e2 ?_));rw[wrap64 (n:=t.bins[f]-1) (by omega) (by omega),<- H];refine qbb (qb0 (by omega)) ?_;rw[ki (by omega)];exact hP h y j G W V
 | succ k ih =>
  intro c hc h y j G W V;obtain⟨r,Z,e2⟩:=(q.bins.grow G).int hb;rw[k4i];refine qcs (G.has B) 1 rfl (qy Z (qy e2 ?_));rw[wrap64 (n:=t.bins[f]-1) (by omega) (by omega),<- H];refine qba (qbz (by omega)) ?_;refine qz λh2 b2 g2=>?_;refine qy (kdk b2 (by rw[ky0];rfl)) ?_
  have hl:(zc (cutsTo t f++(List.range c).map λc=>(f,c))).length<=1000:=by rw[zc_len,qb2,qb3,qcn];omega
  obtain⟨y',h3,e3,V3,u3⟩:=(V.grow g2).push (T:=Fp.no) (EP.of (f:Int) (c:Int)) NotO.no (k2r (by omega));refine qy e3 (qy qcq ?_);rw[ki (by omega)];refine ih (c+1) (by omega) h3 y' (some h2.blks.size) ((G.trans g2).updo W u3) (show _<=_ from(G.trans g2).size) ?_;rw[List.range_succ,List.map_append,<- List.append_assoc,zc_app];exact V3.mono (λj x=>x.1.elim id id) NotO.no
theorem kbg3(q:TabAt h0 S s1 s2 s3 t)(I:tabR t=true){b:Nat}(B:h0.has b [s1.v,s2.v,s3.v] kbu):∀(k f:Nat),f+k=t.cols.length->∀(h:AH)(y:Sl)(j:Option Nat),Grow h0 h->LeO h0.blks.size j->GF EP kbk h Fp.no y j (zc (cutsTo t f))->
  Runs (go (.pt kd9 kmo [(1,.p (.new b 0)),(3,.bool true),(4,y.v),(5,.i (f:Int))]) h) λv h'=>Grow h0 h'/\∃(y:Sl)(j:Option Nat),v=y.v/\LeO h0.blks.size j/\GF EP kbk h' Fp.no y j (zc (cutsTo t t.cols.length)):=by
 obtain⟨K,F,H,Q⟩:=kdq I;intro k
 induction k with
 | zero =>
  intro f U h y j G z V;obtain rfl:f=t.cols.length:=by omega
  rw[kud];refine qba rfl (qcs (G.has B) 2 rfl ?_);rw[q.cols.len];exact qbb (qb0 (by omega)) (qx ⟨G,y,j,rfl,z,V⟩)
 | succ k ih =>intro f U h y j G z V;rw[kud];refine qba rfl (qcs (G.has B) 2 rfl ?_);rw[q.cols.len];refine qba (qbz (by omega)) ?_;exact kbg5 q I B (by omega) (λh y j G z V=>ih (f+1) (by omega) h y j G z V) (nb t f) 0 (by omega) h y j G z (by simpa using V)
theorem kble(q:TabAt h0 S s1 s2 s3 t):Runs (go (.fn kd9 [.agg [s1.v,s2.v,s3.v]]) h0) λv h'=>Grow h0 h'/\∃(y:Sl)(j:Option Nat),v=y.v/\LeO h0.blks.size j/\GF EP kbk h' Fp.no y j (zc (cutsL t)):=by
 rw[k6w];refine qz λh1 b1 z=>qcs b1 0 rfl (qcs b1 1 rfl (qcs b1 2 rfl ?_));refine(kx8 (q.grow z)).call λv h2 ⟨e,F⟩=>?_;subst e;refine qy (seen rfl) ?_;have G:=z.trans F;unfold cutsL;cases H:tabR t with
 | false =>
  rw[kud];exact qbb rfl (qx ⟨G,_,none,rfl,trivial,GF.none _ _ _ _⟩)
 | true =>refine(kbg3 (q.grow G) H (F.has b1) t.cols.length 0 (by omega) h2 _ none (qk _) trivial (GF.none _ _ _ _)).imp λv h' ⟨g,y,j,e,I,V⟩=>⟨G.trans g,y,j,e,LeO.trans G.size I,V⟩
end
end Go.Ab
set_option maxRecDepth 10000
namespace Go.Ab
open Go.Proofs
theorem kbfz{t:Tb}{w:List Nat}(y:btR (t.ids.length:Int) w=true)(p:Nat×Nat):rowsL t (t.ids.length:Int) w p=(btL (t.ids.length:Int) w).filter (leftP t p.1 (p.2:Int)):=by unfold rowsL btL;rw[y,qbz rfl,Bool.and_self,if_pos rfl,if_pos rfl,Int.toNat_natCast];unfold leftR;rw[List.filter_filter,List.filter_filter];apply List.filter_congr;intro x _;exact Bool.and_comm _ _
section
variable{h0:AH}{S:Fp}{s1 s2 s3 s u:Sl}{t:Tb}{n:Int}{w:List Nat}{g:List Int}
end
end Go.Ab
set_option maxRecDepth 10000
namespace Go.Ab
open Go.Proofs
section
variable{h0:AH}{S:Fp}{s1 s2 s3 s u:Sl}{t:Tb}{n:Int}{w:List Nat}{g:List Int}
end
end Go.Ab
set_option maxRecDepth 10000
namespace Go.Ab
open Go.Proofs Go.Num
end Go.Ab
set_option maxRecDepth 10000
namespace Go.Ab
open Go.Proofs Go.Num
section
variable{h0:AH}{s1 s2 s3:Sl}{ns cs ds:List Nat}
theorem kbmq(N:Nats h0 s1 ns):Runs (go (.fn ks4 [s1.v]) h0) λv h'=>∃(b:Nat)(t:Sl),v=.func (.func kff) [] [.p (.new b 0)]/\h0.blks.size<=b/\h'.has b [t.v] kj/\Nats h' t (kcg ns)/\Grow h0 h':=by rw[kbhh];obtain⟨t,h1,e,F,y,K⟩:=kfu N N;rw[e,qbv];refine qy rfl (qy (seen qcq) (qy (seen qcr) ?_));dsimp only;refine qz λh2 b2 G=>q0 b2 rfl λH b3 I=>?_;have z:Grow h1 H:=G.updr (qbr _) I;exact qx ⟨h1.blks.size,t,rfl,y.size,b3,F.grow z,y.trans z⟩
theorem k9o{a b t:Sl}{xs ys zs:List Nat}(A:Nats h0 a xs)(z:Nats h0 b ys)(Z:Nats h0 t zs){k:Nat}{e:TypeId}(hk:h0.has k [t.v] e):Runs (go (.fn kff [a.v,b.v,.p (.new k 0)]) h0) λv h'=>∃s:Sl,v=s.v/\Nats h' s (kpt xs ys zs)/\Grow h0 h'/\Own h0 s:=by rw[kbph];obtain⟨p,h1,F,G,y,U⟩:=kfu A z;rw[F,qbv];refine qy rfl (qy (seen qcq) (qy (seen qcr) ?_));dsimp only;refine qy ((y.has hk).rd0 rfl qcq) ?_;obtain⟨q,r,h2,H,V,I,K,W,Q⟩:=kgv G (Z.grow y);rw[H,qbv];refine qy rfl (qy (seen qcq) (qy (seen qcq) (qy (seen qcr) ?_)));exact qx ⟨r,rfl,I,y.trans K,Q.of_le y⟩
end
end Go.Ab
set_option maxRecDepth 10000
namespace Go.Ab
open Go.Proofs Go.Num
structure LpS{α:Type}(E:Ef α)(elem tl:TypeId)(note:LoopState->ABlk)(hs:AH)(bo l:Nat)(xs:List α)(h:AH):Prop where
 md:Md (λm=>m=bo\/m=l) hs h
 note:h.blks[l]?=some (note .ready)
 out:∃(S:Fp)(t:Sl)(j:Option Nat),(∀m,S m->hs.blks.size<=m)/\h.has bo [t.v] tl/\LeO hs.blks.size j/\GF E elem h S t j xs
section
variable{α:Type}{E:Ef α}{elem tl:TypeId}{note:LoopState->ABlk}{hs h:AH}{bo l:Nat}{xs:List α}
theorem LpS.grow{h':AH}(L:LpS E elem tl note hs bo l xs h)(g:Grow h h'):LpS E elem tl note hs bo l xs h':=⟨L.md.thenG g,(g.blk l (qcf.1 L.note).1).trans L.note,L.out.imp λ_ ⟨t,j,a,B,y,V⟩=>⟨t,j,a,g.has B,y,V.grow g⟩⟩
theorem kbfy{S Tx:Fp}{t:Sl}{j:Option Nat}{x:α}{cs:List AV}{k:Nat}{e':TypeId}(hS:∀m,S m->hs.blks.size<=m)(hT:∀m,Tx m->hs.blks.size<=m)(G:NotO Tx j)(B:h.has bo [t.v] tl)(hn:h.blks[l]?=some (note .busy))(z:bo≠l)(H:bo<hs.blks.size)(I:l<hs.blks.size)(K:hs.blks.size<=h.blks.size)(lj:LeO hs.blks.size j)(V:GF E elem h S t j xs)(hx:E.has h Tx cs x)(hg:growOk Pg (xs.length+1) elem E.w=true)(bx:h.has k cs e')(Q:1*Pg.cellsOf elem=cs.length)(F:∀h',h'.blks[l]?=some (note .busy)->kcq l none h'=some (.bool true,h'.setBlk l (note .ready))) :
  Runs ((kbb Pg elem ((⟨some (.new k 0),1,.is 1⟩:Sl).v) h).bind λp=>(kx Pg t p.1 p.2 elem E.w h).bind λq=>(AV.asSl q.1).bind λU=>(q.2.puts (.new bo 0) [U.v]).bind λW=>kcq l none W) λv h'=>v=.bool true/\Md (λm=>m=bo\/m=l\/j=some m) h h'/\h'.blks[l]?=some (note .ready)/\∃(S:Fp)(t:Sl)(j:Option Nat),(∀m,S m->hs.blks.size<=m)/\h'.has bo [t.v] tl/\LeO hs.blks.size j/\GF E elem h' S t j (xs++[x]):=by
 refine qy (kdk bx Q) ?_;obtain⟨t',Z,e3,V3,u3⟩:=V.push (T:=Tx) hx G hg;refine qy e3 (qy qcq ?_);have m3:Md (Fp.opt j) h Z:=u3.md λk e=>e;have no:∀{m:Nat},m<hs.blks.size->¬Fp.opt j m:=λhm e=>keo hm lj _ e rfl;have B3:Z.has bo [t.v] tl:=m3.has B (no H);have n3:Z.blks[l]?=some (note .busy):=m3.get hn (no I);refine q0 B3 rfl λh4 B4 u4=>?_;have n4:h4.blks[l]?=some (note .busy):=(u4.blk l (λe=>z e.symm) (qcf.1 n3).1).trans n3;rw[F _ n4];have u5:Upd h4 (h4.setBlk l (note .ready)) l:=qbp _;have y:∀m,((Fp.or S Tx) m/\m<h.blks.size)->hs.blks.size<=m:=λm x=>x.1.elim (hS m) (hT m);refine qx ⟨rfl,?_,qbo (qcf.1 n4).1,_,t',some h.blks.size,y,B4.updr z u5,K,?_⟩
 ·refine((m3.mono λm _ e=>.inr (.inr e)).trans (u4.md (.inl rfl))).trans (u5.md (.inr (.inl rfl)))
 ·exact(V3.upd u4 (λx=>by have:=y _ x;omega) λk e=>by cases e;omega).upd u5 (λx=>by have:=y _ x;omega) λk e=>by cases e;omega
theorem LpS.next{xs ys:List α}{h h1 h':AH}{j:Option Nat}(y:Md (λm=>m=bo\/m=l) hs h1)(z:LeO hs.blks.size j)(F:Md (λm=>m=bo\/m=l\/j=some m) h1 h')(G:h'.blks[l]?=some (note .ready))(o:∃(S:Fp)(t:Sl)(j:Option Nat),(∀m,S m->hs.blks.size<=m)/\h'.has bo [t.v] tl/\LeO hs.blks.size j/\GF E elem h' S t j ys):LpS E elem tl note hs bo l ys h':=⟨y.next F λm H t=>t.elim .inl λt=>t.elim .inr λe=>absurd rfl (keo H z _ e),G,o⟩
end
noncomputable def prodC(qs:List Nat)(cs:List (List Nat))(l p:List Nat):List Nat:=l.foldl (λp i=>kpt p (cs.getD i []) qs) p
noncomputable def oddC(ns:List Nat)(C:List (List Nat)):Bool:=C.any λc=>!kbs ns c
noncomputable def sumsC(qs:List Nat)(C:List (List Nat))(R:Nat×Nat->List Nat)(l:List (Nat×Nat)):List (List Nat):=l.map λp=>prodC qs C (R p) [1]
noncomputable def kby(ns:List Nat)(t:Tb)(n:Int)(w:List Nat)(C:List (List Nat)):List (List Nat)×Int:=if !kbj ns then([],1)else if faultH t n w (C.length:Int)=0 then if oddC ns C then([],11)else(sumsC (kcg ns) C (rowsL t n w) (cutsL t),0)else([],faultH t n w (C.length:Int))
theorem own_av{h:AH}{p:Sl}{xs:List Nat}(o:Own h p){m:Nat}(k:¬Av p m xs):h.blks.size<=m:=by
 rcases Nat.lt_or_ge m h.blks.size with y | y
 ·exact absurd (qbi o y) k
 ·exact y
section
variable{h0:AH}{S:Fp}{s1 s2 s3 s u z:Sl}{t:Tb}{n:Int}{w ns:List Nat}{C:List (List Nat)}
theorem k7b{k:Nat}{e:TypeId}(N:Nats h0 z ns)(hk:h0.has k [z.v] e)(q:Sq Ef.nats h0 S u C):Runs (go (.fn kcx [u.v,.func (.func kb8) [] [.p (.new k 0)]]) h0) λv h'=>v=.bool (oddC ns C)/\Grow h0 h':=by
 rw[kbfq];refine qbq (xs:=C) ?_;rw[kbqq,q.len];refine kf4 (n:=C.length) (G:=λz h=>go (.pt kbi kb7 [(0,u.v),(1,.func (.func kb8) [] [.p (.new k 0)]),(7,.i (C.length:Int)),(8,.i z)]) h) (λi h P K y H I=>?_) (λh y=>?_) C.length 0 (by omega) (qk h0) (λj W=>by omega)
 ·obtain⟨r,s',Q,U,V,-⟩:=(q.grow y).nats K;rw[qb6 K]at H I;simp only[Option.any_some]at H I;show Runs (go _ _) _;rw[kze];refine qba (qbz (by omega)) (qy Q (qy U ?_))
  have key:Runs (go (.fn kb8 [s'.v,.p (.new k 0)]) h) λv h'=>v=.bool (!kbs ns C[i])/\Grow h h':=by rw[kbka,qbv];refine qy ((y.has hk).rd0 rfl qcq) ?_;refine(ktc (N.grow y) V).call λv h1 ⟨e,F⟩=>?_;subst e;exact qy (seen rfl) (qx ⟨rfl,F⟩)
  refine key.call λv h1 ⟨e,F⟩=>?_;subst e;refine qy (seen rfl) ?_;rw[ki (by have:=q.short;omega)];exact qbc (λc=>qx (H h1 (y.trans F) c)) λc=>I _ (y.trans F) c
 ·rw[kze,condF (qb0 (by omega))]
noncomputable def hNote(s1 s2 s3:Sl)(n:Int)(s u z:Sl)(m:Int)(y b1 b2 b3 F bo:Nat)(G g:AV)(H:LoopState):ABlk:=kdn kst kc7 0 H none [(0,z.v),(1,.agg [s1.v,s2.v,s3.v]),(2,.agg [.i n,s.v]),(3,u.v),(4,.p (.new y 0)),(5,.p (.new b1 0)),(6,.p (.new b2 0)),(7,.p (.new b3 0)),(8,nV),(9,.i 0),(10,.i 0),(11,.p (.new F 0)),(12,.p (.new bo 0)),(18,z.v),(19,.bool true),(20,.bool false),(21,.agg [s1.v,s2.v,s3.v]),(22,.agg [.i n,s.v]),(23,u.v),(24,.i m),(25,.i 0),(26,.i 0),(27,.bool false),(29,u.v),(30,.func (.func kb8) [] [.p (.new y 0)]),(31,.bool false),(32,z.v),(33,G),(34,.agg [s1.v,s2.v,s3.v]),(35,.agg [.i n,s.v]),(36,g)]
theorem kbii{note:LoopState->ABlk}{hs F:AH}{b3 Z bo l kq:Nat}{x4 y tq to:Sl}{j jo:Option Nat}{e3 e4 e5:TypeId}{R qs:List Nat}{Su So:Fp}{xs:List (List Nat)}(aa:bo≠l)(ab:bo<hs.blks.size)(ac:l<hs.blks.size)(I:hs.blks.size<=F.blks.size)(ad:LeO hs.blks.size jo)(ae:∀x∈R,x<C.length)(hR:R.length<=300)(ah:xs.length<1000)
  (K:∀h',h'.blks[l]?=some (note .busy)->kcq l none h'=some (.bool true,h'.setBlk l (note .ready))) (V:GF EI T.int F Fp.no y j (zs R)) (B3:F.has b3 [u.v] e3) (Q:Sq Ef.nats F Su u C) (Bf:F.has Z [.func (.func kff) [] [.p (.new kq 0)]] e4) (Bq:F.has kq [tq.v] e5) (Nq:Nats F tq qs) (hn:F.blks[l]?=some (note .busy)) (Bo:F.has bo [to.v] ken) (af:∀m,So m->hs.blks.size<=m) (Vo:GF Ef.nats kj F So to jo xs):∀(k i:Nat),i+k=R.length->∀(h:AH)(p:Sl),Grow F h->Own F p->Nats h p (prodC qs C (R.take i) [1])->
  Runs (go (.rpt l kc7 kqz [(7,.p (.new b3 0)),(8,x4.v),(9,.i 0),(11,.p (.new Z 0)),(12,.p (.new bo 0)),(15,p.v),(40,y.v),(41,.i (R.length:Int)),(42,.i (i:Int))]) h) λv h'=>v=.bool true/\Md (λm=>m=bo\/m=l\/jo=some m) F h'/\h'.blks[l]?=some (note .ready)/\∃(S:Fp)(t:Sl)(j:Option Nat),(∀m,S m->hs.blks.size<=m)/\h'.has bo [t.v] ken/\LeO hs.blks.size j/\GF Ef.nats kj h' S t j (xs++[prodC qs C R [1]]):=by
 intro k
 induction k with
 | zero =>
  intro i hi h p G O N;obtain rfl:i=R.length:=by omega
  rw[List.take_length]at N;rw[k6g];refine qbb (qb0 (by omega)) (qy ((G.has Bo).rd0 rfl qcq) ?_);refine qz λh1 b1 W=>?_;have U:=G.trans W;have n1:=(U.blk l (qcf.1 hn).1).trans hn;have lt:=Vo.lt
  have:=kbfy (note:=note) (hs:=hs) (E:=Ef.nats) (Tx:=λm=>¬Av p m (prodC qs C R [1])) (x:=prodC qs C R [1]) af (λm hm=>qbs I (own_av O hm)) (by
   cases jo with
   | none=>exact trivial
   | some a =>intro hm;have:=own_av O hm;have:a<F.blks.size:=lt;omega) (U.has Bo) n1 aa ab ac (qbs I U.size) ad (Vo.grow U) (show Ef.nats.has h1 _ [p.v] _ from⟨p,rfl,N.grow W,λj hj=>hj⟩) (knx (by omega)) b1 (by rw[kj4];rfl) K
  exact this.imp λv h' ⟨e,m5,n5,o5⟩=>⟨e,U.thenM m5,n5,o5⟩
 | succ k ih =>
  intro i hi h p G O N;have H:i<R.length:=by omega
  have hz:i<(zs R).length:=by rw[zs_len];exact H
  obtain⟨r,e1,e2⟩:=(V.grow G).sq.int hz;have ag:(zs R)[i]=((R[i]:Nat):Int):=by simp[zs]
  have hg:=ae _ (qb5 H);obtain⟨r2,s',e4,e5,N',-⟩:=(Q.grow G).nats hg;rw[k6g];refine qba (qbz (by omega)) (qy e1 (qy e2 (qy (show h.cell (.new Z 0)=some _ from(G.has Bf).cell 0) (qy ((G.has B3).rd0 rfl qcq) ?_))));rw[ag];refine qy e4 (qy e5 ?_);show Runs ((callF Pg go kff [p.v,s'.v,.p (.new kq 0)] h).bind _) _;rw[kbb8];refine(k9o N N' (Nq.grow G) (G.has Bq)).call λv h1 ⟨p',e,N1,W,O1⟩=>?_;subst e;refine qy (seen qcq) ?_;rw[ki (by omega)];refine ih (i+1) (by omega) h1 p' (G.trans W) (O1.of_le G) ?_;rw[qck H];unfold prodC at N1|-;rw[List.foldl_append];have:C.getD R[i] []=C[R[i]]:=by simp[List.getD,hg]
  rw[List.foldl_cons,List.foldl_nil,this];exact N1
theorem kbb1{hs h:AH}{b0 b1 b2 b3 G bo l kq N0:Nat}{U:Sl}{gv K:AV}{m:Int}{d:List (Nat×Nat)}{f c:Nat}{y:Sl}{j:Option Nat}{qs:List Nat}{e4 e5:TypeId}(W:bo≠l)(ag:bo<hs.blks.size)(Z:l<hs.blks.size)(h3:b3<N0)(hf:G<N0)(hq:kq<N0)(hd:d.length<1000)(hb:C.length=t.ids.length)(ax:t.ids.length<=256)(ay:N0<=bo)(az:N0<=l)(B3:hs.has b3 [u.v] ken)(Q:Sq Ef.nats hs (Fp.below N0) u C)(ah:K=.func (.func kff) [] [.p (.new kq 0)])(Bf:hs.has G [K] e4)(Bq:hs.has kq [U.v] e5)(Nq:Nats hs U qs)(Aq:∀j,¬Av U j qs->j<N0)
  (I:LpS Ef.nats kj ken (hNote s1 s2 s3 n s u z m b0 b1 b2 b3 G bo K gv) hs bo l (sumsC qs C (rowsL t n w) d) h) (V:GF EI T.int h Fp.no y j (zs (rowsL t n w (f,c)))):Runs (go (.round l [.agg [.i (f:Int),.i (c:Int)],y.v]) h) λv h'=>v=.bool true/\LpS Ef.nats kj ken (hNote s1 s2 s3 n s u z m b0 b1 b2 b3 G bo K gv) hs bo l (sumsC qs C (rowsL t n w) (d++[(f,c)])) h':=by
 obtain⟨M,hn,So,to,jo,aa,Bo,H,Vo⟩:=I;have ai:l<h.blks.size:=(qcf.1 hn).1;have a0:=M.size
 have ab:Dis (Fp.below N0) (λm=>m=bo\/m=l):=λk a b=>by have a:k<N0:=a;rcases b with rfl | rfl<;>omega
 have no:∀k,k<N0->¬(k=bo\/k=l):=λk a b=>by rcases b with rfl | rfl<;>omega
 have aj:=M.has B3 (no _ h3);have ak:=M.has Bf (no _ hf);have al:=M.has Bq (no _ hq);have Qh:=Q.md M ab;have am:Nats h U qs:=Nq.mdE (S:=Fp.below N0) Aq M ab;rw[k9z l none _ _ _ _ _ _ _ _ _ _ _ _ _ _ _ _ _ _ _ _ _ _ _ _ _ _ _ _ _ _ _ _ _ _ _ _ _ _ _ _ _ _ _ hn,kp2 (h:=h) hn,qbv];generalize ac:h.setBlk l _=h1;have F:Upd h h1 l:=by rw[<- ac];exact qbp _
 have n1:h1.blks[l]?=some (hNote s1 s2 s3 n s u z m b0 b1 b2 b3 G bo K gv .busy):=by rw[<- ac];exact qbo ai
 have ba:=F.size;by_cases ad:j=some l
 ·subst ad;exfalso;obtain⟨_,_,_,_,rows,e,b,_⟩:=V;rw[AH.has,hn]at b;unfold hNote kdn at b;cases b
 refine qz λh2 an g2=>?_;have V1:GF EI T.int h1 Fp.no y j (zs (rowsL t n w (f,c))):=V.upd F qbm λk e e2=>ad (by rw[e,e2]);have Q1:Sq Ef.nats h1 (Fp.below N0) u C:=Qh.upd (by intro k;have k:l<N0:=k;omega) F;have ao:Nats h1 U qs:=am.upda (Classical.byContradiction λk=>by have:=Aq _ k;omega) F;have ap:=aj.updr (show b3≠l by omega) F;have ae:=ak.updr (show G≠l by omega) F;have aq:=al.updr (show kq≠l by omega) F;have ar:=Bo.updr W F;have au:GF Ef.nats kj h1 So to jo (sumsC qs C (rowsL t n w) d):=Vo.upd F (λx=>by have:=aa _ x;omega) (keo Z H);rw[V.len,zs_len];rw[ah]at ae;have O:Own h1 ⟨some (.new h1.blks.size 0),1,.is 1⟩:=Own.box (qk _);have N2:Nats h2 ⟨some (.new h1.blks.size 0),1,.is 1⟩ (prodC qs C ((rowsL t n w (f,c)).take 0) [1]):=Nats.of_has (xs:=[1]) an (by simp) (by simp);have:=kbii (note:=hNote s1 s2 s3 n s u z m b0 b1 b2 b3 G bo K gv) (hs:=hs) (x4:=⟨none,0,.is 0⟩) (R:=rowsL t n w (f,c)) (xs:=sumsC qs C (rowsL t n w) d) W ag Z (by omega) H (λx hx=>by rw[hb];exact kbks x hx) (by have:=k72 (t:=t) (n:=n) (w:=w) (p:=(f,c));omega) (by unfold sumsC;rw[qb3];exact hd) (λh' aw=>by rw[klf aw];rfl) V1 ap Q1 ae aq ao n1 ar aa au (rowsL t n w (f,c)).length 0 (by omega) h2 _ g2 O N2;refine this.imp λv h' ⟨e,m5,n5,o5⟩=>⟨e,?_⟩
 have af:sumsC qs C (rowsL t n w) (d++[(f,c)])=sumsC qs C (rowsL t n w) d++[prodC qs C (rowsL t n w (f,c)) [1]]:=by unfold sumsC;rw[List.map_append];rfl
 rw[af];exact LpS.next (h:=h) (xs:=sumsC qs C (rowsL t n w) d) (M.trans (F.md (.inr rfl))) H m5 n5 o5
theorem kblw(T0:Tab h0)(M:Nats h0 z ns)(q:TabAt h0 S s1 s2 s3 t)(N:Nats h0 s w)(Q:Sq Ef.nats h0 S u C):Runs (go (.fn kc7 [z.v,.agg [s1.v,s2.v,s3.v],.agg [.i n,s.v],u.v]) h0) λv h'=>Grow h0 h'/\∃(S:Fp)(y:Sl)(j:Option Nat),v=.tup [y.v,.i (kby ns t n w C).2]/\(∀m,S m->h0.blks.size<=m)/\LeO h0.blks.size j/\GF Ef.nats kj h' S y j (kby ns t n w C).1:=by
 rw[kbdi];refine qz λha ba ga=>qz λh1 b1 g1=>qz λh2 b2 g2=>qz λh3 b3 g3=>?_;have aj:=(g1.trans g2).trans g3;have Ba:=aj.has ba;have B1:=g3.has (g2.has b1);have B2:=g3.has b2;have za:=ba.lt;have z1:=b1.lt;have z2:=b2.lt;have z3:=b3.lt;have G3:Grow h0 h3:=ga.trans aj;refine qy (Ba.rd0 rfl qcq) ?_
 have K:∀{h:AH}(c:Int),Grow h0 h->kby ns t n w C=([],c)->Runs (some (AV.tup [nV,.i c],h)) λv h'=>Grow h0 h'/\∃(S:Fp)(y:Sl)(j:Option Nat),v=.tup [y.v,.i (kby ns t n w C).2]/\(∀m,S m->h0.blks.size<=m)/\LeO h0.blks.size j/\GF Ef.nats kj h' S y j (kby ns t n w C).1:=λc g e=>by rw[e];exact qx ⟨g,Fp.no,⟨none,0,.is 0⟩,none,rfl,λm x=>x.elim,trivial,GF.none _ _ _ _⟩
 refine(kvh (M.grow G3)).call λv h4 ⟨e,Z⟩=>?_;subst e;have G4:=G3.trans Z;refine qy (seen rfl) (qbc (λc=>K 1 G4 (by unfold kby;rw[if_pos c])) λcM=>?_);have B1:=Z.has B1;have B2:=Z.has B2;have B3:=Z.has b3;refine qcs B1 0 rfl (qcs B1 1 rfl (qcs B1 2 rfl (qct B2 0 rfl (qcs B2 1 rfl (qy (B3.rd0 rfl qcq) ?_)))));rw[Q.len];refine(kbn7 (q.grow G4) (N.grow G4)).call λv h5 ⟨e,g5⟩=>?_;subst e;have G5:=G4.trans g5;have B3:=g5.has B3;refine qy (seen rfl) (qbc (λc=>?_) λc=>?_)
 ·rw[qcl,qbx]at c;exact K _ G5 (by unfold kby;rw[if_neg (by rw[cM];simp),if_neg c])
 rw[qcm,qby]at c;obtain⟨hR,ax,hn,hm⟩:=kbqd c;rw[c];refine qy (B3.rd0 rfl qcq) ?_;have ak:=(Z.trans g5).has Ba;refine(k7b (M.grow G5) ak (Q.grow G5)).call λv h6 ⟨e,g6⟩=>?_;subst e;have G6:=G5.trans g6;refine qy (seen rfl) (qbc (λc2=>K 11 G6 (by unfold kby;rw[if_neg (by rw[cM];simp),if_pos c,if_pos c2])) λc2=>?_)
 have ap:kby ns t n w C=(sumsC (kcg ns) C (rowsL t n w) (cutsL t),0):=by unfold kby;rw[if_neg (by rw[cM];simp),if_pos c,if_neg (by rw[c2];simp)]
 rw[ap];dsimp only;rw[qcm]at cM;rw[cM];refine qy ((g6.has ak).rd0 rfl qcq) ?_;refine(kbmq (M.grow G6)).call λv h7 ⟨kq,tq,e,ay,Bq,Nq,g7⟩=>?_;subst e;have G7:=G6.trans g7;have al:=((Z.trans g5).trans g6).trans g7;refine qz λh8 b8 g8=>qba rfl ?_;dsimp only;refine q0 b8 rfl λh9 b9 u9=>?_;have af:Grow h7 h9:=g8.updr (qbr _) u9;refine qz λaa am ab=>?_;have U:=(al.trans af).trans ab;have ag:=U.has (g3.has (g2.has b1));have an:=U.has (g3.has b2);have z7:=al.size;have zq:=Bq.lt;have z8:=b8.lt;have z9:=b9.lt;have az:=am.lt;have y9:=af.size;refine qcs ag 0 rfl (qcs ag 1 rfl (qcs ag 2 rfl (qct an 0 rfl (qcs an 1 rfl ?_))))
 have k0:Runs (go (.fn klo [.agg [s1.v,s2.v,s3.v],.agg [.i n,s.v]]) aa) λv h'=>∃c1 c2:Nat,v=.func (.func kbz) [] [.p (.new c1 0),.p (.new c2 0)]/\aa.blks.size<=c1/\aa.blks.size<=c2/\h'.has c1 [s1.v,s2.v,s3.v] kbu/\h'.has c2 [.i n,s.v] kz/\Grow aa h':=by rw[kza];exact qz λh4 b4 Z=>qz λh5 b5 g5=>qx ⟨_,_,rfl,qbr _,Z.size,g5.has b4,b5,Z.trans g5⟩
 refine k0.call λv F ⟨c1,ah,e,l1,l2,d1,d2,ac⟩=>?_;subst e;dsimp only;rw[kbj4,kq8];refine Runs.newM λG hb H=>?_;rw[kyf];generalize a0:(AV.func (.func kbz) [] [AV.ptr (some (Ref.new c1 0)),AV.ptr (some (Ref.new ah 0))])=gv at hb;generalize aq:(AV.func (.func kff) [] [AV.ptr (some (Ref.new kq 0))])=fv at hb b9;have ad:=(U.trans ac).trans H;have ae:=((af.trans ab).trans ac).trans H;have W:Grow h0 G:=G3.trans ad;have bb:=ab.size;have bc:=d1.lt;have bd:=d2.lt;have be:F.blks.size<G.blks.size:=(qcf.1 hb).1;have bf:=G3.size;have ar:EachOk (Fp.below h0.blks.size) s1 s2 s3 s t n w c1 ah G:=⟨T0.grow W,q.bound.grow W,N.grow W,H.has d1,H.has d2⟩;have I0:LpS Ef.nats kj ken (hNote s1 s2 s3 n s u z (C.length:Int) h0.blks.size ha.blks.size h1.blks.size h2.blks.size h7.blks.size h9.blks.size fv gv) G h9.blks.size F.blks.size (sumsC (kcg ns) C (rowsL t n w) []) G:=⟨Md.refl _ _,hb,Fp.no,_,none,λm x=>x.elim,H.has (ac.has am),trivial,GF.none _ _ _ _⟩;have k1:=ky6 (l:=F.blks.size) (Inv:=λd h=>LpS Ef.nats kj ken (hNote s1 s2 s3 n s u z (C.length:Int) h0.blks.size ha.blks.size h1.blks.size h2.blks.size h7.blks.size h9.blks.size fv gv) G h9.blks.size F.blks.size (sumsC (kcg ns) C (rowsL t n w) d) h) (λd h I=>ar.md I.md (λj a b=>by have a:j<h0.blks.size:=a;rcases b with rfl | rfl<;>omega) (λj hj=>Classical.byContradiction λk=>hj (qbh N (Nat.le_of_not_lt k))) (by omega) (by omega)) (λd h h' I g=>I.grow g) hR (λd f c h y j hf hc hd I V=>kbb1 (N0:=h9.blks.size) (by omega) (by omega) (by omega) (by omega) (by omega) (by omega) hd (by omega) (kdq hR).1 (by omega) (by omega) (ad.has b3) ((Q.bound.mono λ_ x=>(show _<h9.blks.size by have:=x.2;omega)).grow W) aq.symm ((ab.trans (ac.trans H)).has b9) (ae.has Bq) (Nq.grow ae) (λj hj=>Classical.byContradiction λk=>hj (qbh Nq (by omega))) I V) I0;show Runs ((go (.fn kbz [.func (.yield F.blks.size) [] [],.p (.new c1 0),.p (.new ah 0)]) G).bind _) _;refine k1.call λv ai ⟨e,I⟩=>?_;obtain⟨Mm,au,So,t',j,ao,B,lj,V⟩:=I;dsimp only;rw[kn8 au,qbv,k8g];have u7:Upd ai (ai.setBlk F.blks.size .dead) F.blks.size:=qbp _;have zz:=Mm.size;have aw:Grow h0 ai:=(W.thenM Mm).grow λj hj=>by intro k;rcases k with rfl | rfl<;>omega
 refine qy ((B.updr (by omega) u7).rd0 rfl qcq) (qx ⟨aw.updr (by omega) u7,So,t',j,rfl,λm hm=>by have:=ao m hm;omega,LeO.trans (by omega) lj,?_⟩);exact V.upd u7 (λx=>by have:=ao _ x;omega) (keo (by omega) lj)
end
end Go.Ab
set_option maxRecDepth 10000
namespace Go.Ab
open Go.Proofs Go.Num
section
variable{h0 hr:AH}{S Su:Fp}{s1 s2 s3 s u z tq:Sl}{t:Tb}{n:Int}{w ns qs:List Nat}{C:List (List Nat)}
end
end Go.Ab
set_option maxRecDepth 10000
namespace Go.Ab
open Go.Proofs Go.Num
section
variable{h0:AH}{S S':Fp}{s1 s2 s3 s u a b:Sl}{t:Tb}{n:Int}{w:List Nat}{C:List (List Nat)}
end
theorem kbf0{h:AH}{cs:List AV}(a:ArgT Pg h kj cs):∃xs,Ef.nats.has h Fp.no cs xs:=by
 obtain⟨s,xs,e,n⟩:=k8v a;refine⟨xs,s,e,n,λj z=>z ?_⟩;rcases a.slice k3x with h1 | ⟨F,len,cap,h1,-⟩
 ·rw[e]at h1;cases s;simp[Sl.v]at h1;obtain⟨rfl,rfl,rfl⟩:=h1;exact .inr λo y=>by cases y
 ·rw[e]at h1;cases s;simp[Sl.v]at h1;obtain⟨rfl,rfl,rfl⟩:=h1;exact .inr λo y=>by cases y
theorem k7r{h:AH}{cs:List AV}(a:ArgT Pg h ken cs):∃(s:Sl)(xs:List (List Nat)),cs=[s.v]/\Sq Ef.nats h Fp.no s xs:=Sq.of_arg (E:=Ef.nats) ky5 kj4 (λes t=>kbf0 t) a
end Go.Ab
set_option maxRecDepth 10000
namespace Go.Ab
open Go.Proofs Go.Num
def prodN(C:List (List Nat))(l:List Nat)(X:Nat):Nat:=l.foldl (λX i=>X*num B (C.getD i [])) X
noncomputable def sumH(p q:Nat)(C:List (List Nat))(l:List Nat)(M:Nat):Nat:=l.foldl (λM i=>(M+hidOf p q (num B (C.getD i [])))%(p*q)) M
noncomputable def sumD(p q:Nat)(C:List (List Nat))(l:List Nat)(M:Nat):Nat:=l.foldl (λM i=>M+hidOf p q (num B (C.getD i []))) M
theorem sumH_D{p q:Nat}{C:List (List Nat)}:∀(l:List Nat)(M:Nat),sumH p q C l (M%(p*q))=sumD p q C l M%(p*q)
 | [],M=>rfl
 | i::l,M=>by unfold sumH sumD;rw[List.foldl_cons,List.foldl_cons,Nat.mod_add_mod];exact sumH_D l _
section
variable{p q:Nat}(k:KeyOk p q)(p2:p<1099511627776)(q2:q<1099511627776){C:List (List Nat)}(lC:∀c∈C,∀x∈c,x<B)(hv:∀c∈C,kbs (digs B (p*q)) c=true)
include k p2 q2 lC hv
theorem kll{i:Nat}(z:i<C.length):digs B (num B C[i])=C[i]/\num B C[i]<p*q*(p*q)/\Nat.Coprime (num B C[i]) (p*q):=by have y:=qb5 z;obtain⟨-,r,-,l,c⟩:=(kv7 p2 q2 (lC _ y)).1 (hv _ y);exact⟨kd3 B2 (lC _ y) (rt_iff.1 r).2,l,c⟩
theorem kbef:0<p*q*(p*q):=Nat.mul_pos (kjl k) (kjl k)
theorem k5x:∀(l:List Nat),(∀i∈l,i<C.length)->∀X:Nat,prodC (digs B (p*q*(p*q))) C l (digs B (X%(p*q*(p*q))))=digs B (prodN C l X%(p*q*(p*q)))
 | [],_,X=>rfl
 | i::l,F,X=>by
  have G:=F i (by simp);obtain⟨e,lt,co⟩:=kll k p2 q2 lC hv G;have y:=kbef k p2 q2 lC hv;have z:=key_sq p2 q2;have up:∀{x:Nat},x<p*q*(p*q)->x<B^30:=λh=>Nat.lt_trans h (qbt z (Nat.pow_le_pow_right (by decide) (by decide)));have H:C.getD i []=C[i]:=by simp[List.getD,G]
  have ih:=k5x l (λj I=>F j (by simp[I])) (X*num B C[i]);unfold prodC prodN at ih|-;rw[List.foldl_cons,List.foldl_cons,H];rw[<- ih];congr 1
  conv=>lhs;rw[<- e]
  rw[k8t (up (Nat.mod_lt _ y)) (up lt) (qbt z (Nat.pow_le_pow_right (by decide) (by decide))) y,Nat.mod_mul_mod]
theorem k0y:∀(l:List Nat),(∀i∈l,i<C.length)->∀X:Nat,Nat.Coprime X (p*q)->Nat.Coprime (prodN C l X) (p*q)
 | [],_,X,h=>h
 | i::l,y,X,h=>by
  have z:=y i (by simp);obtain⟨e,lt,co⟩:=kll k p2 q2 lC hv z;have F:C.getD i []=C[i]:=by simp[List.getD,z]
  have:=k0y l (λj G=>y j (by simp[G])) (X*num B C[i]) (Nat.Coprime.mul_left h co);unfold prodN at this|-;rw[List.foldl_cons,F];exact this
theorem k09:∀(l:List Nat),(∀i∈l,i<C.length)->∀X M:Nat,Hid (p*q) ((p-1)*(q-1)) X M->Hid (p*q) ((p-1)*(q-1)) (prodN C l X) (sumH p q C l M)
 | [],_,X,M,h=>h
 | i::l,y,X,M,h=>by
  have z:=y i (by simp);obtain⟨e,lt,co⟩:=kll k p2 q2 lC hv z;have F:C.getD i []=C[i]:=by simp[List.getD,z]
  have:=k09 l (λj G=>y j (by simp[G])) (X*num B C[i]) ((M+hidOf p q (num B C[i]))%(p*q)) (Hid.mul (kjl k) h (kww k co));unfold prodN sumH at this|-;rw[List.foldl_cons,List.foldl_cons,F];exact this
theorem kbaz:digs B (1%(p*q*(p*q)))=[1]:=by have h1:=k.pos;have:1<p*q*(p*q):=qbt h1 (Nat.le_mul_of_pos_left _ (by omega));rw[Nat.mod_eq_of_lt this,klb]
theorem kbk5:Hid (p*q) ((p-1)*(q-1)) 1 0:=by have:=Hid.shown (f:=(p-1)*(q-1)) (kjl k);rwa[Nat.zero_mul,Nat.zero_add]at this
theorem kbiy(hb:badF (p:Int) (q:Int)=false)(may:kbj (digs B (p*q))=true){l:List Nat}(y:∀i∈l,i<C.length):decF (p:Int) (q:Int) (prodC (digs B (p*q*(p*q))) C l [1])=(digs B (sumD p q C l 0%(p*q)),0):=by rw[<- kbaz k p2 q2 lC hv,k5x k p2 q2 lC hv l y,dec_of k p2 q2 hb may (k0y k p2 q2 lC hv l y 1 (Nat.coprime_one_left _)) (k09 k p2 q2 lC hv l y 1 0 (kbk5 k p2 q2 lC hv)),<- sumH_D,Nat.zero_mod]
end
theorem k6f{p q:Nat}(k:KeyOk p q){C:List (List Nat)}:∀(l:List Nat)(M:Nat),(∀i∈l,Nat.Coprime (num B (C.getD i [])) (p*q))->sumD p q C l M<=M+l.length*(p*q)
 | [],M,_=>by simp[sumD]
 | i::l,M,h=>by have h1:=(kww k (h i (by simp))).1;have:=k6f k l (M+hidOf p q (num B (C.getD i []))) λj y=>h j (by simp[y]);unfold sumD at this|-;rw[List.foldl_cons,qb4,Nat.succ_mul];omega
end Go.Ab
set_option maxRecDepth 10000
namespace Go.Ab
open Go.Proofs
def OfP(h0:AH)(n:Nat)(l:List Nat)(v:AV)(h':AH):Prop:=Grow h0 h'/\∃(t:Sl)(w:List Nat),v=.tup [.agg [.i (n:Int),t.v],.i 0]/\Nats h' t w/\w.length=(n+63)/64/\Own h0 t/\∀m,wbit w m=decide (m∈l)
theorem ofP_bt{n:Nat}{w l:List Nat}(K:n<=65536)(H:∀x∈l,x<n)(I:w.length=(n+63)/64)(F:∀m,wbit w m=decide (m∈l)):btR (n:Int) w=true/\btL (n:Int) w=(List.range n).filter λi=>decide (i∈l):=by
 have z:∀i,n<=i->wbit w i=false:=λi y=>by rw[F,qb0];intro h;have:=H i h;omega
 have G:btR (n:Int) w=true:=btR_of (by omega) (by omega) (by rw[Int.toNat_natCast];exact I) λi _ y=>z i (by rw[Int.toNat_natCast]at y;exact y);refine⟨G,?_⟩;unfold btL;rw[G,if_pos rfl,Int.toNat_natCast];apply List.filter_congr;intro i y;rw[F]
theorem kbaw{x k:Nat}(y:x<18446744073709551616)(hk:k<64)(hb:x.testBit k=false):IntKind.wrap .u64 ((x:Int)+((2^k:Nat):Int))=((x|||2^k:Nat):Int):=by
 have hp:2^k<2^64:=Nat.pow_lt_pow_right (by decide) hk
 have h1:BitVec.ofNat 64 x&&&BitVec.ofNat 64 (2^k)=0#64:=by
  apply BitVec.eq_of_toNat_eq;rw[BitVec.toNat_and,BitVec.toNat_ofNat,BitVec.toNat_ofNat,Nat.mod_eq_of_lt y,Nat.mod_eq_of_lt hp];apply Nat.eq_of_testBit_eq;intro i;rw[Nat.testBit_and,Nat.testBit_two_pow];by_cases e:k=i
  ·subst e;simp[hb]
  ·simp[e]
 have h2:=congrArg BitVec.toNat (BitVec.add_eq_or_of_and_eq_zero _ _ h1);rw[BitVec.toNat_add,BitVec.toNat_or,BitVec.toNat_ofNat,BitVec.toNat_ofNat,Nat.mod_eq_of_lt y,Nat.mod_eq_of_lt hp]at h2;rw[wrapU,<- h2];omega
section
variable{h0:AH}{S:Fp}{s s1 s2 s3:Sl}{t:Tb}
theorem k71{l:List Nat}{n:Nat}(q:Sq EI h0 S s (zs l)){j:Nat}(hj:j<l.length)(ac:l[j]<65536){h:AH}(G:Grow h0 h){b c i:Nat}{t:Sl}{w:List Nat}(C:h.has c [.i (n:Int),t.v] kz)(V:Vec h t i w)(H:l[j]/64<w.length)(y:wbit w l[j]=false){Q:AV->AH->Prop}
  (hP:∀h',Upd h h' i->Vec h' t i (w.set (l[j]/64) (w[l[j]/64]|||2^(l[j]%64)))->Runs (go (.pt kc6 kk1 [(0,.i (n:Int)),(1,s.v),(4,.p (.new b 0)),(6,.p (.new c 0)),(7,.i ((j+1:Nat):Int))]) h') Q):∀(k m:Nat),m+k=l[j]%64->
  Runs (go (.pt kc6 kqb [(0,.i (n:Int)),(1,s.v),(4,.p (.new b 0)),(6,.p (.new c 0)),(7,.i (j:Int)),(9,.int .u64 ((2^m:Nat):Int)),(10,.i (m:Int))]) h) Q:=by
 have Z:j<(zs l).length:=by rw[zs_len];omega
 obtain⟨r,W,I⟩:=(q.grow G).int Z;have hx:(zs l)[j]=((l[j]:Nat):Int):=by simp[zs]
 rw[hx]at I;have F:l[j]%64<64:=Nat.mod_lt _ (by decide);intro k
 induction k with
 | zero =>
  intro m hm;have K:w[l[j]/64]<18446744073709551616:=V.lt _ (qb5 H);have U:w.getD (l[j]/64) 0=w[l[j]/64]:=by simp[List.getD,H]
  have aa:w[l[j]/64].testBit (l[j]%64)=false:=by unfold wbit at y;rw[U]at y;exact y
  rw[kzz];refine qy W (qy I ?_);rw[show Int.tmod ((l[j]:Nat):Int) 64=((l[j]%64:Nat):Int)from rfl];refine qbb (qb0 (by omega)) (qcs C 1 rfl (qy W (qy I (qcs C 1 rfl (qy W (qy I ?_))))));rw[show Int.tdiv ((l[j]:Nat):Int) 64=((l[j]/64:Nat):Int)from rfl,wrap64 (by omega) (by omega),V.len];refine qy (V.idx rfl (kba H)) (qy (V.rd rfl (kba H) qcr) (qy (V.idx rfl (kba H)) ?_));obtain rfl:m=l[j]%64:=by omega
  rw[U,kbaw K F aa];refine qbg V rfl (kba H) (kbg (Nat.or_lt_two_pow (n:=64) K (Nat.pow_lt_pow_right (by decide) F))) λh1 V1 u1=>?_;rw[ki (by have:=q.short;rw[zs_len]at this;omega)];exact hP h1 u1 V1
 | succ k ih =>
  intro m hm;rw[kzz];refine qy W (qy I ?_);rw[show Int.tmod ((l[j]:Nat):Int) 64=((l[j]%64:Nat):Int)from rfl];refine qba (qbz (by omega)) ?_;have hp:2^(m+1)<2^64:=Nat.pow_lt_pow_right (by decide) (by omega)
  rw[ki (by omega),show IntKind.wrap .u64 (((2^m:Nat):Int)*2)=((2^(m+1):Nat):Int)from by
   have:((2^m:Nat):Int)*2=((2^(m+1):Nat):Int):=by rw[Nat.pow_succ];omega
   have ab:∀z:Nat,z<18446744073709551616->IntKind.wrap .u64 (z:Int)=(z:Int):=λz hz=>by rw[wrapU];omega
   rw[this,ab _ hp]]
  exact ih (m+1) (by omega)
theorem kbj5{l:List Nat}{n:Nat}(q:Sq EI h0 S s (zs l))(hl:∀x∈l,x<n)(hn:n<=65536){b c i:Nat}{t:Sl}(hb:h0.blks.size<=b)(U:c≠i)(aa:b≠c)(G:b≠i)(hi:h0.blks.size<=i):∀(k j:Nat),j+k=l.length->∀(h:AH)(w:List Nat),Grow h0 h->(∃cs:List AV,cs.length=2/\h.has b cs kz)->h.has c [.i (n:Int),t.v] kz->Vec h t i w->w.length=(n+63)/64->(∀m,wbit w m=decide (m∈l.take j))->
  Runs (go (.pt kc6 kk1 [(0,.i (n:Int)),(1,s.v),(4,.p (.new b 0)),(6,.p (.new c 0)),(7,.i (j:Int))]) h) (OfP h0 n l):=by
 intro k
 induction k with
 | zero =>
  intro j hj h w g ⟨cs,z,B⟩ C V H I;obtain rfl:j=l.length:=by omega
  rw[k3r,q.len,zs_len];refine qbb (qb0 (by omega)) (qct C 0 rfl (qcs C 1 rfl ?_));refine q0 B (by rw[z];rfl) λh1 B1 u1=>?_;refine qct B1 0 rfl (qcs B1 1 rfl (qx ⟨g.updr hb u1,t,w,rfl,(V.updr (λe=>G e.symm) u1).nats,H,V.own hi,λm=>?_⟩));rw[I,List.take_length]
 | succ k ih =>
  intro j hj h w g ⟨cs,z,B⟩ C V H I;have F:j<l.length:=by omega
  have W:j<(zs l).length:=by rw[zs_len];omega
  obtain⟨r,K,Q⟩:=(q.grow g).int W;have hx:(zs l)[j]=((l[j]:Nat):Int):=by simp[zs]
  rw[hx]at Q;have ab:l[j]<n:=hl _ (qb5 F);have hq:l[j]/64<w.length:=by omega
  rw[k3r];rw[q.len,zs_len]at K|-;refine qba (qbz (by omega)) (qy K (qy Q (qbb (qb0 (by omega)) (qy K (qy Q (qbb (qb0 (by omega)) (qct C 0 rfl (qcs C 1 rfl (qy K (qy Q ?_))))))))))
  have ht:∀m,decide (m∈l.take (j+1))=(decide (m=l[j])||decide (m∈l.take j)):=λm=>by rw[qck F,Bool.eq_iff_iff];simp only[qcc,qby,qb7,List.mem_singleton];exact Or.comm
  refine(kbc4 V.nats hq (by omega)).call λv h1 ⟨e,y⟩=>?_;subst e;refine qy (seen rfl) (qbc (λZ=>?_) λZ=>?_)
  ·rw[ki (by have:=q.short;rw[zs_len]at this;omega)];refine ih (j+1) (by omega) h1 w (g.trans y) ⟨cs,z,y.has B⟩ (y.has C) (V.grow y) H λm=>?_;rw[ht,<- I];by_cases e:m=l[j]
   ·rw[e,Z];simp
   ·rw[qb0 e];simp
  ·refine k71 (n:=n) (b:=b) (c:=c) q F (by omega) (g.trans y) (y.has C) (V.grow y) hq Z (λh' u' V'=>?_) (l[j]%64) 0 (by omega);refine ih (j+1) (by omega) h' _ ((g.trans y).updr hi u') ⟨cs,z,(y.has B).updr G u'⟩ ((y.has C).updr U u') V' (by rw[qb9];exact H) λm=>?_;rw[kz1 hq,I,ht]
theorem kbcb{l:List Nat}{n:Nat}(q:Sq EI h0 S s (zs l))(H:∀x∈l,x<n)(I:n<=65536):Runs (go (.fn kc6 [.i (n:Int),s.v]) h0) (OfP h0 n l):=by rw[kbkd];refine qz λh1 b1 G=>qbb (qb0 (by omega)) (qbb (qb0 (by omega)) ?_);rw[wrap64 (n:=(n:Int)+63) (by omega) (by omega),show(n:Int)+63=((n+63:Nat):Int)from by omega,show Int.tdiv ((n+63:Nat):Int) 64=(((n+63)/64:Nat):Int)from rfl,wrap64 (by omega) (by omega)];refine Runs.mk (kdt (by omega)) kcz λt h2 V z=>?_;refine qz λW b3 K=>q0 b3 rfl λF b4 Q=>?_;have Z:=b1.lt;have z2:=z.size;have z3:=b3.lt;have z4:=V.inn;have y:Grow h2 F:=K.updr (qbr _) Q;have U:Grow h0 F:=(G.trans z).trans y;exact kbj5 q H I (b:=h0.blks.size) (c:=h2.blks.size) (i:=h1.blks.size) (qbr _) (by omega) (by omega) (by omega) G.size l.length 0 (by omega) F _ U ⟨_,rfl,(z.trans y).has b1⟩ b4 (V.grow y) (by simp) λm=>by rw[kzb];simp
theorem kbl4{h1:AH}{n:Nat}{l:List Nat}{f:Option (AV×AH)}{b:Nat}(R:Runs f (OfP h1 n l))(G:Grow h0 h1)(hb:h0.blks.size<=b){cs:List AV}(y:cs.length=2)(B:h1.has b cs kz) :
  Runs (f.bind λq=>(AV.asTup2 q.1).bind λp=>(AV.asAgg p.1).bind λcs=>cond (Nat.beq cs.length 2) (((cs[0]?).bind (AV.asInt .i64)).bind λn=>((cs[1]?).bind AV.asSl).bind λl=>((some p.2).bind (AV.asInt .i64)).bind λe=>(q.2.puts (.new b 0) [.i n,l.v]).bind λh=>((h.cell ((Ref.new b 0).add 0)).bind (AV.asInt .i64)).bind λn=>((h.cell ((Ref.new b 0).add 1)).bind AV.asSl).bind λl=>some (.tup [.agg [.i n,l.v],.i e],h)) none) (OfP h0 n l):=by
 refine R.call λv h2 ⟨F,t,w,e,N,I,o,K⟩=>?_;subst e;refine qy rfl (qy rfl (qba rfl (qy rfl (qy (seenAt rfl qcq) (qy rfl ?_)))));dsimp only;have z:=B.lt;refine q0 (F.has B) (by rw[y];rfl) λQ b3 H=>?_;refine qct b3 0 rfl (qcs b3 1 rfl (qx ⟨(G.trans F).updr hb H,t,w,rfl,N.updr o z H,I,o.of_le G,K⟩))
theorem kbgv{n:Nat}(K:n<=65536){b:Nat}(hb:h0.blks.size<=b):∀(k i:Nat),i+k=n->∀(h:AH)(o:Sl)(jo:Option Nat),Grow h0 h->LeO h0.blks.size jo->h.has b [.i 0,nV] kz->(∀k,jo=some k->k≠b)->GF EI T.int h Fp.no o jo (zs (List.range i))->
  Runs (go (.pt ki9 kqm [(0,.i (n:Int)),(2,.p (.new b 0)),(4,o.v),(5,.i (i:Int))]) h) (OfP h0 n (List.range n)):=by
 intro k
 induction k with
 | zero =>
  intro i Q h o jo G F B y V;obtain rfl:i=n:=by omega
  rw[k6h];refine qbb (qb0 (by omega)) ?_;exact kbl4 (kbcb V.sq (λx U=>qco.1 U) K) G hb rfl B
 | succ k ih =>intro i Q h o jo G F B y V;rw[k6h];refine qba (qbz (by omega)) (qba (qbz (by omega)) (qz λh2 b2 z=>?_));refine qy (kdk b2 (by rw[kf0];rfl)) ?_;obtain⟨W,H,Z,V3,I⟩:=(V.grow z).push (T:=Fp.no) (show EI.has h2 Fp.no [.i (i:Int)] (i:Int)from rfl) NotO.no (klz (by rw[zs_len,qcn];omega));have aa:=B.lt;refine qy Z (qy qcq ?_);rw[ki (by omega)];have m3:Md (Fp.opt jo) h2 H:=I.md λk e=>e;refine ih (i+1) (by omega) H W (some h2.blks.size) ((G.trans z).updo F I) (show _<=_ from(G.trans z).size) (m3.has (z.has B) λe=>y _ e rfl) (λk e=>by cases e;have:=z.size;omega) ?_;rw[List.range_succ,zs_app];exact V3.mono (λj x=>x.1.elim id id) NotO.no
theorem kblr{n:Nat}(y:n<=65536):Runs (go (.fn ki9 [.i (n:Int)]) h0) (OfP h0 n (List.range n)):=by rw[kbp9];exact qz λh1 b1 z=>kbgv y (qbr _) n 0 (by omega) h1 _ none z trivial b1 (λk e=>by cases e) (GF.none _ _ _ _)
variable{w1 w2:List Nat}
end
end Go.Ab
set_option maxRecDepth 10000
namespace Go.Ab
open Go.Proofs Go.Num
section
variable{h0:AH}{S:Fp}{s1 s2 s3 s u:Sl}{t:Tb}
end
theorem kbjd{qs:List Nat}{C:List (List Nat)}{R:Nat×Nat->List Nat}{D:List (Nat×Nat)}{i:Nat}(y:i<D.length):(sumsC qs C R D)[i]'(by unfold sumsC;rw[qb3];exact y)=prodC qs C (R D[i]) [1]:=by
 have h:i<(D.map λp=>prodC qs C (R p) [1]).length:=by rw[qb3];exact y
 exact List.getElem_map (λp=>prodC qs C (R p) [1]) (h:=h)
theorem kbdr{a b:Nat}(h:a+b<B^64):addN (digs B a) (digs B b)=(digs B (a+b),0):=by unfold addN told;rw[if_pos ⟨kv (by omega),kv (by omega)⟩,kg B2,kg B2,if_pos h]
section
variable{h0:AH}{S Su So:Fp}{s1 s2 s3 s u ms ys zs':Sl}{t:Tb}{p q:Nat}{C:List (List Nat)}(k:KeyOk p q)(p2:p<1099511627776)(q2:q<1099511627776)(hb:badF (p:Int) (q:Int)=false)(may:kbj (digs B (p*q))=true)(lC:∀c∈C,∀x∈c,x<B)(hv:∀c∈C,kbs (digs B (p*q)) c=true)
include k p2 q2 hb may lC hv
theorem kbfm{i:Nat}(y:i<C.length):decF (p:Int) (q:Int) C[i]=(digs B (hidOf p q (num B C[i])),0):=by unfold decF;rw[hb,cond_false,Int.toNat_natCast,Int.toNat_natCast,hv _ (qb5 y),Bool.not_true,cond_false]
end
end Go.Ab
set_option maxRecDepth 10000
namespace Go.Ab
open Go.Proofs Go.Num
section
variable{p q:Nat}(k:KeyOk p q)(p2:p<1099511627776)(q2:q<1099511627776)(may:kbj (digs B (p*q))=true)
include k p2 q2 may
end
section
variable{h0:AH}{S Su Sa Sb Sc:Fp}{s1 s2 s3 s u as1 bs1 cs':Sl}{t:Tb}{p q:Nat}{C:List (List Nat)}(k:KeyOk p q)(p2:p<1099511627776)(q2:q<1099511627776)(hb:badF (p:Int) (q:Int)=false)(may:kbj (digs B (p*q))=true)(lC:∀c∈C,∀x∈c,x<B)(hv:∀c∈C,kbs (digs B (p*q)) c=true)
include k p2 q2 hb may lC hv
end
section
variable{h0:AH}{S Su:Fp}{s1 s2 s3 z u:Sl}{t:Tb}{C:List (List Nat)}{ns:List Nat}
end
theorem kbdh{p q:Nat}(k:KeyOk p q)(y:128<=p)(p2:p<1099511627776)(F:128<=q)(q2:q<1099511627776):kbj (digs B (p*q))=true:=by
 have odd:∀{x:Nat},IsPrime x->128<=x->x%2=1:=λ{x} h Q=>by
  rcases Nat.mod_two_eq_zero_or_one x with e | e
  ·rcases h.2 2 (Nat.dvd_of_mod_eq_zero e)with G | G<;>omega
  ·exact e
 have r:rt (digs B (p*q))=true:=kv (up64 (key_lt p2 q2));have lo:2^14<=p*q:=qbs (by decide:2^14<=128*128) (Nat.mul_le_mul y F);have H:p*q<2^80:=qbt (Nat.mul_lt_mul'' p2 q2) (by decide);have hb:bitsN (digs B (p*q))=bl (p*q):=by unfold bitsN;rw[if_pos r,kg B2]
 have I:=bl_le H
 have K:15<=bl (p*q):=by
  rcases Nat.lt_or_ge (bl (p*q)) 15 with h | h
  ·have h1:=(bl_Bl (p*q)).1;have:2^bl (p*q)<=2^14:=Nat.pow_le_pow_right (by decide) (by omega);omega
  ·exact h
 have h0:bitN (digs B (p*q)) 0=true:=by rw[show(0:Int)=((0:Nat):Int)from rfl,kvg r,kg B2,Nat.testBit_zero,qby,Nat.mul_mod,odd k.hp y,odd k.hq F]
 unfold kbj;rw[r,h0,hb,qbz (by omega),qbz (by omega)];rfl
theorem kbal{ns:List Nat}{t:Tb}{w:List Nat}{C:List (List Nat)}(may:kbj ns=true)(G:tabR t=true)(H:btR (t.ids.length:Int) w=true)(I:C.length=t.ids.length)(hv:∀c∈C,kbs ns c=true):kby ns t (t.ids.length:Int) w C=(sumsC (kcg ns) C (rowsL t (t.ids.length:Int) w) (cutsL t),0):=by
 have F:faultH t (t.ids.length:Int) w (C.length:Int)=0:=by unfold faultH;rw[G,H,I];simp
 have y:oddC ns C=false:=by unfold oddC;rw[List.any_eq_false];intro c K;rw[hv c K];simp
 unfold kby;rw[if_neg (by rw[may];simp),if_pos F,if_neg (by rw[y];simp)]
end Go.Ab
namespace Go.Ab
open Go.Num
noncomputable def drawS(n:Nat)(bs:List Nat):Option Nat×List Nat:=if n-1=0 then(some 0,bs)else drawn (bl (n-1)) n bs
theorem ksu{n x:Nat}(y:0<n){bs:List Nat}(h:(drawS n bs).1=some x):x<n:=by
 unfold drawS at h;split at h
 ·cases h;exact y
 ·exact(kbqy bs.length (qbr _) h).1
def swapL(l:List Nat)(i j:Nat):List Nat:=(l.set i (l.getD j 0)).set j (l.getD i 0)
noncomputable def shufF:Nat->List Nat->List Nat->Option (List Nat)×List Nat
 | 0,l,bs=>(some l,bs)
 | i+1,l,bs=>match (drawS (i+2) bs).1 with
  | none=>(none,(drawS (i+2) bs).2)
  | some j=>shufF i (swapL l (i+1) j) (drawS (i+2) bs).2
theorem kp0(l:List Nat)(i j:Nat):(swapL l i j).length=l.length:=by simp[swapL]
theorem k7p{l:List Nat}{i j n:Nat}(z:i<l.length)(F:j<l.length)(h:∀x∈l,x<n):∀x∈swapL l i j,x<n:=by
 intro x G
 have y:∀k,k<l.length->l.getD k 0<n:=λk hk=>by rw[List.getD_eq_getElem?_getD,qb6 hk];exact h _ (qb5 hk)
 rcases List.mem_or_eq_of_mem_set G with h1 | h1
 ·rcases List.mem_or_eq_of_mem_set h1 with h2 | h2
  ·exact h _ h2
  ·rw[h2];exact y j F
 ·rw[h1];exact y i z
theorem k2h{n:Nat}:∀(i:Nat)(l bs:List Nat),i<l.length\/i=0->(∀x∈l,x<n)->∀o,(shufF i l bs).1=some o->o.length=l.length/\∀x∈o,x<n:=by
 intro i
 induction i with
 | zero =>
  intro l bs _ h o e;cases e;exact⟨rfl,h⟩
 | succ i ih =>
  intro l bs z h o e;rw[shufF]at e;have z:i+1<l.length:=by omega
  cases y:(drawS (i+2) bs).1 with
  | none=>rw[y]at e;cases e
  | some j =>rw[y]at e;have F:=ksu (by omega) y;have:=ih _ _ (.inl (by rw[kp0];omega)) (k7p z (by omega) h) o e;rwa[kp0]at this
structure Gv where
 f:Nat
 c:Nat
 t:Int
 n:Int
 deriving DecidableEq
structure Mk where
 given:List Gv
 nodes:List (Int×Int)
noncomputable def issueF(m:Mk)(bs:List Nat)(t n:Int)(cuts:List (Nat×Nat)):(Option (List Nat)×Int)×Mk×List Nat :=
 if oddI t=true\/oddI n=true\/(t,n)∈m.nodes\/1048576<m.given.length+cuts.length then((none,1),m,bs)
 else match (shufF (cuts.length-1) (List.range cuts.length) bs).1 with
  | none=>((none,7),m,(shufF (cuts.length-1) (List.range cuts.length) bs).2)
  | some o=>((some o,0),⟨m.given++o.map λk=>⟨(cuts.getD k (0,0)).1,(cuts.getD k (0,0)).2,t,n⟩,m.nodes++[(t,n)]⟩,(shufF (cuts.length-1) (List.range cuts.length) bs).2)
end Go.Ab
set_option maxRecDepth 10000
namespace Go.Ab
open Go.Proofs Go.Num
structure Ses where
 phase:Int
 why:Int
 now:Int
 wait:Option (Int×List Int)
def oddK(k:Int):Bool:=decide (k<1)||decide (k>11)
def awaitF(s:Ses)(l:List Int):Ses×Int:=if s.phase≠0 then(s,17)else if l.length=0\/l.any oddK=true then(s,1)else if s.wait.isSome=true then(s,18)else({s with wait:=some (s.now,l)},0)
def overF(s:Ses)(p e:Int):Ses:={s with phase:=p,why:=e,wait:=none}
def waitL(s:Ses):List Int:=match s.wait with
 | none=>[]
 | some (_,l)=>l
def stakeF(s:Ses)(kind a:Int):Ses×Int:=if s.phase≠0 then(s,17)else if kind=11 then(overF s 2 (if 1<=a/\a<=1000 then a else 18),0)else if(waitL s).any (λx=>decide (x=kind))=false then(overF s 2 18,18)else({s with wait:=none},0)
def ki8(s:Ses)(e:Int):Ses×Int:=if s.phase≠0 then(s,17)else if e<1\/e>1000 then(s,1)else(overF s 2 e,0)
def Fp.nw(a b:Nat):Fp:=λj=>a<=j/\j<b
theorem GF.noI{e:TypeId}{h:AH}{S:Fp}{s:Sl}:∀{i:Option Nat}{xs:List Int},GF EI e h S s i xs->GF EI e h Fp.no s i xs
 | .none,_,v=>v
 | .some k,_,⟨l,a,r,ln,rows,y,b,c,r2⟩=>⟨l,qbm,r,ln,rows,y,b,c,r2.imp λ_ _ x=>x⟩
structure Chg(S S':Fp)(h h':AH):Prop where
 md:Md S h h'
 sub:∀j,S' j->S j\/(h.blks.size<=j/\j<h'.blks.size)
theorem Chg.grow{S:Fp}{h h':AH}(g:Grow h h'):Chg S S h h':=⟨g.md _,λj x=>.inl x⟩
def WaitAt(h:AH)(S:Fp)(i m:Nat):Option (Int×List Int)->Prop
 | none=>MapIs h m []
 | some p=>∃s,MapIs h m [(0,.agg [.i p.1,s.v])]/\Sq EI h (λj=>S j/\j≠i/\j≠m) s p.2
def SesAt(h:AH)(S:Fp)(i:Nat)(q:Int×Int×Int)(σ:Ses):Prop:=S i/\∃m,S m/\m≠i/\h.has i [.i q.1,.i q.2.1,.i q.2.2,.i σ.now,.i σ.phase,.i σ.why,.map (some m)] k3n/\WaitAt h S i m σ.wait
def PQ(q:Int×Int×Int):Prop:=q.1≠0/\0<q.2.1
theorem SesAt.md{h h':AH}{S U:Fp}{i:Nat}{q:Int×Int×Int}{σ:Ses}(t:SesAt h S i q σ)(m:Md U h h')(d:Dis S U):SesAt h' S i q σ:=by
 obtain⟨a,k,b,c,e,w⟩:=t;refine⟨a,k,b,c,m.has e (λx=>d i a x),?_⟩;cases y:σ.wait with
 | none=>rw[y]at w;exact MapIs.md w m λx=>d k b x
 | some p =>rw[y]at w;obtain⟨s,z,F⟩:=w;exact⟨s,z.md m λx=>d k b x,F.md m (d.mono (λj x=>x.1) λj x=>x)⟩
theorem SesAt.grow{h h':AH}{S:Fp}{i:Nat}{q:Int×Int×Int}{σ:Ses}(t:SesAt h S i q σ)(g:Grow h h'):SesAt h' S i q σ:=t.md (g.md Fp.no) Dis.no
theorem SesAt.mono{h:AH}{S U:Fp}{i:Nat}{q:Int×Int×Int}{σ:Ses}(t:SesAt h S i q σ)(f:∀j,S j->U j):SesAt h U i q σ:=by
 obtain⟨a,k,b,c,e,w⟩:=t;refine⟨f _ a,k,f _ b,c,e,?_⟩;cases y:σ.wait with
 | none=>rw[y]at w;exact w
 | some p =>rw[y]at w;obtain⟨s,z,F⟩:=w;exact⟨s,z,F.mono λj x=>⟨f j x.1,x.2⟩⟩
section
variable{h:AH}{S Sk:Fp}{i:Nat}{q:Int×Int×Int}{σ:Ses}
theorem k56{a b c:Int}:Runs (go (.fn kvt [.i a,.i b,.i c]) h) λv h'=>Grow h h'/\
  ((v=.tup [.ptr none,.i 1]/\¬(2<=b/\b<=16/\0<=a/\a<b/\1<=c/\c<=1073741824))\/
   (2<=b/\b<=16/\0<=a/\a<b/\1<=c/\c<=1073741824)/\∃i,v=.tup [.p (.new i 0),.i 0]/\SesAt h' (Fp.nw h.blks.size h'.blks.size) i (a,b,c) ⟨0,0,0,none⟩):=by
 rw[kbpn]
 have no:∀{p:Prop},(p->¬(2<=b/\b<=16/\0<=a/\a<b/\1<=c/\c<=1073741824))->p->Runs (some (AV.tup [.ptr none,.i 1],h)) λv h'=>Grow h h'/\
  ((v=.tup [.ptr none,.i 1]/\¬(2<=b/\b<=16/\0<=a/\a<b/\1<=c/\c<=1073741824))\/
   (2<=b/\b<=16/\0<=a/\a<b/\1<=c/\c<=1073741824)/\∃i,v=.tup [.p (.new i 0),.i 0]/\SesAt h' (Fp.nw h.blks.size h'.blks.size) i (a,b,c) ⟨0,0,0,none⟩):=λ{p} f x=>qx ⟨qk h,.inl ⟨rfl,f x⟩⟩
 refine qbc (λk=>no (λx=>by omega) (qb1 k)) λF=>qbc (λk=>no (λx=>by omega) (qb1 k)) λG=>qbc (λk=>no (λx=>by omega) (qb1 k)) λH=>qbc (λk=>no (λx=>by omega) (qb1 k)) λI=>qbc (λk=>no (λx=>by omega) (qb1 k)) λK=>qbc (λk=>no (λx=>by omega) (qb1 k)) λQ=>?_;rw[qbx]at F G H I K Q;refine Runs.newMap λh1 b1 y=>qz λh2 b2 z=>qx ⟨y.trans z,.inr ⟨by omega,h1.blks.size,rfl,?_⟩⟩;have W:=b1.lt;have U:=b2.lt;have V:=y.size;exact⟨⟨V,U⟩,h.blks.size,⟨qbr _,by omega⟩,by omega,b2,b1.grow z⟩
theorem kyw(t:SesAt h S i q σ)(p:PQ q):go (.fn kpg [.p (.new i 0),.i 0]) h=some (.bool true,h):=by
 obtain⟨a,m,b,c,e,w⟩:=t;obtain⟨y,p2⟩:=p;rw[kbmv];have:Runs (cond (decide ((0:Int)>=0)) (
 (some (Ref.new i 0)).bind λz =>
 ((h.cell (z.add 1)).bind (AV.asInt .i64)).bind λF =>
 cond (decide (0<F)) (
 (some (Ref.new i 0)).bind λG =>
 ((h.cell (G.add 0)).bind (AV.asInt .i64)).bind λH =>
 cond (!decide (0=H)) (
 (some (Ref.new i 0)).bind λI =>
 ((h.cell (I.add 0)).bind (AV.asInt .i64)).bind λK =>
 cond (decide (K=0)) (
 some (.bool true,h)) (
 some (.bool (decide ((0:Int)=0)),h))) (
 some (.bool false,h))) (
 some (.bool false,h))) (
 some (AV.bool false,h))) λv h'=>v=.bool true/\h'=h:=by refine qba rfl (qy rfl (qct e 1 rfl (qba (qbz p2) (qy rfl (qct e 0 rfl (qba (by rw[qcl,qbx];exactλx=>y x.symm) (qy rfl (qct e 0 rfl (qbb (qb0 y) (qx ⟨rfl,rfl⟩))))))))))
 obtain⟨v,h',e,rfl,rfl⟩:=this;exact e
theorem kbke{s:Sl}{xs:List Int}(n:Sq EI h Sk s xs):Runs (go (.fn kcr [s.v,.func (.func kef) [] []]) h) λv h'=>v=.bool (xs.any oddK)/\Grow h h':=by
 rw[k6m];refine qbq (xs:=xs) ?_;rw[kbd4,n.len];refine kf4 (n:=xs.length) (G:=λz h=>go (.pt kbf kb2 [(0,s.v),(1,.func (.func kef) [] []),(7,.i (xs.length:Int)),(8,.i z)]) h) (λi h P H g y F=>?_) (λh g=>?_) xs.length 0 (by omega) (qk h) (λj U=>by omega)
 ·obtain⟨r,I,K⟩:=(n.grow g).int H;rw[qb6 H]at y F;simp only[Option.any_some]at y F
  have Q:go (.fn kef [.i xs[i]]) h=some (.bool (oddK xs[i]),h):=by rw[kbar];unfold oddK;cases decide (xs[i]<1)<;>rfl
  show Runs (go _ _) _;rw[k2f];refine qba (qbz (by omega)) (qy I (qy K (qy Q (qy (seen rfl) ?_))));rw[ki (by have:=n.short;omega)];exact qbc (λc=>qx (y h g c)) λc=>F h g c
 ·rw[k2f,condF (qb0 (by omega))]
theorem k9y{s:Sl}{xs:List Int}(n:Sq EI h Sk s xs)(x:Int):Runs (go (.fn kul [s.v,.i x]) h) λv h'=>v=.bool (xs.any λy=>decide (y=x))/\Grow h h':=by
 rw[kbid];refine qbq (xs:=xs) ?_;rw[kbjo,n.len];refine kf4 (n:=xs.length) (G:=λz h=>go (.pt kkn kok [(0,s.v),(1,.i x),(7,.i (xs.length:Int)),(8,.i z)]) h) (λi h P I g F H=>?_) (λh g=>?_) xs.length 0 (by omega) (qk h) (λj U=>by omega)
 ·obtain⟨r,K,Q⟩:=(n.grow g).int I;rw[qb6 I]at F H;simp only[Option.any_some]at F H;show Runs (go _ _) _;rw[k4f];refine qba (qbz (by omega)) (qy K (qy Q ?_));rw[ki (by have:=n.short;omega)];exact qbc (λc=>qx (F h g (by rw[qby]at c|-;exact c.symm))) λc=>H h g (by rw[qbx]at c|-;exactλe=>c e.symm)
 ·rw[k4f,condF (qb0 (by omega))]
theorem kbht(t:SesAt h S i q σ):go (.fn ksy [.p (.new i 0)]) h=some (.tup [.i σ.phase,.i σ.why],h):=by obtain⟨a,m,b,c,e,w⟩:=t;rw[kbpw,qbv,e.rd 4 rfl qcr,qbv,qbv,e.rd 5 rfl qcr,qbv]
theorem kwu(t:SesAt h S i q σ)(p e:Int):Runs (go (.fn khg [.p (.new i 0),.i p,.i e]) h) λv h'=>v=.tup []/\SesAt h' S i q (overF σ p e)/\Md S h h':=by
 obtain⟨a,m,b,c,I,w⟩:=t;rw[kbns];refine qy rfl (qbl I (cs':=[.i q.1,.i q.2.1,.i q.2.2,.i σ.now,.i p,.i σ.why,.map (some m)]) (by simp) (by simp) λh1 b1 y=>?_);refine qy rfl (qbl b1 (cs':=[.i q.1,.i q.2.1,.i q.2.2,.i σ.now,.i p,.i e,.map (some m)]) (by simp) (by simp) λh2 b2 z=>?_);refine qy rfl (qy (b2.rd 6 rfl rfl) ?_);have K:Md S h h2:=(y.md a).trans (z.md a)
 have F:∃l,MapIs h2 m l:=by
  have ne:∀{h h':AH}{l},MapIs h m l->Upd h h' i->MapIs h' m l:=λx u=>x.md (u.md (T:=λj=>j=i) rfl) c;cases G:σ.wait with
  | none=>rw[G]at w;exact⟨_,ne (ne w y) z⟩
  | some pp =>rw[G]at w;obtain⟨s,Q,W⟩:=w;exact⟨_,ne (ne Q y) z⟩
 obtain⟨l,F⟩:=F;obtain⟨Z,U,V,H⟩:=F.clear;refine qy U (qx ⟨rfl,⟨a,m,b,c,b2.updr (λx=>c x.symm) H,V⟩,K.trans (H.md b)⟩)
theorem kbjx(t:SesAt h S i q σ)(e:Int):Runs (go (.fn kv3 [.p (.new i 0),.i e]) h) λv h'=>v=.i (ki8 σ e).2/\SesAt h' S i q (ki8 σ e).1/\Md S h h':=by
 have y:=t;obtain⟨a,m,b,c,G,w⟩:=t;rw[kbqa];unfold ki8;refine qy rfl (qct G 4 rfl (qbc (λk=>?_) λk=>?_))
 ·rw[qcl,qbx]at k;rw[if_pos k];exact qx ⟨rfl,y,Md.refl _ _⟩
 ·rw[qcm,qby]at k;rw[if_neg (by omega)];refine qbc (λz=>?_) λz=>qbc (λF=>?_) λF=>?_
  ·rw[qby]at z;rw[if_pos (.inl z)];exact qx ⟨rfl,y,Md.refl _ _⟩
  ·rw[qby]at F;rw[if_pos (.inr F)];exact qx ⟨rfl,y,Md.refl _ _⟩
  ·rw[qbx]at z F;rw[if_neg (by omega)];exact(kwu y 2 e).call λv h' ⟨H,I,K⟩=>by subst H;exact qy rfl (qx ⟨rfl,I,K⟩)
theorem ktg{m:Nat}{o:Option (Int×List Int)}(w:WaitAt h S i m o):∃(x:Option AV)(t:Int)(s:Sl)(l:List Int),mapGet h (some m) .i64 0=some x/\x.isSome=o.isSome/\x.getD (.agg [.i 0,nV])=.agg [.i t,s.v]/\Sq EI h Fp.all s l/\(∀σ:Ses,σ.wait=o->waitL σ=l)/\∃L,MapIs h m L/\(∀h',(MapIs h' m (kvDel L 0))->MapIs h' m [])/\(o=none->L=[]):=by
 cases o with
 | none =>
  refine⟨none,0,⟨none,0,.is 0⟩,[],MapIs.get w 0,rfl,rfl,qbn _ _ _,λσ y=>by unfold waitL;rw[y],[],w,λh' x=>x,λ_=>rfl⟩
 | some p =>obtain⟨s,z,F⟩:=w;refine⟨some _,p.1,s,p.2,z.get 0,rfl,rfl,F.mono λ_ _=>trivial,λσ y=>by unfold waitL;rw[y],_,z,λh' x=>x,λx=>by cases x⟩
theorem kyk(t:SesAt h S i q σ)(p:PQ q){s:Sl}{xs:List Int}(n:Sq EI h Sk s xs)(hx:xs.length<=100)(hS:∀j,S j->j<h.blks.size):Runs (go (.fn kj2 [.p (.new i 0),.i 0,s.v]) h) λv h'=>v=.i (awaitF σ xs).2/\∃S',SesAt h' S' i q (awaitF σ xs).1/\Chg S S' h h':=by
 have H:=t;obtain⟨a,m,b,c,Q,w⟩:=t;rw[kbp0];obtain⟨x,tt,sl,l,e1,e2,e3,n1,-,L,mL,-,hL⟩:=ktg w;refine qy rfl (qy (Q.rd 6 rfl rfl) (qy e1 ?_));rw[e3];refine qy rfl (qba rfl (qy rfl (qy rfl ?_)));refine qz λh1 b1 g1=>q0 b1 rfl λh2 b2 u2=>?_;have z:Grow h h2:=g1.updr (qbr _) u2;refine qy rfl (qct (z.has Q) 4 rfl ?_);unfold awaitF;refine qbc (λk=>?_) λk=>?_
 ·rw[qcl,qbx]at k;rw[if_pos k];exact qx ⟨rfl,S,H.grow z,Chg.grow z⟩
 rw[qcm,qby]at k;rw[if_neg (by omega)];refine qy (kyw (H.grow z) p) (qy (seen rfl) (qbb rfl ?_));rw[n.len];refine qbc (λV=>?_) λV=>?_
 ·rw[qby]at V;rw[if_pos (.inl (by omega))];exact qx ⟨rfl,S,H.grow z,Chg.grow z⟩
 rw[qbx]at V;refine(kbke (n.grow z)).call λv h3 ⟨e,g3⟩=>?_;subst e;have G:=z.trans g3;refine qy (seen rfl) (qbc (λW=>?_) λW=>?_)
 ·rw[if_pos (.inr W)];exact qx ⟨rfl,S,H.grow G,Chg.grow G⟩
 rw[if_neg (λx=>x.elim (λy=>by omega) λy=>by rw[W]at y;cases y),e2];refine qbc (λI=>?_) λI=>?_
 ·rw[if_pos I];exact qx ⟨rfl,S,H.grow G,Chg.grow G⟩
 rw[if_neg (by rw[I];simp)];have K:=G.has Q;refine qy rfl (qy (K.rd 6 rfl rfl) (qy rfl (qct K 3 rfl ?_)));refine(kbg1 (n.grow G) (by omega)).call λv Z ⟨s',j,e,v4,F,l4⟩=>?_;subst e;refine qy (seen qcq) (qbd (F.same K 3 1) (qbd (F.same K 6 1) (qy rfl ?_)))
 have hw:σ.wait=none:=by
  cases h5:σ.wait with
  | none=>rfl
  | some y=>rw[h5]at I;cases I
 have aa:=hL hw;subst aa;obtain⟨h5,e5,m5,U⟩:=(mL.grow (G.trans F)).put 0 (.agg [.i σ.now,s'.v]);have lm:=mL.lt;have li:=Q.lt;have lj:LtO Z.blks.size j:=v4.lt;have z4:=(G.trans F).size;have z3:=G.size;have z5:=U.size;refine qy e5 (qx ⟨rfl,λy=>S y\/(h.blks.size<=y/\y<h5.blks.size),⟨.inl a,m,.inl b,c,(F.has K).updr (λx=>c x.symm) U,s',m5,?_⟩,⟨((G.trans F).md _).trans (U.md b),λy hy=>hy⟩⟩)
 have k4:∀y,(Fp.or (Fp.opt j) Fp.no) y->h.blks.size<=y/\y<Z.blks.size:=λy hy=>by
  rcases hy with h6 | h6
  ·have h7:j=some y:=h6;subst h7;have l4:h3.blks.size<=y:=l4;have lj:y<Z.blks.size:=lj;omega
  ·exact h6.elim
 refine(v4.noI.sq.md (U.md (T:=λy=>y=m) rfl) λy h1 h2=>?_).mono λy h1=>?_
 ·have:=k4 y h1;omega
 ·have:=k4 y h1;exact⟨.inr ⟨by omega,by omega⟩,by omega,by omega⟩
theorem kbhb(t:SesAt h S i q σ)(p:PQ q)(kd a b c:Int)(s1 s2 s3:Sl):Runs (go (.fn ku9 [.p (.new i 0),.i 0,.agg [.i kd,.i a,.i b,.i c,s1.v,s2.v,s3.v]]) h) λv h'=>v=.i (stakeF σ kd a).2/\SesAt h' S i q (stakeF σ kd a).1/\Md S h h':=by
 have t0:=t;obtain⟨a',m,b',c',Q,w⟩:=t;rw[kbac];refine qz λh1 b1 z=>?_;have U:=t0.grow z;unfold stakeF;refine qy rfl (qct (z.has Q) 4 rfl (qbc (λk=>?_) λk=>?_))
 ·rw[qcl,qbx]at k;rw[if_pos k];exact qx ⟨rfl,U,z.md _⟩
 rw[qcm,qby]at k;rw[if_neg (by omega)];refine qy (kyw U p) (qy (seen rfl) (qbb rfl (qct b1 0 rfl (qbc (λF=>?_) λF=>?_))))
 ·rw[qby]at F;rw[if_pos F]
  have V:∀e:Int,e=(if 1<=a/\a<=1000 then a else 18)->Runs ((go (.fn khg [.p (.new i 0),.i 2,.i e]) h1).bind λH=>(AV.asTup0 H.1).bind λ_=>some (.i 0,H.2)) λv h'=>v=.i 0/\SesAt h' S i q (overF σ 2 (if 1<=a/\a<=1000 then a else 18))/\Md S h h':=λe he=>by rw[<- he];exact(kwu U 2 e).call λv h2 ⟨e2,t2,m2⟩=>by subst e2;exact qy rfl (qx ⟨rfl,t2,z.thenM m2⟩)
  refine qct b1 1 rfl (qbc (λy=>qct b1 1 rfl (qbc (λI=>qct b1 1 rfl (V _ ?_)) λI=>V _ ?_)) λy=>V _ ?_)
  ·rw[qby]at y I;rw[if_pos ⟨y,I⟩]
  ·rw[qbx]at I;rw[if_neg λx=>I x.2]
  ·rw[qbx]at y;rw[if_neg λx=>y x.1]
 rw[qbx]at F;rw[if_neg F];obtain⟨x,tt,sl,l,e1,e2,e3,n1,hl,L,mL,mD,hL⟩:=ktg w;have K:=mL.grow z
 have W:mapGet h1 (some m) .i64 0=some x:=by obtain⟨x',aa,ab,l',f1,f2,f3,f4,f5,L',f6,-,-⟩:=ktg w;rw[K.get 0];rw[mL.get 0]at e1;exact e1
 refine qy rfl (qy ((z.has Q).rd 6 rfl rfl) (qct b1 0 rfl (qy W ?_)));rw[e3];refine qy rfl (qba rfl (qy rfl (qy rfl (qbd (kd8 b1 b1 0 1) ?_))));refine(k9y (n1.grow z) kd).call λv h2 ⟨e,g2⟩=>?_;subst e;rw[hl σ rfl];have G:=z.trans g2;refine qy (seen rfl) (qbc (λy=>?_) λy=>?_)
 ·rw[qcl]at y;rw[if_pos y];exact(kwu (t0.grow G) 2 18).call λv h3 ⟨Z,t3,m3⟩=>by subst Z;exact qy rfl (qx ⟨rfl,t3,G.thenM m3⟩)
 ·rw[qcm]at y;rw[if_neg (by rw[y];simp)];refine qy rfl (qy ((G.has Q).rd 6 rfl rfl) ?_);obtain⟨h3,Z,m4,u4⟩:=(K.grow g2).del 0;refine qy Z (qx ⟨rfl,⟨a',m,b',c',(G.has Q).updr (λx=>c' x.symm) u4,mD _ m4⟩,G.thenM (u4.md b')⟩)
end
theorem kbei{n:Nat}(y:0<n)(hb:n<B^64)(bs:List Nat):drawF (digs B n) bs=toldD (drawS n bs):=by
 have h0:(digs B n).length≠0:=by intro e;have:=(kek B2).1 (List.length_eq_zero_iff.1 e);omega
 unfold drawF drawS;rw[if_pos ⟨kv hb,h0⟩,kg B2];split
 ·unfold toldD;dsimp only;rw[kbo]
 ·rfl
theorem smallD{m:Nat}(h:m<18446744073709551616):smallN (digs B m)=(m,true):=by
 have hb:m<B^64:=by have:=kjy;omega
 unfold smallN
 have y:(digs B m).length<=1:=by rw[kbc B2,Nat.pow_one];exact h
 rw[if_pos ⟨kv hb,y⟩];by_cases h0:m=0
 ·subst h0;rw[kbo];rfl
 ·rw[kew B2 h0,Nat.mod_eq_of_lt h];rfl
def smallV(r:Option Nat):AV:=.tup [.i ((r.getD 0:Nat):Int),.i (match r with | none=>7 | some _=>0)]
section
variable{h:AH}{S:Fp}{i n:Nat}{bs:List Nat}
theorem kbgf(t:TapeA h S i bs)(h1:1<=n)(h2:n<=100000):Runs (go (.fn kht [.p (.new i 0),.i (n:Int)]) h) λv h'=>v=smallV (drawS n bs).1/\TapeA h' S i (drawS n bs).2/\Md (λj=>j=i) h h':=by
 have y:n<18446744073709551616:=by omega
 have hb:n<B^64:=by have:=kjy;omega
 rw[kbdp];refine qbb (qb0 (by omega)) ?_;have H:IntKind.wrap .u64 (n:Int)=(n:Int):=by rw[wrapU];omega
 rw[H];obtain⟨s,W,I,n1,F,K⟩:=ktn (h:=h) (x:=n) y;refine qy I (qy (seen qcq) ?_)
 have z:(digs B n).length<=63:=by
  have:(digs B n).length<=1:=by rw[kbc B2,Nat.pow_one];exact y
  omega
 refine(kbhv (t.grow F) n1 (qbi K t.lt) (.inl z)).call λv h2 ⟨s2,Q,n2,Z,G,U⟩=>?_;subst Q;rw[kbei h1 hb]at n2 G|-;refine qy rfl (qy (seen qcq) (qy (seen qcr) (qy (kbln n2) (qy rfl (qy (seen qcr) (qy (seen rfl) ?_))))));have V:∀x,(drawS n bs).1=some x->x<n:=λx e=>ksu h1 e;refine qx ⟨?_,G,F.thenM U⟩;unfold toldD smallV;generalize hr:(drawS n bs).1=r at *
 cases r with
 | none =>
  dsimp only;rw[show smallN []=(0,true)from rfl];rfl
 | some x =>have:=V x rfl;dsimp only[Option.getD_some];rw[smallD (by omega)];dsimp only;rw[wrap64 (by omega) (by omega)]
theorem kbhx{l:List Nat}{i j:Nat}(y:i<l.length)(z:j<l.length):((zs l).set i (zs l)[j]!).set j (zs l)[i]! = zs (swapL l i j):=by
 unfold zs swapL;rw[List.map_set,List.map_set]
 have g:∀k,k<l.length->(l.map λx:Nat=>(x:Int))[k]! = ((l.getD k 0:Nat):Int):=λk hk=>by rw[List.getElem!_eq_getElem?_getD,List.getElem?_map,List.getD_eq_getElem?_getD,qb6 hk];rfl
 rw[g i y,g j z]
def ShufP(S:Fp)(h:AH)(i:Nat)(r:Option (List Nat)×List Nat)(v:AV)(h':AH):Prop:=TapeA h' S i r.2/\Md (λj=>j=i) h h'/\
 match r.1 with
 | none=>v=.tup [nV,.i 7]
 | some o=>∃(s:Sl)(k:Nat),v=.tup [s.v,.i 0]/\h.blks.size<=k/\GF EI T.int h' Fp.no s (some k) (zs o)
theorem kbqf{h0:AH}(hS:∀j,S j->j<h0.blks.size){s:Sl}{k:Nat}(hk:h0.blks.size<=k):∀(c:Nat)(l bs:List Nat){h:AH},(c<l.length\/c=0)->l.length<=16384->TapeA h S i bs->GF EI T.int h Fp.no s (some k) (zs l)->Md (λj=>j=i) h0 h->
  Runs (go (.pt ke6 koa [(6,s.v),(8,.func (.func kht) [.p (.new i 0)] []),(9,.i (c:Int))]) h) (ShufP S h0 i (shufF c l bs)):=by
 intro c
 induction c with
 | zero =>
  intro l bs h H hl t V M;rw[kus];refine qbb rfl (qx ⟨t,M,s,k,rfl,hk,V⟩)
 | succ c ih =>
  intro l bs h H hl t V M;have H:c+1<l.length:=by omega
  have I:i≠k:=by have:=hS _ t.2.1;omega
  rw[kus];refine qba (qbz (by omega)) ?_;have hw:IntKind.wrap .i64 (((c+1:Nat):Int)+1)=((c+2:Nat):Int):=by rw[wrap64 (by omega) (by omega)];omega
  have K:IntKind.wrap .i64 (((c+1:Nat):Int)-1)=(c:Int):=by rw[wrap64 (by omega) (by omega)];omega
  rw[hw,K];refine(kbgf t (n:=c+2) (by omega) (by omega)).call λv h1 ⟨e,t1,Q⟩=>?_;subst e;have F:GF EI T.int h1 Fp.no s (some k) (zs l):=V.md Q Dis.no.symm λx y=>by cases y;exactλe=>I e.symm
  unfold smallV;rw[shufF];cases hd:(drawS (c+2) bs).1 with
  | none =>
   refine qy rfl (qy (seen qcr) (qy (seen qcr) (qba rfl (qx ⟨t1,M.trans Q,rfl⟩))))
  | some j =>
   have hj:=ksu (by omega) hd;have U:j<l.length:=by omega
   have zl:=zs_len l;dsimp only;refine qy rfl (qy (seen qcr) (qy (seen qcr) (qbb rfl ?_)));dsimp only[Option.getD_some];obtain⟨r1,e1,e2⟩:=F.sq.int (i:=j) (by omega);obtain⟨r2,e3,e4⟩:=F.sq.int (i:=c+1) (by omega);refine qy e1 (qy e2 (qy e3 (qy e4 ?_)));obtain⟨r3,h3,e5,e6,V3,u3⟩:=F.set (T:=Fp.no) (cs:=[.i (zs l)[j]]) (x:=(zs l)[j]) rfl NotO.no (z:=((c+1:Nat):Int)) (j:=c+1) (kba (by omega));rw[<- F.len]at e5;refine qy e5 (qy e6 ?_);have W:=V3.noI;obtain⟨r4,h4,e7,e8,V4,u4⟩:=W.set (T:=Fp.no) (cs:=[.i (zs l)[c+1]]) (x:=(zs l)[c+1]) rfl NotO.no (z:=(j:Int)) (j:=j) (kba (by rw[qb9];omega));rw[qb9,<- F.len]at e7;refine qy e7 (qy e8 ?_);have G:=V4.noI
   have Z:((zs l).set (c+1) (zs l)[j]).set j (zs l)[c+1]=zs (swapL l (c+1) j):=by rw[<- kbhx H U,List.getElem!_eq_getElem?_getD,List.getElem!_eq_getElem?_getD,qb6 (by omega),qb6 (by omega)];rfl
   rw[Z]at G;have mk:Md (λx=>x=k) h1 h4:=(UpdO.md (T:=λx=>x=k) u3 λx y=>by cases y;rfl).trans (UpdO.md (T:=λx=>x=k) u4 λx y=>by cases y;rfl);refine ih _ _ (by rw[kp0];omega) (by rw[kp0];omega) (t1.md mk λx y he=>?_) G ((M.trans Q).next mk λx y he=>?_)
   ·have:=hS x y;omega
   ·omega
theorem kbi1(t:TapeA h S i bs)(hn:n<=16384):Runs (go (.fn ke6 [.p (.new i 0),.i (n:Int)]) h) (ShufP S h i (shufF (n-1) (List.range n) bs)):=by
 rw[kba9];refine qbb rfl (qbb (qb0 (by omega)) (qbb (qb0 (by omega)) ?_));obtain⟨s,h1,I,G,K⟩:=kbfa (h:=h) (n:=n) (by omega);refine qy I ?_;have Q:=t.1
 have y:∀(d c:Nat),c+d=n->∀{h2:AH},GF EI T.int h2 Fp.no s (some h.blks.size) (zs (List.range c)++List.replicate d 0)->Grow h h2->
   Runs (go (.pt ke6 kn9 [(0,.p (.new i 0)),(1,.i (n:Int)),(6,s.v),(25,.i (n:Int)),(26,.i (c:Int))]) h2) (ShufP S h i (shufF (n-1) (List.range n) bs)):=by
  intro d
  induction d with
  | zero =>
   intro c U h2 V g;obtain rfl:c=n:=by omega
   rw[kzk];refine qbb (qb0 (by omega)) ?_;rw[List.replicate_zero,List.append_nil]at V;rcases Nat.eq_zero_or_pos c with h0 | h0
   ·subst h0;rw[show IntKind.wrap .i64 (((0:Nat):Int)-1)=-1 from by rw[wrap64 (by omega) (by omega)];rfl,kus];exact qbb rfl (qx ⟨t.grow g,g.md _,s,_,rfl,qbr _,V⟩)
   ·rw[show IntKind.wrap .i64 ((c:Int)-1)=((c-1:Nat):Int)from by rw[wrap64 (by omega) (by omega)];omega];exact kbqf Q (qbr _) (c-1) _ _ (by rw[qcn];omega) (by rw[qcn];omega) (t.grow g) V (g.md _)
  | succ d ih =>
   intro c U h2 V g;rw[kzk];refine qba (qbz (by omega)) ?_;have zl:(zs (List.range c)++List.replicate (d+1) (0:Int)).length=n:=by rw[qb2,zs_len,qcn,qca];omega
   obtain⟨r,h3,H,W,Z,u3⟩:=V.set (T:=Fp.no) (cs:=[.i (c:Int)]) (x:=(c:Int)) rfl NotO.no (z:=(c:Int)) (j:=c) (kba (by omega));rw[<- V.len]at H;refine qy H (qy W ?_);rw[ki (by omega)];refine ih (c+1) (by omega) ?_ (g.updr (i:=h.blks.size) (qbr _) u3);have:=Z.noI
   have he:(zs (List.range c)++List.replicate (d+1) (0:Int)).set c (c:Int)=zs (List.range (c+1))++List.replicate d 0:=by
    have F:(zs (List.range c)).length=c:=by rw[zs_len,qcn]
    rw[List.set_append_right _ _ (by omega),F,Nat.sub_self,List.replicate_succ,List.set_cons_zero,List.range_succ,zs_app,List.append_assoc];rfl
   rw[he]at this;exact this
 have F:=G.len;rw[qca]at F;dsimp only;rw[F];exact y n 0 (by omega) G K
end
def Gv.cells(x:Gv):List AV:=[.i (x.f:Int),.i (x.c:Int),.i x.t,.i x.n]
@[reducible] def Ef.gv:Ef Gv where
 w:=4
 pos:=by decide
 has _ _ cs x:=cs=x.cells
 len e:=by rw[e];rfl
 grow _ e:=e
 mono _ e:=e
 upd _ _ e:=e
 bound e:=e
theorem kbda{n:Nat}(h:n<=2000000):growOk Pg n kdr 4=true:=by
 unfold growOk;rw[kbds,k6z];have h1:n*32<=ky:=by simp only[ky];omega
 have h2:n<=ky:=by simp only[ky];omega
 simp[h1,h2]
theorem kbqt{n:Nat}(h:n<=2000000):growOk Pg n T.int 1=true:=by
 unfold growOk;rw[ktl,kpv];have h1:n*8<=ky:=by simp only[ky];omega
 have h2:n<=ky:=by simp only[ky];omega
 simp[h1,h2]
theorem GF.noG{e:TypeId}{h:AH}{S:Fp}{s:Sl}:∀{i:Option Nat}{xs:List Gv},GF Ef.gv e h S s i xs->GF Ef.gv e h Fp.no s i xs
 | .none,_,v=>v
 | .some k,_,⟨l,a,r,ln,rows,y,b,c,r2⟩=>⟨l,qbm,r,ln,rows,y,b,c,r2.imp λ_ _ x=>x⟩
def MaskAt(h:AH)(S:Fp)(i:Nat)(m:Mk):Prop:=S i/\m.given.length<=1048576/\∃(b:Nat)(s:Sl)(j:Option Nat),S b/\b≠i/\h.has i [s.v,.map (some b)] kqs/\MapP h b m.nodes/\GF Ef.gv kdr h Fp.no s j m.given/\∀k,j=some k->S k/\k≠i/\k≠b
theorem MaskAt.md{h h':AH}{S U:Fp}{i:Nat}{m:Mk}(t:MaskAt h S i m)(d:Md U h h')(x:Dis S U):MaskAt h' S i m:=by obtain⟨a,l,b,s,j,c,n,B,M,V,k⟩:=t;exact⟨a,l,b,s,j,c,n,d.has B (x i a),M.md d (x b c),V.md d Dis.no.symm λy z=>x y (k y z).1,k⟩
theorem MaskAt.grow{h h':AH}{S:Fp}{i:Nat}{m:Mk}(t:MaskAt h S i m)(g:Grow h h'):MaskAt h' S i m:=t.md (g.md Fp.no) Dis.no
theorem MaskAt.mono{h:AH}{S U:Fp}{i:Nat}{m:Mk}(t:MaskAt h S i m)(f:∀j,S j->U j):MaskAt h U i m:=by obtain⟨a,l,b,s,j,c,n,B,M,V,k⟩:=t;exact⟨f _ a,l,b,s,j,f _ c,n,B,M,V,λy z=>⟨f _ (k y z).1,(k y z).2⟩⟩
def findF(l:List Gv)(id:Int):Gv×Bool:=if 0<=id/\id<(l.length:Int)then(l.getD id.toNat ⟨0,0,0,0⟩,true)else(⟨0,0,0,0⟩,false)
def cutV(x:Gv):AV:=.agg [.i (x.f:Int),.i (x.c:Int)]
section
variable{h:AH}{S:Fp}{i:Nat}{m:Mk}
theorem kbno:Runs (go (.fn ksh []) h) λv h'=>Grow h h'/\∃i,v=.p (.new i 0)/\MaskAt h' (Fp.nw h.blks.size h'.blks.size) i ⟨[],[]⟩:=by rw[kbad];refine Runs.newP λh1 b1 y=>qz λh2 b2 z=>qx ⟨y.trans z,h1.blks.size,rfl,?_⟩;have H:=b1.lt;have F:=b2.lt;have G:=y.size;exact⟨⟨G,F⟩,Nat.zero_le _,h.blks.size,_,none,⟨qbr _,by omega⟩,by omega,b2,b1.md (z.md Fp.no) qbm,GF.none _ _ _ _,λk e=>by cases e⟩
theorem kbor(t:MaskAt h S i m)(id:Int):Runs (go (.fn kvs [.p (.new i 0),.i id]) h) λv h'=>Grow h h'/\v=.tup [.i (findF m.given id).1.t,.i (findF m.given id).1.n,cutV (findF m.given id).1,.bool (findF m.given id).2]:=by
 obtain⟨a,l,b,s,j,c,n,B,M,V,k⟩:=t;rw[kbb0];refine qz λh1 b1 y=>?_;unfold findF;refine qbc (λH=>?_) λH=>?_
 ·rw[qby]at H;rw[if_neg (by omega)];refine q0 b1 rfl λh2 b2 I=>qct b2 0 rfl (qct b2 1 rfl (qx ⟨y.updr (qbr _) I,rfl⟩))
 rw[qbx]at H;have B1:=y.has B;refine qy rfl (qcs B1 0 rfl ?_);rw[V.len];refine qbc (λK=>?_) λK=>?_
 ·rw[qby]at K;rw[if_neg (by omega)];refine q0 b1 rfl λh2 b2 I=>qct b2 0 rfl (qct b2 1 rfl (qx ⟨y.updr (qbr _) I,rfl⟩))
 rw[qbx]at K;rw[if_pos ⟨by omega,by omega⟩];obtain⟨p,rfl⟩:∃p:Nat,id=p:=⟨id.toNat,by omega⟩;have hp:p<m.given.length:=by omega
 refine qy rfl (qcs B1 0 rfl ?_);obtain⟨r,cs,e1,Q,L⟩:=(V.grow y).sq.at (khc hp);have Q:cs=(m.given[p]).cells:=Q;subst Q;rw[V.len];have F:=qk h1;refine qy e1 (qy (L.rd F 0 rfl qcr) (qy (L.rd F 1 rfl qcr) (qy (L.rd F 2 rfl qcr) (qy (L.rd F 3 rfl qcr) ?_))));refine qz λh2 b2 g2=>q0 b2 rfl λG b3 u3=>?_;have W:h.blks.size≠h1.blks.size:=by have:=b1.lt;omega
 have Z:=(g2.has b1).updr W u3;have i0:∀z,idx (some ((Ref.new h1.blks.size 0).add 2)) 2 0 1=some z->z=Ref.new h1.blks.size 2:=λz hz=>by cases hz;rfl
 refine qy (a:=Ref.new h1.blks.size 2) rfl (qy (show(G.cell (.new h1.blks.size 2)).bind (AV.asInt .i64)=some _ from b3.rd 2 rfl qcr) (qy (a:=Ref.new h1.blks.size 3) rfl (qy (show(G.cell (.new h1.blks.size 3)).bind (AV.asInt .i64)=some _ from b3.rd 3 rfl qcr) ?_)));refine qy (show(G.cell (((Ref.new h1.blks.size 0).add 0).add 0)).bind (AV.asInt .i64)=some _ from b3.rd 0 rfl qcr) (qy (show(G.cell (((Ref.new h1.blks.size 0).add 0).add 1)).bind (AV.asInt .i64)=some _ from b3.rd 1 rfl qcr) ?_);refine q0 Z rfl λh4 b4 u4=>qct b4 0 rfl (qct b4 1 rfl (qx ⟨?_,?_⟩))
 ·have z1:=y.size;exact((y.trans g2).updr z1 u3).updr (qbr _) u4
 ·dsimp only;rw[Int.toNat_natCast,List.getD_eq_getElem?_getD,qb6 hp];rfl
end
section
variable{h0:AH}{S U:Fp}{i it b:Nat}{m:Mk}{bs:List Nat}{t n:Int}
def addG(m:Mk)(t n:Int)(cuts:List (Nat×Nat))(o:List Nat):List Gv:=m.given++o.map λk=>⟨(cuts.getD k (0,0)).1,(cuts.getD k (0,0)).2,t,n⟩
def idsG(m:Mk)(k:Nat):List Int:=(List.range k).map λx=>((m.given.length+x:Nat):Int)
theorem k7c{j0:Option Nat}{cuts:List (Nat×Nat)}{o:List Nat}{sc so:Sl}{bat ko:Nat}(ho:∀x∈o,x<cuts.length)(hz:m.given.length+o.length<=1048576)(ae:b≠i)(hi:i<h0.blks.size)(hb:b<h0.blks.size)(hn:(t,n)∉m.nodes)(af:bat≠i)(an:bat≠b)(ao:ko<h0.blks.size)(ag:bat<h0.blks.size)(ai:ko≠i)(ap:ko≠b)(ah:h0.has bat [.i t,.i n] k40)(O:GF EI T.int h0 Fp.no so (some ko) (zs o))(Q:Sq EP h0 U sc (zc cuts))(hU:∀j,U j->j≠i/\j≠b/\j<h0.blks.size)(M0:MapP h0 b m.nodes)(F:∀k,j0=some k->k≠i/\k≠b/\k≠bat/\k≠ko/\¬U k/\k<h0.blks.size):∀(d c:Nat),c+d=o.length->∀{h:AH}{s si:Sl}{j ji:Option Nat},Md (λx=>x=i\/j0=some x) h0 h->h.has i [s.v,.map (some b)] kqs->GF Ef.gv kdr h Fp.no s j (addG m t n cuts (o.take c))->(j=j0\/LeO h0.blks.size j)->GF EI T.int h Fp.no si ji (idsG m c)->LeO h0.blks.size ji->(∀k,j=some k->ji≠some k)->
  Runs (go (.pt khx kqj [(0,.p (.new i 0)),(4,sc.v),(14,.p (.new bat 0)),(15,so.v),(17,si.v),(60,so.v),(61,.i (o.length:Int)),(62,.i (c:Int))]) h) λv h'=>∃(s si:Sl)(j ji:Option Nat),v=.tup [so.v,si.v,.i 0]/\Md (λx=>x=i\/j0=some x\/x=b) h0 h'/\h'.has i [s.v,.map (some b)] kqs/\GF Ef.gv kdr h' Fp.no s j (addG m t n cuts o)/\(j=j0\/LeO h0.blks.size j)/\GF EI T.int h' Fp.no si ji (idsG m o.length)/\LeO h0.blks.size ji/\MapP h' b (m.nodes++[(t,n)])/\(∀k,j=some k->ji≠some k):=by
 intro d
 induction d with
 | zero =>
  intro c hc h s si j ji K B V G I W ab;obtain rfl:c=o.length:=by omega
  rw[List.take_length]at V;rw[k1w];have H:=K.has ah (λx=>x.elim af λe=>(F _ e).2.2.1 rfl);have M':=M0.md K (λx=>x.elim ae λe=>(F _ e).2.1 rfl);refine qbb (qb0 (by omega)) (qy rfl (qy (B.rd 1 rfl rfl) (qct H 0 rfl (qct H 1 rfl (qy rfl ?_)))));obtain⟨h1,e1,m1,u1⟩:=M'.put hn;refine qy e1 (qx ⟨s,si,j,ji,rfl,(K.mono λx _ y=>y.imp id .inl).next (u1.md (T:=λx=>x=b) rfl) λx _ y=>.inr (.inr y),B.updr (λx=>ae x.symm) u1,V.upd u1 qbm λk e=>?_,G,I.upd u1 qbm λk e=>?_,W,m1,ab⟩)
  ·rcases G with rfl | G
   ·exact(F k e).2.1
   ·subst e;have:h0.blks.size<=k:=G;omega
  ·subst e;have:h0.blks.size<=k:=W;omega
 | succ d ih =>
  intro c hc h s si j ji K B V G I W ab;have ac:c<o.length:=by omega
  have aj:c<(zs o).length:=by rw[zs_len];exact ac
  have H:=K.has ah (λx=>x.elim af λe=>(F _ e).2.2.1 rfl)
  have O':GF EI T.int h Fp.no so (some ko) (zs o):=O.md K Dis.no.symm λx e y=>by
   cases e;exact y.elim ai λe=>(F _ e).2.2.2.1 rfl
  have Q':=Q.md K λx Z y=>y.elim (hU x Z).1 λe=>(F _ e).2.2.2.2.1 Z;obtain⟨r,e1,e2⟩:=O'.sq.int aj;have ak:(zs o)[c]=((o[c]:Nat):Int):=by simp[zs]
  have ad:=ho _ (qb5 ac);rw[k1w];refine qba (qbz (by omega)) (qy e1 (qy e2 (qy rfl (qcs B 0 rfl ?_))));rw[ak,V.len];have aq:=K.size;refine qz λh1 b1 g1=>?_;refine qy (kdk b1 (by rw[kf0];rfl)) ?_;have li:(idsG m c).length=c:=by simp[idsG]
  have lg:(addG m t n cuts (o.take c)).length=m.given.length+c:=by unfold addG;rw[qb2,qb3,qci];omega
  obtain⟨al,h2,e3,I2,u2⟩:=(I.grow g1).push (T:=Fp.no) (cs:=[.i ((addG m t n cuts (o.take c)).length:Int)]) (x:=((addG m t n cuts (o.take c)).length:Int)) rfl NotO.no (kbqt (by rw[li];omega));refine qy e3 (qy qcq ?_);have m2:Md (Fp.opt ji) h1 h2:=u2.md λk e=>e
  have no:∀{x:Nat},x<h0.blks.size->¬Fp.opt ji x:=λZ e=>by have e:ji=some _:=e;subst e;have:h0.blks.size<=_:=W;omega
  have B2:=m2.has (g1.has B) (no hi);have V2:GF Ef.gv kdr h2 Fp.no s j (addG m t n cuts (o.take c)):=(V.grow g1).md m2 Dis.no.symm λk e y=>ab k e y;have aa:=m2.has (g1.has H) (no ag);have Q2:=(Q'.grow g1).md m2 λx Z y=>no (hU x Z).2.2 y;obtain⟨r2,e4,e5,e6⟩:=Q2.two (i:=o[c]) (by rw[zc_len];exact ad)
  have am:(zc cuts)[o[c]]'(by rw[zc_len];exact ad)=(((cuts.getD o[c] (0,0)).1:Int),((cuts.getD o[c] (0,0)).2:Int)):=by simp[zc,List.getD_eq_getElem?_getD,qb6 ad]
  rw[am]at e5 e6;have sl:sc.len=(zc cuts).length:=Q2.len;refine qy rfl (qcs B2 0 rfl (qy e4 (qy e5 (qy e6 (qct aa 0 rfl (qct aa 1 rfl ?_))))));refine qz λh3 b3 g3=>qbd (g3.same B2 0 1) ?_;refine qy (kdk b3 (by rw[k6v];rfl)) ?_;obtain⟨s',h4,e7,V4,u4⟩:=(V2.grow g3).push (T:=Fp.no) (cs:=(⟨(cuts.getD o[c] (0,0)).1,(cuts.getD o[c] (0,0)).2,t,n⟩:Gv).cells) (x:=⟨(cuts.getD o[c] (0,0)).1,(cuts.getD o[c] (0,0)).2,t,n⟩) rfl NotO.no (kbda (by rw[lg];omega));refine qy e7 (qy qcq (qy rfl ?_))
  have jn:∀k,j=some k->k≠i/\k≠b/\k<h3.blks.size:=λk e=>by
   have z:k<h3.blks.size:=by have:=(V2.grow g3).lt;rw[e]at this;exact this
   rcases G with rfl | G
   ·exact⟨(F k e).1,(F k e).2.1,z⟩
   ·rw[e]at G;have:h0.blks.size<=k:=G;exact⟨by omega,by omega,z⟩
  have m4:Md (Fp.opt j) h3 h4:=u4.md λk e=>e;have B4:=m4.has (g3.has B2) (λe=>(jn _ e).1 rfl);refine qbl B4 (cs':=[s'.v,.map (some b)]) (by simp) (by simp) λh5 b5 u5=>?_;rw[ki (by omega)];have z1:=g1.size;have z2:h1.blks.size<=h2.blks.size:=m2.size;have z3:h2.blks.size<=h3.blks.size:=g3.size;have z4:h3.blks.size<=h4.blks.size:=m4.size;have ar:=b1.lt;have au:h2.blks.size<h3.blks.size:=b3.lt;have aw:Grow h0 h1->True:=λ_=>trivial;refine ih (c+1) (by omega) (j:=some h3.blks.size) (ji:=some h1.blks.size) ?_ b5 ?_ (.inr (show h0.blks.size<=h3.blks.size by omega)) ?_ (show h0.blks.size<=h1.blks.size by omega) (λk e e2=>by have e:=Option.some.inj e;have e2:=Option.some.inj e2;omega)
  ·have a1:=((K.thenG g1).next m2 λx Z y=>absurd y (no Z)).thenG g3
   have a2:=a1.next m4 λx Z y=>by
    have y:j=some x:=y;rcases G with rfl | G
    ·exact .inr y
    ·rw[y]at G;have:h0.blks.size<=x:=G;omega
   exact a2.next (u5.md (T:=λx=>x=i) rfl) λx Z y=>.inl y
  ·have e9:addG m t n cuts (o.take (c+1))=addG m t n cuts (o.take c)++[⟨(cuts.getD o[c] (0,0)).1,(cuts.getD o[c] (0,0)).2,t,n⟩]:=by
    unfold addG;rw[qck ac,List.map_append,List.append_assoc];rfl
   rw[e9];exact V4.noG.upd u5 qbm λk e=>by cases e;omega
  ·have e9:idsG m (c+1)=idsG m c++[((addG m t n cuts (o.take c)).length:Int)]:=by
    unfold idsG;rw[List.range_succ,List.map_append,lg];rfl
   rw[e9];have I3:GF EI T.int h3 Fp.no al (some h1.blks.size) (idsG m c++[((addG m t n cuts (o.take c)).length:Int)]):=I2.noI.grow g3
   exact(I3.md m4 Dis.no.symm λk e y=>by
    cases e;have y:j=some h1.blks.size:=y;rcases G with rfl | G
    ·have:=(F _ y).2.2.2.2.2;omega
    ·have:h1.blks.size<h1.blks.size:=by have:=(V.grow g1).lt;rw[y]at this;have h9:j=some h1.blks.size:=y;have q:=V.lt;rw[h9]at q;have q:h1.blks.size<h.blks.size:=q;omega
     omega).upd u5 qbm λk e=>by cases e;omega
end
def IssP(h:AH)(S St:Fp)(i it:Nat)(m:Mk)(r:(Option (List Nat)×Int)×Mk×List Nat)(v:AV)(h':AH):Prop :=
 TapeA h' St it r.2.2/\∃S',MaskAt h' S' i r.2.1/\Md (λj=>S j\/j=it) h h'/\(∀j,S' j->S j\/(h.blks.size<=j/\j<h'.blks.size))/\
  ((r.1.1=none/\r.1.2≠0/\v=.tup [nV,nV,.i r.1.2])\/
   ∃(o:List Nat)(so si:Sl)(ko:Nat)(ji:Option Nat),r.1=(some o,0)/\v=.tup [so.v,si.v,.i 0]/\h.blks.size<=ko/\GF EI T.int h' Fp.no so (some ko) (zs o)/\GF EI T.int h' Fp.no si ji (idsG m o.length)/\LeO h.blks.size ji)
theorem ky8{m:Mk}{bs:List Nat}{t n:Int}{cuts:List (Nat×Nat)}(h:oddI t=true\/oddI n=true\/(t,n)∈m.nodes\/1048576<m.given.length+cuts.length):issueF m bs t n cuts=((none,1),m,bs):=if_pos h
theorem kpu{m:Mk}{bs:List Nat}{t n:Int}{cuts:List (Nat×Nat)}(h:¬(oddI t=true\/oddI n=true\/(t,n)∈m.nodes\/1048576<m.given.length+cuts.length)):issueF m bs t n cuts=(match (shufF (cuts.length-1) (List.range cuts.length) bs).1 with
  | none=>((none,7),m,(shufF (cuts.length-1) (List.range cuts.length) bs).2)
  | some o=>((some o,0),⟨addG m t n cuts o,m.nodes++[(t,n)]⟩,(shufF (cuts.length-1) (List.range cuts.length) bs).2)):=by
 unfold issueF;rw[if_neg h];rfl
theorem k5c(m:Mk)(t n:Int)(cuts:List (Nat×Nat))(o:List Nat):(addG m t n cuts o).length=m.given.length+o.length:=by unfold addG;rw[qb2,qb3]
section
variable{h:AH}{S St U:Fp}{i it:Nat}{m:Mk}{bs:List Nat}
theorem kbm6{cuts:List (Nat×Nat)}{sc:Sl}(Mh:MaskAt h S i m)(ta:TapeA h St it bs)(G:Dis S St)(hS:∀j,S j->j<h.blks.size)(Q:Sq EP h U sc (zc cuts))(hU:∀j,U j->¬S j/\¬St j/\j<h.blks.size)(hc:cuts.length<=1000)(t n:Int) :
  Runs (go (.fn khx [.p (.new i 0),.p (.new it 0),.i t,.i n,sc.v]) h) (IssP h S St i it m (issueF m bs t n cuts)):=by
 have ab:=Mh;obtain⟨a,l,b,s,j,c,nb,B,M,V,k⟩:=Mh;have H:St it:=ta.2.1;rw[k8j];refine qz λh1 b1 g1=>q0 b1 rfl λh2 b2 u2=>?_;have K:Grow h h2:=g1.updr (qbr _) u2
 have odd:∀(x:Int)(h:AH),go (.fn kqg [.i x]) h=some (.bool (oddI x),h):=λx h=>by rw[k8r];unfold oddI;cases decide (x<0)<;>rfl
 have F:(oddI t=true\/oddI n=true\/(t,n)∈m.nodes\/1048576<m.given.length+cuts.length)->Runs (some (AV.tup [nV,nV,.i 1],h2)) (IssP h S St i it m (issueF m bs t n cuts)):=λhh=>by rw[ky8 hh];exact qx ⟨ta.grow K,S,ab.grow K,K.md _,λj x=>.inl x,.inl ⟨rfl,show(1:Int)≠0 by decide,rfl⟩⟩
 refine qy (odd _ _) (qy (seen rfl) (qbc (λk1=>F (.inl k1)) λk1=>?_));refine qy (odd _ _) (qy (seen rfl) (qbc (λk2=>F (.inr (.inl k2))) λk2=>?_));have B2:=K.has B;refine qy rfl (qy (B2.rd 1 rfl rfl) (qct b2 0 rfl (qct b2 1 rfl ?_)));have M2:MapP h2 b m.nodes:=M.md (K.md Fp.no) qbm;refine qy (M2.get t n) ?_
 have hg:((if(t,n)∈m.nodes then some (AV.bool true)else none).getD (.bool false))=.bool (decide ((t,n)∈m.nodes)):=by
  split
  ·rename_i hm;rw[qbz hm];rfl
  ·rename_i hm;rw[qb0 hm];rfl
 rw[hg];refine qy rfl (qbc (λk3=>F (.inr (.inr (.inl (qb1 k3))))) λk3=>?_);refine qy rfl (qcs B2 0 rfl ?_);have ag:sc.len=cuts.length:=by rw[Q.len,zc_len]
 rw[V.len,ag];have hw:IntKind.wrap .i64 ((m.given.length:Int)+(cuts.length:Int))=((m.given.length+cuts.length:Nat):Int):=by rw[wrap64 (by omega) (by omega)];omega
 rw[hw];refine qbc (λk4=>F (.inr (.inr (.inr (by rw[qby]at k4;omega))))) λk4=>?_;rw[qbx]at k3 k4
 have ah:¬(oddI t=true\/oddI n=true\/(t,n)∈m.nodes\/1048576<m.given.length+cuts.length):=λx=>by
  rcases x with x | x | x | x
  ·rw[k1]at x;cases x
  ·rw[k2]at x;cases x
  ·exact k3 x
  ·omega
 rw[kpu ah];refine(kbi1 (ta.grow K) (n:=cuts.length) (by omega)).call λv Z ⟨t3,m3,e3⟩=>?_;have ac:Md (λj=>S j\/j=it) h Z:=(K.md _).trans (m3.mono λx _ y=>.inr y);have ai:MaskAt Z S i m:=(ab.grow K).md m3 λx z y=>by subst y;exact G _ z H
 generalize hr:shufF (cuts.length-1) (List.range cuts.length) bs=r at *
 cases aa:r.1 with
 | none =>
  rw[aa]at e3;dsimp only at e3;subst e3;exact qy rfl (qy (seen qcq) (qy (seen qcr) (qba rfl (qx ⟨t3,S,ai,ac,λj x=>.inl x,.inl ⟨rfl,show(7:Int)≠0 by decide,rfl⟩⟩))))
 | some o =>
  rw[aa]at e3;obtain⟨so,ko,e3,an,O⟩:=e3;subst e3;refine qy rfl (qy (seen qcq) (qy (seen qcr) (qbb rfl ?_)));obtain⟨ol,aj⟩:=k2h (n:=cuts.length) (cuts.length-1) (List.range cuts.length) bs (by rw[qcn];omega) (λx z=>qco.1 z) o (by rw[hr,aa]);rw[qcn]at ol;have z1:h.blks.size<h2.blks.size:=by have:=b2.lt;omega
  have z2:h2.blks.size<=Z.blks.size:=m3.size;have zi:=hS _ a;have zb:=hS _ c;have ao:=ta.lt;have ad:b≠it:=λe=>G _ c (e▸H);have ae:i≠it:=λe=>G _ a (e▸H);have ak:ko<Z.blks.size:=O.lt;have B3:=m3.has B2 ae;have hj:∀x,j=some x->x≠it/\x<h.blks.size/\S x:=λx e=>⟨λe2=>G _ (k x e).1 (e2▸H),hS _ (k x e).1,(k x e).1⟩;have V3:GF Ef.gv kdr Z Fp.no s j m.given:=(V.grow K).md m3 Dis.no.symm λx e y=>(hj x e).1 y;have Q3:=(Q.grow K).md m3 λx z y=>by subst y;exact(hU _ z).2.1 H
  have af:so.len=o.length:=by rw[O.len,zs_len]
  rw[af];have lp:=k7c (h0:=Z) (U:=U) (i:=i) (b:=b) (m:=m) (t:=t) (n:=n) (j0:=j) (cuts:=cuts) (o:=o) (sc:=sc) (so:=so) (bat:=h.blks.size) (ko:=ko) aj (by omega) nb (by omega) (by omega) k3 (by omega) (by omega) ak (by omega) (by omega) (by omega) (m3.has b2 (by omega)) O Q3 (λx z=>⟨λe=>(hU x z).1 (e▸a),λe=>(hU x z).1 (e▸c),by have:=(hU x z).2.2;omega⟩) (M2.md m3 ad) (λx e=>⟨(k x e).2.1,(k x e).2.2,by have:=(hj x e).2.1;omega,by have:=(hj x e).2.1;omega,λz=>(hU x z).1 (hj x e).2.2,by have:=(hj x e).2.1;omega⟩) o.length 0 (by omega) (h:=Z) (s:=s) (si:=⟨none,0,.is 0⟩) (j:=j) (ji:=none) (Md.refl _ _) B3 (by unfold addG;rw[List.take_zero,List.map_nil,List.append_nil];exact V3) (.inl rfl) (GF.none _ _ _ _) trivial (λx _ e=>by cases e);refine lp.imp λv h4 ⟨s4,si,j4,ji,e4,m4,B4,V4,W,I4,al,M4,ap⟩=>?_;subst e4;have z4:=m4.size
  have I:∀x,(x=i\/j=some x\/x=b)->S x:=λx y=>by
   rcases y with rfl | y | rfl
   ·exact a
   ·exact(hj x y).2.2
   ·exact c
  refine⟨t3.md m4 λx z y=>G x (I x y) z,λx=>S x\/(h.blks.size<=x/\x<h4.blks.size),?_,ac.trans (m4.mono λx _ y=>.inl (I x y)),λx z=>z,.inr ⟨o,so,si,ko,ji,rfl,rfl,by omega,?_,I4,LeO.trans (by omega) al⟩⟩
  ·refine⟨.inl a,?_,b,s4,j4,.inl c,nb,B4,M4,V4,λx e=>?_⟩
   ·show(addG m t n cuts o).length<=_;rw[k5c];omega
   ·have am:x<h4.blks.size:=by have:=V4.lt;rw[e]at this;exact this
    rcases W with rfl | W
    ·exact⟨.inl (k x e).1,(k x e).2⟩
    ·rw[e]at W;have:Z.blks.size<=x:=W;exact⟨.inr ⟨by omega,am⟩,by omega,by omega⟩
  ·refine O.md m4 Dis.no.symm λx e y=>?_;cases e;have:=hS _ (I _ y);omega
end
structure Pt where
 ses:Ses
 msk:Mk
 bytes:List Nat
 key:List Nat
 trees:Int
 tree:Int
 hidden:List (List Nat)
 result:Int
structure PtL where
 bs:Nat
 bm:Nat
 bt:Nat
 s1:Sl
 s2:Sl
 s3:Sl
 ks:Sl
 hs:Sl
 us:Sl
 nm:Option Nat
def col(C:Nat->Nat)(k:Nat):Fp:=λj=>C j=k
def PtL.box(L:PtL)(p:Pt):List AV:=[.p (.new L.bs 0),.p (.new L.bm 0),L.s1.v,L.s2.v,L.s3.v,.p (.new L.bt 0),L.ks.v,.i p.trees,.i p.tree,L.hs.v,.map L.nm,.i p.result,L.us.v]
structure PtIn(h:AH)(C:Nat->Nat)(bp:Nat)(q:Int×Int×Int)(L:PtL)(t:Tb)(p:Pt):Prop where
 lt:∀j,C j≠0->j<h.blks.size
 cbp:C bp=1
 box:h.has bp (L.box p) kpj
 ses:SesAt h (col C 2) L.bs q p.ses
 mask:MaskAt h (col C 3) L.bm p.msk
 tape:TapeA h (col C 4) L.bt p.bytes
 key:Nats h L.ks p.key
 keyAv:∀j,¬Av L.ks j p.key->C j=5
 hid:Sq Ef.nats h (col C 6) L.hs p.hidden
 nodes:∀m,L.nm=some m->C m=7/\∃l,MapIs h m l
 tab:TabAt h (col C 8) L.s1 L.s2 L.s3 t
 pq:PQ q
 right:tabR t=true
 live:0<=p.tree->L.nm≠none
 low:-1<=p.tree/\p.tree<=16/\p.trees<=16
def Rc(C:Nat->Nat)(a b k:Nat):Nat->Nat:=λj=>if j<a then C j else if j<b then k else 0
theorem Rc.old{C:Nat->Nat}{a b k j:Nat}(h:j<a):Rc C a b k j=C j:=if_pos h
theorem Rc.new{C:Nat->Nat}{a b k j:Nat}(h1:a<=j)(h2:j<b):Rc C a b k j=k:=by unfold Rc;rw[if_neg (by omega),if_pos h2]
theorem Rc.lt{C:Nat->Nat}{a b k j:Nat}(y:a<=b)(h:Rc C a b k j≠0):j<b:=by
 unfold Rc at h;split at h
 ·omega
 ·split at h
  ·assumption
  ·exact absurd rfl h
theorem TapeA.mono{h:AH}{S U:Fp}{i:Nat}{bs:List Nat}(t:TapeA h S i bs)(f:∀j,S j->U j)(g:∀j,U j->j<h.blks.size):TapeA h U i bs:=by obtain⟨z,a,l,s,b,n⟩:=t;exact⟨g,f _ a,l,s,b,n.mono λj x=>⟨f _ x.1,x.2⟩⟩
theorem TabAt.mono{h:AH}{S U:Fp}{s1 s2 s3:Sl}{t:Tb}(n:TabAt h S s1 s2 s3 t)(f:∀j,S j->U j):TabAt h U s1 s2 s3 t:=⟨n.ids.mono f,n.bins.mono f,n.cols.mono f⟩
section
variable{h h':AH}{C:Nat->Nat}{bp:Nat}{q:Int×Int×Int}{L:PtL}{t:Tb}{p:Pt}
theorem PtIn.parts(P:PtIn h C bp q L t p){K:Nat->Prop}{k:Nat}(hk:K k)(h0:∀c,K c->c≠0)(m:Md (λj=>K (C j)) h h') :
  (∀j,Rc C h.blks.size h'.blks.size k j≠0->j<h'.blks.size)/\Rc C h.blks.size h'.blks.size k bp=1/\(¬K 1->h'.has bp (L.box p) kpj)/\(¬K 2->SesAt h' (col (Rc C h.blks.size h'.blks.size k) 2) L.bs q p.ses)/\(¬K 3->MaskAt h' (col (Rc C h.blks.size h'.blks.size k) 3) L.bm p.msk)/\
  (¬K 4->TapeA h' (col (Rc C h.blks.size h'.blks.size k) 4) L.bt p.bytes)/\(¬K 5->Nats h' L.ks p.key/\∀j,¬Av L.ks j p.key->Rc C h.blks.size h'.blks.size k j=5)/\(¬K 6->Sq Ef.nats h' (col (Rc C h.blks.size h'.blks.size k) 6) L.hs p.hidden)/\(¬K 7->∀m,L.nm=some m->Rc C h.blks.size h'.blks.size k m=7/\∃l,MapIs h' m l)/\
  (¬K 8->TabAt h' (col (Rc C h.blks.size h'.blks.size k) 8) L.s1 L.s2 L.s3 t)/\∀c j,c≠0->C j=c->Rc C h.blks.size h'.blks.size k j=c:=by
 have H:=m.size
 have up:∀c j,c≠0->C j=c->Rc C h.blks.size h'.blks.size k j=c:=λc j G e=>by have:j<h.blks.size:=P.lt j (by rw[e];exact G);rw[Rc.old this,e]
 have y:∀c,¬K c->Dis (col C c) (λj=>K (C j)):=λc G j a b=>G (by rw[<- show C j=c from a];exact b);have F:∀j,Rc C h.blks.size h'.blks.size k j≠0->j<h'.blks.size:=λj I=>Rc.lt H I;refine⟨F,up 1 _ (by decide) P.cbp,λz=>?_,λz=>?_,λz=>?_,λz=>?_,λz=>?_,λz=>?_,λz x e=>?_,λz=>?_,up⟩
 ·exact m.has P.box (y 1 z _ P.cbp)
 ·exact(P.ses.md m (y 2 z)).mono λj x=>up 2 j (by decide) x
 ·exact(P.mask.md m (y 3 z)).mono λj x=>up 3 j (by decide) x
 ·exact(P.tape.md m (y 4 z)).mono (λj x=>up 4 j (by decide) x) λj x=>F j (by rw[show Rc C h.blks.size h'.blks.size k j=4 from x];decide)
 ·exact⟨P.key.mdE (S:=col C 5) P.keyAv m (y 5 z),λj x=>up 5 j (by decide) (P.keyAv j x)⟩
 ·exact(P.hid.md m (y 6 z)).mono λj x=>up 6 j (by decide) x
 ·obtain⟨a,l,b⟩:=P.nodes x e;exact⟨up 7 x (by decide) a,l,b.md m (y 7 z x a)⟩
 ·exact(P.tab.md m (y 8 z)).mono λj x=>up 8 j (by decide) x
theorem PtIn.md(P:PtIn h C bp q L t p){U:Fp}(m:Md U h h')(d:∀j,U j->C j=0):PtIn h' C bp q L t p:=by have y:∀c,c≠0->Dis (col C c) U:=λc z j a b=>z (by rw[<- show C j=c from a];exact d j b);exact{lt:=λj x=>qbt (P.lt j x) m.size,cbp:=P.cbp,box:=m.has P.box (y 1 (by decide) _ P.cbp),ses:=P.ses.md m (y 2 (by decide)),mask:=P.mask.md m (y 3 (by decide)),tape:=P.tape.md m (y 4 (by decide)),key:=P.key.mdE (S:=col C 5) P.keyAv m (y 5 (by decide)),keyAv:=P.keyAv,hid:=P.hid.md m (y 6 (by decide)),nodes:=λx e=>⟨(P.nodes x e).1,(P.nodes x e).2.elim λl b=>⟨l,b.md m (y 7 (by decide) x (P.nodes x e).1)⟩⟩,tab:=P.tab.md m (y 8 (by decide)),pq:=P.pq,right:=P.right,live:=P.live,low:=P.low}
theorem PtIn.grow(P:PtIn h C bp q L t p)(g:Grow h h'):PtIn h' C bp q L t p:=P.md (g.md Fp.no) λ_ x=>x.elim
theorem PtIn.setSes(P:PtIn h C bp q L t p){S':Fp}{σ:Ses}(s:SesAt h' S' L.bs q σ)(c:Chg (col C 2) S' h h'):PtIn h' (Rc C h.blks.size h'.blks.size 2) bp q L t {p with ses:=σ}:=by obtain⟨a1,a2,a3,a4,a5,a6,a7,a8,a9,a10,a11⟩:=P.parts (K:=λc=>c=2) (k:=2) rfl (by intro c e;omega) (c.md.mono λj _ x=>x);exact{lt:=a1,cbp:=a2,box:=a3 (by decide),ses:=s.mono λj x=>(c.sub j x).elim (λy=>a11 2 j (by decide) y) λy=>Rc.new y.1 y.2,mask:=a5 (by decide),tape:=a6 (by decide),key:=(a7 (by decide)).1,keyAv:=(a7 (by decide)).2,hid:=a8 (by decide),nodes:=a9 (by decide),tab:=a10 (by decide),pq:=P.pq,right:=P.right,live:=P.live,low:=P.low}
def PtTo(h:AH)(C:Nat->Nat)(bp:Nat)(q:Int×Int×Int)(t:Tb)(h':AH)(p:Pt):Prop:=∃y z,PtIn h' y bp q z t p/\Md (λj=>C j≠0) h h'/\∀j,j<h.blks.size->y j=C j
theorem PtTo.refl(P:PtIn h C bp q L t p):PtTo h C bp q t h p:=⟨C,L,P,Md.refl _ _,λ_ _=>rfl⟩
theorem PtTo.grow(P:PtIn h C bp q L t p)(g:Grow h h'):PtTo h C bp q t h' p:=⟨C,L,P.grow g,g.md _,λ_ _=>rfl⟩
theorem PtTo.ses(P:PtIn h C bp q L t p){S':Fp}{σ:Ses}(s:SesAt h' S' L.bs q σ)(c:Chg (col C 2) S' h h'):PtTo h C bp q t h' {p with ses:=σ}:=⟨_,L,P.setSes s c,c.md.mono λj _ x=>by rw[show C j=2 from x];decide,λj x=>Rc.old x⟩
theorem PtTo.next{h1:AH}{p2:Pt}{z:Nat->Nat}(m:Md (λj=>C j≠0) h h1)(e:∀j,j<h.blks.size->z j=C j)(b:PtTo h1 z bp q t h' p2):PtTo h C bp q t h' p2:=by obtain⟨F,G,H,I,K⟩:=b;exact⟨F,G,H,m.next I λj y x=>by rwa[e j y]at x,λj y=>(K j (qbt y m.size)).trans (e j y)⟩
theorem kbm8(P:PtIn h C bp q L t p)(id:Int):Runs (go (.fn ktw [.p (.new bp 0),.i id]) h) λv h'=>Grow h h'/\v=.tup [cutV (findF p.msk.given id).1,.bool (findF p.msk.given id).2]:=by
 rw[kbco];refine qz λh1 b1 y=>qy rfl (qy ((y.has P.box).rd 1 rfl rfl) ?_);refine(kbor (P.mask.grow y) id).call λv h2 ⟨z,e⟩=>?_;subst e;refine qy rfl (qy (seen qcr) (qy (seen qcr) (qy rfl (qba rfl (qy rfl (qy rfl (qy (seen rfl) ?_)))))));refine qz λV b3 I=>q0 b3 rfl λW b4 K=>qct b4 0 rfl (qct b4 1 rfl ?_);have Z:=b1.lt;have z2:=z.size;have z0:=y.size;have F:h.blks.size≠h2.blks.size:=by omega
 have G:=(I.has (z.has b1)).updr F K;have H:h.blks.size<=h2.blks.size:=by omega
 refine q0 G rfl λh5 Q U=>qct Q 0 rfl (qct Q 1 rfl (qx ⟨?_,rfl⟩));exact(((y.trans z).trans I).updr H K).updr (qbr _) U
theorem k5l(P:PtIn h C bp q L t p):go (.fn kpa [.p (.new bp 0)]) h=some (.bool (decide (p.ses.phase=0)),h):=by rw[kbo9,qbv,P.box.rd (f:=AV.asPtr) 0 rfl rfl,qbv,kbht P.ses];rfl
end
end Go.Ab
set_option maxRecDepth 10000
namespace Go.Ab
open Go.Proofs Go.Num
open Classical in
noncomputable def newC(Stp St y z:Fp)(bp:Nat):Nat->Nat:=λj=>if Stp j then 4 else if St j then 8 else if j=bp then 1 else if y j then 2 else if z j then 3 else 0
theorem kzf{Stp St y z:Fp}{bp j:Nat}(h:newC Stp St y z bp j≠0):Stp j\/St j\/j=bp\/y j\/z j:=by
 unfold newC at h;split at h
 ·exact .inl (by assumption)
 split at h
 ·exact .inr (.inl (by assumption))
 split at h
 ·exact .inr (.inr (.inl (by assumption)))
 split at h
 ·exact .inr (.inr (.inr (.inl (by assumption))))
 split at h
 ·exact .inr (.inr (.inr (.inr (by assumption))))
 ·exact absurd rfl h
open Classical in
noncomputable def partE(a b c:Int)(t:Tb):Int:=if¬(2<=b/\b<=16/\0<=a/\a<b/\1<=c/\c<=1073741824)\/a=0 then 1 else if tabR t=false then 20 else 0
theorem kbmg:awaitF ⟨0,0,0,none⟩ [1]=(⟨0,0,0,some (0,[1])⟩,0):=by simp[awaitF,oddK]
section
variable{h:AH}{St Stp:Fp}{s1 s2 s3:Sl}{t:Tb}{it:Nat}{bs:List Nat}
theorem kyz(Tq:TabAt h St s1 s2 s3 t)(ta:TapeA h Stp it bs)(aa:Dis St Stp)(Q:∀j,St j->j<h.blks.size)(a b c:Int):Runs (go (.fn kli [.i a,.i b,.i c,.agg [s1.v,s2.v,s3.v],.p (.new it 0)]) h) λv h'=>Grow h h'/\
  ((partE a b c t≠0/\v=.tup [.ptr none,.i (partE a b c t)])\/partE a b c t=0/\∃bp C L,v=.tup [.p (.new bp 0),.i 0]/\PtIn h' C bp (a,b,c) L t ⟨⟨0,0,0,some (0,[1])⟩,⟨[],[]⟩,bs,[],0,-1,[],0⟩/\∀j,C j≠0->Stp j\/St j\/h.blks.size<=j):=by
 have U:=ta.1;rw[k35];refine qz λh1 b1 g1=>?_
 have G:∀{h2:AH}(e:Int),partE a b c t=e->e≠0->Grow h h2->Runs (some (AV.tup [.ptr none,.i e],h2)) λv h'=>Grow h h'/\
  ((partE a b c t≠0/\v=.tup [.ptr none,.i (partE a b c t)])\/partE a b c t=0/\∃bp C L,v=.tup [.p (.new bp 0),.i 0]/\PtIn h' C bp (a,b,c) L t ⟨⟨0,0,0,some (0,[1])⟩,⟨[],[]⟩,bs,[],0,-1,[],0⟩/\∀j,C j≠0->Stp j\/St j\/h.blks.size<=j):=λe hq he g=>by
  subst hq;exact qx ⟨g,.inl ⟨he,rfl⟩⟩
 refine k56.call λv h2 ⟨g2,e2⟩=>?_;have V:=g1.trans g2;rcases e2 with⟨rfl,hq⟩ | ⟨hq,ab,rfl,se⟩
 ·exact qy rfl (qy (seen rfl) (qy (seen qcr) (qba rfl (G 1 (if_pos (.inl hq)) (by decide) V))))
 refine qy rfl (qy (seen rfl) (qy (seen qcr) (qbb rfl (qbc (λk=>G 1 (if_pos (.inr (qb1 k))) (by decide) V) λk=>?_))));rw[qbx]at k;refine qbb rfl ?_;have B2:=g2.has b1;refine qcs B2 0 rfl (qcs B2 1 rfl (qcs B2 2 rfl ?_));refine(ksa (Tq.grow V)).call λv W ⟨e,Z⟩=>?_;subst e;have G3:=V.trans Z;refine qy (seen rfl) (qbc (λK=>G 20 (by rw[qcl]at K;unfold partE;rw[if_neg (λx=>x.elim (λy=>y hq) k),if_pos K]) (by decide) G3) λK=>?_);rw[qcm]at K
 have ac:partE a b c t=0:=by unfold partE;rw[if_neg (λx=>x.elim (λy=>y hq) k),if_neg (by rw[K];simp)]
 refine qz λh4 b4 g4=>?_;have lit:Sq EI h4 (Fp.or (λj=>j=W.blks.size) Fp.no) ⟨some (.new W.blks.size 0),1,.is 1⟩ [1]:=Sq.lit (rows:=[[.i 1]]) b4 (.cons rfl .nil) rfl;have pq:PQ (a,b,c):=⟨k,by show 0<b;omega⟩;have z1:h.blks.size<h1.blks.size:=b1.lt;have z2:h1.blks.size<=h2.blks.size:=g2.size;have z3:h2.blks.size<=W.blks.size:=Z.size;have z4:W.blks.size<=h4.blks.size:=g4.size;refine(kyk (se.grow (Z.trans g4)) pq lit (by decide) (λj x=>by have x:h1.blks.size<=j/\j<h2.blks.size:=x;omega)).call λv F ⟨e,H,s5,c5⟩=>?_;subst e;rw[kbmg]at s5;dsimp only at s5;have z5:h4.blks.size<=F.blks.size:=c5.md.size;have B5:=c5.md.has (g4.has (Z.has B2)) (λx=>by have x:h1.blks.size<=h.blks.size/\_:=x;omega);refine qy (seen qcr) (qcs B5 0 rfl (qcs B5 1 rfl (qcs B5 2 rfl ?_)));refine kbno.call λv z ⟨g6,im,e,M6⟩=>?_;subst e;have z6:F.blks.size<=z.blks.size:=g6.size;refine qy (seen rfl) (qbd (g6.same B5 0 3) ?_);refine qz λh7 b7 g7=>?_;have z7:z.blks.size<h7.blks.size:=b7.lt;have G5:Grow h F:=((G3.trans g4).thenM c5.md).grow λj hj x=>by have x:h1.blks.size<=j/\_:=x;omega
 have G7:=(G5.trans g6).trans g7
 have I:∀j,H j->h1.blks.size<=j/\j<F.blks.size:=λj x=>by
  rcases c5.sub j x with y | y
  ·have y:h1.blks.size<=j/\j<h2.blks.size:=y;omega
  ·omega
 have c4:∀j,Stp j->newC Stp St H (Fp.nw F.blks.size z.blks.size) z.blks.size j=4:=λj x=>if_pos x
 have c8:∀j,St j->newC Stp St H (Fp.nw F.blks.size z.blks.size) z.blks.size j=8:=λj x=>by unfold newC;rw[if_neg (λy=>aa j x y),if_pos x]
 have nn:∀j,h.blks.size<=j->¬Stp j/\¬St j:=λj hj=>⟨λx=>by have:=U j x;omega,λx=>by have:=Q j x;omega⟩
 have c1:newC Stp St H (Fp.nw F.blks.size z.blks.size) z.blks.size z.blks.size=1:=by obtain⟨n1,n2⟩:=nn z.blks.size (by omega);unfold newC;rw[if_neg n1,if_neg n2,if_pos rfl]
 have c2:∀j,H j->newC Stp St H (Fp.nw F.blks.size z.blks.size) z.blks.size j=2:=λj x=>by have:=I j x;obtain⟨n1,n2⟩:=nn j (by omega);unfold newC;rw[if_neg n1,if_neg n2,if_neg (by omega),if_pos x]
 have c3:∀j,Fp.nw F.blks.size z.blks.size j->newC Stp St H (Fp.nw F.blks.size z.blks.size) z.blks.size j=3:=λj x=>by have y:F.blks.size<=j/\j<z.blks.size:=x;obtain⟨n1,n2⟩:=nn j (by omega);unfold newC;rw[if_neg n1,if_neg n2,if_neg (by omega),if_neg (λw=>by have:=I j w;omega),if_pos x]
 have lt:∀j,newC Stp St H (Fp.nw F.blks.size z.blks.size) z.blks.size j≠0->j<h7.blks.size:=λj x=>by
  rcases kzf x with y | y | y | y | y
  ·have:=U j y;omega
  ·have:=Q j y;omega
  ·omega
  ·have:=I j y;omega
  ·have y:F.blks.size<=j/\j<z.blks.size:=y;omega
 refine qx ⟨G7,.inr ⟨ac,z.blks.size,newC Stp St H (Fp.nw F.blks.size z.blks.size) z.blks.size,⟨ab,im,it,s1,s2,s3,⟨none,0,.is 0⟩,⟨none,0,.is 0⟩,⟨none,0,.is 0⟩,none⟩,rfl,?_,?_⟩⟩
 ·exact{lt:=lt,cbp:=c1,box:=b7,ses:=(s5.grow (g6.trans g7)).mono c2,mask:=(M6.grow g7).mono c3,tape:=(ta.grow G7).mono c4 (λj x=>lt j (by rw[show _=4 from x];decide)),key:=qu _,keyAv:=λj x=>absurd (Av.nil _ _) x,hid:=qbn _ _ _,nodes:=λm e=>(by cases e),tab:=(Tq.grow G7).mono c8,pq:=pq,right:=K,live:=λx=>absurd x (show¬(0:Int)<=-1 by decide),low:=⟨show(-1:Int)<=-1 by decide,show(-1:Int)<=16 by decide,show(0:Int)<=16 by decide⟩}
 ·intro j x;rcases kzf x with y | y | y | y | y
  ·exact .inl y
  ·exact .inr (.inl y)
  ·exact .inr (.inr (by omega))
  ·exact .inr (.inr (by have:=I j y;omega))
  ·have y:F.blks.size<=j/\j<z.blks.size:=y;exact .inr (.inr (by omega))
theorem k9w(I:TabAt h St s1 s2 s3 t)(a b c:Int):Runs (go (.fn kli [.i a,.i b,.i c,.agg [s1.v,s2.v,s3.v],.ptr none]) h) λv h'=>Grow h h'/\v=.tup [.ptr none,.i 1]:=by
 rw[k35];refine qz λh1 b1 z=>?_;refine k56.call λv h2 ⟨F,G⟩=>?_;have y:=z.trans F;rcases G with⟨rfl,hq⟩ | ⟨hq,H,rfl,K⟩
 ·exact qy rfl (qy (seen rfl) (qy (seen qcr) (qba rfl (qx ⟨y,rfl⟩))))
 ·exact qy rfl (qy (seen rfl) (qy (seen qcr) (qbb rfl (qbc (λk=>qx ⟨y,rfl⟩) λk=>qba rfl (qx ⟨y,rfl⟩)))))
end
end Go.Ab
