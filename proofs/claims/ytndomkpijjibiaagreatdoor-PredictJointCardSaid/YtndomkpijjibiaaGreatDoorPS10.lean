/- Words and laws that the last text joins. -/
import Derived.Test.YtndomkpijjibiaaGreatDoorPU1b
import Derived.Test.YtndomkpijjibiaaGreatDoorPAbsS
set_option linter.unusedVariables false
set_option linter.unusedSimpArgs false
set_option linter.unusedSectionVars false
set_option maxRecDepth 10000
namespace Go.Ab
open Go.Proofs Go.Num
theorem kz1(x y c:Int):prim "math/bits.Sub64" [.int .u64 x,.int .u64 y,.int .u64 c]=cond (decide (0≤x∧0≤y∧y<18446744073709551616∧0≤c∧c≤1)) (some (AV.tup [.int .u64 ((x-y-c)%18446744073709551616),.int .u64 (cond (decide (x<y+c)) 1 0)])) none:=by
 unfold prim;have s1:("math/bits.Sub64" == "math/bits.Add64")=false:=by decide +kernel
 rw[s1];rfl
theorem k0t{x y c:Nat}(hx:x<B)(hy:y<B)(hc:c≤1):∃z w:Nat,prim "math/bits.Sub64" [u64 x,u64 y,u64 c]=some (.tup [u64 z,u64 w])∧z<B∧w≤1∧z+y+c=x+B*w:=by
 have hx:x<18446744073709551616:=hx;have hy:y<18446744073709551616:=hy;have e:prim "math/bits.Sub64" [u64 x,u64 y,u64 c]=cond (decide (0≤(x:Int)∧0≤(y:Int)∧(y:Int)<18446744073709551616∧0≤(c:Int)∧(c:Int)≤1)) (some (AV.tup [.int .u64 (((x:Int)-y-c)%18446744073709551616),.int .u64 (cond (decide ((x:Int)<y+c)) 1 0)])) none:=kz1 _ _ _;rw[e,show decide (0≤(x:Int)∧0≤(y:Int)∧(y:Int)<18446744073709551616∧0≤(c:Int)∧(c:Int)≤1)=true from by rw[decide_eq_true_eq];omega,cond_true];obtain⟨z,hz⟩:∃z:Nat,((x:Int)-y-c)%18446744073709551616=(z:Int):=⟨_,(Int.toNat_of_nonneg (Int.emod_nonneg _ (by decide))).symm⟩;rw[hz];by_cases h:x<y+c
 ·rw[show decide ((x:Int)<y+c)=true from by rw[decide_eq_true_eq];omega];have k1:z<18446744073709551616:=by omega
  have k2:z+y+c=x+18446744073709551616*1:=by omega
  exact⟨z,1,rfl,k1,by omega,k2⟩
 ·rw[show decide ((x:Int)<y+c)=false from by rw[decide_eq_false_iff_not];omega];have k1:z<18446744073709551616:=by omega
  have k2:z+y+c=x+18446744073709551616*0:=by omega
  exact⟨z,0,rfl,k1,by omega,k2⟩
theorem k1d{b p c x y z w zs ys xs:Nat}(inv:zs+ys=xs+p*c)(heq:z+y+c=x+b*w):zs+p*z+(ys+p*y)=xs+p*x+p*b*w:=by
 have:=congrArg (fun q=>p*q) heq;simp only[Nat.mul_add]at this;rw[Nat.mul_assoc];omega
theorem ktm{h:AH}{s t:Sl}{xs ys:List Nat}(n:Nats h s xs)(m:Nats h t ys)(hl:ys.length≤xs.length)(hs:xs.length<4611686018427387904){j:Nat}(hj:h.blks.size≤j) :
  ∀(k i:Nat),i+k=xs.length→∀{hi:AH}{zs:List Nat}{c:Nat},Grow h hi→hi.has j (zs.map u64) kj→zs.length=xs.length→(∀z∈zs,z<18446744073709551616)→c≤1→
   num B (zs.take i)+num B (ys.take i)=num B (xs.take i)+B^i*c→
   ∃(h':AH)(zs':List Nat)(c':Nat),go (.pt kcp kh1 [(0,s.v),(1,t.v),(5,Sl.v ⟨some (.new j 0),xs.length,.is xs.length⟩),(6,u64 c),(13,.int .i64 (xs.length:Int)),(14,.int .i64 (i:Int))]) hi =
    some (Sl.v ⟨some (.new j 0),xs.length,.is xs.length⟩,h')∧Grow h h'∧h'.has j (zs'.map u64) kj∧zs'.length=xs.length∧(∀z∈zs',z<18446744073709551616)∧num B zs'+num B ys=num B xs+B^xs.length*c'
 | 0,i,hik,hi,zs,c,g,b,hz,hlt,hc,inv=>by
  rw[kxn,show decide ((i:Int)<(xs.length:Int))=false from by rw[decide_eq_false_iff_not];omega,cond_false];have:i=xs.length:=by omega
  subst this;rw[List.take_of_length_le (by omega),List.take_of_length_le hl,List.take_length]at inv;exact⟨hi,zs,c,rfl,g,b,hz,hlt,inv⟩
 | k+1,i,hik,hi,zs,c,g,b,hz,hlt,hc,inv=>by
  have n':=n.grow g;have m':=m.grow g;obtain⟨r,e1,e2⟩:=n'.at (i:=i) (by omega);have hx:xs.getD i 0<B:=kla n.lt i;have hy:ys.getD i 0<B:=kla m.lt i;obtain⟨z,w,pa,hzB,hw,heq⟩:=k0t hx hy hc
  have next:∃(h':AH)(zs':List Nat)(c':Nat),go (.pt kcp kh1 [(0,s.v),(1,t.v),(5,Sl.v ⟨some (.new j 0),xs.length,.is xs.length⟩),(6,u64 w),(13,.int .i64 (xs.length:Int)),(14,.int .i64 ((i+1:Nat):Int))]) (hi.upd j ((zs.set i z).map u64) kj) =
    some (Sl.v ⟨some (.new j 0),xs.length,.is xs.length⟩,h')∧Grow h h'∧h'.has j (zs'.map u64) kj∧zs'.length=xs.length∧(∀z∈zs',z<18446744073709551616)∧num B zs'+num B ys=num B xs+B^xs.length*c':=by
   refine ktm n m hl hs hj k (i+1) (by omega) (g.upd hj _ _) (AH.has_upd b _ _) (by simpa using hz) (fun y hym=>?_) hw ?_
   ·rcases List.mem_or_eq_of_mem_set hym with h1 | rfl
    ·exact hlt y h1
    ·exact hzB
   ·rw[kqo B zs _ (by omega),kj1 B xs i,kj1 B ys i,Nat.pow_succ];exact k1d inv heq
  rw[kxn,show decide ((i:Int)<(xs.length:Int))=true from by rw[decide_eq_true_eq];omega,cond_true,m.len,kf (by omega)];generalize prim "math/bits.Sub64" = f at pa⊢
  have put:idx (some (.new j 0)) xs.length (i:Int) 1=some (.new j i):=by
   rw[kd8 _ _ _ _ (by omega) (by omega)];simp
  by_cases hi2:i<ys.length
  ·obtain⟨q,e3,e4⟩:=m'.at (i:=i) hi2;rw[show decide ((i:Int)<(ys.length:Int))=true from by rw[decide_eq_true_eq];omega,cond_true];rw[← m.len,e3,e1];rw[Option.bind_some,e4,Option.bind_some,kc,Option.bind_some,Option.bind_some,e2,Option.bind_some,kc,Option.bind_some];have ex:((xs[i]:Nat):Int)=((xs.getD i 0:Nat):Int):=by rw[kci (by omega)]
   have ey:((ys[i]:Nat):Int)=((ys.getD i 0:Nat):Int):=by rw[kci hi2]
   rw[ex,ey];simp only[u64]at pa⊢;rw[pa];simp only[Option.map_some,Option.bind_some,khq,kc,put];rw[show hi.puts (.new j i) [AV.int .u64 ((z:Nat):Int)]=_ from kiz b _ (by omega)];exact next
  ·have hy0:ys.getD i 0=0:=by simp[List.getD,List.getElem?_eq_none (show ys.length≤i by omega)]
   rw[show decide ((i:Int)<(ys.length:Int))=false from by rw[decide_eq_false_iff_not];omega,cond_false,e1];simp only[Option.bind_some,e2,kc];have ex:((xs[i]:Nat):Int)=((xs.getD i 0:Nat):Int):=by rw[kci (by omega)]
   rw[ex];simp only[u64]at pa⊢;rw[hy0]at pa;rw[show(AV.int .u64 0)=AV.int .u64 ((0:Nat):Int)from rfl,pa];simp only[Option.map_some,Option.bind_some,khq,kc,put];rw[show hi.puts (.new j i) [AV.int .u64 ((z:Nat):Int)]=_ from kiz b _ (by omega)];exact next
theorem kl1{h:AH}{s t:Sl}{xs ys:List Nat}(n:Nats h s xs)(m:Nats h t ys)(hx:xs.length≤1073741824)(hl:ys.length≤xs.length)(hle:num B ys≤num B xs) :
  ∃(s':Sl)(h':AH)(zs:List Nat),go (.fn kcp [s.v,t.v]) h=some (s'.v,h')∧Nats h' s' zs∧Grow h h'∧Own h s'∧num B zs=num B xs-num B ys∧zs.length=xs.length:=by
 rw[k83,n.len,kve rfl (by omega)];simp only[Option.bind_some];have g0:=Grow.push h (.cells ((List.replicate xs.length 0).map u64) kj);have b0:=AH.has_push h ((List.replicate xs.length 0).map u64) kj;obtain⟨h',zs,c,e1,g1,b1,l1,lt1,v1⟩:=ktm n m hl (by omega) (Nat.le_refl h.blks.size) xs.length 0 (by omega) (c:=0) g0 b0 (by simp) (by simp) (by omega) (by simp[num]);have hb:=num_lt (b:=B) (by decide) lt1;rw[l1]at hb
 have c0:c=0:=by
  rcases Nat.eq_zero_or_pos c with h0 | h0
  ·exact h0
  ·have:B^xs.length*1≤B^xs.length*c:=Nat.mul_le_mul_left _ h0;omega
 rw[c0,Nat.mul_zero,Nat.add_zero]at v1;refine⟨_,h',zs,e1,⟨Cells.of_has b1 (by simp[l1]),lt1,by omega⟩,g1,fun r hr=>?_,by omega,l1⟩;cases hr;exact⟨_,_,rfl,Nat.le_refl _⟩
def subN(xs ys:List Nat):List Nat×Int:=if rt xs=true∧rt ys=true then(if num B xs<num B ys then([],2)else(digs B (num B xs-num B ys),0))else([],1)
theorem kx5{xs ys:List Nat}(hx:∀x∈xs,x<18446744073709551616)(hy:∀x∈ys,x<18446744073709551616)(ty:Trim ys)(h:num B ys≤num B xs):ys.length≤xs.length:=by
 rcases Nat.lt_or_ge xs.length ys.length with h1 | h1
 ·have:=ko0 B2 hx hy ty h1;omega
 ·exact h1
theorem k8p{xs ys:List Nat}(hx:∀x∈xs,x<18446744073709551616)(h:xs.length≤64):told (num B xs-num B ys)=(digs B (num B xs-num B ys),0):=by
 have h1:=num_lt (b:=B) (by decide) hx;have h2:B^xs.length≤B^64:=Nat.pow_le_pow_right (by decide) h;unfold told;rw[if_pos (by omega)]
theorem kbby{h:AH}{s t:Sl}{xs ys:List Nat}(n:Nats h s xs)(m:Nats h t ys):∃(s':Sl)(h':AH),go (.fn kp8 [s.v,t.v]) h=some (.tup [s'.v,.int .i64 (subN xs ys).2],h')∧Nats h' s' (subN xs ys).1∧Grow h h'∧Own h s':=by
 rw[kbe0];simp only[kkb];have r:=Rows.two n m;have g:=Grow.push h (.cells [s.v,t.v] kr);generalize h.push (.cells [s.v,t.v] kr)=h0 at *
 rw[kl7 r];simp only[Option.bind_some,khz,List.all_cons,List.all_nil,Bool.and_true];by_cases hb:rt xs=true∧rt ys=true
 ·simp only[hb.1,hb.2,Bool.and_self,Bool.not_true,cond_false];have lx:=rt_iff.1 hb.1;have ly:=rt_iff.1 hb.2;rw[kkr (n.grow g) (m.grow g) lx.2 ly.2];simp only[Option.bind_some,kc];by_cases hc:num B xs<num B ys
  ·rw[show subN xs ys=([],2)from by simp[subN,hb,hc]];rw[show decide (cmp (num B xs) (num B ys)<0)=true from by rw[decide_eq_true_eq];simp[cmp,hc]];exact⟨⟨none,0,.is 0⟩,h0,rfl,Nats.nil _,g,Own.nil h⟩
  ·rw[show subN xs ys=told (num B xs-num B ys)from by rw[k8p n.lt lx.1];simp[subN,hb,hc]];rw[show decide (cmp (num B xs) (num B ys)<0)=false from by rw[decide_eq_false_iff_not];unfold cmp;rw[if_neg hc];split<;>omega];simp only[cond_false];obtain⟨s1,h1,zs,e1,n1,g1,o1,v1,_⟩:=kl1 (n.grow g) (m.grow g) (by omega) (kx5 n.lt m.lt ly.2 (by omega)) (by omega);obtain⟨s2,e2,n2,o2⟩:=koj n1;rw[v1]at e2 n2;simp only[e1,e2,Option.bind_some,asSl_v,khq,kc];exact⟨s2,h1,rfl,n2,g.trans g1,(o2 h0 o1).of_le g⟩
 ·rw[show subN xs ys=([],1)from by simp only[subN,if_neg hb]]
  have:(rt xs&&rt ys)=false:=by
   cases hx:rt xs<;>cases hy:rt ys<;>simp_all
  rw[this];exact⟨⟨none,0,.is 0⟩,h0,rfl,Nats.nil _,g,Own.nil h⟩
theorem kb3(x n:Nat):ishr .u64 (x:Int) (n:Int)=((x/2^min n 64:Nat):Int):=by
 unfold ishr;rw[Int.toNat_natCast,show IntKind.bits .u64=64 from rfl];have:((2:Int)^min n 64)=((2^min n 64:Nat):Int):=by simp
 rw[this,Int.fdiv_eq_ediv_of_nonneg _ (Int.natCast_nonneg _)];exact(Int.natCast_ediv _ _).symm
theorem kjd{x:Nat}(hx:x<18446744073709551616):iand .u64 (x:Int) 4294967295=((x%4294967296:Nat):Int):=by
 unfold iand;rw[show IntKind.bits .u64=64 from rfl,wrapU];have e1:BitVec.ofInt 64 (x:Int)=BitVec.ofNat 64 x:=rfl;have e2:BitVec.ofInt 64 4294967295=BitVec.ofNat 64 4294967295:=rfl;rw[e1,e2,BitVec.toNat_and,BitVec.toNat_ofNat,BitVec.toNat_ofNat];rw[Nat.mod_eq_of_lt (show x<2^64 from hx),Nat.mod_eq_of_lt (show 4294967295<2^64 from by decide)];rw[show(4294967295:Nat)=2^32-1 from rfl,Nat.and_two_pow_sub_one_eq_mod];have:=Nat.mod_lt x (show 0<2^32 by decide);omega
def mul64(a1 a2:Int):Int×Int:=((IntKind.wrap .u64 ((IntKind.wrap .u64 ((IntKind.wrap .u64 ((ishr .u64 a1 32)*(ishr .u64 a2 32)))+(ishr .u64 (IntKind.wrap .u64 ((IntKind.wrap .u64 ((ishr .u64 a1 32)*(iand .u64 a2 4294967295)))+(ishr .u64 (IntKind.wrap .u64 ((iand .u64 a1 4294967295)*(iand .u64 a2 4294967295))) 32))) 32)))+(ishr .u64 (IntKind.wrap .u64 ((iand .u64 (IntKind.wrap .u64 ((IntKind.wrap .u64 ((ishr .u64 a1 32)*(iand .u64 a2 4294967295)))+(ishr .u64 (IntKind.wrap .u64 ((iand .u64 a1 4294967295)*(iand .u64 a2 4294967295))) 32))) 4294967295)+(IntKind.wrap .u64 ((iand .u64 a1 4294967295)*(ishr .u64 a2 32))))) 32))),IntKind.wrap .u64 (a1*a2))
theorem kx2(a1 a2:Int){h:AH}:go (.fn knk [.int .u64 a1,.int .u64 a2]) h=some (.tup [.int .u64 (mul64 a1 a2).1,.int .u64 (mul64 a1 a2).2],h):=kbed a1 a2 h
theorem kyy(x1 x0 y1 y0:Nat):(x1*4294967296+x0)*(y1*4294967296+y0)=x1*y1*18446744073709551616+(x1*y0+x0*y1)*4294967296+x0*y0:=by
 rw[Nat.add_mul,Nat.mul_add,Nat.mul_add]
 have e1:x1*4294967296*(y1*4294967296)=x1*y1*18446744073709551616:=by
  rw[Nat.mul_mul_mul_comm]
 have e2:x1*4294967296*y0=x1*y0*4294967296:=by rw[Nat.mul_right_comm]
 have e3:x0*(y1*4294967296)=x0*y1*4294967296:=by rw[Nat.mul_assoc]
 rw[e1,e2,e3];omega
theorem ksv{x y:Nat}(hx:x<B)(hy:y<B):mul64 (x:Int) (y:Int)=(((x*y/B:Nat):Int),((x*y%B:Nat):Int)):=by
 have hx:x<18446744073709551616:=hx;have hy:y<18446744073709551616:=hy;unfold mul64;have s1:=kb3 x 32;have s2:=kb3 y 32;have a1:=kjd hx;have a2:=kjd hy;have p32:(2:Nat)^min 32 64=4294967296:=rfl;rw[p32]at s1 s2;rw[show((32:Nat):Int)=32 from rfl]at s1 s2;rw[s1,s2,a1,a2];generalize hx1:x/4294967296=x1;generalize hx0:x%4294967296=x0;generalize hy1:y/4294967296=y1;generalize hy0:y%4294967296=y0;have ex:x=x1*4294967296+x0:=by omega
 have ey:y=y1*4294967296+y0:=by omega
 have l1:x1≤4294967295:=by omega
 have l2:x0≤4294967295:=by omega
 have l3:y1≤4294967295:=by omega
 have l4:y0≤4294967295:=by omega
 have b1:x1*y1≤4294967295*4294967295:=Nat.mul_le_mul l1 l3;have b2:x1*y0≤4294967295*4294967295:=Nat.mul_le_mul l1 l4;have b3:x0*y1≤4294967295*4294967295:=Nat.mul_le_mul l2 l3;have b4:x0*y0≤4294967295*4294967295:=Nat.mul_le_mul l2 l4;have key:=kyy x1 x0 y1 y0;rw[← ex,← ey]at key;have w1:IntKind.wrap .u64 (((x0:Nat):Int)*((y0:Nat):Int))=((x0*y0:Nat):Int):=by rw[wrapU,← Int.natCast_mul];omega
 have w2:IntKind.wrap .u64 (((x1:Nat):Int)*((y0:Nat):Int))=((x1*y0:Nat):Int):=by rw[wrapU,← Int.natCast_mul];omega
 have w3:IntKind.wrap .u64 (((x0:Nat):Int)*((y1:Nat):Int))=((x0*y1:Nat):Int):=by rw[wrapU,← Int.natCast_mul];omega
 have w4:IntKind.wrap .u64 (((x1:Nat):Int)*((y1:Nat):Int))=((x1*y1:Nat):Int):=by rw[wrapU,← Int.natCast_mul];omega
 rw[w1,w2,w3,w4]
 have lo:IntKind.wrap .u64 ((x:Int)*(y:Int))=((x*y%B:Nat):Int):=by
  rw[wrapU,← Int.natCast_mul];rfl
 rw[lo];generalize x0*y0=p at *
 generalize x1*y0=q at *
 generalize x0*y1=u at *
 generalize x1*y1=v at *
 have s3:=kb3 p 32;rw[p32]at s3;rw[show((32:Nat):Int)=32 from rfl]at s3;rw[s3];have w5:IntKind.wrap .u64 (((q:Nat):Int)+((p/4294967296:Nat):Int))=((q+p/4294967296:Nat):Int):=by rw[wrapU];omega
 rw[w5];have ht:q+p/4294967296<18446744073709551616:=by omega
 have s4:=kb3 (q+p/4294967296) 32;rw[p32]at s4;rw[show((32:Nat):Int)=32 from rfl]at s4;rw[s4,kjd ht];generalize ht':q+p/4294967296=t at *
 have w6:IntKind.wrap .u64 (((t%4294967296:Nat):Int)+((u:Nat):Int))=((t%4294967296+u:Nat):Int):=by rw[wrapU];omega
 rw[w6];have s5:=kb3 (t%4294967296+u) 32;rw[p32]at s5;rw[show((32:Nat):Int)=32 from rfl]at s5;rw[s5];have w7:IntKind.wrap .u64 (((v:Nat):Int)+((t/4294967296:Nat):Int))=((v+t/4294967296:Nat):Int):=by rw[wrapU];omega
 rw[w7];have w8:IntKind.wrap .u64 (((v+t/4294967296:Nat):Int)+(((t%4294967296+u)/4294967296:Nat):Int))=((v+t/4294967296+(t%4294967296+u)/4294967296:Nat):Int):=by rw[wrapU];omega
 rw[w8]
 have hi:v+t/4294967296+(t%4294967296+u)/4294967296=x*y/18446744073709551616:=by
  rw[key];omega
 rw[hi]
inductive kd5
 | fn (x1:List Nat) (x2:List Nat)
 | p3 (x1:List Nat) (x2:List Nat) (x3:List Nat) (a4:Int) (a5:Int)
 | p7 (x1:List Nat) (x2:List Nat) (a3:Int) (a4:Int) (a5:Int) (x6:List Nat) (a7:Int) (a8:Int) (x9:List Nat) (a10:Int) (a11:Int)
abbrev kcn:=List Nat
noncomputable def ki9(x1 x2:List Nat):Option (kd5⊕kcn) :=
 (mkI (IntKind.wrap .i64 ((List.length x1:Int)+(List.length x2:Int))) (IntKind.wrap .i64 ((List.length x1:Int)+(List.length x2:Int)))).bind fun m3=>some (.inl (.p3 x2 (List.replicate m3 0) x1 (List.length x1:Int) 0))
noncomputable def kf3(x1 x2 x3:List Nat)(a4 a5:Int):Option (kd5⊕kcn) :=
 cond (decide (a5<a4)) ((atI x3 a5).bind fun y7=>some (.inl (.p7 x1 x2 a5 ((y7:Int)) 0 x3 a4 a5 x1 (List.length x1:Int) 0))) (some (.inr (digs B (num B x2))))
noncomputable def kgc(x1 x2:List Nat)(a3 a4 a5:Int)(x6:List Nat)(a7 a8:Int)(x9:List Nat)(a10 a11:Int):Option (kd5⊕kcn) :=
 cond (decide (a11<a10)) ((atI x9 a11).bind fun y13=>(inI (List.length x2) (IntKind.wrap .i64 (a3+a11))).bind fun j15=>(add64P ((mul64 a4 ((y13:Int))).2) (((List.getD x2 j15 0:Nat):Int)) 0).bind fun p16=>(add64P (p16.1) a5 0).bind fun p17=>(inI (List.length x2) (IntKind.wrap .i64 (a3+a11))).bind fun j18=>(u64P (p17.1)).bind fun w19=>some (.inl (.p7 x1 (List.set x2 j18 w19) a3 a4 (IntKind.wrap .u64 ((IntKind.wrap .u64 (((mul64 a4 ((y13:Int))).1)+(p16.2)))+(p17.2))) x6 a7 a8 x9 a10 (IntKind.wrap .i64 (a11+1))))) ((inI (List.length x2) (IntKind.wrap .i64 (a3+(List.length x1:Int)))).bind fun j13=>(u64P a5).bind fun w14=>some (.inl (.p3 x1 (List.set x2 j13 w14) x6 a7 (IntKind.wrap .i64 (a8+1)))))
noncomputable def kj8:kd5→Option (kd5⊕kcn)
 | .fn x1 x2=>ki9 x1 x2
 | .p3 x1 x2 x3 a4 a5=>kf3 x1 x2 x3 a4 a5
 | .p7 x1 x2 a3 a4 a5 x6 a7 a8 x9 a10 a11=>kgc x1 x2 a3 a4 a5 x6 a7 a8 x9 a10 a11
@[reducible] def kqf(h0:AH)(r:kcn)(v:AV)(h':AH):Prop:=∃s1:Sl,v=s1.v∧Nats h' s1 r∧Grow h0 h'∧Own h0 s1
def kf7(r:kcn):kd5→Prop
 | .fn x1 x2=>∀{h:AH}{a1:Sl}{a2:Sl},Nats h a1 x1→Nats h a2 x2→Runs (go (.fn kcl [a1.v,a2.v]) h) (kqf h r)
 | .p3 x1 x2 x3 a4 a5=>∀{h0 h:AH}{a1:Sl}{a2:Sl}{a3:Sl}{i2:Nat},Grow h0 h→Nats h a1 x1→Vec h a2 i2 x2→Nats h a3 x3→h0.blks.size≤i2→Av a1 i2 x1→Av a3 i2 x3→Runs (go (.pt kcl klr [(1,a1.v),(5,a2.v),(20,a3.v),(21,.int .i64 a4),(22,.int .i64 a5)]) h) (kqf h0 r)
 | .p7 x1 x2 a3 a4 a5 x6 a7 a8 x9 a10 a11=>∀{h0 h:AH}{a1:Sl}{a2:Sl}{a6:Sl}{a9:Sl}{i2:Nat},Grow h0 h→Nats h a1 x1→Vec h a2 i2 x2→Nats h a6 x6→Nats h a9 x9→h0.blks.size≤i2→Av a1 i2 x1→Av a6 i2 x6→Av a9 i2 x9→Runs (go (.pt kcl klh [(1,a1.v),(5,a2.v),(6,.int .i64 a3),(7,.int .u64 a4),(8,.int .u64 a5),(20,a6.v),(21,.int .i64 a7),(22,.int .i64 a8),(27,a9.v),(28,.int .i64 a10),(29,.int .i64 a11)]) h) (kqf h0 r)
theorem kyr{r:kcn}{o:kd5⊕kcn}{x1 x2:List Nat}(e:ki9 x1 x2=some o)(good:GoodS (kf7 r) r o):kf7 r (.fn x1 x2):=by
 intro h a1 a2 n1 n2;rw[k9u];unfold ki9 at e;rw[n1.len];rw[n2.len];obtain⟨m3,q3,e⟩:=Option.bind_eq_some_iff.1 e;refine Runs.mk q3 kdw fun s3 H3 v3 g3=>?_;cases e;exact good g3 (n2.grow g3) v3 (n1.grow g3) (Nat.le_refl _) (Av.of_base n2 (Nat.le_refl _)) (Av.of_base n1 (Nat.le_refl _))
theorem k8k{r:kcn}{o:kd5⊕kcn}{x1 x2 x3:List Nat}{a4 a5:Int}(e:kf3 x1 x2 x3 a4 a5=some o)(good:GoodS (kf7 r) r o):kf7 r (.p3 x1 x2 x3 a4 a5):=by
 intro h0 h a1 a2 a3 i2 g0 n1 v2 n3 hi2 av1_2 av3_2;rw[kyk];unfold kf3 at e;rw[n1.len];rw[n3.len];refine Runs.cond (fun k6=>?_) (fun k6=>?_)
 ·replace e:=(condT k6).symm.trans e;obtain⟨y7,q7,e⟩:=Option.bind_eq_some_iff.1 e;obtain⟨r7,j7,l7⟩:=n3.atI q7;refine Runs.step j7 ?_;refine Runs.step (rdc l7 (kc _ _)) ?_;cases e;exact good g0 n1 v2 n3 n1 hi2 av1_2 av3_2 av1_2
 ·replace e:=(condF k6).symm.trans e;obtain⟨s7,e7,n7,o7⟩:=kdd v2.nats;refine Runs.step e7 ?_;refine Runs.step (seen (asSl_v _)) ?_;cases e;cases good;exact Runs.ret ⟨s7,rfl,n7,g0,((o7 _ (v2.own hi2)).of_le (Grow.refl _))⟩
theorem kbax{r:kcn}{o:kd5⊕kcn}{x1 x2:List Nat}{a3 a4 a5:Int}{x6:List Nat}{a7 a8:Int}{x9:List Nat}{a10 a11:Int}(e:kgc x1 x2 a3 a4 a5 x6 a7 a8 x9 a10 a11=some o)(good:GoodS (kf7 r) r o):kf7 r (.p7 x1 x2 a3 a4 a5 x6 a7 a8 x9 a10 a11):=by
 intro h0 h a1 a2 a6 a9 i2 g0 n1 v2 n6 n9 hi2 av1_2 av6_2 av9_2;rw[k42];unfold kgc at e;rw[n1.len];rw[v2.nats.len];rw[n9.len];refine Runs.cond (fun k12=>?_) (fun k12=>?_)
 ·replace e:=(condT k12).symm.trans e;obtain⟨y13,q13,e⟩:=Option.bind_eq_some_iff.1 e;obtain⟨r13,j13,l13⟩:=n9.atI q13;refine Runs.step j13 ?_;refine Runs.step (rdc l13 (kc _ _)) ?_;refine Runs.step (kx2 a4 ((y13:Int))) ?_;refine Runs.step rfl ?_;refine Runs.step (seen (kc _ _)) ?_;refine Runs.step (seen (kc _ _)) ?_;obtain⟨j15,q15,e⟩:=Option.bind_eq_some_iff.1 e;refine Runs.step (v2.idx rfl q15) ?_;refine Runs.step (v2.rd rfl q15 (kc _ _)) ?_;obtain⟨p16,q16,e⟩:=Option.bind_eq_some_iff.1 e;refine Runs.step (kh6 q16) ?_;refine Runs.step rfl ?_;refine Runs.step (seen (kc _ _)) ?_;refine Runs.step (seen (kc _ _)) ?_;obtain⟨p17,q17,e⟩:=Option.bind_eq_some_iff.1 e;refine Runs.step (kh6 q17) ?_;refine Runs.step rfl ?_;refine Runs.step (seen (kc _ _)) ?_;refine Runs.step (seen (kc _ _)) ?_;obtain⟨j18,q18,e⟩:=Option.bind_eq_some_iff.1 e;refine Runs.step (v2.idx rfl q18) ?_;obtain⟨w19,z19,e⟩:=Option.bind_eq_some_iff.1 e;refine Runs.vput v2 rfl q18 z19 fun H19 v19 u19=>?_;have n1_19:=n1.upda av1_2 u19;have n6_19:=n6.upda av6_2 u19;have n9_19:=n9.upda av9_2 u19;cases e;exact good (g0.updr hi2 u19) n1_19 v19 n6_19 n9_19 hi2 av1_2 av6_2 av9_2
 ·replace e:=(condF k12).symm.trans e;obtain⟨j13,q13,e⟩:=Option.bind_eq_some_iff.1 e;refine Runs.step (v2.idx rfl q13) ?_;obtain⟨w14,z14,e⟩:=Option.bind_eq_some_iff.1 e;refine Runs.vput v2 rfl q13 z14 fun H14 v14 u14=>?_;have n1_14:=n1.upda av1_2 u14;have n6_14:=n6.upda av6_2 u14;have n9_14:=n9.upda av9_2 u14;cases e;exact good (g0.updr hi2 u14) n1_14 v14 n6_14 hi2 av1_2 av6_2
theorem k2d{s:kd5}{r:kcn}(it:Iter kj8 s r):kf7 r s:=Iter.ind (fun s o e good=>by
 cases s with
 | fn x1 x2=>exact @kyr _ _ x1 x2 e good
 | p3 x1 x2 x3 a4 a5=>exact @k8k _ _ x1 x2 x3 a4 a5 e good
 | p7 x1 x2 a3 a4 a5 x6 a7 a8 x9 a10 a11=>exact @kbax _ _ x1 x2 a3 a4 a5 x6 a7 a8 x9 a10 a11 e good
 ) it
theorem kzq{t o c:Nat}(ho:o<18446744073709551616)(hc:c<18446744073709551616)(h:(t+o+c)/18446744073709551616<18446744073709551616) :
  ((t%18446744073709551616+o+0)%18446744073709551616+c+0)%18446744073709551616=(t+o+c)%18446744073709551616∧
  IntKind.wrap .u64 (IntKind.wrap .u64 (((t/18446744073709551616:Nat):Int)+(((t%18446744073709551616+o+0)/18446744073709551616:Nat):Int))+((((t%18446744073709551616+o+0)%18446744073709551616+c+0)/18446744073709551616:Nat):Int))=(((t+o+c)/18446744073709551616:Nat):Int):=by
 rw[wrapU,wrapU];omega
def Empty(o:List Nat)(k:Nat):Prop:=∀j (h:j<o.length),k≤j→o[j]=0
theorem Empty.set{o:List Nat}{k j w:Nat}(z:Empty o k)(hj:j<k):Empty (o.set j w) k:=fun t ht hk=>by
 rw[List.getElem_set_ne (by omega)];exact z t (by simpa using ht) hk
theorem set_lt{b:Nat}{o:List Nat}{j w:Nat}(h:∀x∈o,x<b)(hw:w<b):∀x∈o.set j w,x<b:=fun x hx=>by
 rcases List.mem_or_eq_of_mem_set hx with h1 | h1
 ·exact h x h1
 ·rw[h1];exact hw
theorem krt{xs ys:List Nat}{r:kcn}{i x T:Nat}(hx:x<B)(ly:∀y∈ys,y<B)(hn:xs.length+ys.length≤8796093022208)(hi:i<xs.length)
  (K:∀o:List Nat,o.length=xs.length+ys.length→(∀y∈o,y<B)→Empty o (i+1+ys.length)→num B o=T+B^i*(x*num B ys)→Iter kj8 (.p3 ys o xs (xs.length:Int) ((i+1:Nat):Int)) r) :
  ∀(d k:Nat),k+d=ys.length→∀(o:List Nat)(c:Nat),o.length=xs.length+ys.length→(∀y∈o,y<B)→Empty o (i+ys.length)→c<B→Row B o i k c x ys T→
   Iter kj8 (.p7 ys o (i:Int) (x:Int) (c:Int) xs (xs.length:Int) (i:Int) ys (ys.length:Int) (k:Int)) r
 | 0,k,hk,o,c,lo,to,zo,hc,row=>by
  have hk:k=ys.length:=by omega
  subst hk;have hj:i+ys.length<o.length:=by omega
  refine .next ?_ (K (o.set (i+ys.length) c) (by simpa using lo) (set_lt to hc) ?_ ?_)
  ·show kgc _ _ _ _ _ _ _ _ _ _ _=_;unfold kgc;rw[condF (by rw[decide_eq_false_iff_not];omega),← Int.natCast_add,kbz (by omega),kbd hj,Option.bind_some,kb4 hc,Option.bind_some,kf (by omega)]
  ·rw[show i+1+ys.length=i+ys.length+1 from by omega];intro j h1 h2;rw[List.getElem_set_ne (by omega)];exact zo j (by simpa using h1) (by omega)
  ·exact row.stop hj (zo _ hj (Nat.le_refl _))
 | d+1,k,hk,o,c,lo,to,zo,hc,row=>by
  have hk':k<ys.length:=by omega
  have hj:i+k<o.length:=by omega
  have hy:=ly ys[k] (List.getElem_mem _);have ho:=to o[i+k] (List.getElem_mem _);have hc':=k1e hx hy ho hc;obtain⟨c1,c2⟩:=kzq ho hc hc';have hl:=Nat.mod_lt (x*ys[k]+o[i+k]+c) (show 0<18446744073709551616 by omega);refine .next ?_ (krt hx ly hn hi K d (k+1) (by omega) (o.set (i+k) ((x*ys[k]+o[i+k]+c)%18446744073709551616)) ((x*ys[k]+o[i+k]+c)/18446744073709551616) (by simpa using lo) (set_lt to hl) (zo.set (by omega)) hc' (row.step hk' hj (Nat.div_add_mod' _ _).symm))
  ·show kgc _ _ _ _ _ _ _ _ _ _ _=_;unfold kgc;rw[condT (by rw[decide_eq_true_eq];omega),kcc hk',Option.bind_some,← Int.natCast_add,kbz (by omega),kbd hj,Option.bind_some,ksv hx hy];dsimp only;rw[show List.getD o (i+k) 0=o[i+k]from kci hj];have a1:=klk (x*ys[k]%B) o[i+k] (c:=0) (by omega);have a2:=klk ((x*ys[k]%B+o[i+k]+0)%18446744073709551616) c (c:=0) (by omega);rw[show((0:Nat):Int)=0 from rfl]at a1 a2;rw[a1,Option.bind_some];dsimp only;rw[a2,Option.bind_some,Option.bind_some];dsimp only;rw[c1,c2,kb4 hl,Option.bind_some,kf (by omega)]
theorem ktl{xs ys:List Nat}(lx:∀x∈xs,x<B)(ly:∀y∈ys,y<B)(hn:xs.length+ys.length≤8796093022208) :
  ∀(d i:Nat),i+d=xs.length→∀(o:List Nat),o.length=xs.length+ys.length→(∀y∈o,y<B)→Empty o (i+ys.length)→num B o=num B (xs.take i)*num B ys→
   Iter kj8 (.p3 ys o xs (xs.length:Int) (i:Int)) (digs B (num B xs*num B ys))
 | 0,i,hi,o,lo,to,zo,e=>by
  have hi:i=xs.length:=by omega
  subst hi;rw[List.take_length]at e;refine .done ?_;show kf3 _ _ _ _ _=_;unfold kf3;rw[condF (by rw[decide_eq_false_iff_not];omega),e]
 | d+1,i,hi,o,lo,to,zo,e=>by
  have hi':i<xs.length:=by omega
  refine .next (s':=.p7 ys o (i:Int) (xs[i]:Int) ((0:Nat):Int) xs (xs.length:Int) (i:Int) ys (ys.length:Int) ((0:Nat):Int)) ?_
   (krt (T:=num B (xs.take i)*num B ys) (lx _ (List.getElem_mem _)) ly hn hi' (fun o' l' t' z' e'=>?_) ys.length 0 (by omega) o 0 lo to zo (show 0<18446744073709551616 by omega) (Row.start e))
  ·show kf3 _ _ _ _ _=_;unfold kf3;rw[condT (by rw[decide_eq_true_eq];omega),kcc hi',Option.bind_some];rfl
  ·refine ktl lx ly hn d (i+1) (by omega) o' l' t' z' ?_;rw[e',kz0 hi' rfl]
theorem kzl{xs ys:List Nat}(lx:∀x∈xs,x<B)(ly:∀y∈ys,y<B)(hn:xs.length+ys.length≤8796093022208):Iter kj8 (.fn xs ys) (digs B (num B xs*num B ys)):=by
 have z:∀k,Empty (List.replicate (xs.length+ys.length) 0) k:=fun k j hj _=>by simp
 refine .next (s':=.p3 ys (List.replicate (xs.length+ys.length) 0) xs (xs.length:Int) ((0:Nat):Int)) ?_ (ktl lx ly hn xs.length 0 (by omega) _ (by simp) ?_ (z _) ?_)
 ·show ki9 _ _=_;unfold ki9;rw[← Int.natCast_add,kbz (by omega),kfh hn,Option.bind_some];rfl
 ·intro y hy;rw[List.eq_of_mem_replicate hy];exact show 0<18446744073709551616 by omega
 ·have:=kjs B [] (xs.length+ys.length)
  simpa[num]using this
theorem kpc{h:AH}{s t:Sl}{xs ys:List Nat}(n:Nats h s xs)(m:Nats h t ys)(hn:xs.length+ys.length≤8796093022208):∃(s':Sl)(h':AH),go (.fn kcl [s.v,t.v]) h=some (s'.v,h')∧Nats h' s' (digs B (num B xs*num B ys))∧Grow h h'∧Own h s':=by
 obtain⟨_,h',e,s',rfl,n',g,o⟩:=k2d (kzl n.lt m.lt hn) n m;exact⟨s',h',e,n',g,o⟩
theorem ke5{n:Nat}(h:n<18446744073709551616):IntKind.wrap .u64 (n:Int)=(n:Int):=by
 rw[wrapU];omega
inductive kfs
 | fn (x1:List Nat) (x2:List Nat) (a3:Int)
 | p2 (x1:List Nat) (x2:List Nat) (a3:Int) (a4:Int) (a5:Int)
abbrev keb:=List Nat
noncomputable def kp0(x1 x2:List Nat)(a3:Int):Option (kfs⊕keb) :=
 some (.inl (.p2 x1 x2 a3 0 a3))
noncomputable def ken(x1 x2:List Nat)(a3 a4 a5:Int):Option (kfs⊕keb) :=
 cond (decide (a5<(List.length x1:Int))) (cond (decide ((IntKind.wrap .i64 (a5-a3))<(List.length x2:Int))) (cond (decide ((IntKind.wrap .i64 (a5-a3))<(List.length x2:Int))) ((atI x2 (IntKind.wrap .i64 (a5-a3))).bind fun y9=>(inI (List.length x1) a5).bind fun j10=>(add64P (((List.getD x1 j10 0:Nat):Int)) ((y9:Int)) a4).bind fun p11=>(inI (List.length x1) a5).bind fun j12=>(u64P (p11.1)).bind fun w13=>some (.inl (.p2 (List.set x1 j12 w13) x2 a3 (p11.2) (IntKind.wrap .i64 (a5+1))))) ((inI (List.length x1) a5).bind fun j9=>(add64P (((List.getD x1 j9 0:Nat):Int)) 0 a4).bind fun p10=>(inI (List.length x1) a5).bind fun j11=>(u64P (p10.1)).bind fun w12=>some (.inl (.p2 (List.set x1 j11 w12) x2 a3 (p10.2) (IntKind.wrap .i64 (a5+1)))))) (cond (decide (a4>0)) (cond (decide ((IntKind.wrap .i64 (a5-a3))<(List.length x2:Int))) ((atI x2 (IntKind.wrap .i64 (a5-a3))).bind fun y10=>(inI (List.length x1) a5).bind fun j11=>(add64P (((List.getD x1 j11 0:Nat):Int)) ((y10:Int)) a4).bind fun p12=>(inI (List.length x1) a5).bind fun j13=>(u64P (p12.1)).bind fun w14=>some (.inl (.p2 (List.set x1 j13 w14) x2 a3 (p12.2) (IntKind.wrap .i64 (a5+1))))) ((inI (List.length x1) a5).bind fun j10=>(add64P (((List.getD x1 j10 0:Nat):Int)) 0 a4).bind fun p11=>(inI (List.length x1) a5).bind fun j12=>(u64P (p11.1)).bind fun w13=>some (.inl (.p2 (List.set x1 j12 w13) x2 a3 (p11.2) (IntKind.wrap .i64 (a5+1)))))) (some (.inr x1)))) (some (.inr x1))
noncomputable def kqe:kfs→Option (kfs⊕keb)
 | .fn x1 x2 a3=>kp0 x1 x2 a3
 | .p2 x1 x2 a3 a4 a5=>ken x1 x2 a3 a4 a5
@[reducible] def krq(h0:AH)(a:Sl)(i:Nat)(r:keb)(v:AV)(h':AH):Prop:=v=.tup []∧Vec h' a i r∧Upd h0 h' i
def kim(r:keb):kfs→Prop
 | .fn x1 x2 a3=>∀{h:AH}{a1:Sl}{a2:Sl}{i1:Nat},Vec h a1 i1 x1→Nats h a2 x2→Av a2 i1 x2→Runs (go (.fn kdh [a1.v,a2.v,.int .i64 a3]) h) (krq h a1 i1 r)
 | .p2 x1 x2 a3 a4 a5=>∀{h0 h:AH}{a1:Sl}{a2:Sl}{i1:Nat},Upd h0 h i1→Vec h a1 i1 x1→Nats h a2 x2→Av a2 i1 x2→Runs (go (.pt kdh kgg [(0,a1.v),(1,a2.v),(2,.int .i64 a3),(6,.int .u64 a4),(7,.int .i64 a5)]) h) (krq h0 a1 i1 r)
theorem kbcp{r:keb}{o:kfs⊕keb}{x1 x2:List Nat}{a3:Int}(e:kp0 x1 x2 a3=some o)(good:GoodS (kim r) r o):kim r (.fn x1 x2 a3):=by
 intro h a1 a2 i1 v1 n2 av2_1;rw[kz2];unfold kp0 at e;cases e;exact good ((Grow.refl _).toUpd _) v1 n2 av2_1
theorem k6s{r:keb}{o:kfs⊕keb}{x1 x2:List Nat}{a3 a4 a5:Int}(e:ken x1 x2 a3 a4 a5=some o)(good:GoodS (kim r) r o):kim r (.p2 x1 x2 a3 a4 a5):=by
 intro h0 h a1 a2 i1 g0 v1 n2 av2_1;rw[k9j];unfold ken at e;rw[v1.nats.len];rw[n2.len];refine Runs.cond (fun k6=>?_) (fun k6=>?_)
 ·replace e:=(condT k6).symm.trans e;refine Runs.cond (fun k7=>?_) (fun k7=>?_)
  ·replace e:=(condT k7).symm.trans e;refine Runs.cond (fun k8=>?_) (fun k8=>?_)
   ·replace e:=(condT k8).symm.trans e;obtain⟨y9,q9,e⟩:=Option.bind_eq_some_iff.1 e;obtain⟨r9,j9,l9⟩:=n2.atI q9;refine Runs.step j9 ?_;refine Runs.step (rdc l9 (kc _ _)) ?_;obtain⟨j10,q10,e⟩:=Option.bind_eq_some_iff.1 e;refine Runs.step (v1.idx rfl q10) ?_;refine Runs.step (v1.rd rfl q10 (kc _ _)) ?_;obtain⟨p11,q11,e⟩:=Option.bind_eq_some_iff.1 e;refine Runs.step (kh6 q11) ?_;refine Runs.step rfl ?_;refine Runs.step (seen (kc _ _)) ?_;refine Runs.step (seen (kc _ _)) ?_;obtain⟨j12,q12,e⟩:=Option.bind_eq_some_iff.1 e;refine Runs.step (v1.idx rfl q12) ?_;obtain⟨w13,z13,e⟩:=Option.bind_eq_some_iff.1 e;refine Runs.vput v1 rfl q12 z13 fun H13 v13 u13=>?_;have n2_13:=n2.upda av2_1 u13;cases e;exact good (g0.trans u13) v13 n2_13 av2_1
   ·replace e:=(condF k8).symm.trans e;obtain⟨j9,q9,e⟩:=Option.bind_eq_some_iff.1 e;refine Runs.step (v1.idx rfl q9) ?_;refine Runs.step (v1.rd rfl q9 (kc _ _)) ?_;obtain⟨p10,q10,e⟩:=Option.bind_eq_some_iff.1 e;refine Runs.step (kh6 q10) ?_;refine Runs.step rfl ?_;refine Runs.step (seen (kc _ _)) ?_;refine Runs.step (seen (kc _ _)) ?_;obtain⟨j11,q11,e⟩:=Option.bind_eq_some_iff.1 e;refine Runs.step (v1.idx rfl q11) ?_;obtain⟨w12,z12,e⟩:=Option.bind_eq_some_iff.1 e;refine Runs.vput v1 rfl q11 z12 fun H12 v12 u12=>?_;have n2_12:=n2.upda av2_1 u12;cases e;exact good (g0.trans u12) v12 n2_12 av2_1
  ·replace e:=(condF k7).symm.trans e;refine Runs.cond (fun k8=>?_) (fun k8=>?_)
   ·replace e:=(condT k8).symm.trans e;refine Runs.cond (fun k9=>?_) (fun k9=>?_)
    ·replace e:=(condT k9).symm.trans e;obtain⟨y10,q10,e⟩:=Option.bind_eq_some_iff.1 e;obtain⟨r10,j10,l10⟩:=n2.atI q10;refine Runs.step j10 ?_;refine Runs.step (rdc l10 (kc _ _)) ?_;obtain⟨j11,q11,e⟩:=Option.bind_eq_some_iff.1 e;refine Runs.step (v1.idx rfl q11) ?_;refine Runs.step (v1.rd rfl q11 (kc _ _)) ?_;obtain⟨p12,q12,e⟩:=Option.bind_eq_some_iff.1 e;refine Runs.step (kh6 q12) ?_;refine Runs.step rfl ?_;refine Runs.step (seen (kc _ _)) ?_;refine Runs.step (seen (kc _ _)) ?_;obtain⟨j13,q13,e⟩:=Option.bind_eq_some_iff.1 e;refine Runs.step (v1.idx rfl q13) ?_;obtain⟨w14,z14,e⟩:=Option.bind_eq_some_iff.1 e;refine Runs.vput v1 rfl q13 z14 fun H14 v14 u14=>?_;have n2_14:=n2.upda av2_1 u14;cases e;exact good (g0.trans u14) v14 n2_14 av2_1
    ·replace e:=(condF k9).symm.trans e;obtain⟨j10,q10,e⟩:=Option.bind_eq_some_iff.1 e;refine Runs.step (v1.idx rfl q10) ?_;refine Runs.step (v1.rd rfl q10 (kc _ _)) ?_;obtain⟨p11,q11,e⟩:=Option.bind_eq_some_iff.1 e;refine Runs.step (kh6 q11) ?_;refine Runs.step rfl ?_;refine Runs.step (seen (kc _ _)) ?_;refine Runs.step (seen (kc _ _)) ?_;obtain⟨j12,q12,e⟩:=Option.bind_eq_some_iff.1 e;refine Runs.step (v1.idx rfl q12) ?_;obtain⟨w13,z13,e⟩:=Option.bind_eq_some_iff.1 e;refine Runs.vput v1 rfl q12 z13 fun H13 v13 u13=>?_;have n2_13:=n2.upda av2_1 u13;cases e;exact good (g0.trans u13) v13 n2_13 av2_1
   ·replace e:=(condF k8).symm.trans e;cases e;cases good;exact Runs.ret ⟨rfl,v1,g0⟩
 ·replace e:=(condF k6).symm.trans e;cases e;cases good;exact Runs.ret ⟨rfl,v1,g0⟩
theorem kbdt{s:kfs}{r:keb}(it:Iter kqe s r):kim r s:=Iter.ind (fun s o e good=>by
 cases s with
 | fn x1 x2 a3=>exact @kbcp _ _ x1 x2 a3 e good
 | p2 x1 x2 a3 a4 a5=>exact @k6s _ _ x1 x2 a3 a4 a5 e good
 ) it
theorem kdv{xs:List Nat}{i:Nat}(h:i<xs.length):List.getD xs i 0=xs[i]:=kci h
theorem kbbe{o xs:List Nat}{at' i c:Nat}(ho:o.length≤4611686018427387904)(hx:xs.length≤4611686018427387904)(h1:i<o.length)(h2:at'≤i)(hc:c≤1)(hs:i-at'<xs.length∨0<c) :
  kqe (.p2 o xs (at':Int) (c:Int) (i:Int))=some (.inl (.p2 (o.set i ((xs.getD (i-at') 0+o[i]+c)%18446744073709551616)) xs (at':Int) (((xs.getD (i-at') 0+o[i]+c)/18446744073709551616:Nat):Int) ((i+1:Nat):Int))):=by
 show ken _ _ _ _ _=_;unfold ken;have e0:IntKind.wrap .i64 ((i:Int)-(at':Int))=((i-at':Nat):Int):=by rw[wrap64 (by omega) (by omega)];omega
 have hm:∀n:Nat,n%18446744073709551616<18446744073709551616:=fun n=>Nat.mod_lt n (by omega);rw[condT (by rw[decide_eq_true_eq];omega),e0];by_cases hk:i-at'<xs.length
 ·have a1:=klk o[i] xs[i-at'] hc;rw[condT (by rw[decide_eq_true_eq];omega),condT (by rw[decide_eq_true_eq];omega),kcc hk,Option.bind_some,kbd h1,Option.bind_some,kdv h1,a1,Option.bind_some,Option.bind_some];dsimp only;rw[kb4 (hm _),Option.bind_some,kf (by omega),kdv hk,Nat.add_comm o[i]]
 ·have hc':0<c:=by omega
  have a1:=klk o[i] 0 hc;rw[show((0:Nat):Int)=0 from rfl]at a1;rw[condF (by rw[decide_eq_false_iff_not];omega),condT (by rw[decide_eq_true_eq];omega),condF (by rw[decide_eq_false_iff_not];omega),kbd h1,Option.bind_some,kdv h1,a1,Option.bind_some,Option.bind_some];dsimp only;rw[kb4 (hm _),Option.bind_some,kf (by omega),show xs.getD (i-at') 0=0 from by simp[List.getD,List.getElem?_eq_none (Nat.le_of_not_lt hk)]];rw[Nat.add_comm o[i]]
theorem kxu{xs:List Nat}{at' T:Nat}(lx:∀x∈xs,x<B)(hx:xs.length≤4611686018427387904) :
  ∀(d i:Nat)(o:List Nat)(c:Nat),i+d=o.length→at'≤i→o.length≤4611686018427387904→(∀y∈o,y<B)→c≤1→num B o+c*B^i=T+B^at'*num B (xs.take (i-at'))→T+B^at'*num B xs<B^o.length→
   ∃r,Iter kqe (.p2 o xs (at':Int) (c:Int) (i:Int)) r∧r.length=o.length∧(∀y∈r,y<B)∧num B r=T+B^at'*num B xs
 | 0,i,o,c,hi,hat,ho,to,hc,inv,bound=>by
  have hi:i=o.length:=by omega
  subst hi
  have hxs:num B xs=num B (xs.take (o.length-at'))+B^(xs.take (o.length-at')).length*num B (xs.drop (o.length-at')):=by
   rw[← kdu,List.take_append_drop]
  have hc0:c=0:=by
   rcases Nat.eq_zero_or_pos c with e | e
   ·exact e
   ·have:c=1:=by omega
    subst this;have:B^at'*num B (xs.take (o.length-at'))≤B^at'*num B xs:=Nat.mul_le_mul_left _ (by omega);omega
  subst hc0
  have hd:num B (xs.take (o.length-at'))=num B xs:=by
   by_cases hl:xs.length≤o.length-at'
   ·rw[List.take_of_length_le hl]
   ·rw[List.length_take,Nat.min_eq_left (by omega)]at hxs;rw[hxs];rcases Nat.eq_zero_or_pos (num B (xs.drop (o.length-at')))with e | e
    ·rw[e];omega
    ·exfalso
     have h1:B^(o.length-at')≤num B xs:=by
      have:B^(o.length-at')*1≤B^(o.length-at')*num B (xs.drop (o.length-at')):=Nat.mul_le_mul_left _ e;omega
     have h2:B^at'*B^(o.length-at')≤B^at'*num B xs:=Nat.mul_le_mul_left _ h1;rw[← Nat.pow_add,show at'+(o.length-at')=o.length from by omega]at h2;omega
  refine⟨o,.done ?_,rfl,to,?_⟩
  ·show ken _ _ _ _ _=_;unfold ken;rw[condF (by rw[decide_eq_false_iff_not];omega)]
  ·rw[← hd];omega
 | d+1,i,o,c,hi,hat,ho,to,hc,inv,bound=>by
  have h1:i<o.length:=by omega
  by_cases hs:i-at'<xs.length∨0<c
  ·have hm:=Nat.mod_lt (xs.getD (i-at') 0+o[i]+c) (show 0<18446744073709551616 by omega)
   have hy:xs.getD (i-at') 0<18446744073709551616:=by
    by_cases hk:i-at'<xs.length
    ·rw[kdv hk];exact lx _ (List.getElem_mem _)
    ·rw[show xs.getD (i-at') 0=0 from by simp[List.getD,List.getElem?_eq_none (Nat.le_of_not_lt hk)]];omega
   have hoi:o[i]<18446744073709551616:=to _ (List.getElem_mem _)
   obtain⟨r,it,r1,r2,r3⟩:=kxu (T:=T) (at':=at') lx hx d (i+1) (o.set i ((xs.getD (i-at') 0+o[i]+c)%18446744073709551616)) ((xs.getD (i-at') 0+o[i]+c)/18446744073709551616) (by simp;omega) (by omega) (by simpa using ho) (set_lt to hm) (by omega) (by
    have k1:=kh3 (b:=B) h1 ((xs.getD (i-at') 0+o[i]+c)%18446744073709551616);have k2:=kto k1 (Nat.div_add_mod' (xs.getD (i-at') 0+o[i]+c) 18446744073709551616).symm inv;rw[Nat.pow_succ,k2,show i+1-at'=i-at'+1 from by omega,kj1,Nat.mul_add,← Nat.mul_assoc,← Nat.pow_add,show at'+(i-at')=i from by omega];omega) (by simpa using bound)
   exact⟨r,.next (kbbe ho hx h1 hat hc hs) it,by simpa using r1,r2,r3⟩
  ·have hc0:c=0:=by omega
   subst hc0;rw[List.take_of_length_le (by omega)]at inv;refine⟨o,.done ?_,rfl,to,by omega⟩;show ken _ _ _ _ _=_;unfold ken;have e0:IntKind.wrap .i64 ((i:Int)-(at':Int))=((i-at':Nat):Int):=by rw[wrap64 (by omega) (by omega)];omega
   rw[condT (by rw[decide_eq_true_eq];omega),e0,condF (by rw[decide_eq_false_iff_not];omega),condF (by rw[decide_eq_false_iff_not];omega)]
theorem kvh{h:AH}{s t:Sl}{i:Nat}{o xs:List Nat}(v:Vec h s i o)(m:Nats h t xs)(av:Av t i xs){at':Nat}(hat:at'≤o.length)(ho:o.length≤4611686018427387904)(hx:xs.length≤4611686018427387904)(bound:num B o+B^at'*num B xs<B^o.length) :
  ∃(h':AH)(r:List Nat),go (.fn kdh [s.v,t.v,.int .i64 (at':Int)]) h=some (.tup [],h')∧Vec h' s i r∧Upd h h' i∧r.length=o.length∧num B r=num B o+B^at'*num B xs:=by
 obtain⟨r,it,r1,r2,r3⟩:=kxu (T:=num B o) (at':=at') m.lt hx (o.length-at') at' o 0 (by omega) (Nat.le_refl _) ho v.lt (by omega) (by simp[num]) bound;obtain⟨_,h',e,rfl,v',u⟩:=kbdt (.next (s:=.fn o xs (at':Int)) rfl it) v m av;exact⟨h',r,e,v',u,r1,r3⟩
@[reducible] def kou(p:Ref):AV:=.func (.func ki7) [] [.ptr (some p)]
theorem kmj(p:Ref)(x y:AV)(h:AH):callV Pg go (kou p) [x,y] h=go (.fn ki7 [x,y,.ptr (some p)]) h:=by kernel_rfl
theorem Grow.same_cell{h h':AH}(g:Grow h h'){p:Ref}{v:AV}(c:h.cell p=some v):SameAt h h' p 1:=⟨fun j hj=>by
 have:j=0:=by omega
 subst this;rw[Ref.add_zero,c,g.cell_some c],fun h=>by cases h⟩
theorem k3j{h:AH}{s d:Sl}{i:Nat}{xs ys:List Nat}(n:Nats h s xs)(v:Vec h d i ys)(hl:xs.length≤ys.length):∃h',copyH s d 1 h=some h'∧Vec h' d i (xs++ys.drop xs.length)∧Upd h h' i:=by
 have hd:d.ref=some (.new i 0):=by rw[v.is]
 have hdl:d.len=ys.length:=v.len;have hg:=n.cells.gets;unfold copyH;rw[hd];cases hs:s.ref with
 | none =>
  have:xs=[]:=by
   cases xs with
   | nil=>rfl
   | cons x xs =>
    obtain⟨r,e,_⟩:=n.cells.get 0 _ rfl;rw[hs]at e;cases e
  subst this;exact⟨h,rfl,by simpa using v,(Grow.refl h).toUpd i⟩
 | some r =>
  rw[hs,n.len]at hg;simp only[AH.getsO]at hg;dsimp only;rw[n.len,hdl,Nat.min_eq_left hl,hg,Option.bind_some];obtain⟨e,b⟩:=v.has;rw[b.puts (by simp;omega)]
  have e1:(ys.map u64).take 0++xs.map u64++(ys.map u64).drop (0+(xs.map u64).length)=(xs++ys.drop xs.length).map u64:=by
   simp[List.map_drop]
  rw[e1];refine⟨_,rfl,⟨?_,⟨e,AH.has_upd b _ _⟩,?_,?_⟩,AH.upd_Upd h i _ e⟩
  ·have:(xs++ys.drop xs.length).length=ys.length:=by simp;omega
   rw[this];exact v.is
  ·intro z hz;rcases List.mem_append.1 hz with h1 | h1
   ·exact n.lt z h1
   ·exact v.lt z (List.mem_of_mem_drop h1)
  ·have:=v.short;simp;omega
theorem kmz{h:AH}{s:Sl}{xs:List Nat}{p:Ref}{k:Nat}(n:Nats h s xs)(c:h.cell p=some (.int .i64 (k:Int))):∃s',go (.fn kh7 [s.v,.ptr (some p)]) h=some (s'.v,h)∧Nats h s' (digs B (num B (xs.take (min k xs.length)))):=by
 rw[k4k,c,Option.bind_some,kc,Option.bind_some,ktg,n.len];obtain⟨s1,e1,n1,_⟩:=n.cut (l:=0) (n:=min k xs.length) (by omega) (by omega);rw[show min (k:Int) (xs.length:Int)=((min k xs.length:Nat):Int)from by omega,show(0:Int)=((0:Nat):Int)from rfl,e1,Option.bind_some];obtain⟨s2,e2,n2,_⟩:=kdd n1;rw[e2,Option.bind_some,Option.bind_some,asSl_v,Option.bind_some];exact⟨s2,rfl,by simpa using n2⟩
theorem kl8{h:AH}{s:Sl}{xs:List Nat}{p:Ref}{k:Nat}(n:Nats h s xs)(c:h.cell p=some (.int .i64 (k:Int))):∃s',go (.fn khc [s.v,.ptr (some p)]) h=some (s'.v,h)∧Nats h s' (xs.drop (min k xs.length)):=by
 rw[kbev,c,Option.bind_some,kc,Option.bind_some,ktg,n.len];obtain⟨s1,e1,n1,_⟩:=n.cut (l:=min k xs.length) (n:=xs.length) (by omega) (by omega);rw[show min (k:Int) (xs.length:Int)=((min k xs.length:Nat):Int)from by omega,e1,Option.bind_some];refine⟨s1,rfl,?_⟩;rwa[List.take_of_length_le (by simp)]at n1
theorem B1:1≤B:=by decide
theorem ksh(b:Nat)(xs:List Nat)(n:Nat):num b xs=num b (xs.take (min n xs.length))+b^n*num b (xs.drop (min n xs.length)):=by
 have e:num b xs=num b (xs.take (min n xs.length)++xs.drop (min n xs.length)):=by rw[List.take_append_drop]
 rw[kdu,List.length_take]at e;by_cases h:n≤xs.length
 ·rw[e,show min (min n xs.length) xs.length=n from by omega]
 ·have:xs.drop (min n xs.length)=[]:=List.drop_of_length_le (by omega);rw[this]at e⊢
  simpa[num]using e
theorem kl3{a c:Nat}(h:a≤c):(digs B a).length≤(digs B c).length:=by
 rw[kbi B2];exact Nat.lt_of_le_of_lt h ((kbi B2 c _).1 (Nat.le_refl _))
theorem kj2{xs:List Nat}(h:∀x∈xs,x<B):(digs B (num B xs)).length≤xs.length:=by
 rw[kbi B2];exact num_lt B1 h
theorem kbdg(P al ah bl bh:Nat):(al+P*ah)*(bl+P*bh)=al*bl+P*((al+ah)*(bl+bh)-al*bl-ah*bh)+P*P*(ah*bh):=by
 have e:(al+ah)*(bl+bh)-al*bl-ah*bh=al*bh+ah*bl:=by
  rw[Nat.add_mul,Nat.mul_add,Nat.mul_add];omega
 rw[e,Nat.add_mul,Nat.mul_add,Nat.mul_add,Nat.mul_add];have e1:al*(P*bh)=P*(al*bh):=Nat.mul_left_comm _ _ _;have e2:P*ah*bl=P*(ah*bl):=Nat.mul_assoc _ _ _;have e3:P*ah*(P*bh)=P*P*(ah*bh):=Nat.mul_mul_mul_comm _ _ _ _;rw[e1,e2,e3];omega
set_option maxHeartbeats 2000000 in
theorem kln:∀(N:Nat){h:AH}{s t:Sl}{xs ys:List Nat}{p:Ref},xs.length+ys.length<N→N≤268435456→Nats h s xs→Nats h t ys→h.cell p=some (kou p)→
  Runs (go (.fn ki7 [s.v,t.v,.ptr (some p)]) h) fun v h'=>∃s':Sl,v=s'.v∧Nats h' s' (digs B (num B xs*num B ys))∧Grow h h'∧Own h s'
 | 0,_,_,_,_,_,_,hN,_,_,_,_=>by omega
 | N+1,h,s,t,xs,ys,p,hN,hM,ns,nt,c=>by
  rw[kbfc,ns.len,nt.len];refine Runs.cond (fun k1=>?_) (fun k1=>?_)
  ·obtain⟨s4,h4,e4,n4,g4,o4⟩:=kpc ns nt (by omega);refine Runs.step e4 ?_;refine Runs.step (seen (asSl_v _)) ?_;exact Runs.ret ⟨s4,rfl,n4,g4,o4⟩
  refine Runs.cond (fun k2=>?_) (fun k2=>?_)
  ·obtain⟨s4,h4,e4,n4,g4,o4⟩:=kpc ns nt (by omega);refine Runs.step e4 ?_;refine Runs.step (seen (asSl_v _)) ?_;exact Runs.ret ⟨s4,rfl,n4,g4,o4⟩
  rw[decide_eq_false_iff_not]at k1 k2;obtain⟨n,hn⟩:∃n,n=(max xs.length ys.length+1)/2:=⟨_,rfl⟩
  have hw:IntKind.wrap .i64 (Int.tdiv (IntKind.wrap .i64 ((imax (xs.length:Int) (ys.length:Int))+1)) 2)=(n:Int):=by
   rw[k1u,show max (xs.length:Int) (ys.length:Int)=((max xs.length ys.length:Nat):Int)from by omega,kf (by omega)];show IntKind.wrap .i64 (((max xs.length ys.length+1)/2:Nat):Int)=_;rw[← hn,kbz (by omega)]
  rw[hw];have lax:(xs.take (min n xs.length)).length=min n xs.length:=by simp
  have lbx:(ys.take (min n ys.length)).length=min n ys.length:=by simp
  have tax:∀x∈xs.take (min n xs.length),x<B:=fun x hx=>ns.lt x (List.mem_of_mem_take hx);have tbx:∀x∈ys.take (min n ys.length),x<B:=fun x hx=>nt.lt x (List.mem_of_mem_take hx);have tah:∀x∈xs.drop (min n xs.length),x<B:=fun x hx=>ns.lt x (List.mem_of_mem_drop hx);have tbh:∀x∈ys.drop (min n ys.length),x<B:=fun x hx=>nt.lt x (List.mem_of_mem_drop hx);have lah:(xs.drop (min n xs.length)).length=xs.length-min n xs.length:=by simp
  have lbh:(ys.drop (min n ys.length)).length=ys.length-min n ys.length:=by simp
  have da:=kj2 tax;have db:=kj2 tbx;have dah:=kj2 tah;have dbh:=kj2 tbh;have ea:=ksh B xs n;have eb:=ksh B ys n;generalize hal:num B (xs.take (min n xs.length))=al at *
  generalize hah:num B (xs.drop (min n xs.length))=ah at *
  generalize hbl:num B (ys.take (min n ys.length))=bl at *
  generalize hbh:num B (ys.drop (min n ys.length))=bh at *
  refine Runs.new fun H8 b8 g8=>?_;refine Runs.puts b8 rfl fun H9 b9 u9=>?_;have gA:=g8.updr (Nat.le_refl _) u9;have c9:=gA.cell_some c;have k9:H9.cell (.new h.blks.size 0)=some (.int .i64 (n:Int)):=b9.cell 0;have ns9:=ns.grow gA;have nt9:=nt.grow gA;refine Runs.step c9 ?_;refine Runs.step c9 ?_;obtain⟨s12,e12,n12⟩:=kmz ns9 k9;obtain⟨s14,e14,n14⟩:=kmz nt9 k9;rw[hal]at n12;rw[hbl]at n14;refine Runs.step e12 ?_;refine Runs.step (seen (asSl_v _)) ?_;refine Runs.when ((Grow.refl _).same_cell c9) ?_;refine Runs.when ((Grow.refl _).same_cell c9) ?_;refine Runs.step e14 ?_;refine Runs.step (seen (asSl_v _)) ?_;refine Runs.when ((Grow.refl _).same_cell c9) ?_;refine Runs.when ((Grow.refl _).same_cell c9) ?_;obtain⟨_,H16,e16,s16,rfl,n16,g16,o16⟩:=kln N (by omega) (by omega) n12 n14 c9;rw[kv B2,kv B2]at n16;refine Runs.step ((kmj p _ _ _).trans e16) ?_;refine Runs.step (seen (asSl_v _)) ?_;refine Runs.when (g16.same_cell c9) ?_;have c16:=g16.cell_some c9;have k16:=g16.cell_some k9;obtain⟨s18,e18,n18⟩:=kl8 (ns9.grow g16) k16;obtain⟨s20,e20,n20⟩:=kl8 (nt9.grow g16) k16;refine Runs.step e18 ?_;refine Runs.step (seen (asSl_v _)) ?_;refine Runs.when ((Grow.refl _).same_cell c16) ?_;refine Runs.step e20 ?_;refine Runs.step (seen (asSl_v _)) ?_;refine Runs.when ((Grow.refl _).same_cell c16) ?_;obtain⟨_,H22,e22,s22,rfl,n22,g22,o22⟩:=kln N (by omega) (by omega) n18 n20 c16;rw[hah,hbh]at n22;refine Runs.step ((kmj p _ _ _).trans e22) ?_;refine Runs.step (seen (asSl_v _)) ?_;have c22:=g22.cell_some c16;have k22:=g22.cell_some k16;have gB:=g16.trans g22;refine Runs.step c22 ?_;obtain⟨s25,e25,n25⟩:=kmz (ns9.grow gB) k22;obtain⟨s27,e27,n27⟩:=kl8 (ns9.grow gB) k22;rw[hal]at n25;refine Runs.step e25 ?_;refine Runs.step (seen (asSl_v _)) ?_;refine Runs.when ((Grow.refl _).same_cell c22) ?_;refine Runs.step e27 ?_;refine Runs.step (seen (asSl_v _)) ?_;refine Runs.when ((Grow.refl _).same_cell c22) ?_;obtain⟨s29,H29,zs,e29,n29,g29,o29,v29,l29⟩:=kw1 n25 n27 (by omega) (by omega);rw[kv B2,hah]at v29;refine Runs.step e29 ?_;refine Runs.step (seen (asSl_v _)) ?_;refine Runs.when (g29.same_cell c22) ?_;have c29:=g29.cell_some c22;have k29:=g29.cell_some k22;obtain⟨s31,e31,n31,_⟩:=kdd n29;rw[v29]at n31;refine Runs.step e31 ?_;refine Runs.step (seen (asSl_v _)) ?_;refine Runs.when ((Grow.refl _).same_cell c29) ?_;obtain⟨s33,e33,n33⟩:=kmz (nt9.grow (gB.trans g29)) k29;obtain⟨s35,e35,n35⟩:=kl8 (nt9.grow (gB.trans g29)) k29;rw[hbl]at n33;refine Runs.step e33 ?_;refine Runs.step (seen (asSl_v _)) ?_;refine Runs.when ((Grow.refl _).same_cell c29) ?_;refine Runs.step e35 ?_;refine Runs.step (seen (asSl_v _)) ?_;refine Runs.when ((Grow.refl _).same_cell c29) ?_;obtain⟨s37,H37,ws,e37,n37,g37,o37,v37,l37⟩:=kw1 n33 n35 (by omega) (by omega);rw[kv B2,hbh]at v37;refine Runs.step e37 ?_;refine Runs.step (seen (asSl_v _)) ?_;refine Runs.when (g37.same_cell c29) ?_;have c37:=g37.cell_some c29;have k37:=g37.cell_some k29;obtain⟨s39,e39,n39,_⟩:=kdd n37;rw[v37]at n39;refine Runs.step e39 ?_;refine Runs.step (seen (asSl_v _)) ?_;refine Runs.when ((Grow.refl _).same_cell c37) ?_;have q1:=ku9 B2 al ah;have q2:=ku9 B2 bl bh;obtain⟨_,H41,e41,s41,rfl,n41,g41,o41⟩:=kln N (by omega) (by omega) (n31.grow g37) n39 c37;rw[kv B2,kv B2]at n41;refine Runs.step ((kmj p _ _ _).trans e41) ?_;refine Runs.step (seen (asSl_v _)) ?_
  have mm:al*bl+ah*bh≤(al+ah)*(bl+bh):=by
   rw[Nat.add_mul,Nat.mul_add,Nat.mul_add];omega
  have gC:=g22.trans (g29.trans (g37.trans g41))
  have lm:(digs B ((al+ah)*(bl+bh))).length≤2*n+2:=by
   rw[kbi B2];have h1:=(kbi B2 (al+ah) (n+1)).1 (by omega);have h2:=(kbi B2 (bl+bh) (n+1)).1 (by omega);rw[show 2*n+2=(n+1)+(n+1)from by omega,Nat.pow_add];exact Nat.mul_lt_mul_of_lt_of_lt h1 h2
  obtain⟨s43,H43,us,e43,n43,g43,o43,v43,l43⟩:=kl1 n41 (n16.grow gC) (by omega) (kl3 (by omega)) (by rw[kv B2,kv B2];omega);rw[kv B2,kv B2]at v43;refine Runs.step e43 ?_;refine Runs.step (seen (asSl_v _)) ?_;obtain⟨s45,e45,n45,_⟩:=kdd n43;rw[v43]at n45;refine Runs.step e45 ?_;refine Runs.step (seen (asSl_v _)) ?_;have gD:=(g29.trans (g37.trans g41)).trans g43;have l45:=kl3 (a:=(al+ah)*(bl+bh)-al*bl) (c:=(al+ah)*(bl+bh)) (by omega);obtain⟨s47,H47,rs,e47,n47,g47,o47,v47,l47⟩:=kl1 n45 (n22.grow gD) (by omega) (kl3 (by omega)) (by rw[kv B2,kv B2];omega);rw[kv B2,kv B2]at v47;refine Runs.step e47 ?_;refine Runs.step (seen (asSl_v _)) ?_;obtain⟨s49,e49,n49,_⟩:=kdd n47;rw[v47]at n49;refine Runs.step e49 ?_;refine Runs.step (seen (asSl_v _)) ?_;have gE:Grow H9 H47:=(g16.trans gC).trans (g43.trans g47);have n16':=n16.grow ((gC.trans g43).trans g47);have n22':=n22.grow (gD.trans g47);have b47:=gE.has b9
  rw[show IntKind.wrap .i64 ((IntKind.wrap .i64 ((xs.length:Int)+(ys.length:Int)))+1)=((xs.length+ys.length+1:Nat):Int)from by
   rw[← Int.natCast_add,kbz (by omega),kf (by omega)]]
  refine Runs.mk (kfh (by omega)) kdw fun s51 H51 v51 g51=>?_;have total:=kbdg (B^n) al ah bl bh;rw[← ea,← eb]at total;generalize hm:(al+ah)*(bl+bh)-al*bl-ah*bh=m at *
  have lt:num B xs*num B ys<B^(xs.length+ys.length):=by
   rw[Nat.pow_add];exact Nat.mul_lt_mul_of_lt_of_lt (num_lt B1 ns.lt) (num_lt B1 nt.lt)
  have lt1:num B xs*num B ys<B^(xs.length+ys.length+1):=Nat.lt_of_lt_of_le lt (Nat.pow_le_pow_right B1 (by omega))
  have lp:(digs B (al*bl)).length≤xs.length+ys.length:=by
   rw[kbi B2];omega
  obtain⟨H52,e52,v52,u52⟩:=k3j (n16'.grow g51) v51 (by simp;omega);refine Runs.step e52 ?_;have i47:=b47.lt;have ne:h.blks.size≠H47.blks.size:=Nat.ne_of_lt i47;have b52:=AH.has.updr (g51.has b47) ne u52;refine Runs.step (AH.has.rd0 b52 rfl (kc _ _)) ?_;have av49:=Av.of_base n49 (Nat.le_refl _);have av22:=Av.of_base n22' (Nat.le_refl _)
  have w0:num B (digs B (al*bl)++(List.replicate (xs.length+ys.length+1) 0).drop (digs B (al*bl)).length)=al*bl:=by
   rw[List.drop_replicate,kjs,kv B2]
  have lw0:(digs B (al*bl)++(List.replicate (xs.length+ys.length+1) 0).drop (digs B (al*bl)).length).length=xs.length+ys.length+1:=by
   simp;omega
  generalize digs B (al*bl)++(List.replicate (xs.length+ys.length+1) 0).drop (digs B (al*bl)).length=o0 at *
  have lmm:=kl3 (a:=m) (c:=(al+ah)*(bl+bh)) (by omega);obtain⟨H54,o1,e54,v54,u54,l54,w54⟩:=kvh v52 ((n49.grow g51).upda av49 u52) av49 (at':=n) (by omega) (by omega) (by omega) (by rw[w0,kv B2,lw0];omega);refine Runs.step e54 ?_;refine Runs.step rfl ?_;have b54:=AH.has.updr b52 ne u54;refine Runs.step (AH.has.rd0 b54 rfl (kc _ _)) ?_;rw[show IntKind.wrap .i64 (2*(n:Int))=((2*n:Nat):Int)from by rw[wrap64 (by omega) (by omega)];omega];have pp:B^(2*n)=B^n*B^n:=by rw[← Nat.pow_add];congr 1;omega
  have lq:(digs B (ah*bh)).length≤xs.length+ys.length:=by
   rw[kbi B2];have:1*(ah*bh)≤B^n*B^n*(ah*bh):=Nat.mul_le_mul_right _ (Nat.mul_pos (Nat.pow_pos B1) (Nat.pow_pos B1));omega
  rw[w0,kv B2]at w54;obtain⟨H56,o2,e56,v56,u56,l56,w56⟩:=kvh v54 (((n22'.grow g51).upda av22 u52).upda av22 u54) av22 (at':=2*n) (by omega) (by omega) (by omega) (by rw[w54,kv B2,l54,lw0,pp];omega);rw[kv B2,w54,pp,← total]at w56;refine Runs.step e56 ?_;refine Runs.step rfl ?_;obtain⟨s57,e57,n57,o57⟩:=kdd v56.nats;rw[w56]at n57;refine Runs.step e57 ?_;refine Runs.step (seen (asSl_v _)) ?_;have gF:Grow h H47:=gA.trans gE;refine Runs.ret ⟨s57,rfl,n57,(((gF.trans g51).updr gF.size u52).updr gF.size u54).updr gF.size u56,o57 _ (v56.own gF.size)⟩
theorem k3z{h:AH}{s t:Sl}{xs ys:List Nat}(n:Nats h s xs)(m:Nats h t ys)(hl:xs.length+ys.length<268435456):∃(s':Sl)(h':AH),go (.fn kki [s.v,t.v]) h=some (s'.v,h')∧Nats h' s' (digs B (num B xs*num B ys))∧Grow h h'∧Own h s':=by
 have key:Runs (go (.fn kki [s.v,t.v]) h) fun v h'=>∃s':Sl,v=s'.v∧Nats h' s' (digs B (num B xs*num B ys))∧Grow h h'∧Own h s':=by
  rw[k32];refine Runs.new fun H3 b3 g3=>?_;refine Runs.puts b3 rfl fun H4 b4 u4=>?_;have gA:=g3.updr (Nat.le_refl _) u4;have c4:H4.cell (.new h.blks.size 0)=some (kou (.new h.blks.size 0)):=b4.cell 0;refine Runs.step c4 ?_;obtain⟨_,H6,e6,s6,rfl,n6,g6,o6⟩:=kln 268435456 hl (Nat.le_refl _) (n.grow gA) (m.grow gA) c4;refine Runs.step ((kmj _ _ _ _).trans e6) ?_;refine Runs.step (seen (asSl_v _)) ?_;exact Runs.ret ⟨s6,rfl,n6,gA.trans g6,o6.of_le gA⟩
 obtain⟨_,h',e,s',rfl,k⟩:=key;exact⟨s',h',e,k⟩
def mulN(xs ys:List Nat):List Nat×Int:=if rt xs=true∧rt ys=true then told (num B xs*num B ys)else([],1)
theorem kpl{h:AH}{s t:Sl}{xs ys:List Nat}(n:Nats h s xs)(m:Nats h t ys):∃(s':Sl)(h':AH),go (.fn kjx [s.v,t.v]) h=some (.tup [s'.v,.int .i64 (mulN xs ys).2],h')∧Nats h' s' (mulN xs ys).1∧Grow h h'∧Own h s':=by
 rw[kbda];simp only[kkb];have r:=Rows.two n m;have g:=Grow.push h (.cells [s.v,t.v] kr);generalize h.push (.cells [s.v,t.v] kr)=h0 at *
 rw[kl7 r];simp only[Option.bind_some,khz,List.all_cons,List.all_nil,Bool.and_true];cases hx:rt xs with
 | false=>exact⟨⟨none,0,.is 0⟩,h0,by simp[mulN,hx],by simpa[mulN,hx]using Nats.nil h0,g,Own.nil h⟩
 | true =>
  cases hy:rt ys with
  | false=>exact⟨⟨none,0,.is 0⟩,h0,by simp[mulN,hx,hy],by simpa[mulN,hx,hy]using Nats.nil h0,g,Own.nil h⟩
  | true =>
   simp only[Bool.and_self,Bool.not_true,cond_false];have lx:=(rt_iff.1 hx).1;have ly:=(rt_iff.1 hy).1;rw[show mulN xs ys=told (num B xs*num B ys)from by simp[mulN,hx,hy]];obtain⟨s1,h1,e1,n1,g1,o1⟩:=k3z (n.grow g) (m.grow g) (by omega);obtain⟨s2,e2,n2,o2⟩:=koj n1;rw[kv B2]at e2 n2;refine⟨s2,h1,?_,n2,g.trans g1,o2 _ (o1.of_le g)⟩;simp only[e1,e2,Option.bind_some,asSl_v,khq,kc]
def Bl(x n:Nat):Prop:=x<2^n∧(n=0∨2^(n-1)≤x)
def bl(i:Nat):Nat:=if i=0 then 0 else Nat.log2 i+1
theorem k65:∀i:Nat,i<256→(lit1[i]?).map (·.toNat)=some (bl i):=by decide +kernel
theorem bl_Bl(i:Nat):Bl i (bl i):=by
 unfold bl Bl;by_cases h:i=0
 ·subst h;simp
 ·rw[if_neg h];refine⟨Nat.lt_log2_self,.inr ?_⟩
  simpa using Nat.log2_self_le h
theorem k72{i:Nat}(h:i<256):∃b:UInt8,lit1[i]?=some b∧Bl i b.toNat:=by
 have e:=k65 i h;rw[Option.map_eq_some_iff]at e;obtain⟨b,e1,e2⟩:=e;exact⟨b,e1,by rw[e2];exact bl_Bl i⟩
theorem Bl.up{x k n:Nat}(b:Bl (x/2^k) n)(h:0<x/2^k):Bl x (k+n):=by
 obtain⟨h1,h2⟩:=b;have p:0<2^k:=Nat.pow_pos (by decide);refine⟨?_,.inr ?_⟩
 ·rw[Nat.pow_add,Nat.mul_comm];exact(Nat.div_lt_iff_lt_mul p).1 h1
 ·rcases h2 with rfl | h2
  ·rw[Nat.pow_zero]at h1;omega
  ·by_cases hn:n=0
   ·subst hn;rw[Nat.pow_zero]at h1;omega
   ·rw[show k+n-1=k+(n-1)from by omega,Nat.pow_add,Nat.mul_comm];exact(Nat.le_div_iff_mul_le p).1 h2
theorem Bl.le{x n:Nat}(b:Bl x n){m:Nat}(h:x<2^m):n≤m:=by
 rcases b.2 with h1 | h1
 ·omega
 ·rcases Nat.lt_or_ge m n with h2 | h2
  ·have:2^m≤2^(n-1):=Nat.pow_le_pow_right (by decide) (by omega);omega
  ·exact h2
theorem wrap8{n:Nat}(h:n<256):IntKind.wrap .u8 (n:Int)=(n:Int):=by
 simp[IntKind.wrap,IntKind.bits,IntKind.signed];omega
theorem kfi{x:Nat}(hx:x<256){P:AV→AH→Prop}{h:AH}{K:Int→Int}(H:∀n:Nat,Bl x n→n≤8→P (.int .i64 (K (n:Int))) h) :
  Runs (cond (decide (0≤(IntKind.wrap .u8 (x:Int)))) ((lit1[Int.toNat (IntKind.wrap .u8 (x:Int))]?).bind fun b=>some (.int .i64 (K (IntKind.wrap .i64 (b.toNat:Int))),h)) none) P:=by
 rw[wrap8 hx,Int.toNat_natCast];obtain⟨b,e1,e2⟩:=k72 hx;refine Runs.ifT (by rw[decide_eq_true_eq];omega) ?_;refine Runs.step e1 ?_;have:=e2.le (m:=8) hx;rw[kbz (by omega)];exact Runs.ret (H _ e2 this)
theorem kul{x:Nat}(hx:x<18446744073709551616){h:AH}:∃n:Nat,go (.fn khx [.int .u64 (x:Int)]) h=some (.int .i64 (n:Int),h)∧Bl x n:=by
 have key:Runs (go (.fn khx [.int .u64 (x:Int)]) h) fun v h'=>∃n:Nat,v=.int .i64 (n:Int)∧h'=h∧Bl x n:=by
  rw[kbb2];have s32:ishr .u64 (x:Int) 32=((x/2^32:Nat):Int):=kb3 x 32;have s16:ishr .u64 (x:Int) 16=((x/2^16:Nat):Int):=kb3 x 16;have s8:ishr .u64 (x:Int) 8=((x/2^8:Nat):Int):=kb3 x 8;have s3216:ishr .u64 ((x/2^32:Nat):Int) 16=((x/2^32/2^16:Nat):Int):=kb3 _ 16;have s328:ishr .u64 ((x/2^32:Nat):Int) 8=((x/2^32/2^8:Nat):Int):=kb3 _ 8;have s168:ishr .u64 ((x/2^16:Nat):Int) 8=((x/2^16/2^8:Nat):Int):=kb3 _ 8;have s32168:ishr .u64 ((x/2^32/2^16:Nat):Int) 8=((x/2^32/2^16/2^8:Nat):Int):=kb3 _ 8;rw[s32,s3216,s32168,s328,s16,s168,s8];refine Runs.cond (fun k1=>?_) (fun k1=>?_)
  ·rw[decide_eq_true_eq]at k1;refine Runs.cond (fun k2=>?_) (fun k2=>?_)
   ·rw[decide_eq_true_eq]at k2;refine Runs.cond (fun k3=>?_) (fun k3=>?_)
    ·rw[decide_eq_true_eq]at k3;refine kfi (K:=fun n=>IntKind.wrap .i64 ((IntKind.wrap .i64 ((IntKind.wrap .i64 (32+16))+8))+n)) (by omega) fun n b hn=>⟨32+(16+(8+n)),?_,rfl,((b.up (by omega)).up (by omega)).up (by omega)⟩;rw[show(IntKind.wrap .i64 ((IntKind.wrap .i64 (32+16))+8))=56 from by decide,wrap64 (by omega) (by omega)];congr 1;omega
    ·rw[decide_eq_false_iff_not]at k3;refine kfi (K:=fun n=>IntKind.wrap .i64 ((IntKind.wrap .i64 (32+16))+n)) (by omega) fun n b hn=>⟨32+(16+n),?_,rfl,(b.up (by omega)).up (by omega)⟩;rw[show(IntKind.wrap .i64 (32+16))=48 from by decide,wrap64 (by omega) (by omega)];congr 1;omega
   ·rw[decide_eq_false_iff_not]at k2;refine Runs.cond (fun k3=>?_) (fun k3=>?_)
    ·rw[decide_eq_true_eq]at k3;refine kfi (K:=fun n=>IntKind.wrap .i64 ((IntKind.wrap .i64 (32+8))+n)) (by omega) fun n b hn=>⟨32+(8+n),?_,rfl,(b.up (by omega)).up (by omega)⟩;rw[show(IntKind.wrap .i64 (32+8))=40 from by decide,wrap64 (by omega) (by omega)];congr 1;omega
    ·rw[decide_eq_false_iff_not]at k3;refine kfi (K:=fun n=>IntKind.wrap .i64 (32+n)) (by omega) fun n b hn=>⟨32+n,?_,rfl,b.up (by omega)⟩;rw[wrap64 (by omega) (by omega)];congr 1
  ·rw[decide_eq_false_iff_not]at k1;refine Runs.cond (fun k2=>?_) (fun k2=>?_)
   ·rw[decide_eq_true_eq]at k2;refine Runs.cond (fun k3=>?_) (fun k3=>?_)
    ·rw[decide_eq_true_eq]at k3;refine kfi (K:=fun n=>IntKind.wrap .i64 ((IntKind.wrap .i64 ((IntKind.wrap .i64 (0+16))+8))+n)) (by omega) fun n b hn=>⟨16+(8+n),?_,rfl,(b.up (by omega)).up (by omega)⟩;rw[show(IntKind.wrap .i64 ((IntKind.wrap .i64 (0+16))+8))=24 from by decide,wrap64 (by omega) (by omega)];congr 1;omega
    ·rw[decide_eq_false_iff_not]at k3;refine kfi (K:=fun n=>IntKind.wrap .i64 ((IntKind.wrap .i64 (0+16))+n)) (by omega) fun n b hn=>⟨16+n,?_,rfl,b.up (by omega)⟩;rw[show(IntKind.wrap .i64 (0+16))=16 from by decide,wrap64 (by omega) (by omega)];congr 1
   ·rw[decide_eq_false_iff_not]at k2;refine Runs.cond (fun k3=>?_) (fun k3=>?_)
    ·rw[decide_eq_true_eq]at k3;refine kfi (K:=fun n=>IntKind.wrap .i64 ((IntKind.wrap .i64 (0+8))+n)) (by omega) fun n b hn=>⟨8+n,?_,rfl,b.up (by omega)⟩;rw[show(IntKind.wrap .i64 (0+8))=8 from by decide,wrap64 (by omega) (by omega)];congr 1
    ·rw[decide_eq_false_iff_not]at k3;refine kfi (K:=fun n=>IntKind.wrap .i64 (0+n)) (by omega) fun n b hn=>⟨n,?_,rfl,b⟩;rw[wrap64 (by omega) (by omega)];congr 1;omega
 obtain⟨_,_,e,n,rfl,rfl,b⟩:=key;exact⟨n,e,b⟩
theorem Bl.uniq{x n m:Nat}(a:Bl x n)(b:Bl x m):n=m:=Nat.le_antisymm (a.le b.1) (b.le a.1)
theorem kv2(a:Int){h:AH}(ha:0≤a∧a<18446744073709551616):go (.fn knj [.int .u64 a]) h=some (.int .i64 ((64-bl a.toNat:Nat):Int),h):=by
 obtain⟨x,rfl⟩:∃x:Nat,a=(x:Int):=⟨a.toNat,by omega⟩;obtain⟨l,e,b⟩:=kul (x:=x) (by omega) (h:=h);have hl:=b.le (m:=64) (show x<2^64 by omega);have:=b.uniq (bl_Bl x);subst this;rw[kbeu,e,Option.bind_some,Option.bind_some,kc,Option.bind_some,Int.toNat_natCast,wrap64 (by omega) (by omega)];rw[show(64:Int)-(bl x:Int)=((64-bl x:Nat):Int)from by omega]
theorem kts{x:Nat}(hx:x<18446744073709551616)(h0:0<x):64-bl x≤63∧9223372036854775808≤x*2^(64-bl x)∧x*2^(64-bl x)<18446744073709551616:=by
 have b:=bl_Bl x;generalize bl x=l at b;have hl:=b.le (m:=64) (show x<2^64 by omega)
 have hl1:1≤l:=by
  rcases Nat.eq_zero_or_pos l with e | e
  ·subst e;have:=b.1;rw[Nat.pow_zero]at this;omega
  ·exact e
 refine⟨by omega,?_,?_⟩
 ·rcases b.2 with h1 | h1
  ·omega
  ·have h2:2^(l-1)*2^(64-l)≤x*2^(64-l):=Nat.mul_le_mul_right _ h1;rw[← Nat.pow_add,show l-1+(64-l)=63 from by omega]at h2;exact h2
 ·have h2:x*2^(64-l)<2^l*2^(64-l):=Nat.mul_lt_mul_of_pos_right b.1 (Nat.pow_pos (by decide));rw[← Nat.pow_add,show l+(64-l)=64 from by omega]at h2;exact h2
theorem khn(x n:Nat)(hn:n≤64):ishl .u64 (x:Int) (n:Int)=((x*2^n%18446744073709551616:Nat):Int):=by
 unfold ishl;rw[Int.toNat_natCast,show IntKind.bits .u64=64 from rfl,Nat.min_eq_left hn,wrapU];have:(x:Int)*(2:Int)^n=((x*2^n:Nat):Int):=by simp
 rw[this];rfl
theorem km5{a c s:Nat}(h:a*2^s<18446744073709551616)(hc:c<2^s)(hs:s≤64):ior .u64 ((a*2^s:Nat):Int) (c:Int)=((a*2^s+c:Nat):Int):=by
 have p:0<2^s:=Nat.pow_pos (by decide);have hc':c<18446744073709551616:=show c<2^64 from Nat.lt_of_lt_of_le hc (Nat.pow_le_pow_right (by decide) hs)
 have hsum:a*2^s+c<18446744073709551616:=by
  have e:2^(64-s)*2^s=18446744073709551616:=by rw[← Nat.pow_add,show 64-s+s=64 from by omega]
  have h1:a<2^(64-s):=Nat.lt_of_mul_lt_mul_right (a:=2^s) (by rw[e];exact h);have h2:(a+1)*2^s≤2^(64-s)*2^s:=Nat.mul_le_mul_right _ h1;rw[e,Nat.add_mul,Nat.one_mul]at h2;omega
 unfold ior;rw[show IntKind.bits .u64=64 from rfl,wrapU];have e1:BitVec.ofInt 64 ((a*2^s:Nat):Int)=BitVec.ofNat 64 (a*2^s):=rfl;have e2:BitVec.ofInt 64 (c:Int)=BitVec.ofNat 64 c:=rfl;have e3:=Nat.shiftLeft_add_eq_or_of_lt hc a;rw[Nat.shiftLeft_eq]at e3;rw[e1,e2,BitVec.toNat_or,BitVec.toNat_ofNat,BitVec.toNat_ofNat,Nat.mod_eq_of_lt (show a*2^s<2^64 from h),Nat.mod_eq_of_lt (show c<2^64 from hc'),← e3];omega
inductive kcb
 | fn (a1:Int) (a2:Int) (a3:Int)
 | p3 (a1:Int) (a2:Int) (a3:Int)
 | p17 (a1:Int) (a2:Int) (a3:Int) (a4:Int) (a5:Int) (a6:Int) (a7:Int) (a8:Int) (a9:Int)
 | p24 (a1:Int) (a2:Int) (a3:Int) (a4:Int) (a5:Int) (a6:Int) (a7:Int) (a8:Int) (a9:Int)
abbrev kbj:=Int×Int
noncomputable def kj5(a1 a2 a3:Int):Option (kcb⊕kbj) :=
 cond (decide (a3=0)) (none) (some (.inl (.p3 a1 a2 a3)))
noncomputable def kgf(a1 a2 a3:Int):Option (kcb⊕kbj) :=
 cond (decide (a3≤a1)) (none) (cond (decide (a1=0)) (cond (decide (a3=0)) (none) (cond (decide (a3=0)) (none) (some (.inr (IntKind.wrap .u64 (Int.tdiv a2 a3),Int.tmod a2 a3))))) ((need (0≤a3∧a3<18446744073709551616)).bind fun c6_0=>cond (decide ((IntKind.wrap .u64 (((64-bl (Int.toNat a3):Nat):Int)))<0)) (none) (cond (decide ((IntKind.wrap .u64 (((64-bl (Int.toNat a3):Nat):Int)))<0)) (none) (cond (decide ((IntKind.wrap .u64 (64-(IntKind.wrap .u64 (((64-bl (Int.toNat a3):Nat):Int)))))<0)) (none) (cond (decide ((IntKind.wrap .u64 (((64-bl (Int.toNat a3):Nat):Int)))<0)) (none) (cond (decide ((ishr .u64 (ishl .u64 a3 (IntKind.wrap .u64 (((64-bl (Int.toNat a3):Nat):Int)))) 32)=0)) (none) (some (.inl (.p17 (ishl .u64 a3 (IntKind.wrap .u64 (((64-bl (Int.toNat a3):Nat):Int)))) (IntKind.wrap .u64 (((64-bl (Int.toNat a3):Nat):Int))) (ishr .u64 (ishl .u64 a3 (IntKind.wrap .u64 (((64-bl (Int.toNat a3):Nat):Int)))) 32) (iand .u64 (ishl .u64 a3 (IntKind.wrap .u64 (((64-bl (Int.toNat a3):Nat):Int)))) 4294967295) (ior .u64 (ishl .u64 a1 (IntKind.wrap .u64 (((64-bl (Int.toNat a3):Nat):Int)))) (ishr .u64 a2 (IntKind.wrap .u64 (64-(IntKind.wrap .u64 (((64-bl (Int.toNat a3):Nat):Int))))))) (ishr .u64 (ishl .u64 a2 (IntKind.wrap .u64 (((64-bl (Int.toNat a3):Nat):Int)))) 32) (iand .u64 (ishl .u64 a2 (IntKind.wrap .u64 (((64-bl (Int.toNat a3):Nat):Int)))) 4294967295) (IntKind.wrap .u64 (Int.tdiv (ior .u64 (ishl .u64 a1 (IntKind.wrap .u64 (((64-bl (Int.toNat a3):Nat):Int)))) (ishr .u64 a2 (IntKind.wrap .u64 (64-(IntKind.wrap .u64 (((64-bl (Int.toNat a3):Nat):Int))))))) (ishr .u64 (ishl .u64 a3 (IntKind.wrap .u64 (((64-bl (Int.toNat a3):Nat):Int)))) 32))) (IntKind.wrap .u64 ((ior .u64 (ishl .u64 a1 (IntKind.wrap .u64 (((64-bl (Int.toNat a3):Nat):Int)))) (ishr .u64 a2 (IntKind.wrap .u64 (64-(IntKind.wrap .u64 (((64-bl (Int.toNat a3):Nat):Int)))))))-(IntKind.wrap .u64 ((IntKind.wrap .u64 (Int.tdiv (ior .u64 (ishl .u64 a1 (IntKind.wrap .u64 (((64-bl (Int.toNat a3):Nat):Int)))) (ishr .u64 a2 (IntKind.wrap .u64 (64-(IntKind.wrap .u64 (((64-bl (Int.toNat a3):Nat):Int))))))) (ishr .u64 (ishl .u64 a3 (IntKind.wrap .u64 (((64-bl (Int.toNat a3):Nat):Int)))) 32)))*(ishr .u64 (ishl .u64 a3 (IntKind.wrap .u64 (((64-bl (Int.toNat a3):Nat):Int)))) 32))))))))))))))
noncomputable def keq(a1 a2 a3 a4 a5 a6 a7 a8 a9:Int):Option (kcb⊕kbj) :=
 cond (decide (a8≥4294967296)) (cond (decide ((IntKind.wrap .u64 (a9+a3))≥4294967296)) (cond (decide (a3=0)) (none) (some (.inl (.p24 a1 a2 a3 a4 a7 (IntKind.wrap .u64 (a8-1)) (IntKind.wrap .u64 ((IntKind.wrap .u64 ((IntKind.wrap .u64 ((IntKind.wrap .u64 (a5*4294967296))+a6))-(IntKind.wrap .u64 ((IntKind.wrap .u64 (a8-1))*a1))))-(IntKind.wrap .u64 ((IntKind.wrap .u64 (Int.tdiv (IntKind.wrap .u64 ((IntKind.wrap .u64 ((IntKind.wrap .u64 (a5*4294967296))+a6))-(IntKind.wrap .u64 ((IntKind.wrap .u64 (a8-1))*a1)))) a3))*a3)))) (IntKind.wrap .u64 ((IntKind.wrap .u64 ((IntKind.wrap .u64 (a5*4294967296))+a6))-(IntKind.wrap .u64 ((IntKind.wrap .u64 (a8-1))*a1)))) (IntKind.wrap .u64 (Int.tdiv (IntKind.wrap .u64 ((IntKind.wrap .u64 ((IntKind.wrap .u64 (a5*4294967296))+a6))-(IntKind.wrap .u64 ((IntKind.wrap .u64 (a8-1))*a1)))) a3)))))) (some (.inl (.p17 a1 a2 a3 a4 a5 a6 a7 (IntKind.wrap .u64 (a8-1)) (IntKind.wrap .u64 (a9+a3)))))) (cond (decide ((IntKind.wrap .u64 (a8*a4))>(IntKind.wrap .u64 ((IntKind.wrap .u64 (4294967296*a9))+a6)))) (cond (decide ((IntKind.wrap .u64 (a9+a3))≥4294967296)) (cond (decide (a3=0)) (none) (some (.inl (.p24 a1 a2 a3 a4 a7 (IntKind.wrap .u64 (a8-1)) (IntKind.wrap .u64 ((IntKind.wrap .u64 ((IntKind.wrap .u64 ((IntKind.wrap .u64 (a5*4294967296))+a6))-(IntKind.wrap .u64 ((IntKind.wrap .u64 (a8-1))*a1))))-(IntKind.wrap .u64 ((IntKind.wrap .u64 (Int.tdiv (IntKind.wrap .u64 ((IntKind.wrap .u64 ((IntKind.wrap .u64 (a5*4294967296))+a6))-(IntKind.wrap .u64 ((IntKind.wrap .u64 (a8-1))*a1)))) a3))*a3)))) (IntKind.wrap .u64 ((IntKind.wrap .u64 ((IntKind.wrap .u64 (a5*4294967296))+a6))-(IntKind.wrap .u64 ((IntKind.wrap .u64 (a8-1))*a1)))) (IntKind.wrap .u64 (Int.tdiv (IntKind.wrap .u64 ((IntKind.wrap .u64 ((IntKind.wrap .u64 (a5*4294967296))+a6))-(IntKind.wrap .u64 ((IntKind.wrap .u64 (a8-1))*a1)))) a3)))))) (some (.inl (.p17 a1 a2 a3 a4 a5 a6 a7 (IntKind.wrap .u64 (a8-1)) (IntKind.wrap .u64 (a9+a3)))))) (cond (decide (a3=0)) (none) (some (.inl (.p24 a1 a2 a3 a4 a7 a8 (IntKind.wrap .u64 ((IntKind.wrap .u64 ((IntKind.wrap .u64 ((IntKind.wrap .u64 (a5*4294967296))+a6))-(IntKind.wrap .u64 (a8*a1))))-(IntKind.wrap .u64 ((IntKind.wrap .u64 (Int.tdiv (IntKind.wrap .u64 ((IntKind.wrap .u64 ((IntKind.wrap .u64 (a5*4294967296))+a6))-(IntKind.wrap .u64 (a8*a1)))) a3))*a3)))) (IntKind.wrap .u64 ((IntKind.wrap .u64 ((IntKind.wrap .u64 (a5*4294967296))+a6))-(IntKind.wrap .u64 (a8*a1)))) (IntKind.wrap .u64 (Int.tdiv (IntKind.wrap .u64 ((IntKind.wrap .u64 ((IntKind.wrap .u64 (a5*4294967296))+a6))-(IntKind.wrap .u64 (a8*a1)))) a3)))))))
noncomputable def ke8(a1 a2 a3 a4 a5 a6 a7 a8 a9:Int):Option (kcb⊕kbj) :=
 cond (decide (a9≥4294967296)) (cond (decide ((IntKind.wrap .u64 (a7+a3))≥4294967296)) (cond (decide (a2<0)) (none) (some (.inr (IntKind.wrap .u64 ((IntKind.wrap .u64 (a6*4294967296))+(IntKind.wrap .u64 (a9-1))),ishr .u64 (IntKind.wrap .u64 ((IntKind.wrap .u64 ((IntKind.wrap .u64 (a8*4294967296))+a5))-(IntKind.wrap .u64 ((IntKind.wrap .u64 (a9-1))*a1)))) a2)))) (some (.inl (.p24 a1 a2 a3 a4 a5 a6 (IntKind.wrap .u64 (a7+a3)) a8 (IntKind.wrap .u64 (a9-1)))))) (cond (decide ((IntKind.wrap .u64 (a9*a4))>(IntKind.wrap .u64 ((IntKind.wrap .u64 (4294967296*a7))+a5)))) (cond (decide ((IntKind.wrap .u64 (a7+a3))≥4294967296)) (cond (decide (a2<0)) (none) (some (.inr (IntKind.wrap .u64 ((IntKind.wrap .u64 (a6*4294967296))+(IntKind.wrap .u64 (a9-1))),ishr .u64 (IntKind.wrap .u64 ((IntKind.wrap .u64 ((IntKind.wrap .u64 (a8*4294967296))+a5))-(IntKind.wrap .u64 ((IntKind.wrap .u64 (a9-1))*a1)))) a2)))) (some (.inl (.p24 a1 a2 a3 a4 a5 a6 (IntKind.wrap .u64 (a7+a3)) a8 (IntKind.wrap .u64 (a9-1)))))) (cond (decide (a2<0)) (none) (some (.inr (IntKind.wrap .u64 ((IntKind.wrap .u64 (a6*4294967296))+a9),ishr .u64 (IntKind.wrap .u64 ((IntKind.wrap .u64 ((IntKind.wrap .u64 (a8*4294967296))+a5))-(IntKind.wrap .u64 (a9*a1)))) a2)))))
noncomputable def kdx:kcb→Option (kcb⊕kbj)
 | .fn a1 a2 a3=>kj5 a1 a2 a3
 | .p3 a1 a2 a3=>kgf a1 a2 a3
 | .p17 a1 a2 a3 a4 a5 a6 a7 a8 a9=>keq a1 a2 a3 a4 a5 a6 a7 a8 a9
 | .p24 a1 a2 a3 a4 a5 a6 a7 a8 a9=>ke8 a1 a2 a3 a4 a5 a6 a7 a8 a9
@[reducible] def km6(h0:AH)(r:kbj)(v:AV)(h':AH):Prop:=v=.tup [.int .u64 r.1,.int .u64 r.2]∧Grow h0 h'
def ke1(r:kbj):kcb→Prop
 | .fn a1 a2 a3=>∀{h:AH},Runs (go (.fn kbl [.int .u64 a1,.int .u64 a2,.int .u64 a3]) h) (km6 h r)
 | .p3 a1 a2 a3=>∀{h0 h:AH},Grow h0 h→Runs (go (.pt kbl kpi [(0,.int .u64 a1),(1,.int .u64 a2),(2,.int .u64 a3)]) h) (km6 h0 r)
 | .p17 a1 a2 a3 a4 a5 a6 a7 a8 a9=>∀{h0 h:AH},Grow h0 h→Runs (go (.pt kbl kja [(2,.int .u64 a1),(8,.int .u64 a2),(9,.int .u64 a3),(10,.int .u64 a4),(11,.int .u64 a5),(13,.int .u64 a6),(14,.int .u64 a7),(15,.int .u64 a8),(16,.int .u64 a9)]) h) (km6 h0 r)
 | .p24 a1 a2 a3 a4 a5 a6 a7 a8 a9=>∀{h0 h:AH},Grow h0 h→Runs (go (.pt kbl kf9 [(2,.int .u64 a1),(8,.int .u64 a2),(9,.int .u64 a3),(10,.int .u64 a4),(14,.int .u64 a5),(15,.int .u64 a6),(16,.int .u64 a7),(17,.int .u64 a8),(18,.int .u64 a9)]) h) (km6 h0 r)
theorem k4w{r:kbj}{o:kcb⊕kbj}{a1 a2 a3:Int}(e:kj5 a1 a2 a3=some o)(good:GoodS (ke1 r) r o):ke1 r (.fn a1 a2 a3):=by
 intro h;rw[k5r];unfold kj5 at e;refine Runs.cond (fun k4=>?_) (fun k4=>?_)
 ·replace e:=(condT k4).symm.trans e;cases e
 ·replace e:=(condF k4).symm.trans e;cases e;exact good (Grow.refl _)
theorem kbdo{r:kbj}{o:kcb⊕kbj}{a1 a2 a3:Int}(e:kgf a1 a2 a3=some o)(good:GoodS (ke1 r) r o):ke1 r (.p3 a1 a2 a3):=by
 intro h0 h g0;rw[k9s];unfold kgf at e;refine Runs.cond (fun k4=>?_) (fun k4=>?_)
 ·replace e:=(condT k4).symm.trans e;cases e
 ·replace e:=(condF k4).symm.trans e;refine Runs.cond (fun k5=>?_) (fun k5=>?_)
  ·replace e:=(condT k5).symm.trans e;refine Runs.cond (fun k6=>?_) (fun k6=>?_)
   ·replace e:=(condT k6).symm.trans e;cases e
   ·replace e:=(condF k6).symm.trans e;refine Runs.cond (fun k7=>?_) (fun k7=>?_)
    ·replace e:=(condT k7).symm.trans e;cases e
    ·replace e:=(condF k7).symm.trans e;cases e;cases good;exact Runs.ret ⟨rfl,g0⟩
  ·replace e:=(condF k5).symm.trans e;obtain⟨c6_0,q6_0,e⟩:=Option.bind_eq_some_iff.1 e;refine Runs.step (kv2 a3  c6_0.down) ?_;refine Runs.step (seen (kc _ _)) ?_;refine Runs.cond (fun k7=>?_) (fun k7=>?_)
   ·replace e:=(condT k7).symm.trans e;cases e
   ·replace e:=(condF k7).symm.trans e;refine Runs.cond (fun k8=>?_) (fun k8=>?_)
    ·replace e:=(condT k8).symm.trans e;cases e
    ·replace e:=(condF k8).symm.trans e;refine Runs.cond (fun k9=>?_) (fun k9=>?_)
     ·replace e:=(condT k9).symm.trans e;cases e
     ·replace e:=(condF k9).symm.trans e;refine Runs.cond (fun k10=>?_) (fun k10=>?_)
      ·replace e:=(condT k10).symm.trans e;cases e
      ·replace e:=(condF k10).symm.trans e;refine Runs.cond (fun k11=>?_) (fun k11=>?_)
       ·replace e:=(condT k11).symm.trans e;cases e
       ·replace e:=(condF k11).symm.trans e;cases e;exact good g0
theorem k2m{r:kbj}{o:kcb⊕kbj}{a1 a2 a3 a4 a5 a6 a7 a8 a9:Int}(e:keq a1 a2 a3 a4 a5 a6 a7 a8 a9=some o)(good:GoodS (ke1 r) r o):ke1 r (.p17 a1 a2 a3 a4 a5 a6 a7 a8 a9):=by
 intro h0 h g0;rw[k28];unfold keq at e;refine Runs.cond (fun k10=>?_) (fun k10=>?_)
 ·replace e:=(condT k10).symm.trans e;refine Runs.cond (fun k11=>?_) (fun k11=>?_)
  ·replace e:=(condT k11).symm.trans e;refine Runs.cond (fun k12=>?_) (fun k12=>?_)
   ·replace e:=(condT k12).symm.trans e;cases e
   ·replace e:=(condF k12).symm.trans e;cases e;exact good g0
  ·replace e:=(condF k11).symm.trans e;cases e;exact good g0
 ·replace e:=(condF k10).symm.trans e;refine Runs.cond (fun k11=>?_) (fun k11=>?_)
  ·replace e:=(condT k11).symm.trans e;refine Runs.cond (fun k12=>?_) (fun k12=>?_)
   ·replace e:=(condT k12).symm.trans e;refine Runs.cond (fun k13=>?_) (fun k13=>?_)
    ·replace e:=(condT k13).symm.trans e;cases e
    ·replace e:=(condF k13).symm.trans e;cases e;exact good g0
   ·replace e:=(condF k12).symm.trans e;cases e;exact good g0
  ·replace e:=(condF k11).symm.trans e;refine Runs.cond (fun k12=>?_) (fun k12=>?_)
   ·replace e:=(condT k12).symm.trans e;cases e
   ·replace e:=(condF k12).symm.trans e;cases e;exact good g0
theorem k90{r:kbj}{o:kcb⊕kbj}{a1 a2 a3 a4 a5 a6 a7 a8 a9:Int}(e:ke8 a1 a2 a3 a4 a5 a6 a7 a8 a9=some o)(good:GoodS (ke1 r) r o):ke1 r (.p24 a1 a2 a3 a4 a5 a6 a7 a8 a9):=by
 intro h0 h g0;rw[k3c];unfold ke8 at e;refine Runs.cond (fun k10=>?_) (fun k10=>?_)
 ·replace e:=(condT k10).symm.trans e;refine Runs.cond (fun k11=>?_) (fun k11=>?_)
  ·replace e:=(condT k11).symm.trans e;refine Runs.cond (fun k12=>?_) (fun k12=>?_)
   ·replace e:=(condT k12).symm.trans e;cases e
   ·replace e:=(condF k12).symm.trans e;cases e;cases good;exact Runs.ret ⟨rfl,g0⟩
  ·replace e:=(condF k11).symm.trans e;cases e;exact good g0
 ·replace e:=(condF k10).symm.trans e;refine Runs.cond (fun k11=>?_) (fun k11=>?_)
  ·replace e:=(condT k11).symm.trans e;refine Runs.cond (fun k12=>?_) (fun k12=>?_)
   ·replace e:=(condT k12).symm.trans e;refine Runs.cond (fun k13=>?_) (fun k13=>?_)
    ·replace e:=(condT k13).symm.trans e;cases e
    ·replace e:=(condF k13).symm.trans e;cases e;cases good;exact Runs.ret ⟨rfl,g0⟩
   ·replace e:=(condF k12).symm.trans e;cases e;exact good g0
  ·replace e:=(condF k11).symm.trans e;refine Runs.cond (fun k12=>?_) (fun k12=>?_)
   ·replace e:=(condT k12).symm.trans e;cases e
   ·replace e:=(condF k12).symm.trans e;cases e;cases good;exact Runs.ret ⟨rfl,g0⟩
theorem k4q{s:kcb}{r:kbj}(it:Iter kdx s r):ke1 r s:=Iter.ind (fun s o e good=>by
 cases s with
 | fn a1 a2 a3=>exact @k4w _ _ a1 a2 a3 e good
 | p3 a1 a2 a3=>exact @kbdo _ _ a1 a2 a3 e good
 | p17 a1 a2 a3 a4 a5 a6 a7 a8 a9=>exact @k2m _ _ a1 a2 a3 a4 a5 a6 a7 a8 a9 e good
 | p24 a1 a2 a3 a4 a5 a6 a7 a8 a9=>exact @k90 _ _ a1 a2 a3 a4 a5 a6 a7 a8 a9 e good
 ) it
theorem kog(a c:Nat):Int.tdiv (a:Int) (c:Int)=((a/c:Nat):Int):=rfl
theorem kbew(a c:Nat):Int.tmod (a:Int) (c:Int)=((a%c:Nat):Int):=rfl
def st24(a1 a2 a3 a4 a5 a6 a7 q:Int):kcb :=
 .p24 a1 a2 a3 a4 a7 q (IntKind.wrap .u64 ((IntKind.wrap .u64 ((IntKind.wrap .u64 ((IntKind.wrap .u64 (a5*4294967296))+a6))-(IntKind.wrap .u64 (q*a1))))-(IntKind.wrap .u64 ((IntKind.wrap .u64 (Int.tdiv (IntKind.wrap .u64 ((IntKind.wrap .u64 ((IntKind.wrap .u64 (a5*4294967296))+a6))-(IntKind.wrap .u64 (q*a1)))) a3))*a3)))) (IntKind.wrap .u64 ((IntKind.wrap .u64 ((IntKind.wrap .u64 (a5*4294967296))+a6))-(IntKind.wrap .u64 (q*a1)))) (IntKind.wrap .u64 (Int.tdiv (IntKind.wrap .u64 ((IntKind.wrap .u64 ((IntKind.wrap .u64 (a5*4294967296))+a6))-(IntKind.wrap .u64 (q*a1)))) a3))
theorem un_eq{u32 u1 q v:Nat}(hq:q=(u32*4294967296+u1)/v)(hv0:0<v)(hv:v<18446744073709551616):IntKind.wrap .u64 ((IntKind.wrap .u64 ((IntKind.wrap .u64 ((u32:Int)*4294967296))+(u1:Int)))-(IntKind.wrap .u64 ((q:Int)*(v:Int))))=(((u32*4294967296+u1)%v:Nat):Int):=by
 have h1:=Nat.div_add_mod (u32*4294967296+u1) v;have h2:=Nat.mod_lt (u32*4294967296+u1) hv0;rw[← hq,Nat.mul_comm]at h1;rw[wrapU,wrapU,wrapU,wrapU,← Int.natCast_mul];generalize q*v=t at *
 generalize (u32*4294967296+u1)%v=m at *
 omega
theorem kbca{s v v1 v0 u32 u1 u0 q:Nat}(hq:q=(u32*4294967296+u1)/v)(hv0:0<v)(hv:v<18446744073709551616)(h1:0<v1) :
  st24 v s v1 v0 u32 u1 u0 q=.p24 v s v1 v0 u0 q (((u32*4294967296+u1)%v%v1:Nat):Int) (((u32*4294967296+u1)%v:Nat):Int) (((u32*4294967296+u1)%v/v1:Nat):Int):=by
 unfold st24;rw[un_eq hq hv0 hv,kog];have h2:=Nat.mod_lt (u32*4294967296+u1) hv0;generalize (u32*4294967296+u1)%v=m at *
 have h3:=Nat.div_le_self m v1;rw[ke5 (n:=m/v1) (by omega),← Int.natCast_mul];have h4:=Nat.div_add_mod m v1;rw[Nat.mul_comm]at h4;have h5:=Nat.mod_lt m h1;rw[wrapU,wrapU]
 have e:((m:Int)-((m/v1*v1:Nat):Int)%18446744073709551616)%18446744073709551616=((m%v1:Nat):Int):=by
  generalize m/v1*v1=t at *
  generalize m%v1=z at *
  omega
 rw[e]
theorem div17{s v v1 v0 u32 u1 u0:Nat}{res:kbj}(hv:v=v1*4294967296+v0)(h1:0<v1)(h1':v1<4294967296)(h0:v0<4294967296)(hu:u32<v)(hu1:u1<4294967296)
  (K:Iter kdx (st24 v s v1 v0 u32 u1 u0 (((u32*4294967296+u1)/v:Nat):Int)) res) :
  ∀(q r:Nat),q*v1+r=u32→(u32*4294967296+u1)/v≤q→r<4294967296→q<8589934592→Iter kdx (.p17 v s v1 v0 u32 u1 u0 q r) res
 | q,r,e,hge,hr,hq=>by
  have hv':v<18446744073709551616:=by omega
  have less:(4294967296≤q∨4294967296*r+u1<q*v0)→∃o,Iter kdx o res∧
    cond (decide ((IntKind.wrap .u64 ((r:Int)+(v1:Int)))≥4294967296)) (cond (decide ((v1:Int)=0)) none (some (Sum.inl (β:=kbj) (st24 v s v1 v0 u32 u1 u0 (IntKind.wrap .u64 ((q:Int)-1)))))) (some (.inl (.p17 v s v1 v0 u32 u1 u0 (IntKind.wrap .u64 ((q:Int)-1)) (IntKind.wrap .u64 ((r:Int)+(v1:Int))))))=some (.inl o):=by
   intro t;obtain⟨k1,k2⟩:=kn_hi hv hu hu1 rfl e hge t;obtain⟨p,rfl⟩:∃p,q=p+1:=⟨q-1,by omega⟩;rw[Nat.add_sub_cancel]at k1
   have e':p*v1+(r+v1)=u32:=by
    rw[Nat.add_mul,Nat.one_mul]at e;omega
   have w1:IntKind.wrap .u64 (((p+1:Nat):Int)-1)=(p:Int):=by rw[wrapU];omega
   have w2:IntKind.wrap .u64 ((r:Int)+(v1:Int))=((r+v1:Nat):Int):=by rw[wrapU];omega
   rw[w1,w2];by_cases ho:4294967296≤r+v1
   ·have:=kn_lo hv hu rfl e' k1 (kn_out hv h0 hu e' ho);rw[this]at K;refine⟨_,K,?_⟩;rw[condT (by rw[decide_eq_true_eq];omega),condF (by rw[decide_eq_false_iff_not];omega)]
   ·refine⟨_,div17 hv h1 h1' h0 hu hu1 K p (r+v1) e' k1 (by omega) (by omega),?_⟩;rw[condF (by rw[decide_eq_false_iff_not];omega)]
  by_cases c1:4294967296≤q
  ·obtain⟨o,k1,k2⟩:=less (.inl c1);refine .next ?_ k1;show keq _ _ _ _ _ _ _ _ _=_;unfold keq;rw[condT (by rw[decide_eq_true_eq];omega)];exact k2
  ·have m1:q*v0≤4294967295*4294967295:=Nat.mul_le_mul (by omega) (by omega)
   have w3:IntKind.wrap .u64 ((q:Int)*(v0:Int))=((q*v0:Nat):Int):=by
    rw[← Int.natCast_mul];exact ke5 (by omega)
   have w4:IntKind.wrap .u64 ((IntKind.wrap .u64 (4294967296*(r:Int)))+(u1:Int))=((4294967296*r+u1:Nat):Int):=by
    rw[wrapU,wrapU];omega
   by_cases c2:4294967296*r+u1<q*v0
   ·obtain⟨o,k1,k2⟩:=less (.inr c2);refine .next ?_ k1;show keq _ _ _ _ _ _ _ _ _=_;unfold keq;rw[condF (by rw[decide_eq_false_iff_not];omega),w3,w4,condT (by rw[decide_eq_true_eq];omega)];exact k2
   ·have:=kn_lo hv hu rfl e hge (by omega);rw[this]at K;refine .next ?_ K;show keq _ _ _ _ _ _ _ _ _=_;unfold keq;rw[condF (by rw[decide_eq_false_iff_not];omega),w3,w4,condF (by rw[decide_eq_false_iff_not];omega),condF (by rw[decide_eq_false_iff_not];omega)];rfl
termination_by q=>q
def fin24(a1 a2 a5 a6 a8 q:Int):Option (kcb⊕kbj) :=
 cond (decide (a2<0)) none (some (.inr (IntKind.wrap .u64 ((IntKind.wrap .u64 (a6*4294967296))+q),ishr .u64 (IntKind.wrap .u64 ((IntKind.wrap .u64 ((IntKind.wrap .u64 (a8*4294967296))+a5))-(IntKind.wrap .u64 (q*a1)))) a2)))
theorem div24{s v v1 v0 u32 u1 q1:Nat}{res:kbj}(hv:v=v1*4294967296+v0)(h1:0<v1)(h1':v1<4294967296)(h0:v0<4294967296)(hu:u32<v)(hu1:u1<4294967296)
  (K:fin24 v s u1 q1 u32 (((u32*4294967296+u1)/v:Nat):Int)=some (.inr res)) :
  ∀(q r:Nat),q*v1+r=u32→(u32*4294967296+u1)/v≤q→r<4294967296→q<8589934592→Iter kdx (.p24 v s v1 v0 u1 q1 r u32 q) res
 | q,r,e,hge,hr,hq=>by
  have hv':v<18446744073709551616:=by omega
  have less:(4294967296≤q∨4294967296*r+u1<q*v0)→∃o,(o=Sum.inr res∨∃st,o=.inl st∧Iter kdx st res)∧
    cond (decide ((IntKind.wrap .u64 ((r:Int)+(v1:Int)))≥4294967296)) (fin24 v s u1 q1 u32 (IntKind.wrap .u64 ((q:Int)-1))) (some (.inl (.p24 v s v1 v0 u1 q1 (IntKind.wrap .u64 ((r:Int)+(v1:Int))) u32 (IntKind.wrap .u64 ((q:Int)-1)))))=some o:=by
   intro t;obtain⟨k1,k2⟩:=kn_hi hv hu hu1 rfl e hge t;obtain⟨p,rfl⟩:∃p,q=p+1:=⟨q-1,by omega⟩;rw[Nat.add_sub_cancel]at k1
   have e':p*v1+(r+v1)=u32:=by
    rw[Nat.add_mul,Nat.one_mul]at e;omega
   have w1:IntKind.wrap .u64 (((p+1:Nat):Int)-1)=(p:Int):=by rw[wrapU];omega
   have w2:IntKind.wrap .u64 ((r:Int)+(v1:Int))=((r+v1:Nat):Int):=by rw[wrapU];omega
   rw[w1,w2];by_cases ho:4294967296≤r+v1
   ·have:=kn_lo hv hu rfl e' k1 (kn_out hv h0 hu e' ho);rw[this]at K;refine⟨.inr res,.inl rfl,?_⟩;rw[condT (by rw[decide_eq_true_eq];omega)];exact K
   ·refine⟨_,.inr ⟨_,rfl,div24 hv h1 h1' h0 hu hu1 K p (r+v1) e' k1 (by omega) (by omega)⟩,?_⟩;rw[condF (by rw[decide_eq_false_iff_not];omega)]
  have go_on:∀{st:kcb}{o:kcb⊕kbj},(o=Sum.inr res∨∃st,o=.inl st∧Iter kdx st res)→kdx st=some o→Iter kdx st res:=by
   intro st o h e;rcases h with rfl | ⟨st',rfl,it⟩
   ·exact .done e
   ·exact .next e it
  by_cases c1:4294967296≤q
  ·obtain⟨o,k1,k2⟩:=less (.inl c1);refine go_on k1 ?_;show ke8 _ _ _ _ _ _ _ _ _=_;unfold ke8;rw[condT (by rw[decide_eq_true_eq];omega)];exact k2
  ·have m1:q*v0≤4294967295*4294967295:=Nat.mul_le_mul (by omega) (by omega)
   have w3:IntKind.wrap .u64 ((q:Int)*(v0:Int))=((q*v0:Nat):Int):=by
    rw[← Int.natCast_mul];exact ke5 (by omega)
   have w4:IntKind.wrap .u64 ((IntKind.wrap .u64 (4294967296*(r:Int)))+(u1:Int))=((4294967296*r+u1:Nat):Int):=by
    rw[wrapU,wrapU];omega
   by_cases c2:4294967296*r+u1<q*v0
   ·obtain⟨o,k1,k2⟩:=less (.inr c2);refine go_on k1 ?_;show ke8 _ _ _ _ _ _ _ _ _=_;unfold ke8;rw[condF (by rw[decide_eq_false_iff_not];omega),w3,w4,condT (by rw[decide_eq_true_eq];omega)];exact k2
   ·have:=kn_lo hv hu rfl e hge (by omega);rw[this]at K;refine .done ?_;show ke8 _ _ _ _ _ _ _ _ _=_;unfold ke8;rw[condF (by rw[decide_eq_false_iff_not];omega),w3,w4,condF (by rw[decide_eq_false_iff_not];omega)];exact K
termination_by q=>q
theorem kbam{hi lo y s:Nat}(hy:y*2^s<18446744073709551616)(hlo:lo<18446744073709551616)(hhi:hi<y)(hs:s≤63) :
  hi*2^s+lo/2^(64-s)<y*2^s∧(hi*2^s+lo/2^(64-s))*18446744073709551616+lo*2^s%18446744073709551616=(hi*18446744073709551616+lo)*2^s∧lo/2^(64-s)<2^s∧hi*2^s<18446744073709551616:=by
 have p:0<2^s:=Nat.pow_pos (by decide);have e:2^(64-s)*2^s=18446744073709551616:=by rw[← Nat.pow_add,show 64-s+s=64 from by omega]
 have k1:lo/2^(64-s)<2^s:=by
  rw[Nat.div_lt_iff_lt_mul (Nat.pow_pos (by decide)),Nat.mul_comm,e];exact hlo
 have k2:(hi+1)*2^s≤y*2^s:=Nat.mul_le_mul_right _ hhi;rw[Nat.add_mul,Nat.one_mul]at k2;refine⟨by omega,?_,k1,by omega⟩
 have k3:lo*2^s/18446744073709551616=lo/2^(64-s):=by
  rw[← e,Nat.mul_div_mul_right _ _ p]
 have k4:=Nat.div_add_mod (lo*2^s) 18446744073709551616;rw[k3]at k4;have k5:hi*18446744073709551616*2^s=hi*2^s*18446744073709551616:=Nat.mul_right_comm _ _ _;rw[Nat.add_mul,Nat.add_mul,k5];omega
theorem kym{z1 z2:Nat}(h:z1*4294967296+z2<18446744073709551616):IntKind.wrap .u64 ((IntKind.wrap .u64 ((z1:Int)*4294967296))+(z2:Int))=((z1*4294967296+z2:Nat):Int):=by
 rw[wrapU,wrapU];omega
theorem kbbh{hi lo y:Nat}(hy:y<18446744073709551616)(hlo:lo<18446744073709551616)(hhi:hi<y) :
  Iter kdx (.fn hi lo y) ((((hi*18446744073709551616+lo)/y:Nat):Int),(((hi*18446744073709551616+lo)%y:Nat):Int)):=by
 refine .next (s':=.p3 hi lo y) ?_ ?_
 ·show kj5 _ _ _=_;unfold kj5;rw[condF (by rw[decide_eq_false_iff_not];omega)]
 by_cases h0:hi=0
 ·subst h0;refine .done ?_;show kgf _ _ _=_;unfold kgf;have hd:=Nat.div_le_self lo y;rw[condF (by rw[decide_eq_false_iff_not];omega),condT (by rfl),condF (by rw[decide_eq_false_iff_not];omega),condF (by rw[decide_eq_false_iff_not];omega),kog,kbew,ke5 (by omega),Nat.zero_mul,Nat.zero_add]
 obtain⟨hs,hb1,hb2⟩:=kts hy (by omega);have hs64:64-bl y≤64:=by omega
 obtain⟨p1,p2,p3,p4⟩:=kbam hb2 hlo hhi hs;have ws:IntKind.wrap .u64 ((64-bl (Int.toNat (y:Int)):Nat):Int)=((64-bl y:Nat):Int):=by rw[Int.toNat_natCast];exact ke5 (by omega)
 have wt:IntKind.wrap .u64 (64-((64-bl y:Nat):Int))=((64-(64-bl y):Nat):Int):=by rw[wrapU];omega
 generalize hsd:64-bl y=s at *
 have ey:ishl .u64 (y:Int) (s:Int)=((y*2^s:Nat):Int):=by rw[khn _ _ hs64,Nat.mod_eq_of_lt hb2]
 have eh:ishl .u64 (hi:Int) (s:Int)=((hi*2^s:Nat):Int):=by rw[khn _ _ hs64,Nat.mod_eq_of_lt p4]
 have el:ishl .u64 (lo:Int) (s:Int)=((lo*2^s%18446744073709551616:Nat):Int):=khn _ _ hs64;have er:ishr .u64 (lo:Int) ((64-s:Nat):Int)=((lo/2^(64-s):Nat):Int):=by rw[kb3,Nat.min_eq_left (by omega)]
 have eo:=km5 p4 p3 hs64;generalize hu32:hi*2^s+lo/2^(64-s)=u32 at *
 have hl10:=Nat.mod_lt (lo*2^s) (show 0<18446744073709551616 by omega);generalize hl:lo*2^s%18446744073709551616=l10 at *
 generalize hv:y*2^s=v at *
 have e32:∀x:Nat,ishr .u64 (x:Int) 32=((x/4294967296:Nat):Int):=fun x=>kb3 x 32;have tot:u32*18446744073709551616+l10=(u32*4294967296+l10/4294967296)*4294967296+l10%4294967296:=by omega
 have hvv:v=v/4294967296*4294967296+v%4294967296:=by omega
 have hv0:0<v:=by omega
 have hv1:0<v/4294967296:=by omega
 have hv1':v/4294967296<4294967296:=by omega
 have hm0:v%4294967296<4294967296:=by omega
 have hu1:l10/4294967296<4294967296:=by omega
 have hu0:l10%4294967296<4294967296:=by omega
 have first:u32/(v/4294967296)<8589934592:=by
  rw[Nat.div_lt_iff_lt_mul hv1];omega
 have hm:=Nat.mod_lt (u32*4294967296+l10/4294967296) hv0
 have first2:(u32*4294967296+l10/4294967296)%v/(v/4294967296)<8589934592:=by
  rw[Nat.div_lt_iff_lt_mul hv1];omega
 have td:=k49 (w:=u32*4294967296+l10/4294967296) hv0 hu0;rw[← tot,p2]at td;have p:=Nat.pow_pos (a:=2) (n:=s) (by decide);rw[← hv,Nat.mul_div_mul_right _ _ p,Nat.mul_mod_mul_right,hv]at td;refine .next (s':=.p17 v s (v/4294967296:Nat) (v%4294967296:Nat) u32 (l10/4294967296:Nat) (l10%4294967296:Nat) (u32/(v/4294967296):Nat) (u32%(v/4294967296):Nat)) ?_ ?_
 ·show kgf _ _ _=_;unfold kgf
  rw[condF (by rw[decide_eq_false_iff_not];omega),condF (by rw[decide_eq_false_iff_not];omega),kbm (by omega),Option.bind_some,ws,wt,ey,eh,el,er,eo,e32,e32,kjd (show v<_ by omega),kjd (show l10<_ by omega),
   condF (by rw[decide_eq_false_iff_not];omega),condF (by rw[decide_eq_false_iff_not];omega),condF (by rw[decide_eq_false_iff_not];omega),condF (by rw[decide_eq_false_iff_not];omega),condF (by rw[decide_eq_false_iff_not];omega),kog]
  have d1:=Nat.div_add_mod u32 (v/4294967296);have d2:=Nat.div_le_self u32 (v/4294967296);rw[Nat.mul_comm]at d1;rw[ke5 (n:=u32/(v/4294967296)) (by omega),← Int.natCast_mul];generalize u32/(v/4294967296)*(v/4294967296)=z at *
  generalize u32%(v/4294967296)=z2 at *
  rw[ke5 (n:=z) (by omega),show(u32:Int)-(z:Int)=(z2:Int)from by omega,ke5 (by omega)]
 ·refine div17 hvv hv1 hv1' hm0 p1 hu1 ?_ _ _ (by rw[Nat.mul_comm];exact Nat.div_add_mod _ _) (kwv hv1 hvv p1 hu1 rfl (by omega)) (Nat.lt_trans (Nat.mod_lt _ hv1) hv1') first
  rw[kbca rfl hv0 (by omega) hv1];refine div24 hvv hv1 hv1' hm0 hm hu0 ?_ _ _ (by rw[Nat.mul_comm];exact Nat.div_add_mod _ _) (kwv hv1 hvv hm hu0 rfl (by omega)) (Nat.lt_trans (Nat.mod_lt _ hv1) hv1') first2;unfold fin24;rw[condF (by rw[decide_eq_false_iff_not];omega),un_eq rfl hv0 (by omega),← td.2,kb3,Nat.min_eq_left hs64,Nat.mul_div_cancel _ p]
  have hq:(hi*18446744073709551616+lo)/y<18446744073709551616:=by
   rw[Nat.div_lt_iff_lt_mul (by omega)];have:(hi+1)*18446744073709551616≤y*18446744073709551616:=Nat.mul_le_mul_right _ hhi;omega
  have w:IntKind.wrap .u64 ((IntKind.wrap .u64 ((((u32*4294967296+l10/4294967296)/v:Nat):Int)*4294967296))+((((u32*4294967296+l10/4294967296)%v*4294967296+l10%4294967296)/v:Nat):Int))=(((hi*18446744073709551616+lo)/y:Nat):Int):=by
   rw[td.1]at hq⊢;exact kym hq
  rw[w]
theorem kbd1{hi lo y:Nat}(hy:y<18446744073709551616)(hlo:lo<18446744073709551616)(hhi:hi<y){h:AH}:∃h',go (.fn kbl [.int .u64 (hi:Int),.int .u64 (lo:Int),.int .u64 (y:Int)]) h=some (.tup [.int .u64 (((hi*18446744073709551616+lo)/y:Nat):Int),.int .u64 (((hi*18446744073709551616+lo)%y:Nat):Int)],h')∧Grow h h':=by
 obtain⟨_,h',e,rfl,g⟩:=k4q (kbbh hy hlo hhi) (h:=h);exact⟨h',e,g⟩
def div64P(h l d:Int):Option (Int×Int):=if 0≤l∧l<18446744073709551616∧0≤h∧h<d∧d<18446744073709551616 then some ((h*18446744073709551616+l)/d,(h*18446744073709551616+l)%d)else none
theorem ktc{hi lo y:Nat}(hy:y<18446744073709551616)(hlo:lo<18446744073709551616)(hhi:hi<y):div64P (hi:Int) (lo:Int) (y:Int)=some ((((hi*18446744073709551616+lo)/y:Nat):Int),(((hi*18446744073709551616+lo)%y:Nat):Int)):=by
 unfold div64P;rw[if_pos (by omega)];rfl
theorem kxp{a b c:Int}{p:Int×Int}{h:AH}(q:div64P a b c=some p):∃h',go (.fn kbl [.int .u64 a,.int .u64 b,.int .u64 c]) h=some (.tup [.int .u64 p.1,.int .u64 p.2],h')∧Grow h h':=by
 unfold div64P at q;split at q
 ·rename_i hc;cases q;obtain⟨hi,rfl⟩:∃x:Nat,a=(x:Int):=⟨a.toNat,by omega⟩;obtain⟨lo,rfl⟩:∃x:Nat,b=(x:Int):=⟨b.toNat,by omega⟩;obtain⟨y,rfl⟩:∃x:Nat,c=(x:Int):=⟨c.toNat,by omega⟩;exact kbd1 (by omega) (by omega) (by omega)
 ·cases q
inductive kfq
 | fn (x1:List Nat) (a2:Int)
 | p4 (x1:List Nat) (a2:Int) (x3:List Nat) (a4:Int) (a5:Int)
abbrev keh:=List Nat×Int
noncomputable def kj7(x1:List Nat)(a2:Int):Option (kfq⊕keh) :=
 (mkI (List.length x1:Int) (List.length x1:Int)).bind fun m3=>some (.inl (.p4 x1 a2 (List.replicate m3 0) 0 (IntKind.wrap .i64 ((List.length x1:Int)-1))))
noncomputable def kgt(x1:List Nat)(a2:Int)(x3:List Nat)(a4 a5:Int):Option (kfq⊕keh) :=
 cond (decide (a5≥0)) ((atI x1 a5).bind fun y7=>(div64P a4 ((y7:Int)) a2).bind fun p8=>(inI (List.length x3) a5).bind fun j9=>(u64P (p8.1)).bind fun w10=>some (.inl (.p4 x1 a2 (List.set x3 j9 w10) (p8.2) (IntKind.wrap .i64 (a5-1))))) (some (.inr (digs B (num B x3),a4)))
noncomputable def kql:kfq→Option (kfq⊕keh)
 | .fn x1 a2=>kj7 x1 a2
 | .p4 x1 a2 x3 a4 a5=>kgt x1 a2 x3 a4 a5
@[reducible] def krs(h0:AH)(r:keh)(v:AV)(h':AH):Prop:=∃s1:Sl,v=.tup [s1.v,.int .u64 r.2]∧Nats h' s1 r.1∧Grow h0 h'∧Own h0 s1
def kji(r:keh):kfq→Prop
 | .fn x1 a2=>∀{h:AH}{a1:Sl},Nats h a1 x1→Runs (go (.fn ket [a1.v,.int .u64 a2]) h) (krs h r)
 | .p4 x1 a2 x3 a4 a5=>∀{h0 h:AH}{a1:Sl}{a3:Sl}{i3:Nat},Grow h0 h→Nats h a1 x1→Vec h a3 i3 x3→h0.blks.size≤i3→Av a1 i3 x1→Runs (go (.pt ket kl0 [(0,a1.v),(1,.int .u64 a2),(6,a3.v),(7,.int .u64 a4),(8,.int .i64 a5)]) h) (krs h0 r)
theorem k98{r:keh}{o:kfq⊕keh}{x1:List Nat}{a2:Int}(e:kj7 x1 a2=some o)(good:GoodS (kji r) r o):kji r (.fn x1 a2):=by
 intro h a1 n1;rw[kbem];unfold kj7 at e;rw[n1.len];obtain⟨m3,q3,e⟩:=Option.bind_eq_some_iff.1 e;refine Runs.mk q3 kdw fun s3 H3 v3 g3=>?_;cases e;exact good g3 (n1.grow g3) v3 (Nat.le_refl _) (Av.of_base n1 (Nat.le_refl _))
theorem kbcv{r:keh}{o:kfq⊕keh}{x1:List Nat}{a2:Int}{x3:List Nat}{a4 a5:Int}(e:kgt x1 a2 x3 a4 a5=some o)(good:GoodS (kji r) r o):kji r (.p4 x1 a2 x3 a4 a5):=by
 intro h0 h a1 a3 i3 g0 n1 v3 hi3 av1_3;rw[kbdc];unfold kgt at e;rw[n1.len];rw[v3.nats.len];refine Runs.cond (fun k6=>?_) (fun k6=>?_)
 ·replace e:=(condT k6).symm.trans e;obtain⟨y7,q7,e⟩:=Option.bind_eq_some_iff.1 e;obtain⟨r7,j7,l7⟩:=n1.atI q7;refine Runs.step j7 ?_;refine Runs.step (rdc l7 (kc _ _)) ?_;obtain⟨p8,q8,e⟩:=Option.bind_eq_some_iff.1 e;obtain⟨H8,e8,g8⟩:=kxp q8;refine Runs.step e8 ?_;refine Runs.step rfl ?_;refine Runs.step (seen (kc _ _)) ?_;refine Runs.step (seen (kc _ _)) ?_;obtain⟨j9,q9,e⟩:=Option.bind_eq_some_iff.1 e;refine Runs.step ((v3.grow g8).idx rfl q9) ?_;obtain⟨w10,z10,e⟩:=Option.bind_eq_some_iff.1 e;refine Runs.vput (v3.grow g8) rfl q9 z10 fun H10 v10 u10=>?_;have n1_10:=(n1.grow g8).upda av1_3 u10;cases e;exact good ((g0.trans g8).updr hi3 u10) n1_10 v10 hi3 av1_3
 ·replace e:=(condF k6).symm.trans e;obtain⟨s7,e7,n7,o7⟩:=kdd v3.nats;refine Runs.step e7 ?_;refine Runs.step (seen (asSl_v _)) ?_;cases e;cases good;exact Runs.ret ⟨s7,rfl,n7,g0,((o7 _ (v3.own hi3)).of_le (Grow.refl _))⟩
theorem kbbx{s:kfq}{r:keh}(it:Iter kql s r):kji r s:=Iter.ind (fun s o e good=>by
 cases s with
 | fn x1 a2=>exact @k98 _ _ x1 a2 e good
 | p4 x1 a2 x3 a4 a5=>exact @kbcv _ _ x1 a2 x3 a4 a5 e good
 ) it
inductive kfo
 | fn (x1:List Nat) (a2:Int)
 | p3 (a1:Int) (x2:List Nat) (x3:List Nat) (a4:Int) (a5:Int)
abbrev kdi:=List Nat
noncomputable def kj9(x1:List Nat)(a2:Int):Option (kfo⊕kdi) :=
 (mkI (IntKind.wrap .i64 ((List.length x1:Int)+1)) (IntKind.wrap .i64 ((List.length x1:Int)+1))).bind fun m3=>some (.inl (.p3 a2 (List.replicate m3 0) x1 (List.length x1:Int) 0))
noncomputable def keo(a1:Int)(x2 x3:List Nat)(a4 a5:Int):Option (kfo⊕kdi) :=
 cond (decide (a5<a4)) ((atI x3 a5).bind fun y7=>(inI (List.length x2) a5).bind fun j8=>cond (decide (a1<0)) (none) ((inI (List.length x2) a5).bind fun j10=>(u64P (ior .u64 (((List.getD x2 j8 0:Nat):Int)) (ishl .u64 ((y7:Int)) a1))).bind fun w11=>cond (decide (a1>0)) (cond (decide ((IntKind.wrap .u64 (64-a1))<0)) (none) ((inI (List.length x2) (IntKind.wrap .i64 (a5+1))).bind fun j14=>(u64P (ishr .u64 ((y7:Int)) (IntKind.wrap .u64 (64-a1)))).bind fun w15=>some (.inl (.p3 a1 (List.set (List.set x2 j10 w11) j14 w15) x3 a4 (IntKind.wrap .i64 (a5+1)))))) (some (.inl (.p3 a1 (List.set x2 j10 w11) x3 a4 (IntKind.wrap .i64 (a5+1))))))) (some (.inr x2))
noncomputable def kg8:kfo→Option (kfo⊕kdi)
 | .fn x1 a2=>kj9 x1 a2
 | .p3 a1 x2 x3 a4 a5=>keo a1 x2 x3 a4 a5
@[reducible] def kqc(h0:AH)(r:kdi)(v:AV)(h':AH):Prop:=∃s1:Sl,∃j1:Nat,v=s1.v∧Vec h' s1 j1 r∧Grow h0 h'∧h0.blks.size≤j1
def kig(r:kdi):kfo→Prop
 | .fn x1 a2=>∀{h:AH}{a1:Sl},Nats h a1 x1→Runs (go (.fn kd4 [a1.v,.int .u64 a2]) h) (kqc h r)
 | .p3 a1 x2 x3 a4 a5=>∀{h0 h:AH}{a2:Sl}{a3:Sl}{i2:Nat},Grow h0 h→Vec h a2 i2 x2→Nats h a3 x3→h0.blks.size≤i2→Av a3 i2 x3→Runs (go (.pt kd4 ki5 [(1,.int .u64 a1),(5,a2.v),(12,a3.v),(13,.int .i64 a4),(14,.int .i64 a5)]) h) (kqc h0 r)
theorem k66{r:kdi}{o:kfo⊕kdi}{x1:List Nat}{a2:Int}(e:kj9 x1 a2=some o)(good:GoodS (kig r) r o):kig r (.fn x1 a2):=by
 intro h a1 n1;rw[kbc3];unfold kj9 at e;rw[n1.len];obtain⟨m3,q3,e⟩:=Option.bind_eq_some_iff.1 e;refine Runs.mk q3 kdw fun s3 H3 v3 g3=>?_;cases e;exact good g3 v3 (n1.grow g3) (Nat.le_refl _) (Av.of_base n1 (Nat.le_refl _))
theorem kba8{r:kdi}{o:kfo⊕kdi}{a1:Int}{x2 x3:List Nat}{a4 a5:Int}(e:keo a1 x2 x3 a4 a5=some o)(good:GoodS (kig r) r o):kig r (.p3 a1 x2 x3 a4 a5):=by
 intro h0 h a2 a3 i2 g0 v2 n3 hi2 av3_2;rw[k02];unfold keo at e;rw[v2.nats.len];rw[n3.len];refine Runs.cond (fun k6=>?_) (fun k6=>?_)
 ·replace e:=(condT k6).symm.trans e;obtain⟨y7,q7,e⟩:=Option.bind_eq_some_iff.1 e;obtain⟨r7,j7,l7⟩:=n3.atI q7;refine Runs.step j7 ?_;refine Runs.step (rdc l7 (kc _ _)) ?_;obtain⟨j8,q8,e⟩:=Option.bind_eq_some_iff.1 e;refine Runs.step (v2.idx rfl q8) ?_;refine Runs.step (v2.rd rfl q8 (kc _ _)) ?_;refine Runs.cond (fun k9=>?_) (fun k9=>?_)
  ·replace e:=(condT k9).symm.trans e;cases e
  ·replace e:=(condF k9).symm.trans e;obtain⟨j10,q10,e⟩:=Option.bind_eq_some_iff.1 e;refine Runs.step (v2.idx rfl q10) ?_;obtain⟨w11,z11,e⟩:=Option.bind_eq_some_iff.1 e;refine Runs.vput v2 rfl q10 z11 fun H11 v11 u11=>?_;have n3_11:=n3.upda av3_2 u11;refine Runs.cond (fun k12=>?_) (fun k12=>?_)
   ·replace e:=(condT k12).symm.trans e;refine Runs.cond (fun k13=>?_) (fun k13=>?_)
    ·replace e:=(condT k13).symm.trans e;cases e
    ·replace e:=(condF k13).symm.trans e;obtain⟨j14,q14,e⟩:=Option.bind_eq_some_iff.1 e;refine Runs.step (v11.idx (by simp only[List.length_set]) q14) ?_;obtain⟨w15,z15,e⟩:=Option.bind_eq_some_iff.1 e;refine Runs.vput v11 (by simp only[List.length_set]) q14 z15 fun H15 v15 u15=>?_;have n3_15:=n3_11.upda av3_2 u15;cases e;exact good ((g0.updr hi2 u11).updr hi2 u15) v15 n3_15 hi2 av3_2
   ·replace e:=(condF k12).symm.trans e;cases e;exact good (g0.updr hi2 u11) v11 n3_11 hi2 av3_2
 ·replace e:=(condF k6).symm.trans e;cases e;cases good;exact Runs.ret ⟨a2,i2,rfl,v2,g0,hi2⟩
theorem kbav{s:kfo}{r:kdi}(it:Iter kg8 s r):kig r s:=Iter.ind (fun s o e good=>by
 cases s with
 | fn x1 a2=>exact @k66 _ _ x1 a2 e good
 | p3 a1 x2 x3 a4 a5=>exact @kba8 _ _ a1 x2 x3 a4 a5 e good
 ) it
theorem kxe{h:AH}{a1:Sl}{x1:List Nat}{a2:Int}(n1:Nats h a1 x1){r:kdi}(q:runP kg8 (.fn x1 a2)=some r):Runs (go (.fn kd4 [a1.v,.int .u64 a2]) h) (kqc h r):=kbav (kku q) n1
inductive ke7
 | fn (a1:Int) (a2:Int) (a3:Int) (a4:Int) (a5:Int)
 | p4 (a1:Int) (a2:Int) (a3:Int) (a4:Int) (a5:Int)
abbrev kdm:=Int
noncomputable def kga(a1 a2 a3 a4 a5:Int):Option (ke7⊕kdm) :=
 cond (decide (a1≥a4)) (some (.inr 18446744073709551615)) ((div64P a1 a2 a4).bind fun p7=>some (.inl (.p4 a3 a4 a5 (p7.1) (p7.2))))
noncomputable def keu(a1 a2 a3 a4 a5:Int):Option (ke7⊕kdm) :=
 cond (decide (((mul64 a4 a3).1)<a5)) (some (.inr a4)) (cond (decide (((mul64 a4 a3).1)=a5)) (cond (decide (((mul64 a4 a3).2)≤a1)) (some (.inr a4)) (cond (decide ((IntKind.wrap .u64 (a5+a2))<a5)) (some (.inr (IntKind.wrap .u64 (a4-1)))) (some (.inl (.p4 a1 a2 a3 (IntKind.wrap .u64 (a4-1)) (IntKind.wrap .u64 (a5+a2))))))) (cond (decide ((IntKind.wrap .u64 (a5+a2))<a5)) (some (.inr (IntKind.wrap .u64 (a4-1)))) (some (.inl (.p4 a1 a2 a3 (IntKind.wrap .u64 (a4-1)) (IntKind.wrap .u64 (a5+a2)))))))
noncomputable def kia:ke7→Option (ke7⊕kdm)
 | .fn a1 a2 a3 a4 a5=>kga a1 a2 a3 a4 a5
 | .p4 a1 a2 a3 a4 a5=>keu a1 a2 a3 a4 a5
@[reducible] def krc(h0:AH)(r:kdm)(v:AV)(h':AH):Prop:=v=.int .u64 r∧Grow h0 h'
def ki2(r:kdm):ke7→Prop
 | .fn a1 a2 a3 a4 a5=>∀{h:AH},Runs (go (.fn kes [.int .u64 a1,.int .u64 a2,.int .u64 a3,.int .u64 a4,.int .u64 a5]) h) (krc h r)
 | .p4 a1 a2 a3 a4 a5=>∀{h0 h:AH},Grow h0 h→Runs (go (.pt kes kka [(2,.int .u64 a1),(3,.int .u64 a2),(4,.int .u64 a3),(11,.int .u64 a4),(12,.int .u64 a5)]) h) (krc h0 r)
theorem kbe2{r:kdm}{o:ke7⊕kdm}{a1 a2 a3 a4 a5:Int}(e:kga a1 a2 a3 a4 a5=some o)(good:GoodS (ki2 r) r o):ki2 r (.fn a1 a2 a3 a4 a5):=by
 intro h;rw[k0b];unfold kga at e;refine Runs.cond (fun k6=>?_) (fun k6=>?_)
 ·replace e:=(condT k6).symm.trans e;cases e;cases good;exact Runs.ret ⟨rfl,(Grow.refl _)⟩
 ·replace e:=(condF k6).symm.trans e;obtain⟨p7,q7,e⟩:=Option.bind_eq_some_iff.1 e;obtain⟨H7,e7,g7⟩:=kxp q7;refine Runs.step e7 ?_;refine Runs.step rfl ?_;refine Runs.step (seen (kc _ _)) ?_;refine Runs.step (seen (kc _ _)) ?_;cases e;exact good g7
theorem k5i{r:kdm}{o:ke7⊕kdm}{a1 a2 a3 a4 a5:Int}(e:keu a1 a2 a3 a4 a5=some o)(good:GoodS (ki2 r) r o):ki2 r (.p4 a1 a2 a3 a4 a5):=by
 intro h0 h g0;rw[k7z];unfold keu at e;refine Runs.step (kx2 a4 a3) ?_;refine Runs.step rfl ?_;refine Runs.step (seen (kc _ _)) ?_;refine Runs.step (seen (kc _ _)) ?_;refine Runs.cond (fun k7=>?_) (fun k7=>?_)
 ·replace e:=(condT k7).symm.trans e;cases e;cases good;exact Runs.ret ⟨rfl,g0⟩
 ·replace e:=(condF k7).symm.trans e;refine Runs.cond (fun k8=>?_) (fun k8=>?_)
  ·replace e:=(condT k8).symm.trans e;refine Runs.cond (fun k9=>?_) (fun k9=>?_)
   ·replace e:=(condT k9).symm.trans e;cases e;cases good;exact Runs.ret ⟨rfl,g0⟩
   ·replace e:=(condF k9).symm.trans e;refine Runs.cond (fun k10=>?_) (fun k10=>?_)
    ·replace e:=(condT k10).symm.trans e;cases e;cases good;exact Runs.ret ⟨rfl,g0⟩
    ·replace e:=(condF k10).symm.trans e;cases e;exact good g0
  ·replace e:=(condF k8).symm.trans e;refine Runs.cond (fun k9=>?_) (fun k9=>?_)
   ·replace e:=(condT k9).symm.trans e;cases e;cases good;exact Runs.ret ⟨rfl,g0⟩
   ·replace e:=(condF k9).symm.trans e;cases e;exact good g0
theorem k3t{s:ke7}{r:kdm}(it:Iter kia s r):ki2 r s:=Iter.ind (fun s o e good=>by
 cases s with
 | fn a1 a2 a3 a4 a5=>exact @kbe2 _ _ a1 a2 a3 a4 a5 e good
 | p4 a1 a2 a3 a4 a5=>exact @k5i _ _ a1 a2 a3 a4 a5 e good
 ) it
theorem k7l{h:AH}  {a1 a2 a3 a4 a5:Int}  {r:kdm}(q:runP kia (.fn a1 a2 a3 a4 a5)=some r):Runs (go (.fn kes [.int .u64 a1,.int .u64 a2,.int .u64 a3,.int .u64 a4,.int .u64 a5]) h) (krc h r):=k3t (kku q)
def padD(b:Nat):Nat→Nat→List Nat
 | 0,_=>[]
 | k+1,n=>n%b::padD b k (n/b)
theorem kme(b:Nat):∀k n,(padD b k n).length=k
 | 0,_=>rfl
 | k+1,n=>by simp[padD,kme b k]
theorem ktp{b:Nat}(hb:0<b):∀k n,∀x∈padD b k n,x<b
 | 0,_=>by simp[padD]
 | k+1,n=>by
  intro x hx;rcases List.mem_cons.1 hx with rfl | hx
  ·exact Nat.mod_lt _ hb
  ·exact ktp hb k _ x hx
theorem kqn{b:Nat}(hb:0<b):∀(k n:Nat),n<b^k→num b (padD b k n)=n
 | 0,n,h=>by
  rw[Nat.pow_zero]at h;have:n=0:=by omega
  subst this;rfl
 | k+1,n,h=>by
  rw[padD,num,kqn hb k (n/b) (by rw[Nat.div_lt_iff_lt_mul hb,← Nat.pow_succ];exact h)];exact Nat.mod_add_div n b
theorem kte{b:Nat}(hb:0<b):∀{zs:List Nat},(∀x∈zs,x<b)→padD b zs.length (num b zs)=zs
 | [],_=>rfl
 | z::zs,h=>by
  have hz:=h z (by simp);rw[List.length_cons,padD,num,Nat.add_mul_mod_self_left,Nat.mod_eq_of_lt hz,Nat.add_mul_div_left _ _ hb,Nat.div_eq_of_lt hz,Nat.zero_add,kte hb fun x hx=>h x (by simp[hx])]
theorem Sl.v_inj{s t:Sl}(e:s.v=t.v):s=t:=by
 cases s;cases t;simp only[Sl.v,AV.slice.injEq]at e;simp only[Sl.mk.injEq];exact e
theorem kwo{h:AH}{s:Sl}{xs:List Nat}(n:Nats h s xs){i:Nat}(b:InB s i):∀(k:Nat),k≤xs.length→∃s',go (.pt kbf kin [(0,s.v),(3,.int .i64 (k:Int))]) h=some (s'.v,h)∧InB s' i
 | 0,hk=>by
  rw[klf];obtain⟨s',e1,_,_⟩:=n.cut (l:=0) (n:=0) (Nat.le_refl _) hk;have b':=b.cut e1;simp at e1;simp only[Int.natCast_zero,gt_iff_lt,Int.lt_irrefl,decide_false,cond_false,e1,Option.bind_some];exact⟨s',rfl,b'⟩
 | k+1,hk=>by
  rw[klf];obtain⟨r,e1,e2⟩:=n.at (i:=k) (by omega);have hs:=n.short;rw[kqp (by omega)];rw[show(decide (((k+1:Nat):Int)>0))=true from by rw[decide_eq_true_eq];omega];simp only[cond_true,e1,e2,Option.bind_some,kc];by_cases hx:xs[k]=0
  ·rw[hx,show(decide (((0:Nat):Int)=0))=true from rfl,cond_true];exact kwo n b k (by omega)
  ·obtain⟨s',e3,_,_⟩:=n.cut (l:=0) (n:=k+1) (by omega) hk;rw[show(decide (((xs[k]:Nat):Int)=0))=false from by rw[decide_eq_false_iff_not];omega];simp only[cond_false];rw[show cutSl s 0 ((k+1:Nat):Int) 1=some s' from e3];exact⟨s',rfl,b.cut e3⟩
theorem kkv{h:AH}{s:Sl}{i:Nat}{xs:List Nat}(v:Vec h s i xs):∃s',go (.fn kbf [s.v]) h=some (s'.v,h)∧Nats h s' (digs B (num B xs))∧InB s' i:=by
 obtain⟨s',e,n,_⟩:=kdd v.nats;obtain⟨s2,e2,b⟩:=kwo v.nats v.inB xs.length (Nat.le_refl _);rw[koy,v.len,e2]at e;have:s2=s':=Sl.v_inj (Prod.mk.inj (Option.some.inj e)).1;subst this;exact⟨s2,by rw[koy,v.len,e2],n,b⟩
theorem B0:0<B:=by decide
theorem kvg{a:Int}{x:Nat}{h:AH}(q:u64P a=some x):∃(s':Sl)(h':AH),go (.fn kic [.int .u64 a]) h=some (s'.v,h')∧Nats h' s' (digs B x)∧Grow h h'∧Own h s':=by
 obtain⟨rfl,hx⟩:=kuu q;exact kx4 hx
theorem k2z{h:AH}{s t:Sl}{xs ys:List Nat}(n:Nats h s xs)(m:Nats h t ys)(c:xs.length≤1073741824∧ys.length≤xs.length∧num B ys≤num B xs) :
  ∃(s':Sl)(h':AH),go (.fn kcp [s.v,t.v]) h=some (s'.v,h')∧Nats h' s' (padD B xs.length (num B xs-num B ys))∧Grow h h'∧Own h s':=by
 obtain⟨s',h',zs,e,n',g,o,v,l⟩:=kl1 n m c.1 c.2.1 c.2.2;refine⟨s',h',e,?_,g,o⟩;rw[← v,← l,kte B0 n'.lt];exact n'
inductive kdf
 | fn (x1:List Nat) (x2:List Nat)
 | p6 (a1:Int) (x2:List Nat) (x3:List Nat) (a4:Int) (x5:List Nat) (a6:Int)
 | p10 (a1:Int) (x2:List Nat) (x3:List Nat) (a4:Int) (x5:List Nat) (a6:Int) (a7:Int) (x8:Nat×Nat)
 | p18 (a1:Int) (x2:List Nat) (x3:List Nat) (x4:List Nat) (a5:Int) (a6:Int)
abbrev kb7:=List Nat×List Nat
noncomputable def kjy(x1 x2:List Nat):Option (kdf⊕kb7) :=
 (atI x2 (IntKind.wrap .i64 ((List.length x2:Int)-1))).bind fun y3=>(need (0≤((y3:Int))∧((y3:Int))<18446744073709551616)).bind fun c4_0=>(runP kg8 (.fn x1 (IntKind.wrap .u64 (((64-bl (Int.toNat ((y3:Int))):Nat):Int))))).bind fun p5=>(runP kg8 (.fn x2 (IntKind.wrap .u64 (((64-bl (Int.toNat ((y3:Int))):Nat):Int))))).bind fun p6=>(mkI (IntKind.wrap .i64 ((List.length p5:Int)-(List.length (digs B (num B p6)):Int))) (IntKind.wrap .i64 ((List.length p5:Int)-(List.length (digs B (num B p6)):Int)))).bind fun m8=>some (.inl (.p6 (IntKind.wrap .u64 (((64-bl (Int.toNat ((y3:Int))):Nat):Int))) p5 (digs B (num B p6)) (List.length (digs B (num B p6)):Int) (List.replicate m8 0) (IntKind.wrap .i64 ((List.length (List.replicate m8 0):Int)-1))))
noncomputable def kgj(a1:Int)(x2 x3:List Nat)(a4:Int)(x5:List Nat)(a6:Int):Option (kdf⊕kb7) :=
 cond (decide (a6≥0)) ((inI (List.length x2) (IntKind.wrap .i64 (a6+a4))).bind fun j8=>(inI (List.length x2) (IntKind.wrap .i64 ((IntKind.wrap .i64 (a6+a4))-1))).bind fun j9=>(inI (List.length x2) (IntKind.wrap .i64 ((IntKind.wrap .i64 (a6+a4))-2))).bind fun j10=>(atI x3 (IntKind.wrap .i64 (a4-1))).bind fun y11=>(atI x3 (IntKind.wrap .i64 (a4-2))).bind fun y12=>(runP kia (.fn (((List.getD x2 j8 0:Nat):Int)) (((List.getD x2 j9 0:Nat):Int)) (((List.getD x2 j10 0:Nat):Int)) ((y11:Int)) ((y12:Int)))).bind fun p13=>(cutP (List.length x2) a6 (IntKind.wrap .i64 ((IntKind.wrap .i64 (a6+a4))+1))).bind fun p14=>some (.inl (.p10 a1 x2 x3 a4 x5 a6 p13 (p14.1,p14.2)))) ((mkI (List.length (digs B (num B x2)):Int) (List.length (digs B (num B x2)):Int)).bind fun m9=>some (.inl (.p18 a1 x5 (digs B (num B x2)) (List.replicate m9 0) (List.length (digs B (num B x2)):Int) 0)))
noncomputable def kfx(a1:Int)(x2 x3:List Nat)(a4:Int)(x5:List Nat)(a6 a7:Int)(x8:Nat×Nat):Option (kdf⊕kb7) :=
 (u64P a7).bind fun p9=>(need (List.length x3+List.length (digs B p9)≤8796093022208)).bind fun c10_0=>(need (List.length (List.take x8.2 (List.drop x8.1 x2))≤8796093022208)).bind fun c11_0=>(need (Trim (digs B (num B (List.take x8.2 (List.drop x8.1 x2)))))).bind fun c13_0=>(need (Trim (digs B (num B x3*num B (digs B p9))))).bind fun c13_1=>cond (decide ((cmp (num B (digs B (num B (List.take x8.2 (List.drop x8.1 x2))))) (num B (digs B (num B x3*num B (digs B p9)))))≥0)) ((need (List.length (List.take x8.2 (List.drop x8.1 x2))≤1073741824∧List.length (digs B (num B x3*num B (digs B p9)))≤List.length (List.take x8.2 (List.drop x8.1 x2))∧num B (digs B (num B x3*num B (digs B p9)))≤num B (List.take x8.2 (List.drop x8.1 x2)))).bind fun c15_0=>(setW x2 x8.1 x8.2 (padD B (List.length (List.take x8.2 (List.drop x8.1 x2))) (num B (List.take x8.2 (List.drop x8.1 x2))-num B (digs B (num B x3*num B (digs B p9)))))).bind fun y16=>(inI (List.length x5) a6).bind fun j17=>(u64P a7).bind fun w18=>some (.inl (.p6 a1 y16 x3 a4 (List.set x5 j17 w18) (IntKind.wrap .i64 (a6-1))))) (some (.inl (.p10 a1 x2 x3 a4 x5 a6 (IntKind.wrap .u64 (a7-1)) (x8.1,x8.2))))
noncomputable def kds(a1:Int)(x2 x3 x4:List Nat)(a5 a6:Int):Option (kdf⊕kb7) :=
 cond (decide (a6<a5)) ((atI x3 a6).bind fun y8=>cond (decide (a1<0)) (none) ((inI (List.length x4) a6).bind fun j10=>(u64P (ishr .u64 ((y8:Int)) a1)).bind fun w11=>cond (decide (a1>0)) (cond (decide ((IntKind.wrap .i64 (a6+1))<(List.length x3:Int))) ((inI (List.length x4) a6).bind fun j14=>(atI x3 (IntKind.wrap .i64 (a6+1))).bind fun y15=>cond (decide ((IntKind.wrap .u64 (64-a1))<0)) (none) ((inI (List.length x4) a6).bind fun j17=>(u64P (ior .u64 (((List.getD (List.set x4 j10 w11) j14 0:Nat):Int)) (ishl .u64 ((y15:Int)) (IntKind.wrap .u64 (64-a1))))).bind fun w18=>some (.inl (.p18 a1 x2 x3 (List.set (List.set x4 j10 w11) j17 w18) a5 (IntKind.wrap .i64 (a6+1)))))) (some (.inl (.p18 a1 x2 x3 (List.set x4 j10 w11) a5 (IntKind.wrap .i64 (a6+1)))))) (some (.inl (.p18 a1 x2 x3 (List.set x4 j10 w11) a5 (IntKind.wrap .i64 (a6+1))))))) (some (.inr (digs B (num B x2),digs B (num B x4))))
noncomputable def khp:kdf→Option (kdf⊕kb7)
 | .fn x1 x2=>kjy x1 x2
 | .p6 a1 x2 x3 a4 x5 a6=>kgj a1 x2 x3 a4 x5 a6
 | .p10 a1 x2 x3 a4 x5 a6 a7 x8=>kfx a1 x2 x3 a4 x5 a6 a7 x8
 | .p18 a1 x2 x3 x4 a5 a6=>kds a1 x2 x3 x4 a5 a6
@[reducible] def kk2(h0:AH)(r:kb7)(v:AV)(h':AH):Prop:=∃s1:Sl,∃s2:Sl,v=.tup [s1.v,s2.v]∧Nats h' s1 r.1∧Nats h' s2 r.2∧Grow h0 h'∧Own h0 s1∧Own h0 s2
def ke6(r:kb7):kdf→Prop
 | .fn x1 x2=>∀{h:AH}{a1:Sl}{a2:Sl},Nats h a1 x1→Nats h a2 x2→Runs (go (.fn kb1 [a1.v,a2.v]) h) (kk2 h r)
 | .p6 a1 x2 x3 a4 x5 a6=>∀{h0 h:AH}{a2:Sl}{a3:Sl}{a5:Sl}{i2:Nat}{i5:Nat},Grow h0 h→Vec h a2 i2 x2→Nats h a3 x3→Vec h a5 i5 x5→h0.blks.size≤i2→h0.blks.size≤i5→Av a3 i2 x3→Av a3 i5 x3→i2≠i5→Runs (go (.pt kb1 klc [(6,.int .u64 a1),(7,a2.v),(8,a3.v),(9,.int .i64 a4),(10,a5.v),(11,.int .i64 a6)]) h) (kk2 h0 r)
 | .p10 a1 x2 x3 a4 x5 a6 a7 x8=>∀{h0 h:AH}{a2:Sl}{a3:Sl}{a5:Sl}{a8:Sl}{i2:Nat}{i5:Nat},Grow h0 h→Vec h a2 i2 x2→Nats h a3 x3→Vec h a5 i5 x5→h0.blks.size≤i2→h0.blks.size≤i5→Win a8 i2 x8.1 x8.2→x8.1+x8.2≤List.length x2→Av a3 i2 x3→Av a3 i5 x3→i2≠i5→Runs (go (.pt kb1 kmk [(6,.int .u64 a1),(7,a2.v),(8,a3.v),(9,.int .i64 a4),(10,a5.v),(11,.int .i64 a6),(12,.int .u64 a7),(13,a8.v)]) h) (kk2 h0 r)
 | .p18 a1 x2 x3 x4 a5 a6=>∀{h0 h:AH}{a2:Sl}{a3:Sl}{a4:Sl}{i2:Nat}{i4:Nat},Grow h0 h→Vec h a2 i2 x2→Nats h a3 x3→Vec h a4 i4 x4→h0.blks.size≤i2→h0.blks.size≤i4→Av a3 i2 x3→Av a3 i4 x3→i2≠i4→Runs (go (.pt kb1 khg [(6,.int .u64 a1),(10,a2.v),(15,a3.v),(16,a4.v),(112,.int .i64 a5),(113,.int .i64 a6)]) h) (kk2 h0 r)
theorem kbeh{r:kb7}{o:kdf⊕kb7}{x1 x2:List Nat}(e:kjy x1 x2=some o)(good:GoodS (ke6 r) r o):ke6 r (.fn x1 x2):=by
 intro h a1 a2 n1 n2;rw[ky2];unfold kjy at e;rw[n2.len];obtain⟨y3,q3,e⟩:=Option.bind_eq_some_iff.1 e;obtain⟨r3,j3,l3⟩:=n2.atI q3;refine Runs.step j3 ?_;refine Runs.step (rdc l3 (kc _ _)) ?_;obtain⟨c4_0,q4_0,e⟩:=Option.bind_eq_some_iff.1 e;refine Runs.step (kv2 ((y3:Int))  c4_0.down) ?_;refine Runs.step (seen (kc _ _)) ?_;obtain⟨p5,q5,e⟩:=Option.bind_eq_some_iff.1 e;obtain⟨_,H5,e5,s5,j5,rfl,n5,g5,o5⟩:=kxe n1 q5;refine Runs.step e5 ?_;refine Runs.step (seen (asSl_v _)) ?_;rw[n5.nats.len];obtain⟨p6,q6,e⟩:=Option.bind_eq_some_iff.1 e;obtain⟨_,H6,e6,s6,j6,rfl,n6,g6,o6⟩:=kxe (n2.grow g5) q6;refine Runs.step e6 ?_;refine Runs.step (seen (asSl_v _)) ?_;obtain⟨s7,e7,n7,i7⟩:=kkv n6;refine Runs.step e7 ?_;refine Runs.step (seen (asSl_v _)) ?_;rw[n7.len];obtain⟨m8,q8,e⟩:=Option.bind_eq_some_iff.1 e;refine Runs.mk q8 kdw fun s8 H8 v8 g8=>?_;rw[v8.nats.len];cases e;exact good ((g5.trans g6).trans g8) (n5.grow (g6.trans g8)) (n7.grow g8) v8 o5 (Nat.le_trans ((g5.trans g6)).size (Nat.le_refl _)) (Av.of_in i7 (Nat.ne_of_gt (Nat.lt_of_lt_of_le (n5).inn o6))) (Av.of_in i7 (Nat.ne_of_lt (Nat.lt_of_lt_of_le (n6).inn (Nat.le_refl _)))) (Nat.ne_of_lt (Nat.lt_of_lt_of_le ((n5.grow g6)).inn (Nat.le_refl _)))
theorem kbdv{r:kb7}{o:kdf⊕kb7}{a1:Int}{x2 x3:List Nat}{a4:Int}{x5:List Nat}{a6:Int}(e:kgj a1 x2 x3 a4 x5 a6=some o)(good:GoodS (ke6 r) r o):ke6 r (.p6 a1 x2 x3 a4 x5 a6):=by
 intro h0 h a2 a3 a5 i2 i5 g0 v2 n3 v5 hi2 hi5 av3_2 av3_5 ne2_5;rw[k4r];unfold kgj at e;rw[v2.nats.len];rw[n3.len];refine Runs.cond (fun k7=>?_) (fun k7=>?_)
 ·replace e:=(condT k7).symm.trans e;obtain⟨j8,q8,e⟩:=Option.bind_eq_some_iff.1 e;refine Runs.step (v2.idx rfl q8) ?_;refine Runs.step (v2.rd rfl q8 (kc _ _)) ?_;obtain⟨j9,q9,e⟩:=Option.bind_eq_some_iff.1 e;refine Runs.step (v2.idx rfl q9) ?_;refine Runs.step (v2.rd rfl q9 (kc _ _)) ?_;obtain⟨j10,q10,e⟩:=Option.bind_eq_some_iff.1 e;refine Runs.step (v2.idx rfl q10) ?_;refine Runs.step (v2.rd rfl q10 (kc _ _)) ?_;obtain⟨y11,q11,e⟩:=Option.bind_eq_some_iff.1 e;obtain⟨r11,j11,l11⟩:=n3.atI q11;refine Runs.step j11 ?_;refine Runs.step (rdc l11 (kc _ _)) ?_;obtain⟨y12,q12,e⟩:=Option.bind_eq_some_iff.1 e;obtain⟨r12,j12,l12⟩:=n3.atI q12;refine Runs.step j12 ?_;refine Runs.step (rdc l12 (kc _ _)) ?_;obtain⟨p13,q13,e⟩:=Option.bind_eq_some_iff.1 e;obtain⟨_,H13,e13,rfl,g13⟩:=k7l q13;refine Runs.step e13 ?_;refine Runs.step (seen (kc _ _)) ?_;obtain⟨p14,q14,e⟩:=Option.bind_eq_some_iff.1 e;obtain⟨s14,e14,w14⟩:=(v2.grow g13).cutW rfl q14;refine Runs.step e14 ?_;cases e;exact good (g0.trans g13) (v2.grow g13) (n3.grow g13) (v5.grow g13) hi2 hi5 w14 (ksx q14).2.2.2 av3_2 av3_5 ne2_5
 ·replace e:=(condF k7).symm.trans e;obtain⟨s8,e8,n8,i8⟩:=kkv v2;refine Runs.step e8 ?_;refine Runs.step (seen (asSl_v _)) ?_;rw[n8.len];obtain⟨m9,q9,e⟩:=Option.bind_eq_some_iff.1 e;refine Runs.mk q9 kdw fun s9 H9 v9 g9=>?_;cases e;exact good (g0.trans g9) (v5.grow g9) (n8.grow g9) v9 hi5 (Nat.le_trans (g0).size (Nat.le_refl _)) (Av.of_in i8 ne2_5) (Av.of_in i8 (Nat.ne_of_lt (Nat.lt_of_lt_of_le (v2).inn (Nat.le_refl _)))) (Nat.ne_of_lt (Nat.lt_of_lt_of_le (v5).inn (Nat.le_refl _)))
theorem kbec{r:kb7}{o:kdf⊕kb7}{a1:Int}{x2 x3:List Nat}{a4:Int}{x5:List Nat}{a6 a7:Int}{x8:Nat×Nat}(e:kfx a1 x2 x3 a4 x5 a6 a7 x8=some o)(good:GoodS (ke6 r) r o):ke6 r (.p10 a1 x2 x3 a4 x5 a6 a7 x8):=by
 intro h0 h a2 a3 a5 a8 i2 i5 g0 v2 n3 v5 hi2 hi5 w8 wl8 av3_2 av3_5 ne2_5;rw[k0n];unfold kfx at e;rw[v5.nats.len];obtain⟨p9,q9,e⟩:=Option.bind_eq_some_iff.1 e;obtain⟨s9,H9,e9,n9,g9,o9⟩:=kvg q9;refine Runs.step e9 ?_;refine Runs.step (seen (asSl_v _)) ?_;obtain⟨c10_0,q10_0,e⟩:=Option.bind_eq_some_iff.1 e;obtain⟨s10,H10,e10,n10,g10,o10⟩:=kpc (n3.grow g9) n9  c10_0.down;refine Runs.step e10 ?_;refine Runs.step (seen (asSl_v _)) ?_;obtain⟨c11_0,q11_0,e⟩:=Option.bind_eq_some_iff.1 e;obtain⟨s11,H11,e11,n11,g11,o11⟩:=khr (w8.nats (v2.grow (g9.trans g10)) wl8)  c11_0.down;refine Runs.step e11 ?_;refine Runs.step (seen (asSl_v _)) ?_;obtain⟨s12,e12,n12,o12⟩:=kdd n11;refine Runs.step e12 ?_;refine Runs.step (seen (asSl_v _)) ?_;obtain⟨c13_0,q13_0,e⟩:=Option.bind_eq_some_iff.1 e;obtain⟨c13_1,q13_1,e⟩:=Option.bind_eq_some_iff.1 e;refine Runs.step (kkr n12 (n10.grow g11)  c13_0.down c13_1.down) ?_;refine Runs.step (seen (kc _ _)) ?_;refine Runs.cond (fun k14=>?_) (fun k14=>?_)
 ·replace e:=(condT k14).symm.trans e;obtain⟨c15_0,q15_0,e⟩:=Option.bind_eq_some_iff.1 e;obtain⟨s15,H15,e15,n15,g15,o15⟩:=k2z (w8.nats (v2.grow ((g9.trans g10).trans g11)) wl8) (n10.grow g11)  c15_0.down;refine Runs.step e15 ?_;refine Runs.step (seen (asSl_v _)) ?_;obtain⟨y16,q16,e⟩:=Option.bind_eq_some_iff.1 e;have hl16:=kwu q16;obtain⟨H16,e16,v16,u16⟩:=(v2.grow (((g9.trans g10).trans g11).trans g15)).copyW w8 n15 q16;refine Runs.step e16 ?_;have n3_16:=(n3.grow (((g9.trans g10).trans g11).trans g15)).upda av3_2 u16;have n9_16:=(n9.grow ((g10.trans g11).trans g15)).upda (Av.of_own o9 (v2).inn) u16;have n10_16:=(n10.grow (g11.trans g15)).upda (Av.of_own o10 ((v2.grow g9)).inn) u16;have n11_16:=(n11.grow g15).upda (Av.of_own o11 ((v2.grow (g9.trans g10))).inn) u16;have n12_16:=(n12.grow g15).upda (Av.of_own (o12 _ o11) ((v2.grow (g9.trans g10))).inn) u16;have n15_16:=n15.upda (Av.of_own o15 ((v2.grow ((g9.trans g10).trans g11))).inn) u16;have v5_16:=(v5.grow (((g9.trans g10).trans g11).trans g15)).updr (Ne.symm ne2_5) u16;obtain⟨j17,q17,e⟩:=Option.bind_eq_some_iff.1 e;refine Runs.step (v5_16.idx rfl q17) ?_;obtain⟨w18,z18,e⟩:=Option.bind_eq_some_iff.1 e;refine Runs.vput v5_16 rfl q17 z18 fun H18 v18 u18=>?_;have n3_18:=n3_16.upda av3_5 u18;have n9_18:=n9_16.upda (Av.of_own o9 (v5).inn) u18;have n10_18:=n10_16.upda (Av.of_own o10 ((v5.grow g9)).inn) u18;have n11_18:=n11_16.upda (Av.of_own o11 ((v5.grow (g9.trans g10))).inn) u18;have n12_18:=n12_16.upda (Av.of_own (o12 _ o11) ((v5.grow (g9.trans g10))).inn) u18;have n15_18:=n15_16.upda (Av.of_own o15 ((v5.grow ((g9.trans g10).trans g11))).inn) u18;have v16_18:=v16.updr ne2_5 u18;cases e;exact good ((((((g0.trans g9).trans g10).trans g11).trans g15).updr hi2 u16).updr hi5 u18) v16_18 n3_18 v18 hi2 hi5 av3_2 av3_5 ne2_5
 ·replace e:=(condF k14).symm.trans e;cases e;exact good (((g0.trans g9).trans g10).trans g11) (v2.grow ((g9.trans g10).trans g11)) (n3.grow ((g9.trans g10).trans g11)) (v5.grow ((g9.trans g10).trans g11)) hi2 hi5 w8 wl8 av3_2 av3_5 ne2_5
theorem k0w{r:kb7}{o:kdf⊕kb7}{a1:Int}{x2 x3 x4:List Nat}{a5 a6:Int}(e:kds a1 x2 x3 x4 a5 a6=some o)(good:GoodS (ke6 r) r o):ke6 r (.p18 a1 x2 x3 x4 a5 a6):=by
 intro h0 h a2 a3 a4 i2 i4 g0 v2 n3 v4 hi2 hi4 av3_2 av3_4 ne2_4;rw[k4e];unfold kds at e;rw[n3.len];rw[v4.nats.len];refine Runs.cond (fun k7=>?_) (fun k7=>?_)
 ·replace e:=(condT k7).symm.trans e;obtain⟨y8,q8,e⟩:=Option.bind_eq_some_iff.1 e;obtain⟨r8,j8,l8⟩:=n3.atI q8;refine Runs.step j8 ?_;refine Runs.step (rdc l8 (kc _ _)) ?_;refine Runs.cond (fun k9=>?_) (fun k9=>?_)
  ·replace e:=(condT k9).symm.trans e;cases e
  ·replace e:=(condF k9).symm.trans e;obtain⟨j10,q10,e⟩:=Option.bind_eq_some_iff.1 e;refine Runs.step (v4.idx rfl q10) ?_;obtain⟨w11,z11,e⟩:=Option.bind_eq_some_iff.1 e;refine Runs.vput v4 rfl q10 z11 fun H11 v11 u11=>?_;have n3_11:=n3.upda av3_4 u11;have v2_11:=v2.updr ne2_4 u11;refine Runs.cond (fun k12=>?_) (fun k12=>?_)
   ·replace e:=(condT k12).symm.trans e;refine Runs.cond (fun k13=>?_) (fun k13=>?_)
    ·replace e:=(condT k13).symm.trans e;obtain⟨j14,q14,e⟩:=Option.bind_eq_some_iff.1 e;refine Runs.step (v11.idx (by simp only[List.length_set]) q14) ?_;refine Runs.step (v11.rd (by simp only[List.length_set]) q14 (kc _ _)) ?_;obtain⟨y15,q15,e⟩:=Option.bind_eq_some_iff.1 e;obtain⟨r15,j15,l15⟩:=n3_11.atI q15;refine Runs.step j15 ?_;refine Runs.step (rdc l15 (kc _ _)) ?_;refine Runs.cond (fun k16=>?_) (fun k16=>?_)
     ·replace e:=(condT k16).symm.trans e;cases e
     ·replace e:=(condF k16).symm.trans e;obtain⟨j17,q17,e⟩:=Option.bind_eq_some_iff.1 e;refine Runs.step (v11.idx (by simp only[List.length_set]) q17) ?_;obtain⟨w18,z18,e⟩:=Option.bind_eq_some_iff.1 e;refine Runs.vput v11 (by simp only[List.length_set]) q17 z18 fun H18 v18 u18=>?_;have n3_18:=n3_11.upda av3_4 u18;have v2_18:=v2_11.updr ne2_4 u18;cases e;exact good ((g0.updr hi4 u11).updr hi4 u18) v2_18 n3_18 v18 hi2 hi4 av3_2 av3_4 ne2_4
    ·replace e:=(condF k13).symm.trans e;cases e;exact good (g0.updr hi4 u11) v2_11 n3_11 v11 hi2 hi4 av3_2 av3_4 ne2_4
   ·replace e:=(condF k12).symm.trans e;cases e;exact good (g0.updr hi4 u11) v2_11 n3_11 v11 hi2 hi4 av3_2 av3_4 ne2_4
 ·replace e:=(condF k7).symm.trans e;obtain⟨s8,e8,n8,i8⟩:=kkv v2;refine Runs.step e8 ?_;refine Runs.step (seen (asSl_v _)) ?_;obtain⟨s9,e9,n9,i9⟩:=kkv v4;refine Runs.step e9 ?_;refine Runs.step (seen (asSl_v _)) ?_;cases e;cases good;exact Runs.ret ⟨s8,s9,rfl,n8,n9,g0,((i8.own hi2).of_le (Grow.refl _)),((i9.own hi4).of_le (Grow.refl _))⟩
theorem k1w{s:kdf}{r:kb7}(it:Iter khp s r):ke6 r s:=Iter.ind (fun s o e good=>by
 cases s with
 | fn x1 x2=>exact @kbeh _ _ x1 x2 e good
 | p6 a1 x2 x3 a4 x5 a6=>exact @kbdv _ _ a1 x2 x3 a4 x5 a6 e good
 | p10 a1 x2 x3 a4 x5 a6 a7 x8=>exact @kbec _ _ a1 x2 x3 a4 x5 a6 a7 x8 e good
 | p18 a1 x2 x3 x4 a5 a6=>exact @k0w _ _ a1 x2 x3 x4 a5 a6 e good
 ) it
theorem kbcr{d q r r' x Q R:Nat}(h1:r*18446744073709551616+x=q*d+r')(h2:R=d*Q+r):x+18446744073709551616*R=d*(q+18446744073709551616*Q)+r':=by
 rw[h2,Nat.mul_add,Nat.mul_add];have e1:18446744073709551616*(d*Q)=d*(18446744073709551616*Q):=Nat.mul_left_comm _ _ _;rw[e1,Nat.mul_comm d q];omega
theorem kr5{o:List Nat}{i w:Nat}(h:i<o.length):(o.set i w).drop i=w::o.drop (i+1):=by
 rw[List.drop_eq_getElem_cons (by simpa using h),List.getElem_set_self,List.drop_set_of_lt (by omega)]
theorem ku1{xs:List Nat}{d:Nat}(lx:∀x∈xs,x<B)(hd:d<B)(hd0:0<d)(hl:xs.length≤8796093022208) :
  ∀(i:Nat)(o:List Nat)(r:Nat),i≤xs.length→o.length=xs.length→r<d→num B (xs.drop i)=d*num B (o.drop i)+r→
   Iter kql (.p4 xs d o r ((i:Int)-1)) (digs B (num B xs/d),((num B xs%d:Nat):Int))
 | 0,o,r,hi,lo,hr,e=>by
  refine .done ?_;show kgt _ _ _ _ _=_;unfold kgt;rw[List.drop_zero,List.drop_zero]at e;rw[condF (by rw[decide_eq_false_iff_not];omega),e,Nat.mul_add_div hd0,Nat.div_eq_of_lt hr,Nat.add_zero,Nat.mul_add_mod,Nat.mod_eq_of_lt hr]
 | i+1,o,r,hi,lo,hr,e=>by
  have hi':i<xs.length:=by omega
  have hio:i<o.length:=by omega
  have hx:=lx xs[i] (List.getElem_mem _);have hd':d<18446744073709551616:=hd;have hx':xs[i]<18446744073709551616:=hx
  have hq:(r*18446744073709551616+xs[i])/d<18446744073709551616:=by
   rw[Nat.div_lt_iff_lt_mul hd0];have:(r+1)*18446744073709551616≤d*18446744073709551616:=Nat.mul_le_mul_right _ hr;omega
  refine .next (s':=.p4 xs d (o.set i ((r*18446744073709551616+xs[i])/d)) ((r*18446744073709551616+xs[i])%d:Nat) ((i:Int)-1)) ?_ (ku1 lx hd hd0 hl i _ _ (by omega) (by simpa using lo) (Nat.mod_lt _ hd0) ?_)
  ·show kgt _ _ _ _ _=_;unfold kgt;rw[condT (by rw[decide_eq_true_eq];omega),show((i+1:Nat):Int)-1=(i:Int)from by omega,kcc hi',Option.bind_some,ktc hd' hx' hr,Option.bind_some,kbd hio,Option.bind_some];dsimp only;rw[kb4 hq,Option.bind_some,wrap64 (by omega) (by omega)]
  ·rw[kr5 hio,List.drop_eq_getElem_cons hi'];simp only[num];have dm:=Nat.div_add_mod (r*18446744073709551616+xs[i]) d;rw[Nat.mul_comm d]at dm;exact kbcr dm.symm e
theorem kbez{xs:List Nat}{d:Nat}(lx:∀x∈xs,x<B)(hd:d<B)(hd0:0<d)(hl:xs.length≤8796093022208):Iter kql (.fn xs d) (digs B (num B xs/d),((num B xs%d:Nat):Int)):=by
 refine .next (s':=.p4 xs d (List.replicate xs.length 0) ((0:Nat):Int) ((xs.length:Int)-1)) ?_ (ku1 lx hd hd0 hl xs.length _ _ (Nat.le_refl _) (by simp) hd0 (by simp[num]));show kj7 _ _=_;unfold kj7;rw[kfh hl,Option.bind_some,wrap64 (by omega) (by omega)];rfl
theorem k4z{h:AH}{s:Sl}{xs:List Nat}(n:Nats h s xs){d:Nat}(hd:d<B)(hd0:0<d)(hl:xs.length≤8796093022208):∃(s':Sl)(h':AH),go (.fn ket [s.v,.int .u64 (d:Int)]) h=some (.tup [s'.v,.int .u64 ((num B xs%d:Nat):Int)],h')∧Nats h' s' (digs B (num B xs/d))∧Grow h h'∧Own h s':=by
 obtain⟨_,h',e,s',rfl,n',g,o⟩:=kbbx (kbez n.lt hd hd0 hl) n;exact⟨s',h',e,n',g,o⟩
theorem knz(a b:Int):ior .u64 a b=ior .u64 b a:=by
 unfold ior;rw[BitVec.or_comm]
theorem kbfi{x n:Nat}(hx:x<18446744073709551616)(hn:n≤63):x*2^n%18446744073709551616=x%2^(64-n)*2^n∧x*2^n/18446744073709551616=x/2^(64-n)∧x/2^(64-n)<2^n∧x%2^(64-n)*2^n<18446744073709551616:=by
 have p:0<2^n:=Nat.pow_pos (by decide);have p2:0<2^(64-n):=Nat.pow_pos (by decide);have e:2^(64-n)*2^n=18446744073709551616:=by rw[← Nat.pow_add,show 64-n+n=64 from by omega]
 refine⟨?_,?_,?_,?_⟩
 ·rw[← e,Nat.mul_mod_mul_right]
 ·rw[← e,Nat.mul_div_mul_right _ _ p]
 ·rw[Nat.div_lt_iff_lt_mul p2,Nat.mul_comm,e];exact hx
 ·have:=Nat.mul_lt_mul_of_pos_right (Nat.mod_lt x p2) p;rw[e]at this;exact this
theorem up_alg{P c l hgh t n0 n1 n2 X:Nat}(h1:n1+P*c=n0+P*(l+c))(h2:n2+P*18446744073709551616*0=n1+P*18446744073709551616*hgh)(ht:t=hgh*18446744073709551616+l)(h3:n0=X):n2=X+P*t:=by
 rw[Nat.mul_add]at h1;rw[ht,Nat.mul_add,Nat.mul_comm hgh,← Nat.mul_assoc];omega
theorem ko8{xs:List Nat}{n:Nat}(lx:∀x∈xs,x<B)(hn:n≤63)(hl:xs.length<8796093022208) :
  ∀(d i:Nat)(o:List Nat),i+d=xs.length→o.length=xs.length+1→(∀y∈o,y<B)→Empty o (i+1)→(∀h:i<o.length,o[i]<2^n)→num B o=num B (xs.take i)*2^n→
   ∃r,Iter kg8 (.p3 n o xs xs.length i) r∧r.length=xs.length+1∧(∀y∈r,y<B)∧num B r=num B xs*2^n
 | 0,i,o,hi,lo,to,zo,ho,e=>by
  have hi:i=xs.length:=by omega
  subst hi;rw[List.take_length]at e;refine⟨o,.done ?_,lo,to,e⟩;show keo _ _ _ _ _=_;unfold keo;rw[condF (by rw[decide_eq_false_iff_not];omega)]
 | d+1,i,o,hi,lo,to,zo,ho,e=>by
  have hi':i<xs.length:=by omega
  have hio:i<o.length:=by omega
  have hx:xs[i]<18446744073709551616:=lx xs[i] (List.getElem_mem _);have hc:=ho hio;obtain⟨u1,u2,u3,u4⟩:=kbfi hx hn;have shl:ishl .u64 (xs[i]:Int) (n:Int)=((xs[i]%2^(64-n)*2^n:Nat):Int):=by rw[khn _ _ (by omega),u1]
  have io:ior .u64 (o[i]:Int) ((xs[i]%2^(64-n)*2^n:Nat):Int)=((xs[i]%2^(64-n)*2^n+o[i]:Nat):Int):=by rw[knz,km5 u4 hc (by omega)]
  have hw:xs[i]%2^(64-n)*2^n+o[i]<18446744073709551616:=by
   have p:0<2^n:=Nat.pow_pos (by decide);have p2:0<2^(64-n):=Nat.pow_pos (by decide);have e:2^(64-n)*2^n=18446744073709551616:=by rw[← Nat.pow_add,show 64-n+n=64 from by omega]
   have:=Nat.mul_le_mul_right (2^n) (Nat.mod_lt xs[i] p2);rw[e,Nat.succ_mul]at this;omega
  generalize hlw:xs[i]%2^(64-n)*2^n=l at *
  have hset:i+1<(o.set i (l+o[i])).length:=by simp;omega
  have h1:=kh3 (b:=B) hio (l+o[i])
  have hz:(o.set i (l+o[i]))[i+1]=0:=by
   rw[List.getElem_set_ne (by omega)];exact zo _ (by omega) (by omega)
  have htot:xs[i]*2^n=xs[i]/2^(64-n)*18446744073709551616+l:=by
   have:=Nat.div_add_mod (xs[i]*2^n) 18446744073709551616;rw[u2,u1,Nat.mul_comm]at this;exact this.symm
  have htake:num B (xs.take (i+1))*2^n=num B (xs.take i)*2^n+B^i*(xs[i]*2^n):=by
   rw[kck B hi',Nat.add_mul,Nat.mul_assoc]
  have hB:xs[i]/2^(64-n)<18446744073709551616:=Nat.lt_of_le_of_lt (Nat.div_le_self _ _) hx;by_cases hn0:n=0
  ·
   have hh:xs[i]/2^(64-n)=0:=by
    subst hn0;rw[Nat.pow_zero]at u3;omega
   obtain⟨r,it,r1,r2,r3⟩:=ko8 lx hn hl d (i+1) (o.set i (l+o[i])) (by omega) (by simpa using lo) (set_lt to hw) (by intro t ht hk;rw[List.getElem_set_ne (by omega)];exact zo t (by simpa using ht) (by omega)) (by intro ht;rw[hz];exact Nat.pow_pos (by decide)) (by
    rw[htake,htot,hh];exact up_alg (hgh:=0) h1 (by omega) rfl e)
   refine⟨r,.next ?_ it,r1,r2,r3⟩;show keo _ _ _ _ _=_;unfold keo;rw[condT (by rw[decide_eq_true_eq];omega),kcc hi',Option.bind_some,kbd hio,Option.bind_some,condF (by rw[decide_eq_false_iff_not];omega),Option.bind_some,kdv hio,shl,io,kb4 hw,Option.bind_some,condF (by rw[decide_eq_false_iff_not];omega),kf (by omega)]
  ·have h2:=kh3 (b:=B) hset (xs[i]/2^(64-n));rw[hz]at h2
   obtain⟨r,it,r1,r2,r3⟩:=ko8 lx hn hl d (i+1) ((o.set i (l+o[i])).set (i+1) (xs[i]/2^(64-n))) (by omega) (by simpa using lo) (set_lt (set_lt to hw) hB) (by intro t ht hk;rw[List.getElem_set_ne (by omega),List.getElem_set_ne (by omega)];exact zo t (by simpa using ht) (by omega)) (by intro ht;rw[List.getElem_set_self];exact u3) (by
    rw[htake];rw[Nat.pow_succ]at h2;exact up_alg h1 h2 htot e)
   refine⟨r,.next ?_ it,r1,r2,r3⟩;have sh2:ishr .u64 (xs[i]:Int) ((64-n:Nat):Int)=((xs[i]/2^(64-n):Nat):Int):=by rw[kb3,Nat.min_eq_left (by omega)]
   have w64:IntKind.wrap .u64 (64-(n:Int))=((64-n:Nat):Int):=by rw[wrapU];omega
   show keo _ _ _ _ _=_;unfold keo;rw[condT (by rw[decide_eq_true_eq];omega),kcc hi',Option.bind_some,kbd hio,Option.bind_some,condF (by rw[decide_eq_false_iff_not];omega),Option.bind_some,kdv hio,shl,io,kb4 hw,Option.bind_some,condT (by rw[decide_eq_true_eq];omega),w64,condF (by rw[decide_eq_false_iff_not];omega),kf (by omega),kbd (by omega),Option.bind_some,sh2,kb4 hB,Option.bind_some]
theorem kvo{xs:List Nat}{n:Nat}(lx:∀x∈xs,x<B)(hn:n≤63)(hl:xs.length<8796093022208):∃r,Iter kg8 (.fn xs n) r∧r.length=xs.length+1∧(∀y∈r,y<B)∧num B r=num B xs*2^n:=by
 obtain⟨r,it,k⟩:=ko8 lx hn hl xs.length 0 (List.replicate (xs.length+1) 0) (by omega) (by simp) (fun y hy=>by rw[List.eq_of_mem_replicate hy];exact B0) (fun t ht hk=>by simp) (fun ht=>by simp;exact Nat.pow_pos (by decide)) (by
  have:=kjs B [] (xs.length+1)
  simpa[num]using this)
 refine⟨r,.next ?_ it,k⟩;show kj9 _ _=_;unfold kj9;rw[kf (by omega),kfh (by omega),Option.bind_some];rfl
theorem kn_hi2{b v1 v0 W r0 q r:Nat}(hv:0<v1*b+v0)(e:q*v1+r=W)(t:b*r+r0<q*v0):(W*b+r0)/(v1*b+v0)≤q-1∧1≤q:=by
 have h1:(W*b+r0)/(v1*b+v0)<q:=by
  rw[Nat.div_lt_iff_lt_mul hv,kn_mul (v:=v1*b+v0) rfl,← e,Nat.add_mul,Nat.mul_comm r b];omega
 generalize (W*b+r0)/(v1*b+v0)=k at *
 omega
theorem kvw{d1 d0 W r0:Nat}(h1:d1<18446744073709551616)(h1':0<d1)(h0:d0<18446744073709551616)(hr:r0<18446744073709551616) :
  ∀(q r:Nat),q*d1+r=W→q<18446744073709551616→r<18446744073709551616→(W*18446744073709551616+r0)/(d1*18446744073709551616+d0)≤q→
   ∃g:Nat,Iter kia (.p4 r0 d1 d0 q r) (g:Int)∧g<18446744073709551616∧(W*18446744073709551616+r0)/(d1*18446744073709551616+d0)≤g
 | q,r,e,hq,hrr,hge=>by
  have hm:mul64 (q:Int) (d0:Int)=(((q*d0/18446744073709551616:Nat):Int),((q*d0%18446744073709551616:Nat):Int)):=ksv hq h0;by_cases c1:q*d0/18446744073709551616<r
  ·refine⟨q,.done ?_,hq,hge⟩;show keu _ _ _ _ _=_;unfold keu;rw[hm];dsimp only;rw[condT (by rw[decide_eq_true_eq];omega)]
  by_cases c2:q*d0/18446744073709551616=r∧q*d0%18446744073709551616≤r0
  ·refine⟨q,.done ?_,hq,hge⟩;show keu _ _ _ _ _=_;unfold keu;rw[hm];dsimp only;rw[condF (by rw[decide_eq_false_iff_not];omega),condT (by rw[decide_eq_true_eq];omega),condT (by rw[decide_eq_true_eq];omega)]
  have t:18446744073709551616*r+r0<q*d0:=by
   generalize q*d0=t at *
   omega
  obtain⟨k1,k2⟩:=kn_hi2 (by omega) e t;obtain⟨p,rfl⟩:∃p,q=p+1:=⟨q-1,by omega⟩;rw[Nat.add_sub_cancel]at k1
  have e':p*d1+(r+d1)=W:=by
   rw[Nat.add_mul,Nat.one_mul]at e;omega
  have w1:IntKind.wrap .u64 (((p+1:Nat):Int)-1)=(p:Int):=by rw[wrapU];omega
  have step:∀o,cond (decide ((IntKind.wrap .u64 ((r:Int)+(d1:Int)))<(r:Int))) (some (Sum.inr (α:=ke7) (p:Int))) (some (.inl (.p4 r0 d1 d0 p (IntKind.wrap .u64 ((r:Int)+(d1:Int))))))=o→kia (.p4 r0 d1 d0 ((p+1:Nat):Int) r)=o:=by
   intro o ho;show keu _ _ _ _ _=_;unfold keu;rw[hm];dsimp only;rw[w1,condF (by rw[decide_eq_false_iff_not];omega)];refine kq2 (fun _=>?_) fun _=>ho;rw[condF (by rw[decide_eq_false_iff_not];rename_i h;rw[decide_eq_true_eq]at h;omega)];exact ho
  by_cases ho:r+d1<18446744073709551616
  ·have w2:IntKind.wrap .u64 ((r:Int)+(d1:Int))=((r+d1:Nat):Int):=by rw[wrapU];omega
   obtain⟨g,it,k3,k4⟩:=kvw h1 h1' h0 hr p (r+d1) e' (by omega) ho k1;refine⟨g,.next (step _ ?_) it,k3,k4⟩;rw[w2,condF (by rw[decide_eq_false_iff_not];omega)]
  ·have w2:IntKind.wrap .u64 ((r:Int)+(d1:Int))=((r+d1-18446744073709551616:Nat):Int):=by rw[wrapU];omega
   refine⟨p,.done (step _ ?_),by omega,k1⟩;rw[w2,condT (by rw[decide_eq_true_eq];omega)]
termination_by q=>q
theorem k2y{r2 r1 r0 d1 d0:Nat}(h2:r2<18446744073709551616)(hr1:r1<18446744073709551616)(hr:r0<18446744073709551616)(h1:d1<18446744073709551616)(h1':0<d1)(h0:d0<18446744073709551616) :
  ∃g:Nat,Iter kia (.fn r2 r1 r0 d1 d0) (g:Int)∧g<18446744073709551616∧(g=18446744073709551615∨((r2*18446744073709551616+r1)*18446744073709551616+r0)/(d1*18446744073709551616+d0)≤g):=by
 by_cases hc:d1≤r2
 ·refine⟨18446744073709551615,.done ?_,by omega,.inl rfl⟩;show kga _ _ _ _ _=_;unfold kga;rw[condT (by rw[decide_eq_true_eq];omega)];rfl
 ·have hr2:r2<d1:=by omega
  have hq:(r2*18446744073709551616+r1)/d1<18446744073709551616:=by
   rw[Nat.div_lt_iff_lt_mul h1'];have:(r2+1)*18446744073709551616≤d1*18446744073709551616:=Nat.mul_le_mul_right _ hr2;omega
  have hm:=Nat.mod_lt (r2*18446744073709551616+r1) h1'
  have first:((r2*18446744073709551616+r1)*18446744073709551616+r0)/(d1*18446744073709551616+d0)≤(r2*18446744073709551616+r1)/d1:=by
   rw[Nat.le_div_iff_mul_le h1'];have h3:=Nat.div_mul_le_self ((r2*18446744073709551616+r1)*18446744073709551616+r0) (d1*18446744073709551616+d0);rw[kn_mul (v:=d1*18446744073709551616+d0) rfl]at h3
   have h4:((r2*18446744073709551616+r1)*18446744073709551616+r0)/(d1*18446744073709551616+d0)*d1*18446744073709551616<(r2*18446744073709551616+r1+1)*18446744073709551616:=by
    rw[Nat.add_mul _ 1];omega
   have:=Nat.lt_of_mul_lt_mul_right h4;omega
  obtain⟨g,it,k3,k4⟩:=kvw h1 h1' h0 hr ((r2*18446744073709551616+r1)/d1) ((r2*18446744073709551616+r1)%d1) (by rw[Nat.mul_comm];exact Nat.div_add_mod _ _) hq (by omega) first
  refine⟨g,.next ?_ it,k3,.inr k4⟩;show kga _ _ _ _ _=_;unfold kga;rw[condF (by rw[decide_eq_false_iff_not];omega),ktc h1 hr1 hr2,Option.bind_some]
theorem ki8{s:Nat}(hs:s≤64):2^(64-s)*2^s=18446744073709551616:=by rw[← Nat.pow_add,show 64-s+s=64 from by omega]
theorem k25{s:Nat}(hs:s≤64)(t:List Nat):num B t%2^s=t.getD 0 0%2^s:=by
 cases t with
 | nil=>rfl
 | cons x t =>
  show(x+B*num B t)%2^s=x%2^s
  have e:B*num B t=2^s*(2^(64-s)*num B t):=by
   rw[← Nat.mul_assoc,Nat.mul_comm (2^s),ki8 hs]
  rw[e,Nat.add_mul_mod_self_left]
theorem kx9{s x:Nat}(hs:s≤64)(t:List Nat):(x+B*num B t)/2^s=(t.getD 0 0%2^s*2^(64-s)+x/2^s)+B*(num B t/2^s):=by
 have p:0<2^s:=Nat.pow_pos (by decide);have hm:=k25 hs t;have dm:=Nat.div_add_mod (num B t) (2^s);rw[hm]at dm;generalize t.getD 0 0%2^s=z at *
 generalize num B t/2^s=q at *
 have e:x+B*num B t=x+2^s*(B*q+2^(64-s)*z):=by
  rw[← dm,Nat.mul_add,Nat.mul_add,Nat.mul_left_comm B,← Nat.mul_assoc (2^s) (2^(64-s)),Nat.mul_comm (2^s) (2^(64-s)),ki8 hs]
 rw[e,Nat.add_mul_div_left _ _ p,Nat.mul_comm (2^(64-s))];omega
theorem kbe8{s x z:Nat}(hs:s≤64)(hx:x<18446744073709551616):z%2^s*2^(64-s)+x/2^s<18446744073709551616∧x/2^s<2^(64-s)∧z%2^s*2^(64-s)<18446744073709551616:=by
 have p:0<2^s:=Nat.pow_pos (by decide);have e:=ki8 hs;have h1:x/2^s<2^(64-s):=by rw[Nat.div_lt_iff_lt_mul p,e];exact hx
 have h2:=Nat.mul_le_mul_right (2^(64-s)) (Nat.mod_lt z p);rw[Nat.mul_comm (2^s),e,Nat.succ_mul]at h2;generalize x/2^s=f at *
 omega
theorem kmp{q L:List Nat}{s:Nat}(lL:∀x∈L,x<B)(hs:s≤63)(hl:L.length≤8796093022208) :
  ∀(d i:Nat)(o:List Nat),i+d=L.length→o.length=L.length→num B (o.take i)+B^i*(num B (L.drop i)/2^s)=num B L/2^s→
   Iter khp (.p18 s q L o L.length i) (digs B (num B q),digs B (num B L/2^s))
 | 0,i,o,hi,lo,e=>by
  have hi:i=L.length:=by omega
  subst hi;refine .done ?_;show kds _ _ _ _ _ _=_;unfold kds;rw[condF (by rw[decide_eq_false_iff_not];omega)];rw[List.take_of_length_le (by omega),List.drop_of_length_le (by omega)]at e;simp only[num,Nat.zero_div,Nat.mul_zero,Nat.add_zero]at e;rw[e]
 | d+1,i,o,hi,lo,e=>by
  have hi':i<L.length:=by omega
  have hio:i<o.length:=by omega
  have hx:L[i]<18446744073709551616:=lL L[i] (List.getElem_mem _);obtain⟨w1,w2,w3⟩:=kbe8 (z:=(L.drop (i+1)).getD 0 0) (show s≤64 by omega) hx;have hg:(L.drop (i+1)).getD 0 0=L.getD (i+1) 0:=by simp[List.getD]
  have inv:∀w,w=(L.drop (i+1)).getD 0 0%2^s*2^(64-s)+L[i]/2^s→num B ((o.set i w).take (i+1))+B^(i+1)*(num B (L.drop (i+1))/2^s)=num B L/2^s:=by
   intro w hw;rw[List.drop_eq_getElem_cons hi']at e;simp only[num]at e;rw[kx9 (by omega),← hw]at e;rw[kck B (by simpa using hio),List.getElem_set_self,List.take_set_of_le (Nat.le_refl i),Nat.pow_succ,Nat.mul_assoc];rw[Nat.mul_add]at e;omega
  have sr:ishr .u64 (L[i]:Int) (s:Int)=((L[i]/2^s:Nat):Int):=by rw[kb3,Nat.min_eq_left (by omega)]
  have hL0:L[i]/2^s<18446744073709551616:=Nat.lt_of_le_of_lt (Nat.div_le_self _ _) hx;by_cases hs0:s=0
  ·subst hs0;refine .next (s':=.p18 ((0:Nat):Int) q L (o.set i (L[i]/2^0)) L.length ((i+1:Nat):Int)) ?_ (kmp lL hs hl d (i+1) _ (by omega) (by simpa using lo) (inv _ (by rw[Nat.pow_zero,Nat.mod_one];omega)));show kds _ _ _ _ _ _=_;unfold kds;rw[condT (by rw[decide_eq_true_eq];omega),kcc hi',Option.bind_some,condF (by rfl),kbd hio,Option.bind_some,sr,kb4 hL0,Option.bind_some,condF (by rfl),kf (by omega)]
  by_cases hl1:i+1<L.length
  ·have hg':L.getD (i+1) 0=L[i+1]:=kdv hl1;rw[hg,hg']at w1 w3 inv;refine .next (s':=.p18 s q L (o.set i (L[i+1]%2^s*2^(64-s)+L[i]/2^s)) L.length ((i+1:Nat):Int)) ?_ (kmp lL hs hl d (i+1) _ (by omega) (by simpa using lo) (inv _ rfl));show kds _ _ _ _ _ _=_;unfold kds;have w64:IntKind.wrap .u64 (64-(s:Int))=((64-s:Nat):Int):=by rw[wrapU];omega
   have sl:ishl .u64 (L[i+1]:Int) ((64-s:Nat):Int)=((L[i+1]%2^s*2^(64-s):Nat):Int):=by
    rw[khn _ _ (by omega)];congr 1;rw[← ki8 (show s≤64 by omega),Nat.mul_comm (2^(64-s)) (2^s),Nat.mul_mod_mul_right]
   have io:ior .u64 ((L[i]/2^s:Nat):Int) ((L[i+1]%2^s*2^(64-s):Nat):Int)=((L[i+1]%2^s*2^(64-s)+L[i]/2^s:Nat):Int):=by rw[knz,km5 w3 w2 (by omega)]
   have hio2:i<(o.set i (L[i]/2^s)).length:=by simpa using hio
   rw[condT (by rw[decide_eq_true_eq];omega),kcc hi',Option.bind_some,condF (by rw[decide_eq_false_iff_not];omega),kbd hio,Option.bind_some,sr,kb4 hL0,Option.bind_some,condT (by rw[decide_eq_true_eq];omega),kf (by omega),condT (by rw[decide_eq_true_eq];omega),Option.bind_some,kcc hl1,Option.bind_some,w64,condF (by rw[decide_eq_false_iff_not];omega),Option.bind_some,kdv hio2,List.getElem_set_self,sl,io,kb4 w1,Option.bind_some,List.set_set]
  ·have hg':L.getD (i+1) 0=0:=by simp[List.getD,List.getElem?_eq_none (Nat.le_of_not_lt hl1)]
   rw[hg,hg']at inv;refine .next (s':=.p18 s q L (o.set i (L[i]/2^s)) L.length ((i+1:Nat):Int)) ?_ (kmp lL hs hl d (i+1) _ (by omega) (by simpa using lo) (inv _ (by rw[Nat.zero_mod];omega)));show kds _ _ _ _ _ _=_;unfold kds;rw[condT (by rw[decide_eq_true_eq];omega),kcc hi',Option.bind_some,condF (by rw[decide_eq_false_iff_not];omega),kbd hio,Option.bind_some,sr,kb4 hL0,Option.bind_some,condT (by rw[decide_eq_true_eq];omega),kf (by omega),condF (by rw[decide_eq_false_iff_not];omega)]
theorem cmp_ge{a b:Nat}:cmp a b≥0↔b≤a:=by
 unfold cmp;by_cases h:a<b
 ·rw[if_pos h];omega
 ·rw[if_neg h];by_cases h2:a=b
  ·rw[if_pos h2];omega
  ·rw[if_neg h2];omega
theorem k78{xs ys:List Nat}{lo n:Nat}(h:lo+n≤xs.length)(hy:ys.length=n):setW xs lo n ys=some (xs.take lo++ys++xs.drop (lo+n)):=by
 unfold setW;rw[if_pos ⟨h,hy⟩]
theorem kwh{s:Int}{r d q:List Nat}{j:Nat}{res:kb7}(hr:∀x∈r,x<B)(hd:∀x∈d,x<B)(hj:j<q.length)(hw:j+(d.length+1)≤r.length)(hrl:r.length≤1073741823)(hql:q.length≤1073741823)(hd0:0<num B d)
  (K:Iter khp (.p6 s (r.take j++padD B (d.length+1) (num B ((r.drop j).take (d.length+1))%num B d)++r.drop (j+(d.length+1))) d d.length (q.set j (num B ((r.drop j).take (d.length+1))/num B d)) ((j:Int)-1)) res) :
  ∀g:Nat,g<18446744073709551616→num B ((r.drop j).take (d.length+1))/num B d≤g→Iter khp (.p10 s r d d.length q j g (j,d.length+1)) res
 | g,hg,hge=>by
  have lw:((r.drop j).take (d.length+1)).length=d.length+1:=by simp;omega
  have tw:∀x∈(r.drop j).take (d.length+1),x<B:=fun x hx=>hr x (List.mem_of_mem_drop (List.mem_of_mem_take hx));have hP:=num_lt B1 tw;rw[lw]at hP
  have lg:(digs B g).length≤1:=by
   rw[kbi B2,Nat.pow_one];exact hg
  by_cases hc:num B d*g≤num B ((r.drop j).take (d.length+1))
  ·have hq:num B ((r.drop j).take (d.length+1))/num B d=g:=Nat.le_antisymm hge (by rw[Nat.le_div_iff_mul_le hd0,Nat.mul_comm];exact hc)
   have hm:num B ((r.drop j).take (d.length+1))-num B d*g=num B ((r.drop j).take (d.length+1))%num B d:=by
    have:=Nat.div_add_mod (num B ((r.drop j).take (d.length+1))) (num B d);rw[hq]at this;omega
   rw[hq]at K;refine .next ?_ K;show kfx _ _ _ _ _ _ _ _=_;unfold kfx
   have lp:(digs B (num B d*g)).length≤d.length+1:=by
    rw[kbi B2];omega
   rw[kb4 hg,Option.bind_some,kbm (by omega),Option.bind_some,kbm (by rw[lw];omega),Option.bind_some,kbm (kh8 B2 _),Option.bind_some,kbm (kh8 B2 _),Option.bind_some];dsimp only;rw[kv B2,kv B2,kv B2,condT (by rw[decide_eq_true_eq,cmp_ge];exact hc),kbm (by rw[lw];exact⟨by omega,lp,hc⟩),Option.bind_some,lw,hm,k78 (by omega) (kme _ _ _),Option.bind_some,kbd hj,Option.bind_some,Option.bind_some,wrap64 (by omega) (by omega)]
  ·obtain⟨p,rfl⟩:∃p,g=p+1:=⟨g-1,by
    rcases Nat.eq_zero_or_pos g with e | e
    ·subst e;rw[Nat.mul_zero]at hc;omega
    ·omega⟩
   have hlt:num B ((r.drop j).take (d.length+1))/num B d<p+1:=by
    rw[Nat.div_lt_iff_lt_mul hd0,Nat.mul_comm];omega
   refine .next (s':=.p10 s r d d.length q j p (j,d.length+1)) ?_ (kwh hr hd hj hw hrl hql hd0 K p (by omega) (by omega));show kfx _ _ _ _ _ _ _ _=_;unfold kfx;rw[kb4 hg,Option.bind_some,kbm (by omega),Option.bind_some,kbm (by rw[lw];omega),Option.bind_some,kbm (kh8 B2 _),Option.bind_some,kbm (kh8 B2 _),Option.bind_some];dsimp only;rw[kv B2,kv B2,kv B2,condF (by rw[decide_eq_false_iff_not,cmp_ge];exact hc),show IntKind.wrap .u64 (((p+1:Nat):Int)-1)=(p:Int)from by rw[wrapU];omega]
termination_by g=>g
theorem k15{b:Nat}{zs:List Nat}{n:Nat}(h:zs.length=n+2):num b zs=num b (zs.take n)+b^n*(zs[n+1]*b+zs[n]):=by
 have e:num b zs=num b (zs.take (n+1+1)):=by rw[List.take_of_length_le (by omega)]
 rw[e,kck b (by omega),kck b (by omega),Nat.pow_succ,Nat.mul_add,Nat.mul_assoc,Nat.mul_comm b];omega
theorem kbbs{b:Nat}{zs:List Nat}{n:Nat}(h:zs.length=n+3):num b zs=num b (zs.take n)+b^n*((zs[n+2]*b+zs[n+1])*b+zs[n]):=by
 have e:num b zs=num b (zs.take (n+1+1+1)):=by rw[List.take_of_length_le (by omega)]
 rw[e,kck b (by omega),kck b (by omega),kck b (by omega)];have e1:b^(n+1)*zs[n+1]=b^n*(zs[n+1]*b):=by rw[Nat.pow_succ,Nat.mul_assoc,Nat.mul_comm b]
 have e2:b^(n+1+1)*zs[n+1+1]=b^n*(zs[n+2]*b*b):=by rw[Nat.pow_succ,Nat.pow_succ,Nat.mul_assoc,Nat.mul_assoc,Nat.mul_comm b,Nat.mul_comm b]
 rw[e1,e2,Nat.add_mul,Nat.mul_add,Nat.mul_add];omega
theorem top_le{E T D p e:Nat}(hp:p<E)(hD:0<D):(p+E*T)/(e+E*D)≤T/D:=by
 have hE:0<E:=by omega
 have hv:0<e+E*D:=by have:=Nat.mul_pos hE hD;omega
 have h1:T<(T/D+1)*D:=by rw[Nat.mul_comm];exact Nat.lt_mul_div_succ T hD
 have h2:E*(T+1)≤E*((T/D+1)*D):=Nat.mul_le_mul_left _ h1;rw[Nat.mul_add,Nat.mul_one]at h2
 have h3:(p+E*T)/(e+E*D)<T/D+1:=by
  rw[Nat.div_lt_iff_lt_mul hv,Nat.mul_add,Nat.mul_left_comm _ E D];omega
 omega
theorem kbba{dn P low Bj X Qh n1:Nat}(h1:n1+dn*(Bj*18446744073709551616)*Qh=X)(h2:n1=low+Bj*P):low+Bj*(P%dn)+dn*Bj*(P/dn+18446744073709551616*Qh)=X:=by
 have dm:=Nat.div_add_mod P dn;have e1:Bj*P=Bj*(dn*(P/dn))+Bj*(P%dn):=by rw[← Nat.mul_add,dm]
 have e2:dn*Bj*(P/dn)=Bj*(dn*(P/dn)):=by rw[Nat.mul_comm dn Bj,Nat.mul_assoc]
 have e3:dn*(Bj*18446744073709551616)*Qh=dn*Bj*(18446744073709551616*Qh):=by rw[← Nat.mul_assoc dn,Nat.mul_assoc (dn*Bj)]
 rw[Nat.mul_add,e2,← e3];omega
theorem ktf{s X m k:Nat}{d:List Nat}(hs:s≤63)(hk:d.length=k+2)(hd:∀x∈d,x<B)(ht:Trim d)(hm:m≤536870911)(hk2:k≤536870000) :
  ∀(i:Nat)(r q:List Nat),i≤m→r.length=m+(k+2)→q.length=m→(∀x∈r,x<B)→num B r+num B d*B^i*num B (q.drop i)=X→num B r<num B d*B^i→
   Iter khp (.p6 s r d d.length q ((i:Int)-1)) (digs B (X/num B d),digs B (X%num B d/2^s))
 | 0,r,q,hi,lr,lq,tr,e,lt=>by
  rw[List.drop_zero,Nat.pow_zero,Nat.mul_one]at e;rw[Nat.pow_zero,Nat.mul_one]at lt;have hd0:0<num B d:=by omega
  have hq:X/num B d=num B q:=by rw[← e,Nat.add_mul_div_left _ _ hd0,Nat.div_eq_of_lt lt,Nat.zero_add]
  have hr:X%num B d=num B r:=by rw[← e,Nat.add_mul_mod_self_left,Nat.mod_eq_of_lt lt]
  rw[hq,hr];have hl:=kj2 tr;have key:=kmp (q:=q) (kw4 B2 (num B r)) hs (by omega) (digs B (num B r)).length 0 (List.replicate (digs B (num B r)).length 0) (by omega) (by simp) (by simp[num]);rw[kv B2]at key;refine .next ?_ key;show kgj _ _ _ _ _ _=_;unfold kgj;rw[condF (by rw[decide_eq_false_iff_not];omega),kfh (by omega),Option.bind_some];rfl
 | j+1,r,q,hi,lr,lq,tr,e,lt=>by
  have hd0:0<num B d:=by
   rcases Nat.eq_zero_or_pos (num B d)with h | h
   ·rw[h,Nat.zero_mul]at lt;omega
   ·exact h
  have hdB:=num_lt B1 hd;rw[hk]at hdB;have lw:((r.drop j).take (d.length+1)).length=k+3:=by simp;omega
  have tw:∀x∈(r.drop j).take (d.length+1),x<B:=fun x hx=>tr x (List.mem_of_mem_drop (List.mem_of_mem_take hx));have ltake:(r.take j).length=j:=by simp;omega
  have er:num B r=num B (r.take j)+B^j*num B ((r.drop j).take (d.length+1))+B^(j+(d.length+1))*num B (r.drop (j+(d.length+1))):=by
   have e1:num B r=num B (r.take j++((r.drop j).take (d.length+1)++(r.drop j).drop (d.length+1))):=by rw[List.take_append_drop,List.take_append_drop]
   rw[kdu,kdu,ltake,lw,List.drop_drop]at e1;have e3:j+(k+3)=j+(d.length+1):=by omega
   rw[e1,Nat.mul_add (B^j),← Nat.mul_assoc (B^j),← Nat.pow_add,e3];omega
  have hlow:=num_lt (b:=B) B1 (xs:=r.take j) fun x hx=>tr x (List.mem_of_mem_take hx);rw[ltake]at hlow
  have hrest:num B (r.drop (j+(d.length+1)))=0:=by
   rcases Nat.eq_zero_or_pos (num B (r.drop (j+(d.length+1))))with h | h
   ·exact h
   ·exfalso;have h1:B^(j+(d.length+1))*1≤B^(j+(d.length+1))*num B (r.drop (j+(d.length+1))):=Nat.mul_le_mul_left _ h;have h2:num B d*B^(j+1)≤B^(k+2)*B^(j+1):=Nat.mul_le_mul_right _ (by omega);rw[← Nat.pow_add,show k+2+(j+1)=j+(d.length+1)from by omega]at h2;omega
  rw[hrest,Nat.mul_zero,Nat.add_zero]at er
  have hP:num B ((r.drop j).take (d.length+1))<num B d*B:=by
   have h1:B^j*num B ((r.drop j).take (d.length+1))<B^j*(num B d*B):=by
    have:num B d*B^(j+1)=B^j*(num B d*B):=by rw[Nat.pow_succ,Nat.mul_left_comm]
    omega
   exact Nat.lt_of_mul_lt_mul_left h1
  have hq:num B ((r.drop j).take (d.length+1))/num B d<18446744073709551616:=by
   rw[Nat.div_lt_iff_lt_mul hd0,Nat.mul_comm];exact hP
  have i2:j+(k+2)<r.length:=by omega
  have i1:j+(k+1)<r.length:=by omega
  have i0:j+k<r.length:=by omega
  have g2:((r.drop j).take (d.length+1))[k+2]=r[j+(k+2)]:=by simp
  have g1:((r.drop j).take (d.length+1))[k+1]=r[j+(k+1)]:=by simp
  have g0:((r.drop j).take (d.length+1))[k]=r[j+k]:=by simp
  have top:=kbbs (b:=B) lw;rw[g2,g1,g0]at top;have topd:=k15 (b:=B) hk
  have hd1:0<d[k+1]:=by
   have hne:d≠[]:=by intro h;rw[h]at hk;simp at hk
   have:=ht hne;rw[List.getLast_eq_getElem]at this;have e:d.length-1=k+1:=by omega
   simp only[e]at this;omega
  have lpt:(((r.drop j).take (d.length+1)).take k).length=k:=by simp;omega
  have hpt:=num_lt (b:=B) B1 (xs:=((r.drop j).take (d.length+1)).take k) fun x hx=>tw x (List.mem_of_mem_take hx);rw[lpt]at hpt;have tl:=top_le (E:=B^k) (T:=(r[j+(k+2)]*B+r[j+(k+1)])*B+r[j+k]) (D:=d[k+1]*B+d[k]) (e:=num B (d.take k)) hpt (by have:1*B≤d[k+1]*B:=Nat.mul_le_mul_right _ hd1;have:=B0;omega);rw[← top,← topd]at tl;obtain⟨g,itg,hg1,hg2⟩:=k2y (r2:=r[j+(k+2)]) (r1:=r[j+(k+1)]) (r0:=r[j+k]) (d1:=d[k+1]) (d0:=d[k]) (tr _ (List.getElem_mem _)) (tr _ (List.getElem_mem _)) (tr _ (List.getElem_mem _)) (hd _ (List.getElem_mem _)) hd1 (hd _ (List.getElem_mem _))
  have hge:num B ((r.drop j).take (d.length+1))/num B d≤g:=by
   rcases hg2 with h | h
   ·omega
   ·exact Nat.le_trans tl h
  have hmod:=Nat.mod_lt (num B ((r.drop j).take (d.length+1))) hd0
  have hpd:num B (padD B (d.length+1) (num B ((r.drop j).take (d.length+1))%num B d))=num B ((r.drop j).take (d.length+1))%num B d:=by
   refine kqn B0 _ _ ?_;have:B^(k+2)≤B^(d.length+1):=Nat.pow_le_pow_right B1 (by omega);omega
  have nr:num B (r.take j++padD B (d.length+1) (num B ((r.drop j).take (d.length+1))%num B d)++r.drop (j+(d.length+1)))=num B (r.take j)+B^j*(num B ((r.drop j).take (d.length+1))%num B d):=by
   rw[kdu,kdu,hrest,Nat.mul_zero,Nat.add_zero,ltake,hpd]
  have hjq:j<q.length:=by omega
  have IH:=ktf (s:=s) (X:=X) hs hk hd ht hm hk2 j (r.take j++padD B (d.length+1) (num B ((r.drop j).take (d.length+1))%num B d)++r.drop (j+(d.length+1))) (q.set j (num B ((r.drop j).take (d.length+1))/num B d)) (by omega) (by simp[kme];omega) (by simpa using lq) (by
    intro x hx;rcases List.mem_append.1 hx with hx | hx
    ·rcases List.mem_append.1 hx with hx | hx
     ·exact tr x (List.mem_of_mem_take hx)
     ·exact ktp B0 _ _ x hx
    ·exact tr x (List.mem_of_mem_drop hx)) (by
    rw[nr,kr5 hjq];simp only[num];rw[Nat.pow_succ]at e;exact kbba e er) (by
    rw[nr];have:B^j*(num B ((r.drop j).take (d.length+1))%num B d+1)≤B^j*num B d:=Nat.mul_le_mul_left _ hmod;rw[Nat.mul_add,Nat.mul_one,Nat.mul_comm _ (num B d)]at this;omega)
  refine .next (s':=.p10 s r d d.length q j g (j,d.length+1)) ?_ (kwh tr hd hjq (by omega) (by omega) (by omega) hd0 IH g hg1 hge);show kgj _ _ _ _ _ _=_;unfold kgj;have w0:IntKind.wrap .i64 ((j:Int)+(d.length:Int))=((j+(k+2):Nat):Int):=by rw[wrap64 (by omega) (by omega)];omega
  rw[condT (by rw[decide_eq_true_eq];omega),show((j+1:Nat):Int)-1=(j:Int)from by omega,w0];rw[show IntKind.wrap .i64 (((j+(k+2):Nat):Int)-1)=((j+(k+1):Nat):Int)from by rw[wrap64 (by omega) (by omega)];omega];rw[show IntKind.wrap .i64 (((j+(k+2):Nat):Int)-2)=((j+k:Nat):Int)from by rw[wrap64 (by omega) (by omega)];omega];rw[show IntKind.wrap .i64 ((d.length:Int)-1)=((k+1:Nat):Int)from by rw[wrap64 (by omega) (by omega)];omega];rw[show IntKind.wrap .i64 ((d.length:Int)-2)=(k:Int)from by rw[wrap64 (by omega) (by omega)];omega];rw[show IntKind.wrap .i64 (((j+(k+2):Nat):Int)+1)=((j+(d.length+1):Nat):Int)from by rw[wrap64 (by omega) (by omega)];omega];rw[kbd i2,Option.bind_some,kbd i1,Option.bind_some,kbd i0,Option.bind_some,kcc (by omega),Option.bind_some,kcc (by omega),Option.bind_some,kdv i2,kdv i1,kdv i0,ki4 itg,Option.bind_some,k86 (by omega) (by omega),Option.bind_some]
end Go.Ab
