/- Words and laws that the last text joins. -/
import Derived.Test.YtgfeahhgoiidiaaGreatDoorPS2
import Derived.Test.YtgfeahhgoiidiaaGreatDoorPAbsL
set_option linter.unusedVariables false
set_option linter.unusedSimpArgs false
set_option linter.unusedSectionVars false
set_option maxRecDepth 10000
namespace Go.Ab
open IntKind (wrap)
open Go.Proofs Go.Num
def Bl(x n:Nat):Prop:=x<2^n/\(n=0\/2^(n-1)<=x)
def bl(i:Nat):Nat:=if i=0 then 0 else Nat.log2 i+1
theorem k47:∀i:Nat,i<256->(lit1[i]?).map (·.toNat)=some (bl i):=by decide +kernel
theorem bl_Bl(i:Nat):Bl i (bl i):=by
 unfold bl Bl;by_cases h:i=0
 ·subst h;simp
 ·rw[if_neg h];refine⟨Nat.lt_log2_self,.inr ?_⟩
  simpa using Nat.log2_self_le h
theorem kbg3{i:Nat}(h:i<256):∃b:UInt8,lit1[i]?=some b/\Bl i b.toNat:=by
 have e:=k47 i h;rw[Option.map_eq_some_iff]at e;obtain⟨b,y,A⟩:=e;exact⟨b,y,by rw[A];exact bl_Bl i⟩
theorem Bl.up{x k n:Nat}(b:Bl (x/2^k) n)(h:0<x/2^k):Bl x (k+n):=by
 obtain⟨h1,y⟩:=b;have p:0<2^k:=Nat.pow_pos (by decide);refine⟨?_,.inr ?_⟩
 ·rw[Nat.pow_add,Nat.mul_comm];exact(Nat.div_lt_iff_lt_mul p).1 h1
 ·rcases y with rfl | y
  ·rw[Nat.pow_zero]at h1;omega
  ·by_cases A:n=0
   ·subst A;rw[Nat.pow_zero]at h1;omega
   ·rw[show k+n-1=k+(n-1)from by omega,Nat.pow_add,Nat.mul_comm];exact(Nat.le_div_iff_mul_le p).1 y
theorem Bl.le{x n:Nat}(b:Bl x n){m:Nat}(h:x<2^m):n<=m:=by
 rcases b.2 with h1 | h1
 ·omega
 ·rcases Nat.lt_or_ge m n with y | y
  ·have:2^m<=2^(n-1):=Nat.pow_le_pow_right (by decide) (by omega);omega
  ·exact y
theorem wrap8{n:Nat}(h:n<256):wrap .u8 (n:Int)=(n:Int):=by
 simp[IntKind.wrap,IntKind.bits,IntKind.signed];omega
theorem kg0{x:Nat}(y:x<256){P:AV->AH->Prop}{h:AH}{K:Int->Int}(H:∀n:Nat,Bl x n->n<=8->P (.i (K (n:Int))) h) :
  Runs (cond (decide (0<=(wrap .u8 (x:Int)))) ((lit1[Int.toNat (wrap .u8 (x:Int))]?).bind λb=>some (.i (K (wrap .i64 (b.toNat:Int))),h)) none) P:=by
 rw[wrap8 y,Int.toNat_natCast];obtain⟨b,C,A⟩:=kbg3 y;refine qbb (by rw[qbw];omega) ?_;refine qz C ?_;have:=A.le (m:=8) y;rw[kgj (by omega)];exact qy (H _ A this)
theorem k78{x:Nat}(Z:x<18446744073709551616){h:AH}:∃n:Nat,go (.fn kn4 [.int .u64 (x:Int)]) h=some (.i (n:Int),h)/\Bl x n:=by
 have key:Runs (go (.fn kn4 [.int .u64 (x:Int)]) h) λv h'=>∃n:Nat,v=.i (n:Int)/\h'=h/\Bl x n:=by
  rw[kbkr];have U:ishr .u64 (x:Int) 32=((x/2^32:Nat):Int):=kcm x 32;have V:ishr .u64 (x:Int) 16=((x/2^16:Nat):Int):=kcm x 16;have Y:ishr .u64 (x:Int) 8=((x/2^8:Nat):Int):=kcm x 8;have C:ishr .u64 ((x/2^32:Nat):Int) 16=((x/2^32/2^16:Nat):Int):=kcm _ 16;have I:ishr .u64 ((x/2^32:Nat):Int) 8=((x/2^32/2^8:Nat):Int):=kcm _ 8;have Q:ishr .u64 ((x/2^16:Nat):Int) 8=((x/2^16/2^8:Nat):Int):=kcm _ 8;have A:ishr .u64 ((x/2^32/2^16:Nat):Int) 8=((x/2^32/2^16/2^8:Nat):Int):=kcm _ 8;rw[U,C,A,I,V,Q,Y];refine qbd (λX=>?_) (λX=>?_)
  ·rw[qbw]at X;refine qbd (λF=>?_) (λF=>?_)
   ·rw[qbw]at F;refine qbd (λy=>?_) (λy=>?_)
    ·rw[qbw]at y;refine kg0 (K:=λn=>wrap .i64 ((wrap .i64 ((wrap .i64 (32+16))+8))+n)) (by omega) λn b H=>⟨32+(16+(8+n)),?_,rfl,((b.up (by omega)).up (by omega)).up (by omega)⟩;rw[show(wrap .i64 ((wrap .i64 (32+16))+8))=56 from by decide,wrap64 (by omega) (by omega)];congr 1;omega
    ·rw[qbv]at y;refine kg0 (K:=λn=>wrap .i64 ((wrap .i64 (32+16))+n)) (by omega) λn b H=>⟨32+(16+n),?_,rfl,(b.up (by omega)).up (by omega)⟩;rw[show(wrap .i64 (32+16))=48 from by decide,wrap64 (by omega) (by omega)];congr 1;omega
   ·rw[qbv]at F;refine qbd (λy=>?_) (λy=>?_)
    ·rw[qbw]at y;refine kg0 (K:=λn=>wrap .i64 ((wrap .i64 (32+8))+n)) (by omega) λn b H=>⟨32+(8+n),?_,rfl,(b.up (by omega)).up (by omega)⟩;rw[show(wrap .i64 (32+8))=40 from by decide,wrap64 (by omega) (by omega)];congr 1;omega
    ·rw[qbv]at y;refine kg0 (K:=λn=>wrap .i64 (32+n)) (by omega) λn b H=>⟨32+n,?_,rfl,b.up (by omega)⟩;rw[wrap64 (by omega) (by omega)];congr 1
  ·rw[qbv]at X;refine qbd (λF=>?_) (λF=>?_)
   ·rw[qbw]at F;refine qbd (λy=>?_) (λy=>?_)
    ·rw[qbw]at y;refine kg0 (K:=λn=>wrap .i64 ((wrap .i64 ((wrap .i64 (0+16))+8))+n)) (by omega) λn b H=>⟨16+(8+n),?_,rfl,(b.up (by omega)).up (by omega)⟩;rw[show(wrap .i64 ((wrap .i64 (0+16))+8))=24 from by decide,wrap64 (by omega) (by omega)];congr 1;omega
    ·rw[qbv]at y;refine kg0 (K:=λn=>wrap .i64 ((wrap .i64 (0+16))+n)) (by omega) λn b H=>⟨16+n,?_,rfl,b.up (by omega)⟩;rw[show(wrap .i64 (0+16))=16 from by decide,wrap64 (by omega) (by omega)];congr 1
   ·rw[qbv]at F;refine qbd (λy=>?_) (λy=>?_)
    ·rw[qbw]at y;refine kg0 (K:=λn=>wrap .i64 ((wrap .i64 (0+8))+n)) (by omega) λn b H=>⟨8+n,?_,rfl,b.up (by omega)⟩;rw[show(wrap .i64 (0+8))=8 from by decide,wrap64 (by omega) (by omega)];congr 1
    ·rw[qbv]at y;refine kg0 (K:=λn=>wrap .i64 (0+n)) (by omega) λn b H=>⟨n,?_,rfl,b⟩;rw[wrap64 (by omega) (by omega)];congr 1;omega
 obtain⟨_,_,e,n,rfl,rfl,b⟩:=key;exact⟨n,e,b⟩
end Go.Ab
set_option maxRecDepth 10000
namespace Go.Ab
open Go.Proofs Go.Num
theorem Bl.uniq{x n m:Nat}(a:Bl x n)(b:Bl x m):n=m:=Nat.le_antisymm (a.le b.1) (b.le a.1)
theorem kv1(a:Int){h:AH}(y:0<=a/\a<18446744073709551616):go (.fn kps [.int .u64 a]) h=some (.i ((64-bl a.toNat:Nat):Int),h):=by
 obtain⟨x,rfl⟩:∃x:Nat,a=(x:Int):=⟨a.toNat,by omega⟩;obtain⟨l,e,b⟩:=k78 (x:=x) (by omega) (h:=h);have A:=b.le (m:=64) (show x<2^64 by omega);have:=b.uniq (bl_Bl x);subst this;rw[kbgf,e,qbt,qbt,kb,qbt,Int.toNat_natCast,wrap64 (by omega) (by omega)];rw[show(64:Int)-(bl x:Int)=((64-bl x:Nat):Int)from by omega]
theorem kv9{x:Nat}(C:x<18446744073709551616)(h0:0<x):64-bl x<=63/\9223372036854775808<=x*2^(64-bl x)/\x*2^(64-bl x)<18446744073709551616:=by
 have b:=bl_Bl x;generalize bl x=l at b;have F:=b.le (m:=64) (show x<2^64 by omega)
 have A:1<=l:=by
  rcases Nat.eq_zero_or_pos l with e | e
  ·subst e;have:=b.1;rw[Nat.pow_zero]at this;omega
  ·exact e
 refine⟨by omega,?_,?_⟩
 ·rcases b.2 with h1 | h1
  ·omega
  ·have y:2^(l-1)*2^(64-l)<=x*2^(64-l):=Nat.mul_le_mul_right _ h1;rw[<- Nat.pow_add,show l-1+(64-l)=63 from by omega]at y;exact y
 ·have y:x*2^(64-l)<2^l*2^(64-l):=Nat.mul_lt_mul_of_pos_right b.1 (Nat.pow_pos (by decide));rw[<- Nat.pow_add,show l+(64-l)=64 from by omega]at y;exact y
theorem kmo(x n:Nat)(y:n<=64):ishl .u64 (x:Int) (n:Int)=((x*2^n%18446744073709551616:Nat):Int):=by
 unfold ishl;rw[Int.toNat_natCast,show IntKind.bits .u64=64 from rfl,Nat.min_eq_left y,wrapU];have:(x:Int)*(2:Int)^n=((x*2^n:Nat):Int):=by simp
 rw[this];rfl
theorem kts{a c s:Nat}(h:a*2^s<18446744073709551616)(A:c<2^s)(H:s<=64):ior .u64 ((a*2^s:Nat):Int) (c:Int)=((a*2^s+c:Nat):Int):=by
 have p:0<2^s:=Nat.pow_pos (by decide);have y:c<18446744073709551616:=show c<2^64 from qbr A (Nat.pow_le_pow_right (by decide) H)
 have C:a*2^s+c<18446744073709551616:=by
  have e:2^(64-s)*2^s=18446744073709551616:=by rw[<- Nat.pow_add,show 64-s+s=64 from by omega]
  have h1:a<2^(64-s):=Nat.lt_of_mul_lt_mul_right (a:=2^s) (by rw[e];exact h);have I:(a+1)*2^s<=2^(64-s)*2^s:=Nat.mul_le_mul_right _ h1;rw[e,Nat.add_mul,Nat.one_mul]at I;omega
 unfold ior;rw[show IntKind.bits .u64=64 from rfl,wrapU];have K:BitVec.ofInt 64 ((a*2^s:Nat):Int)=BitVec.ofNat 64 (a*2^s):=rfl;have Q:BitVec.ofInt 64 (c:Int)=BitVec.ofNat 64 c:=rfl;have F:=Nat.shiftLeft_add_eq_or_of_lt A a;rw[Nat.shiftLeft_eq]at F;rw[K,Q,BitVec.toNat_or,BitVec.toNat_ofNat,BitVec.toNat_ofNat,Nat.mod_eq_of_lt (show a*2^s<2^64 from h),Nat.mod_eq_of_lt (show c<2^64 from y),<- F];omega
end Go.Ab
set_option maxRecDepth 10000
namespace Go.Ab
open IntKind (wrap)
open Go.Proofs Go.Num
inductive kcu
 | fn (a1:Int) (a2:Int) (a3:Int)
 | p3 (a1:Int) (a2:Int) (a3:Int)
 | p17 (a1:Int) (a2:Int) (a3:Int) (a4:Int) (a5:Int) (a6:Int) (a7:Int) (a8:Int) (a9:Int)
 | p24 (a1:Int) (a2:Int) (a3:Int) (a4:Int) (a5:Int) (a6:Int) (a7:Int) (a8:Int) (a9:Int)
abbrev kb7:=Int×Int
noncomputable def kmr(a1 a2 a3:Int):Option (kcu⊕kb7) :=
 cond (decide (a3=0)) (none) (some (.inl (.p3 a1 a2 a3)))
noncomputable def ki2(a1 a2 a3:Int):Option (kcu⊕kb7) :=
 cond (decide (a3<=a1)) (none) (cond (decide (a1=0)) (cond (decide (a3=0)) (none) (cond (decide (a3=0)) (none) (some (.inr (wrap .u64 (Int.tdiv a2 a3),Int.tmod a2 a3))))) ((need (0<=a3/\a3<18446744073709551616)).bind λy=>cond (decide ((wrap .u64 (((64-bl (Int.toNat a3):Nat):Int)))<0)) (none) (cond (decide ((wrap .u64 (((64-bl (Int.toNat a3):Nat):Int)))<0)) (none) (cond (decide ((wrap .u64 (64-(wrap .u64 (((64-bl (Int.toNat a3):Nat):Int)))))<0)) (none) (cond (decide ((wrap .u64 (((64-bl (Int.toNat a3):Nat):Int)))<0)) (none) (cond (decide ((ishr .u64 (ishl .u64 a3 (wrap .u64 (((64-bl (Int.toNat a3):Nat):Int)))) 32)=0)) (none) (some (.inl (.p17 (ishl .u64 a3 (wrap .u64 (((64-bl (Int.toNat a3):Nat):Int)))) (wrap .u64 (((64-bl (Int.toNat a3):Nat):Int))) (ishr .u64 (ishl .u64 a3 (wrap .u64 (((64-bl (Int.toNat a3):Nat):Int)))) 32) (iand .u64 (ishl .u64 a3 (wrap .u64 (((64-bl (Int.toNat a3):Nat):Int)))) 4294967295) (ior .u64 (ishl .u64 a1 (wrap .u64 (((64-bl (Int.toNat a3):Nat):Int)))) (ishr .u64 a2 (wrap .u64 (64-(wrap .u64 (((64-bl (Int.toNat a3):Nat):Int))))))) (ishr .u64 (ishl .u64 a2 (wrap .u64 (((64-bl (Int.toNat a3):Nat):Int)))) 32) (iand .u64 (ishl .u64 a2 (wrap .u64 (((64-bl (Int.toNat a3):Nat):Int)))) 4294967295) (wrap .u64 (Int.tdiv (ior .u64 (ishl .u64 a1 (wrap .u64 (((64-bl (Int.toNat a3):Nat):Int)))) (ishr .u64 a2 (wrap .u64 (64-(wrap .u64 (((64-bl (Int.toNat a3):Nat):Int))))))) (ishr .u64 (ishl .u64 a3 (wrap .u64 (((64-bl (Int.toNat a3):Nat):Int)))) 32))) (wrap .u64 ((ior .u64 (ishl .u64 a1 (wrap .u64 (((64-bl (Int.toNat a3):Nat):Int)))) (ishr .u64 a2 (wrap .u64 (64-(wrap .u64 (((64-bl (Int.toNat a3):Nat):Int)))))))-(wrap .u64 ((wrap .u64 (Int.tdiv (ior .u64 (ishl .u64 a1 (wrap .u64 (((64-bl (Int.toNat a3):Nat):Int)))) (ishr .u64 a2 (wrap .u64 (64-(wrap .u64 (((64-bl (Int.toNat a3):Nat):Int))))))) (ishr .u64 (ishl .u64 a3 (wrap .u64 (((64-bl (Int.toNat a3):Nat):Int)))) 32)))*(ishr .u64 (ishl .u64 a3 (wrap .u64 (((64-bl (Int.toNat a3):Nat):Int)))) 32))))))))))))))
noncomputable def kfo(a1 a2 a3 a4 a5 a6 a7 a8 a9:Int):Option (kcu⊕kb7) :=
 cond (decide (a8>=4294967296)) (cond (decide ((wrap .u64 (a9+a3))>=4294967296)) (cond (decide (a3=0)) (none) (some (.inl (.p24 a1 a2 a3 a4 a7 (wrap .u64 (a8-1)) (wrap .u64 ((wrap .u64 ((wrap .u64 ((wrap .u64 (a5*4294967296))+a6))-(wrap .u64 ((wrap .u64 (a8-1))*a1))))-(wrap .u64 ((wrap .u64 (Int.tdiv (wrap .u64 ((wrap .u64 ((wrap .u64 (a5*4294967296))+a6))-(wrap .u64 ((wrap .u64 (a8-1))*a1)))) a3))*a3)))) (wrap .u64 ((wrap .u64 ((wrap .u64 (a5*4294967296))+a6))-(wrap .u64 ((wrap .u64 (a8-1))*a1)))) (wrap .u64 (Int.tdiv (wrap .u64 ((wrap .u64 ((wrap .u64 (a5*4294967296))+a6))-(wrap .u64 ((wrap .u64 (a8-1))*a1)))) a3)))))) (some (.inl (.p17 a1 a2 a3 a4 a5 a6 a7 (wrap .u64 (a8-1)) (wrap .u64 (a9+a3)))))) (cond (decide ((wrap .u64 (a8*a4))>(wrap .u64 ((wrap .u64 (4294967296*a9))+a6)))) (cond (decide ((wrap .u64 (a9+a3))>=4294967296)) (cond (decide (a3=0)) (none) (some (.inl (.p24 a1 a2 a3 a4 a7 (wrap .u64 (a8-1)) (wrap .u64 ((wrap .u64 ((wrap .u64 ((wrap .u64 (a5*4294967296))+a6))-(wrap .u64 ((wrap .u64 (a8-1))*a1))))-(wrap .u64 ((wrap .u64 (Int.tdiv (wrap .u64 ((wrap .u64 ((wrap .u64 (a5*4294967296))+a6))-(wrap .u64 ((wrap .u64 (a8-1))*a1)))) a3))*a3)))) (wrap .u64 ((wrap .u64 ((wrap .u64 (a5*4294967296))+a6))-(wrap .u64 ((wrap .u64 (a8-1))*a1)))) (wrap .u64 (Int.tdiv (wrap .u64 ((wrap .u64 ((wrap .u64 (a5*4294967296))+a6))-(wrap .u64 ((wrap .u64 (a8-1))*a1)))) a3)))))) (some (.inl (.p17 a1 a2 a3 a4 a5 a6 a7 (wrap .u64 (a8-1)) (wrap .u64 (a9+a3)))))) (cond (decide (a3=0)) (none) (some (.inl (.p24 a1 a2 a3 a4 a7 a8 (wrap .u64 ((wrap .u64 ((wrap .u64 ((wrap .u64 (a5*4294967296))+a6))-(wrap .u64 (a8*a1))))-(wrap .u64 ((wrap .u64 (Int.tdiv (wrap .u64 ((wrap .u64 ((wrap .u64 (a5*4294967296))+a6))-(wrap .u64 (a8*a1)))) a3))*a3)))) (wrap .u64 ((wrap .u64 ((wrap .u64 (a5*4294967296))+a6))-(wrap .u64 (a8*a1)))) (wrap .u64 (Int.tdiv (wrap .u64 ((wrap .u64 ((wrap .u64 (a5*4294967296))+a6))-(wrap .u64 (a8*a1)))) a3)))))))
noncomputable def kfr(a1 a2 a3 a4 a5 a6 a7 a8 a9:Int):Option (kcu⊕kb7) :=
 cond (decide (a9>=4294967296)) (cond (decide ((wrap .u64 (a7+a3))>=4294967296)) (cond (decide (a2<0)) (none) (some (.inr (wrap .u64 ((wrap .u64 (a6*4294967296))+(wrap .u64 (a9-1))),ishr .u64 (wrap .u64 ((wrap .u64 ((wrap .u64 (a8*4294967296))+a5))-(wrap .u64 ((wrap .u64 (a9-1))*a1)))) a2)))) (some (.inl (.p24 a1 a2 a3 a4 a5 a6 (wrap .u64 (a7+a3)) a8 (wrap .u64 (a9-1)))))) (cond (decide ((wrap .u64 (a9*a4))>(wrap .u64 ((wrap .u64 (4294967296*a7))+a5)))) (cond (decide ((wrap .u64 (a7+a3))>=4294967296)) (cond (decide (a2<0)) (none) (some (.inr (wrap .u64 ((wrap .u64 (a6*4294967296))+(wrap .u64 (a9-1))),ishr .u64 (wrap .u64 ((wrap .u64 ((wrap .u64 (a8*4294967296))+a5))-(wrap .u64 ((wrap .u64 (a9-1))*a1)))) a2)))) (some (.inl (.p24 a1 a2 a3 a4 a5 a6 (wrap .u64 (a7+a3)) a8 (wrap .u64 (a9-1)))))) (cond (decide (a2<0)) (none) (some (.inr (wrap .u64 ((wrap .u64 (a6*4294967296))+a9),ishr .u64 (wrap .u64 ((wrap .u64 ((wrap .u64 (a8*4294967296))+a5))-(wrap .u64 (a9*a1)))) a2)))))
noncomputable def kfe:kcu->Option (kcu⊕kb7)
 | .fn a1 a2 a3=>kmr a1 a2 a3
 | .p3 a1 a2 a3=>ki2 a1 a2 a3
 | .p17 a1 a2 a3 a4 a5 a6 a7 a8 a9=>kfo a1 a2 a3 a4 a5 a6 a7 a8 a9
 | .p24 a1 a2 a3 a4 a5 a6 a7 a8 a9=>kfr a1 a2 a3 a4 a5 a6 a7 a8 a9
@[reducible] def kov(h0:AH)(r:kb7)(v:AV)(h':AH):Prop:=v=.tup [.int .u64 r.1,.int .u64 r.2]/\Grow h0 h'
def kgk(r:kb7):kcu->Prop
 | .fn a1 a2 a3=>∀{h:AH},Runs (go (.fn kb5 [.int .u64 a1,.int .u64 a2,.int .u64 a3]) h) (kov h r)
 | .p3 a1 a2 a3=>∀{h0 h:AH},Grow h0 h->Runs (go (.pt kb5 kvj [(0,.int .u64 a1),(1,.int .u64 a2),(2,.int .u64 a3)]) h) (kov h0 r)
 | .p17 a1 a2 a3 a4 a5 a6 a7 a8 a9=>∀{h0 h:AH},Grow h0 h->Runs (go (.pt kb5 km1 [(2,.int .u64 a1),(8,.int .u64 a2),(9,.int .u64 a3),(10,.int .u64 a4),(11,.int .u64 a5),(13,.int .u64 a6),(14,.int .u64 a7),(15,.int .u64 a8),(16,.int .u64 a9)]) h) (kov h0 r)
 | .p24 a1 a2 a3 a4 a5 a6 a7 a8 a9=>∀{h0 h:AH},Grow h0 h->Runs (go (.pt kb5 khl [(2,.int .u64 a1),(8,.int .u64 a2),(9,.int .u64 a3),(10,.int .u64 a4),(14,.int .u64 a5),(15,.int .u64 a6),(16,.int .u64 a7),(17,.int .u64 a8),(18,.int .u64 a9)]) h) (kov h0 r)
theorem k95{r:kb7}{o:kcu⊕kb7}{a1 a2 a3:Int}(e:kmr a1 a2 a3=some o)(y:GoodS (kgk r) r o):kgk r (.fn a1 a2 a3):=by
 intro h;rw[k6s];unfold kmr at e;refine qbd (λA=>?_) (λA=>?_)
 ·replace e:=(condT A).symm.trans e;cases e
 ·replace e:=(condF A).symm.trans e;cases e;exact y (ql _)
theorem kbb2{r:kb7}{o:kcu⊕kb7}{a1 a2 a3:Int}(e:ki2 a1 a2 a3=some o)(y:GoodS (kgk r) r o):kgk r (.p3 a1 a2 a3):=by
 intro h0 h X;rw[kblr];unfold ki2 at e;refine qbd (λI=>?_) (λI=>?_)
 ·replace e:=(condT I).symm.trans e;cases e
 ·replace e:=(condF I).symm.trans e;refine qbd (λK=>?_) (λK=>?_)
  ·replace e:=(condT K).symm.trans e;refine qbd (λQ=>?_) (λQ=>?_)
   ·replace e:=(condT Q).symm.trans e;cases e
   ·replace e:=(condF Q).symm.trans e;refine qbd (λA=>?_) (λA=>?_)
    ·replace e:=(condT A).symm.trans e;cases e
    ·replace e:=(condF A).symm.trans e;cases e;cases y;exact qy ⟨rfl,X⟩
  ·replace e:=(condF K).symm.trans e;obtain⟨H,Y,e⟩:=qbu.1 e;refine qz (kv1 a3  H.down) (qz (seen qcn) ?_);refine qbd (λA=>?_) (λA=>?_)
   ·replace e:=(condT A).symm.trans e;cases e
   ·replace e:=(condF A).symm.trans e;refine qbd (λU=>?_) (λU=>?_)
    ·replace e:=(condT U).symm.trans e;cases e
    ·replace e:=(condF U).symm.trans e;refine qbd (λV=>?_) (λV=>?_)
     ·replace e:=(condT V).symm.trans e;cases e
     ·replace e:=(condF V).symm.trans e;refine qbd (λC=>?_) (λC=>?_)
      ·replace e:=(condT C).symm.trans e;cases e
      ·replace e:=(condF C).symm.trans e;refine qbd (λF=>?_) (λF=>?_)
       ·replace e:=(condT F).symm.trans e;cases e
       ·replace e:=(condF F).symm.trans e;cases e;exact y X
theorem k9c{r:kb7}{o:kcu⊕kb7}{a1 a2 a3 a4 a5 a6 a7 a8 a9:Int}(e:kfo a1 a2 a3 a4 a5 a6 a7 a8 a9=some o)(A:GoodS (kgk r) r o):kgk r (.p17 a1 a2 a3 a4 a5 a6 a7 a8 a9):=by
 intro h0 h I;rw[kbkg];unfold kfo at e;refine qbd (λF=>?_) (λF=>?_)
 ·replace e:=(condT F).symm.trans e;refine qbd (λC=>?_) (λC=>?_)
  ·replace e:=(condT C).symm.trans e;refine qbd (λy=>?_) (λy=>?_)
   ·replace e:=(condT y).symm.trans e;cases e
   ·replace e:=(condF y).symm.trans e;cases e;exact A I
  ·replace e:=(condF C).symm.trans e;cases e;exact A I
 ·replace e:=(condF F).symm.trans e;refine qbd (λC=>?_) (λC=>?_)
  ·replace e:=(condT C).symm.trans e;refine qbd (λy=>?_) (λy=>?_)
   ·replace e:=(condT y).symm.trans e;refine qbd (λH=>?_) (λH=>?_)
    ·replace e:=(condT H).symm.trans e;cases e
    ·replace e:=(condF H).symm.trans e;cases e;exact A I
   ·replace e:=(condF y).symm.trans e;cases e;exact A I
  ·replace e:=(condF C).symm.trans e;refine qbd (λy=>?_) (λy=>?_)
   ·replace e:=(condT y).symm.trans e;cases e
   ·replace e:=(condF y).symm.trans e;cases e;exact A I
theorem k42{r:kb7}{o:kcu⊕kb7}{a1 a2 a3 a4 a5 a6 a7 a8 a9:Int}(e:kfr a1 a2 a3 a4 a5 a6 a7 a8 a9=some o)(A:GoodS (kgk r) r o):kgk r (.p24 a1 a2 a3 a4 a5 a6 a7 a8 a9):=by
 intro h0 h I;rw[k9g];unfold kfr at e;refine qbd (λF=>?_) (λF=>?_)
 ·replace e:=(condT F).symm.trans e;refine qbd (λC=>?_) (λC=>?_)
  ·replace e:=(condT C).symm.trans e;refine qbd (λy=>?_) (λy=>?_)
   ·replace e:=(condT y).symm.trans e;cases e
   ·replace e:=(condF y).symm.trans e;cases e;cases A;exact qy ⟨rfl,I⟩
  ·replace e:=(condF C).symm.trans e;cases e;exact A I
 ·replace e:=(condF F).symm.trans e;refine qbd (λC=>?_) (λC=>?_)
  ·replace e:=(condT C).symm.trans e;refine qbd (λy=>?_) (λy=>?_)
   ·replace e:=(condT y).symm.trans e;refine qbd (λH=>?_) (λH=>?_)
    ·replace e:=(condT H).symm.trans e;cases e
    ·replace e:=(condF H).symm.trans e;cases e;cases A;exact qy ⟨rfl,I⟩
   ·replace e:=(condF y).symm.trans e;cases e;exact A I
  ·replace e:=(condF C).symm.trans e;refine qbd (λy=>?_) (λy=>?_)
   ·replace e:=(condT y).symm.trans e;cases e
   ·replace e:=(condF y).symm.trans e;cases e;cases A;exact qy ⟨rfl,I⟩
theorem k4q{s:kcu}{r:kb7}(A:Iter kfe s r):kgk r s:=qbg (λs o e y=>by
 cases s with
 | fn a1 a2 a3=>exact @k95 _ _ a1 a2 a3 e y
 | p3 a1 a2 a3=>exact @kbb2 _ _ a1 a2 a3 e y
 | p17 a1 a2 a3 a4 a5 a6 a7 a8 a9=>exact @k9c _ _ a1 a2 a3 a4 a5 a6 a7 a8 a9 e y
 | p24 a1 a2 a3 a4 a5 a6 a7 a8 a9=>exact @k42 _ _ a1 a2 a3 a4 a5 a6 a7 a8 a9 e y
 ) A
theorem ku4(a c:Nat):Int.tdiv (a:Int) (c:Int)=((a/c:Nat):Int):=rfl
theorem kbj5(a c:Nat):Int.tmod (a:Int) (c:Int)=((a%c:Nat):Int):=rfl
def st24(a1 a2 a3 a4 a5 a6 a7 q:Int):kcu :=
 .p24 a1 a2 a3 a4 a7 q (wrap .u64 ((wrap .u64 ((wrap .u64 ((wrap .u64 (a5*4294967296))+a6))-(wrap .u64 (q*a1))))-(wrap .u64 ((wrap .u64 (Int.tdiv (wrap .u64 ((wrap .u64 ((wrap .u64 (a5*4294967296))+a6))-(wrap .u64 (q*a1)))) a3))*a3)))) (wrap .u64 ((wrap .u64 ((wrap .u64 (a5*4294967296))+a6))-(wrap .u64 (q*a1)))) (wrap .u64 (Int.tdiv (wrap .u64 ((wrap .u64 ((wrap .u64 (a5*4294967296))+a6))-(wrap .u64 (q*a1)))) a3))
theorem un_eq{y A q v:Nat}(F:q=(y*4294967296+A)/v)(C:0<v)(H:v<18446744073709551616):wrap .u64 ((wrap .u64 ((wrap .u64 ((y:Int)*4294967296))+(A:Int)))-(wrap .u64 ((q:Int)*(v:Int))))=(((y*4294967296+A)%v:Nat):Int):=by
 have h1:=Nat.div_add_mod (y*4294967296+A) v;have I:=Nat.mod_lt (y*4294967296+A) C;rw[<- F,Nat.mul_comm]at h1;rw[wrapU,wrapU,wrapU,wrapU,<- Int.natCast_mul];generalize q*v=t at *
 generalize (y*4294967296+A)%v=m at *
 omega
theorem k5d{s v A H y C I q:Nat}(K:q=(y*4294967296+C)/v)(F:0<v)(Q:v<18446744073709551616)(h1:0<A) :
  st24 v s A H y C I q=.p24 v s A H I q (((y*4294967296+C)%v%A:Nat):Int) (((y*4294967296+C)%v:Nat):Int) (((y*4294967296+C)%v/A:Nat):Int):=by
 unfold st24;rw[un_eq K F Q,ku4];have V:=Nat.mod_lt (y*4294967296+C) F;generalize (y*4294967296+C)%v=m at *
 have X:=Nat.div_le_self m A;rw[kct (n:=m/A) (by omega),<- Int.natCast_mul];have U:=Nat.div_add_mod m A;rw[Nat.mul_comm]at U;have Y:=Nat.mod_lt m h1;rw[wrapU,wrapU]
 have e:((m:Int)-((m/A*A:Nat):Int)%18446744073709551616)%18446744073709551616=((m%A:Nat):Int):=by
  generalize m/A*A=t at *
  generalize m%A=z at *
  omega
 rw[e]
theorem div17{s v A C y F Y:Nat}{res:kb7}(Q:v=A*4294967296+C)(h1:0<A)(aa:A<4294967296)(h0:C<4294967296)(U:y<v)(V:F<4294967296)
  (K:Iter kfe (st24 v s A C y F Y (((y*4294967296+F)/v:Nat):Int)) res) :
  ∀(q r:Nat),q*A+r=y->(y*4294967296+F)/v<=q->r<4294967296->q<8589934592->Iter kfe (.p17 v s A C y F Y q r) res
 | q,r,e,X,hr,hq=>by
  have ac:v<18446744073709551616:=by omega
  have H:(4294967296<=q\/4294967296*r+F<q*C)->∃o,Iter kfe o res/\
    cond (decide ((wrap .u64 ((r:Int)+(A:Int)))>=4294967296)) (cond (decide ((A:Int)=0)) none (some (Sum.inl (β:=kb7) (st24 v s A C y F Y (wrap .u64 ((q:Int)-1)))))) (some (.inl (.p17 v s A C y F Y (wrap .u64 ((q:Int)-1)) (wrap .u64 ((r:Int)+(A:Int))))))=some (.inl o):=by
   intro t;obtain⟨I,Z⟩:=kn_hi Q U V rfl e X t;obtain⟨p,rfl⟩:∃p,q=p+1:=⟨q-1,by omega⟩;rw[Nat.add_sub_cancel]at I
   have e':p*A+(r+A)=y:=by
    rw[Nat.add_mul,Nat.one_mul]at e;omega
   have w1:wrap .u64 (((p+1:Nat):Int)-1)=(p:Int):=by rw[wrapU];omega
   have w2:wrap .u64 ((r:Int)+(A:Int))=((r+A:Nat):Int):=by rw[wrapU];omega
   rw[w1,w2];by_cases ho:4294967296<=r+A
   ·have:=kn_lo Q U rfl e' I (kn_out Q h0 U e' ho);rw[this]at K;refine⟨_,K,?_⟩;rw[condT (by rw[qbw];omega),condF (by rw[qbv];omega)]
   ·refine⟨_,div17 Q h1 aa h0 U V K p (r+A) e' I (by omega) (by omega),?_⟩;rw[condF (by rw[qbv];omega)]
  by_cases c1:4294967296<=q
  ·obtain⟨o,I,Z⟩:=H (.inl c1);refine .next ?_ I;show kfo _ _ _ _ _ _ _ _ _=_;unfold kfo;rw[condT (by rw[qbw];omega)];exact Z
  ·have m1:q*C<=4294967295*4294967295:=Nat.mul_le_mul (by omega) (by omega)
   have w3:wrap .u64 ((q:Int)*(C:Int))=((q*C:Nat):Int):=by
    rw[<- Int.natCast_mul];exact kct (by omega)
   have w4:wrap .u64 ((wrap .u64 (4294967296*(r:Int)))+(F:Int))=((4294967296*r+F:Nat):Int):=by
    rw[wrapU,wrapU];omega
   by_cases c2:4294967296*r+F<q*C
   ·obtain⟨o,I,Z⟩:=H (.inr c2);refine .next ?_ I;show kfo _ _ _ _ _ _ _ _ _=_;unfold kfo;rw[condF (by rw[qbv];omega),w3,w4,condT (by rw[qbw];omega)];exact Z
   ·have:=kn_lo Q U rfl e X (by omega);rw[this]at K;refine .next ?_ K;show kfo _ _ _ _ _ _ _ _ _=_;unfold kfo;rw[condF (by rw[qbv];omega),w3,w4,condF (by rw[qbv];omega),condF (by rw[qbv];omega)];rfl
termination_by q=>q
def fin24(a1 a2 a5 a6 a8 q:Int):Option (kcu⊕kb7) :=
 cond (decide (a2<0)) none (some (.inr (wrap .u64 ((wrap .u64 (a6*4294967296))+q),ishr .u64 (wrap .u64 ((wrap .u64 ((wrap .u64 (a8*4294967296))+a5))-(wrap .u64 (q*a1)))) a2)))
theorem div24{s v A H y C Z:Nat}{res:kb7}(U:v=A*4294967296+H)(h1:0<A)(aa:A<4294967296)(h0:H<4294967296)(V:y<v)(X:C<4294967296)
  (K:fin24 v s C Z y (((y*4294967296+C)/v:Nat):Int)=some (.inr res)) :
  ∀(q r:Nat),q*A+r=y->(y*4294967296+C)/v<=q->r<4294967296->q<8589934592->Iter kfe (.p24 v s A H C Z r y q) res
 | q,r,e,Y,hr,hq=>by
  have ac:v<18446744073709551616:=by omega
  have I:(4294967296<=q\/4294967296*r+C<q*H)->∃o,(o=Sum.inr res\/∃st,o=.inl st/\Iter kfe st res)/\
    cond (decide ((wrap .u64 ((r:Int)+(A:Int)))>=4294967296)) (fin24 v s C Z y (wrap .u64 ((q:Int)-1))) (some (.inl (.p24 v s A H C Z (wrap .u64 ((r:Int)+(A:Int))) y (wrap .u64 ((q:Int)-1)))))=some o:=by
   intro t;obtain⟨Q,k2⟩:=kn_hi U V X rfl e Y t;obtain⟨p,rfl⟩:∃p,q=p+1:=⟨q-1,by omega⟩;rw[Nat.add_sub_cancel]at Q
   have e':p*A+(r+A)=y:=by
    rw[Nat.add_mul,Nat.one_mul]at e;omega
   have w1:wrap .u64 (((p+1:Nat):Int)-1)=(p:Int):=by rw[wrapU];omega
   have w2:wrap .u64 ((r:Int)+(A:Int))=((r+A:Nat):Int):=by rw[wrapU];omega
   rw[w1,w2];by_cases ho:4294967296<=r+A
   ·have:=kn_lo U V rfl e' Q (kn_out U h0 V e' ho);rw[this]at K;refine⟨.inr res,.inl rfl,?_⟩;rw[condT (by rw[qbw];omega)];exact K
   ·refine⟨_,.inr ⟨_,rfl,div24 U h1 aa h0 V X K p (r+A) e' Q (by omega) (by omega)⟩,?_⟩;rw[condF (by rw[qbv];omega)]
  have F:∀{st:kcu}{o:kcu⊕kb7},(o=Sum.inr res\/∃st,o=.inl st/\Iter kfe st res)->kfe st=some o->Iter kfe st res:=by
   intro st o h e;rcases h with rfl | ⟨ad,rfl,it⟩
   ·exact .done e
   ·exact .next e it
  by_cases c1:4294967296<=q
  ·obtain⟨o,Q,k2⟩:=I (.inl c1);refine F Q ?_;show kfr _ _ _ _ _ _ _ _ _=_;unfold kfr;rw[condT (by rw[qbw];omega)];exact k2
  ·have m1:q*H<=4294967295*4294967295:=Nat.mul_le_mul (by omega) (by omega)
   have w3:wrap .u64 ((q:Int)*(H:Int))=((q*H:Nat):Int):=by
    rw[<- Int.natCast_mul];exact kct (by omega)
   have w4:wrap .u64 ((wrap .u64 (4294967296*(r:Int)))+(C:Int))=((4294967296*r+C:Nat):Int):=by
    rw[wrapU,wrapU];omega
   by_cases c2:4294967296*r+C<q*H
   ·obtain⟨o,Q,k2⟩:=I (.inr c2);refine F Q ?_;show kfr _ _ _ _ _ _ _ _ _=_;unfold kfr;rw[condF (by rw[qbv];omega),w3,w4,condT (by rw[qbw];omega)];exact k2
   ·have:=kn_lo U V rfl e Y (by omega);rw[this]at K;refine .done ?_;show kfr _ _ _ _ _ _ _ _ _=_;unfold kfr;rw[condF (by rw[qbv];omega),w3,w4,condF (by rw[qbv];omega)];exact K
termination_by q=>q
theorem k6z{hi lo y s:Nat}(U:y*2^s<18446744073709551616)(A:lo<18446744073709551616)(C:hi<y)(V:s<=63) :
  hi*2^s+lo/2^(64-s)<y*2^s/\(hi*2^s+lo/2^(64-s))*18446744073709551616+lo*2^s%18446744073709551616=(hi*18446744073709551616+lo)*2^s/\lo/2^(64-s)<2^s/\hi*2^s<18446744073709551616:=by
 have p:0<2^s:=Nat.pow_pos (by decide);have e:2^(64-s)*2^s=18446744073709551616:=by rw[<- Nat.pow_add,show 64-s+s=64 from by omega]
 have F:lo/2^(64-s)<2^s:=by
  rw[Nat.div_lt_iff_lt_mul (Nat.pow_pos (by decide)),Nat.mul_comm,e];exact A
 have H:(hi+1)*2^s<=y*2^s:=Nat.mul_le_mul_right _ C;rw[Nat.add_mul,Nat.one_mul]at H;refine⟨by omega,?_,F,by omega⟩
 have I:lo*2^s/18446744073709551616=lo/2^(64-s):=by
  rw[<- e,Nat.mul_div_mul_right _ _ p]
 have K:=Nat.div_add_mod (lo*2^s) 18446744073709551616;rw[I]at K;have Q:hi*18446744073709551616*2^s=hi*2^s*18446744073709551616:=Nat.mul_right_comm _ _ _;rw[Nat.add_mul,Nat.add_mul,Q];omega
theorem kbaw{y A:Nat}(h:y*4294967296+A<18446744073709551616):wrap .u64 ((wrap .u64 ((y:Int)*4294967296))+(A:Int))=((y*4294967296+A:Nat):Int):=by
 rw[wrapU,wrapU];omega
theorem kblm{hi lo y:Nat}(hy:y<18446744073709551616)(ad:lo<18446744073709551616)(X:hi<y) :
  Iter kfe (.fn hi lo y) ((((hi*18446744073709551616+lo)/y:Nat):Int),(((hi*18446744073709551616+lo)%y:Nat):Int)):=by
 refine .next (s':=.p3 hi lo y) ?_ ?_
 ·show kmr _ _ _=_;unfold kmr;rw[condF (by rw[qbv];omega)]
 by_cases h0:hi=0
 ·subst h0;refine .done ?_;show ki2 _ _ _=_;unfold ki2;have hd:=Nat.div_le_self lo y;rw[condF (by rw[qbv];omega),condT (by rfl),condF (by rw[qbv];omega),condF (by rw[qbv];omega),ku4,kbj5,kct (by omega),Nat.zero_mul,Nat.zero_add]
 obtain⟨hs,ah,Y⟩:=kv9 hy (by omega);have H:64-bl y<=64:=by omega
 obtain⟨p1,p2,p3,p4⟩:=k6z Y ad X hs;have ws:wrap .u64 ((64-bl (Int.toNat (y:Int)):Nat):Int)=((64-bl y:Nat):Int):=by rw[Int.toNat_natCast];exact kct (by omega)
 have wt:wrap .u64 (64-((64-bl y:Nat):Int))=((64-(64-bl y):Nat):Int):=by rw[wrapU];omega
 generalize ai:64-bl y=s at *
 have ey:ishl .u64 (y:Int) (s:Int)=((y*2^s:Nat):Int):=by rw[kmo _ _ H,Nat.mod_eq_of_lt Y]
 have eh:ishl .u64 (hi:Int) (s:Int)=((hi*2^s:Nat):Int):=by rw[kmo _ _ H,Nat.mod_eq_of_lt p4]
 have el:ishl .u64 (lo:Int) (s:Int)=((lo*2^s%18446744073709551616:Nat):Int):=kmo _ _ H;have er:ishr .u64 (lo:Int) ((64-s:Nat):Int)=((lo/2^(64-s):Nat):Int):=by rw[kcm,Nat.min_eq_left (by omega)]
 have eo:=kts p4 p3 H;generalize af:hi*2^s+lo/2^(64-s)=A at *
 have ag:=Nat.mod_lt (lo*2^s) (show 0<18446744073709551616 by omega);generalize hl:lo*2^s%18446744073709551616=C at *
 generalize hv:y*2^s=v at *
 have Z:∀x:Nat,ishr .u64 (x:Int) 32=((x/4294967296:Nat):Int):=λx=>kcm x 32;have ae:A*18446744073709551616+C=(A*4294967296+C/4294967296)*4294967296+C%4294967296:=by omega
 have K:v=v/4294967296*4294967296+v%4294967296:=by omega
 have Q:0<v:=by omega
 have F:0<v/4294967296:=by omega
 have I:v/4294967296<4294967296:=by omega
 have aa:v%4294967296<4294967296:=by omega
 have ac:C/4294967296<4294967296:=by omega
 have V:C%4294967296<4294967296:=by omega
 have first:A/(v/4294967296)<8589934592:=by
  rw[Nat.div_lt_iff_lt_mul F];omega
 have hm:=Nat.mod_lt (A*4294967296+C/4294967296) Q
 have U:(A*4294967296+C/4294967296)%v/(v/4294967296)<8589934592:=by
  rw[Nat.div_lt_iff_lt_mul F];omega
 have td:=kbk8 (w:=A*4294967296+C/4294967296) Q V;rw[<- ae,p2]at td;have p:=Nat.pow_pos (a:=2) (n:=s) (by decide);rw[<- hv,Nat.mul_div_mul_right _ _ p,Nat.mul_mod_mul_right,hv]at td;refine .next (s':=.p17 v s (v/4294967296:Nat) (v%4294967296:Nat) A (C/4294967296:Nat) (C%4294967296:Nat) (A/(v/4294967296):Nat) (A%(v/4294967296):Nat)) ?_ ?_
 ·show ki2 _ _ _=_;unfold ki2
  rw[condF (by rw[qbv];omega),condF (by rw[qbv];omega),kq (by omega),qbt,ws,wt,ey,eh,el,er,eo,Z,Z,kmj (show v<_ by omega),kmj (show C<_ by omega),
   condF (by rw[qbv];omega),condF (by rw[qbv];omega),condF (by rw[qbv];omega),condF (by rw[qbv];omega),condF (by rw[qbv];omega),ku4]
  have d1:=Nat.div_add_mod A (v/4294967296);have d2:=Nat.div_le_self A (v/4294967296);rw[Nat.mul_comm]at d1;rw[kct (n:=A/(v/4294967296)) (by omega),<- Int.natCast_mul];generalize A/(v/4294967296)*(v/4294967296)=z at *
  generalize A%(v/4294967296)=z2 at *
  rw[kct (n:=z) (by omega),show(A:Int)-(z:Int)=(z2:Int)from by omega,kct (by omega)]
 ·refine div17 K F I aa p1 ac ?_ _ _ (by rw[Nat.mul_comm];exact Nat.div_add_mod _ _) (kyz F K p1 ac rfl (by omega)) (Nat.lt_trans (Nat.mod_lt _ F) I) first
  rw[k5d rfl Q (by omega) F];refine div24 K F I aa hm V ?_ _ _ (by rw[Nat.mul_comm];exact Nat.div_add_mod _ _) (kyz F K hm V rfl (by omega)) (Nat.lt_trans (Nat.mod_lt _ F) I) U;unfold fin24;rw[condF (by rw[qbv];omega),un_eq rfl Q (by omega),<- td.2,kcm,Nat.min_eq_left H,Nat.mul_div_cancel _ p]
  have hq:(hi*18446744073709551616+lo)/y<18446744073709551616:=by
   rw[Nat.div_lt_iff_lt_mul (by omega)];have:(hi+1)*18446744073709551616<=y*18446744073709551616:=Nat.mul_le_mul_right _ X;omega
  have w:wrap .u64 ((wrap .u64 ((((A*4294967296+C/4294967296)/v:Nat):Int)*4294967296))+((((A*4294967296+C/4294967296)%v*4294967296+C%4294967296)/v:Nat):Int))=(((hi*18446744073709551616+lo)/y:Nat):Int):=by
   rw[td.1]at hq|-;exact kbaw hq
  rw[w]
theorem kbjn{hi lo y:Nat}(F:y<18446744073709551616)(A:lo<18446744073709551616)(C:hi<y){h:AH}:∃h',go (.fn kb5 [.int .u64 (hi:Int),.int .u64 (lo:Int),.int .u64 (y:Int)]) h=some (.tup [.int .u64 (((hi*18446744073709551616+lo)/y:Nat):Int),.int .u64 (((hi*18446744073709551616+lo)%y:Nat):Int)],h')/\Grow h h':=by
 obtain⟨_,h',e,rfl,g⟩:=k4q (kblm F A C) (h:=h);exact⟨h',e,g⟩
end Go.Ab
set_option maxRecDepth 10000
namespace Go.Ab
open Go.Proofs Go.Num
def div64P(h l d:Int):Option (Int×Int):=if 0<=l/\l<18446744073709551616/\0<=h/\h<d/\d<18446744073709551616 then some ((h*18446744073709551616+l)/d,(h*18446744073709551616+l)%d)else none
theorem kwi{hi lo y:Nat}(F:y<18446744073709551616)(A:lo<18446744073709551616)(C:hi<y):div64P (hi:Int) (lo:Int) (y:Int)=some ((((hi*18446744073709551616+lo)/y:Nat):Int),(((hi*18446744073709551616+lo)%y:Nat):Int)):=by
 unfold div64P;rw[if_pos (by omega)];rfl
theorem kxu{a b c:Int}{p:Int×Int}{h:AH}(q:div64P a b c=some p):∃h',go (.fn kb5 [.int .u64 a,.int .u64 b,.int .u64 c]) h=some (.tup [.int .u64 p.1,.int .u64 p.2],h')/\Grow h h':=by
 unfold div64P at q;split at q
 ·rename_i A;cases q;obtain⟨hi,rfl⟩:∃x:Nat,a=(x:Int):=⟨a.toNat,by omega⟩;obtain⟨lo,rfl⟩:∃x:Nat,b=(x:Int):=⟨b.toNat,by omega⟩;obtain⟨y,rfl⟩:∃x:Nat,c=(x:Int):=⟨c.toNat,by omega⟩;exact kbjn (by omega) (by omega) (by omega)
 ·cases q
end Go.Ab
set_option maxRecDepth 10000
namespace Go.Ab
open IntKind (wrap)
open Go.Proofs Go.Num
inductive khd
 | fn (x1:List Nat) (a2:Int)
 | p4 (x1:List Nat) (a2:Int) (x3:List Nat) (a4:Int) (a5:Int)
abbrev kff:=List Nat×Int
noncomputable def kml(x1:List Nat)(a2:Int):Option (khd⊕kff) :=
 (mkI (List.length x1:Int) (List.length x1:Int)).bind λy=>some (.inl (.p4 x1 a2 (List.replicate y 0) 0 (wrap .i64 ((List.length x1:Int)-1))))
noncomputable def kh4(x1:List Nat)(a2:Int)(x3:List Nat)(a4 a5:Int):Option (khd⊕kff) :=
 cond (decide (a5>=0)) ((atI x1 a5).bind λC=>(div64P a4 ((C:Int)) a2).bind λA=>(inI (List.length x3) a5).bind λF=>(u64P (A.1)).bind λy=>some (.inl (.p4 x1 a2 (List.set x3 F y) (A.2) (wrap .i64 (a5-1))))) (some (.inr (digs B (num B x3),a4)))
noncomputable def kvh:khd->Option (khd⊕kff)
 | .fn x1 a2=>kml x1 a2
 | .p4 x1 a2 x3 a4 a5=>kh4 x1 a2 x3 a4 a5
@[reducible] def k1t(h0:AH)(r:kff)(v:AV)(h':AH):Prop:=∃s1:Sl,v=.tup [s1.v,.int .u64 r.2]/\Nats h' s1 r.1/\Grow h0 h'/\Own h0 s1
def klw(r:kff):khd->Prop
 | .fn x1 a2=>∀{h:AH}{a1:Sl},Nats h a1 x1->Runs (go (.fn kfm [a1.v,.int .u64 a2]) h) (k1t h r)
 | .p4 x1 a2 x3 a4 a5=>∀{h0 h:AH}{a1:Sl}{a3:Sl}{y:Nat},Grow h0 h->Nats h a1 x1->Vec h a3 y x3->h0.blks.size<=y->Av a1 y x1->Runs (go (.pt kfm kn1 [(0,a1.v),(1,.int .u64 a2),(6,a3.v),(7,.int .u64 a4),(8,.i a5)]) h) (k1t h0 r)
theorem k9v{r:kff}{o:khd⊕kff}{x1:List Nat}{a2:Int}(e:kml x1 a2=some o)(y:GoodS (klw r) r o):klw r (.fn x1 a2):=by
 intro h a1 n1;rw[k5s];unfold kml at e;rw[n1.len];obtain⟨H,C,e⟩:=qbu.1 e;refine Runs.mk C kei λs3 I F A=>?_;cases e;exact y A (n1.grow A) F (qbp _) (qbi n1 (qbp _))
theorem kbd8{r:kff}{o:khd⊕kff}{x1:List Nat}{a2:Int}{x3:List Nat}{a4 a5:Int}(e:kh4 x1 a2 x3 a4 a5=some o)(A:GoodS (klw r) r o):klw r (.p4 x1 a2 x3 a4 a5):=by
 intro h0 h a1 a3 i3 X n1 H C y;rw[kbdg];unfold kh4 at e;rw[n1.len];rw[H.nats.len];refine qbd (λQ=>?_) (λQ=>?_)
 ·replace e:=(condT Q).symm.trans e;obtain⟨y7,Z,e⟩:=qbu.1 e;obtain⟨r7,j7,l7⟩:=n1.atI Z;refine qz j7 (qz (rdc l7 qcn) ?_);obtain⟨p8,q8,e⟩:=qbu.1 e;obtain⟨H8,e8,K⟩:=kxu q8;refine qz e8 (qz rfl (qz (seen qcn) (qz (seen qcn) ?_)));obtain⟨j9,Y,e⟩:=qbu.1 e;refine qz ((H.grow K).idx rfl Y) ?_;obtain⟨aa,U,e⟩:=qbu.1 e;refine qbh (H.grow K) rfl Y U λac V I=>?_;have F:=(n1.grow K).upda y I;cases e;exact A ((X.trans K).updr C I) F V C y
 ·replace e:=(condF Q).symm.trans e;obtain⟨s7,e7,n7,o7⟩:=kec H.nats;refine qz e7 (qz (seen qcm) ?_);cases e;cases A;exact qy ⟨s7,rfl,n7,X,((o7 _ (H.own C)).of_le (ql _))⟩
theorem kbhr{s:khd}{r:kff}(A:Iter kvh s r):klw r s:=qbg (λs o e y=>by
 cases s with
 | fn x1 a2=>exact @k9v _ _ x1 a2 e y
 | p4 x1 a2 x3 a4 a5=>exact @kbd8 _ _ x1 a2 x3 a4 a5 e y
 ) A
inductive kg6
 | fn (x1:List Nat) (a2:Int)
 | p3 (a1:Int) (x2:List Nat) (x3:List Nat) (a4:Int) (a5:Int)
abbrev kek:=List Nat
noncomputable def knp(x1:List Nat)(a2:Int):Option (kg6⊕kek) :=
 (mkI (wrap .i64 ((List.length x1:Int)+1)) (wrap .i64 ((List.length x1:Int)+1))).bind λy=>some (.inl (.p3 a2 (List.replicate y 0) x1 (List.length x1:Int) 0))
noncomputable def kfq(a1:Int)(x2 x3:List Nat)(a4 a5:Int):Option (kg6⊕kek) :=
 cond (decide (a5<a4)) ((atI x3 a5).bind λH=>(inI (List.length x2) a5).bind λI=>cond (decide (a1<0)) (none) ((inI (List.length x2) a5).bind λy=>(u64P (ior .u64 (((List.getD x2 I 0:Nat):Int)) (ishl .u64 ((H:Int)) a1))).bind λA=>cond (decide (a1>0)) (cond (decide ((wrap .u64 (64-a1))<0)) (none) ((inI (List.length x2) (wrap .i64 (a5+1))).bind λC=>(u64P (ishr .u64 ((H:Int)) (wrap .u64 (64-a1)))).bind λF=>some (.inl (.p3 a1 (List.set (List.set x2 y A) C F) x3 a4 (wrap .i64 (a5+1)))))) (some (.inl (.p3 a1 (List.set x2 y A) x3 a4 (wrap .i64 (a5+1))))))) (some (.inr x2))
noncomputable def kkn:kg6->Option (kg6⊕kek)
 | .fn x1 a2=>knp x1 a2
 | .p3 a1 x2 x3 a4 a5=>kfq a1 x2 x3 a4 a5
@[reducible] def krn(h0:AH)(r:kek)(v:AV)(h':AH):Prop:=∃s1:Sl,∃y:Nat,v=s1.v/\Vec h' s1 y r/\Grow h0 h'/\h0.blks.size<=y
def km5(r:kek):kg6->Prop
 | .fn x1 a2=>∀{h:AH}{a1:Sl},Nats h a1 x1->Runs (go (.fn kfb [a1.v,.int .u64 a2]) h) (krn h r)
 | .p3 a1 x2 x3 a4 a5=>∀{h0 h:AH}{a2:Sl}{a3:Sl}{y:Nat},Grow h0 h->Vec h a2 y x2->Nats h a3 x3->h0.blks.size<=y->Av a3 y x3->Runs (go (.pt kfb kns [(1,.int .u64 a1),(5,a2.v),(12,a3.v),(13,.i a4),(14,.i a5)]) h) (krn h0 r)
theorem kbgr{r:kek}{o:kg6⊕kek}{x1:List Nat}{a2:Int}(e:knp x1 a2=some o)(y:GoodS (km5 r) r o):km5 r (.fn x1 a2):=by
 intro h a1 n1;rw[kbel];unfold knp at e;rw[n1.len];obtain⟨H,C,e⟩:=qbu.1 e;refine Runs.mk C kei λs3 I F A=>?_;cases e;exact y A F (n1.grow A) (qbp _) (qbi n1 (qbp _))
theorem kbet{r:kek}{o:kg6⊕kek}{a1:Int}{x2 x3:List Nat}{a4 a5:Int}(e:kfq a1 x2 x3 a4 a5=some o)(C:GoodS (km5 r) r o):km5 r (.p3 a1 x2 x3 a4 a5):=by
 intro h0 h a2 a3 i2 g0 V n3 A y;rw[kbi7];unfold kfq at e;rw[V.nats.len];rw[n3.len];refine qbd (λk6=>?_) (λk6=>?_)
 ·replace e:=(condT k6).symm.trans e;obtain⟨y7,q7,e⟩:=qbu.1 e;obtain⟨r7,j7,l7⟩:=n3.atI q7;refine qz j7 (qz (rdc l7 qcn) ?_);obtain⟨j8,q8,e⟩:=qbu.1 e;refine qz (V.idx rfl q8) (qz (V.rd rfl q8 qcn) ?_);refine qbd (λk9=>?_) (λk9=>?_)
  ·replace e:=(condT k9).symm.trans e;cases e
  ·replace e:=(condF k9).symm.trans e;obtain⟨ae,X,e⟩:=qbu.1 e;refine qz (V.idx rfl X) ?_;obtain⟨af,aa,e⟩:=qbu.1 e;refine qbh V rfl X aa λag H I=>?_;have F:=n3.upda y I;refine qbd (λK=>?_) (λK=>?_)
   ·replace e:=(condT K).symm.trans e;refine qbd (λQ=>?_) (λQ=>?_)
    ·replace e:=(condT Q).symm.trans e;cases e
    ·replace e:=(condF Q).symm.trans e;obtain⟨ah,Y,e⟩:=qbu.1 e;refine qz (H.idx (by simp only[qb6]) Y) ?_;obtain⟨ai,ac,e⟩:=qbu.1 e;refine qbh H (by simp only[qb6]) Y ac λaj ad Z=>?_;have U:=F.upda y Z;cases e;exact C ((g0.updr A I).updr A Z) ad U A y
   ·replace e:=(condF K).symm.trans e;cases e;exact C (g0.updr A I) H F A y
 ·replace e:=(condF k6).symm.trans e;cases e;cases C;exact qy ⟨a2,i2,rfl,V,g0,A⟩
theorem k9r{s:kg6}{r:kek}(A:Iter kkn s r):km5 r s:=qbg (λs o e y=>by
 cases s with
 | fn x1 a2=>exact @kbgr _ _ x1 a2 e y
 | p3 a1 x2 x3 a4 a5=>exact @kbet _ _ a1 x2 x3 a4 a5 e y
 ) A
theorem kzg{h:AH}{a1:Sl}{x1:List Nat}{a2:Int}(n1:Nats h a1 x1){r:kek}(q:runP kkn (.fn x1 a2)=some r):Runs (go (.fn kfb [a1.v,.int .u64 a2]) h) (krn h r):=k9r (krr q) n1
inductive kgl
 | fn (a1:Int) (a2:Int) (a3:Int) (a4:Int) (a5:Int)
 | p4 (a1:Int) (a2:Int) (a3:Int) (a4:Int) (a5:Int)
abbrev kej:=Int
noncomputable def kin(a1 a2 a3 a4 a5:Int):Option (kgl⊕kej) :=
 cond (decide (a1>=a4)) (some (.inr 18446744073709551615)) ((div64P a1 a2 a4).bind λp7=>some (.inl (.p4 a3 a4 a5 (p7.1) (p7.2))))
noncomputable def kgc(a1 a2 a3 a4 a5:Int):Option (kgl⊕kej) :=
 cond (decide (((mul64 a4 a3).1)<a5)) (some (.inr a4)) (cond (decide (((mul64 a4 a3).1)=a5)) (cond (decide (((mul64 a4 a3).2)<=a1)) (some (.inr a4)) (cond (decide ((wrap .u64 (a5+a2))<a5)) (some (.inr (wrap .u64 (a4-1)))) (some (.inl (.p4 a1 a2 a3 (wrap .u64 (a4-1)) (wrap .u64 (a5+a2))))))) (cond (decide ((wrap .u64 (a5+a2))<a5)) (some (.inr (wrap .u64 (a4-1)))) (some (.inl (.p4 a1 a2 a3 (wrap .u64 (a4-1)) (wrap .u64 (a5+a2)))))))
noncomputable def kkr:kgl->Option (kgl⊕kej)
 | .fn a1 a2 a3 a4 a5=>kin a1 a2 a3 a4 a5
 | .p4 a1 a2 a3 a4 a5=>kgc a1 a2 a3 a4 a5
@[reducible] def kt9(h0:AH)(r:kej)(v:AV)(h':AH):Prop:=v=.int .u64 r/\Grow h0 h'
def kmb(r:kej):kgl->Prop
 | .fn a1 a2 a3 a4 a5=>∀{h:AH},Runs (go (.fn kf8 [.int .u64 a1,.int .u64 a2,.int .u64 a3,.int .u64 a4,.int .u64 a5]) h) (kt9 h r)
 | .p4 a1 a2 a3 a4 a5=>∀{h0 h:AH},Grow h0 h->Runs (go (.pt kf8 kl0 [(2,.int .u64 a1),(3,.int .u64 a2),(4,.int .u64 a3),(11,.int .u64 a4),(12,.int .u64 a5)]) h) (kt9 h0 r)
theorem k5h{r:kej}{o:kgl⊕kej}{a1 a2 a3 a4 a5:Int}(e:kin a1 a2 a3 a4 a5=some o)(y:GoodS (kmb r) r o):kmb r (.fn a1 a2 a3 a4 a5):=by
 intro h;rw[k5l];unfold kin at e;refine qbd (λA=>?_) (λA=>?_)
 ·replace e:=(condT A).symm.trans e;cases e;cases y;exact qy ⟨rfl,(ql _)⟩
 ·replace e:=(condF A).symm.trans e;obtain⟨p7,C,e⟩:=qbu.1 e;obtain⟨I,F,H⟩:=kxu C;refine qz F (qz rfl (qz (seen qcn) (qz (seen qcn) ?_)));cases e;exact y H
theorem kbgx{r:kej}{o:kgl⊕kej}{a1 a2 a3 a4 a5:Int}(e:kgc a1 a2 a3 a4 a5=some o)(y:GoodS (kmb r) r o):kmb r (.p4 a1 a2 a3 a4 a5):=by
 intro h0 h F;rw[kblp];unfold kgc at e;refine qz (kxf a4 a3) (qz rfl (qz (seen qcn) (qz (seen qcn) ?_)));refine qbd (λH=>?_) (λH=>?_)
 ·replace e:=(condT H).symm.trans e;cases e;cases y;exact qy ⟨rfl,F⟩
 ·replace e:=(condF H).symm.trans e;refine qbd (λI=>?_) (λI=>?_)
  ·replace e:=(condT I).symm.trans e;refine qbd (λA=>?_) (λA=>?_)
   ·replace e:=(condT A).symm.trans e;cases e;cases y;exact qy ⟨rfl,F⟩
   ·replace e:=(condF A).symm.trans e;refine qbd (λC=>?_) (λC=>?_)
    ·replace e:=(condT C).symm.trans e;cases e;cases y;exact qy ⟨rfl,F⟩
    ·replace e:=(condF C).symm.trans e;cases e;exact y F
  ·replace e:=(condF I).symm.trans e;refine qbd (λA=>?_) (λA=>?_)
   ·replace e:=(condT A).symm.trans e;cases e;cases y;exact qy ⟨rfl,F⟩
   ·replace e:=(condF A).symm.trans e;cases e;exact y F
theorem kbkf{s:kgl}{r:kej}(A:Iter kkr s r):kmb r s:=qbg (λs o e y=>by
 cases s with
 | fn a1 a2 a3 a4 a5=>exact @k5h _ _ a1 a2 a3 a4 a5 e y
 | p4 a1 a2 a3 a4 a5=>exact @kbgx _ _ a1 a2 a3 a4 a5 e y
 ) A
theorem kbgd{h:AH}  {a1 a2 a3 a4 a5:Int}  {r:kej}(q:runP kkr (.fn a1 a2 a3 a4 a5)=some r):Runs (go (.fn kf8 [.int .u64 a1,.int .u64 a2,.int .u64 a3,.int .u64 a4,.int .u64 a5]) h) (kt9 h r):=kbkf (krr q)
end Go.Ab
set_option maxRecDepth 10000
namespace Go.Ab
open Go.Proofs Go.Num
def padD(b:Nat):Nat->Nat->List Nat
 | 0,_=>[]
 | k+1,n=>n%b::padD b k (n/b)
theorem ksy(b:Nat):∀k n,(padD b k n).length=k
 | 0,_=>rfl
 | k+1,n=>by simp[padD,ksy b k]
theorem k0u{b:Nat}(A:0<b):∀k n,∀x∈padD b k n,x<b
 | 0,_=>by simp[padD]
 | k+1,n=>by
  intro x y;rcases qb5.1 y with rfl | y
  ·exact Nat.mod_lt _ A
  ·exact k0u A k _ x y
theorem kxi{b:Nat}(y:0<b):∀(k n:Nat),n<b^k->num b (padD b k n)=n
 | 0,n,h=>by
  rw[Nat.pow_zero]at h;have:n=0:=by omega
  subst this;rfl
 | k+1,n,h=>by
  rw[padD,num,kxi y k (n/b) (by rw[Nat.div_lt_iff_lt_mul y,<- Nat.pow_succ];exact h)];exact Nat.mod_add_div n b
theorem kyw{b:Nat}(y:0<b):∀{zs:List Nat},(∀x∈zs,x<b)->padD b zs.length (num b zs)=zs
 | [],_=>rfl
 | z::zs,h=>by
  have A:=h z (by simp);rw[qb1,padD,num,Nat.add_mul_mod_self_left,Nat.mod_eq_of_lt A,Nat.add_mul_div_left _ _ y,Nat.div_eq_of_lt A,Nat.zero_add,kyw y λx C=>h x (by simp[C])]
theorem Sl.v_inj{s t:Sl}(e:s.v=t.v):s=t:=by
 cases s;cases t;simp only[Sl.v,AV.slice.injEq]at e;simp only[Sl.mk.injEq];exact e
theorem k1q{h:AH}{s:Sl}{xs:List Nat}(n:Nats h s xs){i:Nat}(b:InB s i):∀(k:Nat),k<=xs.length->∃s',go (.pt kb1 knm [(0,s.v),(3,.i (k:Int))]) h=some (s'.v,h)/\InB s' i
 | 0,A=>by
  rw[kq7];obtain⟨s',y,_,_⟩:=n.cut (l:=0) (n:=0) (qbp _) A;have b':=b.cut y;simp at y;simp only[Int.natCast_zero,gt_iff_lt,Int.lt_irrefl,decide_false,cond_false,y,qbt];exact⟨s',rfl,b'⟩
 | k+1,A=>by
  rw[kq7];obtain⟨r,y,F⟩:=n.at (i:=k) (by omega);have I:=n.short;rw[kqt (by omega)];rw[show(decide (((k+1:Nat):Int)>0))=true from by rw[qbw];omega];simp only[cond_true,y,F,qbt,kb];by_cases H:xs[k]=0
  ·rw[H,show(decide (((0:Nat):Int)=0))=true from rfl,cond_true];exact k1q n b k (by omega)
  ·obtain⟨s',C,_,_⟩:=n.cut (l:=0) (n:=k+1) (by omega) A;rw[show(decide (((xs[k]:Nat):Int)=0))=false from by rw[qbv];omega];simp only[cond_false];rw[show cutSl s 0 ((k+1:Nat):Int) 1=some s' from C];exact⟨s',rfl,b.cut C⟩
theorem kpi{h:AH}{s:Sl}{i:Nat}{xs:List Nat}(v:Vec h s i xs):∃s',go (.fn kb1 [s.v]) h=some (s'.v,h)/\Nats h s' (digs B (num B xs))/\InB s' i:=by
 obtain⟨s',e,n,_⟩:=kec v.nats;obtain⟨s2,y,b⟩:=k1q v.nats v.inB xs.length (qbp _);rw[ksh,v.len,y]at e;have:s2=s':=Sl.v_inj (Prod.mk.inj (Option.some.inj e)).1;subst this;exact⟨s2,by rw[ksh,v.len,y],n,b⟩
theorem B0:0<B:=by decide
theorem kpm{a:Int}{x:Nat}{h:AH}(q:u64P a=some x):∃(s':Sl)(h':AH),go (.fn kex [.int .u64 a]) h=some (s'.v,h')/\Nats h' s' (digs B x)/\Grow h h'/\Own h s':=by
 obtain⟨rfl,y⟩:=kmw q;exact k1y y
theorem k8a{h:AH}{s t:Sl}{xs ys:List Nat}(n:Nats h s xs)(m:Nats h t ys)(c:xs.length<=1073741824/\ys.length<=xs.length/\num B ys<=num B xs) :
  ∃(s':Sl)(h':AH),go (.fn kdv [s.v,t.v]) h=some (s'.v,h')/\Nats h' s' (padD B xs.length (num B xs-num B ys))/\Grow h h'/\Own h s':=by
 obtain⟨s',h',zs,e,y,g,o,v,l⟩:=kpk n m c.1 c.2.1 c.2.2;refine⟨s',h',e,?_,g,o⟩;rw[<- v,<- l,kyw B0 y.lt];exact y
end Go.Ab
set_option maxRecDepth 10000
namespace Go.Ab
open IntKind (wrap)
open Go.Proofs Go.Num
inductive kd2
 | fn (x1:List Nat) (x2:List Nat)
 | p6 (a1:Int) (x2:List Nat) (x3:List Nat) (a4:Int) (x5:List Nat) (a6:Int)
 | p10 (a1:Int) (x2:List Nat) (x3:List Nat) (a4:Int) (x5:List Nat) (a6:Int) (a7:Int) (x8:Nat×Nat)
 | p18 (a1:Int) (x2:List Nat) (x3:List Nat) (x4:List Nat) (a5:Int) (a6:Int)
abbrev kci:=List Nat×List Nat
noncomputable def kk7(x1 x2:List Nat):Option (kd2⊕kci) :=
 (atI x2 (wrap .i64 ((List.length x2:Int)-1))).bind λy=>(need (0<=((y:Int))/\((y:Int))<18446744073709551616)).bind λC=>(runP kkn (.fn x1 (wrap .u64 (((64-bl (Int.toNat ((y:Int))):Nat):Int))))).bind λA=>(runP kkn (.fn x2 (wrap .u64 (((64-bl (Int.toNat ((y:Int))):Nat):Int))))).bind λp6=>(mkI (wrap .i64 ((List.length A:Int)-(List.length (digs B (num B p6)):Int))) (wrap .i64 ((List.length A:Int)-(List.length (digs B (num B p6)):Int)))).bind λF=>some (.inl (.p6 (wrap .u64 (((64-bl (Int.toNat ((y:Int))):Nat):Int))) A (digs B (num B p6)) (List.length (digs B (num B p6)):Int) (List.replicate F 0) (wrap .i64 ((List.length (List.replicate F 0):Int)-1))))
noncomputable def ki5(a1:Int)(x2 x3:List Nat)(a4:Int)(x5:List Nat)(a6:Int):Option (kd2⊕kci) :=
 cond (decide (a6>=0)) ((inI (List.length x2) (wrap .i64 (a6+a4))).bind λI=>(inI (List.length x2) (wrap .i64 ((wrap .i64 (a6+a4))-1))).bind λK=>(inI (List.length x2) (wrap .i64 ((wrap .i64 (a6+a4))-2))).bind λA=>(atI x3 (wrap .i64 (a4-1))).bind λC=>(atI x3 (wrap .i64 (a4-2))).bind λF=>(runP kkr (.fn (((List.getD x2 I 0:Nat):Int)) (((List.getD x2 K 0:Nat):Int)) (((List.getD x2 A 0:Nat):Int)) ((C:Int)) ((F:Int)))).bind λH=>(cutP (List.length x2) a6 (wrap .i64 ((wrap .i64 (a6+a4))+1))).bind λy=>some (.inl (.p10 a1 x2 x3 a4 x5 a6 H (y.1,y.2)))) ((mkI (List.length (digs B (num B x2)):Int) (List.length (digs B (num B x2)):Int)).bind λQ=>some (.inl (.p18 a1 x5 (digs B (num B x2)) (List.replicate Q 0) (List.length (digs B (num B x2)):Int) 0)))
noncomputable def ki8(a1:Int)(x2 x3:List Nat)(a4:Int)(x5:List Nat)(a6 a7:Int)(x8:Nat×Nat):Option (kd2⊕kci) :=
 (u64P a7).bind λp9=>(need (List.length x3+List.length (digs B p9)<=8796093022208)).bind λy=>(need (List.length (List.take x8.2 (List.drop x8.1 x2))<=8796093022208)).bind λA=>(need (Trim (digs B (num B (List.take x8.2 (List.drop x8.1 x2)))))).bind λC=>(need (Trim (digs B (num B x3*num B (digs B p9))))).bind λF=>cond (decide ((cmp (num B (digs B (num B (List.take x8.2 (List.drop x8.1 x2))))) (num B (digs B (num B x3*num B (digs B p9)))))>=0)) ((need (List.length (List.take x8.2 (List.drop x8.1 x2))<=1073741824/\List.length (digs B (num B x3*num B (digs B p9)))<=List.length (List.take x8.2 (List.drop x8.1 x2))/\num B (digs B (num B x3*num B (digs B p9)))<=num B (List.take x8.2 (List.drop x8.1 x2)))).bind λH=>(setW x2 x8.1 x8.2 (padD B (List.length (List.take x8.2 (List.drop x8.1 x2))) (num B (List.take x8.2 (List.drop x8.1 x2))-num B (digs B (num B x3*num B (digs B p9)))))).bind λI=>(inI (List.length x5) a6).bind λK=>(u64P a7).bind λQ=>some (.inl (.p6 a1 I x3 a4 (List.set x5 K Q) (wrap .i64 (a6-1))))) (some (.inl (.p10 a1 x2 x3 a4 x5 a6 (wrap .u64 (a7-1)) (x8.1,x8.2))))
noncomputable def kep(a1:Int)(x2 x3 x4:List Nat)(a5 a6:Int):Option (kd2⊕kci) :=
 cond (decide (a6<a5)) ((atI x3 a6).bind λK=>cond (decide (a1<0)) (none) ((inI (List.length x4) a6).bind λy=>(u64P (ishr .u64 ((K:Int)) a1)).bind λA=>cond (decide (a1>0)) (cond (decide ((wrap .i64 (a6+1))<(List.length x3:Int))) ((inI (List.length x4) a6).bind λC=>(atI x3 (wrap .i64 (a6+1))).bind λF=>cond (decide ((wrap .u64 (64-a1))<0)) (none) ((inI (List.length x4) a6).bind λH=>(u64P (ior .u64 (((List.getD (List.set x4 y A) C 0:Nat):Int)) (ishl .u64 ((F:Int)) (wrap .u64 (64-a1))))).bind λI=>some (.inl (.p18 a1 x2 x3 (List.set (List.set x4 y A) H I) a5 (wrap .i64 (a6+1)))))) (some (.inl (.p18 a1 x2 x3 (List.set x4 y A) a5 (wrap .i64 (a6+1)))))) (some (.inl (.p18 a1 x2 x3 (List.set x4 y A) a5 (wrap .i64 (a6+1))))))) (some (.inr (digs B (num B x2),digs B (num B x4))))
noncomputable def kja:kd2->Option (kd2⊕kci)
 | .fn x1 x2=>kk7 x1 x2
 | .p6 a1 x2 x3 a4 x5 a6=>ki5 a1 x2 x3 a4 x5 a6
 | .p10 a1 x2 x3 a4 x5 a6 a7 x8=>ki8 a1 x2 x3 a4 x5 a6 a7 x8
 | .p18 a1 x2 x3 x4 a5 a6=>kep a1 x2 x3 x4 a5 a6
@[reducible] def krk(h0:AH)(r:kci)(v:AV)(h':AH):Prop:=∃s1:Sl,∃s2:Sl,v=.tup [s1.v,s2.v]/\Nats h' s1 r.1/\Nats h' s2 r.2/\Grow h0 h'/\Own h0 s1/\Own h0 s2
def kgi(r:kci):kd2->Prop
 | .fn x1 x2=>∀{h:AH}{a1:Sl}{a2:Sl},Nats h a1 x1->Nats h a2 x2->Runs (go (.fn kce [a1.v,a2.v]) h) (krk h r)
 | .p6 a1 x2 x3 a4 x5 a6=>∀{h0 h:AH}{a2:Sl}{a3:Sl}{a5:Sl}{y:Nat}{A:Nat},Grow h0 h->Vec h a2 y x2->Nats h a3 x3->Vec h a5 A x5->h0.blks.size<=y->h0.blks.size<=A->Av a3 y x3->Av a3 A x3->y≠A->Runs (go (.pt kce kpc [(6,.int .u64 a1),(7,a2.v),(8,a3.v),(9,.i a4),(10,a5.v),(11,.i a6)]) h) (krk h0 r)
 | .p10 a1 x2 x3 a4 x5 a6 a7 x8=>∀{h0 h:AH}{a2:Sl}{a3:Sl}{a5:Sl}{a8:Sl}{y:Nat}{A:Nat},Grow h0 h->Vec h a2 y x2->Nats h a3 x3->Vec h a5 A x5->h0.blks.size<=y->h0.blks.size<=A->Win a8 y x8.1 x8.2->x8.1+x8.2<=List.length x2->Av a3 y x3->Av a3 A x3->y≠A->Runs (go (.pt kce kpz [(6,.int .u64 a1),(7,a2.v),(8,a3.v),(9,.i a4),(10,a5.v),(11,.i a6),(12,.int .u64 a7),(13,a8.v)]) h) (krk h0 r)
 | .p18 a1 x2 x3 x4 a5 a6=>∀{h0 h:AH}{a2:Sl}{a3:Sl}{a4:Sl}{y:Nat}{C:Nat},Grow h0 h->Vec h a2 y x2->Nats h a3 x3->Vec h a4 C x4->h0.blks.size<=y->h0.blks.size<=C->Av a3 y x3->Av a3 C x3->y≠C->Runs (go (.pt kce kjh [(6,.int .u64 a1),(10,a2.v),(15,a3.v),(16,a4.v),(112,.i a5),(113,.i a6)]) h) (krk h0 r)
theorem kbfa{r:kci}{o:kd2⊕kci}{x1 x2:List Nat}(e:kk7 x1 x2=some o)(y:GoodS (kgi r) r o):kgi r (.fn x1 x2):=by
 intro h a1 a2 n1 H;rw[kbhc];unfold kk7 at e;rw[H.len];obtain⟨Z,q3,e⟩:=qbu.1 e;obtain⟨r3,j3,l3⟩:=H.atI q3;refine qz j3 (qz (rdc l3 qcn) ?_);obtain⟨A,Q,e⟩:=qbu.1 e;refine qz (kv1 ((Z:Int))  A.down) (qz (seen qcn) ?_);obtain⟨p5,q5,e⟩:=qbu.1 e;obtain⟨_,H5,e5,s5,j5,rfl,C,I,o5⟩:=kzg n1 q5;refine qz e5 (qz (seen qcm) ?_);rw[C.nats.len];obtain⟨p6,q6,e⟩:=qbu.1 e;obtain⟨_,H6,e6,s6,j6,rfl,U,F,o6⟩:=kzg (H.grow I) q6;refine qz e6 (qz (seen qcm) ?_);obtain⟨s7,e7,V,X⟩:=kpi U;refine qz e7 (qz (seen qcm) ?_);rw[V.len];obtain⟨m8,q8,e⟩:=qbu.1 e;refine Runs.mk q8 kei λs8 H8 Y K=>?_;rw[Y.nats.len];cases e;exact y ((I.trans F).trans K) (C.grow (F.trans K)) (V.grow K) Y o5 (qbq ((I.trans F)).size (qbp _)) (Av.of_in X (Nat.ne_of_gt (qbr (C).inn o6))) (Av.of_in X (Nat.ne_of_lt (qbr (U).inn (qbp _)))) (Nat.ne_of_lt (qbr ((C.grow F)).inn (qbp _)))
theorem kbe8{r:kci}{o:kd2⊕kci}{a1:Int}{x2 x3:List Nat}{a4:Int}{x5:List Nat}{a6:Int}(e:ki5 a1 x2 x3 a4 x5 a6=some o)(F:GoodS (kgi r) r o):kgi r (.p6 a1 x2 x3 a4 x5 a6):=by
 intro h0 h a2 a3 a5 i2 i5 Y y V Z aa K H I A;rw[kba8];unfold ki5 at e;rw[y.nats.len];rw[V.len];refine qbd (λk7=>?_) (λk7=>?_)
 ·replace e:=(condT k7).symm.trans e;obtain⟨j8,q8,e⟩:=qbu.1 e;refine qz (y.idx rfl q8) (qz (y.rd rfl q8 qcn) ?_);obtain⟨j9,X,e⟩:=qbu.1 e;refine qz (y.idx rfl X) (qz (y.rd rfl X qcn) ?_);obtain⟨am,Q,e⟩:=qbu.1 e;refine qz (y.idx rfl Q) (qz (y.rd rfl Q qcn) ?_);obtain⟨an,ac,e⟩:=qbu.1 e;obtain⟨ap,ad,ae⟩:=V.atI ac;refine qz ad (qz (rdc ae qcn) ?_);obtain⟨aq,af,e⟩:=qbu.1 e;obtain⟨ar,ag,ah⟩:=V.atI af;refine qz ag (qz (rdc ah qcn) ?_);obtain⟨au,ai,e⟩:=qbu.1 e;obtain⟨_,aw,aj,rfl,C⟩:=kbgd ai;refine qz aj (qz (seen qcn) ?_);obtain⟨ax,U,e⟩:=qbu.1 e;obtain⟨ay,ak,al⟩:=(y.grow C).cutW rfl U;refine qz ak ?_;cases e;exact F (Y.trans C) (y.grow C) (V.grow C) (Z.grow C) aa K al (kxk U).2.2.2 H I A
 ·replace e:=(condF k7).symm.trans e;obtain⟨s8,e8,n8,i8⟩:=kpi y;refine qz e8 (qz (seen qcm) ?_);rw[n8.len];obtain⟨m9,X,e⟩:=qbu.1 e;refine Runs.mk X kei λs9 H9 v9 g9=>?_;cases e;exact F (Y.trans g9) (Z.grow g9) (n8.grow g9) v9 K (qbq (Y).size (qbp _)) (Av.of_in i8 A) (Av.of_in i8 (Nat.ne_of_lt (qbr (y).inn (qbp _)))) (Nat.ne_of_lt (qbr (Z).inn (qbp _)))
theorem k87{r:kci}{o:kd2⊕kci}{a1:Int}{x2 x3:List Nat}{a4:Int}{x5:List Nat}{a6 a7:Int}{x8:Nat×Nat}(e:ki8 a1 x2 x3 a4 x5 a6 a7 x8=some o)(af:GoodS (kgi r) r o):kgi r (.p10 a1 x2 x3 a4 x5 a6 a7 x8):=by
 intro h0 h a2 a3 a5 a8 i2 i5 g0 X n3 v5 ag ah w8 ai Q U C;rw[kbcb];unfold ki8 at e;rw[v5.nats.len];obtain⟨p9,q9,e⟩:=qbu.1 e;obtain⟨s9,H9,e9,n9,F,o9⟩:=kpm q9;refine qz e9 (qz (seen qcm) ?_);obtain⟨aj,bi,e⟩:=qbu.1 e;obtain⟨b1,b2,bj,ak,y,ax⟩:=kr7 (n3.grow F) n9  aj.down;refine qz bj (qz (seen qcm) ?_);obtain⟨al,bk,e⟩:=qbu.1 e;obtain⟨b3,b4,bm,ay,A,Y⟩:=knk (w8.nats (X.grow (F.trans y)) ai)  al.down;refine qz bm (qz (seen qcm) ?_);obtain⟨b5,bn,az,a0⟩:=kec ay;refine qz bn (qz (seen qcm) ?_);obtain⟨am,bp,e⟩:=qbu.1 e;obtain⟨an,bq,e⟩:=qbu.1 e;refine qz (kpb az (ak.grow A)  am.down an.down) (qz (seen qcn) ?_);refine qbd (λap=>?_) (λap=>?_)
 ·replace e:=(condT ap).symm.trans e;obtain⟨aq,br,e⟩:=qbu.1 e;obtain⟨b6,b7,bt,ba,H,bb⟩:=k8a (w8.nats (X.grow ((F.trans y).trans A)) ai) (ak.grow A)  aq.down;refine qz bt (qz (seen qcm) ?_);obtain⟨b8,bc,e⟩:=qbu.1 e;have b0:=k2n bc;obtain⟨b9,bu,bv,I⟩:=(X.grow (((F.trans y).trans A).trans H)).copyW w8 ba bc;refine qz bu ?_;have ar:=(n3.grow (((F.trans y).trans A).trans H)).upda Q I;have au:=(n9.grow ((y.trans A).trans H)).upda (qbj o9 (X).inn) I;have Z:=(ak.grow (A.trans H)).upda (qbj ax ((X.grow F)).inn) I;have aa:=(ay.grow H).upda (qbj Y ((X.grow (F.trans y))).inn) I;have ac:=(az.grow H).upda (qbj (a0 _ Y) ((X.grow (F.trans y))).inn) I;have ad:=ba.upda (qbj bb ((X.grow ((F.trans y).trans A))).inn) I;have V:=(v5.grow (((F.trans y).trans A).trans H)).updr (Ne.symm C) I;obtain⟨ca,bd,e⟩:=qbu.1 e;refine qz (V.idx rfl bd) ?_;obtain⟨cb,bw,e⟩:=qbu.1 e;refine qbh V rfl bd bw λcc bx K=>?_;have aw:=ar.upda U K;have bz:=au.upda (qbj o9 (v5).inn) K;have be:=Z.upda (qbj ax ((v5.grow F)).inn) K;have bf:=aa.upda (qbj Y ((v5.grow (F.trans y))).inn) K;have bg:=ac.upda (qbj (a0 _ Y) ((v5.grow (F.trans y))).inn) K;have bh:=ad.upda (qbj bb ((v5.grow ((F.trans y).trans A))).inn) K;have ae:=bv.updr C K;cases e;exact af ((((((g0.trans F).trans y).trans A).trans H).updr ag I).updr ah K) ae aw bx ag ah Q U C
 ·replace e:=(condF ap).symm.trans e;cases e;exact af (((g0.trans F).trans y).trans A) (X.grow ((F.trans y).trans A)) (n3.grow ((F.trans y).trans A)) (v5.grow ((F.trans y).trans A)) ag ah w8 ai Q U C
theorem kbhf{r:kci}{o:kd2⊕kci}{a1:Int}{x2 x3 x4:List Nat}{a5 a6:Int}(e:kep a1 x2 x3 x4 a5 a6=some o)(K:GoodS (kgi r) r o):kgi r (.p18 a1 x2 x3 x4 a5 a6):=by
 intro h0 h a2 a3 a4 i2 i4 g0 v2 n3 v4 V F H y A;rw[kbjj];unfold kep at e;rw[n3.len];rw[v4.nats.len];refine qbd (λk7=>?_) (λk7=>?_)
 ·replace e:=(condT k7).symm.trans e;obtain⟨y8,q8,e⟩:=qbu.1 e;obtain⟨r8,j8,l8⟩:=n3.atI q8;refine qz j8 (qz (rdc l8 qcn) ?_);refine qbd (λk9=>?_) (λk9=>?_)
  ·replace e:=(condT k9).symm.trans e;cases e
  ·replace e:=(condF k9).symm.trans e;obtain⟨an,ae,e⟩:=qbu.1 e;refine qz (v4.idx rfl ae) ?_;obtain⟨ap,ah,e⟩:=qbu.1 e;refine qbh v4 rfl ae ah λaq Q U=>?_;have C:=n3.upda y U;have I:=v2.updr A U;refine qbd (λX=>?_) (λX=>?_)
   ·replace e:=(condT X).symm.trans e;refine qbd (λY=>?_) (λY=>?_)
    ·replace e:=(condT Y).symm.trans e;obtain⟨ar,af,e⟩:=qbu.1 e;refine qz (Q.idx (by simp only[qb6]) af) (qz (Q.rd (by simp only[qb6]) af qcn) ?_);obtain⟨au,ai,e⟩:=qbu.1 e;obtain⟨aw,aj,ak⟩:=C.atI ai;refine qz aj (qz (rdc ak qcn) ?_);refine qbd (λZ=>?_) (λZ=>?_)
     ·replace e:=(condT Z).symm.trans e;cases e
     ·replace e:=(condF Z).symm.trans e;obtain⟨ax,ag,e⟩:=qbu.1 e;refine qz (Q.idx (by simp only[qb6]) ag) ?_;obtain⟨ay,al,e⟩:=qbu.1 e;refine qbh Q (by simp only[qb6]) ag al λaz am aa=>?_;have ac:=C.upda y aa;have ad:=I.updr A aa;cases e;exact K ((g0.updr F U).updr F aa) ad ac am V F H y A
    ·replace e:=(condF Y).symm.trans e;cases e;exact K (g0.updr F U) I C Q V F H y A
   ·replace e:=(condF X).symm.trans e;cases e;exact K (g0.updr F U) I C Q V F H y A
 ·replace e:=(condF k7).symm.trans e;obtain⟨s8,e8,n8,i8⟩:=kpi v2;refine qz e8 (qz (seen qcm) ?_);obtain⟨s9,e9,n9,i9⟩:=kpi v4;refine qz e9 (qz (seen qcm) ?_);cases e;cases K;exact qy ⟨s8,s9,rfl,n8,n9,g0,((i8.own V).of_le (ql _)),((i9.own F).of_le (ql _))⟩
theorem k8s{s:kd2}{r:kci}(A:Iter kja s r):kgi r s:=qbg (λs o e y=>by
 cases s with
 | fn x1 x2=>exact @kbfa _ _ x1 x2 e y
 | p6 a1 x2 x3 a4 x5 a6=>exact @kbe8 _ _ a1 x2 x3 a4 x5 a6 e y
 | p10 a1 x2 x3 a4 x5 a6 a7 x8=>exact @k87 _ _ a1 x2 x3 a4 x5 a6 a7 x8 e y
 | p18 a1 x2 x3 x4 a5 a6=>exact @kbhf _ _ a1 x2 x3 x4 a5 a6 e y
 ) A
end Go.Ab
set_option maxRecDepth 10000
namespace Go.Ab
open Go.Proofs Go.Num
theorem k8f{d q r y x Q R:Nat}(h1:r*18446744073709551616+x=q*d+y)(A:R=d*Q+r):x+18446744073709551616*R=d*(q+18446744073709551616*Q)+y:=by
 rw[A,Nat.mul_add,Nat.mul_add];have C:18446744073709551616*(d*Q)=d*(18446744073709551616*Q):=Nat.mul_left_comm _ _ _;rw[C,Nat.mul_comm d q];omega
theorem kub{o:List Nat}{i w:Nat}(h:i<o.length):(o.set i w).drop i=w::o.drop (i+1):=by
 rw[qcf (by simpa using h),List.getElem_set_self,List.drop_set_of_lt (by omega)]
theorem ky0{xs:List Nat}{d:Nat}(K:∀x∈xs,x<B)(Q:d<B)(y:0<d)(V:xs.length<=8796093022208) :
  ∀(i:Nat)(o:List Nat)(r:Nat),i<=xs.length->o.length=xs.length->r<d->num B (xs.drop i)=d*num B (o.drop i)+r->
   Iter kvh (.p4 xs d o r ((i:Int)-1)) (digs B (num B xs/d),((num B xs%d:Nat):Int))
 | 0,o,r,hi,lo,A,e=>by
  refine .done ?_;show kh4 _ _ _ _ _=_;unfold kh4;rw[List.drop_zero,List.drop_zero]at e;rw[condF (by rw[qbv];omega),e,Nat.mul_add_div y,Nat.div_eq_of_lt A,Nat.add_zero,Nat.mul_add_mod,Nat.mod_eq_of_lt A]
 | i+1,o,r,hi,lo,A,e=>by
  have C:i<xs.length:=by omega
  have F:i<o.length:=by omega
  have X:=K xs[i] (qb2 _);have H:d<18446744073709551616:=Q;have I:xs[i]<18446744073709551616:=X
  have Y:(r*18446744073709551616+xs[i])/d<18446744073709551616:=by
   rw[Nat.div_lt_iff_lt_mul y];have:(r+1)*18446744073709551616<=d*18446744073709551616:=Nat.mul_le_mul_right _ A;omega
  refine .next (s':=.p4 xs d (o.set i ((r*18446744073709551616+xs[i])/d)) ((r*18446744073709551616+xs[i])%d:Nat) ((i:Int)-1)) ?_ (ky0 K Q y V i _ _ (by omega) (by simpa using lo) (Nat.mod_lt _ y) ?_)
  ·show kh4 _ _ _ _ _=_;unfold kh4;rw[condT (by rw[qbw];omega),show((i+1:Nat):Int)-1=(i:Int)from by omega,kco C,qbt,kwi H I A,qbt,kbi F,qbt];dsimp only;rw[kbr Y,qbt,wrap64 (by omega) (by omega)]
  ·rw[kub F,qcf C];simp only[num];have U:=Nat.div_add_mod (r*18446744073709551616+xs[i]) d;rw[Nat.mul_comm d]at U;exact k8f U.symm e
theorem kbke{xs:List Nat}{d:Nat}(C:∀x∈xs,x<B)(F:d<B)(y:0<d)(A:xs.length<=8796093022208):Iter kvh (.fn xs d) (digs B (num B xs/d),((num B xs%d:Nat):Int)):=by
 refine .next (s':=.p4 xs d (List.replicate xs.length 0) ((0:Nat):Int) ((xs.length:Int)-1)) ?_ (ky0 C F y A xs.length _ _ (qbp _) (by simp) y (by simp[num]));show kml _ _=_;unfold kml;rw[kf5 A,qbt,wrap64 (by omega) (by omega)];rfl
theorem kbj1{h:AH}{s:Sl}{xs:List Nat}(n:Nats h s xs){d:Nat}(A:d<B)(y:0<d)(C:xs.length<=8796093022208):∃(s':Sl)(h':AH),go (.fn kfm [s.v,.int .u64 (d:Int)]) h=some (.tup [s'.v,.int .u64 ((num B xs%d:Nat):Int)],h')/\Nats h' s' (digs B (num B xs/d))/\Grow h h'/\Own h s':=by
 obtain⟨_,h',e,s',rfl,F,g,o⟩:=kbhr (kbke n.lt A y C) n;exact⟨s',h',e,F,g,o⟩
theorem k31(a b:Int):ior .u64 a b=ior .u64 b a:=by
 unfold ior;rw[BitVec.or_comm]
theorem k8k{x n:Nat}(y:x<18446744073709551616)(A:n<=63):x*2^n%18446744073709551616=x%2^(64-n)*2^n/\x*2^n/18446744073709551616=x/2^(64-n)/\x/2^(64-n)<2^n/\x%2^(64-n)*2^n<18446744073709551616:=by
 have p:0<2^n:=Nat.pow_pos (by decide);have p2:0<2^(64-n):=Nat.pow_pos (by decide);have e:2^(64-n)*2^n=18446744073709551616:=by rw[<- Nat.pow_add,show 64-n+n=64 from by omega]
 refine⟨?_,?_,?_,?_⟩
 ·rw[<- e,Nat.mul_mod_mul_right]
 ·rw[<- e,Nat.mul_div_mul_right _ _ p]
 ·rw[Nat.div_lt_iff_lt_mul p2,Nat.mul_comm,e];exact y
 ·have:=Nat.mul_lt_mul_of_pos_right (Nat.mod_lt x p2) p;rw[e]at this;exact this
theorem up_alg{P c l hgh t y n1 A X:Nat}(h1:n1+P*c=y+P*(l+c))(F:A+P*18446744073709551616*0=n1+P*18446744073709551616*hgh)(C:t=hgh*18446744073709551616+l)(H:y=X):A=X+P*t:=by
 rw[Nat.mul_add]at h1;rw[C,Nat.mul_add,Nat.mul_comm hgh,<- Nat.mul_assoc];omega
theorem kuz{xs:List Nat}{n:Nat}(U:∀x∈xs,x<B)(V:n<=63)(hl:xs.length<8796093022208) :
  ∀(d i:Nat)(o:List Nat),i+d=xs.length->o.length=xs.length+1->(∀y∈o,y<B)->Empty o (i+1)->(∀h:i<o.length,o[i]<2^n)->num B o=num B (xs.take i)*2^n->
   ∃r,Iter kkn (.p3 n o xs xs.length i) r/\r.length=xs.length+1/\(∀y∈r,y<B)/\num B r=num B xs*2^n
 | 0,i,o,hi,lo,to,zo,ho,e=>by
  have hi:i=xs.length:=by omega
  subst hi;rw[List.take_length]at e;refine⟨o,.done ?_,lo,to,e⟩;show kfq _ _ _ _ _=_;unfold kfq;rw[condF (by rw[qbv];omega)]
 | d+1,i,o,hi,lo,to,zo,ho,e=>by
  have H:i<xs.length:=by omega
  have A:i<o.length:=by omega
  have hx:xs[i]<18446744073709551616:=U xs[i] (qb2 _);have hc:=ho A;obtain⟨u1,u2,u3,u4⟩:=k8k hx V;have shl:ishl .u64 (xs[i]:Int) (n:Int)=((xs[i]%2^(64-n)*2^n:Nat):Int):=by rw[kmo _ _ (by omega),u1]
  have io:ior .u64 (o[i]:Int) ((xs[i]%2^(64-n)*2^n:Nat):Int)=((xs[i]%2^(64-n)*2^n+o[i]:Nat):Int):=by rw[k31,kts u4 hc (by omega)]
  have Q:xs[i]%2^(64-n)*2^n+o[i]<18446744073709551616:=by
   have p:0<2^n:=Nat.pow_pos (by decide);have p2:0<2^(64-n):=Nat.pow_pos (by decide);have e:2^(64-n)*2^n=18446744073709551616:=by rw[<- Nat.pow_add,show 64-n+n=64 from by omega]
   have:=Nat.mul_le_mul_right (2^n) (Nat.mod_lt xs[i] p2);rw[e,Nat.succ_mul]at this;omega
  generalize ad:xs[i]%2^(64-n)*2^n=l at *
  have I:i+1<(o.set i (l+o[i])).length:=by simp;omega
  have h1:=kk0 (b:=B) A (l+o[i])
  have hz:(o.set i (l+o[i]))[i+1]=0:=by
   rw[List.getElem_set_ne (by omega)];exact zo _ (by omega) (by omega)
  have F:xs[i]*2^n=xs[i]/2^(64-n)*18446744073709551616+l:=by
   have:=Nat.div_add_mod (xs[i]*2^n) 18446744073709551616;rw[u2,u1,Nat.mul_comm]at this;exact this.symm
  have C:num B (xs.take (i+1))*2^n=num B (xs.take i)*2^n+B^i*(xs[i]*2^n):=by
   rw[kds B H,Nat.add_mul,Nat.mul_assoc]
  have hB:xs[i]/2^(64-n)<18446744073709551616:=qbs (Nat.div_le_self _ _) hx;by_cases X:n=0
  ·
   have hh:xs[i]/2^(64-n)=0:=by
    subst X;rw[Nat.pow_zero]at u3;omega
   obtain⟨r,Y,r1,r2,Z⟩:=kuz U V hl d (i+1) (o.set i (l+o[i])) (by omega) (by simpa using lo) (set_lt to Q) (by intro t K hk;rw[List.getElem_set_ne (by omega)];exact zo t (by simpa using K) (by omega)) (by intro K;rw[hz];exact Nat.pow_pos (by decide)) (by
    rw[C,F,hh];exact up_alg (hgh:=0) h1 (by omega) rfl e)
   refine⟨r,.next ?_ Y,r1,r2,Z⟩;show kfq _ _ _ _ _=_;unfold kfq;rw[condT (by rw[qbw];omega),kco H,qbt,kbi A,qbt,condF (by rw[qbv];omega),qbt,kem A,shl,io,kbr Q,qbt,condF (by rw[qbv];omega),kj (by omega)]
  ·have h2:=kk0 (b:=B) I (xs[i]/2^(64-n));rw[hz]at h2
   obtain⟨r,Y,r1,r2,Z⟩:=kuz U V hl d (i+1) ((o.set i (l+o[i])).set (i+1) (xs[i]/2^(64-n))) (by omega) (by simpa using lo) (set_lt (set_lt to Q) hB) (by intro t K hk;rw[List.getElem_set_ne (by omega),List.getElem_set_ne (by omega)];exact zo t (by simpa using K) (by omega)) (by intro K;rw[List.getElem_set_self];exact u3) (by
    rw[C];rw[Nat.pow_succ]at h2;exact up_alg h1 h2 F e)
   refine⟨r,.next ?_ Y,r1,r2,Z⟩;have aa:ishr .u64 (xs[i]:Int) ((64-n:Nat):Int)=((xs[i]/2^(64-n):Nat):Int):=by rw[kcm,Nat.min_eq_left (by omega)]
   have ac:IntKind.wrap .u64 (64-(n:Int))=((64-n:Nat):Int):=by rw[wrapU];omega
   show kfq _ _ _ _ _=_;unfold kfq;rw[condT (by rw[qbw];omega),kco H,qbt,kbi A,qbt,condF (by rw[qbv];omega),qbt,kem A,shl,io,kbr Q,qbt,condT (by rw[qbw];omega),ac,condF (by rw[qbv];omega),kj (by omega),kbi (by omega),qbt,aa,kbr hB,qbt]
theorem ky6{xs:List Nat}{n:Nat}(A:∀x∈xs,x<B)(C:n<=63)(F:xs.length<8796093022208):∃r,Iter kkn (.fn xs n) r/\r.length=xs.length+1/\(∀y∈r,y<B)/\num B r=num B xs*2^n:=by
 obtain⟨r,H,k⟩:=kuz A C F xs.length 0 (List.replicate (xs.length+1) 0) (by omega) (by simp) (λy I=>by rw[List.eq_of_mem_replicate I];exact B0) (λt K Q=>by simp) (λK=>by simp;exact Nat.pow_pos (by decide)) (by
  have:=knu B [] (xs.length+1)
  simpa[num]using this)
 refine⟨r,.next ?_ H,k⟩;show knp _ _=_;unfold knp;rw[kj (by omega),kf5 (by omega),qbt];rfl
theorem kn_hi2{b y A W r0 q r:Nat}(C:0<y*b+A)(e:q*y+r=W)(t:b*r+r0<q*A):(W*b+r0)/(y*b+A)<=q-1/\1<=q:=by
 have h1:(W*b+r0)/(y*b+A)<q:=by
  rw[Nat.div_lt_iff_lt_mul C,kn_mul (v:=y*b+A) rfl,<- e,Nat.add_mul,Nat.mul_comm r b];omega
 generalize (W*b+r0)/(y*b+A)=k at *
 omega
theorem kxj{d1 d0 W r0:Nat}(h1:d1<18446744073709551616)(C:0<d1)(h0:d0<18446744073709551616)(Q:r0<18446744073709551616) :
  ∀(q r:Nat),q*d1+r=W->q<18446744073709551616->r<18446744073709551616->(W*18446744073709551616+r0)/(d1*18446744073709551616+d0)<=q->
   ∃g:Nat,Iter kkr (.p4 r0 d1 d0 q r) (g:Int)/\g<18446744073709551616/\(W*18446744073709551616+r0)/(d1*18446744073709551616+d0)<=g
 | q,r,e,F,U,y=>by
  have H:mul64 (q:Int) (d0:Int)=(((q*d0/18446744073709551616:Nat):Int),((q*d0%18446744073709551616:Nat):Int)):=k0i F h0;by_cases c1:q*d0/18446744073709551616<r
  ·refine⟨q,.done ?_,F,y⟩;show kgc _ _ _ _ _=_;unfold kgc;rw[H];dsimp only;rw[condT (by rw[qbw];omega)]
  by_cases c2:q*d0/18446744073709551616=r/\q*d0%18446744073709551616<=r0
  ·refine⟨q,.done ?_,F,y⟩;show kgc _ _ _ _ _=_;unfold kgc;rw[H];dsimp only;rw[condF (by rw[qbv];omega),condT (by rw[qbw];omega),condT (by rw[qbw];omega)]
  have t:18446744073709551616*r+r0<q*d0:=by
   generalize q*d0=t at *
   omega
  obtain⟨I,k2⟩:=kn_hi2 (by omega) e t;obtain⟨p,rfl⟩:∃p,q=p+1:=⟨q-1,by omega⟩;rw[Nat.add_sub_cancel]at I
  have V:p*d1+(r+d1)=W:=by
   rw[Nat.add_mul,Nat.one_mul]at e;omega
  have X:IntKind.wrap .u64 (((p+1:Nat):Int)-1)=(p:Int):=by rw[wrapU];omega
  have step:∀o,cond (decide ((IntKind.wrap .u64 ((r:Int)+(d1:Int)))<(r:Int))) (some (Sum.inr (α:=kgl) (p:Int))) (some (.inl (.p4 r0 d1 d0 p (IntKind.wrap .u64 ((r:Int)+(d1:Int))))))=o->kkr (.p4 r0 d1 d0 ((p+1:Nat):Int) r)=o:=by
   intro o A;show kgc _ _ _ _ _=_;unfold kgc;rw[H];dsimp only;rw[X,condF (by rw[qbv];omega)];refine kga (λ_=>?_) λ_=>A;rw[condF (by rw[qbv];rename_i h;rw[qbw]at h;omega)];exact A
  by_cases A:r+d1<18446744073709551616
  ·have K:IntKind.wrap .u64 ((r:Int)+(d1:Int))=((r+d1:Nat):Int):=by rw[wrapU];omega
   obtain⟨g,Y,Z,k4⟩:=kxj h1 C h0 Q p (r+d1) V (by omega) A I;refine⟨g,.next (step _ ?_) Y,Z,k4⟩;rw[K,condF (by rw[qbv];omega)]
  ·have K:IntKind.wrap .u64 ((r:Int)+(d1:Int))=((r+d1-18446744073709551616:Nat):Int):=by rw[wrapU];omega
   refine⟨p,.done (step _ ?_),by omega,I⟩;rw[K,condT (by rw[qbw];omega)]
termination_by q=>q
theorem kbie{r2 r1 r0 d1 d0:Nat}(X:r2<18446744073709551616)(C:r1<18446744073709551616)(F:r0<18446744073709551616)(h1:d1<18446744073709551616)(y:0<d1)(h0:d0<18446744073709551616) :
  ∃g:Nat,Iter kkr (.fn r2 r1 r0 d1 d0) (g:Int)/\g<18446744073709551616/\(g=18446744073709551615\/((r2*18446744073709551616+r1)*18446744073709551616+r0)/(d1*18446744073709551616+d0)<=g):=by
 by_cases Y:d1<=r2
 ·refine⟨18446744073709551615,.done ?_,by omega,.inl rfl⟩;show kin _ _ _ _ _=_;unfold kin;rw[condT (by rw[qbw];omega)];rfl
 ·have A:r2<d1:=by omega
  have H:(r2*18446744073709551616+r1)/d1<18446744073709551616:=by
   rw[Nat.div_lt_iff_lt_mul y];have:(r2+1)*18446744073709551616<=d1*18446744073709551616:=Nat.mul_le_mul_right _ A;omega
  have Z:=Nat.mod_lt (r2*18446744073709551616+r1) y
  have first:((r2*18446744073709551616+r1)*18446744073709551616+r0)/(d1*18446744073709551616+d0)<=(r2*18446744073709551616+r1)/d1:=by
   rw[Nat.le_div_iff_mul_le y];have I:=Nat.div_mul_le_self ((r2*18446744073709551616+r1)*18446744073709551616+r0) (d1*18446744073709551616+d0);rw[kn_mul (v:=d1*18446744073709551616+d0) rfl]at I
   have K:((r2*18446744073709551616+r1)*18446744073709551616+r0)/(d1*18446744073709551616+d0)*d1*18446744073709551616<(r2*18446744073709551616+r1+1)*18446744073709551616:=by
    rw[Nat.add_mul _ 1];omega
   have:=Nat.lt_of_mul_lt_mul_right K;omega
  obtain⟨g,Q,U,V⟩:=kxj h1 y h0 F ((r2*18446744073709551616+r1)/d1) ((r2*18446744073709551616+r1)%d1) (by rw[Nat.mul_comm];exact Nat.div_add_mod _ _) H (by omega) first
  refine⟨g,.next ?_ Q,U,.inr V⟩;show kin _ _ _ _ _=_;unfold kin;rw[condF (by rw[qbv];omega),kwi h1 C A,qbt]
theorem kmy{s:Nat}(y:s<=64):2^(64-s)*2^s=18446744073709551616:=by rw[<- Nat.pow_add,show 64-s+s=64 from by omega]
theorem k7u{s:Nat}(y:s<=64)(t:List Nat):num B t%2^s=t.getD 0 0%2^s:=by
 cases t with
 | nil=>rfl
 | cons x t =>
  show(x+B*num B t)%2^s=x%2^s
  have e:B*num B t=2^s*(2^(64-s)*num B t):=by
   rw[<- Nat.mul_assoc,Nat.mul_comm (2^s),kmy y]
  rw[e,Nat.add_mul_mod_self_left]
theorem k6a{s x:Nat}(y:s<=64)(t:List Nat):(x+B*num B t)/2^s=(t.getD 0 0%2^s*2^(64-s)+x/2^s)+B*(num B t/2^s):=by
 have p:0<2^s:=Nat.pow_pos (by decide);have C:=k7u y t;have A:=Nat.div_add_mod (num B t) (2^s);rw[C]at A;generalize t.getD 0 0%2^s=z at *
 generalize num B t/2^s=q at *
 have e:x+B*num B t=x+2^s*(B*q+2^(64-s)*z):=by
  rw[<- A,Nat.mul_add,Nat.mul_add,Nat.mul_left_comm B,<- Nat.mul_assoc (2^s) (2^(64-s)),Nat.mul_comm (2^s) (2^(64-s)),kmy y]
 rw[e,Nat.add_mul_div_left _ _ p,Nat.mul_comm (2^(64-s))];omega
theorem kblv{s x z:Nat}(y:s<=64)(A:x<18446744073709551616):z%2^s*2^(64-s)+x/2^s<18446744073709551616/\x/2^s<2^(64-s)/\z%2^s*2^(64-s)<18446744073709551616:=by
 have p:0<2^s:=Nat.pow_pos (by decide);have e:=kmy y;have h1:x/2^s<2^(64-s):=by rw[Nat.div_lt_iff_lt_mul p,e];exact A
 have C:=Nat.mul_le_mul_right (2^(64-s)) (Nat.mod_lt z p);rw[Nat.mul_comm (2^s),e,Nat.succ_mul]at C;generalize x/2^s=f at *
 omega
theorem kq2{q L:List Nat}{s:Nat}(Q:∀x∈L,x<B)(U:s<=63)(V:L.length<=8796093022208) :
  ∀(d i:Nat)(o:List Nat),i+d=L.length->o.length=L.length->num B (o.take i)+B^i*(num B (L.drop i)/2^s)=num B L/2^s->
   Iter kja (.p18 s q L o L.length i) (digs B (num B q),digs B (num B L/2^s))
 | 0,i,o,hi,lo,e=>by
  have hi:i=L.length:=by omega
  subst hi;refine .done ?_;show kep _ _ _ _ _ _=_;unfold kep;rw[condF (by rw[qbv];omega)];rw[List.take_of_length_le (by omega),List.drop_of_length_le (by omega)]at e;simp only[num,Nat.zero_div,Nat.mul_zero,Nat.add_zero]at e;rw[e]
 | d+1,i,o,hi,lo,e=>by
  have C:i<L.length:=by omega
  have y:i<o.length:=by omega
  have hx:L[i]<18446744073709551616:=Q L[i] (qb2 _);obtain⟨w1,w2,w3⟩:=kblv (z:=(L.drop (i+1)).getD 0 0) (show s<=64 by omega) hx;have hg:(L.drop (i+1)).getD 0 0=L.getD (i+1) 0:=by simp[List.getD]
  have A:∀w,w=(L.drop (i+1)).getD 0 0%2^s*2^(64-s)+L[i]/2^s->num B ((o.set i w).take (i+1))+B^(i+1)*(num B (L.drop (i+1))/2^s)=num B L/2^s:=by
   intro w hw;rw[qcf C]at e;simp only[num]at e;rw[k6a (by omega),<- hw]at e;rw[kds B (by simpa using y),List.getElem_set_self,List.take_set_of_le (qbp i),Nat.pow_succ,Nat.mul_assoc];rw[Nat.mul_add]at e;omega
  have X:ishr .u64 (L[i]:Int) (s:Int)=((L[i]/2^s:Nat):Int):=by rw[kcm,Nat.min_eq_left (by omega)]
  have F:L[i]/2^s<18446744073709551616:=qbs (Nat.div_le_self _ _) hx;by_cases Y:s=0
  ·subst Y;refine .next (s':=.p18 ((0:Nat):Int) q L (o.set i (L[i]/2^0)) L.length ((i+1:Nat):Int)) ?_ (kq2 Q U V d (i+1) _ (by omega) (by simpa using lo) (A _ (by rw[Nat.pow_zero,Nat.mod_one];omega)));show kep _ _ _ _ _ _=_;unfold kep;rw[condT (by rw[qbw];omega),kco C,qbt,condF (by rfl),kbi y,qbt,X,kbr F,qbt,condF (by rfl),kj (by omega)]
  by_cases H:i+1<L.length
  ·have I:L.getD (i+1) 0=L[i+1]:=kem H;rw[hg,I]at w1 w3 A;refine .next (s':=.p18 s q L (o.set i (L[i+1]%2^s*2^(64-s)+L[i]/2^s)) L.length ((i+1:Nat):Int)) ?_ (kq2 Q U V d (i+1) _ (by omega) (by simpa using lo) (A _ rfl));show kep _ _ _ _ _ _=_;unfold kep;have Z:IntKind.wrap .u64 (64-(s:Int))=((64-s:Nat):Int):=by rw[wrapU];omega
   have sl:ishl .u64 (L[i+1]:Int) ((64-s:Nat):Int)=((L[i+1]%2^s*2^(64-s):Nat):Int):=by
    rw[kmo _ _ (by omega)];congr 1;rw[<- kmy (show s<=64 by omega),Nat.mul_comm (2^(64-s)) (2^s),Nat.mul_mod_mul_right]
   have io:ior .u64 ((L[i]/2^s:Nat):Int) ((L[i+1]%2^s*2^(64-s):Nat):Int)=((L[i+1]%2^s*2^(64-s)+L[i]/2^s:Nat):Int):=by rw[k31,kts w3 w2 (by omega)]
   have K:i<(o.set i (L[i]/2^s)).length:=by simpa using y
   rw[condT (by rw[qbw];omega),kco C,qbt,condF (by rw[qbv];omega),kbi y,qbt,X,kbr F,qbt,condT (by rw[qbw];omega),kj (by omega),condT (by rw[qbw];omega),qbt,kco H,qbt,Z,condF (by rw[qbv];omega),qbt,kem K,List.getElem_set_self,sl,io,kbr w1,qbt,List.set_set]
  ·have I:L.getD (i+1) 0=0:=by simp[List.getD,List.getElem?_eq_none (Nat.le_of_not_lt H)]
   rw[hg,I]at A;refine .next (s':=.p18 s q L (o.set i (L[i]/2^s)) L.length ((i+1:Nat):Int)) ?_ (kq2 Q U V d (i+1) _ (by omega) (by simpa using lo) (A _ (by rw[Nat.zero_mod];omega)));show kep _ _ _ _ _ _=_;unfold kep;rw[condT (by rw[qbw];omega),kco C,qbt,condF (by rw[qbv];omega),kbi y,qbt,X,kbr F,qbt,condT (by rw[qbw];omega),kj (by omega),condF (by rw[qbv];omega)]
theorem cmp_ge{a b:Nat}:cmp a b>=0↔b<=a:=by
 unfold cmp;by_cases h:a<b
 ·rw[if_pos h];omega
 ·rw[if_neg h];by_cases y:a=b
  ·rw[if_pos y];omega
  ·rw[if_neg y];omega
theorem k5t{xs ys:List Nat}{lo n:Nat}(h:lo+n<=xs.length)(y:ys.length=n):setW xs lo n ys=some (xs.take lo++ys++xs.drop (lo+n)):=by
 unfold setW;rw[if_pos ⟨h,y⟩]
theorem kym{s:Int}{r d q:List Nat}{j:Nat}{res:kci}(U:∀x∈r,x<B)(Y:∀x∈d,x<B)(V:j<q.length)(Z:j+(d.length+1)<=r.length)(F:r.length<=1073741823)(H:q.length<=1073741823)(y:0<num B d)
  (K:Iter kja (.p6 s (r.take j++padD B (d.length+1) (num B ((r.drop j).take (d.length+1))%num B d)++r.drop (j+(d.length+1))) d d.length (q.set j (num B ((r.drop j).take (d.length+1))/num B d)) ((j:Int)-1)) res) :
  ∀g:Nat,g<18446744073709551616->num B ((r.drop j).take (d.length+1))/num B d<=g->Iter kja (.p10 s r d d.length q j g (j,d.length+1)) res
 | g,I,Q=>by
  have A:((r.drop j).take (d.length+1)).length=d.length+1:=by simp;omega
  have tw:∀x∈(r.drop j).take (d.length+1),x<B:=λx hx=>U x (List.mem_of_mem_drop (List.mem_of_mem_take hx));have hP:=num_lt B1 tw;rw[A]at hP
  have lg:(digs B g).length<=1:=by
   rw[kbj B2,Nat.pow_one];exact I
  by_cases C:num B d*g<=num B ((r.drop j).take (d.length+1))
  ·have X:num B ((r.drop j).take (d.length+1))/num B d=g:=Nat.le_antisymm Q (by rw[Nat.le_div_iff_mul_le y,Nat.mul_comm];exact C)
   have hm:num B ((r.drop j).take (d.length+1))-num B d*g=num B ((r.drop j).take (d.length+1))%num B d:=by
    have:=Nat.div_add_mod (num B ((r.drop j).take (d.length+1))) (num B d);rw[X]at this;omega
   rw[X]at K;refine .next ?_ K;show ki8 _ _ _ _ _ _ _ _=_;unfold ki8
   have lp:(digs B (num B d*g)).length<=d.length+1:=by
    rw[kbj B2];omega
   rw[kbr I,qbt,kq (by omega),qbt,kq (by rw[A];omega),qbt,kq (kcq B2 _),qbt,kq (kcq B2 _),qbt];dsimp only;rw[ko B2,ko B2,ko B2,condT (by rw[qbw,cmp_ge];exact C),kq (by rw[A];exact⟨by omega,lp,C⟩),qbt,A,hm,k5t (by omega) (ksy _ _ _),qbt,kbi V,qbt,qbt,wrap64 (by omega) (by omega)]
  ·obtain⟨p,rfl⟩:∃p,g=p+1:=⟨g-1,by
    rcases Nat.eq_zero_or_pos g with e | e
    ·subst e;rw[Nat.mul_zero]at C;omega
    ·omega⟩
   have aa:num B ((r.drop j).take (d.length+1))/num B d<p+1:=by
    rw[Nat.div_lt_iff_lt_mul y,Nat.mul_comm];omega
   refine .next (s':=.p10 s r d d.length q j p (j,d.length+1)) ?_ (kym U Y V Z F H y K p (by omega) (by omega));show ki8 _ _ _ _ _ _ _ _=_;unfold ki8;rw[kbr I,qbt,kq (by omega),qbt,kq (by rw[A];omega),qbt,kq (kcq B2 _),qbt,kq (kcq B2 _),qbt];dsimp only;rw[ko B2,ko B2,ko B2,condF (by rw[qbv,cmp_ge];exact C),show IntKind.wrap .u64 (((p+1:Nat):Int)-1)=(p:Int)from by rw[wrapU];omega]
termination_by g=>g
end Go.Ab
set_option maxRecDepth 10000
namespace Go.Ab
open IntKind (wrap)
open Go.Proofs Go.Num
theorem kbky{b:Nat}{zs:List Nat}{n:Nat}(h:zs.length=n+2):num b zs=num b (zs.take n)+b^n*(zs[n+1]*b+zs[n]):=by
 have e:num b zs=num b (zs.take (n+1+1)):=by rw[List.take_of_length_le (by omega)]
 rw[e,kds b (by omega),kds b (by omega),Nat.pow_succ,Nat.mul_add,Nat.mul_assoc,Nat.mul_comm b];omega
theorem kbag{b:Nat}{zs:List Nat}{n:Nat}(h:zs.length=n+3):num b zs=num b (zs.take n)+b^n*((zs[n+2]*b+zs[n+1])*b+zs[n]):=by
 have e:num b zs=num b (zs.take (n+1+1+1)):=by rw[List.take_of_length_le (by omega)]
 rw[e,kds b (by omega),kds b (by omega),kds b (by omega)];have y:b^(n+1)*zs[n+1]=b^n*(zs[n+1]*b):=by rw[Nat.pow_succ,Nat.mul_assoc,Nat.mul_comm b]
 have A:b^(n+1+1)*zs[n+1+1]=b^n*(zs[n+2]*b*b):=by rw[Nat.pow_succ,Nat.pow_succ,Nat.mul_assoc,Nat.mul_assoc,Nat.mul_comm b,Nat.mul_comm b]
 rw[y,A,Nat.add_mul,Nat.mul_add,Nat.mul_add];omega
theorem top_le{E T D p e:Nat}(F:p<E)(y:0<D):(p+E*T)/(e+E*D)<=T/D:=by
 have hE:0<E:=by omega
 have A:0<e+E*D:=by have:=Nat.mul_pos hE y;omega
 have h1:T<(T/D+1)*D:=by rw[Nat.mul_comm];exact Nat.lt_mul_div_succ T y
 have C:E*(T+1)<=E*((T/D+1)*D):=Nat.mul_le_mul_left _ h1;rw[Nat.mul_add,Nat.mul_one]at C
 have H:(p+E*T)/(e+E*D)<T/D+1:=by
  rw[Nat.div_lt_iff_lt_mul A,Nat.mul_add,Nat.mul_left_comm _ E D];omega
 omega
theorem kbkd{y P low A X C n1:Nat}(h1:n1+y*(A*18446744073709551616)*C=X)(K:n1=low+A*P):low+A*(P%y)+y*A*(P/y+18446744073709551616*C)=X:=by
 have F:=Nat.div_add_mod P y;have Q:A*P=A*(y*(P/y))+A*(P%y):=by rw[<- Nat.mul_add,F]
 have H:y*A*(P/y)=A*(y*(P/y)):=by rw[Nat.mul_comm y A,Nat.mul_assoc]
 have I:y*(A*18446744073709551616)*C=y*A*(18446744073709551616*C):=by rw[<- Nat.mul_assoc y,Nat.mul_assoc (y*A)]
 rw[Nat.mul_add,H,<- I];omega
theorem k2e{s X m k:Nat}{d:List Nat}(hs:s<=63)(H:d.length=k+2)(I:∀x∈d,x<B)(ht:Trim d)(hm:m<=536870911)(ac:k<=536870000) :
  ∀(i:Nat)(r q:List Nat),i<=m->r.length=m+(k+2)->q.length=m->(∀x∈r,x<B)->num B r+num B d*B^i*num B (q.drop i)=X->num B r<num B d*B^i->
   Iter kja (.p6 s r d d.length q ((i:Int)-1)) (digs B (X/num B d),digs B (X%num B d/2^s))
 | 0,r,q,hi,lr,lq,tr,e,lt=>by
  rw[List.drop_zero,Nat.pow_zero,Nat.mul_one]at e;rw[Nat.pow_zero,Nat.mul_one]at lt;have C:0<num B d:=by omega
  have hq:X/num B d=num B q:=by rw[<- e,Nat.add_mul_div_left _ _ C,Nat.div_eq_of_lt lt,Nat.zero_add]
  have hr:X%num B d=num B r:=by rw[<- e,Nat.add_mul_mod_self_left,Nat.mod_eq_of_lt lt]
  rw[hq,hr];have hl:=km0 tr;have key:=kq2 (q:=q) (kbu B2 (num B r)) hs (by omega) (digs B (num B r)).length 0 (List.replicate (digs B (num B r)).length 0) (by omega) (by simp) (by simp[num]);rw[ko B2]at key;refine .next ?_ key;show ki5 _ _ _ _ _ _=_;unfold ki5;rw[condF (by rw[qbv];omega),kf5 (by omega),qbt];rfl
 | j+1,r,q,hi,lr,lq,tr,e,lt=>by
  have C:0<num B d:=by
   rcases Nat.eq_zero_or_pos (num B d)with h | h
   ·rw[h,Nat.zero_mul]at lt;omega
   ·exact h
  have ad:=num_lt B1 I;rw[H]at ad;have lw:((r.drop j).take (d.length+1)).length=k+3:=by simp;omega
  have tw:∀x∈(r.drop j).take (d.length+1),x<B:=λx y=>tr x (List.mem_of_mem_drop (List.mem_of_mem_take y));have A:(r.take j).length=j:=by simp;omega
  have er:num B r=num B (r.take j)+B^j*num B ((r.drop j).take (d.length+1))+B^(j+(d.length+1))*num B (r.drop (j+(d.length+1))):=by
   have e1:num B r=num B (r.take j++((r.drop j).take (d.length+1)++(r.drop j).drop (d.length+1))):=by rw[List.take_append_drop,List.take_append_drop]
   rw[kde,kde,A,lw,List.drop_drop]at e1;have e3:j+(k+3)=j+(d.length+1):=by omega
   rw[e1,Nat.mul_add (B^j),<- Nat.mul_assoc (B^j),<- Nat.pow_add,e3];omega
  have K:=num_lt (b:=B) B1 (xs:=r.take j) λx y=>tr x (List.mem_of_mem_take y);rw[A]at K
  have F:num B (r.drop (j+(d.length+1)))=0:=by
   rcases Nat.eq_zero_or_pos (num B (r.drop (j+(d.length+1))))with h | h
   ·exact h
   ·exfalso;have h1:B^(j+(d.length+1))*1<=B^(j+(d.length+1))*num B (r.drop (j+(d.length+1))):=Nat.mul_le_mul_left _ h;have h2:num B d*B^(j+1)<=B^(k+2)*B^(j+1):=Nat.mul_le_mul_right _ (by omega);rw[<- Nat.pow_add,show k+2+(j+1)=j+(d.length+1)from by omega]at h2;omega
  rw[F,Nat.mul_zero,Nat.add_zero]at er
  have hP:num B ((r.drop j).take (d.length+1))<num B d*B:=by
   have h1:B^j*num B ((r.drop j).take (d.length+1))<B^j*(num B d*B):=by
    have:num B d*B^(j+1)=B^j*(num B d*B):=by rw[Nat.pow_succ,Nat.mul_left_comm]
    omega
   exact Nat.lt_of_mul_lt_mul_left h1
  have hq:num B ((r.drop j).take (d.length+1))/num B d<18446744073709551616:=by
   rw[Nat.div_lt_iff_lt_mul C,Nat.mul_comm];exact hP
  have i2:j+(k+2)<r.length:=by omega
  have i1:j+(k+1)<r.length:=by omega
  have i0:j+k<r.length:=by omega
  have g2:((r.drop j).take (d.length+1))[k+2]=r[j+(k+2)]:=by simp
  have g1:((r.drop j).take (d.length+1))[k+1]=r[j+(k+1)]:=by simp
  have g0:((r.drop j).take (d.length+1))[k]=r[j+k]:=by simp
  have Q:=kbag (b:=B) lw;rw[g2,g1,g0]at Q;have U:=kbky (b:=B) H
  have V:0<d[k+1]:=by
   have ae:d≠[]:=by intro h;rw[h]at H;simp at H
   have:=ht ae;rw[List.getLast_eq_getElem]at this;have e:d.length-1=k+1:=by omega
   simp only[e]at this;omega
  have af:(((r.drop j).take (d.length+1)).take k).length=k:=by simp;omega
  have Y:=num_lt (b:=B) B1 (xs:=((r.drop j).take (d.length+1)).take k) λx y=>tw x (List.mem_of_mem_take y);rw[af]at Y;have tl:=top_le (E:=B^k) (T:=(r[j+(k+2)]*B+r[j+(k+1)])*B+r[j+k]) (D:=d[k+1]*B+d[k]) (e:=num B (d.take k)) Y (by have:1*B<=d[k+1]*B:=Nat.mul_le_mul_right _ V;have:=B0;omega);rw[<- Q,<- U]at tl;obtain⟨g,ag,ah,ai⟩:=kbie (r2:=r[j+(k+2)]) (r1:=r[j+(k+1)]) (r0:=r[j+k]) (d1:=d[k+1]) (d0:=d[k]) (tr _ (qb2 _)) (tr _ (qb2 _)) (tr _ (qb2 _)) (I _ (qb2 _)) V (I _ (qb2 _))
  have aj:num B ((r.drop j).take (d.length+1))/num B d<=g:=by
   rcases ai with h | h
   ·omega
   ·exact qbq tl h
  have Z:=Nat.mod_lt (num B ((r.drop j).take (d.length+1))) C
  have ak:num B (padD B (d.length+1) (num B ((r.drop j).take (d.length+1))%num B d))=num B ((r.drop j).take (d.length+1))%num B d:=by
   refine kxi B0 _ _ ?_;have:B^(k+2)<=B^(d.length+1):=Nat.pow_le_pow_right B1 (by omega);omega
  have nr:num B (r.take j++padD B (d.length+1) (num B ((r.drop j).take (d.length+1))%num B d)++r.drop (j+(d.length+1)))=num B (r.take j)+B^j*(num B ((r.drop j).take (d.length+1))%num B d):=by
   rw[kde,kde,F,Nat.mul_zero,Nat.add_zero,A,ak]
  have aa:j<q.length:=by omega
  have IH:=k2e (s:=s) (X:=X) hs H I ht hm ac j (r.take j++padD B (d.length+1) (num B ((r.drop j).take (d.length+1))%num B d)++r.drop (j+(d.length+1))) (q.set j (num B ((r.drop j).take (d.length+1))/num B d)) (by omega) (by simp[ksy];omega) (by simpa using lq) (by
    intro x y;rcases qb4.1 y with y | y
    ·rcases qb4.1 y with y | y
     ·exact tr x (List.mem_of_mem_take y)
     ·exact k0u B0 _ _ x y
    ·exact tr x (List.mem_of_mem_drop y)) (by
    rw[nr,kub aa];simp only[num];rw[Nat.pow_succ]at e;exact kbkd e er) (by
    rw[nr];have:B^j*(num B ((r.drop j).take (d.length+1))%num B d+1)<=B^j*num B d:=Nat.mul_le_mul_left _ Z;rw[Nat.mul_add,Nat.mul_one,Nat.mul_comm _ (num B d)]at this;omega)
  refine .next (s':=.p10 s r d d.length q j g (j,d.length+1)) ?_ (kym tr I aa (by omega) (by omega) (by omega) C IH g ah aj);show ki5 _ _ _ _ _ _=_;unfold ki5;have w0:wrap .i64 ((j:Int)+(d.length:Int))=((j+(k+2):Nat):Int):=by rw[wrap64 (by omega) (by omega)];omega
  rw[condT (by rw[qbw];omega),show((j+1:Nat):Int)-1=(j:Int)from by omega,w0];rw[show wrap .i64 (((j+(k+2):Nat):Int)-1)=((j+(k+1):Nat):Int)from by rw[wrap64 (by omega) (by omega)];omega];rw[show wrap .i64 (((j+(k+2):Nat):Int)-2)=((j+k:Nat):Int)from by rw[wrap64 (by omega) (by omega)];omega];rw[show wrap .i64 ((d.length:Int)-1)=((k+1:Nat):Int)from by rw[wrap64 (by omega) (by omega)];omega];rw[show wrap .i64 ((d.length:Int)-2)=(k:Int)from by rw[wrap64 (by omega) (by omega)];omega];rw[show wrap .i64 (((j+(k+2):Nat):Int)+1)=((j+(d.length+1):Nat):Int)from by rw[wrap64 (by omega) (by omega)];omega];rw[kbi i2,qbt,kbi i1,qbt,kbi i0,qbt,kco (by omega),qbt,kco (by omega),qbt,kem i2,kem i1,kem i0,kmv ag,qbt,k36 (by omega) (by omega),qbt]
end Go.Ab
set_option maxRecDepth 10000
namespace Go.Ab
open Go.Proofs Go.Num
theorem k9p{xs ys:List Nat}(lx:∀x∈xs,x<B)(Q:∀x∈ys,x<B)(ty:Trim ys)(hy:2<=ys.length)(ah:xs.length<=64)(ai:ys.length<=xs.length) :
  Iter kja (.fn xs ys) (digs B (num B xs/num B ys),digs B (num B xs%num B ys)):=by
 obtain⟨k,hk⟩:∃k,ys.length=k+2:=⟨ys.length-2,by omega⟩;have y:k+1<ys.length:=by omega
 have U:0<ys[k+1]:=by
  have V:ys≠[]:=by intro h;rw[h]at hk;simp at hk
  have:=ty V;rw[List.getLast_eq_getElem]at this;have e:ys.length-1=k+1:=by omega
  simp only[e]at this;omega
 have Y:ys[k+1]<18446744073709551616:=Q _ (qb2 _);obtain⟨Z,aa,ac⟩:=kv9 Y U;obtain⟨r,ad,lr,tr,vr⟩:=ky6 (n:=64-bl ys[k+1]) lx Z (by omega);obtain⟨p,ae,lp,tp,H⟩:=ky6 (n:=64-bl ys[k+1]) Q Z (by omega);have A:64-bl ys[k+1]<=63:=Z;generalize af:64-bl ys[k+1]=s at *
 have ps:0<2^s:=Nat.pow_pos (by decide);have C:=kmy (show s<=64 by omega)
 have aj:num B ys=num B (ys.take (k+1))+B^(k+1)*ys[k+1]:=by
  have:num B ys=num B (ys.take (k+1+1)):=by rw[List.take_of_length_le (by omega)]
  rw[this,kds B y]
 have F:=num_lt (b:=B) B1 (xs:=ys.take (k+1)) λx hx=>Q x (List.mem_of_mem_take hx);have ag:(ys.take (k+1)).length=k+1:=by simp;omega
 rw[ag]at F
 have y1:ys[k+1]+1<=2^(64-s):=by
  have:ys[k+1]<2^(64-s):=Nat.lt_of_mul_lt_mul_right (a:=2^s) (by rw[C];exact ac);omega
 have up:num B ys*2^s<B^(k+2):=by
  have h1:num B ys<B^(k+1)*(ys[k+1]+1):=by rw[Nat.mul_add,Nat.mul_one];omega
  have I:B^(k+1)*(ys[k+1]+1)<=B^(k+1)*2^(64-s):=Nat.mul_le_mul_left _ y1;have K:num B ys*2^s<B^(k+1)*2^(64-s)*2^s:=Nat.mul_lt_mul_of_pos_right (by omega) ps;rw[Nat.mul_assoc,C]at K;exact K
 have lo:B^(k+1)*9223372036854775808<=num B ys*2^s:=by
  have h1:B^(k+1)*ys[k+1]<=num B ys:=by omega
  have I:=Nat.mul_le_mul_right (2^s) h1;rw[Nat.mul_assoc]at I;exact qbq (Nat.mul_le_mul_left _ aa) I
 have ld:(digs B (num B p)).length=k+2:=by
  rw[H];refine Nat.le_antisymm ((kbj B2 _ _).2 up) ?_;rcases Nat.lt_or_ge (digs B (num B ys*2^s)).length (k+2)with h | h
  ·have:=(kbj B2 (num B ys*2^s) (k+1)).1 (by omega);omega
  ·exact h
 have hX:num B r<num B p*B^(xs.length+1-(k+2)):=by
  rw[vr,H];have h1:num B xs*2^s<B^xs.length*2^s:=Nat.mul_lt_mul_of_pos_right (num_lt B1 lx) ps;have I:B^xs.length*2^s<=B^xs.length*9223372036854775808:=Nat.mul_le_mul_left _ (show 2^s<=2^63 from Nat.pow_le_pow_right (by decide) A);have K:=Nat.mul_le_mul_right (B^(xs.length+1-(k+2))) lo;rw[Nat.mul_right_comm,<- Nat.pow_add,show k+1+(xs.length+1-(k+2))=xs.length from by omega]at K;omega
 have key:=k2e (s:=s) (X:=num B xs*2^s) (m:=xs.length+1-(k+2)) (k:=k) (d:=digs B (num B p)) A ld (kbu B2 _) (kcq B2 _) (by omega) (by omega) (xs.length+1-(k+2)) r (List.replicate (xs.length+1-(k+2)) 0) (qbp _) (by rw[lr];omega) (by simp) tr (by simp[num,vr]) (by rw[ko B2];exact hX);rw[ko B2,H,Nat.mul_div_mul_right _ _ ps,Nat.mul_mod_mul_right,Nat.mul_div_cancel _ ps]at key;refine .next ?_ key;show kk7 _ _=_;unfold kk7;have w1:IntKind.wrap .i64 ((ys.length:Int)-1)=((k+1:Nat):Int):=by rw[wrap64 (by omega) (by omega)];omega
 have w2:IntKind.wrap .u64 ((s:Nat):Int)=(s:Int):=kct (by omega);have w3:IntKind.wrap .i64 ((r.length:Int)-((digs B (num B p)).length:Int))=((xs.length+1-(k+2):Nat):Int):=by rw[lr,ld,wrap64 (by omega) (by omega)];omega
 rw[w1,kco y,qbt,kq (by omega),qbt,Int.toNat_natCast,af,w2,kmv ad,qbt,kmv ae,qbt,w3,kf5 (by omega),qbt,<- H,qb7,wrap64 (by omega) (by omega)]
theorem kbj8{h:AH}{s t:Sl}{xs ys:List Nat}(n:Nats h s xs)(m:Nats h t ys)(ty:Trim ys)(C:2<=ys.length)(y:xs.length<=64)(A:ys.length<=xs.length) :
  ∃(a b:Sl)(h':AH),go (.fn kce [s.v,t.v]) h=some (.tup [a.v,b.v],h')/\Nats h' a (digs B (num B xs/num B ys))/\Nats h' b (digs B (num B xs%num B ys))/\Grow h h'/\Own h a/\Own h b:=by
 obtain⟨_,h',e,a,b,rfl,k⟩:=k8s (k9p n.lt m.lt ty C y A) n m;exact⟨a,b,h',e,k⟩
theorem kbb5{h:AH}{i:Nat}{a b:Sl}{xs ys:List Nat}(c:h.has i [a.v,b.v] kcz)(n:Nats h a xs)(m:Nats h b ys):go (.fn kg7 [(⟨some (.new i 0),2,.is 2⟩:Sl).v]) h=some (.bool (rt xs&&rt ys),h):=by
 have r:Rows h ⟨some (.new i 0),2,.is 2⟩ [(a,xs),(b,ys)]:=⟨qr c rfl,λp y=>by
  simp at y;rcases y with rfl | rfl
  ·exact n
  ·exact m,by simp⟩
 rw[kme r];simp
theorem kbc2{h:AH}{s:Sl}{xs:List Nat}(n:Nats h s xs)(d:Int)(c:0<d/\d<18446744073709551616/\xs.length<=8796093022208):∃(s':Sl)(h':AH),go (.fn kfm [s.v,.int .u64 d]) h=some (.tup [s'.v,.int .u64 ((num B xs%d.toNat:Nat):Int)],h')/\Nats h' s' (digs B (num B xs/d.toNat))/\Grow h h'/\Own h s':=by
 obtain⟨x,rfl⟩:∃x:Nat,d=(x:Int):=⟨d.toNat,by omega⟩;rw[Int.toNat_natCast];exact kbj1 n (show x<18446744073709551616 by omega) (by omega) c.2.2
theorem Nats.of_has1{h:AH}{i:Nat}{e:TypeId}{v:Int}{x:Nat}(b:h.has i [.int .u64 v] e)(z:u64P v=some x):Nats h ⟨some (.new i 0),1,.is 1⟩ [x]:=by
 obtain⟨rfl,y⟩:=kmw z;exact Nats.of_has (xs:=[x]) b (by simpa using y) (by simp)
theorem kto{h:AH}{s:Sl}{xs:List Nat}(n:Nats h s xs):kbh Pg kg s.v h=some (xs.map u64,xs.length):=by
 have c:=n.cells;rw[<- klc]at c;rw[kkj c,n.len]
theorem k7q{h h0:AH}{i:Nat}{e:TypeId}{v:Int}{x:Nat}{s:Sl}{xs:List Nat}(b:h.has i [.int .u64 v] e)(z:u64P v=some x)(n:Nats h s xs)(I:Grow h0 h)(hi:h0.blks.size<=i)(F:xs.length<=1073741824) :
  ∃(s':Sl)(h':AH),kv Pg (⟨some (.new i 0),1,.is 1⟩:Sl) (xs.map u64) xs.length kg 1 h=some (s'.v,h')/\Nats h' s' (x::xs)/\Grow h h'/\Own h0 s':=by
 have n1:=Nats.of_has1 b z;obtain⟨rfl,H⟩:=kmw z;cases xs with
 | nil =>
  obtain⟨s',K,c,o⟩:=kr9 (P:=Pg) (elem:=kg) (m:=1) (by omega) n1.cells;exact⟨s',h,K,⟨c,by simpa using H,by simp⟩,ql h,o h0 λr C=>by cases C;exact⟨_,_,rfl,hi⟩⟩
 | cons y ys =>
  refine⟨_,_,kfj (c:=1) rfl (by simp) (kln (by simp at F|-;omega)) n1.cells,⟨⟨rfl,by simp;omega,λk w A=>⟨_,rfl,?_⟩⟩,?_,?_⟩,qm _ _,λr C=>?_⟩
  ·have:=AH.cell_push h ([u64 x]++(y::ys).map u64) kg k;rw[qj,Nat.zero_add];rw[List.map_cons,List.map_nil];rw[this]
   simpa using A
  ·intro w A;rcases qb5.1 A with rfl | A
   ·exact H
   ·exact n.lt w A
  ·have:=n.short;simp at F|-;omega
  ·cases C;exact⟨_,_,rfl,I.size⟩
end Go.Ab
set_option maxRecDepth 10000
namespace Go.Ab
open IntKind (wrap)
open Go.Proofs Go.Num
inductive kji
 | fn (x1:List Nat) (x2:List Nat)
 | no
abbrev kht:=List Nat×List Nat×Int
noncomputable def kmi(x1 x2:List Nat):Option (kji⊕kht) :=
 cond (!((rt x1&&rt x2))) (some (.inr ([],[],1))) (cond (decide ((List.length x2:Int)=0)) (some (.inr ([],[],3))) ((need (Trim x1)).bind λQ=>(need (Trim x2)).bind λU=>cond (decide ((cmp (num B x1) (num B x2))<0)) ((need (List.length x1<=8796093022208)).bind λV=>some (.inr ([],x1,0))) (cond (decide ((List.length x2:Int)=1)) ((atI x2 0).bind λy=>(need (0<((y:Int))/\((y:Int))<18446744073709551616/\List.length x1<=8796093022208)).bind λA=>(u64P (((num B x1%Int.toNat ((y:Int)):Nat):Int))).bind λC=>some (.inr (digs B (num B x1/Int.toNat ((y:Int))),digs B C,0))) ((need (Trim x2)).bind λF=>(need (2<=List.length x2)).bind λH=>(need (List.length x1<=64)).bind λI=>(need (List.length x2<=List.length x1)).bind λK=>some (.inr (digs B (num B x1/num B x2),digs B (num B x1%num B x2),0))))))
noncomputable def kzp:kji->Option (kji⊕kht)
 | .fn x1 x2=>kmi x1 x2
 | .no=>none
@[reducible] def kbi6(h0:AH)(r:kht)(v:AV)(h':AH):Prop:=∃s1:Sl,∃s2:Sl,v=.tup [s1.v,s2.v,.i r.2.2]/\Nats h' s1 r.1/\Nats h' s2 r.2.1/\Grow h0 h'/\Own h0 s1/\Own h0 s2
def kse(r:kht):kji->Prop
 | .fn x1 x2=>∀{h:AH}{a1:Sl}{a2:Sl},Nats h a1 x1->Nats h a2 x2->Runs (go (.fn kif [a1.v,a2.v]) h) (kbi6 h r)
 | .no=>True
theorem kbhj{r:kht}{o:kji⊕kht}{x1 x2:List Nat}(e:kmi x1 x2=some o)(A:GoodS (kse r) r o):kse r (.fn x1 x2):=by
 intro h a1 a2 n1 Q;rw[kbfz];unfold kmi at e;rw[Q.len];refine q0 λH3 b3 y=>?_;refine qz (kbb5 b3 (n1.grow y) (Q.grow y)) (qz (seen rfl) ?_);refine qbd (λk5=>?_) (λk5=>?_)
 ·replace e:=(condT k5).symm.trans e;cases e;cases A;exact qy ⟨(⟨none,0,.is 0⟩:Sl),(⟨none,0,.is 0⟩:Sl),rfl,(qw _),(qw _),y,(qu _),(qu _)⟩
 ·replace e:=(condF k5).symm.trans e;refine qbd (λk6=>?_) (λk6=>?_)
  ·replace e:=(condT k6).symm.trans e;cases e;cases A;exact qy ⟨(⟨none,0,.is 0⟩:Sl),(⟨none,0,.is 0⟩:Sl),rfl,(qw _),(qw _),y,(qu _),(qu _)⟩
  ·replace e:=(condF k6).symm.trans e;obtain⟨U,be,e⟩:=qbu.1 e;obtain⟨V,bf,e⟩:=qbu.1 e;refine qz (kpb (n1.grow y) (Q.grow y)  U.down V.down) (qz (seen qcn) ?_);refine qbd (λk8=>?_) (λk8=>?_)
   ·replace e:=(condT k8).symm.trans e;obtain⟨X,bg,e⟩:=qbu.1 e;obtain⟨s9,H9,e9,n9,g9,o9⟩:=knk (n1.grow y)  X.down;refine qz e9 (qz (seen qcm) ?_);cases e;cases A;exact qy ⟨(⟨none,0,.is 0⟩:Sl),s9,rfl,(qw _),n9,(y.trans g9),(qu _),(o9.of_le y)⟩
   ·replace e:=(condF k8).symm.trans e;refine qbd (λk9=>?_) (λk9=>?_)
    ·replace e:=(condT k9).symm.trans e;obtain⟨ae,af,e⟩:=qbu.1 e;obtain⟨bh,ag,ah⟩:=(Q.grow y).atI af;refine qz ag (qz (rdc ah qcn) ?_);obtain⟨C,ai,e⟩:=qbu.1 e;obtain⟨aj,bi,ak,al,Y,am⟩:=kbc2 (n1.grow y) ((ae:Int))  C.down;refine qz ak (qz rfl (qz (seen qcm) (qz (seen qcn) ?_)));obtain⟨bj,an,e⟩:=qbu.1 e;obtain⟨ap,bk,aq,ar,Z,au⟩:=kpm an;refine qz aq (qz (seen qcm) ?_);cases e;cases A;exact qy ⟨aj,ap,rfl,(al.grow Z),ar,((y.trans Y).trans Z),(am.of_le y),(au.of_le (y.trans Y))⟩
    ·replace e:=(condF k9).symm.trans e;obtain⟨F,aw,e⟩:=qbu.1 e;obtain⟨H,ax,e⟩:=qbu.1 e;obtain⟨I,ay,e⟩:=qbu.1 e;obtain⟨K,az,e⟩:=qbu.1 e;obtain⟨a0,aa,bm,ba,bb,ac,bc,bd,ad⟩:=kbj8 (n1.grow y) (Q.grow y)  F.down H.down I.down K.down;refine qz ba (qz rfl (qz (seen qcm) (qz (seen qcm) ?_)));cases e;cases A;exact qy ⟨a0,aa,rfl,bb,ac,(y.trans bc),(bd.of_le y),(ad.of_le y)⟩
theorem kbgc{s:kji}{r:kht}(A:Iter kzp s r):kse r s:=qbg (λs o e y=>by
 cases s with
 | fn x1 x2=>exact @kbhj _ _ x1 x2 e y
 | no=>exact True.intro
 ) A
inductive ket
 | fn (x1:List Nat) (x2:List Nat)
 | p4 (x1:List Nat) (x2:List Nat) (x3:List Nat) (x4:List Nat) (a5:Int)
 | p9 (x1:List Nat) (x2:List Nat) (x3:List Nat) (x4:List Nat) (a5:Int) (a6:Int) (a7:Int)
abbrev kc5:=List Nat×List Nat
noncomputable def km7(x1 x2:List Nat):Option (ket⊕kc5) :=
 (mkI (List.length x1:Int) (List.length x1:Int)).bind λy=>some (.inl (.p4 x1 x2 (List.replicate y 0) [] (wrap .i64 ((List.length x1:Int)-1))))
noncomputable def khw(x1 x2 x3 x4:List Nat)(a5:Int):Option (ket⊕kc5) :=
 cond (decide (a5>=0)) ((atI x1 a5).bind λF=>(u64P ((F:Int))).bind λy=>(need (List.length x4<=1073741824)).bind λH=>(need (∀x∈(y::x4),x<D)).bind λA=>some (.inl (.p9 x1 x2 x3 (digs D (num D (y::x4))) a5 0 65535))) ((need (∀x∈x3,x<D)).bind λC=>some (.inr (digs D (num D x3),x4)))
noncomputable def khs(x1 x2 x3 x4:List Nat)(a5 a6 a7:Int):Option (ket⊕kc5) :=
 cond (decide (a6<a7)) ((u64P (wrap .u64 (Int.tdiv (wrap .u64 ((wrap .u64 (a6+a7))+1)) 2))).bind λy=>(need (∀x∈x2,x<D)).bind λC=>(need (∀x∈[y],x<D)).bind λF=>(need (List.length x2+List.length [y]<=8796093022208)).bind λH=>(need (∀x∈(digs D (num D x2*num D [y])),x<D)).bind λI=>(need (∀x∈x4,x<D)).bind λK=>(need (Trim (digs D (num D x2*num D [y])))).bind λQ=>(need (Trim x4)).bind λU=>cond (decide ((cmp (num D (digs D (num D x2*num D [y]))) (num D x4))<=0)) (some (.inl (.p9 x1 x2 x3 x4 a5 (wrap .u64 (Int.tdiv (wrap .u64 ((wrap .u64 (a6+a7))+1)) 2)) a7))) (some (.inl (.p9 x1 x2 x3 x4 a5 a6 (wrap .u64 ((wrap .u64 (Int.tdiv (wrap .u64 ((wrap .u64 (a6+a7))+1)) 2))-1)))))) ((inI (List.length x3) a5).bind λj9=>(u64P a6).bind λy=>(u64P a6).bind λA=>(need (∀x∈x2,x<D)).bind λV=>(need (∀x∈[A],x<D)).bind λX=>(need (List.length x2+List.length [A]<=8796093022208)).bind λY=>(need (∀x∈x4,x<D)).bind λZ=>(need (∀x∈(digs D (num D x2*num D [A])),x<D)).bind λaa=>(need (List.length x4<=1073741824)).bind λac=>(need (List.length (digs D (num D x2*num D [A]))<=List.length x4)).bind λad=>(need (num D (digs D (num D x2*num D [A]))<=num D x4)).bind λae=>some (.inl (.p4 x1 x2 (List.set x3 j9 y) (digs D (num D x4-num D (digs D (num D x2*num D [A])))) (wrap .i64 (a5-1)))))
noncomputable def kjf:ket->Option (ket⊕kc5)
 | .fn x1 x2=>km7 x1 x2
 | .p4 x1 x2 x3 x4 a5=>khw x1 x2 x3 x4 a5
 | .p9 x1 x2 x3 x4 a5 a6 a7=>khs x1 x2 x3 x4 a5 a6 a7
@[reducible] def kt0(h0:AH)(r:kc5)(v:AV)(h':AH):Prop:=∃s1:Sl,∃s2:Sl,v=.tup [s1.v,s2.v]/\Nats h' s1 r.1/\Nats h' s2 r.2/\Grow h0 h'/\Own h0 s1/\Own h0 s2
def kid(r:kc5):ket->Prop
 | .fn x1 x2=>∀{h:AH}{a1:Sl}{a2:Sl},Nats h a1 x1->Nats h a2 x2->Runs (go (.fn kdr [a1.v,a2.v]) h) (kt0 h r)
 | .p4 x1 x2 x3 x4 a5=>∀{h0 h:AH}{a1:Sl}{a2:Sl}{a3:Sl}{a4:Sl}{y:Nat},Grow h0 h->Nats h a1 x1->Nats h a2 x2->Vec h a3 y x3->Nats h a4 x4->h0.blks.size<=y->Av a1 y x1->Av a2 y x2->Av a4 y x4->Own h0 a4->Runs (go (.pt kdr kre [(0,a1.v),(1,a2.v),(6,a3.v),(7,a4.v),(8,.i a5)]) h) (kt0 h0 r)
 | .p9 x1 x2 x3 x4 a5 a6 a7=>∀{h0 h:AH}{a1:Sl}{a2:Sl}{a3:Sl}{a4:Sl}{y:Nat},Grow h0 h->Nats h a1 x1->Nats h a2 x2->Vec h a3 y x3->Nats h a4 x4->h0.blks.size<=y->Av a1 y x1->Av a2 y x2->Av a4 y x4->Own h0 a4->Runs (go (.pt kdr klf [(0,a1.v),(1,a2.v),(6,a3.v),(7,a4.v),(8,.i a5),(9,.int .u64 a6),(10,.int .u64 a7)]) h) (kt0 h0 r)
theorem k5p{r:kc5}{o:ket⊕kc5}{x1 x2:List Nat}(e:km7 x1 x2=some o)(y:GoodS (kid r) r o):kid r (.fn x1 x2):=by
 intro h a1 a2 n1 C;rw[kbhq];unfold km7 at e;rw[n1.len];obtain⟨I,F,e⟩:=qbu.1 e;refine Runs.mk F kei λs3 K H A=>?_;cases e;exact y A (n1.grow A) (C.grow A) H (qw _) (qbp _) (qbi n1 (qbp _)) (qbi C (qbp _)) (Av.nil _ _) (qu _)
theorem kba1{r:kc5}{o:ket⊕kc5}{x1 x2 x3 x4:List Nat}{a5:Int}(e:khw x1 x2 x3 x4 a5=some o)(y:GoodS (kid r) r o):kid r (.p4 x1 x2 x3 x4 a5):=by
 intro h0 h a1 a2 a3 a4 i3 X n1 n2 U Y I A C Z aa;rw[kbh0];unfold khw at e;rw[n1.len];refine qbd (λk6=>?_) (λk6=>?_)
 ·replace e:=(condT k6).symm.trans e;obtain⟨y7,q7,e⟩:=qbu.1 e;obtain⟨r7,j7,l7⟩:=n1.atI q7;refine qz j7 (qz (rdc l7 qcn) ?_);refine q0 λH8 b8 F=>?_;refine qz (kto (Y.grow F)) ?_;obtain⟨ah,ac,e⟩:=qbu.1 e;obtain⟨c9,q9,e⟩:=qbu.1 e;obtain⟨s9,H9,e9,n9,V,o9⟩:=k7q b8 ac (Y.grow F) F (qbp _) c9.down;refine qz e9 (qz qcm ?_);obtain⟨H,ad,e⟩:=qbu.1 e;obtain⟨ai,ae,af,K⟩:=kke n9  H.down;refine qz ae (qz (seen qcm) ?_);cases e;exact y ((X.trans F).trans V) (n1.grow (F.trans V)) (n2.grow (F.trans V)) (U.grow (F.trans V)) af I A C (qbj (K _ o9) (U).inn) ((K _ o9).of_le X)
 ·replace e:=(condF k6).symm.trans e;obtain⟨Q,ag,e⟩:=qbu.1 e;obtain⟨s7,e7,n7,o7⟩:=kke U.nats  Q.down;refine qz e7 (qz (seen qcm) ?_);cases e;cases y;exact qy ⟨s7,a4,rfl,n7,Y,X,((o7 _ (U.own I)).of_le (ql _)),(aa.of_le (ql _))⟩
theorem k6m{r:kc5}{o:ket⊕kc5}{x1 x2 x3 x4:List Nat}{a5 a6 a7:Int}(e:khs x1 x2 x3 x4 a5 a6 a7=some o)(K:GoodS (kid r) r o):kid r (.p9 x1 x2 x3 x4 a5 a6 a7):=by
 intro h0 h a1 a2 a3 a4 i3 g0 n1 n2 v3 n4 Q A C F aw;rw[kbj4];unfold khs at e;rw[v3.nats.len];refine qbd (λk8=>?_) (λk8=>?_)
 ·replace e:=(condT k8).symm.trans e;refine q0 λH9 b9 I=>?_;obtain⟨az,Y,e⟩:=qbu.1 e;obtain⟨Z,a0,e⟩:=qbu.1 e;obtain⟨aa,ba,e⟩:=qbu.1 e;obtain⟨ac,bb,e⟩:=qbu.1 e;obtain⟨b1,bc,bd,be,y,b2⟩:=kvg (n2.grow I) (Nats.of_has1 b9 Y)  Z.down aa.down ac.down;refine qz bd (qz (seen qcm) ?_);obtain⟨ad,bf,e⟩:=qbu.1 e;obtain⟨ae,bg,e⟩:=qbu.1 e;obtain⟨af,bh,e⟩:=qbu.1 e;obtain⟨ag,bi,e⟩:=qbu.1 e;refine qz (kur be (n4.grow (I.trans y))  ad.down ae.down af.down ag.down) (qz (seen qcn) ?_);refine qbd (λah=>?_) (λah=>?_)
  ·replace e:=(condT ah).symm.trans e;cases e;exact K ((g0.trans I).trans y) (n1.grow (I.trans y)) (n2.grow (I.trans y)) (v3.grow (I.trans y)) (n4.grow (I.trans y)) Q A C F (aw.of_le (ql _))
  ·replace e:=(condF ah).symm.trans e;cases e;exact K ((g0.trans I).trans y) (n1.grow (I.trans y)) (n2.grow (I.trans y)) (v3.grow (I.trans y)) (n4.grow (I.trans y)) Q A C F (aw.of_le (ql _))
 ·replace e:=(condF k8).symm.trans e;obtain⟨j9,q9,e⟩:=qbu.1 e;refine qz (v3.idx rfl q9) ?_;obtain⟨az,Y,e⟩:=qbu.1 e;refine qbh v3 rfl q9 Y λb3 ax U=>?_;have ai:=n1.upda A U;have V:=n2.upda C U;have aj:=n4.upda F U;refine q0 λbc bj y=>?_;obtain⟨b4,bk,e⟩:=qbu.1 e;obtain⟨ak,bm,e⟩:=qbu.1 e;obtain⟨al,bn,e⟩:=qbu.1 e;obtain⟨am,bp,e⟩:=qbu.1 e;obtain⟨b5,b6,bq,br,H,b7⟩:=kvg (V.grow y) (Nats.of_has1 bj bk)  ak.down al.down am.down;refine qz bq (qz (seen qcm) ?_);obtain⟨an,bt,e⟩:=qbu.1 e;obtain⟨ap,bu,e⟩:=qbu.1 e;obtain⟨aq,bv,e⟩:=qbu.1 e;obtain⟨ar,bw,e⟩:=qbu.1 e;obtain⟨au,bx,e⟩:=qbu.1 e;obtain⟨b8,ca,bz,b0,X,ay⟩:=kxc (aj.grow (y.trans H)) br  an.down ap.down aq.down ar.down au.down;refine qz bz (qz (seen qcm) ?_);cases e;exact K ((((g0.updr Q U).trans y).trans H).trans X) (ai.grow ((y.trans H).trans X)) (V.grow ((y.trans H).trans X)) (ax.grow ((y.trans H).trans X)) b0 Q A C (qbj ay ((ax.grow (y.trans H))).inn) (ay.of_le (((g0.updr Q U).trans y).trans H))
theorem kbdk{s:ket}{r:kc5}(A:Iter kjf s r):kid r s:=qbg (λs o e y=>by
 cases s with
 | fn x1 x2=>exact @k5p _ _ x1 x2 e y
 | p4 x1 x2 x3 x4 a5=>exact @kba1 _ _ x1 x2 x3 x4 a5 e y
 | p9 x1 x2 x3 x4 a5 a6 a7=>exact @k6m _ _ x1 x2 x3 x4 a5 a6 a7 e y
 ) A
def divN(xs ys:List Nat):List Nat×List Nat×Int :=
 if rt xs=true/\rt ys=true then(if ys=[]then([],[],3)else(digs B (num B xs/num B ys),digs B (num B xs%num B ys),0))else([],[],1)
theorem kry{b:Nat}(y:1<=b){xs:List Nat}(t:Trim xs)(h:xs≠[]):0<num b xs:=by
 rcases Nat.eq_zero_or_pos (num b xs)with e | e
 ·exact absurd (kph y t e) h
 ·exact e
theorem cmp_lt{a b:Nat}:cmp a b<0↔a<b:=by
 unfold cmp;by_cases h:a<b
 ·rw[if_pos h];omega
 ·rw[if_neg h];by_cases y:a=b
  ·rw[if_pos y];omega
  ·rw[if_neg y];omega
theorem cmp_le{a b:Nat}:cmp a b<=0↔a<=b:=by
 unfold cmp;by_cases h:a<b
 ·rw[if_pos h];omega
 ·rw[if_neg h];by_cases y:a=b
  ·rw[if_pos y];omega
  ·rw[if_neg y];omega
theorem k59{xs ys:List Nat}(H:∀x∈xs,x<B)(I:∀x∈ys,x<B):Iter kzp (.fn xs ys) (divN xs ys):=by
 refine .done ?_;show kmi _ _=_;unfold kmi divN;cases Y:rt xs with
 | false=>simp
 | true =>
  cases K:rt ys with
  | false=>simp
  | true =>
   obtain⟨A,Q⟩:=rt_iff.1 Y;obtain⟨U,ty⟩:=rt_iff.1 K;simp only[Bool.and_self,Bool.not_true,cond_false,and_self,if_true];by_cases h0:ys=[]
   ·subst h0;rfl
   ·have Z:ys.length≠0:=by simpa using h0
    have V:=kry B1 ty h0;rw[if_neg h0,condF (by rw[qbv];omega),kq Q,qbt,kq ty,qbt];by_cases C:num B xs<num B ys
    ·rw[condT (by rw[qbw,cmp_lt];exact C),kq (by omega),qbt,Nat.div_eq_of_lt C,Nat.mod_eq_of_lt C,kcc,ke6 B2 H Q]
    ·rw[condF (by rw[qbv,cmp_lt];exact C)];by_cases h1:ys.length=1
     ·obtain⟨y,rfl⟩:=List.length_eq_one_iff.1 h1;have K:y<18446744073709551616:=I y (by simp);have e:num B [y]=y:=by simp[num]
      rw[e]at V|-;have hm:=Nat.mod_lt (num B xs) V;have X:=kco (xs:=[y]) (i:=0) (by simp);rw[show((0:Nat):Int)=0 from rfl]at X;rw[condT (by rw[qbw];omega),X,qbt];rw[List.getElem_cons_zero,kq ⟨by omega,by omega,by omega⟩,qbt,Int.toNat_natCast,kbr (by omega),qbt]
     ·have F:=k3q H I ty (Nat.le_of_not_lt C);rw[condF (by rw[qbv];omega),qbt,kq (by omega),qbt,kq A,qbt,kq F,qbt]
theorem kp0{h:AH}{s t:Sl}{xs ys:List Nat}(n:Nats h s xs)(m:Nats h t ys):∃(a b:Sl)(h':AH),go (.fn kif [s.v,t.v]) h=some (.tup [a.v,b.v,.i (divN xs ys).2.2],h')/\Nats h' a (divN xs ys).1/\Nats h' b (divN xs ys).2.1/\Grow h h'/\Own h a/\Own h b:=by
 obtain⟨_,h',e,a,b,rfl,k⟩:=kbgc (k59 n.lt m.lt) n m;exact⟨a,b,h',e,k⟩
theorem kt5{a c:Nat}(h:a<=c):(digs D a).length<=(digs D c).length:=by
 rw[kbj D2];exact qbs h ((kbj D2 c _).1 (qbp _))
theorem kbbe{xs ys q:List Nat}{R j:Nat}{res:kc5}(ly:∀y∈ys,y<D)(hl:ys.length<=536870912)(hy:0<num D ys)(hR:(digs D R).length<=1073741824)(hj:j<q.length)
  (K:Iter kjf (.p4 xs ys (q.set j (R/num D ys)) (digs D (R%num D ys)) (wrap .i64 ((j:Int)-1))) res) :
  ∀(n low A:Nat),A-low=n->low<=R/num D ys->R/num D ys<=A->A<65536->Iter kjf (.p9 xs ys q (digs D R) j low A) res:=by
 intro n
 induction n using Nat.strongRecOn with
 | ind n ih =>
  intro low A hn h1 h2 h3;have tR:=kcq D2 R;have lR:=kbu D2 R;by_cases hc:low<A
  ·have hm:wrap .u64 (Int.tdiv (wrap .u64 ((wrap .u64 ((low:Int)+(A:Int)))+1)) 2)=(((low+A+1)/2:Nat):Int):=by
    rw[<- Int.natCast_add,kct (by omega),show(((low+A:Nat):Int)+1)=((low+A+1:Nat):Int)from by omega,kct (by omega)];rw[show Int.tdiv ((low+A+1:Nat):Int) 2=(((low+A+1)/2:Nat):Int)from rfl,kct (by omega)]
   obtain⟨C,I⟩:∃C,C=(low+A+1)/2:=⟨_,rfl⟩;have X:num D [C]=C:=by simp[num]
   have Y:∀x∈[C],x<D:=by
    intro x Z;rw[List.mem_singleton.1 Z];exact show C<65536 by omega
   have Q:∀o,cond (decide (num D ys*C<=R)) (some (Sum.inl (β:=kc5) (ket.p9 xs ys q (digs D R) j C A))) (some (.inl (.p9 xs ys q (digs D R) j low (wrap .u64 ((C:Int)-1)))))=o->kjf (.p9 xs ys q (digs D R) j low A)=o:=by
    intro o ho;show khs _ _ _ _ _ _ _=_;unfold khs;rw[condT (by rw[qbw];omega),hm,<- I,kbr (by omega),qbt,kq ly,qbt,kq Y,qbt,kq (by simp;omega),qbt,kq (kbu D2 _),qbt,kq lR,qbt,kq (kcq D2 _),qbt,kq tR,qbt,ko D2,ko D2,X];rw[<- ho];congr 1;rw[decide_eq_decide];exact cmp_le
   by_cases F:num D ys*C<=R
   ·have H:C<=R/num D ys:=by rw[Nat.le_div_iff_mul_le hy,Nat.mul_comm];exact F
    refine .next (Q _ ?_) (ih (A-C) (by omega) C A rfl H h2 h3);rw[condT (by rw[qbw];exact F)]
   ·have H:R/num D ys<C:=by rw[Nat.div_lt_iff_lt_mul hy,Nat.mul_comm];omega
    refine .next (Q _ ?_) (ih (C-1-low) (by omega) low (C-1) rfl h1 (by omega) (by omega));rw[condF (by rw[qbv];exact F),show wrap .u64 ((C:Int)-1)=((C-1:Nat):Int)from by rw[wrapU];omega]
  ·have H:R/num D ys=low:=by omega
   rw[H]at K;have X:num D [low]=low:=by simp[num]
   have Y:∀x∈[low],x<D:=by
    intro x Z;rw[List.mem_singleton.1 Z];exact show low<65536 by omega
   have U:num D ys*low<=R:=by rw[<- H];exact Nat.mul_div_le R _
   have V:R-num D ys*low=R%num D ys:=by
    have:=Nat.div_add_mod R (num D ys);rw[H]at this;omega
   refine .next ?_ K;show khs _ _ _ _ _ _ _=_;unfold khs;rw[condF (by rw[qbv];omega),kbi hj,qbt,kbr (by omega),qbt,qbt,kq ly,qbt,kq Y,qbt,kq (by simp;omega),qbt,kq lR,qbt,kq (kbu D2 _),qbt,kq hR,qbt,X,ko D2,ko D2,kq (kt5 U),qbt,kq U,qbt,V]
theorem k3b{xs ys:List Nat}(X:∀x∈xs,x<D)(K:∀y∈ys,y<D)(Y:ys.length<=536870912)(Q:xs.length<=536870912)(F:0<num D ys) :
  ∀(i:Nat)(q:List Nat)(r:Nat),i<=xs.length->q.length=xs.length->(∀x∈q,x<D)->r<num D ys->num D (xs.drop i)=num D ys*num D (q.drop i)+r->
   Iter kjf (.p4 xs ys q (digs D r) ((i:Int)-1)) (digs D (num D xs/num D ys),digs D (num D xs%num D ys))
 | 0,q,r,hi,lq,tq,C,e=>by
  rw[List.drop_zero,List.drop_zero]at e;refine .done ?_;show khw _ _ _ _ _=_;unfold khw;rw[condF (by rw[qbv];omega),kq tq,qbt,e,Nat.mul_add_div F,Nat.div_eq_of_lt C,Nat.add_zero,Nat.mul_add_mod,Nat.mod_eq_of_lt C]
 | j+1,q,r,hi,lq,tq,C,e=>by
  have Z:j<xs.length:=by omega
  have H:j<q.length:=by omega
  have U:xs[j]<65536:=X _ (qb2 _)
  have hR:(xs[j]+D*r)/num D ys<D:=by
   rw[Nat.div_lt_iff_lt_mul F];have:D*(r+1)<=D*num D ys:=Nat.mul_le_mul_left _ C;rw[Nat.mul_add,Nat.mul_one]at this;have h2:xs[j]<D:=U;omega
  have lr:(digs D r).length<=ys.length:=by
   rw[kbj D2];exact Nat.lt_trans C (num_lt (by decide) K)
  have lR:(digs D (xs[j]+D*r)).length<=1073741824:=by
   have:(digs D (xs[j]+D*r)).length<=ys.length+1:=by
    rw[kbj D2,Nat.pow_succ];have h1:D*(r+1)<=D*D^ys.length:=Nat.mul_le_mul_left _ (Nat.lt_trans C (num_lt (by decide) K));rw[Nat.mul_add,Nat.mul_one,Nat.mul_comm D (D^ys.length)]at h1;have h2:xs[j]<D:=U;omega
   omega
  have A:∀x∈xs[j]::digs D r,x<D:=by
   intro x V;rcases qb5.1 V with rfl | h
   ·exact U
   ·exact kbu D2 r x h
  have I:=Nat.mod_lt (xs[j]+D*r) F
  have IH:=k3b X K Y Q F j (q.set j ((xs[j]+D*r)/num D ys)) ((xs[j]+D*r)%num D ys) (by omega) (by simpa using lq) (set_lt tq hR) I (by
   rw[kub H,qcf Z];simp only[num];have dm:=Nat.div_add_mod (xs[j]+D*r) (num D ys);rw[e,Nat.mul_add D,Nat.mul_add (num D ys),Nat.mul_left_comm D];omega)
  refine .next (s':=.p9 xs ys q (digs D (xs[j]+D*r)) (j:Int) ((0:Nat):Int) ((65535:Nat):Int)) ?_ (kbbe K Y F lR H (by rw[wrap64 (by omega) (by omega)];exact IH) _ 0 65535 rfl (Nat.zero_le _) (by have:(xs[j]+D*r)/num D ys<65536:=hR;omega) (by omega));show khw _ _ _ _ _=_;unfold khw;rw[condT (by rw[qbw];omega),show((j+1:Nat):Int)-1=(j:Int)from by omega,kco Z,qbt,kbr (by omega),qbt,kq (by omega),qbt,kq A,qbt];simp only[num,ko D2];rfl
theorem k7s{xs ys:List Nat}(F:∀x∈xs,x<D)(H:∀y∈ys,y<D)(I:ys.length<=536870912)(A:xs.length<=536870912)(C:0<num D ys):Iter kjf (.fn xs ys) (digs D (num D xs/num D ys),digs D (num D xs%num D ys)):=by
 have key:=k3b F H I A C xs.length (List.replicate xs.length 0) 0 (qbp _) (by simp) (λx K=>by rw[List.eq_of_mem_replicate K];decide) C (by simp[num]);rw[kcc]at key;refine .next ?_ key;show km7 _ _=_;unfold km7;rw[kf5 (by omega),qbt,wrap64 (by omega) (by omega)]
theorem kbll{h:AH}{s t:Sl}{xs ys:List Nat}(n:Nats h s xs)(m:Nats h t ys)(C:∀x∈xs,x<D)(F:∀y∈ys,y<D)(A:xs.length<=536870912)(H:ys.length<=536870912)(I:0<num D ys) :
  ∃(a b:Sl)(h':AH),go (.fn kdr [s.v,t.v]) h=some (.tup [a.v,b.v],h')/\Nats h' a (digs D (num D xs/num D ys))/\Nats h' b (digs D (num D xs%num D ys))/\Grow h h'/\Own h a/\Own h b:=by
 obtain⟨_,h',e,a,b,rfl,k⟩:=kbdk (k7s C F H A I) n m;exact⟨a,b,h',e,k⟩
end Go.Ab
set_option maxRecDepth 10000
namespace Go.Ab
open Go.Proofs Go.Num
inductive kje
 | fn (x1:List Nat) (x2:List Nat)
 | no
abbrev kh5:=List Nat×List Nat×Int
noncomputable def klq(x1 x2:List Nat):Option (kje⊕kh5) :=
 cond (!(rt x1)) (some (.inr ([],[],1))) (cond (!(rt x2)) (some (.inr ([],[],1))) (cond (decide ((List.length x2:Int)=0)) (some (.inr ([],[],3))) ((need (List.length x1<=1073741824)).bind λY=>(need (List.length x2<=1073741824)).bind λZ=>(need (∀x∈(digs D (num B x1)),x<D)).bind λy=>(need (∀x∈(digs D (num B x2)),x<D)).bind λA=>(need (List.length (digs D (num B x1))<=536870912)).bind λC=>(need (List.length (digs D (num B x2))<=536870912)).bind λF=>(need (0<num D (digs D (num B x2)))).bind λH=>(need (∀x∈(digs D (num D (digs D (num B x1))/num D (digs D (num B x2)))),x<D)).bind λI=>(need (Trim (digs D (num D (digs D (num B x1))/num D (digs D (num B x2)))))).bind λK=>(need (List.length (digs D (num D (digs D (num B x1))/num D (digs D (num B x2))))<=536870912)).bind λQ=>(need (∀x∈(digs D (num D (digs D (num B x1))%num D (digs D (num B x2)))),x<D)).bind λU=>(need (Trim (digs D (num D (digs D (num B x1))%num D (digs D (num B x2)))))).bind λV=>(need (List.length (digs D (num D (digs D (num B x1))%num D (digs D (num B x2))))<=536870912)).bind λX=>some (.inr (digs B (num D (digs D (num D (digs D (num B x1))/num D (digs D (num B x2))))),digs B (num D (digs D (num D (digs D (num B x1))%num D (digs D (num B x2))))),0)))))
noncomputable def kyh:kje->Option (kje⊕kh5)
 | .fn x1 x2=>klq x1 x2
 | .no=>none
@[reducible] def k7h(h0:AH)(r:kh5)(v:AV)(h':AH):Prop:=∃s1:Sl,∃s2:Sl,v=.tup [s1.v,s2.v,.i r.2.2]/\Nats h' s1 r.1/\Nats h' s2 r.2.1/\Grow h0 h'/\Own h0 s1/\Own h0 s2
def ktd(r:kh5):kje->Prop
 | .fn x1 x2=>∀{h:AH}{a1:Sl}{a2:Sl},Nats h a1 x1->Nats h a2 x2->Runs (go (.fn kh7 [a1.v,a2.v]) h) (k7h h r)
 | .no=>True
theorem k6r{r:kh5}{o:kje⊕kh5}{x1 x2:List Nat}(e:klq x1 x2=some o)(y:GoodS (ktd r) r o):ktd r (.fn x1 x2):=by
 intro h a1 a2 n1 n2;rw[kbjb];unfold klq at e;rw[n2.len];refine qz (kcl n1) (qz (seen rfl) (qz (kcl n2) (qz (seen rfl) ?_)));refine qbd (λk5=>?_) (λk5=>?_)
 ·replace e:=(condT k5).symm.trans e;cases e;cases y;exact qy ⟨(⟨none,0,.is 0⟩:Sl),(⟨none,0,.is 0⟩:Sl),rfl,(qw _),(qw _),(ql _),(qu _),(qu _)⟩
 ·replace e:=(condF k5).symm.trans e;refine qbd (λk6=>?_) (λk6=>?_)
  ·replace e:=(condT k6).symm.trans e;cases e;cases y;exact qy ⟨(⟨none,0,.is 0⟩:Sl),(⟨none,0,.is 0⟩:Sl),rfl,(qw _),(qw _),(ql _),(qu _),(qu _)⟩
  ·replace e:=(condF k6).symm.trans e;refine qbd (λk7=>?_) (λk7=>?_)
   ·replace e:=(condT k7).symm.trans e;cases e;cases y;exact qy ⟨(⟨none,0,.is 0⟩:Sl),(⟨none,0,.is 0⟩:Sl),rfl,(qw _),(qw _),(ql _),(qu _),(qu _)⟩
   ·replace e:=(condF k7).symm.trans e;obtain⟨ac,be,e⟩:=qbu.1 e;obtain⟨s8,H8,e8,n8,g8,o8⟩:=kfa n1  ac.down;refine qz e8 (qz (seen qcm) ?_);obtain⟨ad,bf,e⟩:=qbu.1 e;obtain⟨s9,H9,e9,n9,g9,o9⟩:=kfa (n2.grow g8)  ad.down;refine qz e9 (qz (seen qcm) ?_);obtain⟨A,ag,e⟩:=qbu.1 e;obtain⟨C,ah,e⟩:=qbu.1 e;obtain⟨F,ai,e⟩:=qbu.1 e;obtain⟨H,aj,e⟩:=qbu.1 e;obtain⟨I,ak,e⟩:=qbu.1 e;obtain⟨bi,bg,bj,al,am,ae,K,bk,bh⟩:=kbll (n8.grow g9) n9  A.down C.down F.down H.down I.down;refine qz al (qz rfl (qz (seen qcm) (qz (seen qcm) ?_)));obtain⟨Q,an,e⟩:=qbu.1 e;obtain⟨U,ap,e⟩:=qbu.1 e;obtain⟨V,aq,e⟩:=qbu.1 e;obtain⟨ar,bm,au,aw,X,ax⟩:=kt6 am  Q.down U.down V.down;refine qz au (qz rfl (qz (seen qcm) (qz (seen rfl) ?_)));obtain⟨Y,ay,e⟩:=qbu.1 e;obtain⟨Z,az,e⟩:=qbu.1 e;obtain⟨aa,a0,e⟩:=qbu.1 e;obtain⟨ba,bn,bb,bc,af,bd⟩:=kt6 (ae.grow X)  Y.down Z.down aa.down;refine qz bb (qz rfl (qz (seen qcm) (qz (seen rfl) ?_)));cases e;cases y;exact qy ⟨ar,ba,rfl,(aw.grow af),bc,((((g8.trans g9).trans K).trans X).trans af),(ax.of_le ((g8.trans g9).trans K)),(bd.of_le (((g8.trans g9).trans K).trans X))⟩
theorem kbaz{s:kje}{r:kh5}(A:Iter kyh s r):ktd r s:=qbg (λs o e y=>by
 cases s with
 | fn x1 x2=>exact @k6r _ _ x1 x2 e y
 | no=>exact True.intro
 ) A
theorem kbjg{xs ys:List Nat}(C:∀x∈xs,x<B)(F:∀x∈ys,x<B):Iter kyh (.fn xs ys) (divN xs ys):=by
 refine .done ?_;show klq _ _=_;unfold klq divN;cases H:rt xs with
 | false=>simp
 | true =>
  cases I:rt ys with
  | false=>simp
  | true =>
   obtain⟨y,Q⟩:=rt_iff.1 H;obtain⟨A,ty⟩:=rt_iff.1 I;simp only[Bool.not_true,cond_false,and_self,if_true];by_cases h0:ys=[]
   ·subst h0;rfl
   ·have U:ys.length≠0:=by simpa using h0
    have K:=kry B1 ty h0;have V:=kgo C y;have X:=kgo F A;have Y:=kt5 (Nat.div_le_self (num B xs) (num B ys));have Z:=kt5 (Nat.mod_le (num B xs) (num B ys));rw[if_neg h0,condF (by rw[qbv];omega),kq (by omega),qbt,kq (by omega),qbt,kq (kbu D2 _),qbt,kq (kbu D2 _),qbt,kq (by omega),qbt,kq (by omega),qbt];rw[kq (by rw[ko D2];exact K),qbt,kq (kbu D2 _),qbt,kq (kcq D2 _),qbt,kq (by simp only[ko D2];omega),qbt,kq (kbu D2 _),qbt,kq (kcq D2 _),qbt,kq (by simp only[ko D2];omega),qbt];simp only[ko D2]
theorem koi{h:AH}{s t:Sl}{xs ys:List Nat}(n:Nats h s xs)(m:Nats h t ys):∃(a b:Sl)(h':AH),go (.fn kh7 [s.v,t.v]) h=some (.tup [a.v,b.v,.i (divN xs ys).2.2],h')/\Nats h' a (divN xs ys).1/\Nats h' b (divN xs ys).2.1/\Grow h h'/\Own h a/\Own h b:=by
 obtain⟨_,h',e,a,b,rfl,k⟩:=kbaz (kbjg n.lt m.lt) n m;exact⟨a,b,h',e,k⟩
theorem kbcy{h:AH}{s t:Sl}{xs ys:List Nat}(n:Nats h s xs)(m:Nats h t ys):∃(b:Sl)(h':AH),go (.fn kt3 [s.v,t.v]) h=some (b.v,h')/\Nats h' b (divN xs ys).2.1/\Grow h h'/\Own h b:=by
 obtain⟨a,b,h',e,na,nb,g,A,y⟩:=koi n m;refine⟨b,h',?_,nb,g,y⟩;rw[kbds,e];simp only[qbt,k6f,asSl_v,kb]
theorem kbkl{a:Int}{x:Nat}{h:AH}(q:u64P a=some x):∃(s':Sl)(h':AH),go (.fn kfz [.int .u64 a]) h=some (s'.v,h')/\Nats h' s' (digs B x)/\Grow h h'/\Own h s':=by
 obtain⟨rfl,y⟩:=kmw q;exact ktt y
theorem kvo{h h0:AH}{i:Nat}{e:TypeId}{s:Sl}{xs:List Nat}(b:h.has i [] e)(n:Nats h s xs)(C:Grow h0 h)(hi:h0.blks.size<=i)(F:xs.length<=1073741824) :
  ∃(s':Sl)(h':AH),kv Pg (⟨some (.new i 0),0,.is 0⟩:Sl) (xs.map u64) xs.length kg 1 h=some (s'.v,h')/\Nats h' s' xs/\Grow h h'/\Own h0 s':=by
 have n1:Nats h ⟨some (.new i 0),0,.is 0⟩ []:=⟨qr (n:=1) (m:=0) b rfl,by simp,by simp⟩;cases xs with
 | nil =>
  obtain⟨s',H,c,o⟩:=kr9 (P:=Pg) (elem:=kg) (m:=1) (by omega) n1.cells;exact⟨s',h,H,⟨c,by simp,by simp⟩,ql h,o h0 λr A=>by cases A;exact⟨_,_,rfl,hi⟩⟩
 | cons y ys =>
  refine⟨_,_,kfj (c:=0) rfl (by simp) (kln (by simp at F|-;omega)) n1.cells,⟨⟨rfl,by simp,λk w I=>⟨_,rfl,?_⟩⟩,n.lt,n.short⟩,qm _ _,λr A=>?_⟩
  ·have:=AH.cell_push h ([]++(y::ys).map u64) kg k;rw[qj,Nat.zero_add];rw[List.map_nil,this];exact I
  ·cases A;exact⟨_,_,rfl,C.size⟩
inductive khb
 | fn (x1:List Nat) (x2:List Nat)
 | p4 (x1:List Nat) (x2:List Nat)
abbrev kfh:=List Nat×Int
noncomputable def kf3(x1 x2:List Nat):Option (khb⊕kfh) :=
 cond (!(rt x1)) (some (.inr ([],1))) (cond (!(rt x2)) (some (.inr ([],1))) ((need (List.length x1<=8796093022208)).bind λy=>(need (List.length x2<=8796093022208)).bind λA=>some (.inl (.p4 x1 x2))))
noncomputable def kh1(x1 x2:List Nat):Option (khb⊕kfh) :=
 cond (decide ((List.length x2:Int)>0)) (some (.inl (.p4 x2 ((divN x1 x2).2.1)))) (some (.inr (x1,0)))
noncomputable def kty:khb->Option (khb⊕kfh)
 | .fn x1 x2=>kf3 x1 x2
 | .p4 x1 x2=>kh1 x1 x2
@[reducible] def ksz(h0:AH)(r:kfh)(v:AV)(h':AH):Prop:=∃s1:Sl,v=.tup [s1.v,.i r.2]/\Nats h' s1 r.1/\Grow h0 h'/\Own h0 s1
def klx(r:kfh):khb->Prop
 | .fn x1 x2=>∀{h:AH}{a1:Sl}{a2:Sl},Nats h a1 x1->Nats h a2 x2->Runs (go (.fn kft [a1.v,a2.v]) h) (ksz h r)
 | .p4 x1 x2=>∀{h0 h:AH}{a1:Sl}{a2:Sl},Grow h0 h->Nats h a1 x1->Nats h a2 x2->Own h0 a1->Own h0 a2->Runs (go (.pt kft krc [(0,a1.v),(1,a2.v)]) h) (ksz h0 r)
theorem kbj2{r:kfh}{o:khb⊕kfh}{x1 x2:List Nat}(e:kf3 x1 x2=some o)(y:GoodS (klx r) r o):klx r (.fn x1 x2):=by
 intro h a1 a2 n1 K;rw[k4b];unfold kf3 at e;refine qz (kgp n1) (qz (seen rfl) ?_);refine qbd (λF=>?_) (λF=>?_)
 ·replace e:=(condT F).symm.trans e;cases e;cases y;exact qy ⟨(⟨none,0,.is 0⟩:Sl),rfl,(qw _),(ql _),(qu _)⟩
 ·replace e:=(condF F).symm.trans e;refine qz (kgp K) (qz (seen rfl) ?_);refine qbd (λH=>?_) (λH=>?_)
  ·replace e:=(condT H).symm.trans e;cases e;cases y;exact qy ⟨(⟨none,0,.is 0⟩:Sl),rfl,(qw _),(ql _),(qu _)⟩
  ·replace e:=(condF H).symm.trans e;obtain⟨A,Q,e⟩:=qbu.1 e;obtain⟨s7,H7,X,Y,I,Z⟩:=knk n1  A.down;refine qz X (qz (seen qcm) ?_);obtain⟨C,U,e⟩:=qbu.1 e;obtain⟨s8,H8,e8,n8,V,o8⟩:=knk (K.grow I)  C.down;refine qz e8 (qz (seen qcm) ?_);cases e;exact y (I.trans V) (Y.grow V) n8 (Z.of_le (ql _)) (o8.of_le I)
theorem k8d{r:kfh}{o:khb⊕kfh}{x1 x2:List Nat}(e:kh1 x1 x2=some o)(y:GoodS (klx r) r o):klx r (.p4 x1 x2):=by
 intro h0 h a1 a2 A n1 C F H;rw[k8b];unfold kh1 at e;rw[C.len];refine qbd (λI=>?_) (λI=>?_)
 ·replace e:=(condT I).symm.trans e;obtain⟨Y,V,Z,X,n4,K,U,o4,Q⟩:=kp0 n1 C;refine qz X (qz rfl (qz (seen qcm) (qz (seen qcm) (qz (seen qcn) ?_))));cases e;exact y (A.trans U) (C.grow U) K (H.of_le (ql _)) (Q.of_le A)
 ·replace e:=(condF I).symm.trans e;cases e;cases y;exact qy ⟨a1,rfl,n1,A,(F.of_le (ql _))⟩
theorem kbdf{s:khb}{r:kfh}(A:Iter kty s r):klx r s:=qbg (λs o e y=>by
 cases s with
 | fn x1 x2=>exact @kbj2 _ _ x1 x2 e y
 | p4 x1 x2=>exact @k8d _ _ x1 x2 e y
 ) A
inductive kgy
 | fn (x1:List Nat) (x2:List Nat)
 | p7 (x1:List Nat) (x2:List Nat)
abbrev kfi:=List Nat×Int
noncomputable def kf9(x1 x2:List Nat):Option (kgy⊕kfi) :=
 cond (!(rt x1)) (some (.inr ([],1))) (cond (!(rt x2)) (some (.inr ([],1))) ((need (List.length x1<=1073741824)).bind λA=>(need (List.length x2<=1073741824)).bind λy=>some (.inl (.p7 x1 x2))))
noncomputable def ki4(x1 x2:List Nat):Option (kgy⊕kfi) :=
 cond (decide ((List.length x2:Int)>0)) (some (.inl (.p7 x2 ((divN x1 x2).2.1)))) (some (.inr (x1,0)))
noncomputable def kt8:kgy->Option (kgy⊕kfi)
 | .fn x1 x2=>kf9 x1 x2
 | .p7 x1 x2=>ki4 x1 x2
@[reducible] def ksr(h0:AH)(r:kfi)(v:AV)(h':AH):Prop:=∃s1:Sl,v=.tup [s1.v,.i r.2]/\Nats h' s1 r.1/\Grow h0 h'/\Own h0 s1
def knl(r:kfi):kgy->Prop
 | .fn x1 x2=>∀{h:AH}{a1:Sl}{a2:Sl},Nats h a1 x1->Nats h a2 x2->Runs (go (.fn kf1 [a1.v,a2.v]) h) (ksr h r)
 | .p7 x1 x2=>∀{h0 h:AH}{a1:Sl}{a2:Sl},Grow h0 h->Nats h a1 x1->Nats h a2 x2->Own h0 a1->Own h0 a2->Runs (go (.pt kf1 kpr [(8,a1.v),(9,a2.v)]) h) (ksr h0 r)
theorem kbei{r:kfi}{o:kgy⊕kfi}{x1 x2:List Nat}(e:kf9 x1 x2=some o)(y:GoodS (knl r) r o):knl r (.fn x1 x2):=by
 intro h a1 a2 n1 I;rw[kbdh];unfold kf9 at e;refine qz (kcl n1) (qz (seen rfl) (qz (kcl I) (qz (seen rfl) ?_)));refine qbd (λK=>?_) (λK=>?_)
 ·replace e:=(condT K).symm.trans e;cases e;cases y;exact qy ⟨(⟨none,0,.is 0⟩:Sl),rfl,(qw _),(ql _),(qu _)⟩
 ·replace e:=(condF K).symm.trans e;refine qbd (λQ=>?_) (λQ=>?_)
  ·replace e:=(condT Q).symm.trans e;cases e;cases y;exact qy ⟨(⟨none,0,.is 0⟩:Sl),rfl,(qw _),(ql _),(qu _)⟩
  ·replace e:=(condF Q).symm.trans e;refine q0 λH7 Z A=>?_;refine qz (kto (n1.grow A)) ?_;obtain⟨c8,q8,e⟩:=qbu.1 e;obtain⟨s8,H8,e8,n8,H,o8⟩:=kvo Z (n1.grow A) A (qbp _) c8.down;refine qz e8 (qz qcm ?_);refine q0 λH9 b9 C=>?_;refine qz (kto (I.grow ((A.trans H).trans C))) ?_;obtain⟨U,aa,e⟩:=qbu.1 e;obtain⟨ac,ad,V,X,F,Y⟩:=kvo b9 (I.grow ((A.trans H).trans C)) C (qbp _) U.down;refine qz V (qz qcm ?_);cases e;exact y (((A.trans H).trans C).trans F) (n8.grow (C.trans F)) X (o8.of_le (ql _)) (Y.of_le (A.trans H))
theorem kbaa{r:kfi}{o:kgy⊕kfi}{x1 x2:List Nat}(e:ki4 x1 x2=some o)(y:GoodS (knl r) r o):knl r (.p7 x1 x2):=by
 intro h0 h a1 a2 A n1 C F H;rw[kbju];unfold ki4 at e;rw[C.len];refine qbd (λI=>?_) (λI=>?_)
 ·replace e:=(condT I).symm.trans e;obtain⟨X,Y,Q,U,K,V⟩:=kbcy n1 C;refine qz Q (qz (seen qcm) ?_);cases e;exact y (A.trans K) (C.grow K) U (H.of_le (ql _)) (V.of_le A)
 ·replace e:=(condF I).symm.trans e;cases e;cases y;exact qy ⟨a1,rfl,n1,A,(F.of_le (ql _))⟩
theorem kbje{s:kgy}{r:kfi}(A:Iter kt8 s r):knl r s:=qbg (λs o e y=>by
 cases s with
 | fn x1 x2=>exact @kbei _ _ x1 x2 e y
 | p7 x1 x2=>exact @kbaa _ _ x1 x2 e y
 ) A
inductive kka
 | fn (a1:Bool) (x2:List Nat) (a3:Bool) (x4:List Nat)
 | no
abbrev khq:=Bool×List Nat×Bool×List Nat×Int
noncomputable def kni(a1:Bool)(x2:List Nat)(a3:Bool)(x4:List Nat):Option (kka⊕khq) :=
 cond (!((rtI a1 x2&&rtI a3 x4))) (some (.inr (false,[],false,[],1))) (cond (decide ((List.length x4:Int)=0)) (some (.inr (false,[],false,[],3))) (cond (a3) (some (.inr (false,[],false,[],1))) (cond (a1) (cond (decide ((List.length ((divN x2 x4).2.1):Int)>0)) ((u64P 1).bind λp17=>cond (!decide (((addN ((divN x2 x4).1) (digs B p17)).2)=0)) (some (.inr (false,[],false,[],((addN ((divN x2 x4).1) (digs B p17)).2)))) (some (.inr ((((fromI a1 ((addN ((divN x2 x4).1) (digs B p17)).1)).1)),(fromI a1 ((addN ((divN x2 x4).1) (digs B p17)).1)).2,(((fromI false ((subN x4 ((divN x2 x4).2.1)).1)).1)),(fromI false ((subN x4 ((divN x2 x4).2.1)).1)).2,0)))) (some (.inr ((((fromI a1 ((divN x2 x4).1)).1)),(fromI a1 ((divN x2 x4).1)).2,(((fromI false ((divN x2 x4).2.1)).1)),(fromI false ((divN x2 x4).2.1)).2,0)))) (some (.inr ((((fromI a1 ((divN x2 x4).1)).1)),(fromI a1 ((divN x2 x4).1)).2,(((fromI false ((divN x2 x4).2.1)).1)),(fromI false ((divN x2 x4).2.1)).2,0))))))
noncomputable def kvy:kka->Option (kka⊕khq)
 | .fn a1 x2 a3 x4=>kni a1 x2 a3 x4
 | .no=>none
@[reducible] def kwq(h0:AH)(r:khq)(v:AV)(h':AH):Prop:=∃s1:Sl,∃s2:Sl,v=.tup [.agg [.bool r.1,s1.v],.agg [.bool r.2.2.1,s2.v],.i r.2.2.2.2]/\Nats h' s1 r.2.1/\Nats h' s2 r.2.2.2.1/\Grow h0 h'/\Own h0 s1/\Own h0 s2
def kta(r:khq):kka->Prop
 | .fn a1 x2 a3 x4=>∀{h:AH}{a2:Sl}{a4:Sl},Nats h a2 x2->Nats h a4 x4->Runs (go (.fn ko6 [.agg [.bool a1,a2.v],.agg [.bool a3,a4.v]]) h) (kwq h r)
 | .no=>True
theorem kbd1{r:khq}{o:kka⊕khq}{a1:Bool}{x2:List Nat}{a3:Bool}{x4:List Nat}(e:kni a1 x2 a3 x4=some o)(ag:GoodS (kta r) r o):kta r (.fn a1 x2 a3 x4):=by
 intro h a2 a4 n2 n4;rw[k52];unfold kni at e;refine q0 λH5 b5 V=>?_;refine q0 λH6 b6 Q=>?_;refine q0 λH7 K U=>?_;refine q0 λH8 X I=>?_;refine qz (qbf (((Q.trans U).trans I).has b5) 0 rfl rfl) (qz (qbf (((Q.trans U).trans I).has b5) 1 rfl qcm) (qz (qbf ((U.trans I).has b6) 0 rfl rfl) (qz (qbf ((U.trans I).has b6) 1 rfl qcm) ?_)));refine q0 λH9 b9 F=>?_;obtain⟨el,dy,y⟩:=kp8 b9 (n2.grow ((((V.trans Q).trans U).trans I).trans F)) (n4.grow ((((V.trans Q).trans U).trans I).trans F));refine qz dy (qz (seen rfl) ?_);refine qbd (λcl=>?_) (λcl=>?_)
 ·replace e:=(condT cl).symm.trans e;refine qba (((I.trans F).trans y).has K) rfl λem dz cm=>?_;have cp:=qx ((F.trans y).has X) (Nat.ne_of_gt (qbr (K).lt (qbp _))) cm;have cu:=qx (y.has b9) (Nat.ne_of_gt (qbr (I.has K).lt (qbp _))) cm;refine qba cp rfl λd0 bv aw=>?_;have bb:=qx dz (Nat.ne_of_lt (qbr (K).lt (qbp _))) aw;have bk:=qx cu (Nat.ne_of_gt (qbr (X).lt (qbp _))) aw;refine qz (qbf bb 0 rfl rfl) (qz (qbf bb 1 rfl qcm) (qz (qbf bv 0 rfl rfl) (qz (qbf bv 1 rfl qcm) ?_)));cases e;cases ag;exact qy ⟨(⟨none,0,.is 0⟩:Sl),(⟨none,0,.is 0⟩:Sl),rfl,(qw _),(qw _),(((((((V.trans Q).trans U).trans I).trans F).trans y).updr (qbq ((V.trans Q)).size (qbp _)) cm).updr (qbq (((V.trans Q).trans U)).size (qbp _)) aw),(qu _),(qu _)⟩
 ·replace e:=(condF cl).symm.trans e;refine qz (qbf ((((U.trans I).trans F).trans y).has b6) 1 rfl qcm) ?_;rw[(n4.grow (((((V.trans Q).trans U).trans I).trans F).trans y)).len];refine qbd (λcv=>?_) (λcv=>?_)
  ·replace e:=(condT cv).symm.trans e;refine qba (((I.trans F).trans y).has K) rfl λd0 bv aw=>?_;have cw:=qx ((F.trans y).has X) (Nat.ne_of_gt (qbr (K).lt (qbp _))) aw;have bk:=qx (y.has b9) (Nat.ne_of_gt (qbr (I.has K).lt (qbp _))) aw;refine qba cw rfl λdd bw ax=>?_;have bc:=qx bv (Nat.ne_of_lt (qbr (K).lt (qbp _))) ax;have bm:=qx bk (Nat.ne_of_gt (qbr (X).lt (qbp _))) ax;refine qz (qbf bc 0 rfl rfl) (qz (qbf bc 1 rfl qcm) (qz (qbf bw 0 rfl rfl) (qz (qbf bw 1 rfl qcm) ?_)));cases e;cases ag;exact qy ⟨(⟨none,0,.is 0⟩:Sl),(⟨none,0,.is 0⟩:Sl),rfl,(qw _),(qw _),(((((((V.trans Q).trans U).trans I).trans F).trans y).updr (qbq ((V.trans Q)).size (qbp _)) aw).updr (qbq (((V.trans Q).trans U)).size (qbp _)) ax),(qu _),(qu _)⟩
  ·replace e:=(condF cv).symm.trans e;refine qz (qbf ((((U.trans I).trans F).trans y).has b6) 0 rfl rfl) ?_;refine qbd (λcx=>?_) (λcx=>?_)
   ·replace e:=(condT cx).symm.trans e;refine qba (((I.trans F).trans y).has K) rfl λdd bw ax=>?_;have cy:=qx ((F.trans y).has X) (Nat.ne_of_gt (qbr (K).lt (qbp _))) ax;have bm:=qx (y.has b9) (Nat.ne_of_gt (qbr (I.has K).lt (qbp _))) ax;refine qba cy rfl λen de cz=>?_;have bd:=qx bw (Nat.ne_of_lt (qbr (K).lt (qbp _))) cz;have d1:=qx bm (Nat.ne_of_gt (qbr (X).lt (qbp _))) cz;refine qz (qbf bd 0 rfl rfl) (qz (qbf bd 1 rfl qcm) (qz (qbf de 0 rfl rfl) (qz (qbf de 1 rfl qcm) ?_)));cases e;cases ag;exact qy ⟨(⟨none,0,.is 0⟩:Sl),(⟨none,0,.is 0⟩:Sl),rfl,(qw _),(qw _),(((((((V.trans Q).trans U).trans I).trans F).trans y).updr (qbq ((V.trans Q)).size (qbp _)) ax).updr (qbq (((V.trans Q).trans U)).size (qbp _)) cz),(qu _),(qu _)⟩
   ·replace e:=(condF cx).symm.trans e;refine qz (qbf (((((Q.trans U).trans I).trans F).trans y).has b5) 1 rfl qcm) (qz (qbf ((((U.trans I).trans F).trans y).has b6) 1 rfl qcm) ?_);obtain⟨eo,ek,dd,d2,ay,ad,A,ap,ae⟩:=kp0 (n2.grow (((((V.trans Q).trans U).trans I).trans F).trans y)) (n4.grow (((((V.trans Q).trans U).trans I).trans F).trans y));refine qz d2 (qz rfl (qz (seen qcm) (qz (seen qcm) ?_)));rw[ad.len];refine qz (seen qcn) (qz (qbf ((((((Q.trans U).trans I).trans F).trans y).trans A).has b5) 0 rfl rfl) ?_);refine qbd (λc0=>?_) (λc0=>?_)
    ·replace e:=(condT c0).symm.trans e;refine qbd (λc1=>?_) (λc1=>?_)
     ·replace e:=(condT c1).symm.trans e;obtain⟨p17,d3,e⟩:=qbu.1 e;obtain⟨bx,df,bn,az,C,af⟩:=kpm d3;refine qz bn (qz (seen qcm) ?_);obtain⟨dg,dh,c2,bp,H,aq⟩:=kwa (ay.grow C) az;refine qz c2 (qz rfl (qz (seen qcm) (qz (seen qcn) ?_)));refine qbd (λc3=>?_) (λc3=>?_)
      ·replace e:=(condT c3).symm.trans e;refine qba ((((((I.trans F).trans y).trans A).trans C).trans H).has K) rfl λdi bz Z=>?_;have be:=(ay.grow (C.trans H)).upda (qbj ap (((I.trans F).trans y).has K).lt) Z;have ar:=(ad.grow (C.trans H)).upda (qbj ae (((I.trans F).trans y).has K).lt) Z;have al:=(az.grow H).upda (qbj af ((((I.trans F).trans y).trans A).has K).lt) Z;have am:=bp.upda (qbj aq (((((I.trans F).trans y).trans A).trans C).has K).lt) Z;have c4:=qx (((((F.trans y).trans A).trans C).trans H).has X) (Nat.ne_of_gt (qbr (K).lt (qbp _))) Z;have bq:=qx ((((y.trans A).trans C).trans H).has b9) (Nat.ne_of_gt (qbr (I.has K).lt (qbp _))) Z;refine qba c4 rfl λd4 dj a0=>?_;have dq:=be.upda (qbj ap ((F.trans y).has X).lt) a0;have dk:=ar.upda (qbj ae ((F.trans y).has X).lt) a0;have dr:=al.upda (qbj af (((F.trans y).trans A).has X).lt) a0;have dt:=am.upda (qbj aq ((((F.trans y).trans A).trans C).has X).lt) a0;have bf:=qx bz (Nat.ne_of_lt (qbr (K).lt (qbp _))) a0;have d5:=qx bq (Nat.ne_of_gt (qbr (X).lt (qbp _))) a0;refine qz (qbf bf 0 rfl rfl) (qz (qbf bf 1 rfl qcm) (qz (qbf dj 0 rfl rfl) (qz (qbf dj 1 rfl qcm) ?_)));cases e;cases ag;exact qy ⟨(⟨none,0,.is 0⟩:Sl),(⟨none,0,.is 0⟩:Sl),rfl,(qw _),(qw _),((((((((((V.trans Q).trans U).trans I).trans F).trans y).trans A).trans C).trans H).updr (qbq ((V.trans Q)).size (qbp _)) Z).updr (qbq (((V.trans Q).trans U)).size (qbp _)) a0),(qu _),(qu _)⟩
      ·replace e:=(condF c3).symm.trans e;refine qz (qbf (((((((U.trans I).trans F).trans y).trans A).trans C).trans H).has b6) 1 rfl qcm) ?_;obtain⟨ep,di,d6,dl,Y,dm⟩:=ku8 (n4.grow ((((((((V.trans Q).trans U).trans I).trans F).trans y).trans A).trans C).trans H)) (ad.grow (C.trans H));refine qz d6 (qz rfl (qz (seen qcm) (qz (seen qcn) (qz (qbf (((((((((Q.trans U).trans I).trans F).trans y).trans A).trans C).trans H).trans Y).has b5) 0 rfl rfl) ?_))));obtain⟨d7,d4,d8,d9,ac,c5⟩:=kdj (bp.grow Y) a1;refine qz d8 (qz rfl ?_);refine qbb rfl ?_;refine qz (seenAt rfl rfl) (qz (seenAt rfl qcm) ?_);obtain⟨ea,eq,eb,ec,ah,c6⟩:=kdj (dl.grow ac) false;refine qz eb (qz rfl ?_);refine qbb rfl ?_;refine qz (seenAt rfl rfl) (qz (seenAt rfl qcm) ?_);refine qba (((((((((I.trans F).trans y).trans A).trans C).trans H).trans Y).trans ac).trans ah).has K) rfl λer ed ai=>?_;have b0:=(ay.grow ((((C.trans H).trans Y).trans ac).trans ah)).upda (qbj ap (((I.trans F).trans y).has K).lt) ai;have br:=(ad.grow ((((C.trans H).trans Y).trans ac).trans ah)).upda (qbj ae (((I.trans F).trans y).has K).lt) ai;have b1:=(az.grow (((H.trans Y).trans ac).trans ah)).upda (qbj af ((((I.trans F).trans y).trans A).has K).lt) ai;have b2:=(bp.grow ((Y.trans ac).trans ah)).upda (qbj aq (((((I.trans F).trans y).trans A).trans C).has K).lt) ai;have b3:=(dl.grow (ac.trans ah)).upda (qbj dm ((((((I.trans F).trans y).trans A).trans C).trans H).has K).lt) ai;have b4:=(d9.grow ah).upda (qbj c5 (((((((I.trans F).trans y).trans A).trans C).trans H).trans Y).has K).lt) ai;have ca:=ec.upda (qbj c6 ((((((((I.trans F).trans y).trans A).trans C).trans H).trans Y).trans ac).has K).lt) ai;have c7:=qx ((((((((F.trans y).trans A).trans C).trans H).trans Y).trans ac).trans ah).has X) (Nat.ne_of_gt (qbr (K).lt (qbp _))) ai;have c8:=qx (((((((y.trans A).trans C).trans H).trans Y).trans ac).trans ah).has b9) (Nat.ne_of_gt (qbr (I.has K).lt (qbp _))) ai;refine qba c7 rfl λet dn aj=>?_;have du:=b0.upda (qbj ap ((F.trans y).has X).lt) aj;have dp:=br.upda (qbj ae ((F.trans y).has X).lt) aj;have dv:=b1.upda (qbj af (((F.trans y).trans A).has X).lt) aj;have dw:=b2.upda (qbj aq ((((F.trans y).trans A).trans C).has X).lt) aj;have dx:=b3.upda (qbj dm (((((F.trans y).trans A).trans C).trans H).has X).lt) aj;have cb:=b4.upda (qbj c5 ((((((F.trans y).trans A).trans C).trans H).trans Y).has X).lt) aj;have cc:=ca.upda (qbj c6 (((((((F.trans y).trans A).trans C).trans H).trans Y).trans ac).has X).lt) aj;have bg:=qx ed (Nat.ne_of_lt (qbr (K).lt (qbp _))) aj;have ee:=qx c8 (Nat.ne_of_gt (qbr (X).lt (qbp _))) aj;refine qz (qbf bg 0 rfl rfl) (qz (qbf bg 1 rfl qcm) (qz (qbf dn 0 rfl rfl) (qz (qbf dn 1 rfl qcm) ?_)));cases e;cases ag;exact qy ⟨d7,ea,rfl,cb,cc,(((((((((((((V.trans Q).trans U).trans I).trans F).trans y).trans A).trans C).trans H).trans Y).trans ac).trans ah).updr (qbq ((V.trans Q)).size (qbp _)) ai).updr (qbq (((V.trans Q).trans U)).size (qbp _)) aj),(c5.of_le (((((((((V.trans Q).trans U).trans I).trans F).trans y).trans A).trans C).trans H).trans Y)),(c6.of_le ((((((((((V.trans Q).trans U).trans I).trans F).trans y).trans A).trans C).trans H).trans Y).trans ac))⟩
     ·replace e:=(condF c1).symm.trans e;refine qz (qbf ((((((Q.trans U).trans I).trans F).trans y).trans A).has b5) 0 rfl rfl) ?_;obtain⟨bx,df,bn,az,C,af⟩:=kdj ay a1;refine qz bn (qz rfl ?_);refine qbb rfl ?_;refine qz (seenAt rfl rfl) (qz (seenAt rfl qcm) ?_);obtain⟨dg,dh,c2,bp,H,aq⟩:=kdj (ad.grow C) false;refine qz c2 (qz rfl ?_);refine qbb rfl ?_;refine qz (seenAt rfl rfl) (qz (seenAt rfl qcm) ?_);refine qba ((((((I.trans F).trans y).trans A).trans C).trans H).has K) rfl λef cd aa=>?_;have bh:=(ay.grow (C.trans H)).upda (qbj ap (((I.trans F).trans y).has K).lt) aa;have au:=(ad.grow (C.trans H)).upda (qbj ae (((I.trans F).trans y).has K).lt) aa;have an:=(az.grow H).upda (qbj af ((((I.trans F).trans y).trans A).has K).lt) aa;have ce:=bp.upda (qbj aq (((((I.trans F).trans y).trans A).trans C).has K).lt) aa;have c9:=qx (((((F.trans y).trans A).trans C).trans H).has X) (Nat.ne_of_gt (qbr (K).lt (qbp _))) aa;have bt:=qx ((((y.trans A).trans C).trans H).has b9) (Nat.ne_of_gt (qbr (I.has K).lt (qbp _))) aa;refine qba c9 rfl λdi bz Z=>?_;have be:=bh.upda (qbj ap ((F.trans y).has X).lt) Z;have ar:=au.upda (qbj ae ((F.trans y).has X).lt) Z;have al:=an.upda (qbj af (((F.trans y).trans A).has X).lt) Z;have am:=ce.upda (qbj aq ((((F.trans y).trans A).trans C).has X).lt) Z;have bi:=qx cd (Nat.ne_of_lt (qbr (K).lt (qbp _))) Z;have bq:=qx bt (Nat.ne_of_gt (qbr (X).lt (qbp _))) Z;refine qz (qbf bi 0 rfl rfl) (qz (qbf bi 1 rfl qcm) (qz (qbf bz 0 rfl rfl) (qz (qbf bz 1 rfl qcm) ?_)));cases e;cases ag;exact qy ⟨bx,dg,rfl,al,am,((((((((((V.trans Q).trans U).trans I).trans F).trans y).trans A).trans C).trans H).updr (qbq ((V.trans Q)).size (qbp _)) aa).updr (qbq (((V.trans Q).trans U)).size (qbp _)) Z),(af.of_le ((((((V.trans Q).trans U).trans I).trans F).trans y).trans A)),(aq.of_le (((((((V.trans Q).trans U).trans I).trans F).trans y).trans A).trans C))⟩
    ·replace e:=(condF c0).symm.trans e;refine qz (qbf ((((((Q.trans U).trans I).trans F).trans y).trans A).has b5) 0 rfl rfl) ?_;obtain⟨eg,eu,eh,ei,ak,da⟩:=kdj ay a1;refine qz eh (qz rfl ?_);refine qbb rfl ?_;refine qz (seenAt rfl rfl) (qz (seenAt rfl qcm) ?_);obtain⟨bx,df,bn,az,C,af⟩:=kdj (ad.grow ak) false;refine qz bn (qz rfl ?_);refine qbb rfl ?_;refine qz (seenAt rfl rfl) (qz (seenAt rfl qcm) ?_);refine qba ((((((I.trans F).trans y).trans A).trans ak).trans C).has K) rfl λdh ej ba=>?_;have cf:=(ay.grow (ak.trans C)).upda (qbj ap (((I.trans F).trans y).has K).lt) ba;have bu:=(ad.grow (ak.trans C)).upda (qbj ae (((I.trans F).trans y).has K).lt) ba;have cg:=(ei.grow C).upda (qbj da ((((I.trans F).trans y).trans A).has K).lt) ba;have ci:=az.upda (qbj af (((((I.trans F).trans y).trans A).trans ak).has K).lt) ba;have db:=qx (((((F.trans y).trans A).trans ak).trans C).has X) (Nat.ne_of_gt (qbr (K).lt (qbp _))) ba;have dc:=qx ((((y.trans A).trans ak).trans C).has b9) (Nat.ne_of_gt (qbr (I.has K).lt (qbp _))) ba;refine qba db rfl λef cd aa=>?_;have bh:=cf.upda (qbj ap ((F.trans y).has X).lt) aa;have au:=bu.upda (qbj ae ((F.trans y).has X).lt) aa;have cj:=cg.upda (qbj da (((F.trans y).trans A).has X).lt) aa;have an:=ci.upda (qbj af ((((F.trans y).trans A).trans ak).has X).lt) aa;have bj:=qx ej (Nat.ne_of_lt (qbr (K).lt (qbp _))) aa;have bt:=qx dc (Nat.ne_of_gt (qbr (X).lt (qbp _))) aa;refine qz (qbf bj 0 rfl rfl) (qz (qbf bj 1 rfl qcm) (qz (qbf cd 0 rfl rfl) (qz (qbf cd 1 rfl qcm) ?_)));cases e;cases ag;exact qy ⟨eg,bx,rfl,cj,an,((((((((((V.trans Q).trans U).trans I).trans F).trans y).trans A).trans ak).trans C).updr (qbq ((V.trans Q)).size (qbp _)) ba).updr (qbq (((V.trans Q).trans U)).size (qbp _)) aa),(da.of_le ((((((V.trans Q).trans U).trans I).trans F).trans y).trans A)),(af.of_le (((((((V.trans Q).trans U).trans I).trans F).trans y).trans A).trans ak))⟩
theorem kbb8{s:kka}{r:khq}(A:Iter kvy s r):kta r s:=qbg (λs o e y=>by
 cases s with
 | fn a1 x2 a3 x4=>exact @kbd1 _ _ a1 x2 a3 x4 e y
 | no=>exact True.intro
 ) A
inductive kk1
 | fn (a1:Bool) (x2:List Nat) (a3:Bool) (x4:List Nat)
 | no
abbrev khx:=Bool×List Nat×Bool×List Nat×Int
noncomputable def knh(a1:Bool)(x2:List Nat)(a3:Bool)(x4:List Nat):Option (kk1⊕khx) :=
 cond (!(rtI a1 x2)) (some (.inr (false,[],false,[],1))) (cond (!(rtI a3 x4)) (some (.inr (false,[],false,[],1))) (cond (decide ((List.length x4:Int)=0)) (some (.inr (false,[],false,[],3))) (cond (a3) (some (.inr (false,[],false,[],1))) (cond (!a1) (some (.inr ((((fromI false ((divN x2 x4).1)).1)),(fromI false ((divN x2 x4).1)).2,(((fromI false ((divN x2 x4).2.1)).1)),(fromI false ((divN x2 x4).2.1)).2,0))) (cond (decide ((List.length ((divN x2 x4).2.1):Int)=0)) (some (.inr ((((fromI true ((divN x2 x4).1)).1)),(fromI true ((divN x2 x4).1)).2,false,[],0))) ((u64P 1).bind λp18=>cond (!decide (((addN ((divN x2 x4).1) (digs B p18)).2)=0)) (some (.inr (false,[],false,[],((addN ((divN x2 x4).1) (digs B p18)).2)))) (some (.inr ((((fromI true ((addN ((divN x2 x4).1) (digs B p18)).1)).1)),(fromI true ((addN ((divN x2 x4).1) (digs B p18)).1)).2,(((fromI false ((subN x4 ((divN x2 x4).2.1)).1)).1)),(fromI false ((subN x4 ((divN x2 x4).2.1)).1)).2,0)))))))))
noncomputable def kxz:kk1->Option (kk1⊕khx)
 | .fn a1 x2 a3 x4=>knh a1 x2 a3 x4
 | .no=>none
@[reducible] def k3p(h0:AH)(r:khx)(v:AV)(h':AH):Prop:=∃s1:Sl,∃s2:Sl,v=.tup [.agg [.bool r.1,s1.v],.agg [.bool r.2.2.1,s2.v],.i r.2.2.2.2]/\Nats h' s1 r.2.1/\Nats h' s2 r.2.2.2.1/\Grow h0 h'/\Own h0 s1/\Own h0 s2
def ks4(r:khx):kk1->Prop
 | .fn a1 x2 a3 x4=>∀{h:AH}{a2:Sl}{a4:Sl},Nats h a2 x2->Nats h a4 x4->Runs (go (.fn kqf [.agg [.bool a1,a2.v],.agg [.bool a3,a4.v]]) h) (k3p h r)
 | .no=>True
theorem kbhp{r:khx}{o:kk1⊕khx}{a1:Bool}{x2:List Nat}{a3:Bool}{x4:List Nat}(e:knh a1 x2 a3 x4=some o)(Z:GoodS (ks4 r) r o):ks4 r (.fn a1 x2 a3 x4):=by
 intro h a2 a4 n2 n4;rw[k9b];unfold knh at e;refine q0 λH5 b5 V=>?_;refine q0 λH6 b6 Q=>?_;refine q0 λH7 K U=>?_;refine q0 λH8 b8 H=>?_;refine qz (qbf (((Q.trans U).trans H).has b5) 0 rfl rfl) (qz (qbf (((Q.trans U).trans H).has b5) 1 rfl qcm) ?_);obtain⟨H9,e9,F⟩:=kd8 (n2.grow (((V.trans Q).trans U).trans H)) a1;refine qz e9 (qz (seen rfl) (qz (qbf (((U.trans H).trans F).has b6) 0 rfl rfl) (qz (qbf (((U.trans H).trans F).has b6) 1 rfl qcm) ?_)));obtain⟨eb,dm,y⟩:=kd8 (n4.grow ((((V.trans Q).trans U).trans H).trans F)) a3;refine qz dm (qz (seen rfl) ?_);refine qbd (λcd=>?_) (λcd=>?_)
 ·replace e:=(condT cd).symm.trans e;refine qba (((H.trans F).trans y).has K) rfl λec dn c3=>?_;have ce:=qx ((F.trans y).has b8) (Nat.ne_of_gt (qbr (K).lt (qbp _))) c3;refine qba ce rfl λdp bn be=>?_;have ax:=qx dn (Nat.ne_of_lt (qbr (K).lt (qbp _))) be;refine qz (qbf ax 0 rfl rfl) (qz (qbf ax 1 rfl qcm) (qz (qbf bn 0 rfl rfl) (qz (qbf bn 1 rfl qcm) ?_)));cases e;cases Z;exact qy ⟨(⟨none,0,.is 0⟩:Sl),(⟨none,0,.is 0⟩:Sl),rfl,(qw _),(qw _),(((((((V.trans Q).trans U).trans H).trans F).trans y).updr (qbq ((V.trans Q)).size (qbp _)) c3).updr (qbq (((V.trans Q).trans U)).size (qbp _)) be),(qu _),(qu _)⟩
 ·replace e:=(condF cd).symm.trans e;refine qbd (λcf=>?_) (λcf=>?_)
  ·replace e:=(condT cf).symm.trans e;refine qba (((H.trans F).trans y).has K) rfl λdp bn be=>?_;have cg:=qx ((F.trans y).has b8) (Nat.ne_of_gt (qbr (K).lt (qbp _))) be;refine qba cg rfl λdq bp bf=>?_;have ay:=qx bn (Nat.ne_of_lt (qbr (K).lt (qbp _))) bf;refine qz (qbf ay 0 rfl rfl) (qz (qbf ay 1 rfl qcm) (qz (qbf bp 0 rfl rfl) (qz (qbf bp 1 rfl qcm) ?_)));cases e;cases Z;exact qy ⟨(⟨none,0,.is 0⟩:Sl),(⟨none,0,.is 0⟩:Sl),rfl,(qw _),(qw _),(((((((V.trans Q).trans U).trans H).trans F).trans y).updr (qbq ((V.trans Q)).size (qbp _)) be).updr (qbq (((V.trans Q).trans U)).size (qbp _)) bf),(qu _),(qu _)⟩
  ·replace e:=(condF cf).symm.trans e;refine qz (qbf ((((U.trans H).trans F).trans y).has b6) 1 rfl qcm) ?_;rw[(n4.grow (((((V.trans Q).trans U).trans H).trans F).trans y)).len];refine qbd (λci=>?_) (λci=>?_)
   ·replace e:=(condT ci).symm.trans e;refine qba (((H.trans F).trans y).has K) rfl λdq bp bf=>?_;have cj:=qx ((F.trans y).has b8) (Nat.ne_of_gt (qbr (K).lt (qbp _))) bf;refine qba cj rfl λc4 bq bg=>?_;have az:=qx bp (Nat.ne_of_lt (qbr (K).lt (qbp _))) bg;refine qz (qbf az 0 rfl rfl) (qz (qbf az 1 rfl qcm) (qz (qbf bq 0 rfl rfl) (qz (qbf bq 1 rfl qcm) ?_)));cases e;cases Z;exact qy ⟨(⟨none,0,.is 0⟩:Sl),(⟨none,0,.is 0⟩:Sl),rfl,(qw _),(qw _),(((((((V.trans Q).trans U).trans H).trans F).trans y).updr (qbq ((V.trans Q)).size (qbp _)) bf).updr (qbq (((V.trans Q).trans U)).size (qbp _)) bg),(qu _),(qu _)⟩
   ·replace e:=(condF ci).symm.trans e;refine qz (qbf ((((U.trans H).trans F).trans y).has b6) 0 rfl rfl) ?_;refine qbd (λcl=>?_) (λcl=>?_)
    ·replace e:=(condT cl).symm.trans e;refine qba (((H.trans F).trans y).has K) rfl λc4 bq bg=>?_;have cm:=qx ((F.trans y).has b8) (Nat.ne_of_gt (qbr (K).lt (qbp _))) bg;refine qba cm rfl λed c5 c6=>?_;have a0:=qx bq (Nat.ne_of_lt (qbr (K).lt (qbp _))) c6;refine qz (qbf a0 0 rfl rfl) (qz (qbf a0 1 rfl qcm) (qz (qbf c5 0 rfl rfl) (qz (qbf c5 1 rfl qcm) ?_)));cases e;cases Z;exact qy ⟨(⟨none,0,.is 0⟩:Sl),(⟨none,0,.is 0⟩:Sl),rfl,(qw _),(qw _),(((((((V.trans Q).trans U).trans H).trans F).trans y).updr (qbq ((V.trans Q)).size (qbp _)) bg).updr (qbq (((V.trans Q).trans U)).size (qbp _)) c6),(qu _),(qu _)⟩
    ·replace e:=(condF cl).symm.trans e;refine qz (qbf (((((Q.trans U).trans H).trans F).trans y).has b5) 1 rfl qcm) (qz (qbf ((((U.trans H).trans F).trans y).has b6) 1 rfl qcm) ?_);obtain⟨ee,ea,c4,dr,ar,ag,A,aq,aa⟩:=koi (n2.grow (((((V.trans Q).trans U).trans H).trans F).trans y)) (n4.grow (((((V.trans Q).trans U).trans H).trans F).trans y));refine qz dr (qz rfl (qz (seen qcm) (qz (seen qcm) ?_)));rw[ag.len];refine qz (seen qcn) (qz (qbf ((((((Q.trans U).trans H).trans F).trans y).trans A).has b5) 0 rfl rfl) ?_);refine qbd (λcp=>?_) (λcp=>?_)
     ·replace e:=(condT cp).symm.trans e;obtain⟨dt,ef,du,dv,ai,cu⟩:=kdu ar false;refine qz du (qz rfl ?_);refine qbb rfl ?_;refine qz (seenAt rfl rfl) (qz (seenAt rfl qcm) ?_);obtain⟨br,c7,bh,au,C,ac⟩:=kdu (ag.grow ai) false;refine qz bh (qz rfl ?_);refine qbb rfl ?_;refine qz (seenAt rfl rfl) (qz (seenAt rfl qcm) ?_);refine qba ((((((H.trans F).trans y).trans A).trans ai).trans C).has K) rfl λc8 cv ad=>?_;have aj:=(ar.grow (ai.trans C)).upda (qbj aq (((H.trans F).trans y).has K).lt) ad;have ah:=(ag.grow (ai.trans C)).upda (qbj aa (((H.trans F).trans y).has K).lt) ad;have bt:=(dv.grow C).upda (qbj cu ((((H.trans F).trans y).trans A).has K).lt) ad;have ak:=au.upda (qbj ac (((((H.trans F).trans y).trans A).trans ai).has K).lt) ad;have aw:=qx (((((F.trans y).trans A).trans ai).trans C).has b8) (Nat.ne_of_gt (qbr (K).lt (qbp _))) ad;refine qba aw rfl λdw bi ae=>?_;have bu:=aj.upda (qbj aq ((F.trans y).has b8).lt) ae;have bj:=ah.upda (qbj aa ((F.trans y).has b8).lt) ae;have bv:=bt.upda (qbj cu (((F.trans y).trans A).has b8).lt) ae;have al:=ak.upda (qbj ac ((((F.trans y).trans A).trans ai).has b8).lt) ae;have X:=qx cv (Nat.ne_of_lt (qbr (K).lt (qbp _))) ae;refine qz (qbf X 0 rfl rfl) (qz (qbf X 1 rfl qcm) (qz (qbf bi 0 rfl rfl) (qz (qbf bi 1 rfl qcm) ?_)));cases e;cases Z;exact qy ⟨dt,br,rfl,bv,al,((((((((((V.trans Q).trans U).trans H).trans F).trans y).trans A).trans ai).trans C).updr (qbq ((V.trans Q)).size (qbp _)) ad).updr (qbq (((V.trans Q).trans U)).size (qbp _)) ae),(cu.of_le ((((((V.trans Q).trans U).trans H).trans F).trans y).trans A)),(ac.of_le (((((((V.trans Q).trans U).trans H).trans F).trans y).trans A).trans ai))⟩
     ·replace e:=(condF cp).symm.trans e;refine qbd (λcw=>?_) (λcw=>?_)
      ·replace e:=(condT cw).symm.trans e;obtain⟨br,c7,bh,au,C,ac⟩:=kdu ar true;refine qz bh (qz rfl ?_);refine qbb rfl ?_;refine qz (seenAt rfl rfl) (qz (seenAt rfl qcm) ?_);refine qba (((((H.trans F).trans y).trans A).trans C).has K) rfl λc8 cv ad=>?_;have aj:=(ar.grow C).upda (qbj aq (((H.trans F).trans y).has K).lt) ad;have ah:=(ag.grow C).upda (qbj aa (((H.trans F).trans y).has K).lt) ad;have ak:=au.upda (qbj ac ((((H.trans F).trans y).trans A).has K).lt) ad;have aw:=qx ((((F.trans y).trans A).trans C).has b8) (Nat.ne_of_gt (qbr (K).lt (qbp _))) ad;refine qba aw rfl λdw bi ae=>?_;have bu:=aj.upda (qbj aq ((F.trans y).has b8).lt) ae;have bj:=ah.upda (qbj aa ((F.trans y).has b8).lt) ae;have al:=ak.upda (qbj ac (((F.trans y).trans A).has b8).lt) ae;have X:=qx cv (Nat.ne_of_lt (qbr (K).lt (qbp _))) ae;refine qz (qbf X 0 rfl rfl) (qz (qbf X 1 rfl qcm) (qz (qbf bi 0 rfl rfl) (qz (qbf bi 1 rfl qcm) ?_)));cases e;cases Z;exact qy ⟨br,(⟨none,0,.is 0⟩:Sl),rfl,al,(qw _),(((((((((V.trans Q).trans U).trans H).trans F).trans y).trans A).trans C).updr (qbq ((V.trans Q)).size (qbp _)) ad).updr (qbq (((V.trans Q).trans U)).size (qbp _)) ae),(ac.of_le ((((((V.trans Q).trans U).trans H).trans F).trans y).trans A)),(qu _)⟩
      ·replace e:=(condF cw).symm.trans e;obtain⟨p18,dx,e⟩:=qbu.1 e;obtain⟨br,c7,bh,au,C,ac⟩:=kbkl dx;refine qz bh (qz (seen qcm) ?_);obtain⟨eg,c8,dy,cx,I,bw⟩:=kwc (ar.grow C) au;refine qz dy (qz rfl (qz (seen qcm) (qz (seen qcn) ?_)));refine qbd (λcy=>?_) (λcy=>?_)
       ·replace e:=(condT cy).symm.trans e;refine qba ((((((H.trans F).trans y).trans A).trans C).trans I).has K) rfl λdz d0 bc=>?_;have bx:=(ar.grow (C.trans I)).upda (qbj aq (((H.trans F).trans y).has K).lt) bc;have bk:=(ag.grow (C.trans I)).upda (qbj aa (((H.trans F).trans y).has K).lt) bc;have bz:=(au.grow I).upda (qbj ac ((((H.trans F).trans y).trans A).has K).lt) bc;have b0:=cx.upda (qbj bw (((((H.trans F).trans y).trans A).trans C).has K).lt) bc;have cz:=qx (((((F.trans y).trans A).trans C).trans I).has b8) (Nat.ne_of_gt (qbr (K).lt (qbp _))) bc;refine qba cz rfl λd1 c9 bd=>?_;have df:=bx.upda (qbj aq ((F.trans y).has b8).lt) bd;have da:=bk.upda (qbj aa ((F.trans y).has b8).lt) bd;have dg:=bz.upda (qbj ac (((F.trans y).trans A).has b8).lt) bd;have dh:=b0.upda (qbj bw ((((F.trans y).trans A).trans C).has b8).lt) bd;have ba:=qx d0 (Nat.ne_of_lt (qbr (K).lt (qbp _))) bd;refine qz (qbf ba 0 rfl rfl) (qz (qbf ba 1 rfl qcm) (qz (qbf c9 0 rfl rfl) (qz (qbf c9 1 rfl qcm) ?_)));cases e;cases Z;exact qy ⟨(⟨none,0,.is 0⟩:Sl),(⟨none,0,.is 0⟩:Sl),rfl,(qw _),(qw _),((((((((((V.trans Q).trans U).trans H).trans F).trans y).trans A).trans C).trans I).updr (qbq ((V.trans Q)).size (qbp _)) bc).updr (qbq (((V.trans Q).trans U)).size (qbp _)) bd),(qu _),(qu _)⟩
       ·replace e:=(condF cy).symm.trans e;refine qz (qbf (((((((U.trans H).trans F).trans y).trans A).trans C).trans I).has b6) 1 rfl qcm) ?_;obtain⟨eh,dz,d2,db,Y,dc⟩:=kuq (n4.grow ((((((((V.trans Q).trans U).trans H).trans F).trans y).trans A).trans C).trans I)) (ag.grow (C.trans I));refine qz d2 (qz rfl (qz (seen qcm) (qz (seen qcn) ?_)));obtain⟨d3,d1,d4,d5,af,c0⟩:=kdu (cx.grow Y) true;refine qz d4 (qz rfl ?_);refine qbb rfl ?_;refine qz (seenAt rfl rfl) (qz (seenAt rfl qcm) ?_);obtain⟨d6,ei,d7,d8,am,c1⟩:=kdu (db.grow af) false;refine qz d7 (qz rfl ?_);refine qbb rfl ?_;refine qz (seenAt rfl rfl) (qz (seenAt rfl qcm) ?_);refine qba (((((((((H.trans F).trans y).trans A).trans C).trans I).trans Y).trans af).trans am).has K) rfl λej d9 an=>?_;have b1:=(ar.grow ((((C.trans I).trans Y).trans af).trans am)).upda (qbj aq (((H.trans F).trans y).has K).lt) an;have bm:=(ag.grow ((((C.trans I).trans Y).trans af).trans am)).upda (qbj aa (((H.trans F).trans y).has K).lt) an;have b2:=(au.grow (((I.trans Y).trans af).trans am)).upda (qbj ac ((((H.trans F).trans y).trans A).has K).lt) an;have b3:=(cx.grow ((Y.trans af).trans am)).upda (qbj bw (((((H.trans F).trans y).trans A).trans C).has K).lt) an;have b4:=(db.grow (af.trans am)).upda (qbj dc ((((((H.trans F).trans y).trans A).trans C).trans I).has K).lt) an;have b9:=(d5.grow am).upda (qbj c0 (((((((H.trans F).trans y).trans A).trans C).trans I).trans Y).has K).lt) an;have ca:=d8.upda (qbj c1 ((((((((H.trans F).trans y).trans A).trans C).trans I).trans Y).trans af).has K).lt) an;have c2:=qx ((((((((F.trans y).trans A).trans C).trans I).trans Y).trans af).trans am).has b8) (Nat.ne_of_gt (qbr (K).lt (qbp _))) an;refine qba c2 rfl λek dd ap=>?_;have di:=b1.upda (qbj aq ((F.trans y).has b8).lt) ap;have de:=bm.upda (qbj aa ((F.trans y).has b8).lt) ap;have dj:=b2.upda (qbj ac (((F.trans y).trans A).has b8).lt) ap;have dk:=b3.upda (qbj bw ((((F.trans y).trans A).trans C).has b8).lt) ap;have dl:=b4.upda (qbj dc (((((F.trans y).trans A).trans C).trans I).has b8).lt) ap;have cb:=b9.upda (qbj c0 ((((((F.trans y).trans A).trans C).trans I).trans Y).has b8).lt) ap;have cc:=ca.upda (qbj c1 (((((((F.trans y).trans A).trans C).trans I).trans Y).trans af).has b8).lt) ap;have bb:=qx d9 (Nat.ne_of_lt (qbr (K).lt (qbp _))) ap;refine qz (qbf bb 0 rfl rfl) (qz (qbf bb 1 rfl qcm) (qz (qbf dd 0 rfl rfl) (qz (qbf dd 1 rfl qcm) ?_)));cases e;cases Z;exact qy ⟨d3,d6,rfl,cb,cc,(((((((((((((V.trans Q).trans U).trans H).trans F).trans y).trans A).trans C).trans I).trans Y).trans af).trans am).updr (qbq ((V.trans Q)).size (qbp _)) an).updr (qbq (((V.trans Q).trans U)).size (qbp _)) ap),(c0.of_le (((((((((V.trans Q).trans U).trans H).trans F).trans y).trans A).trans C).trans I).trans Y)),(c1.of_le ((((((((((V.trans Q).trans U).trans H).trans F).trans y).trans A).trans C).trans I).trans Y).trans af))⟩
theorem k92{s:kk1}{r:khx}(A:Iter kxz s r):ks4 r s:=qbg (λs o e y=>by
 cases s with
 | fn a1 x2 a3 x4=>exact @kbhp _ _ a1 x2 a3 x4 e y
 | no=>exact True.intro
 ) A
end Go.Ab
