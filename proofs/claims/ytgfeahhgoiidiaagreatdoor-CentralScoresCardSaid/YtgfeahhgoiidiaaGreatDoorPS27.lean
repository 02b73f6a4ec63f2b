/- Words and laws that the last text joins. -/
import Derived.Test.YtgfeahhgoiidiaaGreatDoorPS2
import Derived.Test.YtgfeahhgoiidiaaGreatDoorPAbsL
set_option linter.unusedVariables false
set_option linter.unusedSimpArgs false
set_option linter.unusedSectionVars false
set_option maxRecDepth 10000
namespace Go.Ab
open IntKind (wrap)
open Go.Proofs Go.Num
def Bl(x n:Nat):Prop:=x<2^n/\(n=0\/2^(n-1)<=x)
def bl(i:Nat):Nat:=if i=0 then 0 else Nat.log2 i+1
theorem kbj8:∀i:Nat,i<256->(lit1[i]?).map (·.toNat)=some (bl i):=by decide +kernel
theorem bl_Bl(i:Nat):Bl i (bl i):=by
 unfold bl Bl;by_cases h:i=0
 ·subst h;simp
 ·rw[if_neg h];refine⟨Nat.lt_log2_self,.inr ?_⟩
  simpa using Nat.log2_self_le h
theorem k7j{i:Nat}(h:i<256):∃b:UInt8,lit1[i]?=some b/\Bl i b.toNat:=by have e:=kbj8 i h;rw[Option.map_eq_some_iff]at e;obtain⟨b,A,C⟩:=e;exact⟨b,A,by rw[C];exact bl_Bl i⟩
theorem Bl.up{x k n:Nat}(b:Bl (x/2^k) n)(h:0<x/2^k):Bl x (k+n):=by
 obtain⟨h1,A⟩:=b;have p:0<2^k:=Nat.pow_pos (by decide);refine⟨?_,.inr ?_⟩
 ·rw[Nat.pow_add,Nat.mul_comm];exact(Nat.div_lt_iff_lt_mul p).1 h1
 ·rcases A with rfl | A
  ·rw[Nat.pow_zero]at h1;omega
  ·by_cases C:n=0
   ·subst C;rw[Nat.pow_zero]at h1;omega
   ·rw[show k+n-1=k+(n-1)from by omega,Nat.pow_add,Nat.mul_comm];exact(Nat.le_div_iff_mul_le p).1 A
theorem Bl.le{x n:Nat}(b:Bl x n){m:Nat}(h:x<2^m):n<=m:=by
 rcases b.2 with h1 | h1
 ·omega
 ·rcases Nat.lt_or_ge m n with A | A
  ·have:2^m<=2^(n-1):=Nat.pow_le_pow_right (by decide) (by omega);omega
  ·exact A
theorem wrap8{n:Nat}(h:n<256):wrap .u8 (n:Int)=(n:Int):=by simp[IntKind.wrap,IntKind.bits,IntKind.signed];omega
theorem khp{x:Nat}(A:x<256){P:AV->AH->Prop}{h:AH}{K:Int->Int}(H:∀n:Nat,Bl x n->n<=8->P (.i (K (n:Int))) h) :
  Runs (cond (decide (0<=(wrap .u8 (x:Int)))) ((lit1[Int.toNat (wrap .u8 (x:Int))]?).bind λb=>some (.i (K (wrap .i64 (b.toNat:Int))),h)) none) P:=by
 rw[wrap8 A,Int.toNat_natCast];obtain⟨b,F,C⟩:=k7j A;refine qbb (by rw[qbw];omega) ?_;refine qz F ?_;have:=C.le (m:=8) A;rw[kfy (by omega)];exact qy (H _ C this)
theorem kbjc{x:Nat}(hx:x<18446744073709551616){h:AH}:∃n:Nat,go (.fn kre [.int .u64 (x:Int)]) h=some (.i (n:Int),h)/\Bl x n:=by
 have key:Runs (go (.fn kre [.int .u64 (x:Int)]) h) λv h'=>∃n:Nat,v=.i (n:Int)/\h'=h/\Bl x n:=by
  rw[kbej];have X:ishr .u64 (x:Int) 32=((x/2^32:Nat):Int):=kct x 32;have Y:ishr .u64 (x:Int) 16=((x/2^16:Nat):Int):=kct x 16;have s8:ishr .u64 (x:Int) 8=((x/2^8:Nat):Int):=kct x 8;have F:ishr .u64 ((x/2^32:Nat):Int) 16=((x/2^32/2^16:Nat):Int):=kct _ 16;have Q:ishr .u64 ((x/2^32:Nat):Int) 8=((x/2^32/2^8:Nat):Int):=kct _ 8;have U:ishr .u64 ((x/2^16:Nat):Int) 8=((x/2^16/2^8:Nat):Int):=kct _ 8;have C:ishr .u64 ((x/2^32/2^16:Nat):Int) 8=((x/2^32/2^16/2^8:Nat):Int):=kct _ 8;rw[X,F,C,Q,Y,U,s8];refine qbd (λZ=>?_) (λZ=>?_)
  ·rw[qbw]at Z;refine qbd (λH=>?_) (λH=>?_)
   ·rw[qbw]at H;refine qbd (λA=>?_) (λA=>?_)
    ·rw[qbw]at A;refine khp (K:=λn=>wrap .i64 ((wrap .i64 ((wrap .i64 (32+16))+8))+n)) (by omega) λn b I=>⟨32+(16+(8+n)),?_,rfl,((b.up (by omega)).up (by omega)).up (by omega)⟩;rw[show(wrap .i64 ((wrap .i64 (32+16))+8))=56 from by decide,wrap64 (by omega) (by omega)];congr 1;omega
    ·rw[qbv]at A;refine khp (K:=λn=>wrap .i64 ((wrap .i64 (32+16))+n)) (by omega) λn b I=>⟨32+(16+n),?_,rfl,(b.up (by omega)).up (by omega)⟩;rw[show(wrap .i64 (32+16))=48 from by decide,wrap64 (by omega) (by omega)];congr 1;omega
   ·rw[qbv]at H;refine qbd (λA=>?_) (λA=>?_)
    ·rw[qbw]at A;refine khp (K:=λn=>wrap .i64 ((wrap .i64 (32+8))+n)) (by omega) λn b I=>⟨32+(8+n),?_,rfl,(b.up (by omega)).up (by omega)⟩;rw[show(wrap .i64 (32+8))=40 from by decide,wrap64 (by omega) (by omega)];congr 1;omega
    ·rw[qbv]at A;refine khp (K:=λn=>wrap .i64 (32+n)) (by omega) λn b I=>⟨32+n,?_,rfl,b.up (by omega)⟩;rw[wrap64 (by omega) (by omega)];congr 1
  ·rw[qbv]at Z;refine qbd (λH=>?_) (λH=>?_)
   ·rw[qbw]at H;refine qbd (λA=>?_) (λA=>?_)
    ·rw[qbw]at A;refine khp (K:=λn=>wrap .i64 ((wrap .i64 ((wrap .i64 (0+16))+8))+n)) (by omega) λn b I=>⟨16+(8+n),?_,rfl,(b.up (by omega)).up (by omega)⟩;rw[show(wrap .i64 ((wrap .i64 (0+16))+8))=24 from by decide,wrap64 (by omega) (by omega)];congr 1;omega
    ·rw[qbv]at A;refine khp (K:=λn=>wrap .i64 ((wrap .i64 (0+16))+n)) (by omega) λn b I=>⟨16+n,?_,rfl,b.up (by omega)⟩;rw[show(wrap .i64 (0+16))=16 from by decide,wrap64 (by omega) (by omega)];congr 1
   ·rw[qbv]at H;refine qbd (λA=>?_) (λA=>?_)
    ·rw[qbw]at A;refine khp (K:=λn=>wrap .i64 ((wrap .i64 (0+8))+n)) (by omega) λn b I=>⟨8+n,?_,rfl,b.up (by omega)⟩;rw[show(wrap .i64 (0+8))=8 from by decide,wrap64 (by omega) (by omega)];congr 1
    ·rw[qbv]at A;refine khp (K:=λn=>wrap .i64 (0+n)) (by omega) λn b I=>⟨n,?_,rfl,b⟩;rw[wrap64 (by omega) (by omega)];congr 1;omega
 obtain⟨_,_,e,n,rfl,rfl,b⟩:=key;exact⟨n,e,b⟩
end Go.Ab
set_option maxRecDepth 10000
namespace Go.Ab
open Go.Proofs Go.Num
theorem Bl.uniq{x n m:Nat}(a:Bl x n)(b:Bl x m):n=m:=Nat.le_antisymm (a.le b.1) (b.le a.1)
theorem k0g(a:Int){h:AH}(A:0<=a/\a<18446744073709551616):go (.fn krh [.int .u64 a]) h=some (.i ((64-bl a.toNat:Nat):Int),h):=by obtain⟨x,rfl⟩:∃x:Nat,a=(x:Int):=⟨a.toNat,by omega⟩;obtain⟨l,e,b⟩:=kbjc (x:=x) (by omega) (h:=h);have C:=b.le (m:=64) (show x<2^64 by omega);have:=b.uniq (bl_Bl x);subst this;rw[kbhf,e,qbt,qbt,kb,qbt,Int.toNat_natCast,wrap64 (by omega) (by omega)];rw[show(64:Int)-(bl x:Int)=((64-bl x:Nat):Int)from by omega]
theorem kwj{x:Nat}(F:x<18446744073709551616)(h0:0<x):64-bl x<=63/\9223372036854775808<=x*2^(64-bl x)/\x*2^(64-bl x)<18446744073709551616:=by
 have b:=bl_Bl x;generalize bl x=l at b;have H:=b.le (m:=64) (show x<2^64 by omega)
 have C:1<=l:=by
  rcases Nat.eq_zero_or_pos l with e | e
  ·subst e;have:=b.1;rw[Nat.pow_zero]at this;omega
  ·exact e
 refine⟨by omega,?_,?_⟩
 ·rcases b.2 with h1 | h1
  ·omega
  ·have A:2^(l-1)*2^(64-l)<=x*2^(64-l):=Nat.mul_le_mul_right _ h1;rw[<- Nat.pow_add,show l-1+(64-l)=63 from by omega]at A;exact A
 ·have A:x*2^(64-l)<2^l*2^(64-l):=Nat.mul_lt_mul_of_pos_right b.1 (Nat.pow_pos (by decide));rw[<- Nat.pow_add,show l+(64-l)=64 from by omega]at A;exact A
theorem klg(x n:Nat)(A:n<=64):ishl .u64 (x:Int) (n:Int)=((x*2^n%18446744073709551616:Nat):Int):=by
 unfold ishl;rw[Int.toNat_natCast,show IntKind.bits .u64=64 from rfl,Nat.min_eq_left A,wrapU];have:(x:Int)*(2:Int)^n=((x*2^n:Nat):Int):=by simp
 rw[this];rfl
theorem ktq{a c s:Nat}(h:a*2^s<18446744073709551616)(C:c<2^s)(I:s<=64):ior .u64 ((a*2^s:Nat):Int) (c:Int)=((a*2^s+c:Nat):Int):=by
 have p:0<2^s:=Nat.pow_pos (by decide);have A:c<18446744073709551616:=show c<2^64 from qbr C (Nat.pow_le_pow_right (by decide) I)
 have F:a*2^s+c<18446744073709551616:=by
  have e:2^(64-s)*2^s=18446744073709551616:=by rw[<- Nat.pow_add,show 64-s+s=64 from by omega]
  have h1:a<2^(64-s):=Nat.lt_of_mul_lt_mul_right (a:=2^s) (by rw[e];exact h);have K:(a+1)*2^s<=2^(64-s)*2^s:=Nat.mul_le_mul_right _ h1;rw[e,Nat.add_mul,Nat.one_mul]at K;omega
 unfold ior;rw[show IntKind.bits .u64=64 from rfl,wrapU];have Q:BitVec.ofInt 64 ((a*2^s:Nat):Int)=BitVec.ofNat 64 (a*2^s):=rfl;have U:BitVec.ofInt 64 (c:Int)=BitVec.ofNat 64 c:=rfl;have H:=Nat.shiftLeft_add_eq_or_of_lt C a;rw[Nat.shiftLeft_eq]at H;rw[Q,U,BitVec.toNat_or,BitVec.toNat_ofNat,BitVec.toNat_ofNat,Nat.mod_eq_of_lt (show a*2^s<2^64 from h),Nat.mod_eq_of_lt (show c<2^64 from A),<- H];omega
end Go.Ab
set_option maxRecDepth 10000
namespace Go.Ab
open IntKind (wrap)
open Go.Proofs Go.Num
inductive kc0
 | fn (a1:Int) (a2:Int) (a3:Int)
 | p3 (a1:Int) (a2:Int) (a3:Int)
 | p17 (a1:Int) (a2:Int) (a3:Int) (a4:Int) (a5:Int) (a6:Int) (a7:Int) (a8:Int) (a9:Int)
 | p24 (a1:Int) (a2:Int) (a3:Int) (a4:Int) (a5:Int) (a6:Int) (a7:Int) (a8:Int) (a9:Int)
abbrev kb9:=Int×Int
noncomputable def kll(a1 a2 a3:Int):Option (kc0⊕kb9):=cond (decide (a3=0)) (none) (some (.inl (.p3 a1 a2 a3)))
noncomputable def kh3(a1 a2 a3:Int):Option (kc0⊕kb9):=cond (decide (a3<=a1)) (none) (cond (decide (a1=0)) (cond (decide (a3=0)) (none) (cond (decide (a3=0)) (none) (some (.inr (wrap .u64 (Int.tdiv a2 a3),Int.tmod a2 a3))))) ((need (0<=a3/\a3<18446744073709551616)).bind λA=>cond (decide ((wrap .u64 (((64-bl (Int.toNat a3):Nat):Int)))<0)) (none) (cond (decide ((wrap .u64 (((64-bl (Int.toNat a3):Nat):Int)))<0)) (none) (cond (decide ((wrap .u64 (64-(wrap .u64 (((64-bl (Int.toNat a3):Nat):Int)))))<0)) (none) (cond (decide ((wrap .u64 (((64-bl (Int.toNat a3):Nat):Int)))<0)) (none) (cond (decide ((ishr .u64 (ishl .u64 a3 (wrap .u64 (((64-bl (Int.toNat a3):Nat):Int)))) 32)=0)) (none) (some (.inl (.p17 (ishl .u64 a3 (wrap .u64 (((64-bl (Int.toNat a3):Nat):Int)))) (wrap .u64 (((64-bl (Int.toNat a3):Nat):Int))) (ishr .u64 (ishl .u64 a3 (wrap .u64 (((64-bl (Int.toNat a3):Nat):Int)))) 32) (iand .u64 (ishl .u64 a3 (wrap .u64 (((64-bl (Int.toNat a3):Nat):Int)))) 4294967295) (ior .u64 (ishl .u64 a1 (wrap .u64 (((64-bl (Int.toNat a3):Nat):Int)))) (ishr .u64 a2 (wrap .u64 (64-(wrap .u64 (((64-bl (Int.toNat a3):Nat):Int))))))) (ishr .u64 (ishl .u64 a2 (wrap .u64 (((64-bl (Int.toNat a3):Nat):Int)))) 32) (iand .u64 (ishl .u64 a2 (wrap .u64 (((64-bl (Int.toNat a3):Nat):Int)))) 4294967295) (wrap .u64 (Int.tdiv (ior .u64 (ishl .u64 a1 (wrap .u64 (((64-bl (Int.toNat a3):Nat):Int)))) (ishr .u64 a2 (wrap .u64 (64-(wrap .u64 (((64-bl (Int.toNat a3):Nat):Int))))))) (ishr .u64 (ishl .u64 a3 (wrap .u64 (((64-bl (Int.toNat a3):Nat):Int)))) 32))) (wrap .u64 ((ior .u64 (ishl .u64 a1 (wrap .u64 (((64-bl (Int.toNat a3):Nat):Int)))) (ishr .u64 a2 (wrap .u64 (64-(wrap .u64 (((64-bl (Int.toNat a3):Nat):Int)))))))-(wrap .u64 ((wrap .u64 (Int.tdiv (ior .u64 (ishl .u64 a1 (wrap .u64 (((64-bl (Int.toNat a3):Nat):Int)))) (ishr .u64 a2 (wrap .u64 (64-(wrap .u64 (((64-bl (Int.toNat a3):Nat):Int))))))) (ishr .u64 (ishl .u64 a3 (wrap .u64 (((64-bl (Int.toNat a3):Nat):Int)))) 32)))*(ishr .u64 (ishl .u64 a3 (wrap .u64 (((64-bl (Int.toNat a3):Nat):Int)))) 32))))))))))))))
noncomputable def kfw(a1 a2 a3 a4 a5 a6 a7 a8 a9:Int):Option (kc0⊕kb9):=cond (decide (a8>=4294967296)) (cond (decide ((wrap .u64 (a9+a3))>=4294967296)) (cond (decide (a3=0)) (none) (some (.inl (.p24 a1 a2 a3 a4 a7 (wrap .u64 (a8-1)) (wrap .u64 ((wrap .u64 ((wrap .u64 ((wrap .u64 (a5*4294967296))+a6))-(wrap .u64 ((wrap .u64 (a8-1))*a1))))-(wrap .u64 ((wrap .u64 (Int.tdiv (wrap .u64 ((wrap .u64 ((wrap .u64 (a5*4294967296))+a6))-(wrap .u64 ((wrap .u64 (a8-1))*a1)))) a3))*a3)))) (wrap .u64 ((wrap .u64 ((wrap .u64 (a5*4294967296))+a6))-(wrap .u64 ((wrap .u64 (a8-1))*a1)))) (wrap .u64 (Int.tdiv (wrap .u64 ((wrap .u64 ((wrap .u64 (a5*4294967296))+a6))-(wrap .u64 ((wrap .u64 (a8-1))*a1)))) a3)))))) (some (.inl (.p17 a1 a2 a3 a4 a5 a6 a7 (wrap .u64 (a8-1)) (wrap .u64 (a9+a3)))))) (cond (decide ((wrap .u64 (a8*a4))>(wrap .u64 ((wrap .u64 (4294967296*a9))+a6)))) (cond (decide ((wrap .u64 (a9+a3))>=4294967296)) (cond (decide (a3=0)) (none) (some (.inl (.p24 a1 a2 a3 a4 a7 (wrap .u64 (a8-1)) (wrap .u64 ((wrap .u64 ((wrap .u64 ((wrap .u64 (a5*4294967296))+a6))-(wrap .u64 ((wrap .u64 (a8-1))*a1))))-(wrap .u64 ((wrap .u64 (Int.tdiv (wrap .u64 ((wrap .u64 ((wrap .u64 (a5*4294967296))+a6))-(wrap .u64 ((wrap .u64 (a8-1))*a1)))) a3))*a3)))) (wrap .u64 ((wrap .u64 ((wrap .u64 (a5*4294967296))+a6))-(wrap .u64 ((wrap .u64 (a8-1))*a1)))) (wrap .u64 (Int.tdiv (wrap .u64 ((wrap .u64 ((wrap .u64 (a5*4294967296))+a6))-(wrap .u64 ((wrap .u64 (a8-1))*a1)))) a3)))))) (some (.inl (.p17 a1 a2 a3 a4 a5 a6 a7 (wrap .u64 (a8-1)) (wrap .u64 (a9+a3)))))) (cond (decide (a3=0)) (none) (some (.inl (.p24 a1 a2 a3 a4 a7 a8 (wrap .u64 ((wrap .u64 ((wrap .u64 ((wrap .u64 (a5*4294967296))+a6))-(wrap .u64 (a8*a1))))-(wrap .u64 ((wrap .u64 (Int.tdiv (wrap .u64 ((wrap .u64 ((wrap .u64 (a5*4294967296))+a6))-(wrap .u64 (a8*a1)))) a3))*a3)))) (wrap .u64 ((wrap .u64 ((wrap .u64 (a5*4294967296))+a6))-(wrap .u64 (a8*a1)))) (wrap .u64 (Int.tdiv (wrap .u64 ((wrap .u64 ((wrap .u64 (a5*4294967296))+a6))-(wrap .u64 (a8*a1)))) a3)))))))
noncomputable def kgs(a1 a2 a3 a4 a5 a6 a7 a8 a9:Int):Option (kc0⊕kb9):=cond (decide (a9>=4294967296)) (cond (decide ((wrap .u64 (a7+a3))>=4294967296)) (cond (decide (a2<0)) (none) (some (.inr (wrap .u64 ((wrap .u64 (a6*4294967296))+(wrap .u64 (a9-1))),ishr .u64 (wrap .u64 ((wrap .u64 ((wrap .u64 (a8*4294967296))+a5))-(wrap .u64 ((wrap .u64 (a9-1))*a1)))) a2)))) (some (.inl (.p24 a1 a2 a3 a4 a5 a6 (wrap .u64 (a7+a3)) a8 (wrap .u64 (a9-1)))))) (cond (decide ((wrap .u64 (a9*a4))>(wrap .u64 ((wrap .u64 (4294967296*a7))+a5)))) (cond (decide ((wrap .u64 (a7+a3))>=4294967296)) (cond (decide (a2<0)) (none) (some (.inr (wrap .u64 ((wrap .u64 (a6*4294967296))+(wrap .u64 (a9-1))),ishr .u64 (wrap .u64 ((wrap .u64 ((wrap .u64 (a8*4294967296))+a5))-(wrap .u64 ((wrap .u64 (a9-1))*a1)))) a2)))) (some (.inl (.p24 a1 a2 a3 a4 a5 a6 (wrap .u64 (a7+a3)) a8 (wrap .u64 (a9-1)))))) (cond (decide (a2<0)) (none) (some (.inr (wrap .u64 ((wrap .u64 (a6*4294967296))+a9),ishr .u64 (wrap .u64 ((wrap .u64 ((wrap .u64 (a8*4294967296))+a5))-(wrap .u64 (a9*a1)))) a2)))))
noncomputable def kfl:kc0->Option (kc0⊕kb9)
 | .fn a1 a2 a3=>kll a1 a2 a3
 | .p3 a1 a2 a3=>kh3 a1 a2 a3
 | .p17 a1 a2 a3 a4 a5 a6 a7 a8 a9=>kfw a1 a2 a3 a4 a5 a6 a7 a8 a9
 | .p24 a1 a2 a3 a4 a5 a6 a7 a8 a9=>kgs a1 a2 a3 a4 a5 a6 a7 a8 a9
@[reducible] def kqu(h0:AH)(r:kb9)(v:AV)(h':AH):Prop:=v=.tup [.int .u64 r.1,.int .u64 r.2]/\Grow h0 h'
def kfx(r:kb9):kc0->Prop
 | .fn a1 a2 a3=>∀{h:AH},Runs (go (.fn kb5 [.int .u64 a1,.int .u64 a2,.int .u64 a3]) h) (kqu h r)
 | .p3 a1 a2 a3=>∀{h0 h:AH},Grow h0 h->Runs (go (.pt kb5 kr7 [(0,.int .u64 a1),(1,.int .u64 a2),(2,.int .u64 a3)]) h) (kqu h0 r)
 | .p17 a1 a2 a3 a4 a5 a6 a7 a8 a9=>∀{h0 h:AH},Grow h0 h->Runs (go (.pt kb5 kly [(2,.int .u64 a1),(8,.int .u64 a2),(9,.int .u64 a3),(10,.int .u64 a4),(11,.int .u64 a5),(13,.int .u64 a6),(14,.int .u64 a7),(15,.int .u64 a8),(16,.int .u64 a9)]) h) (kqu h0 r)
 | .p24 a1 a2 a3 a4 a5 a6 a7 a8 a9=>∀{h0 h:AH},Grow h0 h->Runs (go (.pt kb5 ki6 [(2,.int .u64 a1),(8,.int .u64 a2),(9,.int .u64 a3),(10,.int .u64 a4),(14,.int .u64 a5),(15,.int .u64 a6),(16,.int .u64 a7),(17,.int .u64 a8),(18,.int .u64 a9)]) h) (kqu h0 r)
theorem kblr{r:kb9}{o:kc0⊕kb9}{a1 a2 a3:Int}(e:kll a1 a2 a3=some o)(A:GoodS (kfx r) r o):kfx r (.fn a1 a2 a3):=by
 intro h;rw[kbk5];unfold kll at e;refine qbd (λC=>?_) (λC=>?_)
 ·replace e:=(condT C).symm.trans e;cases e
 ·replace e:=(condF C).symm.trans e;cases e;exact A (ql _)
theorem k78{r:kb9}{o:kc0⊕kb9}{a1 a2 a3:Int}(e:kh3 a1 a2 a3=some o)(A:GoodS (kfx r) r o):kfx r (.p3 a1 a2 a3):=by
 intro h0 h Z;rw[kbgo];unfold kh3 at e;refine qbd (λK=>?_) (λK=>?_)
 ·replace e:=(condT K).symm.trans e;cases e
 ·replace e:=(condF K).symm.trans e;refine qbd (λQ=>?_) (λQ=>?_)
  ·replace e:=(condT Q).symm.trans e;refine qbd (λU=>?_) (λU=>?_)
   ·replace e:=(condT U).symm.trans e;cases e
   ·replace e:=(condF U).symm.trans e;refine qbd (λC=>?_) (λC=>?_)
    ·replace e:=(condT C).symm.trans e;cases e
    ·replace e:=(condF C).symm.trans e;cases e;cases A;exact qy ⟨rfl,Z⟩
  ·replace e:=(condF Q).symm.trans e;obtain⟨I,aa,e⟩:=qbu.1 e;refine qz (k0g a3  I.down) (qz (seen qcp) ?_);refine qbd (λC=>?_) (λC=>?_)
   ·replace e:=(condT C).symm.trans e;cases e
   ·replace e:=(condF C).symm.trans e;refine qbd (λX=>?_) (λX=>?_)
    ·replace e:=(condT X).symm.trans e;cases e
    ·replace e:=(condF X).symm.trans e;refine qbd (λY=>?_) (λY=>?_)
     ·replace e:=(condT Y).symm.trans e;cases e
     ·replace e:=(condF Y).symm.trans e;refine qbd (λF=>?_) (λF=>?_)
      ·replace e:=(condT F).symm.trans e;cases e
      ·replace e:=(condF F).symm.trans e;refine qbd (λH=>?_) (λH=>?_)
       ·replace e:=(condT H).symm.trans e;cases e
       ·replace e:=(condF H).symm.trans e;cases e;exact A Z
theorem kbeb{r:kb9}{o:kc0⊕kb9}{a1 a2 a3 a4 a5 a6 a7 a8 a9:Int}(e:kfw a1 a2 a3 a4 a5 a6 a7 a8 a9=some o)(C:GoodS (kfx r) r o):kfx r (.p17 a1 a2 a3 a4 a5 a6 a7 a8 a9):=by
 intro h0 h K;rw[kbkz];unfold kfw at e;refine qbd (λH=>?_) (λH=>?_)
 ·replace e:=(condT H).symm.trans e;refine qbd (λF=>?_) (λF=>?_)
  ·replace e:=(condT F).symm.trans e;refine qbd (λA=>?_) (λA=>?_)
   ·replace e:=(condT A).symm.trans e;cases e
   ·replace e:=(condF A).symm.trans e;cases e;exact C K
  ·replace e:=(condF F).symm.trans e;cases e;exact C K
 ·replace e:=(condF H).symm.trans e;refine qbd (λF=>?_) (λF=>?_)
  ·replace e:=(condT F).symm.trans e;refine qbd (λA=>?_) (λA=>?_)
   ·replace e:=(condT A).symm.trans e;refine qbd (λI=>?_) (λI=>?_)
    ·replace e:=(condT I).symm.trans e;cases e
    ·replace e:=(condF I).symm.trans e;cases e;exact C K
   ·replace e:=(condF A).symm.trans e;cases e;exact C K
  ·replace e:=(condF F).symm.trans e;refine qbd (λA=>?_) (λA=>?_)
   ·replace e:=(condT A).symm.trans e;cases e
   ·replace e:=(condF A).symm.trans e;cases e;exact C K
theorem kbc1{r:kb9}{o:kc0⊕kb9}{a1 a2 a3 a4 a5 a6 a7 a8 a9:Int}(e:kgs a1 a2 a3 a4 a5 a6 a7 a8 a9=some o)(C:GoodS (kfx r) r o):kfx r (.p24 a1 a2 a3 a4 a5 a6 a7 a8 a9):=by
 intro h0 h K;rw[kblx];unfold kgs at e;refine qbd (λH=>?_) (λH=>?_)
 ·replace e:=(condT H).symm.trans e;refine qbd (λF=>?_) (λF=>?_)
  ·replace e:=(condT F).symm.trans e;refine qbd (λA=>?_) (λA=>?_)
   ·replace e:=(condT A).symm.trans e;cases e
   ·replace e:=(condF A).symm.trans e;cases e;cases C;exact qy ⟨rfl,K⟩
  ·replace e:=(condF F).symm.trans e;cases e;exact C K
 ·replace e:=(condF H).symm.trans e;refine qbd (λF=>?_) (λF=>?_)
  ·replace e:=(condT F).symm.trans e;refine qbd (λA=>?_) (λA=>?_)
   ·replace e:=(condT A).symm.trans e;refine qbd (λI=>?_) (λI=>?_)
    ·replace e:=(condT I).symm.trans e;cases e
    ·replace e:=(condF I).symm.trans e;cases e;cases C;exact qy ⟨rfl,K⟩
   ·replace e:=(condF A).symm.trans e;cases e;exact C K
  ·replace e:=(condF F).symm.trans e;refine qbd (λA=>?_) (λA=>?_)
   ·replace e:=(condT A).symm.trans e;cases e
   ·replace e:=(condF A).symm.trans e;cases e;cases C;exact qy ⟨rfl,K⟩
theorem k87{s:kc0}{r:kb9}(C:Iter kfl s r):kfx r s:=qbg (λs o e A=>by
 cases s with
 | fn a1 a2 a3=>exact @kblr _ _ a1 a2 a3 e A
 | p3 a1 a2 a3=>exact @k78 _ _ a1 a2 a3 e A
 | p17 a1 a2 a3 a4 a5 a6 a7 a8 a9=>exact @kbeb _ _ a1 a2 a3 a4 a5 a6 a7 a8 a9 e A
 | p24 a1 a2 a3 a4 a5 a6 a7 a8 a9=>exact @kbc1 _ _ a1 a2 a3 a4 a5 a6 a7 a8 a9 e A
 ) C
theorem kth(a c:Nat):Int.tdiv (a:Int) (c:Int)=((a/c:Nat):Int):=rfl
theorem kbls(a c:Nat):Int.tmod (a:Int) (c:Int)=((a%c:Nat):Int):=rfl
def st24(a1 a2 a3 a4 a5 a6 a7 q:Int):kc0 :=
 .p24 a1 a2 a3 a4 a7 q (wrap .u64 ((wrap .u64 ((wrap .u64 ((wrap .u64 (a5*4294967296))+a6))-(wrap .u64 (q*a1))))-(wrap .u64 ((wrap .u64 (Int.tdiv (wrap .u64 ((wrap .u64 ((wrap .u64 (a5*4294967296))+a6))-(wrap .u64 (q*a1)))) a3))*a3)))) (wrap .u64 ((wrap .u64 ((wrap .u64 (a5*4294967296))+a6))-(wrap .u64 (q*a1)))) (wrap .u64 (Int.tdiv (wrap .u64 ((wrap .u64 ((wrap .u64 (a5*4294967296))+a6))-(wrap .u64 (q*a1)))) a3))
theorem un_eq{A C q v:Nat}(H:q=(A*4294967296+C)/v)(F:0<v)(I:v<18446744073709551616):wrap .u64 ((wrap .u64 ((wrap .u64 ((A:Int)*4294967296))+(C:Int)))-(wrap .u64 ((q:Int)*(v:Int))))=(((A*4294967296+C)%v:Nat):Int):=by
 have h1:=Nat.div_add_mod (A*4294967296+C) v;have K:=Nat.mod_lt (A*4294967296+C) F;rw[<- H,Nat.mul_comm]at h1;rw[wrapU,wrapU,wrapU,wrapU,<- Int.natCast_mul];generalize q*v=t at *
 generalize (A*4294967296+C)%v=m at *
 omega
theorem k7y{s v C I A F K q:Nat}(Q:q=(A*4294967296+F)/v)(H:0<v)(U:v<18446744073709551616)(h1:0<C) :
  st24 v s C I A F K q=.p24 v s C I K q (((A*4294967296+F)%v%C:Nat):Int) (((A*4294967296+F)%v:Nat):Int) (((A*4294967296+F)%v/C:Nat):Int):=by
 unfold st24;rw[un_eq Q H U,kth];have Y:=Nat.mod_lt (A*4294967296+F) H;generalize (A*4294967296+F)%v=m at *
 have Z:=Nat.div_le_self m C;rw[kcx (n:=m/C) (by omega),<- Int.natCast_mul];have X:=Nat.div_add_mod m C;rw[Nat.mul_comm]at X;have h5:=Nat.mod_lt m h1;rw[wrapU,wrapU]
 have e:((m:Int)-((m/C*C:Nat):Int)%18446744073709551616)%18446744073709551616=((m%C:Nat):Int):=by
  generalize m/C*C=t at *
  generalize m%C=z at *
  omega
 rw[e]
theorem div17{s v C F A H u0:Nat}{res:kb9}(U:v=C*4294967296+F)(h1:0<C)(aa:C<4294967296)(h0:F<4294967296)(X:A<v)(Y:H<4294967296)
  (K:Iter kfl (st24 v s C F A H u0 (((A*4294967296+H)/v:Nat):Int)) res) :
  ∀(q r:Nat),q*C+r=A->(A*4294967296+H)/v<=q->r<4294967296->q<8589934592->Iter kfl (.p17 v s C F A H u0 q r) res
 | q,r,e,Z,hr,hq=>by
  have ac:v<18446744073709551616:=by omega
  have I:(4294967296<=q\/4294967296*r+H<q*F)->∃o,Iter kfl o res/\
    cond (decide ((wrap .u64 ((r:Int)+(C:Int)))>=4294967296)) (cond (decide ((C:Int)=0)) none (some (Sum.inl (β:=kb9) (st24 v s C F A H u0 (wrap .u64 ((q:Int)-1)))))) (some (.inl (.p17 v s C F A H u0 (wrap .u64 ((q:Int)-1)) (wrap .u64 ((r:Int)+(C:Int))))))=some (.inl o):=by
   intro t;obtain⟨Q,k2⟩:=kn_hi U X Y rfl e Z t;obtain⟨p,rfl⟩:∃p,q=p+1:=⟨q-1,by omega⟩;rw[Nat.add_sub_cancel]at Q
   have e':p*C+(r+C)=A:=by rw[Nat.add_mul,Nat.one_mul]at e;omega
   have w1:wrap .u64 (((p+1:Nat):Int)-1)=(p:Int):=by rw[wrapU];omega
   have w2:wrap .u64 ((r:Int)+(C:Int))=((r+C:Nat):Int):=by rw[wrapU];omega
   rw[w1,w2];by_cases ho:4294967296<=r+C
   ·have:=kn_lo U X rfl e' Q (kn_out U h0 X e' ho);rw[this]at K;refine⟨_,K,?_⟩;rw[condT (by rw[qbw];omega),condF (by rw[qbv];omega)]
   ·refine⟨_,div17 U h1 aa h0 X Y K p (r+C) e' Q (by omega) (by omega),?_⟩;rw[condF (by rw[qbv];omega)]
  by_cases c1:4294967296<=q
  ·obtain⟨o,Q,k2⟩:=I (.inl c1);refine .next ?_ Q;show kfw _ _ _ _ _ _ _ _ _=_;unfold kfw;rw[condT (by rw[qbw];omega)];exact k2
  ·have m1:q*F<=4294967295*4294967295:=Nat.mul_le_mul (by omega) (by omega)
   have w3:wrap .u64 ((q:Int)*(F:Int))=((q*F:Nat):Int):=by rw[<- Int.natCast_mul];exact kcx (by omega)
   have w4:wrap .u64 ((wrap .u64 (4294967296*(r:Int)))+(H:Int))=((4294967296*r+H:Nat):Int):=by rw[wrapU,wrapU];omega
   by_cases c2:4294967296*r+H<q*F
   ·obtain⟨o,Q,k2⟩:=I (.inr c2);refine .next ?_ Q;show kfw _ _ _ _ _ _ _ _ _=_;unfold kfw;rw[condF (by rw[qbv];omega),w3,w4,condT (by rw[qbw];omega)];exact k2
   ·have:=kn_lo U X rfl e Z (by omega);rw[this]at K;refine .next ?_ K;show kfw _ _ _ _ _ _ _ _ _=_;unfold kfw;rw[condF (by rw[qbv];omega),w3,w4,condF (by rw[qbv];omega),condF (by rw[qbv];omega)];rfl
termination_by q=>q
def fin24(a1 a2 a5 a6 a8 q:Int):Option (kc0⊕kb9):=cond (decide (a2<0)) none (some (.inr (wrap .u64 ((wrap .u64 (a6*4294967296))+q),ishr .u64 (wrap .u64 ((wrap .u64 ((wrap .u64 (a8*4294967296))+a5))-(wrap .u64 (q*a1)))) a2)))
theorem div24{s v C I A F q1:Nat}{res:kb9}(X:v=C*4294967296+I)(h1:0<C)(ac:C<4294967296)(h0:I<4294967296)(Y:A<v)(Z:F<4294967296)
  (K:fin24 v s F q1 A (((A*4294967296+F)/v:Nat):Int)=some (.inr res)) :
  ∀(q r:Nat),q*C+r=A->(A*4294967296+F)/v<=q->r<4294967296->q<8589934592->Iter kfl (.p24 v s C I F q1 r A q) res
 | q,r,e,aa,hr,hq=>by
  have ad:v<18446744073709551616:=by omega
  have Q:(4294967296<=q\/4294967296*r+F<q*I)->∃o,(o=Sum.inr res\/∃st,o=.inl st/\Iter kfl st res)/\
    cond (decide ((wrap .u64 ((r:Int)+(C:Int)))>=4294967296)) (fin24 v s F q1 A (wrap .u64 ((q:Int)-1))) (some (.inl (.p24 v s C I F q1 (wrap .u64 ((r:Int)+(C:Int))) A (wrap .u64 ((q:Int)-1)))))=some o:=by
   intro t;obtain⟨U,k2⟩:=kn_hi X Y Z rfl e aa t;obtain⟨p,rfl⟩:∃p,q=p+1:=⟨q-1,by omega⟩;rw[Nat.add_sub_cancel]at U
   have e':p*C+(r+C)=A:=by rw[Nat.add_mul,Nat.one_mul]at e;omega
   have w1:wrap .u64 (((p+1:Nat):Int)-1)=(p:Int):=by rw[wrapU];omega
   have w2:wrap .u64 ((r:Int)+(C:Int))=((r+C:Nat):Int):=by rw[wrapU];omega
   rw[w1,w2];by_cases ho:4294967296<=r+C
   ·have:=kn_lo X Y rfl e' U (kn_out X h0 Y e' ho);rw[this]at K;refine⟨.inr res,.inl rfl,?_⟩;rw[condT (by rw[qbw];omega)];exact K
   ·refine⟨_,.inr ⟨_,rfl,div24 X h1 ac h0 Y Z K p (r+C) e' U (by omega) (by omega)⟩,?_⟩;rw[condF (by rw[qbv];omega)]
  have H:∀{st:kc0}{o:kc0⊕kb9},(o=Sum.inr res\/∃st,o=.inl st/\Iter kfl st res)->kfl st=some o->Iter kfl st res:=by
   intro st o h e;rcases h with rfl | ⟨ae,rfl,it⟩
   ·exact .done e
   ·exact .next e it
  by_cases c1:4294967296<=q
  ·obtain⟨o,U,k2⟩:=Q (.inl c1);refine H U ?_;show kgs _ _ _ _ _ _ _ _ _=_;unfold kgs;rw[condT (by rw[qbw];omega)];exact k2
  ·have m1:q*I<=4294967295*4294967295:=Nat.mul_le_mul (by omega) (by omega)
   have w3:wrap .u64 ((q:Int)*(I:Int))=((q*I:Nat):Int):=by rw[<- Int.natCast_mul];exact kcx (by omega)
   have w4:wrap .u64 ((wrap .u64 (4294967296*(r:Int)))+(F:Int))=((4294967296*r+F:Nat):Int):=by rw[wrapU,wrapU];omega
   by_cases c2:4294967296*r+F<q*I
   ·obtain⟨o,U,k2⟩:=Q (.inr c2);refine H U ?_;show kgs _ _ _ _ _ _ _ _ _=_;unfold kgs;rw[condF (by rw[qbv];omega),w3,w4,condT (by rw[qbw];omega)];exact k2
   ·have:=kn_lo X Y rfl e aa (by omega);rw[this]at K;refine .done ?_;show kgs _ _ _ _ _ _ _ _ _=_;unfold kgs;rw[condF (by rw[qbv];omega),w3,w4,condF (by rw[qbv];omega)];exact K
termination_by q=>q
theorem k5m{hi lo y s:Nat}(U:y*2^s<18446744073709551616)(A:lo<18446744073709551616)(C:hi<y)(X:s<=63) :
  hi*2^s+lo/2^(64-s)<y*2^s/\(hi*2^s+lo/2^(64-s))*18446744073709551616+lo*2^s%18446744073709551616=(hi*18446744073709551616+lo)*2^s/\lo/2^(64-s)<2^s/\hi*2^s<18446744073709551616:=by
 have p:0<2^s:=Nat.pow_pos (by decide);have e:2^(64-s)*2^s=18446744073709551616:=by rw[<- Nat.pow_add,show 64-s+s=64 from by omega]
 have F:lo/2^(64-s)<2^s:=by rw[Nat.div_lt_iff_lt_mul (Nat.pow_pos (by decide)),Nat.mul_comm,e];exact A
 have H:(hi+1)*2^s<=y*2^s:=Nat.mul_le_mul_right _ C;rw[Nat.add_mul,Nat.one_mul]at H;refine⟨by omega,?_,F,by omega⟩
 have I:lo*2^s/18446744073709551616=lo/2^(64-s):=by rw[<- e,Nat.mul_div_mul_right _ _ p]
 have K:=Nat.div_add_mod (lo*2^s) 18446744073709551616;rw[I]at K;have Q:hi*18446744073709551616*2^s=hi*2^s*18446744073709551616:=Nat.mul_right_comm _ _ _;rw[Nat.add_mul,Nat.add_mul,Q];omega
theorem kbm7{A C:Nat}(h:A*4294967296+C<18446744073709551616):wrap .u64 ((wrap .u64 ((A:Int)*4294967296))+(C:Int))=((A*4294967296+C:Nat):Int):=by rw[wrapU,wrapU];omega
theorem kblb{hi lo y:Nat}(hy:y<18446744073709551616)(ae:lo<18446744073709551616)(Y:hi<y) :
  Iter kfl (.fn hi lo y) ((((hi*18446744073709551616+lo)/y:Nat):Int),(((hi*18446744073709551616+lo)%y:Nat):Int)):=by
 refine .next (s':=.p3 hi lo y) ?_ ?_
 ·show kll _ _ _=_;unfold kll;rw[condF (by rw[qbv];omega)]
 by_cases h0:hi=0
 ·subst h0;refine .done ?_;show kh3 _ _ _=_;unfold kh3;have hd:=Nat.div_le_self lo y;rw[condF (by rw[qbv];omega),condT (by rfl),condF (by rw[qbv];omega),condF (by rw[qbv];omega),kth,kbls,kcx (by omega),Nat.zero_mul,Nat.zero_add]
 obtain⟨hs,ai,Z⟩:=kwj hy (by omega);have H:64-bl y<=64:=by omega
 obtain⟨p1,p2,p3,p4⟩:=k5m Z ae Y hs;have ws:wrap .u64 ((64-bl (Int.toNat (y:Int)):Nat):Int)=((64-bl y:Nat):Int):=by rw[Int.toNat_natCast];exact kcx (by omega)
 have wt:wrap .u64 (64-((64-bl y:Nat):Int))=((64-(64-bl y):Nat):Int):=by rw[wrapU];omega
 generalize aj:64-bl y=s at *
 have ey:ishl .u64 (y:Int) (s:Int)=((y*2^s:Nat):Int):=by rw[klg _ _ H,Nat.mod_eq_of_lt Z]
 have eh:ishl .u64 (hi:Int) (s:Int)=((hi*2^s:Nat):Int):=by rw[klg _ _ H,Nat.mod_eq_of_lt p4]
 have el:ishl .u64 (lo:Int) (s:Int)=((lo*2^s%18446744073709551616:Nat):Int):=klg _ _ H;have er:ishr .u64 (lo:Int) ((64-s:Nat):Int)=((lo/2^(64-s):Nat):Int):=by rw[kct,Nat.min_eq_left (by omega)]
 have eo:=ktq p4 p3 H;generalize ag:hi*2^s+lo/2^(64-s)=A at *
 have ah:=Nat.mod_lt (lo*2^s) (show 0<18446744073709551616 by omega);generalize hl:lo*2^s%18446744073709551616=C at *
 generalize hv:y*2^s=v at *
 have aa:∀x:Nat,ishr .u64 (x:Int) 32=((x/4294967296:Nat):Int):=λx=>kct x 32;have af:A*18446744073709551616+C=(A*4294967296+C/4294967296)*4294967296+C%4294967296:=by omega
 have K:v=v/4294967296*4294967296+v%4294967296:=by omega
 have Q:0<v:=by omega
 have F:0<v/4294967296:=by omega
 have I:v/4294967296<4294967296:=by omega
 have ac:v%4294967296<4294967296:=by omega
 have ad:C/4294967296<4294967296:=by omega
 have X:C%4294967296<4294967296:=by omega
 have first:A/(v/4294967296)<8589934592:=by rw[Nat.div_lt_iff_lt_mul F];omega
 have hm:=Nat.mod_lt (A*4294967296+C/4294967296) Q
 have U:(A*4294967296+C/4294967296)%v/(v/4294967296)<8589934592:=by rw[Nat.div_lt_iff_lt_mul F];omega
 have td:=kbab (w:=A*4294967296+C/4294967296) Q X;rw[<- af,p2]at td;have p:=Nat.pow_pos (a:=2) (n:=s) (by decide);rw[<- hv,Nat.mul_div_mul_right _ _ p,Nat.mul_mod_mul_right,hv]at td;refine .next (s':=.p17 v s (v/4294967296:Nat) (v%4294967296:Nat) A (C/4294967296:Nat) (C%4294967296:Nat) (A/(v/4294967296):Nat) (A%(v/4294967296):Nat)) ?_ ?_
 ·show kh3 _ _ _=_;unfold kh3
  rw[condF (by rw[qbv];omega),condF (by rw[qbv];omega),kq (by omega),qbt,ws,wt,ey,eh,el,er,eo,aa,aa,km5 (show v<_ by omega),km5 (show C<_ by omega),
   condF (by rw[qbv];omega),condF (by rw[qbv];omega),condF (by rw[qbv];omega),condF (by rw[qbv];omega),condF (by rw[qbv];omega),kth]
  have d1:=Nat.div_add_mod A (v/4294967296);have d2:=Nat.div_le_self A (v/4294967296);rw[Nat.mul_comm]at d1;rw[kcx (n:=A/(v/4294967296)) (by omega),<- Int.natCast_mul];generalize A/(v/4294967296)*(v/4294967296)=z at *
  generalize A%(v/4294967296)=z2 at *
  rw[kcx (n:=z) (by omega),show(A:Int)-(z:Int)=(z2:Int)from by omega,kcx (by omega)]
 ·refine div17 K F I ac p1 ad ?_ _ _ (by rw[Nat.mul_comm];exact Nat.div_add_mod _ _) (k1d F K p1 ad rfl (by omega)) (Nat.lt_trans (Nat.mod_lt _ F) I) first
  rw[k7y rfl Q (by omega) F];refine div24 K F I ac hm X ?_ _ _ (by rw[Nat.mul_comm];exact Nat.div_add_mod _ _) (k1d F K hm X rfl (by omega)) (Nat.lt_trans (Nat.mod_lt _ F) I) U;unfold fin24;rw[condF (by rw[qbv];omega),un_eq rfl Q (by omega),<- td.2,kct,Nat.min_eq_left H,Nat.mul_div_cancel _ p]
  have hq:(hi*18446744073709551616+lo)/y<18446744073709551616:=by rw[Nat.div_lt_iff_lt_mul (by omega)];have:(hi+1)*18446744073709551616<=y*18446744073709551616:=Nat.mul_le_mul_right _ Y;omega
  have w:wrap .u64 ((wrap .u64 ((((A*4294967296+C/4294967296)/v:Nat):Int)*4294967296))+((((A*4294967296+C/4294967296)%v*4294967296+C%4294967296)/v:Nat):Int))=(((hi*18446744073709551616+lo)/y:Nat):Int):=by rw[td.1]at hq|-;exact kbm7 hq
  rw[w]
theorem k74{hi lo y:Nat}(F:y<18446744073709551616)(A:lo<18446744073709551616)(C:hi<y){h:AH}:∃h',go (.fn kb5 [.int .u64 (hi:Int),.int .u64 (lo:Int),.int .u64 (y:Int)]) h=some (.tup [.int .u64 (((hi*18446744073709551616+lo)/y:Nat):Int),.int .u64 (((hi*18446744073709551616+lo)%y:Nat):Int)],h')/\Grow h h':=by obtain⟨_,h',e,rfl,g⟩:=k87 (kblb F A C) (h:=h);exact⟨h',e,g⟩
end Go.Ab
set_option maxRecDepth 10000
namespace Go.Ab
open Go.Proofs Go.Num
def div64P(h l d:Int):Option (Int×Int):=if 0<=l/\l<18446744073709551616/\0<=h/\h<d/\d<18446744073709551616 then some ((h*18446744073709551616+l)/d,(h*18446744073709551616+l)%d)else none
theorem ky6{hi lo y:Nat}(F:y<18446744073709551616)(A:lo<18446744073709551616)(C:hi<y):div64P (hi:Int) (lo:Int) (y:Int)=some ((((hi*18446744073709551616+lo)/y:Nat):Int),(((hi*18446744073709551616+lo)%y:Nat):Int)):=by unfold div64P;rw[if_pos (by omega)];rfl
theorem k3f{a b c:Int}{p:Int×Int}{h:AH}(q:div64P a b c=some p):∃h',go (.fn kb5 [.int .u64 a,.int .u64 b,.int .u64 c]) h=some (.tup [.int .u64 p.1,.int .u64 p.2],h')/\Grow h h':=by
 unfold div64P at q;split at q
 ·rename_i A;cases q;obtain⟨hi,rfl⟩:∃x:Nat,a=(x:Int):=⟨a.toNat,by omega⟩;obtain⟨lo,rfl⟩:∃x:Nat,b=(x:Int):=⟨b.toNat,by omega⟩;obtain⟨y,rfl⟩:∃x:Nat,c=(x:Int):=⟨c.toNat,by omega⟩;exact k74 (by omega) (by omega) (by omega)
 ·cases q
end Go.Ab
set_option maxRecDepth 10000
namespace Go.Ab
open IntKind (wrap)
open Go.Proofs Go.Num
inductive kg7
 | fn (x1:List Nat) (a2:Int)
 | p4 (x1:List Nat) (a2:Int) (x3:List Nat) (a4:Int) (a5:Int)
abbrev ke6:=List Nat×Int
noncomputable def klq(x1:List Nat)(a2:Int):Option (kg7⊕ke6):=(mkI (List.length x1:Int) (List.length x1:Int)).bind λA=>some (.inl (.p4 x1 a2 (List.replicate A 0) 0 (wrap .i64 ((List.length x1:Int)-1))))
noncomputable def kht(x1:List Nat)(a2:Int)(x3:List Nat)(a4 a5:Int):Option (kg7⊕ke6):=cond (decide (a5>=0)) ((atI x1 a5).bind λF=>(div64P a4 ((F:Int)) a2).bind λC=>(inI (List.length x3) a5).bind λH=>(u64P (C.1)).bind λA=>some (.inl (.p4 x1 a2 (List.set x3 H A) (C.2) (wrap .i64 (a5-1))))) (some (.inr (digs B (num B x3),a4)))
noncomputable def kuj:kg7->Option (kg7⊕ke6)
 | .fn x1 a2=>klq x1 a2
 | .p4 x1 a2 x3 a4 a5=>kht x1 a2 x3 a4 a5
@[reducible] def kzd(h0:AH)(r:ke6)(v:AV)(h':AH):Prop:=∃s1:Sl,v=.tup [s1.v,.int .u64 r.2]/\Nats h' s1 r.1/\Grow h0 h'/\Own h0 s1
def knt(r:ke6):kg7->Prop
 | .fn x1 a2=>∀{h:AH}{a1:Sl},Nats h a1 x1->Runs (go (.fn kf2 [a1.v,.int .u64 a2]) h) (kzd h r)
 | .p4 x1 a2 x3 a4 a5=>∀{h0 h:AH}{a1:Sl}{a3:Sl}{A:Nat},Grow h0 h->Nats h a1 x1->Vec h a3 A x3->h0.blks.size<=A->Av a1 A x1->Runs (go (.pt kf2 kpj [(0,a1.v),(1,.int .u64 a2),(6,a3.v),(7,.int .u64 a4),(8,.i a5)]) h) (kzd h0 r)
theorem kbmy{r:ke6}{o:kg7⊕ke6}{x1:List Nat}{a2:Int}(e:klq x1 a2=some o)(A:GoodS (knt r) r o):knt r (.fn x1 a2):=by intro h a1 n1;rw[k49];unfold klq at e;rw[n1.len];obtain⟨I,F,e⟩:=qbu.1 e;refine Runs.mk F kes λs3 K H C=>?_;cases e;exact A C (n1.grow C) H (qbp _) (qbi n1 (qbp _))
theorem kbdc{r:ke6}{o:kg7⊕ke6}{x1:List Nat}{a2:Int}{x3:List Nat}{a4 a5:Int}(e:kht x1 a2 x3 a4 a5=some o)(C:GoodS (knt r) r o):knt r (.p4 x1 a2 x3 a4 a5):=by
 intro h0 h a1 a3 i3 Z n1 I F A;rw[kbc8];unfold kht at e;rw[n1.len];rw[I.nats.len];refine qbd (λU=>?_) (λU=>?_)
 ·replace e:=(condT U).symm.trans e;obtain⟨y7,q7,e⟩:=qbu.1 e;obtain⟨r7,j7,l7⟩:=n1.atI q7;refine qz j7 (qz (rdc l7 qcp) ?_);obtain⟨p8,q8,e⟩:=qbu.1 e;obtain⟨H8,e8,Q⟩:=k3f q8;refine qz e8 (qz rfl (qz (seen qcp) (qz (seen qcp) ?_)));obtain⟨j9,q9,e⟩:=qbu.1 e;refine qz ((I.grow Q).idx rfl q9) ?_;obtain⟨aa,X,e⟩:=qbu.1 e;refine qbh (I.grow Q) rfl q9 X λac Y K=>?_;have H:=(n1.grow Q).upda A K;cases e;exact C ((Z.trans Q).updr F K) H Y F A
 ·replace e:=(condF U).symm.trans e;obtain⟨s7,e7,n7,o7⟩:=kea I.nats;refine qz e7 (qz (seen qco) ?_);cases e;cases C;exact qy ⟨s7,rfl,n7,Z,((o7 _ (I.own F)).of_le (ql _))⟩
theorem k8s{s:kg7}{r:ke6}(C:Iter kuj s r):knt r s:=qbg (λs o e A=>by
 cases s with
 | fn x1 a2=>exact @kbmy _ _ x1 a2 e A
 | p4 x1 a2 x3 a4 a5=>exact @kbdc _ _ x1 a2 x3 a4 a5 e A
 ) C
inductive kgv
 | fn (x1:List Nat) (a2:Int)
 | p3 (a1:Int) (x2:List Nat) (x3:List Nat) (a4:Int) (a5:Int)
abbrev kev:=List Nat
noncomputable def kl4(x1:List Nat)(a2:Int):Option (kgv⊕kev):=(mkI (wrap .i64 ((List.length x1:Int)+1)) (wrap .i64 ((List.length x1:Int)+1))).bind λA=>some (.inl (.p3 a2 (List.replicate A 0) x1 (List.length x1:Int) 0))
noncomputable def kgn(a1:Int)(x2 x3:List Nat)(a4 a5:Int):Option (kgv⊕kev):=cond (decide (a5<a4)) ((atI x3 a5).bind λI=>(inI (List.length x2) a5).bind λK=>cond (decide (a1<0)) (none) ((inI (List.length x2) a5).bind λA=>(u64P (ior .u64 (((List.getD x2 K 0:Nat):Int)) (ishl .u64 ((I:Int)) a1))).bind λC=>cond (decide (a1>0)) (cond (decide ((wrap .u64 (64-a1))<0)) (none) ((inI (List.length x2) (wrap .i64 (a5+1))).bind λF=>(u64P (ishr .u64 ((I:Int)) (wrap .u64 (64-a1)))).bind λH=>some (.inl (.p3 a1 (List.set (List.set x2 A C) F H) x3 a4 (wrap .i64 (a5+1)))))) (some (.inl (.p3 a1 (List.set x2 A C) x3 a4 (wrap .i64 (a5+1))))))) (some (.inr x2))
noncomputable def kkj:kgv->Option (kgv⊕kev)
 | .fn x1 a2=>kl4 x1 a2
 | .p3 a1 x2 x3 a4 a5=>kgn a1 x2 x3 a4 a5
@[reducible] def kue(h0:AH)(r:kev)(v:AV)(h':AH):Prop:=∃s1:Sl,∃A:Nat,v=s1.v/\Vec h' s1 A r/\Grow h0 h'/\h0.blks.size<=A
def kli(r:kev):kgv->Prop
 | .fn x1 a2=>∀{h:AH}{a1:Sl},Nats h a1 x1->Runs (go (.fn kfh [a1.v,.int .u64 a2]) h) (kue h r)
 | .p3 a1 x2 x3 a4 a5=>∀{h0 h:AH}{a2:Sl}{a3:Sl}{A:Nat},Grow h0 h->Vec h a2 A x2->Nats h a3 x3->h0.blks.size<=A->Av a3 A x3->Runs (go (.pt kfh kl6 [(1,.int .u64 a1),(5,a2.v),(12,a3.v),(13,.i a4),(14,.i a5)]) h) (kue h0 r)
theorem kbkw{r:kev}{o:kgv⊕kev}{x1:List Nat}{a2:Int}(e:kl4 x1 a2=some o)(A:GoodS (kli r) r o):kli r (.fn x1 a2):=by intro h a1 n1;rw[kbca];unfold kl4 at e;rw[n1.len];obtain⟨I,F,e⟩:=qbu.1 e;refine Runs.mk F kes λs3 K H C=>?_;cases e;exact A C H (n1.grow C) (qbp _) (qbi n1 (qbp _))
theorem k8h{r:kev}{o:kgv⊕kev}{a1:Int}{x2 x3:List Nat}{a4 a5:Int}(e:kgn a1 x2 x3 a4 a5=some o)(F:GoodS (kli r) r o):kli r (.p3 a1 x2 x3 a4 a5):=by
 intro h0 h a2 a3 i2 g0 Y n3 C A;rw[k8m];unfold kgn at e;rw[Y.nats.len];rw[n3.len];refine qbd (λk6=>?_) (λk6=>?_)
 ·replace e:=(condT k6).symm.trans e;obtain⟨y7,q7,e⟩:=qbu.1 e;obtain⟨r7,j7,l7⟩:=n3.atI q7;refine qz j7 (qz (rdc l7 qcp) ?_);obtain⟨j8,q8,e⟩:=qbu.1 e;refine qz (Y.idx rfl q8) (qz (Y.rd rfl q8 qcp) ?_);refine qbd (λk9=>?_) (λk9=>?_)
  ·replace e:=(condT k9).symm.trans e;cases e
  ·replace e:=(condF k9).symm.trans e;obtain⟨ag,Z,e⟩:=qbu.1 e;refine qz (Y.idx rfl Z) ?_;obtain⟨ah,ad,e⟩:=qbu.1 e;refine qbh Y rfl Z ad λai I K=>?_;have H:=n3.upda A K;refine qbd (λQ=>?_) (λQ=>?_)
   ·replace e:=(condT Q).symm.trans e;refine qbd (λU=>?_) (λU=>?_)
    ·replace e:=(condT U).symm.trans e;cases e
    ·replace e:=(condF U).symm.trans e;obtain⟨aj,aa,e⟩:=qbu.1 e;refine qz (I.idx (by simp only[qb7]) aa) ?_;obtain⟨ak,ae,e⟩:=qbu.1 e;refine qbh I (by simp only[qb7]) aa ae λal af ac=>?_;have X:=H.upda A ac;cases e;exact F ((g0.updr C K).updr C ac) af X C A
   ·replace e:=(condF Q).symm.trans e;cases e;exact F (g0.updr C K) I H C A
 ·replace e:=(condF k6).symm.trans e;cases e;cases F;exact qy ⟨a2,i2,rfl,Y,g0,C⟩
theorem kbfu{s:kgv}{r:kev}(C:Iter kkj s r):kli r s:=qbg (λs o e A=>by
 cases s with
 | fn x1 a2=>exact @kbkw _ _ x1 a2 e A
 | p3 a1 x2 x3 a4 a5=>exact @k8h _ _ a1 x2 x3 a4 a5 e A
 ) C
theorem kyy{h:AH}{a1:Sl}{x1:List Nat}{a2:Int}(n1:Nats h a1 x1){r:kev}(q:runP kkj (.fn x1 a2)=some r):Runs (go (.fn kfh [a1.v,.int .u64 a2]) h) (kue h r):=kbfu (ktw q) n1
inductive kgq
 | fn (a1:Int) (a2:Int) (a3:Int) (a4:Int) (a5:Int)
 | p4 (a1:Int) (a2:Int) (a3:Int) (a4:Int) (a5:Int)
abbrev kep:=Int
noncomputable def kis(a1 a2 a3 a4 a5:Int):Option (kgq⊕kep):=cond (decide (a1>=a4)) (some (.inr 18446744073709551615)) ((div64P a1 a2 a4).bind λp7=>some (.inl (.p4 a3 a4 a5 (p7.1) (p7.2))))
noncomputable def kgl(a1 a2 a3 a4 a5:Int):Option (kgq⊕kep):=cond (decide (((mul64 a4 a3).1)<a5)) (some (.inr a4)) (cond (decide (((mul64 a4 a3).1)=a5)) (cond (decide (((mul64 a4 a3).2)<=a1)) (some (.inr a4)) (cond (decide ((wrap .u64 (a5+a2))<a5)) (some (.inr (wrap .u64 (a4-1)))) (some (.inl (.p4 a1 a2 a3 (wrap .u64 (a4-1)) (wrap .u64 (a5+a2))))))) (cond (decide ((wrap .u64 (a5+a2))<a5)) (some (.inr (wrap .u64 (a4-1)))) (some (.inl (.p4 a1 a2 a3 (wrap .u64 (a4-1)) (wrap .u64 (a5+a2)))))))
noncomputable def kku:kgq->Option (kgq⊕kep)
 | .fn a1 a2 a3 a4 a5=>kis a1 a2 a3 a4 a5
 | .p4 a1 a2 a3 a4 a5=>kgl a1 a2 a3 a4 a5
@[reducible] def ksm(h0:AH)(r:kep)(v:AV)(h':AH):Prop:=v=.int .u64 r/\Grow h0 h'
def kl0(r:kep):kgq->Prop
 | .fn a1 a2 a3 a4 a5=>∀{h:AH},Runs (go (.fn kga [.int .u64 a1,.int .u64 a2,.int .u64 a3,.int .u64 a4,.int .u64 a5]) h) (ksm h r)
 | .p4 a1 a2 a3 a4 a5=>∀{h0 h:AH},Grow h0 h->Runs (go (.pt kga kmr [(2,.int .u64 a1),(3,.int .u64 a2),(4,.int .u64 a3),(11,.int .u64 a4),(12,.int .u64 a5)]) h) (ksm h0 r)
theorem k5s{r:kep}{o:kgq⊕kep}{a1 a2 a3 a4 a5:Int}(e:kis a1 a2 a3 a4 a5=some o)(A:GoodS (kl0 r) r o):kl0 r (.fn a1 a2 a3 a4 a5):=by
 intro h;rw[kbch];unfold kis at e;refine qbd (λC=>?_) (λC=>?_)
 ·replace e:=(condT C).symm.trans e;cases e;cases A;exact qy ⟨rfl,(ql _)⟩
 ·replace e:=(condF C).symm.trans e;obtain⟨p7,F,e⟩:=qbu.1 e;obtain⟨K,H,I⟩:=k3f F;refine qz H (qz rfl (qz (seen qcp) (qz (seen qcp) ?_)));cases e;exact A I
theorem kbl8{r:kep}{o:kgq⊕kep}{a1 a2 a3 a4 a5:Int}(e:kgl a1 a2 a3 a4 a5=some o)(A:GoodS (kl0 r) r o):kl0 r (.p4 a1 a2 a3 a4 a5):=by
 intro h0 h H;rw[kbaf];unfold kgl at e;refine qz (k1w a4 a3) (qz rfl (qz (seen qcp) (qz (seen qcp) ?_)));refine qbd (λI=>?_) (λI=>?_)
 ·replace e:=(condT I).symm.trans e;cases e;cases A;exact qy ⟨rfl,H⟩
 ·replace e:=(condF I).symm.trans e;refine qbd (λK=>?_) (λK=>?_)
  ·replace e:=(condT K).symm.trans e;refine qbd (λC=>?_) (λC=>?_)
   ·replace e:=(condT C).symm.trans e;cases e;cases A;exact qy ⟨rfl,H⟩
   ·replace e:=(condF C).symm.trans e;refine qbd (λF=>?_) (λF=>?_)
    ·replace e:=(condT F).symm.trans e;cases e;cases A;exact qy ⟨rfl,H⟩
    ·replace e:=(condF F).symm.trans e;cases e;exact A H
  ·replace e:=(condF K).symm.trans e;refine qbd (λC=>?_) (λC=>?_)
   ·replace e:=(condT C).symm.trans e;cases e;cases A;exact qy ⟨rfl,H⟩
   ·replace e:=(condF C).symm.trans e;cases e;exact A H
theorem kbcp{s:kgq}{r:kep}(C:Iter kku s r):kl0 r s:=qbg (λs o e A=>by
 cases s with
 | fn a1 a2 a3 a4 a5=>exact @k5s _ _ a1 a2 a3 a4 a5 e A
 | p4 a1 a2 a3 a4 a5=>exact @kbl8 _ _ a1 a2 a3 a4 a5 e A
 ) C
theorem kbfx{h:AH}  {a1 a2 a3 a4 a5:Int}  {r:kep}(q:runP kku (.fn a1 a2 a3 a4 a5)=some r):Runs (go (.fn kga [.int .u64 a1,.int .u64 a2,.int .u64 a3,.int .u64 a4,.int .u64 a5]) h) (ksm h r):=kbcp (ktw q)
end Go.Ab
set_option maxRecDepth 10000
namespace Go.Ab
open Go.Proofs Go.Num
def padD(b:Nat):Nat->Nat->List Nat
 | 0,_=>[]
 | k+1,n=>n%b::padD b k (n/b)
theorem kur(b:Nat):∀k n,(padD b k n).length=k
 | 0,_=>rfl
 | k+1,n=>by simp[padD,kur b k]
theorem k21{b:Nat}(C:0<b):∀k n,∀x∈padD b k n,x<b
 | 0,_=>by simp[padD]
 | k+1,n=>by
  intro x A;rcases qb6.1 A with rfl | A
  ·exact Nat.mod_lt _ C
  ·exact k21 C k _ x A
theorem k0k{b:Nat}(A:0<b):∀(k n:Nat),n<b^k->num b (padD b k n)=n
 | 0,n,h=>by
  rw[Nat.pow_zero]at h;have:n=0:=by omega
  subst this;rfl
 | k+1,n,h=>by rw[padD,num,k0k A k (n/b) (by rw[Nat.div_lt_iff_lt_mul A,<- Nat.pow_succ];exact h)];exact Nat.mod_add_div n b
theorem k4s{b:Nat}(A:0<b):∀{zs:List Nat},(∀x∈zs,x<b)->padD b zs.length (num b zs)=zs
 | [],_=>rfl
 | z::zs,h=>by have C:=h z (by simp);rw[qb2,padD,num,Nat.add_mul_mod_self_left,Nat.mod_eq_of_lt C,Nat.add_mul_div_left _ _ A,Nat.div_eq_of_lt C,Nat.zero_add,k4s A λx F=>h x (by simp[F])]
theorem Sl.v_inj{s t:Sl}(e:s.v=t.v):s=t:=by
 cases s;cases t;simp only[Sl.v,AV.slice.injEq]at e;simp only[Sl.mk.injEq];exact e
theorem kw5{h:AH}{s:Sl}{xs:List Nat}(n:Nats h s xs){i:Nat}(b:InB s i):∀(k:Nat),k<=xs.length->∃s',go (.pt kb1 kmx [(0,s.v),(3,.i (k:Int))]) h=some (s'.v,h)/\InB s' i
 | 0,C=>by
  rw[kql];obtain⟨s',A,_,_⟩:=n.cut (l:=0) (n:=0) (qbp _) C;have b':=b.cut A;simp at A;simp only[Int.natCast_zero,gt_iff_lt,Int.lt_irrefl,decide_false,cond_false,A,qbt];exact⟨s',rfl,b'⟩
 | k+1,C=>by
  rw[kql];obtain⟨r,A,H⟩:=n.at (i:=k) (by omega);have K:=n.short;rw[kro (by omega)];rw[show(decide (((k+1:Nat):Int)>0))=true from by rw[qbw];omega];simp only[cond_true,A,H,qbt,kb];by_cases I:xs[k]=0
  ·rw[I,show(decide (((0:Nat):Int)=0))=true from rfl,cond_true];exact kw5 n b k (by omega)
  ·obtain⟨s',F,_,_⟩:=n.cut (l:=0) (n:=k+1) (by omega) C;rw[show(decide (((xs[k]:Nat):Int)=0))=false from by rw[qbv];omega];simp only[cond_false];rw[show cutSl s 0 ((k+1:Nat):Int) 1=some s' from F];exact⟨s',rfl,b.cut F⟩
theorem kp9{h:AH}{s:Sl}{i:Nat}{xs:List Nat}(v:Vec h s i xs):∃s',go (.fn kb1 [s.v]) h=some (s'.v,h)/\Nats h s' (digs B (num B xs))/\InB s' i:=by obtain⟨s',e,n,_⟩:=kea v.nats;obtain⟨s2,A,b⟩:=kw5 v.nats v.inB xs.length (qbp _);rw[kun,v.len,A]at e;have:s2=s':=Sl.v_inj (Prod.mk.inj (Option.some.inj e)).1;subst this;exact⟨s2,by rw[kun,v.len,A],n,b⟩
theorem B0:0<B:=by decide
theorem kom{a:Int}{x:Nat}{h:AH}(q:u64P a=some x):∃(s':Sl)(h':AH),go (.fn kfo [.int .u64 a]) h=some (s'.v,h')/\Nats h' s' (digs B x)/\Grow h h'/\Own h s':=by obtain⟨rfl,A⟩:=kms q;exact kx0 A
theorem kbkg{h:AH}{s t:Sl}{xs ys:List Nat}(n:Nats h s xs)(m:Nats h t ys)(c:xs.length<=1073741824/\ys.length<=xs.length/\num B ys<=num B xs) :
  ∃(s':Sl)(h':AH),go (.fn kd0 [s.v,t.v]) h=some (s'.v,h')/\Nats h' s' (padD B xs.length (num B xs-num B ys))/\Grow h h'/\Own h s':=by
 obtain⟨s',h',zs,e,A,g,o,v,l⟩:=krn n m c.1 c.2.1 c.2.2;refine⟨s',h',e,?_,g,o⟩;rw[<- v,<- l,k4s B0 A.lt];exact A
end Go.Ab
set_option maxRecDepth 10000
namespace Go.Ab
open IntKind (wrap)
open Go.Proofs Go.Num
inductive kd5
 | fn (x1:List Nat) (x2:List Nat)
 | p6 (a1:Int) (x2:List Nat) (x3:List Nat) (a4:Int) (x5:List Nat) (a6:Int)
 | p10 (a1:Int) (x2:List Nat) (x3:List Nat) (a4:Int) (x5:List Nat) (a6:Int) (a7:Int) (x8:Nat×Nat)
 | p18 (a1:Int) (x2:List Nat) (x3:List Nat) (x4:List Nat) (a5:Int) (a6:Int)
abbrev kcr:=List Nat×List Nat
noncomputable def kmu(x1 x2:List Nat):Option (kd5⊕kcr):=(atI x2 (wrap .i64 ((List.length x2:Int)-1))).bind λA=>(need (0<=((A:Int))/\((A:Int))<18446744073709551616)).bind λF=>(runP kkj (.fn x1 (wrap .u64 (((64-bl (Int.toNat ((A:Int))):Nat):Int))))).bind λC=>(runP kkj (.fn x2 (wrap .u64 (((64-bl (Int.toNat ((A:Int))):Nat):Int))))).bind λp6=>(mkI (wrap .i64 ((List.length C:Int)-(List.length (digs B (num B p6)):Int))) (wrap .i64 ((List.length C:Int)-(List.length (digs B (num B p6)):Int)))).bind λH=>some (.inl (.p6 (wrap .u64 (((64-bl (Int.toNat ((A:Int))):Nat):Int))) C (digs B (num B p6)) (List.length (digs B (num B p6)):Int) (List.replicate H 0) (wrap .i64 ((List.length (List.replicate H 0):Int)-1))))
noncomputable def ki5(a1:Int)(x2 x3:List Nat)(a4:Int)(x5:List Nat)(a6:Int):Option (kd5⊕kcr):=cond (decide (a6>=0)) ((inI (List.length x2) (wrap .i64 (a6+a4))).bind λK=>(inI (List.length x2) (wrap .i64 ((wrap .i64 (a6+a4))-1))).bind λQ=>(inI (List.length x2) (wrap .i64 ((wrap .i64 (a6+a4))-2))).bind λC=>(atI x3 (wrap .i64 (a4-1))).bind λF=>(atI x3 (wrap .i64 (a4-2))).bind λH=>(runP kku (.fn (((List.getD x2 K 0:Nat):Int)) (((List.getD x2 Q 0:Nat):Int)) (((List.getD x2 C 0:Nat):Int)) ((F:Int)) ((H:Int)))).bind λI=>(cutP (List.length x2) a6 (wrap .i64 ((wrap .i64 (a6+a4))+1))).bind λA=>some (.inl (.p10 a1 x2 x3 a4 x5 a6 I (A.1,A.2)))) ((mkI (List.length (digs B (num B x2)):Int) (List.length (digs B (num B x2)):Int)).bind λU=>some (.inl (.p18 a1 x5 (digs B (num B x2)) (List.replicate U 0) (List.length (digs B (num B x2)):Int) 0)))
noncomputable def kiq(a1:Int)(x2 x3:List Nat)(a4:Int)(x5:List Nat)(a6 a7:Int)(x8:Nat×Nat):Option (kd5⊕kcr):=(u64P a7).bind λp9=>(need (List.length x3+List.length (digs B p9)<=8796093022208)).bind λA=>(need (List.length (List.take x8.2 (List.drop x8.1 x2))<=8796093022208)).bind λC=>(need (Trim (digs B (num B (List.take x8.2 (List.drop x8.1 x2)))))).bind λF=>(need (Trim (digs B (num B x3*num B (digs B p9))))).bind λH=>cond (decide ((cmp (num B (digs B (num B (List.take x8.2 (List.drop x8.1 x2))))) (num B (digs B (num B x3*num B (digs B p9)))))>=0)) ((need (List.length (List.take x8.2 (List.drop x8.1 x2))<=1073741824/\List.length (digs B (num B x3*num B (digs B p9)))<=List.length (List.take x8.2 (List.drop x8.1 x2))/\num B (digs B (num B x3*num B (digs B p9)))<=num B (List.take x8.2 (List.drop x8.1 x2)))).bind λI=>(setW x2 x8.1 x8.2 (padD B (List.length (List.take x8.2 (List.drop x8.1 x2))) (num B (List.take x8.2 (List.drop x8.1 x2))-num B (digs B (num B x3*num B (digs B p9)))))).bind λK=>(inI (List.length x5) a6).bind λQ=>(u64P a7).bind λU=>some (.inl (.p6 a1 K x3 a4 (List.set x5 Q U) (wrap .i64 (a6-1))))) (some (.inl (.p10 a1 x2 x3 a4 x5 a6 (wrap .u64 (a7-1)) (x8.1,x8.2))))
noncomputable def keq(a1:Int)(x2 x3 x4:List Nat)(a5 a6:Int):Option (kd5⊕kcr):=cond (decide (a6<a5)) ((atI x3 a6).bind λQ=>cond (decide (a1<0)) (none) ((inI (List.length x4) a6).bind λA=>(u64P (ishr .u64 ((Q:Int)) a1)).bind λC=>cond (decide (a1>0)) (cond (decide ((wrap .i64 (a6+1))<(List.length x3:Int))) ((inI (List.length x4) a6).bind λF=>(atI x3 (wrap .i64 (a6+1))).bind λH=>cond (decide ((wrap .u64 (64-a1))<0)) (none) ((inI (List.length x4) a6).bind λI=>(u64P (ior .u64 (((List.getD (List.set x4 A C) F 0:Nat):Int)) (ishl .u64 ((H:Int)) (wrap .u64 (64-a1))))).bind λK=>some (.inl (.p18 a1 x2 x3 (List.set (List.set x4 A C) I K) a5 (wrap .i64 (a6+1)))))) (some (.inl (.p18 a1 x2 x3 (List.set x4 A C) a5 (wrap .i64 (a6+1)))))) (some (.inl (.p18 a1 x2 x3 (List.set x4 A C) a5 (wrap .i64 (a6+1))))))) (some (.inr (digs B (num B x2),digs B (num B x4))))
noncomputable def kjt:kd5->Option (kd5⊕kcr)
 | .fn x1 x2=>kmu x1 x2
 | .p6 a1 x2 x3 a4 x5 a6=>ki5 a1 x2 x3 a4 x5 a6
 | .p10 a1 x2 x3 a4 x5 a6 a7 x8=>kiq a1 x2 x3 a4 x5 a6 a7 x8
 | .p18 a1 x2 x3 x4 a5 a6=>keq a1 x2 x3 x4 a5 a6
@[reducible] def kqy(h0:AH)(r:kcr)(v:AV)(h':AH):Prop:=∃s1:Sl,∃s2:Sl,v=.tup [s1.v,s2.v]/\Nats h' s1 r.1/\Nats h' s2 r.2/\Grow h0 h'/\Own h0 s1/\Own h0 s2
def kgk(r:kcr):kd5->Prop
 | .fn x1 x2=>∀{h:AH}{a1:Sl}{a2:Sl},Nats h a1 x1->Nats h a2 x2->Runs (go (.fn kcl [a1.v,a2.v]) h) (kqy h r)
 | .p6 a1 x2 x3 a4 x5 a6=>∀{h0 h:AH}{a2:Sl}{a3:Sl}{a5:Sl}{A:Nat}{C:Nat},Grow h0 h->Vec h a2 A x2->Nats h a3 x3->Vec h a5 C x5->h0.blks.size<=A->h0.blks.size<=C->Av a3 A x3->Av a3 C x3->A≠C->Runs (go (.pt kcl koq [(6,.int .u64 a1),(7,a2.v),(8,a3.v),(9,.i a4),(10,a5.v),(11,.i a6)]) h) (kqy h0 r)
 | .p10 a1 x2 x3 a4 x5 a6 a7 x8=>∀{h0 h:AH}{a2:Sl}{a3:Sl}{a5:Sl}{a8:Sl}{A:Nat}{C:Nat},Grow h0 h->Vec h a2 A x2->Nats h a3 x3->Vec h a5 C x5->h0.blks.size<=A->h0.blks.size<=C->Win a8 A x8.1 x8.2->x8.1+x8.2<=List.length x2->Av a3 A x3->Av a3 C x3->A≠C->Runs (go (.pt kcl kr5 [(6,.int .u64 a1),(7,a2.v),(8,a3.v),(9,.i a4),(10,a5.v),(11,.i a6),(12,.int .u64 a7),(13,a8.v)]) h) (kqy h0 r)
 | .p18 a1 x2 x3 x4 a5 a6=>∀{h0 h:AH}{a2:Sl}{a3:Sl}{a4:Sl}{A:Nat}{F:Nat},Grow h0 h->Vec h a2 A x2->Nats h a3 x3->Vec h a4 F x4->h0.blks.size<=A->h0.blks.size<=F->Av a3 A x3->Av a3 F x3->A≠F->Runs (go (.pt kcl kka [(6,.int .u64 a1),(10,a2.v),(15,a3.v),(16,a4.v),(112,.i a5),(113,.i a6)]) h) (kqy h0 r)
theorem kbi1{r:kcr}{o:kd5⊕kcr}{x1 x2:List Nat}(e:kmu x1 x2=some o)(A:GoodS (kgk r) r o):kgk r (.fn x1 x2):=by intro h a1 a2 n1 I;rw[k5a];unfold kmu at e;rw[I.len];obtain⟨y3,q3,e⟩:=qbu.1 e;obtain⟨r3,j3,l3⟩:=I.atI q3;refine qz j3 (qz (rdc l3 qcp) ?_);obtain⟨C,U,e⟩:=qbu.1 e;refine qz (k0g ((y3:Int))  C.down) (qz (seen qcp) ?_);obtain⟨p5,q5,e⟩:=qbu.1 e;obtain⟨_,H5,e5,s5,j5,rfl,F,K,o5⟩:=kyy n1 q5;refine qz e5 (qz (seen qco) ?_);rw[F.nats.len];obtain⟨p6,q6,e⟩:=qbu.1 e;obtain⟨_,H6,e6,s6,j6,rfl,X,H,o6⟩:=kyy (I.grow K) q6;refine qz e6 (qz (seen qco) ?_);obtain⟨s7,e7,Y,Z⟩:=kp9 X;refine qz e7 (qz (seen qco) ?_);rw[Y.len];obtain⟨m8,q8,e⟩:=qbu.1 e;refine Runs.mk q8 kes λs8 H8 v8 Q=>?_;rw[v8.nats.len];cases e;exact A ((K.trans H).trans Q) (F.grow (H.trans Q)) (Y.grow Q) v8 o5 (qbq ((K.trans H)).size (qbp _)) (Av.of_in Z (Nat.ne_of_gt (qbr (F).inn o6))) (Av.of_in Z (Nat.ne_of_lt (qbr (X).inn (qbp _)))) (Nat.ne_of_lt (qbr ((F.grow H)).inn (qbp _)))
theorem kbf6{r:kcr}{o:kd5⊕kcr}{a1:Int}{x2 x3:List Nat}{a4:Int}{x5:List Nat}{a6:Int}(e:ki5 a1 x2 x3 a4 x5 a6=some o)(H:GoodS (kgk r) r o):kgk r (.p6 a1 x2 x3 a4 x5 a6):=by
 intro h0 h a2 a3 a5 i2 i5 g0 A Y v5 aa Q I K C;rw[kbj2];unfold ki5 at e;rw[A.nats.len];rw[Y.len];refine qbd (λk7=>?_) (λk7=>?_)
 ·replace e:=(condT k7).symm.trans e;obtain⟨j8,q8,e⟩:=qbu.1 e;refine qz (A.idx rfl q8) (qz (A.rd rfl q8 qcp) ?_);obtain⟨j9,Z,e⟩:=qbu.1 e;refine qz (A.idx rfl Z) (qz (A.rd rfl Z qcp) ?_);obtain⟨am,U,e⟩:=qbu.1 e;refine qz (A.idx rfl U) (qz (A.rd rfl U qcp) ?_);obtain⟨an,ac,e⟩:=qbu.1 e;obtain⟨ap,ad,ae⟩:=Y.atI ac;refine qz ad (qz (rdc ae qcp) ?_);obtain⟨aq,af,e⟩:=qbu.1 e;obtain⟨ar,ag,ah⟩:=Y.atI af;refine qz ag (qz (rdc ah qcp) ?_);obtain⟨au,ai,e⟩:=qbu.1 e;obtain⟨_,aw,aj,rfl,F⟩:=kbfx ai;refine qz aj (qz (seen qcp) ?_);obtain⟨ax,X,e⟩:=qbu.1 e;obtain⟨ay,ak,al⟩:=(A.grow F).cutW rfl X;refine qz ak ?_;cases e;exact H (g0.trans F) (A.grow F) (Y.grow F) (v5.grow F) aa Q al (k0w X).2.2.2 I K C
 ·replace e:=(condF k7).symm.trans e;obtain⟨s8,e8,n8,i8⟩:=kp9 A;refine qz e8 (qz (seen qco) ?_);rw[n8.len];obtain⟨m9,Z,e⟩:=qbu.1 e;refine Runs.mk Z kes λs9 H9 v9 g9=>?_;cases e;exact H (g0.trans g9) (v5.grow g9) (n8.grow g9) v9 Q (qbq (g0).size (qbp _)) (Av.of_in i8 C) (Av.of_in i8 (Nat.ne_of_lt (qbr (A).inn (qbp _)))) (Nat.ne_of_lt (qbr (v5).inn (qbp _)))
theorem k51{r:kcr}{o:kd5⊕kcr}{a1:Int}{x2 x3:List Nat}{a4:Int}{x5:List Nat}{a6 a7:Int}{x8:Nat×Nat}(e:kiq a1 x2 x3 a4 x5 a6 a7 x8=some o)(ah:GoodS (kgk r) r o):kgk r (.p10 a1 x2 x3 a4 x5 a6 a7 x8):=by
 intro h0 h a2 a3 a5 a8 i2 i5 g0 Z n3 v5 ai aj w8 ak U X F;rw[kbh4];unfold kiq at e;rw[v5.nats.len];obtain⟨p9,q9,e⟩:=qbu.1 e;obtain⟨s9,H9,e9,n9,H,o9⟩:=kom q9;refine qz e9 (qz (seen qco) ?_);obtain⟨al,bk,e⟩:=qbu.1 e;obtain⟨b3,b4,bm,am,A,az⟩:=kt6 (n3.grow H) n9  al.down;refine qz bm (qz (seen qco) ?_);obtain⟨an,bn,e⟩:=qbu.1 e;obtain⟨b5,b6,bp,a0,C,aa⟩:=kni (w8.nats (Z.grow (H.trans A)) ak)  an.down;refine qz bp (qz (seen qco) ?_);obtain⟨b7,bq,ba,bb⟩:=kea a0;refine qz bq (qz (seen qco) ?_);obtain⟨ap,br,e⟩:=qbu.1 e;obtain⟨aq,bt,e⟩:=qbu.1 e;refine qz (kp2 ba (am.grow C)  ap.down aq.down) (qz (seen qcp) ?_);refine qbd (λar=>?_) (λar=>?_)
 ·replace e:=(condT ar).symm.trans e;obtain⟨au,bu,e⟩:=qbu.1 e;obtain⟨b8,b9,bv,bc,I,bd⟩:=kbkg (w8.nats (Z.grow ((H.trans A).trans C)) ak) (am.grow C)  au.down;refine qz bv (qz (seen qco) ?_);obtain⟨ca,be,e⟩:=qbu.1 e;have b2:=kzx be;obtain⟨cb,bw,bx,K⟩:=(Z.grow (((H.trans A).trans C).trans I)).copyW w8 bc be;refine qz bw ?_;have aw:=(n3.grow (((H.trans A).trans C).trans I)).upda U K;have ax:=(n9.grow ((A.trans C).trans I)).upda (qbj o9 (Z).inn) K;have ac:=(am.grow (C.trans I)).upda (qbj az ((Z.grow H)).inn) K;have ad:=(a0.grow I).upda (qbj aa ((Z.grow (H.trans A))).inn) K;have ae:=(ba.grow I).upda (qbj (bb _ aa) ((Z.grow (H.trans A))).inn) K;have af:=bc.upda (qbj bd ((Z.grow ((H.trans A).trans C))).inn) K;have Y:=(v5.grow (((H.trans A).trans C).trans I)).updr (Ne.symm F) K;obtain⟨cc,bf,e⟩:=qbu.1 e;refine qz (Y.idx rfl bf) ?_;obtain⟨cd,bz,e⟩:=qbu.1 e;refine qbh Y rfl bf bz λce b0 Q=>?_;have ay:=aw.upda X Q;have b1:=ax.upda (qbj o9 (v5).inn) Q;have bg:=ac.upda (qbj az ((v5.grow H)).inn) Q;have bh:=ad.upda (qbj aa ((v5.grow (H.trans A))).inn) Q;have bi:=ae.upda (qbj (bb _ aa) ((v5.grow (H.trans A))).inn) Q;have bj:=af.upda (qbj bd ((v5.grow ((H.trans A).trans C))).inn) Q;have ag:=bx.updr F Q;cases e;exact ah ((((((g0.trans H).trans A).trans C).trans I).updr ai K).updr aj Q) ag ay b0 ai aj U X F
 ·replace e:=(condF ar).symm.trans e;cases e;exact ah (((g0.trans H).trans A).trans C) (Z.grow ((H.trans A).trans C)) (n3.grow ((H.trans A).trans C)) (v5.grow ((H.trans A).trans C)) ai aj w8 ak U X F
theorem k9o{r:kcr}{o:kd5⊕kcr}{a1:Int}{x2 x3 x4:List Nat}{a5 a6:Int}(e:keq a1 x2 x3 x4 a5 a6=some o)(Q:GoodS (kgk r) r o):kgk r (.p18 a1 x2 x3 x4 a5 a6):=by
 intro h0 h a2 a3 a4 i2 i4 g0 v2 n3 v4 Y H I A C;rw[kbf9];unfold keq at e;rw[n3.len];rw[v4.nats.len];refine qbd (λk7=>?_) (λk7=>?_)
 ·replace e:=(condT k7).symm.trans e;obtain⟨y8,q8,e⟩:=qbu.1 e;obtain⟨r8,j8,l8⟩:=n3.atI q8;refine qz j8 (qz (rdc l8 qcp) ?_);refine qbd (λk9=>?_) (λk9=>?_)
  ·replace e:=(condT k9).symm.trans e;cases e
  ·replace e:=(condF k9).symm.trans e;obtain⟨aq,ag,e⟩:=qbu.1 e;refine qz (v4.idx rfl ag) ?_;obtain⟨ar,aj,e⟩:=qbu.1 e;refine qbh v4 rfl ag aj λau U X=>?_;have F:=n3.upda A X;have K:=v2.updr C X;refine qbd (λZ=>?_) (λZ=>?_)
   ·replace e:=(condT Z).symm.trans e;refine qbd (λaa=>?_) (λaa=>?_)
    ·replace e:=(condT aa).symm.trans e;obtain⟨aw,ah,e⟩:=qbu.1 e;refine qz (U.idx (by simp only[qb7]) ah) (qz (U.rd (by simp only[qb7]) ah qcp) ?_);obtain⟨ax,ak,e⟩:=qbu.1 e;obtain⟨ay,al,am⟩:=F.atI ak;refine qz al (qz (rdc am qcp) ?_);refine qbd (λac=>?_) (λac=>?_)
     ·replace e:=(condT ac).symm.trans e;cases e
     ·replace e:=(condF ac).symm.trans e;obtain⟨az,ai,e⟩:=qbu.1 e;refine qz (U.idx (by simp only[qb7]) ai) ?_;obtain⟨a0,an,e⟩:=qbu.1 e;refine qbh U (by simp only[qb7]) ai an λba ap ad=>?_;have ae:=F.upda A ad;have af:=K.updr C ad;cases e;exact Q ((g0.updr H X).updr H ad) af ae ap Y H I A C
    ·replace e:=(condF aa).symm.trans e;cases e;exact Q (g0.updr H X) K F U Y H I A C
   ·replace e:=(condF Z).symm.trans e;cases e;exact Q (g0.updr H X) K F U Y H I A C
 ·replace e:=(condF k7).symm.trans e;obtain⟨s8,e8,n8,i8⟩:=kp9 v2;refine qz e8 (qz (seen qco) ?_);obtain⟨s9,e9,n9,i9⟩:=kp9 v4;refine qz e9 (qz (seen qco) ?_);cases e;cases Q;exact qy ⟨s8,s9,rfl,n8,n9,g0,((i8.own Y).of_le (ql _)),((i9.own H).of_le (ql _))⟩
theorem kbdn{s:kd5}{r:kcr}(C:Iter kjt s r):kgk r s:=qbg (λs o e A=>by
 cases s with
 | fn x1 x2=>exact @kbi1 _ _ x1 x2 e A
 | p6 a1 x2 x3 a4 x5 a6=>exact @kbf6 _ _ a1 x2 x3 a4 x5 a6 e A
 | p10 a1 x2 x3 a4 x5 a6 a7 x8=>exact @k51 _ _ a1 x2 x3 a4 x5 a6 a7 x8 e A
 | p18 a1 x2 x3 x4 a5 a6=>exact @k9o _ _ a1 x2 x3 x4 a5 a6 e A
 ) C
end Go.Ab
set_option maxRecDepth 10000
namespace Go.Ab
open Go.Proofs Go.Num
theorem kbly{d q r A x Q R:Nat}(h1:r*18446744073709551616+x=q*d+A)(C:R=d*Q+r):x+18446744073709551616*R=d*(q+18446744073709551616*Q)+A:=by rw[C,Nat.mul_add,Nat.mul_add];have F:18446744073709551616*(d*Q)=d*(18446744073709551616*Q):=Nat.mul_left_comm _ _ _;rw[F,Nat.mul_comm d q];omega
theorem ksk{o:List Nat}{i w:Nat}(h:i<o.length):(o.set i w).drop i=w::o.drop (i+1):=by rw[qcg (by simpa using h),List.getElem_set_self,List.drop_set_of_lt (by omega)]
theorem k39{xs:List Nat}{d:Nat}(Q:∀x∈xs,x<B)(U:d<B)(A:0<d)(Y:xs.length<=8796093022208) :
  ∀(i:Nat)(o:List Nat)(r:Nat),i<=xs.length->o.length=xs.length->r<d->num B (xs.drop i)=d*num B (o.drop i)+r->
   Iter kuj (.p4 xs d o r ((i:Int)-1)) (digs B (num B xs/d),((num B xs%d:Nat):Int))
 | 0,o,r,hi,lo,C,e=>by
  refine .done ?_;show kht _ _ _ _ _=_;unfold kht;rw[List.drop_zero,List.drop_zero]at e;rw[condF (by rw[qbv];omega),e,Nat.mul_add_div A,Nat.div_eq_of_lt C,Nat.add_zero,Nat.mul_add_mod,Nat.mod_eq_of_lt C]
 | i+1,o,r,hi,lo,C,e=>by
  have F:i<xs.length:=by omega
  have H:i<o.length:=by omega
  have Z:=Q xs[i] (qb3 _);have I:d<18446744073709551616:=U;have K:xs[i]<18446744073709551616:=Z
  have hq:(r*18446744073709551616+xs[i])/d<18446744073709551616:=by rw[Nat.div_lt_iff_lt_mul A];have:(r+1)*18446744073709551616<=d*18446744073709551616:=Nat.mul_le_mul_right _ C;omega
  refine .next (s':=.p4 xs d (o.set i ((r*18446744073709551616+xs[i])/d)) ((r*18446744073709551616+xs[i])%d:Nat) ((i:Int)-1)) ?_ (k39 Q U A Y i _ _ (by omega) (by simpa using lo) (Nat.mod_lt _ A) ?_)
  ·show kht _ _ _ _ _=_;unfold kht;rw[condT (by rw[qbw];omega),show((i+1:Nat):Int)-1=(i:Int)from by omega,kcw F,qbt,ky6 I K C,qbt,kbi H,qbt];dsimp only;rw[kbt hq,qbt,wrap64 (by omega) (by omega)]
  ·rw[ksk H,qcg F];simp only[num];have X:=Nat.div_add_mod (r*18446744073709551616+xs[i]) d;rw[Nat.mul_comm d]at X;exact kbly X.symm e
theorem kbgw{xs:List Nat}{d:Nat}(F:∀x∈xs,x<B)(H:d<B)(A:0<d)(C:xs.length<=8796093022208):Iter kuj (.fn xs d) (digs B (num B xs/d),((num B xs%d:Nat):Int)):=by refine .next (s':=.p4 xs d (List.replicate xs.length 0) ((0:Nat):Int) ((xs.length:Int)-1)) ?_ (k39 F H A C xs.length _ _ (qbp _) (by simp) A (by simp[num]));show klq _ _=_;unfold klq;rw[kgi C,qbt,wrap64 (by omega) (by omega)];rfl
theorem kblf{h:AH}{s:Sl}{xs:List Nat}(n:Nats h s xs){d:Nat}(C:d<B)(A:0<d)(F:xs.length<=8796093022208):∃(s':Sl)(h':AH),go (.fn kf2 [s.v,.int .u64 (d:Int)]) h=some (.tup [s'.v,.int .u64 ((num B xs%d:Nat):Int)],h')/\Nats h' s' (digs B (num B xs/d))/\Grow h h'/\Own h s':=by obtain⟨_,h',e,s',rfl,H,g,o⟩:=k8s (kbgw n.lt C A F) n;exact⟨s',h',e,H,g,o⟩
theorem kzy(a b:Int):ior .u64 a b=ior .u64 b a:=by unfold ior;rw[BitVec.or_comm]
theorem kbld{x n:Nat}(A:x<18446744073709551616)(C:n<=63):x*2^n%18446744073709551616=x%2^(64-n)*2^n/\x*2^n/18446744073709551616=x/2^(64-n)/\x/2^(64-n)<2^n/\x%2^(64-n)*2^n<18446744073709551616:=by
 have p:0<2^n:=Nat.pow_pos (by decide);have p2:0<2^(64-n):=Nat.pow_pos (by decide);have e:2^(64-n)*2^n=18446744073709551616:=by rw[<- Nat.pow_add,show 64-n+n=64 from by omega]
 refine⟨?_,?_,?_,?_⟩
 ·rw[<- e,Nat.mul_mod_mul_right]
 ·rw[<- e,Nat.mul_div_mul_right _ _ p]
 ·rw[Nat.div_lt_iff_lt_mul p2,Nat.mul_comm,e];exact A
 ·have:=Nat.mul_lt_mul_of_pos_right (Nat.mod_lt x p2) p;rw[e]at this;exact this
theorem up_alg{P c l hgh t A n1 C X:Nat}(h1:n1+P*c=A+P*(l+c))(H:C+P*18446744073709551616*0=n1+P*18446744073709551616*hgh)(F:t=hgh*18446744073709551616+l)(I:A=X):C=X+P*t:=by rw[Nat.mul_add]at h1;rw[F,Nat.mul_add,Nat.mul_comm hgh,<- Nat.mul_assoc];omega
theorem kus{xs:List Nat}{n:Nat}(U:∀x∈xs,x<B)(X:n<=63)(hl:xs.length<8796093022208) :
  ∀(d i:Nat)(o:List Nat),i+d=xs.length->o.length=xs.length+1->(∀y∈o,y<B)->Empty o (i+1)->(∀h:i<o.length,o[i]<2^n)->num B o=num B (xs.take i)*2^n->
   ∃r,Iter kkj (.p3 n o xs xs.length i) r/\r.length=xs.length+1/\(∀y∈r,y<B)/\num B r=num B xs*2^n
 | 0,i,o,hi,lo,to,zo,ho,e=>by
  have hi:i=xs.length:=by omega
  subst hi;rw[List.take_length]at e;refine⟨o,.done ?_,lo,to,e⟩;show kgn _ _ _ _ _=_;unfold kgn;rw[condF (by rw[qbv];omega)]
 | d+1,i,o,hi,lo,to,zo,ho,e=>by
  have H:i<xs.length:=by omega
  have A:i<o.length:=by omega
  have hx:xs[i]<18446744073709551616:=U xs[i] (qb3 _);have hc:=ho A;obtain⟨u1,u2,u3,u4⟩:=kbld hx X;have shl:ishl .u64 (xs[i]:Int) (n:Int)=((xs[i]%2^(64-n)*2^n:Nat):Int):=by rw[klg _ _ (by omega),u1]
  have io:ior .u64 (o[i]:Int) ((xs[i]%2^(64-n)*2^n:Nat):Int)=((xs[i]%2^(64-n)*2^n+o[i]:Nat):Int):=by rw[kzy,ktq u4 hc (by omega)]
  have Q:xs[i]%2^(64-n)*2^n+o[i]<18446744073709551616:=by
   have p:0<2^n:=Nat.pow_pos (by decide);have p2:0<2^(64-n):=Nat.pow_pos (by decide);have e:2^(64-n)*2^n=18446744073709551616:=by rw[<- Nat.pow_add,show 64-n+n=64 from by omega]
   have:=Nat.mul_le_mul_right (2^n) (Nat.mod_lt xs[i] p2);rw[e,Nat.succ_mul]at this;omega
  generalize ad:xs[i]%2^(64-n)*2^n=l at *
  have I:i+1<(o.set i (l+o[i])).length:=by simp;omega
  have h1:=kj1 (b:=B) A (l+o[i])
  have hz:(o.set i (l+o[i]))[i+1]=0:=by rw[List.getElem_set_ne (by omega)];exact zo _ (by omega) (by omega)
  have F:xs[i]*2^n=xs[i]/2^(64-n)*18446744073709551616+l:=by have:=Nat.div_add_mod (xs[i]*2^n) 18446744073709551616;rw[u2,u1,Nat.mul_comm]at this;exact this.symm
  have C:num B (xs.take (i+1))*2^n=num B (xs.take i)*2^n+B^i*(xs[i]*2^n):=by rw[kdt B H,Nat.add_mul,Nat.mul_assoc]
  have hB:xs[i]/2^(64-n)<18446744073709551616:=qbs (Nat.div_le_self _ _) hx;by_cases Y:n=0
  ·
   have hh:xs[i]/2^(64-n)=0:=by subst Y;rw[Nat.pow_zero]at u3;omega
   obtain⟨r,Z,r1,r2,r3⟩:=kus U X hl d (i+1) (o.set i (l+o[i])) (by omega) (by simpa using lo) (set_lt to Q) (by intro t K hk;rw[List.getElem_set_ne (by omega)];exact zo t (by simpa using K) (by omega)) (by intro K;rw[hz];exact Nat.pow_pos (by decide)) (by rw[C,F,hh];exact up_alg (hgh:=0) h1 (by omega) rfl e)
   refine⟨r,.next ?_ Z,r1,r2,r3⟩;show kgn _ _ _ _ _=_;unfold kgn;rw[condT (by rw[qbw];omega),kcw H,qbt,kbi A,qbt,condF (by rw[qbv];omega),qbt,ker A,shl,io,kbt Q,qbt,condF (by rw[qbv];omega),kj (by omega)]
  ·have h2:=kj1 (b:=B) I (xs[i]/2^(64-n));rw[hz]at h2
   obtain⟨r,Z,r1,r2,r3⟩:=kus U X hl d (i+1) ((o.set i (l+o[i])).set (i+1) (xs[i]/2^(64-n))) (by omega) (by simpa using lo) (set_lt (set_lt to Q) hB) (by intro t K hk;rw[List.getElem_set_ne (by omega),List.getElem_set_ne (by omega)];exact zo t (by simpa using K) (by omega)) (by intro K;rw[List.getElem_set_self];exact u3) (by rw[C];rw[Nat.pow_succ]at h2;exact up_alg h1 h2 F e)
   refine⟨r,.next ?_ Z,r1,r2,r3⟩;have aa:ishr .u64 (xs[i]:Int) ((64-n:Nat):Int)=((xs[i]/2^(64-n):Nat):Int):=by rw[kct,Nat.min_eq_left (by omega)]
   have ac:IntKind.wrap .u64 (64-(n:Int))=((64-n:Nat):Int):=by rw[wrapU];omega
   show kgn _ _ _ _ _=_;unfold kgn;rw[condT (by rw[qbw];omega),kcw H,qbt,kbi A,qbt,condF (by rw[qbv];omega),qbt,ker A,shl,io,kbt Q,qbt,condT (by rw[qbw];omega),ac,condF (by rw[qbv];omega),kj (by omega),kbi (by omega),qbt,aa,kbt hB,qbt]
theorem k40{xs:List Nat}{n:Nat}(A:∀x∈xs,x<B)(C:n<=63)(F:xs.length<8796093022208):∃r,Iter kkj (.fn xs n) r/\r.length=xs.length+1/\(∀y∈r,y<B)/\num B r=num B xs*2^n:=by
 obtain⟨r,H,k⟩:=kus A C F xs.length 0 (List.replicate (xs.length+1) 0) (by omega) (by simp) (λy I=>by rw[List.eq_of_mem_replicate I];exact B0) (λt K Q=>by simp) (λK=>by simp;exact Nat.pow_pos (by decide)) (by
  have:=klx B [] (xs.length+1)
  simpa[num]using this)
 refine⟨r,.next ?_ H,k⟩;show kl4 _ _=_;unfold kl4;rw[kj (by omega),kgi (by omega),qbt];rfl
theorem kn_hi2{b A C W r0 q r:Nat}(F:0<A*b+C)(e:q*A+r=W)(t:b*r+r0<q*C):(W*b+r0)/(A*b+C)<=q-1/\1<=q:=by
 have h1:(W*b+r0)/(A*b+C)<q:=by rw[Nat.div_lt_iff_lt_mul F,kn_mul (v:=A*b+C) rfl,<- e,Nat.add_mul,Nat.mul_comm r b];omega
 generalize (W*b+r0)/(A*b+C)=k at *
 omega
theorem kx5{d1 d0 W r0:Nat}(h1:d1<18446744073709551616)(F:0<d1)(h0:d0<18446744073709551616)(U:r0<18446744073709551616) :
  ∀(q r:Nat),q*d1+r=W->q<18446744073709551616->r<18446744073709551616->(W*18446744073709551616+r0)/(d1*18446744073709551616+d0)<=q->
   ∃g:Nat,Iter kku (.p4 r0 d1 d0 q r) (g:Int)/\g<18446744073709551616/\(W*18446744073709551616+r0)/(d1*18446744073709551616+d0)<=g
 | q,r,e,H,X,A=>by
  have I:mul64 (q:Int) (d0:Int)=(((q*d0/18446744073709551616:Nat):Int),((q*d0%18446744073709551616:Nat):Int)):=k1y H h0;by_cases c1:q*d0/18446744073709551616<r
  ·refine⟨q,.done ?_,H,A⟩;show kgl _ _ _ _ _=_;unfold kgl;rw[I];dsimp only;rw[condT (by rw[qbw];omega)]
  by_cases c2:q*d0/18446744073709551616=r/\q*d0%18446744073709551616<=r0
  ·refine⟨q,.done ?_,H,A⟩;show kgl _ _ _ _ _=_;unfold kgl;rw[I];dsimp only;rw[condF (by rw[qbv];omega),condT (by rw[qbw];omega),condT (by rw[qbw];omega)]
  have t:18446744073709551616*r+r0<q*d0:=by
   generalize q*d0=t at *
   omega
  obtain⟨K,k2⟩:=kn_hi2 (by omega) e t;obtain⟨p,rfl⟩:∃p,q=p+1:=⟨q-1,by omega⟩;rw[Nat.add_sub_cancel]at K
  have Y:p*d1+(r+d1)=W:=by rw[Nat.add_mul,Nat.one_mul]at e;omega
  have Z:IntKind.wrap .u64 (((p+1:Nat):Int)-1)=(p:Int):=by rw[wrapU];omega
  have step:∀o,cond (decide ((IntKind.wrap .u64 ((r:Int)+(d1:Int)))<(r:Int))) (some (Sum.inr (α:=kgq) (p:Int))) (some (.inl (.p4 r0 d1 d0 p (IntKind.wrap .u64 ((r:Int)+(d1:Int))))))=o->kku (.p4 r0 d1 d0 ((p+1:Nat):Int) r)=o:=by intro o C;show kgl _ _ _ _ _=_;unfold kgl;rw[I];dsimp only;rw[Z,condF (by rw[qbv];omega)];refine kft (λ_=>?_) λ_=>C;rw[condF (by rw[qbv];rename_i h;rw[qbw]at h;omega)];exact C
  by_cases C:r+d1<18446744073709551616
  ·have Q:IntKind.wrap .u64 ((r:Int)+(d1:Int))=((r+d1:Nat):Int):=by rw[wrapU];omega
   obtain⟨g,it,k3,k4⟩:=kx5 h1 F h0 U p (r+d1) Y (by omega) C K;refine⟨g,.next (step _ ?_) it,k3,k4⟩;rw[Q,condF (by rw[qbv];omega)]
  ·have Q:IntKind.wrap .u64 ((r:Int)+(d1:Int))=((r+d1-18446744073709551616:Nat):Int):=by rw[wrapU];omega
   refine⟨p,.done (step _ ?_),by omega,K⟩;rw[Q,condT (by rw[qbw];omega)]
termination_by q=>q
theorem kbcd{r2 r1 r0 d1 d0:Nat}(Z:r2<18446744073709551616)(F:r1<18446744073709551616)(H:r0<18446744073709551616)(h1:d1<18446744073709551616)(A:0<d1)(h0:d0<18446744073709551616) :
  ∃g:Nat,Iter kku (.fn r2 r1 r0 d1 d0) (g:Int)/\g<18446744073709551616/\(g=18446744073709551615\/((r2*18446744073709551616+r1)*18446744073709551616+r0)/(d1*18446744073709551616+d0)<=g):=by
 by_cases hc:d1<=r2
 ·refine⟨18446744073709551615,.done ?_,by omega,.inl rfl⟩;show kis _ _ _ _ _=_;unfold kis;rw[condT (by rw[qbw];omega)];rfl
 ·have C:r2<d1:=by omega
  have I:(r2*18446744073709551616+r1)/d1<18446744073709551616:=by rw[Nat.div_lt_iff_lt_mul A];have:(r2+1)*18446744073709551616<=d1*18446744073709551616:=Nat.mul_le_mul_right _ C;omega
  have hm:=Nat.mod_lt (r2*18446744073709551616+r1) A
  have first:((r2*18446744073709551616+r1)*18446744073709551616+r0)/(d1*18446744073709551616+d0)<=(r2*18446744073709551616+r1)/d1:=by
   rw[Nat.le_div_iff_mul_le A];have K:=Nat.div_mul_le_self ((r2*18446744073709551616+r1)*18446744073709551616+r0) (d1*18446744073709551616+d0);rw[kn_mul (v:=d1*18446744073709551616+d0) rfl]at K
   have Q:((r2*18446744073709551616+r1)*18446744073709551616+r0)/(d1*18446744073709551616+d0)*d1*18446744073709551616<(r2*18446744073709551616+r1+1)*18446744073709551616:=by rw[Nat.add_mul _ 1];omega
   have:=Nat.lt_of_mul_lt_mul_right Q;omega
  obtain⟨g,U,X,Y⟩:=kx5 h1 A h0 H ((r2*18446744073709551616+r1)/d1) ((r2*18446744073709551616+r1)%d1) (by rw[Nat.mul_comm];exact Nat.div_add_mod _ _) I (by omega) first
  refine⟨g,.next ?_ U,X,.inr Y⟩;show kis _ _ _ _ _=_;unfold kis;rw[condF (by rw[qbv];omega),ky6 h1 F C,qbt]
theorem kmv{s:Nat}(A:s<=64):2^(64-s)*2^s=18446744073709551616:=by rw[<- Nat.pow_add,show 64-s+s=64 from by omega]
theorem kbiw{s:Nat}(A:s<=64)(t:List Nat):num B t%2^s=t.getD 0 0%2^s:=by
 cases t with
 | nil=>rfl
 | cons x t =>
  show(x+B*num B t)%2^s=x%2^s
  have e:B*num B t=2^s*(2^(64-s)*num B t):=by rw[<- Nat.mul_assoc,Nat.mul_comm (2^s),kmv A]
  rw[e,Nat.add_mul_mod_self_left]
theorem k8j{s x:Nat}(A:s<=64)(t:List Nat):(x+B*num B t)/2^s=(t.getD 0 0%2^s*2^(64-s)+x/2^s)+B*(num B t/2^s):=by
 have p:0<2^s:=Nat.pow_pos (by decide);have F:=kbiw A t;have C:=Nat.div_add_mod (num B t) (2^s);rw[F]at C;generalize t.getD 0 0%2^s=z at *
 generalize num B t/2^s=q at *
 have e:x+B*num B t=x+2^s*(B*q+2^(64-s)*z):=by rw[<- C,Nat.mul_add,Nat.mul_add,Nat.mul_left_comm B,<- Nat.mul_assoc (2^s) (2^(64-s)),Nat.mul_comm (2^s) (2^(64-s)),kmv A]
 rw[e,Nat.add_mul_div_left _ _ p,Nat.mul_comm (2^(64-s))];omega
theorem kbai{s x z:Nat}(A:s<=64)(C:x<18446744073709551616):z%2^s*2^(64-s)+x/2^s<18446744073709551616/\x/2^s<2^(64-s)/\z%2^s*2^(64-s)<18446744073709551616:=by
 have p:0<2^s:=Nat.pow_pos (by decide);have e:=kmv A;have h1:x/2^s<2^(64-s):=by rw[Nat.div_lt_iff_lt_mul p,e];exact C
 have F:=Nat.mul_le_mul_right (2^(64-s)) (Nat.mod_lt z p);rw[Nat.mul_comm (2^s),e,Nat.succ_mul]at F;generalize x/2^s=f at *
 omega
theorem kps{q L:List Nat}{s:Nat}(U:∀x∈L,x<B)(X:s<=63)(Y:L.length<=8796093022208) :
  ∀(d i:Nat)(o:List Nat),i+d=L.length->o.length=L.length->num B (o.take i)+B^i*(num B (L.drop i)/2^s)=num B L/2^s->
   Iter kjt (.p18 s q L o L.length i) (digs B (num B q),digs B (num B L/2^s))
 | 0,i,o,hi,lo,e=>by
  have hi:i=L.length:=by omega
  subst hi;refine .done ?_;show keq _ _ _ _ _ _=_;unfold keq;rw[condF (by rw[qbv];omega)];rw[List.take_of_length_le (by omega),List.drop_of_length_le (by omega)]at e;simp only[num,Nat.zero_div,Nat.mul_zero,Nat.add_zero]at e;rw[e]
 | d+1,i,o,hi,lo,e=>by
  have F:i<L.length:=by omega
  have A:i<o.length:=by omega
  have hx:L[i]<18446744073709551616:=U L[i] (qb3 _);obtain⟨w1,w2,w3⟩:=kbai (z:=(L.drop (i+1)).getD 0 0) (show s<=64 by omega) hx;have hg:(L.drop (i+1)).getD 0 0=L.getD (i+1) 0:=by simp[List.getD]
  have C:∀w,w=(L.drop (i+1)).getD 0 0%2^s*2^(64-s)+L[i]/2^s->num B ((o.set i w).take (i+1))+B^(i+1)*(num B (L.drop (i+1))/2^s)=num B L/2^s:=by intro w hw;rw[qcg F]at e;simp only[num]at e;rw[k8j (by omega),<- hw]at e;rw[kdt B (by simpa using A),List.getElem_set_self,List.take_set_of_le (qbp i),Nat.pow_succ,Nat.mul_assoc];rw[Nat.mul_add]at e;omega
  have Z:ishr .u64 (L[i]:Int) (s:Int)=((L[i]/2^s:Nat):Int):=by rw[kct,Nat.min_eq_left (by omega)]
  have H:L[i]/2^s<18446744073709551616:=qbs (Nat.div_le_self _ _) hx;by_cases aa:s=0
  ·subst aa;refine .next (s':=.p18 ((0:Nat):Int) q L (o.set i (L[i]/2^0)) L.length ((i+1:Nat):Int)) ?_ (kps U X Y d (i+1) _ (by omega) (by simpa using lo) (C _ (by rw[Nat.pow_zero,Nat.mod_one];omega)));show keq _ _ _ _ _ _=_;unfold keq;rw[condT (by rw[qbw];omega),kcw F,qbt,condF (by rfl),kbi A,qbt,Z,kbt H,qbt,condF (by rfl),kj (by omega)]
  by_cases I:i+1<L.length
  ·have K:L.getD (i+1) 0=L[i+1]:=ker I;rw[hg,K]at w1 w3 C;refine .next (s':=.p18 s q L (o.set i (L[i+1]%2^s*2^(64-s)+L[i]/2^s)) L.length ((i+1:Nat):Int)) ?_ (kps U X Y d (i+1) _ (by omega) (by simpa using lo) (C _ rfl));show keq _ _ _ _ _ _=_;unfold keq;have ac:IntKind.wrap .u64 (64-(s:Int))=((64-s:Nat):Int):=by rw[wrapU];omega
   have sl:ishl .u64 (L[i+1]:Int) ((64-s:Nat):Int)=((L[i+1]%2^s*2^(64-s):Nat):Int):=by rw[klg _ _ (by omega)];congr 1;rw[<- kmv (show s<=64 by omega),Nat.mul_comm (2^(64-s)) (2^s),Nat.mul_mod_mul_right]
   have io:ior .u64 ((L[i]/2^s:Nat):Int) ((L[i+1]%2^s*2^(64-s):Nat):Int)=((L[i+1]%2^s*2^(64-s)+L[i]/2^s:Nat):Int):=by rw[kzy,ktq w3 w2 (by omega)]
   have Q:i<(o.set i (L[i]/2^s)).length:=by simpa using A
   rw[condT (by rw[qbw];omega),kcw F,qbt,condF (by rw[qbv];omega),kbi A,qbt,Z,kbt H,qbt,condT (by rw[qbw];omega),kj (by omega),condT (by rw[qbw];omega),qbt,kcw I,qbt,ac,condF (by rw[qbv];omega),qbt,ker Q,List.getElem_set_self,sl,io,kbt w1,qbt,List.set_set]
  ·have K:L.getD (i+1) 0=0:=by simp[List.getD,List.getElem?_eq_none (Nat.le_of_not_lt I)]
   rw[hg,K]at C;refine .next (s':=.p18 s q L (o.set i (L[i]/2^s)) L.length ((i+1:Nat):Int)) ?_ (kps U X Y d (i+1) _ (by omega) (by simpa using lo) (C _ (by rw[Nat.zero_mod];omega)));show keq _ _ _ _ _ _=_;unfold keq;rw[condT (by rw[qbw];omega),kcw F,qbt,condF (by rw[qbv];omega),kbi A,qbt,Z,kbt H,qbt,condT (by rw[qbw];omega),kj (by omega),condF (by rw[qbv];omega)]
theorem cmp_ge{a b:Nat}:cmp a b>=0↔b<=a:=by
 unfold cmp;by_cases h:a<b
 ·rw[if_pos h];omega
 ·rw[if_neg h];by_cases A:a=b
  ·rw[if_pos A];omega
  ·rw[if_neg A];omega
theorem kblm{xs ys:List Nat}{lo n:Nat}(h:lo+n<=xs.length)(A:ys.length=n):setW xs lo n ys=some (xs.take lo++ys++xs.drop (lo+n)):=by unfold setW;rw[if_pos ⟨h,A⟩]
theorem k2n{s:Int}{r d q:List Nat}{j:Nat}{res:kcr}(X:∀x∈r,x<B)(hd:∀x∈d,x<B)(Y:j<q.length)(hw:j+(d.length+1)<=r.length)(H:r.length<=1073741823)(I:q.length<=1073741823)(A:0<num B d)
  (K:Iter kjt (.p6 s (r.take j++padD B (d.length+1) (num B ((r.drop j).take (d.length+1))%num B d)++r.drop (j+(d.length+1))) d d.length (q.set j (num B ((r.drop j).take (d.length+1))/num B d)) ((j:Int)-1)) res) :
  ∀g:Nat,g<18446744073709551616->num B ((r.drop j).take (d.length+1))/num B d<=g->Iter kjt (.p10 s r d d.length q j g (j,d.length+1)) res
 | g,Q,U=>by
  have C:((r.drop j).take (d.length+1)).length=d.length+1:=by simp;omega
  have tw:∀x∈(r.drop j).take (d.length+1),x<B:=λx hx=>X x (List.mem_of_mem_drop (List.mem_of_mem_take hx));have hP:=num_lt B1 tw;rw[C]at hP
  have lg:(digs B g).length<=1:=by rw[kbl B2,Nat.pow_one];exact Q
  by_cases F:num B d*g<=num B ((r.drop j).take (d.length+1))
  ·have Z:num B ((r.drop j).take (d.length+1))/num B d=g:=Nat.le_antisymm U (by rw[Nat.le_div_iff_mul_le A,Nat.mul_comm];exact F)
   have hm:num B ((r.drop j).take (d.length+1))-num B d*g=num B ((r.drop j).take (d.length+1))%num B d:=by have:=Nat.div_add_mod (num B ((r.drop j).take (d.length+1))) (num B d);rw[Z]at this;omega
   rw[Z]at K;refine .next ?_ K;show kiq _ _ _ _ _ _ _ _=_;unfold kiq
   have lp:(digs B (num B d*g)).length<=d.length+1:=by rw[kbl B2];omega
   rw[kbt Q,qbt,kq (by omega),qbt,kq (by rw[C];omega),qbt,kq (kcn B2 _),qbt,kq (kcn B2 _),qbt];dsimp only;rw[ko B2,ko B2,ko B2,condT (by rw[qbw,cmp_ge];exact F),kq (by rw[C];exact⟨by omega,lp,F⟩),qbt,C,hm,kblm (by omega) (kur _ _ _),qbt,kbi Y,qbt,qbt,wrap64 (by omega) (by omega)]
  ·obtain⟨p,rfl⟩:∃p,g=p+1:=⟨g-1,by
    rcases Nat.eq_zero_or_pos g with e | e
    ·subst e;rw[Nat.mul_zero]at F;omega
    ·omega⟩
   have aa:num B ((r.drop j).take (d.length+1))/num B d<p+1:=by rw[Nat.div_lt_iff_lt_mul A,Nat.mul_comm];omega
   refine .next (s':=.p10 s r d d.length q j p (j,d.length+1)) ?_ (k2n X hd Y hw H I A K p (by omega) (by omega));show kiq _ _ _ _ _ _ _ _=_;unfold kiq;rw[kbt Q,qbt,kq (by omega),qbt,kq (by rw[C];omega),qbt,kq (kcn B2 _),qbt,kq (kcn B2 _),qbt];dsimp only;rw[ko B2,ko B2,ko B2,condF (by rw[qbv,cmp_ge];exact F),show IntKind.wrap .u64 (((p+1:Nat):Int)-1)=(p:Int)from by rw[wrapU];omega]
termination_by g=>g
end Go.Ab
set_option maxRecDepth 10000
namespace Go.Ab
open IntKind (wrap)
open Go.Proofs Go.Num
theorem kbdb{b:Nat}{zs:List Nat}{n:Nat}(h:zs.length=n+2):num b zs=num b (zs.take n)+b^n*(zs[n+1]*b+zs[n]):=by
 have e:num b zs=num b (zs.take (n+1+1)):=by rw[List.take_of_length_le (by omega)]
 rw[e,kdt b (by omega),kdt b (by omega),Nat.pow_succ,Nat.mul_add,Nat.mul_assoc,Nat.mul_comm b];omega
theorem kbcj{b:Nat}{zs:List Nat}{n:Nat}(h:zs.length=n+3):num b zs=num b (zs.take n)+b^n*((zs[n+2]*b+zs[n+1])*b+zs[n]):=by
 have e:num b zs=num b (zs.take (n+1+1+1)):=by rw[List.take_of_length_le (by omega)]
 rw[e,kdt b (by omega),kdt b (by omega),kdt b (by omega)];have A:b^(n+1)*zs[n+1]=b^n*(zs[n+1]*b):=by rw[Nat.pow_succ,Nat.mul_assoc,Nat.mul_comm b]
 have C:b^(n+1+1)*zs[n+1+1]=b^n*(zs[n+2]*b*b):=by rw[Nat.pow_succ,Nat.pow_succ,Nat.mul_assoc,Nat.mul_assoc,Nat.mul_comm b,Nat.mul_comm b]
 rw[A,C,Nat.add_mul,Nat.mul_add,Nat.mul_add];omega
theorem top_le{E T D p e:Nat}(H:p<E)(A:0<D):(p+E*T)/(e+E*D)<=T/D:=by
 have hE:0<E:=by omega
 have C:0<e+E*D:=by have:=Nat.mul_pos hE A;omega
 have h1:T<(T/D+1)*D:=by rw[Nat.mul_comm];exact Nat.lt_mul_div_succ T A
 have F:E*(T+1)<=E*((T/D+1)*D):=Nat.mul_le_mul_left _ h1;rw[Nat.mul_add,Nat.mul_one]at F
 have I:(p+E*T)/(e+E*D)<T/D+1:=by rw[Nat.div_lt_iff_lt_mul C,Nat.mul_add,Nat.mul_left_comm _ E D];omega
 omega
theorem kbh7{A P low C X F n1:Nat}(h1:n1+A*(C*18446744073709551616)*F=X)(Q:n1=low+C*P):low+C*(P%A)+A*C*(P/A+18446744073709551616*F)=X:=by
 have H:=Nat.div_add_mod P A;have U:C*P=C*(A*(P/A))+C*(P%A):=by rw[<- Nat.mul_add,H]
 have I:A*C*(P/A)=C*(A*(P/A)):=by rw[Nat.mul_comm A C,Nat.mul_assoc]
 have K:A*(C*18446744073709551616)*F=A*C*(18446744073709551616*F):=by rw[<- Nat.mul_assoc A,Nat.mul_assoc (A*C)]
 rw[Nat.mul_add,I,<- K];omega
theorem kz6{s X m k:Nat}{d:List Nat}(hs:s<=63)(I:d.length=k+2)(K:∀x∈d,x<B)(ht:Trim d)(hm:m<=536870911)(ae:k<=536870000) :
  ∀(i:Nat)(r q:List Nat),i<=m->r.length=m+(k+2)->q.length=m->(∀x∈r,x<B)->num B r+num B d*B^i*num B (q.drop i)=X->num B r<num B d*B^i->
   Iter kjt (.p6 s r d d.length q ((i:Int)-1)) (digs B (X/num B d),digs B (X%num B d/2^s))
 | 0,r,q,hi,lr,lq,tr,e,lt=>by
  rw[List.drop_zero,Nat.pow_zero,Nat.mul_one]at e;rw[Nat.pow_zero,Nat.mul_one]at lt;have F:0<num B d:=by omega
  have hq:X/num B d=num B q:=by rw[<- e,Nat.add_mul_div_left _ _ F,Nat.div_eq_of_lt lt,Nat.zero_add]
  have hr:X%num B d=num B r:=by rw[<- e,Nat.add_mul_mod_self_left,Nat.mod_eq_of_lt lt]
  rw[hq,hr];have hl:=klk tr;have key:=kps (q:=q) (kbv B2 (num B r)) hs (by omega) (digs B (num B r)).length 0 (List.replicate (digs B (num B r)).length 0) (by omega) (by simp) (by simp[num]);rw[ko B2]at key;refine .next ?_ key;show ki5 _ _ _ _ _ _=_;unfold ki5;rw[condF (by rw[qbv];omega),kgi (by omega),qbt];rfl
 | j+1,r,q,hi,lr,lq,tr,e,lt=>by
  have F:0<num B d:=by
   rcases Nat.eq_zero_or_pos (num B d)with h | h
   ·rw[h,Nat.zero_mul]at lt;omega
   ·exact h
  have af:=num_lt B1 K;rw[I]at af;have lw:((r.drop j).take (d.length+1)).length=k+3:=by simp;omega
  have tw:∀x∈(r.drop j).take (d.length+1),x<B:=λx A=>tr x (List.mem_of_mem_drop (List.mem_of_mem_take A));have C:(r.take j).length=j:=by simp;omega
  have er:num B r=num B (r.take j)+B^j*num B ((r.drop j).take (d.length+1))+B^(j+(d.length+1))*num B (r.drop (j+(d.length+1))):=by
   have e1:num B r=num B (r.take j++((r.drop j).take (d.length+1)++(r.drop j).drop (d.length+1))):=by rw[List.take_append_drop,List.take_append_drop]
   rw[kdn,kdn,C,lw,List.drop_drop]at e1;have e3:j+(k+3)=j+(d.length+1):=by omega
   rw[e1,Nat.mul_add (B^j),<- Nat.mul_assoc (B^j),<- Nat.pow_add,e3];omega
  have Q:=num_lt (b:=B) B1 (xs:=r.take j) λx A=>tr x (List.mem_of_mem_take A);rw[C]at Q
  have H:num B (r.drop (j+(d.length+1)))=0:=by
   rcases Nat.eq_zero_or_pos (num B (r.drop (j+(d.length+1))))with h | h
   ·exact h
   ·exfalso;have h1:B^(j+(d.length+1))*1<=B^(j+(d.length+1))*num B (r.drop (j+(d.length+1))):=Nat.mul_le_mul_left _ h;have h2:num B d*B^(j+1)<=B^(k+2)*B^(j+1):=Nat.mul_le_mul_right _ (by omega);rw[<- Nat.pow_add,show k+2+(j+1)=j+(d.length+1)from by omega]at h2;omega
  rw[H,Nat.mul_zero,Nat.add_zero]at er
  have hP:num B ((r.drop j).take (d.length+1))<num B d*B:=by
   have h1:B^j*num B ((r.drop j).take (d.length+1))<B^j*(num B d*B):=by
    have:num B d*B^(j+1)=B^j*(num B d*B):=by rw[Nat.pow_succ,Nat.mul_left_comm]
    omega
   exact Nat.lt_of_mul_lt_mul_left h1
  have hq:num B ((r.drop j).take (d.length+1))/num B d<18446744073709551616:=by rw[Nat.div_lt_iff_lt_mul F,Nat.mul_comm];exact hP
  have i2:j+(k+2)<r.length:=by omega
  have i1:j+(k+1)<r.length:=by omega
  have i0:j+k<r.length:=by omega
  have g2:((r.drop j).take (d.length+1))[k+2]=r[j+(k+2)]:=by simp
  have g1:((r.drop j).take (d.length+1))[k+1]=r[j+(k+1)]:=by simp
  have g0:((r.drop j).take (d.length+1))[k]=r[j+k]:=by simp
  have U:=kbcj (b:=B) lw;rw[g2,g1,g0]at U;have Y:=kbdb (b:=B) I
  have Z:0<d[k+1]:=by
   have ag:d≠[]:=by intro h;rw[h]at I;simp at I
   have:=ht ag;rw[List.getLast_eq_getElem]at this;have e:d.length-1=k+1:=by omega
   simp only[e]at this;omega
  have ah:(((r.drop j).take (d.length+1)).take k).length=k:=by simp;omega
  have aa:=num_lt (b:=B) B1 (xs:=((r.drop j).take (d.length+1)).take k) λx A=>tw x (List.mem_of_mem_take A);rw[ah]at aa;have tl:=top_le (E:=B^k) (T:=(r[j+(k+2)]*B+r[j+(k+1)])*B+r[j+k]) (D:=d[k+1]*B+d[k]) (e:=num B (d.take k)) aa (by have:1*B<=d[k+1]*B:=Nat.mul_le_mul_right _ Z;have:=B0;omega);rw[<- U,<- Y]at tl;obtain⟨g,ai,aj,ak⟩:=kbcd (r2:=r[j+(k+2)]) (r1:=r[j+(k+1)]) (r0:=r[j+k]) (d1:=d[k+1]) (d0:=d[k]) (tr _ (qb3 _)) (tr _ (qb3 _)) (tr _ (qb3 _)) (K _ (qb3 _)) Z (K _ (qb3 _))
  have al:num B ((r.drop j).take (d.length+1))/num B d<=g:=by
   rcases ak with h | h
   ·omega
   ·exact qbq tl h
  have ac:=Nat.mod_lt (num B ((r.drop j).take (d.length+1))) F
  have am:num B (padD B (d.length+1) (num B ((r.drop j).take (d.length+1))%num B d))=num B ((r.drop j).take (d.length+1))%num B d:=by refine k0k B0 _ _ ?_;have:B^(k+2)<=B^(d.length+1):=Nat.pow_le_pow_right B1 (by omega);omega
  have nr:num B (r.take j++padD B (d.length+1) (num B ((r.drop j).take (d.length+1))%num B d)++r.drop (j+(d.length+1)))=num B (r.take j)+B^j*(num B ((r.drop j).take (d.length+1))%num B d):=by rw[kdn,kdn,H,Nat.mul_zero,Nat.add_zero,C,am]
  have ad:j<q.length:=by omega
  have IH:=kz6 (s:=s) (X:=X) hs I K ht hm ae j (r.take j++padD B (d.length+1) (num B ((r.drop j).take (d.length+1))%num B d)++r.drop (j+(d.length+1))) (q.set j (num B ((r.drop j).take (d.length+1))/num B d)) (by omega) (by simp[kur];omega) (by simpa using lq) (by
    intro x A;rcases qb5.1 A with A | A
    ·rcases qb5.1 A with A | A
     ·exact tr x (List.mem_of_mem_take A)
     ·exact k21 B0 _ _ x A
    ·exact tr x (List.mem_of_mem_drop A)) (by
    rw[nr,ksk ad];simp only[num];rw[Nat.pow_succ]at e;exact kbh7 e er) (by
    rw[nr];have:B^j*(num B ((r.drop j).take (d.length+1))%num B d+1)<=B^j*num B d:=Nat.mul_le_mul_left _ ac;rw[Nat.mul_add,Nat.mul_one,Nat.mul_comm _ (num B d)]at this;omega)
  refine .next (s':=.p10 s r d d.length q j g (j,d.length+1)) ?_ (k2n tr K ad (by omega) (by omega) (by omega) F IH g aj al);show ki5 _ _ _ _ _ _=_;unfold ki5;have w0:wrap .i64 ((j:Int)+(d.length:Int))=((j+(k+2):Nat):Int):=by rw[wrap64 (by omega) (by omega)];omega
  rw[condT (by rw[qbw];omega),show((j+1:Nat):Int)-1=(j:Int)from by omega,w0];rw[show wrap .i64 (((j+(k+2):Nat):Int)-1)=((j+(k+1):Nat):Int)from by rw[wrap64 (by omega) (by omega)];omega];rw[show wrap .i64 (((j+(k+2):Nat):Int)-2)=((j+k:Nat):Int)from by rw[wrap64 (by omega) (by omega)];omega];rw[show wrap .i64 ((d.length:Int)-1)=((k+1:Nat):Int)from by rw[wrap64 (by omega) (by omega)];omega];rw[show wrap .i64 ((d.length:Int)-2)=(k:Int)from by rw[wrap64 (by omega) (by omega)];omega];rw[show wrap .i64 (((j+(k+2):Nat):Int)+1)=((j+(d.length+1):Nat):Int)from by rw[wrap64 (by omega) (by omega)];omega];rw[kbi i2,qbt,kbi i1,qbt,kbi i0,qbt,kcw (by omega),qbt,kcw (by omega),qbt,ker i2,ker i1,ker i0,kn3 ai,qbt,kbd0 (by omega) (by omega),qbt]
end Go.Ab
set_option maxRecDepth 10000
namespace Go.Ab
open Go.Proofs Go.Num
theorem kbk4{xs ys:List Nat}(lx:∀x∈xs,x<B)(U:∀x∈ys,x<B)(ty:Trim ys)(hy:2<=ys.length)(ai:xs.length<=64)(aj:ys.length<=xs.length) :
  Iter kjt (.fn xs ys) (digs B (num B xs/num B ys),digs B (num B xs%num B ys)):=by
 obtain⟨k,hk⟩:∃k,ys.length=k+2:=⟨ys.length-2,by omega⟩;have A:k+1<ys.length:=by omega
 have Y:0<ys[k+1]:=by
  have Z:ys≠[]:=by intro h;rw[h]at hk;simp at hk
  have:=ty Z;rw[List.getLast_eq_getElem]at this;have e:ys.length-1=k+1:=by omega
  simp only[e]at this;omega
 have aa:ys[k+1]<18446744073709551616:=U _ (qb3 _);obtain⟨hs,ac,ad⟩:=kwj aa Y;obtain⟨r,ae,lr,tr,vr⟩:=k40 (n:=64-bl ys[k+1]) lx hs (by omega);obtain⟨p,af,lp,tp,I⟩:=k40 (n:=64-bl ys[k+1]) U hs (by omega);have C:64-bl ys[k+1]<=63:=hs;generalize ag:64-bl ys[k+1]=s at *
 have ps:0<2^s:=Nat.pow_pos (by decide);have F:=kmv (show s<=64 by omega)
 have ak:num B ys=num B (ys.take (k+1))+B^(k+1)*ys[k+1]:=by
  have:num B ys=num B (ys.take (k+1+1)):=by rw[List.take_of_length_le (by omega)]
  rw[this,kdt B A]
 have H:=num_lt (b:=B) B1 (xs:=ys.take (k+1)) λx hx=>U x (List.mem_of_mem_take hx);have ah:(ys.take (k+1)).length=k+1:=by simp;omega
 rw[ah]at H
 have y1:ys[k+1]+1<=2^(64-s):=by have:ys[k+1]<2^(64-s):=Nat.lt_of_mul_lt_mul_right (a:=2^s) (by rw[F];exact ad);omega
 have up:num B ys*2^s<B^(k+2):=by
  have h1:num B ys<B^(k+1)*(ys[k+1]+1):=by rw[Nat.mul_add,Nat.mul_one];omega
  have K:B^(k+1)*(ys[k+1]+1)<=B^(k+1)*2^(64-s):=Nat.mul_le_mul_left _ y1;have Q:num B ys*2^s<B^(k+1)*2^(64-s)*2^s:=Nat.mul_lt_mul_of_pos_right (by omega) ps;rw[Nat.mul_assoc,F]at Q;exact Q
 have lo:B^(k+1)*9223372036854775808<=num B ys*2^s:=by
  have h1:B^(k+1)*ys[k+1]<=num B ys:=by omega
  have K:=Nat.mul_le_mul_right (2^s) h1;rw[Nat.mul_assoc]at K;exact qbq (Nat.mul_le_mul_left _ ac) K
 have ld:(digs B (num B p)).length=k+2:=by
  rw[I];refine Nat.le_antisymm ((kbl B2 _ _).2 up) ?_;rcases Nat.lt_or_ge (digs B (num B ys*2^s)).length (k+2)with h | h
  ·have:=(kbl B2 (num B ys*2^s) (k+1)).1 (by omega);omega
  ·exact h
 have hX:num B r<num B p*B^(xs.length+1-(k+2)):=by rw[vr,I];have h1:num B xs*2^s<B^xs.length*2^s:=Nat.mul_lt_mul_of_pos_right (num_lt B1 lx) ps;have K:B^xs.length*2^s<=B^xs.length*9223372036854775808:=Nat.mul_le_mul_left _ (show 2^s<=2^63 from Nat.pow_le_pow_right (by decide) C);have Q:=Nat.mul_le_mul_right (B^(xs.length+1-(k+2))) lo;rw[Nat.mul_right_comm,<- Nat.pow_add,show k+1+(xs.length+1-(k+2))=xs.length from by omega]at Q;omega
 have key:=kz6 (s:=s) (X:=num B xs*2^s) (m:=xs.length+1-(k+2)) (k:=k) (d:=digs B (num B p)) C ld (kbv B2 _) (kcn B2 _) (by omega) (by omega) (xs.length+1-(k+2)) r (List.replicate (xs.length+1-(k+2)) 0) (qbp _) (by rw[lr];omega) (by simp) tr (by simp[num,vr]) (by rw[ko B2];exact hX);rw[ko B2,I,Nat.mul_div_mul_right _ _ ps,Nat.mul_mod_mul_right,Nat.mul_div_cancel _ ps]at key;refine .next ?_ key;show kmu _ _=_;unfold kmu;have w1:IntKind.wrap .i64 ((ys.length:Int)-1)=((k+1:Nat):Int):=by rw[wrap64 (by omega) (by omega)];omega
 have w2:IntKind.wrap .u64 ((s:Nat):Int)=(s:Int):=kcx (by omega);have w3:IntKind.wrap .i64 ((r.length:Int)-((digs B (num B p)).length:Int))=((xs.length+1-(k+2):Nat):Int):=by rw[lr,ld,wrap64 (by omega) (by omega)];omega
 rw[w1,kcw A,qbt,kq (by omega),qbt,Int.toNat_natCast,ag,w2,kn3 ae,qbt,kn3 af,qbt,w3,kgi (by omega),qbt,<- I,qb8,wrap64 (by omega) (by omega)]
theorem k5b{h:AH}{s t:Sl}{xs ys:List Nat}(n:Nats h s xs)(m:Nats h t ys)(ty:Trim ys)(F:2<=ys.length)(A:xs.length<=64)(C:ys.length<=xs.length) :
  ∃(a b:Sl)(h':AH),go (.fn kcl [s.v,t.v]) h=some (.tup [a.v,b.v],h')/\Nats h' a (digs B (num B xs/num B ys))/\Nats h' b (digs B (num B xs%num B ys))/\Grow h h'/\Own h a/\Own h b:=by
 obtain⟨_,h',e,a,b,rfl,k⟩:=kbdn (kbk4 n.lt m.lt ty F A C) n m;exact⟨a,b,h',e,k⟩
theorem k9q{h:AH}{i:Nat}{a b:Sl}{xs ys:List Nat}(c:h.has i [a.v,b.v] kc2)(n:Nats h a xs)(m:Nats h b ys):go (.fn khb [(⟨some (.new i 0),2,.is 2⟩:Sl).v]) h=some (.bool (rt xs&&rt ys),h):=by
 have r:Rows h ⟨some (.new i 0),2,.is 2⟩ [(a,xs),(b,ys)]:=⟨qr c rfl,λp A=>by
  simp at A;rcases A with rfl | rfl
  ·exact n
  ·exact m,by simp⟩
 rw[kmq r];simp
theorem k76{h:AH}{s:Sl}{xs:List Nat}(n:Nats h s xs)(d:Int)(c:0<d/\d<18446744073709551616/\xs.length<=8796093022208):∃(s':Sl)(h':AH),go (.fn kf2 [s.v,.int .u64 d]) h=some (.tup [s'.v,.int .u64 ((num B xs%d.toNat:Nat):Int)],h')/\Nats h' s' (digs B (num B xs/d.toNat))/\Grow h h'/\Own h s':=by obtain⟨x,rfl⟩:∃x:Nat,d=(x:Int):=⟨d.toNat,by omega⟩;rw[Int.toNat_natCast];exact kblf n (show x<18446744073709551616 by omega) (by omega) c.2.2
theorem Nats.of_has1{h:AH}{i:Nat}{e:TypeId}{v:Int}{x:Nat}(b:h.has i [.int .u64 v] e)(z:u64P v=some x):Nats h ⟨some (.new i 0),1,.is 1⟩ [x]:=by obtain⟨rfl,A⟩:=kms z;exact Nats.of_has (xs:=[x]) b (by simpa using A) (by simp)
theorem kte{h:AH}{s:Sl}{xs:List Nat}(n:Nats h s xs):kbg Pg kg s.v h=some (xs.map u64,xs.length):=by have c:=n.cells;rw[<- kn6]at c;rw[kk5 c,n.len]
theorem k75{h h0:AH}{i:Nat}{e:TypeId}{v:Int}{x:Nat}{s:Sl}{xs:List Nat}(b:h.has i [.int .u64 v] e)(z:u64P v=some x)(n:Nats h s xs)(I:Grow h0 h)(hi:h0.blks.size<=i)(F:xs.length<=1073741824) :
  ∃(s':Sl)(h':AH),kv Pg (⟨some (.new i 0),1,.is 1⟩:Sl) (xs.map u64) xs.length kg 1 h=some (s'.v,h')/\Nats h' s' (x::xs)/\Grow h h'/\Own h0 s':=by
 have n1:=Nats.of_has1 b z;obtain⟨rfl,H⟩:=kms z;cases xs with
 | nil =>
  obtain⟨s',K,c,o⟩:=ksa (P:=Pg) (elem:=kg) (m:=1) (by omega) n1.cells;exact⟨s',h,K,⟨c,by simpa using H,by simp⟩,ql h,o h0 λr C=>by cases C;exact⟨_,_,rfl,hi⟩⟩
 | cons y ys =>
  refine⟨_,_,kfa (c:=1) rfl (by simp) (klm (by simp at F|-;omega)) n1.cells,⟨⟨rfl,by simp;omega,λk w A=>⟨_,rfl,?_⟩⟩,?_,?_⟩,qm _ _,λr C=>?_⟩
  ·have:=AH.cell_push h ([u64 x]++(y::ys).map u64) kg k;rw[qj,Nat.zero_add];rw[List.map_cons,List.map_nil];rw[this]
   simpa using A
  ·intro w A;rcases qb6.1 A with rfl | A
   ·exact H
   ·exact n.lt w A
  ·have:=n.short;simp at F|-;omega
  ·cases C;exact⟨_,_,rfl,I.size⟩
end Go.Ab
set_option maxRecDepth 10000
namespace Go.Ab
open IntKind (wrap)
open Go.Proofs Go.Num
inductive kjp
 | fn (x1:List Nat) (x2:List Nat)
 | no
abbrev kif:=List Nat×List Nat×Int
noncomputable def kmh(x1 x2:List Nat):Option (kjp⊕kif):=cond (!((rt x1&&rt x2))) (some (.inr ([],[],1))) (cond (decide ((List.length x2:Int)=0)) (some (.inr ([],[],3))) ((need (Trim x1)).bind λU=>(need (Trim x2)).bind λX=>cond (decide ((cmp (num B x1) (num B x2))<0)) ((need (List.length x1<=8796093022208)).bind λY=>some (.inr ([],x1,0))) (cond (decide ((List.length x2:Int)=1)) ((atI x2 0).bind λA=>(need (0<((A:Int))/\((A:Int))<18446744073709551616/\List.length x1<=8796093022208)).bind λC=>(u64P (((num B x1%Int.toNat ((A:Int)):Nat):Int))).bind λF=>some (.inr (digs B (num B x1/Int.toNat ((A:Int))),digs B F,0))) ((need (Trim x2)).bind λH=>(need (2<=List.length x2)).bind λI=>(need (List.length x1<=64)).bind λK=>(need (List.length x2<=List.length x1)).bind λQ=>some (.inr (digs B (num B x1/num B x2),digs B (num B x1%num B x2),0))))))
noncomputable def kyg:kjp->Option (kjp⊕kif)
 | .fn x1 x2=>kmh x1 x2
 | .no=>none
@[reducible] def k7t(h0:AH)(r:kif)(v:AV)(h':AH):Prop:=∃s1:Sl,∃s2:Sl,v=.tup [s1.v,s2.v,.i r.2.2]/\Nats h' s1 r.1/\Nats h' s2 r.2.1/\Grow h0 h'/\Own h0 s1/\Own h0 s2
def kvy(r:kif):kjp->Prop
 | .fn x1 x2=>∀{h:AH}{a1:Sl}{a2:Sl},Nats h a1 x1->Nats h a2 x2->Runs (go (.fn kh0 [a1.v,a2.v]) h) (k7t h r)
 | .no=>True
theorem kba4{r:kif}{o:kjp⊕kif}{x1 x2:List Nat}(e:kmh x1 x2=some o)(C:GoodS (kvy r) r o):kvy r (.fn x1 x2):=by
 intro h a1 a2 n1 U;rw[kbh0];unfold kmh at e;rw[U.len];refine q0 λH3 b3 A=>?_;refine qz (k9q b3 (n1.grow A) (U.grow A)) (qz (seen rfl) ?_);refine qbd (λk5=>?_) (λk5=>?_)
 ·replace e:=(condT k5).symm.trans e;cases e;cases C;exact qy ⟨(⟨none,0,.is 0⟩:Sl),(⟨none,0,.is 0⟩:Sl),rfl,(qw _),(qw _),A,(qu _),(qu _)⟩
 ·replace e:=(condF k5).symm.trans e;refine qbd (λk6=>?_) (λk6=>?_)
  ·replace e:=(condT k6).symm.trans e;cases e;cases C;exact qy ⟨(⟨none,0,.is 0⟩:Sl),(⟨none,0,.is 0⟩:Sl),rfl,(qw _),(qw _),A,(qu _),(qu _)⟩
  ·replace e:=(condF k6).symm.trans e;obtain⟨X,bg,e⟩:=qbu.1 e;obtain⟨Y,bh,e⟩:=qbu.1 e;refine qz (kp2 (n1.grow A) (U.grow A)  X.down Y.down) (qz (seen qcp) ?_);refine qbd (λk8=>?_) (λk8=>?_)
   ·replace e:=(condT k8).symm.trans e;obtain⟨Z,bi,e⟩:=qbu.1 e;obtain⟨s9,H9,e9,n9,g9,o9⟩:=kni (n1.grow A)  Z.down;refine qz e9 (qz (seen qco) ?_);cases e;cases C;exact qy ⟨(⟨none,0,.is 0⟩:Sl),s9,rfl,(qw _),n9,(A.trans g9),(qu _),(o9.of_le A)⟩
   ·replace e:=(condF k8).symm.trans e;refine qbd (λk9=>?_) (λk9=>?_)
    ·replace e:=(condT k9).symm.trans e;obtain⟨ag,ah,e⟩:=qbu.1 e;obtain⟨bj,ai,aj⟩:=(U.grow A).atI ah;refine qz ai (qz (rdc aj qcp) ?_);obtain⟨F,ak,e⟩:=qbu.1 e;obtain⟨al,bk,am,an,aa,ap⟩:=k76 (n1.grow A) ((ag:Int))  F.down;refine qz am (qz rfl (qz (seen qco) (qz (seen qcp) ?_)));obtain⟨bm,aq,e⟩:=qbu.1 e;obtain⟨ar,bn,au,aw,ac,ax⟩:=kom aq;refine qz au (qz (seen qco) ?_);cases e;cases C;exact qy ⟨al,ar,rfl,(an.grow ac),aw,((A.trans aa).trans ac),(ap.of_le A),(ax.of_le (A.trans aa))⟩
    ·replace e:=(condF k9).symm.trans e;obtain⟨H,ay,e⟩:=qbu.1 e;obtain⟨I,az,e⟩:=qbu.1 e;obtain⟨K,a0,e⟩:=qbu.1 e;obtain⟨Q,ba,e⟩:=qbu.1 e;obtain⟨bb,ad,bp,bc,bd,ae,be,bf,af⟩:=k5b (n1.grow A) (U.grow A)  H.down I.down K.down Q.down;refine qz bc (qz rfl (qz (seen qco) (qz (seen qco) ?_)));cases e;cases C;exact qy ⟨bb,ad,rfl,bd,ae,(A.trans be),(bf.of_le A),(af.of_le A)⟩
theorem k6s{s:kjp}{r:kif}(C:Iter kyg s r):kvy r s:=qbg (λs o e A=>by
 cases s with
 | fn x1 x2=>exact @kba4 _ _ x1 x2 e A
 | no=>exact True.intro
 ) C
inductive kez
 | fn (x1:List Nat) (x2:List Nat)
 | p4 (x1:List Nat) (x2:List Nat) (x3:List Nat) (x4:List Nat) (a5:Int)
 | p9 (x1:List Nat) (x2:List Nat) (x3:List Nat) (x4:List Nat) (a5:Int) (a6:Int) (a7:Int)
abbrev kc7:=List Nat×List Nat
noncomputable def knd(x1 x2:List Nat):Option (kez⊕kc7):=(mkI (List.length x1:Int) (List.length x1:Int)).bind λA=>some (.inl (.p4 x1 x2 (List.replicate A 0) [] (wrap .i64 ((List.length x1:Int)-1))))
noncomputable def kii(x1 x2 x3 x4:List Nat)(a5:Int):Option (kez⊕kc7):=cond (decide (a5>=0)) ((atI x1 a5).bind λH=>(u64P ((H:Int))).bind λA=>(need (List.length x4<=1073741824)).bind λI=>(need (∀x∈(A::x4),x<D)).bind λC=>some (.inl (.p9 x1 x2 x3 (digs D (num D (A::x4))) a5 0 65535))) ((need (∀x∈x3,x<D)).bind λF=>some (.inr (digs D (num D x3),x4)))
noncomputable def kil(x1 x2 x3 x4:List Nat)(a5 a6 a7:Int):Option (kez⊕kc7):=cond (decide (a6<a7)) ((u64P (wrap .u64 (Int.tdiv (wrap .u64 ((wrap .u64 (a6+a7))+1)) 2))).bind λA=>(need (∀x∈x2,x<D)).bind λF=>(need (∀x∈[A],x<D)).bind λH=>(need (List.length x2+List.length [A]<=8796093022208)).bind λI=>(need (∀x∈(digs D (num D x2*num D [A])),x<D)).bind λK=>(need (∀x∈x4,x<D)).bind λQ=>(need (Trim (digs D (num D x2*num D [A])))).bind λU=>(need (Trim x4)).bind λX=>cond (decide ((cmp (num D (digs D (num D x2*num D [A]))) (num D x4))<=0)) (some (.inl (.p9 x1 x2 x3 x4 a5 (wrap .u64 (Int.tdiv (wrap .u64 ((wrap .u64 (a6+a7))+1)) 2)) a7))) (some (.inl (.p9 x1 x2 x3 x4 a5 a6 (wrap .u64 ((wrap .u64 (Int.tdiv (wrap .u64 ((wrap .u64 (a6+a7))+1)) 2))-1)))))) ((inI (List.length x3) a5).bind λj9=>(u64P a6).bind λA=>(u64P a6).bind λC=>(need (∀x∈x2,x<D)).bind λY=>(need (∀x∈[C],x<D)).bind λZ=>(need (List.length x2+List.length [C]<=8796093022208)).bind λaa=>(need (∀x∈x4,x<D)).bind λac=>(need (∀x∈(digs D (num D x2*num D [C])),x<D)).bind λad=>(need (List.length x4<=1073741824)).bind λae=>(need (List.length (digs D (num D x2*num D [C]))<=List.length x4)).bind λaf=>(need (num D (digs D (num D x2*num D [C]))<=num D x4)).bind λag=>some (.inl (.p4 x1 x2 (List.set x3 j9 A) (digs D (num D x4-num D (digs D (num D x2*num D [C])))) (wrap .i64 (a5-1)))))
noncomputable def kjh:kez->Option (kez⊕kc7)
 | .fn x1 x2=>knd x1 x2
 | .p4 x1 x2 x3 x4 a5=>kii x1 x2 x3 x4 a5
 | .p9 x1 x2 x3 x4 a5 a6 a7=>kil x1 x2 x3 x4 a5 a6 a7
@[reducible] def kui(h0:AH)(r:kc7)(v:AV)(h':AH):Prop:=∃s1:Sl,∃s2:Sl,v=.tup [s1.v,s2.v]/\Nats h' s1 r.1/\Nats h' s2 r.2/\Grow h0 h'/\Own h0 s1/\Own h0 s2
def kh5(r:kc7):kez->Prop
 | .fn x1 x2=>∀{h:AH}{a1:Sl}{a2:Sl},Nats h a1 x1->Nats h a2 x2->Runs (go (.fn kdp [a1.v,a2.v]) h) (kui h r)
 | .p4 x1 x2 x3 x4 a5=>∀{h0 h:AH}{a1:Sl}{a2:Sl}{a3:Sl}{a4:Sl}{A:Nat},Grow h0 h->Nats h a1 x1->Nats h a2 x2->Vec h a3 A x3->Nats h a4 x4->h0.blks.size<=A->Av a1 A x1->Av a2 A x2->Av a4 A x4->Own h0 a4->Runs (go (.pt kdp kqd [(0,a1.v),(1,a2.v),(6,a3.v),(7,a4.v),(8,.i a5)]) h) (kui h0 r)
 | .p9 x1 x2 x3 x4 a5 a6 a7=>∀{h0 h:AH}{a1:Sl}{a2:Sl}{a3:Sl}{a4:Sl}{A:Nat},Grow h0 h->Nats h a1 x1->Nats h a2 x2->Vec h a3 A x3->Nats h a4 x4->h0.blks.size<=A->Av a1 A x1->Av a2 A x2->Av a4 A x4->Own h0 a4->Runs (go (.pt kdp knf [(0,a1.v),(1,a2.v),(6,a3.v),(7,a4.v),(8,.i a5),(9,.int .u64 a6),(10,.int .u64 a7)]) h) (kui h0 r)
theorem k6j{r:kc7}{o:kez⊕kc7}{x1 x2:List Nat}(e:knd x1 x2=some o)(A:GoodS (kh5 r) r o):kh5 r (.fn x1 x2):=by intro h a1 a2 n1 F;rw[k9v];unfold knd at e;rw[n1.len];obtain⟨K,H,e⟩:=qbu.1 e;refine Runs.mk H kes λs3 Q I C=>?_;cases e;exact A C (n1.grow C) (F.grow C) I (qw _) (qbp _) (qbi n1 (qbp _)) (qbi F (qbp _)) (Av.nil _ _) (qu _)
theorem kbf2{r:kc7}{o:kez⊕kc7}{x1 x2 x3 x4:List Nat}{a5:Int}(e:kii x1 x2 x3 x4 a5=some o)(A:GoodS (kh5 r) r o):kh5 r (.p4 x1 x2 x3 x4 a5):=by
 intro h0 h a1 a2 a3 a4 i3 Z n1 n2 X n4 K C F aa ac;rw[kble];unfold kii at e;rw[n1.len];refine qbd (λk6=>?_) (λk6=>?_)
 ·replace e:=(condT k6).symm.trans e;obtain⟨y7,q7,e⟩:=qbu.1 e;obtain⟨r7,j7,l7⟩:=n1.atI q7;refine qz j7 (qz (rdc l7 qcp) ?_);refine q0 λH8 b8 H=>?_;refine qz (kte (n4.grow H)) ?_;obtain⟨ai,ad,e⟩:=qbu.1 e;obtain⟨c9,q9,e⟩:=qbu.1 e;obtain⟨s9,H9,e9,n9,Y,o9⟩:=k75 b8 ad (n4.grow H) H (qbp _) c9.down;refine qz e9 (qz qco ?_);obtain⟨I,ae,e⟩:=qbu.1 e;obtain⟨aj,af,ag,Q⟩:=kkn n9  I.down;refine qz af (qz (seen qco) ?_);cases e;exact A ((Z.trans H).trans Y) (n1.grow (H.trans Y)) (n2.grow (H.trans Y)) (X.grow (H.trans Y)) ag K C F (qbj (Q _ o9) (X).inn) ((Q _ o9).of_le Z)
 ·replace e:=(condF k6).symm.trans e;obtain⟨U,ah,e⟩:=qbu.1 e;obtain⟨s7,e7,n7,o7⟩:=kkn X.nats  U.down;refine qz e7 (qz (seen qco) ?_);cases e;cases A;exact qy ⟨s7,a4,rfl,n7,n4,Z,((o7 _ (X.own K)).of_le (ql _)),(ac.of_le (ql _))⟩
theorem kbm5{r:kc7}{o:kez⊕kc7}{x1 x2 x3 x4:List Nat}{a5 a6 a7:Int}(e:kil x1 x2 x3 x4 a5 a6 a7=some o)(Q:GoodS (kh5 r) r o):kh5 r (.p9 x1 x2 x3 x4 a5 a6 a7):=by
 intro h0 h a1 a2 a3 a4 i3 g0 n1 n2 v3 n4 U C F H ay;rw[k53];unfold kil at e;rw[v3.nats.len];refine qbd (λk8=>?_) (λk8=>?_)
 ·replace e:=(condT k8).symm.trans e;refine q0 λH9 b9 K=>?_;obtain⟨ba,aa,e⟩:=qbu.1 e;obtain⟨ac,bb,e⟩:=qbu.1 e;obtain⟨ad,bc,e⟩:=qbu.1 e;obtain⟨ae,bd,e⟩:=qbu.1 e;obtain⟨b3,be,bf,bg,A,b4⟩:=ktu (n2.grow K) (Nats.of_has1 b9 aa)  ac.down ad.down ae.down;refine qz bf (qz (seen qco) ?_);obtain⟨af,bh,e⟩:=qbu.1 e;obtain⟨ag,bi,e⟩:=qbu.1 e;obtain⟨ah,bj,e⟩:=qbu.1 e;obtain⟨ai,bk,e⟩:=qbu.1 e;refine qz (ktb bg (n4.grow (K.trans A))  af.down ag.down ah.down ai.down) (qz (seen qcp) ?_);refine qbd (λaj=>?_) (λaj=>?_)
  ·replace e:=(condT aj).symm.trans e;cases e;exact Q ((g0.trans K).trans A) (n1.grow (K.trans A)) (n2.grow (K.trans A)) (v3.grow (K.trans A)) (n4.grow (K.trans A)) U C F H (ay.of_le (ql _))
  ·replace e:=(condF aj).symm.trans e;cases e;exact Q ((g0.trans K).trans A) (n1.grow (K.trans A)) (n2.grow (K.trans A)) (v3.grow (K.trans A)) (n4.grow (K.trans A)) U C F H (ay.of_le (ql _))
 ·replace e:=(condF k8).symm.trans e;obtain⟨j9,q9,e⟩:=qbu.1 e;refine qz (v3.idx rfl q9) ?_;obtain⟨ba,aa,e⟩:=qbu.1 e;refine qbh v3 rfl q9 aa λb5 az X=>?_;have ak:=n1.upda C X;have Y:=n2.upda F X;have al:=n4.upda H X;refine q0 λbe bm A=>?_;obtain⟨b6,bn,e⟩:=qbu.1 e;obtain⟨am,bp,e⟩:=qbu.1 e;obtain⟨an,bq,e⟩:=qbu.1 e;obtain⟨ap,br,e⟩:=qbu.1 e;obtain⟨b7,b8,bt,bu,I,ca⟩:=ktu (Y.grow A) (Nats.of_has1 bm bn)  am.down an.down ap.down;refine qz bt (qz (seen qco) ?_);obtain⟨aq,bv,e⟩:=qbu.1 e;obtain⟨ar,bw,e⟩:=qbu.1 e;obtain⟨au,bx,e⟩:=qbu.1 e;obtain⟨aw,bz,e⟩:=qbu.1 e;obtain⟨ax,b0,e⟩:=qbu.1 e;obtain⟨cb,cc,b1,b2,Z,a0⟩:=k1g (al.grow (A.trans I)) bu  aq.down ar.down au.down aw.down ax.down;refine qz b1 (qz (seen qco) ?_);cases e;exact Q ((((g0.updr U X).trans A).trans I).trans Z) (ak.grow ((A.trans I).trans Z)) (Y.grow ((A.trans I).trans Z)) (az.grow ((A.trans I).trans Z)) b2 U C F (qbj a0 ((az.grow (A.trans I))).inn) (a0.of_le (((g0.updr U X).trans A).trans I))
theorem kbfk{s:kez}{r:kc7}(C:Iter kjh s r):kh5 r s:=qbg (λs o e A=>by
 cases s with
 | fn x1 x2=>exact @k6j _ _ x1 x2 e A
 | p4 x1 x2 x3 x4 a5=>exact @kbf2 _ _ x1 x2 x3 x4 a5 e A
 | p9 x1 x2 x3 x4 a5 a6 a7=>exact @kbm5 _ _ x1 x2 x3 x4 a5 a6 a7 e A
 ) C
def divN(xs ys:List Nat):List Nat×List Nat×Int:=if rt xs=true/\rt ys=true then(if ys=[]then([],[],3)else(digs B (num B xs/num B ys),digs B (num B xs%num B ys),0))else([],[],1)
theorem ku0{b:Nat}(A:1<=b){xs:List Nat}(t:Trim xs)(h:xs≠[]):0<num b xs:=by
 rcases Nat.eq_zero_or_pos (num b xs)with e | e
 ·exact absurd (ko2 A t e) h
 ·exact e
theorem cmp_lt{a b:Nat}:cmp a b<0↔a<b:=by
 unfold cmp;by_cases h:a<b
 ·rw[if_pos h];omega
 ·rw[if_neg h];by_cases A:a=b
  ·rw[if_pos A];omega
  ·rw[if_neg A];omega
theorem cmp_le{a b:Nat}:cmp a b<=0↔a<=b:=by
 unfold cmp;by_cases h:a<b
 ·rw[if_pos h];omega
 ·rw[if_neg h];by_cases A:a=b
  ·rw[if_pos A];omega
  ·rw[if_neg A];omega
theorem kbjq{xs ys:List Nat}(H:∀x∈xs,x<B)(I:∀x∈ys,x<B):Iter kyg (.fn xs ys) (divN xs ys):=by
 refine .done ?_;show kmh _ _=_;unfold kmh divN;cases Z:rt xs with
 | false=>simp
 | true =>
  cases K:rt ys with
  | false=>simp
  | true =>
   obtain⟨A,Q⟩:=rt_iff.1 Z;obtain⟨U,ty⟩:=rt_iff.1 K;simp only[Bool.and_self,Bool.not_true,cond_false,and_self,if_true];by_cases h0:ys=[]
   ·subst h0;rfl
   ·have hl:ys.length≠0:=by simpa using h0
    have X:=ku0 B1 ty h0;rw[if_neg h0,condF (by rw[qbv];omega),kq Q,qbt,kq ty,qbt];by_cases C:num B xs<num B ys
    ·rw[condT (by rw[qbw,cmp_lt];exact C),kq (by omega),qbt,Nat.div_eq_of_lt C,Nat.mod_eq_of_lt C,kcg,kfs B2 H Q]
    ·rw[condF (by rw[qbv,cmp_lt];exact C)];by_cases h1:ys.length=1
     ·obtain⟨y,rfl⟩:=List.length_eq_one_iff.1 h1;have K:y<18446744073709551616:=I y (by simp);have e:num B [y]=y:=by simp[num]
      rw[e]at X|-;have hm:=Nat.mod_lt (num B xs) X;have Y:=kcw (xs:=[y]) (i:=0) (by simp);rw[show((0:Nat):Int)=0 from rfl]at Y;rw[condT (by rw[qbw];omega),Y,qbt];rw[List.getElem_cons_zero,kq ⟨by omega,by omega,by omega⟩,qbt,Int.toNat_natCast,kbt (by omega),qbt]
     ·have F:=k1o H I ty (Nat.le_of_not_lt C);rw[condF (by rw[qbv];omega),qbt,kq (by omega),qbt,kq A,qbt,kq F,qbt]
theorem kp0{h:AH}{s t:Sl}{xs ys:List Nat}(n:Nats h s xs)(m:Nats h t ys):∃(a b:Sl)(h':AH),go (.fn kh0 [s.v,t.v]) h=some (.tup [a.v,b.v,.i (divN xs ys).2.2],h')/\Nats h' a (divN xs ys).1/\Nats h' b (divN xs ys).2.1/\Grow h h'/\Own h a/\Own h b:=by obtain⟨_,h',e,a,b,rfl,k⟩:=k6s (kbjq n.lt m.lt) n m;exact⟨a,b,h',e,k⟩
theorem ktp{a c:Nat}(h:a<=c):(digs D a).length<=(digs D c).length:=by rw[kbl D2];exact qbs h ((kbl D2 c _).1 (qbp _))
theorem kbap{xs ys q:List Nat}{R j:Nat}{res:kc7}(ly:∀y∈ys,y<D)(hl:ys.length<=536870912)(hy:0<num D ys)(hR:(digs D R).length<=1073741824)(hj:j<q.length)
  (K:Iter kjh (.p4 xs ys (q.set j (R/num D ys)) (digs D (R%num D ys)) (wrap .i64 ((j:Int)-1))) res) :
  ∀(n low A:Nat),A-low=n->low<=R/num D ys->R/num D ys<=A->A<65536->Iter kjh (.p9 xs ys q (digs D R) j low A) res:=by
 intro n
 induction n using Nat.strongRecOn with
 | ind n ih =>
  intro low A hn h1 h2 h3;have tR:=kcn D2 R;have lR:=kbv D2 R;by_cases hc:low<A
  ·have hm:wrap .u64 (Int.tdiv (wrap .u64 ((wrap .u64 ((low:Int)+(A:Int)))+1)) 2)=(((low+A+1)/2:Nat):Int):=by
    rw[<- Int.natCast_add,kcx (by omega),show(((low+A:Nat):Int)+1)=((low+A+1:Nat):Int)from by omega,kcx (by omega)];rw[show Int.tdiv ((low+A+1:Nat):Int) 2=(((low+A+1)/2:Nat):Int)from rfl,kcx (by omega)]
   obtain⟨C,I⟩:∃C,C=(low+A+1)/2:=⟨_,rfl⟩;have Y:num D [C]=C:=by simp[num]
   have Z:∀x∈[C],x<D:=by intro x hx;rw[List.mem_singleton.1 hx];exact show C<65536 by omega
   have Q:∀o,cond (decide (num D ys*C<=R)) (some (Sum.inl (β:=kc7) (kez.p9 xs ys q (digs D R) j C A))) (some (.inl (.p9 xs ys q (digs D R) j low (wrap .u64 ((C:Int)-1)))))=o->kjh (.p9 xs ys q (digs D R) j low A)=o:=by intro o ho;show kil _ _ _ _ _ _ _=_;unfold kil;rw[condT (by rw[qbw];omega),hm,<- I,kbt (by omega),qbt,kq ly,qbt,kq Z,qbt,kq (by simp;omega),qbt,kq (kbv D2 _),qbt,kq lR,qbt,kq (kcn D2 _),qbt,kq tR,qbt,ko D2,ko D2,Y];rw[<- ho];congr 1;rw[decide_eq_decide];exact cmp_le
   by_cases F:num D ys*C<=R
   ·have H:C<=R/num D ys:=by rw[Nat.le_div_iff_mul_le hy,Nat.mul_comm];exact F
    refine .next (Q _ ?_) (ih (A-C) (by omega) C A rfl H h2 h3);rw[condT (by rw[qbw];exact F)]
   ·have H:R/num D ys<C:=by rw[Nat.div_lt_iff_lt_mul hy,Nat.mul_comm];omega
    refine .next (Q _ ?_) (ih (C-1-low) (by omega) low (C-1) rfl h1 (by omega) (by omega));rw[condF (by rw[qbv];exact F),show wrap .u64 ((C:Int)-1)=((C-1:Nat):Int)from by rw[wrapU];omega]
  ·have H:R/num D ys=low:=by omega
   rw[H]at K;have Y:num D [low]=low:=by simp[num]
   have Z:∀x∈[low],x<D:=by intro x hx;rw[List.mem_singleton.1 hx];exact show low<65536 by omega
   have U:num D ys*low<=R:=by rw[<- H];exact Nat.mul_div_le R _
   have X:R-num D ys*low=R%num D ys:=by have:=Nat.div_add_mod R (num D ys);rw[H]at this;omega
   refine .next ?_ K;show kil _ _ _ _ _ _ _=_;unfold kil;rw[condF (by rw[qbv];omega),kbi hj,qbt,kbt (by omega),qbt,qbt,kq ly,qbt,kq Z,qbt,kq (by simp;omega),qbt,kq lR,qbt,kq (kbv D2 _),qbt,kq hR,qbt,Y,ko D2,ko D2,kq (ktp U),qbt,kq U,qbt,X]
theorem k28{xs ys:List Nat}(Y:∀x∈xs,x<D)(K:∀y∈ys,y<D)(Z:ys.length<=536870912)(Q:xs.length<=536870912)(F:0<num D ys) :
  ∀(i:Nat)(q:List Nat)(r:Nat),i<=xs.length->q.length=xs.length->(∀x∈q,x<D)->r<num D ys->num D (xs.drop i)=num D ys*num D (q.drop i)+r->
   Iter kjh (.p4 xs ys q (digs D r) ((i:Int)-1)) (digs D (num D xs/num D ys),digs D (num D xs%num D ys))
 | 0,q,r,hi,lq,tq,C,e=>by
  rw[List.drop_zero,List.drop_zero]at e;refine .done ?_;show kii _ _ _ _ _=_;unfold kii;rw[condF (by rw[qbv];omega),kq tq,qbt,e,Nat.mul_add_div F,Nat.div_eq_of_lt C,Nat.add_zero,Nat.mul_add_mod,Nat.mod_eq_of_lt C]
 | j+1,q,r,hi,lq,tq,C,e=>by
  have hj:j<xs.length:=by omega
  have H:j<q.length:=by omega
  have U:xs[j]<65536:=Y _ (qb3 _)
  have hR:(xs[j]+D*r)/num D ys<D:=by rw[Nat.div_lt_iff_lt_mul F];have:D*(r+1)<=D*num D ys:=Nat.mul_le_mul_left _ C;rw[Nat.mul_add,Nat.mul_one]at this;have h2:xs[j]<D:=U;omega
  have lr:(digs D r).length<=ys.length:=by rw[kbl D2];exact Nat.lt_trans C (num_lt (by decide) K)
  have lR:(digs D (xs[j]+D*r)).length<=1073741824:=by
   have:(digs D (xs[j]+D*r)).length<=ys.length+1:=by rw[kbl D2,Nat.pow_succ];have h1:D*(r+1)<=D*D^ys.length:=Nat.mul_le_mul_left _ (Nat.lt_trans C (num_lt (by decide) K));rw[Nat.mul_add,Nat.mul_one,Nat.mul_comm D (D^ys.length)]at h1;have h2:xs[j]<D:=U;omega
   omega
  have A:∀x∈xs[j]::digs D r,x<D:=by
   intro x X;rcases qb6.1 X with rfl | h
   ·exact U
   ·exact kbv D2 r x h
  have I:=Nat.mod_lt (xs[j]+D*r) F
  have IH:=k28 Y K Z Q F j (q.set j ((xs[j]+D*r)/num D ys)) ((xs[j]+D*r)%num D ys) (by omega) (by simpa using lq) (set_lt tq hR) I (by rw[ksk H,qcg hj];simp only[num];have dm:=Nat.div_add_mod (xs[j]+D*r) (num D ys);rw[e,Nat.mul_add D,Nat.mul_add (num D ys),Nat.mul_left_comm D];omega)
  refine .next (s':=.p9 xs ys q (digs D (xs[j]+D*r)) (j:Int) ((0:Nat):Int) ((65535:Nat):Int)) ?_ (kbap K Z F lR H (by rw[wrap64 (by omega) (by omega)];exact IH) _ 0 65535 rfl (Nat.zero_le _) (by have:(xs[j]+D*r)/num D ys<65536:=hR;omega) (by omega));show kii _ _ _ _ _=_;unfold kii;rw[condT (by rw[qbw];omega),show((j+1:Nat):Int)-1=(j:Int)from by omega,kcw hj,qbt,kbt (by omega),qbt,kq (by omega),qbt,kq A,qbt];simp only[num,ko D2];rfl
theorem kbgp{xs ys:List Nat}(F:∀x∈xs,x<D)(H:∀y∈ys,y<D)(I:ys.length<=536870912)(A:xs.length<=536870912)(C:0<num D ys):Iter kjh (.fn xs ys) (digs D (num D xs/num D ys),digs D (num D xs%num D ys)):=by have key:=k28 F H I A C xs.length (List.replicate xs.length 0) 0 (qbp _) (by simp) (λx K=>by rw[List.eq_of_mem_replicate K];decide) C (by simp[num]);rw[kcg]at key;refine .next ?_ key;show knd _ _=_;unfold knd;rw[kgi (by omega),qbt,wrap64 (by omega) (by omega)]
theorem kbdf{h:AH}{s t:Sl}{xs ys:List Nat}(n:Nats h s xs)(m:Nats h t ys)(C:∀x∈xs,x<D)(F:∀y∈ys,y<D)(A:xs.length<=536870912)(H:ys.length<=536870912)(I:0<num D ys) :
  ∃(a b:Sl)(h':AH),go (.fn kdp [s.v,t.v]) h=some (.tup [a.v,b.v],h')/\Nats h' a (digs D (num D xs/num D ys))/\Nats h' b (digs D (num D xs%num D ys))/\Grow h h'/\Own h a/\Own h b:=by
 obtain⟨_,h',e,a,b,rfl,k⟩:=kbfk (kbgp C F H A I) n m;exact⟨a,b,h',e,k⟩
end Go.Ab
set_option maxRecDepth 10000
namespace Go.Ab
open Go.Proofs Go.Num
inductive kkh
 | fn (x1:List Nat) (x2:List Nat)
 | no
abbrev kh9:=List Nat×List Nat×Int
noncomputable def klw(x1 x2:List Nat):Option (kkh⊕kh9):=cond (!(rt x1)) (some (.inr ([],[],1))) (cond (!(rt x2)) (some (.inr ([],[],1))) (cond (decide ((List.length x2:Int)=0)) (some (.inr ([],[],3))) ((need (List.length x1<=1073741824)).bind λaa=>(need (List.length x2<=1073741824)).bind λac=>(need (∀x∈(digs D (num B x1)),x<D)).bind λA=>(need (∀x∈(digs D (num B x2)),x<D)).bind λC=>(need (List.length (digs D (num B x1))<=536870912)).bind λF=>(need (List.length (digs D (num B x2))<=536870912)).bind λH=>(need (0<num D (digs D (num B x2)))).bind λI=>(need (∀x∈(digs D (num D (digs D (num B x1))/num D (digs D (num B x2)))),x<D)).bind λK=>(need (Trim (digs D (num D (digs D (num B x1))/num D (digs D (num B x2)))))).bind λQ=>(need (List.length (digs D (num D (digs D (num B x1))/num D (digs D (num B x2))))<=536870912)).bind λU=>(need (∀x∈(digs D (num D (digs D (num B x1))%num D (digs D (num B x2)))),x<D)).bind λX=>(need (Trim (digs D (num D (digs D (num B x1))%num D (digs D (num B x2)))))).bind λY=>(need (List.length (digs D (num D (digs D (num B x1))%num D (digs D (num B x2))))<=536870912)).bind λZ=>some (.inr (digs B (num D (digs D (num D (digs D (num B x1))/num D (digs D (num B x2))))),digs B (num D (digs D (num D (digs D (num B x1))%num D (digs D (num B x2))))),0)))))
noncomputable def k2z:kkh->Option (kkh⊕kh9)
 | .fn x1 x2=>klw x1 x2
 | .no=>none
@[reducible] def kbdu(h0:AH)(r:kh9)(v:AV)(h':AH):Prop:=∃s1:Sl,∃s2:Sl,v=.tup [s1.v,s2.v,.i r.2.2]/\Nats h' s1 r.1/\Nats h' s2 r.2.1/\Grow h0 h'/\Own h0 s1/\Own h0 s2
def ks3(r:kh9):kkh->Prop
 | .fn x1 x2=>∀{h:AH}{a1:Sl}{a2:Sl},Nats h a1 x1->Nats h a2 x2->Runs (go (.fn ki3 [a1.v,a2.v]) h) (kbdu h r)
 | .no=>True
theorem kbde{r:kh9}{o:kkh⊕kh9}{x1 x2:List Nat}(e:klw x1 x2=some o)(A:GoodS (ks3 r) r o):ks3 r (.fn x1 x2):=by
 intro h a1 a2 n1 n2;rw[k7l];unfold klw at e;rw[n2.len];refine qz (kco n1) (qz (seen rfl) (qz (kco n2) (qz (seen rfl) ?_)));refine qbd (λk5=>?_) (λk5=>?_)
 ·replace e:=(condT k5).symm.trans e;cases e;cases A;exact qy ⟨(⟨none,0,.is 0⟩:Sl),(⟨none,0,.is 0⟩:Sl),rfl,(qw _),(qw _),(ql _),(qu _),(qu _)⟩
 ·replace e:=(condF k5).symm.trans e;refine qbd (λk6=>?_) (λk6=>?_)
  ·replace e:=(condT k6).symm.trans e;cases e;cases A;exact qy ⟨(⟨none,0,.is 0⟩:Sl),(⟨none,0,.is 0⟩:Sl),rfl,(qw _),(qw _),(ql _),(qu _),(qu _)⟩
  ·replace e:=(condF k6).symm.trans e;refine qbd (λk7=>?_) (λk7=>?_)
   ·replace e:=(condT k7).symm.trans e;cases e;cases A;exact qy ⟨(⟨none,0,.is 0⟩:Sl),(⟨none,0,.is 0⟩:Sl),rfl,(qw _),(qw _),(ql _),(qu _),(qu _)⟩
   ·replace e:=(condF k7).symm.trans e;obtain⟨ae,bg,e⟩:=qbu.1 e;obtain⟨s8,H8,e8,n8,g8,o8⟩:=kfi n1  ae.down;refine qz e8 (qz (seen qco) ?_);obtain⟨af,bh,e⟩:=qbu.1 e;obtain⟨s9,H9,e9,n9,g9,o9⟩:=kfi (n2.grow g8)  af.down;refine qz e9 (qz (seen qco) ?_);obtain⟨C,ai,e⟩:=qbu.1 e;obtain⟨F,aj,e⟩:=qbu.1 e;obtain⟨H,ak,e⟩:=qbu.1 e;obtain⟨I,al,e⟩:=qbu.1 e;obtain⟨K,am,e⟩:=qbu.1 e;obtain⟨bk,bi,bm,an,ap,ag,Q,bn,bj⟩:=kbdf (n8.grow g9) n9  C.down F.down H.down I.down K.down;refine qz an (qz rfl (qz (seen qco) (qz (seen qco) ?_)));obtain⟨U,aq,e⟩:=qbu.1 e;obtain⟨X,ar,e⟩:=qbu.1 e;obtain⟨Y,au,e⟩:=qbu.1 e;obtain⟨aw,bp,ax,ay,Z,az⟩:=ku6 ap  U.down X.down Y.down;refine qz ax (qz rfl (qz (seen qco) (qz (seen rfl) ?_)));obtain⟨aa,a0,e⟩:=qbu.1 e;obtain⟨ac,ba,e⟩:=qbu.1 e;obtain⟨ad,bb,e⟩:=qbu.1 e;obtain⟨bc,bq,bd,be,ah,bf⟩:=ku6 (ag.grow Z)  aa.down ac.down ad.down;refine qz bd (qz rfl (qz (seen qco) (qz (seen rfl) ?_)));cases e;cases A;exact qy ⟨aw,bc,rfl,(ay.grow ah),be,((((g8.trans g9).trans Q).trans Z).trans ah),(az.of_le ((g8.trans g9).trans Q)),(bf.of_le (((g8.trans g9).trans Q).trans Z))⟩
theorem kbc4{s:kkh}{r:kh9}(C:Iter k2z s r):ks3 r s:=qbg (λs o e A=>by
 cases s with
 | fn x1 x2=>exact @kbde _ _ x1 x2 e A
 | no=>exact True.intro
 ) C
theorem kbi4{xs ys:List Nat}(F:∀x∈xs,x<B)(H:∀x∈ys,x<B):Iter k2z (.fn xs ys) (divN xs ys):=by
 refine .done ?_;show klw _ _=_;unfold klw divN;cases I:rt xs with
 | false=>simp
 | true =>
  cases K:rt ys with
  | false=>simp
  | true =>
   obtain⟨A,U⟩:=rt_iff.1 I;obtain⟨C,ty⟩:=rt_iff.1 K;simp only[Bool.not_true,cond_false,and_self,if_true];by_cases h0:ys=[]
   ·subst h0;rfl
   ·have X:ys.length≠0:=by simpa using h0
    have Q:=ku0 B1 ty h0;have Y:=khh F A;have Z:=khh H C;have k3:=ktp (Nat.div_le_self (num B xs) (num B ys));have k4:=ktp (Nat.mod_le (num B xs) (num B ys));rw[if_neg h0,condF (by rw[qbv];omega),kq (by omega),qbt,kq (by omega),qbt,kq (kbv D2 _),qbt,kq (kbv D2 _),qbt,kq (by omega),qbt,kq (by omega),qbt];rw[kq (by rw[ko D2];exact Q),qbt,kq (kbv D2 _),qbt,kq (kcn D2 _),qbt,kq (by simp only[ko D2];omega),qbt,kq (kbv D2 _),qbt,kq (kcn D2 _),qbt,kq (by simp only[ko D2];omega),qbt];simp only[ko D2]
theorem kqf{h:AH}{s t:Sl}{xs ys:List Nat}(n:Nats h s xs)(m:Nats h t ys):∃(a b:Sl)(h':AH),go (.fn ki3 [s.v,t.v]) h=some (.tup [a.v,b.v,.i (divN xs ys).2.2],h')/\Nats h' a (divN xs ys).1/\Nats h' b (divN xs ys).2.1/\Grow h h'/\Own h a/\Own h b:=by obtain⟨_,h',e,a,b,rfl,k⟩:=kbc4 (kbi4 n.lt m.lt) n m;exact⟨a,b,h',e,k⟩
theorem kbid{h:AH}{s t:Sl}{xs ys:List Nat}(n:Nats h s xs)(m:Nats h t ys):∃(b:Sl)(h':AH),go (.fn kuf [s.v,t.v]) h=some (b.v,h')/\Nats h' b (divN xs ys).2.1/\Grow h h'/\Own h b:=by obtain⟨a,b,h',e,na,nb,g,C,A⟩:=kqf n m;refine⟨b,h',?_,nb,g,A⟩;rw[kblc,e];simp only[qbt,kbl3,asSl_v,kb]
theorem kba5{a:Int}{x:Nat}{h:AH}(q:u64P a=some x):∃(s':Sl)(h':AH),go (.fn kgr [.int .u64 a]) h=some (s'.v,h')/\Nats h' s' (digs B x)/\Grow h h'/\Own h s':=by obtain⟨rfl,A⟩:=kms q;exact ksh A
theorem k3r{h h0:AH}{i:Nat}{e:TypeId}{s:Sl}{xs:List Nat}(b:h.has i [] e)(n:Nats h s xs)(C:Grow h0 h)(hi:h0.blks.size<=i)(F:xs.length<=1073741824) :
  ∃(s':Sl)(h':AH),kv Pg (⟨some (.new i 0),0,.is 0⟩:Sl) (xs.map u64) xs.length kg 1 h=some (s'.v,h')/\Nats h' s' xs/\Grow h h'/\Own h0 s':=by
 have n1:Nats h ⟨some (.new i 0),0,.is 0⟩ []:=⟨qr (n:=1) (m:=0) b rfl,by simp,by simp⟩;cases xs with
 | nil =>
  obtain⟨s',H,c,o⟩:=ksa (P:=Pg) (elem:=kg) (m:=1) (by omega) n1.cells;exact⟨s',h,H,⟨c,by simp,by simp⟩,ql h,o h0 λr A=>by cases A;exact⟨_,_,rfl,hi⟩⟩
 | cons y ys =>
  refine⟨_,_,kfa (c:=0) rfl (by simp) (klm (by simp at F|-;omega)) n1.cells,⟨⟨rfl,by simp,λk w I=>⟨_,rfl,?_⟩⟩,n.lt,n.short⟩,qm _ _,λr A=>?_⟩
  ·have:=AH.cell_push h ([]++(y::ys).map u64) kg k;rw[qj,Nat.zero_add];rw[List.map_nil,this];exact I
  ·cases A;exact⟨_,_,rfl,C.size⟩
inductive khg
 | fn (x1:List Nat) (x2:List Nat)
 | p4 (x1:List Nat) (x2:List Nat)
abbrev kfk:=List Nat×Int
noncomputable def kgb(x1 x2:List Nat):Option (khg⊕kfk):=cond (!(rt x1)) (some (.inr ([],1))) (cond (!(rt x2)) (some (.inr ([],1))) ((need (List.length x1<=8796093022208)).bind λA=>(need (List.length x2<=8796093022208)).bind λC=>some (.inl (.p4 x1 x2))))
noncomputable def kh4(x1 x2:List Nat):Option (khg⊕kfk):=cond (decide ((List.length x2:Int)>0)) (some (.inl (.p4 x2 ((divN x1 x2).2.1)))) (some (.inr (x1,0)))
noncomputable def kuq:khg->Option (khg⊕kfk)
 | .fn x1 x2=>kgb x1 x2
 | .p4 x1 x2=>kh4 x1 x2
@[reducible] def kuu(h0:AH)(r:kfk)(v:AV)(h':AH):Prop:=∃s1:Sl,v=.tup [s1.v,.i r.2]/\Nats h' s1 r.1/\Grow h0 h'/\Own h0 s1
def knq(r:kfk):khg->Prop
 | .fn x1 x2=>∀{h:AH}{a1:Sl}{a2:Sl},Nats h a1 x1->Nats h a2 x2->Runs (go (.fn kgj [a1.v,a2.v]) h) (kuu h r)
 | .p4 x1 x2=>∀{h0 h:AH}{a1:Sl}{a2:Sl},Grow h0 h->Nats h a1 x1->Nats h a2 x2->Own h0 a1->Own h0 a2->Runs (go (.pt kgj krl [(0,a1.v),(1,a2.v)]) h) (kuu h0 r)
theorem k62{r:kfk}{o:khg⊕kfk}{x1 x2:List Nat}(e:kgb x1 x2=some o)(A:GoodS (knq r) r o):knq r (.fn x1 x2):=by
 intro h a1 a2 n1 Q;rw[kbkp];unfold kgb at e;refine qz (khf n1) (qz (seen rfl) ?_);refine qbd (λH=>?_) (λH=>?_)
 ·replace e:=(condT H).symm.trans e;cases e;cases A;exact qy ⟨(⟨none,0,.is 0⟩:Sl),rfl,(qw _),(ql _),(qu _)⟩
 ·replace e:=(condF H).symm.trans e;refine qz (khf Q) (qz (seen rfl) ?_);refine qbd (λI=>?_) (λI=>?_)
  ·replace e:=(condT I).symm.trans e;cases e;cases A;exact qy ⟨(⟨none,0,.is 0⟩:Sl),rfl,(qw _),(ql _),(qu _)⟩
  ·replace e:=(condF I).symm.trans e;obtain⟨C,U,e⟩:=qbu.1 e;obtain⟨s7,H7,Z,n7,K,o7⟩:=kni n1  C.down;refine qz Z (qz (seen qco) ?_);obtain⟨F,X,e⟩:=qbu.1 e;obtain⟨s8,H8,e8,n8,Y,o8⟩:=kni (Q.grow K)  F.down;refine qz e8 (qz (seen qco) ?_);cases e;exact A (K.trans Y) (n7.grow Y) n8 (o7.of_le (ql _)) (o8.of_le K)
theorem kbjs{r:kfk}{o:khg⊕kfk}{x1 x2:List Nat}(e:kh4 x1 x2=some o)(A:GoodS (knq r) r o):knq r (.p4 x1 x2):=by
 intro h0 h a1 a2 C n1 F H I;rw[kbkv];unfold kh4 at e;rw[F.len];refine qbd (λK=>?_) (λK=>?_)
 ·replace e:=(condT K).symm.trans e;obtain⟨s4,Y,H4,Z,n4,Q,X,o4,U⟩:=kp0 n1 F;refine qz Z (qz rfl (qz (seen qco) (qz (seen qco) (qz (seen qcp) ?_))));cases e;exact A (C.trans X) (F.grow X) Q (I.of_le (ql _)) (U.of_le C)
 ·replace e:=(condF K).symm.trans e;cases e;cases A;exact qy ⟨a1,rfl,n1,C,(H.of_le (ql _))⟩
theorem k54{s:khg}{r:kfk}(C:Iter kuq s r):knq r s:=qbg (λs o e A=>by
 cases s with
 | fn x1 x2=>exact @k62 _ _ x1 x2 e A
 | p4 x1 x2=>exact @kbjs _ _ x1 x2 e A
 ) C
inductive kgu
 | fn (x1:List Nat) (x2:List Nat)
 | p7 (x1:List Nat) (x2:List Nat)
abbrev kfn:=List Nat×Int
noncomputable def kge(x1 x2:List Nat):Option (kgu⊕kfn):=cond (!(rt x1)) (some (.inr ([],1))) (cond (!(rt x2)) (some (.inr ([],1))) ((need (List.length x1<=1073741824)).bind λC=>(need (List.length x2<=1073741824)).bind λA=>some (.inl (.p7 x1 x2))))
noncomputable def khv(x1 x2:List Nat):Option (kgu⊕kfn):=cond (decide ((List.length x2:Int)>0)) (some (.inl (.p7 x2 ((divN x1 x2).2.1)))) (some (.inr (x1,0)))
noncomputable def ku9:kgu->Option (kgu⊕kfn)
 | .fn x1 x2=>kge x1 x2
 | .p7 x1 x2=>khv x1 x2
@[reducible] def ks7(h0:AH)(r:kfn)(v:AV)(h':AH):Prop:=∃s1:Sl,v=.tup [s1.v,.i r.2]/\Nats h' s1 r.1/\Grow h0 h'/\Own h0 s1
def kl9(r:kfn):kgu->Prop
 | .fn x1 x2=>∀{h:AH}{a1:Sl}{a2:Sl},Nats h a1 x1->Nats h a2 x2->Runs (go (.fn kfu [a1.v,a2.v]) h) (ks7 h r)
 | .p7 x1 x2=>∀{h0 h:AH}{a1:Sl}{a2:Sl},Grow h0 h->Nats h a1 x1->Nats h a2 x2->Own h0 a1->Own h0 a2->Runs (go (.pt kfu kqq [(8,a1.v),(9,a2.v)]) h) (ks7 h0 r)
theorem kbbc{r:kfn}{o:kgu⊕kfn}{x1 x2:List Nat}(e:kge x1 x2=some o)(A:GoodS (kl9 r) r o):kl9 r (.fn x1 x2):=by
 intro h a1 a2 n1 K;rw[kbh9];unfold kge at e;refine qz (kco n1) (qz (seen rfl) (qz (kco K) (qz (seen rfl) ?_)));refine qbd (λQ=>?_) (λQ=>?_)
 ·replace e:=(condT Q).symm.trans e;cases e;cases A;exact qy ⟨(⟨none,0,.is 0⟩:Sl),rfl,(qw _),(ql _),(qu _)⟩
 ·replace e:=(condF Q).symm.trans e;refine qbd (λU=>?_) (λU=>?_)
  ·replace e:=(condT U).symm.trans e;cases e;cases A;exact qy ⟨(⟨none,0,.is 0⟩:Sl),rfl,(qw _),(ql _),(qu _)⟩
  ·replace e:=(condF U).symm.trans e;refine q0 λH7 b7 C=>?_;refine qz (kte (n1.grow C)) ?_;obtain⟨c8,q8,e⟩:=qbu.1 e;obtain⟨s8,H8,e8,n8,I,o8⟩:=k3r b7 (n1.grow C) C (qbp _) c8.down;refine qz e8 (qz qco ?_);refine q0 λH9 b9 F=>?_;refine qz (kte (K.grow ((C.trans I).trans F))) ?_;obtain⟨X,ac,e⟩:=qbu.1 e;obtain⟨ad,ae,Y,Z,H,aa⟩:=k3r b9 (K.grow ((C.trans I).trans F)) F (qbp _) X.down;refine qz Y (qz qco ?_);cases e;exact A (((C.trans I).trans F).trans H) (n8.grow (F.trans H)) Z (o8.of_le (ql _)) (aa.of_le (C.trans I))
theorem kbg7{r:kfn}{o:kgu⊕kfn}{x1 x2:List Nat}(e:khv x1 x2=some o)(A:GoodS (kl9 r) r o):kl9 r (.p7 x1 x2):=by
 intro h0 h a1 a2 C n1 F H I;rw[k43];unfold khv at e;rw[F.len];refine qbd (λK=>?_) (λK=>?_)
 ·replace e:=(condT K).symm.trans e;obtain⟨Z,H4,U,X,Q,Y⟩:=kbid n1 F;refine qz U (qz (seen qco) ?_);cases e;exact A (C.trans Q) (F.grow Q) X (I.of_le (ql _)) (Y.of_le C)
 ·replace e:=(condF K).symm.trans e;cases e;cases A;exact qy ⟨a1,rfl,n1,C,(H.of_le (ql _))⟩
theorem kblk{s:kgu}{r:kfn}(C:Iter ku9 s r):kl9 r s:=qbg (λs o e A=>by
 cases s with
 | fn x1 x2=>exact @kbbc _ _ x1 x2 e A
 | p7 x1 x2=>exact @kbg7 _ _ x1 x2 e A
 ) C
inductive kkx
 | fn (a1:Bool) (x2:List Nat) (a3:Bool) (x4:List Nat)
 | no
abbrev ki9:=Bool×List Nat×Bool×List Nat×Int
noncomputable def km6(a1:Bool)(x2:List Nat)(a3:Bool)(x4:List Nat):Option (kkx⊕ki9):=cond (!((rtI a1 x2&&rtI a3 x4))) (some (.inr (false,[],false,[],1))) (cond (decide ((List.length x4:Int)=0)) (some (.inr (false,[],false,[],3))) (cond (a3) (some (.inr (false,[],false,[],1))) (cond (a1) (cond (decide ((List.length ((divN x2 x4).2.1):Int)>0)) ((u64P 1).bind λp17=>cond (!decide (((addN ((divN x2 x4).1) (digs B p17)).2)=0)) (some (.inr (false,[],false,[],((addN ((divN x2 x4).1) (digs B p17)).2)))) (some (.inr ((((fromI a1 ((addN ((divN x2 x4).1) (digs B p17)).1)).1)),(fromI a1 ((addN ((divN x2 x4).1) (digs B p17)).1)).2,(((fromI false ((subN x4 ((divN x2 x4).2.1)).1)).1)),(fromI false ((subN x4 ((divN x2 x4).2.1)).1)).2,0)))) (some (.inr ((((fromI a1 ((divN x2 x4).1)).1)),(fromI a1 ((divN x2 x4).1)).2,(((fromI false ((divN x2 x4).2.1)).1)),(fromI false ((divN x2 x4).2.1)).2,0)))) (some (.inr ((((fromI a1 ((divN x2 x4).1)).1)),(fromI a1 ((divN x2 x4).1)).2,(((fromI false ((divN x2 x4).2.1)).1)),(fromI false ((divN x2 x4).2.1)).2,0))))))
noncomputable def k3a:kkx->Option (kkx⊕ki9)
 | .fn a1 x2 a3 x4=>km6 a1 x2 a3 x4
 | .no=>none
@[reducible] def k09(h0:AH)(r:ki9)(v:AV)(h':AH):Prop:=∃s1:Sl,∃s2:Sl,v=.tup [.agg [.bool r.1,s1.v],.agg [.bool r.2.2.1,s2.v],.i r.2.2.2.2]/\Nats h' s1 r.2.1/\Nats h' s2 r.2.2.2.1/\Grow h0 h'/\Own h0 s1/\Own h0 s2
def ksc(r:ki9):kkx->Prop
 | .fn a1 x2 a3 x4=>∀{h:AH}{a2:Sl}{a4:Sl},Nats h a2 x2->Nats h a4 x4->Runs (go (.fn kr3 [.agg [.bool a1,a2.v],.agg [.bool a3,a4.v]]) h) (k09 h r)
 | .no=>True
theorem k6l{r:ki9}{o:kkx⊕ki9}{a1:Bool}{x2:List Nat}{a3:Bool}{x4:List Nat}(e:km6 a1 x2 a3 x4=some o)(ai:GoodS (ksc r) r o):ksc r (.fn a1 x2 a3 x4):=by
 intro h a2 a4 n2 n4;rw[k9m];unfold km6 at e;refine q0 λH5 b5 Y=>?_;refine q0 λH6 b6 U=>?_;refine q0 λH7 Q X=>?_;refine q0 λH8 Z K=>?_;refine qz (qbf (((U.trans X).trans K).has b5) 0 rfl rfl) (qz (qbf (((U.trans X).trans K).has b5) 1 rfl qco) (qz (qbf ((X.trans K).has b6) 0 rfl rfl) (qz (qbf ((X.trans K).has b6) 1 rfl qco) ?_)));refine q0 λH9 b9 H=>?_;obtain⟨en,d0,A⟩:=kqn b9 (n2.grow ((((Y.trans U).trans X).trans K).trans H)) (n4.grow ((((Y.trans U).trans X).trans K).trans H));refine qz d0 (qz (seen rfl) ?_);refine qbd (λcp=>?_) (λcp=>?_)
 ·replace e:=(condT cp).symm.trans e;refine qba (((K.trans H).trans A).has Q) rfl λeo d1 cu=>?_;have cv:=qx ((H.trans A).has Z) (Nat.ne_of_gt (qbr (Q).lt (qbp _))) cu;have cw:=qx (A.has b9) (Nat.ne_of_gt (qbr (K.has Q).lt (qbp _))) cu;refine qba cv rfl λd2 bx ay=>?_;have bd:=qx d1 (Nat.ne_of_lt (qbr (Q).lt (qbp _))) ay;have bn:=qx cw (Nat.ne_of_gt (qbr (Z).lt (qbp _))) ay;refine qz (qbf bd 0 rfl rfl) (qz (qbf bd 1 rfl qco) (qz (qbf bx 0 rfl rfl) (qz (qbf bx 1 rfl qco) ?_)));cases e;cases ai;exact qy ⟨(⟨none,0,.is 0⟩:Sl),(⟨none,0,.is 0⟩:Sl),rfl,(qw _),(qw _),(((((((Y.trans U).trans X).trans K).trans H).trans A).updr (qbq ((Y.trans U)).size (qbp _)) cu).updr (qbq (((Y.trans U).trans X)).size (qbp _)) ay),(qu _),(qu _)⟩
 ·replace e:=(condF cp).symm.trans e;refine qz (qbf ((((X.trans K).trans H).trans A).has b6) 1 rfl qco) ?_;rw[(n4.grow (((((Y.trans U).trans X).trans K).trans H).trans A)).len];refine qbd (λcx=>?_) (λcx=>?_)
  ·replace e:=(condT cx).symm.trans e;refine qba (((K.trans H).trans A).has Q) rfl λd2 bx ay=>?_;have cy:=qx ((H.trans A).has Z) (Nat.ne_of_gt (qbr (Q).lt (qbp _))) ay;have bn:=qx (A.has b9) (Nat.ne_of_gt (qbr (K.has Q).lt (qbp _))) ay;refine qba cy rfl λdf bz az=>?_;have be:=qx bx (Nat.ne_of_lt (qbr (Q).lt (qbp _))) az;have bp:=qx bn (Nat.ne_of_gt (qbr (Z).lt (qbp _))) az;refine qz (qbf be 0 rfl rfl) (qz (qbf be 1 rfl qco) (qz (qbf bz 0 rfl rfl) (qz (qbf bz 1 rfl qco) ?_)));cases e;cases ai;exact qy ⟨(⟨none,0,.is 0⟩:Sl),(⟨none,0,.is 0⟩:Sl),rfl,(qw _),(qw _),(((((((Y.trans U).trans X).trans K).trans H).trans A).updr (qbq ((Y.trans U)).size (qbp _)) ay).updr (qbq (((Y.trans U).trans X)).size (qbp _)) az),(qu _),(qu _)⟩
  ·replace e:=(condF cx).symm.trans e;refine qz (qbf ((((X.trans K).trans H).trans A).has b6) 0 rfl rfl) ?_;refine qbd (λcz=>?_) (λcz=>?_)
   ·replace e:=(condT cz).symm.trans e;refine qba (((K.trans H).trans A).has Q) rfl λdf bz az=>?_;have c0:=qx ((H.trans A).has Z) (Nat.ne_of_gt (qbr (Q).lt (qbp _))) az;have bp:=qx (A.has b9) (Nat.ne_of_gt (qbr (K.has Q).lt (qbp _))) az;refine qba c0 rfl λep dg c1=>?_;have bf:=qx bz (Nat.ne_of_lt (qbr (Q).lt (qbp _))) c1;have d3:=qx bp (Nat.ne_of_gt (qbr (Z).lt (qbp _))) c1;refine qz (qbf bf 0 rfl rfl) (qz (qbf bf 1 rfl qco) (qz (qbf dg 0 rfl rfl) (qz (qbf dg 1 rfl qco) ?_)));cases e;cases ai;exact qy ⟨(⟨none,0,.is 0⟩:Sl),(⟨none,0,.is 0⟩:Sl),rfl,(qw _),(qw _),(((((((Y.trans U).trans X).trans K).trans H).trans A).updr (qbq ((Y.trans U)).size (qbp _)) az).updr (qbq (((Y.trans U).trans X)).size (qbp _)) c1),(qu _),(qu _)⟩
   ·replace e:=(condF cz).symm.trans e;refine qz (qbf (((((U.trans X).trans K).trans H).trans A).has b5) 1 rfl qco) (qz (qbf ((((X.trans K).trans H).trans A).has b6) 1 rfl qco) ?_);obtain⟨eq,em,df,d4,a0,af,C,ar,ag⟩:=kp0 (n2.grow (((((Y.trans U).trans X).trans K).trans H).trans A)) (n4.grow (((((Y.trans U).trans X).trans K).trans H).trans A));refine qz d4 (qz rfl (qz (seen qco) (qz (seen qco) ?_)));rw[af.len];refine qz (seen qcp) (qz (qbf ((((((U.trans X).trans K).trans H).trans A).trans C).has b5) 0 rfl rfl) ?_);refine qbd (λc2=>?_) (λc2=>?_)
    ·replace e:=(condT c2).symm.trans e;refine qbd (λc3=>?_) (λc3=>?_)
     ·replace e:=(condT c3).symm.trans e;obtain⟨p17,d5,e⟩:=qbu.1 e;obtain⟨b0,dh,bq,ba,F,ah⟩:=kom d5;refine qz bq (qz (seen qco) ?_);obtain⟨di,dj,c4,br,I,au⟩:=k32 (a0.grow F) ba;refine qz c4 (qz rfl (qz (seen qco) (qz (seen qcp) ?_)));refine qbd (λc5=>?_) (λc5=>?_)
      ·replace e:=(condT c5).symm.trans e;refine qba ((((((K.trans H).trans A).trans C).trans F).trans I).has Q) rfl λdk b1 ac=>?_;have bg:=(a0.grow (F.trans I)).upda (qbj ar (((K.trans H).trans A).has Q).lt) ac;have aw:=(af.grow (F.trans I)).upda (qbj ag (((K.trans H).trans A).has Q).lt) ac;have an:=(ba.grow I).upda (qbj ah ((((K.trans H).trans A).trans C).has Q).lt) ac;have ap:=br.upda (qbj au (((((K.trans H).trans A).trans C).trans F).has Q).lt) ac;have c6:=qx (((((H.trans A).trans C).trans F).trans I).has Z) (Nat.ne_of_gt (qbr (Q).lt (qbp _))) ac;have bt:=qx ((((A.trans C).trans F).trans I).has b9) (Nat.ne_of_gt (qbr (K.has Q).lt (qbp _))) ac;refine qba c6 rfl λd6 dl bb=>?_;have dt:=bg.upda (qbj ar ((H.trans A).has Z).lt) bb;have dm:=aw.upda (qbj ag ((H.trans A).has Z).lt) bb;have du:=an.upda (qbj ah (((H.trans A).trans C).has Z).lt) bb;have dv:=ap.upda (qbj au ((((H.trans A).trans C).trans F).has Z).lt) bb;have bh:=qx b1 (Nat.ne_of_lt (qbr (Q).lt (qbp _))) bb;have d7:=qx bt (Nat.ne_of_gt (qbr (Z).lt (qbp _))) bb;refine qz (qbf bh 0 rfl rfl) (qz (qbf bh 1 rfl qco) (qz (qbf dl 0 rfl rfl) (qz (qbf dl 1 rfl qco) ?_)));cases e;cases ai;exact qy ⟨(⟨none,0,.is 0⟩:Sl),(⟨none,0,.is 0⟩:Sl),rfl,(qw _),(qw _),((((((((((Y.trans U).trans X).trans K).trans H).trans A).trans C).trans F).trans I).updr (qbq ((Y.trans U)).size (qbp _)) ac).updr (qbq (((Y.trans U).trans X)).size (qbp _)) bb),(qu _),(qu _)⟩
      ·replace e:=(condF c5).symm.trans e;refine qz (qbf (((((((X.trans K).trans H).trans A).trans C).trans F).trans I).has b6) 1 rfl qco) ?_;obtain⟨er,dk,d8,dn,aa,dp⟩:=kvd (n4.grow ((((((((Y.trans U).trans X).trans K).trans H).trans A).trans C).trans F).trans I)) (af.grow (F.trans I));refine qz d8 (qz rfl (qz (seen qco) (qz (seen qcp) (qz (qbf (((((((((U.trans X).trans K).trans H).trans A).trans C).trans F).trans I).trans aa).has b5) 0 rfl rfl) ?_))));obtain⟨d9,d6,ea,eb,ae,c7⟩:=kdo (br.grow aa) a1;refine qz ea (qz rfl ?_);refine qbb rfl ?_;refine qz (seenAt rfl rfl) (qz (seenAt rfl qco) ?_);obtain⟨ec,et,ed,ee,aj,c8⟩:=kdo (dn.grow ae) false;refine qz ed (qz rfl ?_);refine qbb rfl ?_;refine qz (seenAt rfl rfl) (qz (seenAt rfl qco) ?_);refine qba (((((((((K.trans H).trans A).trans C).trans F).trans I).trans aa).trans ae).trans aj).has Q) rfl λeu ef ak=>?_;have b2:=(a0.grow ((((F.trans I).trans aa).trans ae).trans aj)).upda (qbj ar (((K.trans H).trans A).has Q).lt) ak;have bu:=(af.grow ((((F.trans I).trans aa).trans ae).trans aj)).upda (qbj ag (((K.trans H).trans A).has Q).lt) ak;have b3:=(ba.grow (((I.trans aa).trans ae).trans aj)).upda (qbj ah ((((K.trans H).trans A).trans C).has Q).lt) ak;have b4:=(br.grow ((aa.trans ae).trans aj)).upda (qbj au (((((K.trans H).trans A).trans C).trans F).has Q).lt) ak;have ca:=(dn.grow (ae.trans aj)).upda (qbj dp ((((((K.trans H).trans A).trans C).trans F).trans I).has Q).lt) ak;have cb:=(eb.grow aj).upda (qbj c7 (((((((K.trans H).trans A).trans C).trans F).trans I).trans aa).has Q).lt) ak;have cc:=ee.upda (qbj c8 ((((((((K.trans H).trans A).trans C).trans F).trans I).trans aa).trans ae).has Q).lt) ak;have c9:=qx ((((((((H.trans A).trans C).trans F).trans I).trans aa).trans ae).trans aj).has Z) (Nat.ne_of_gt (qbr (Q).lt (qbp _))) ak;have da:=qx (((((((A.trans C).trans F).trans I).trans aa).trans ae).trans aj).has b9) (Nat.ne_of_gt (qbr (K.has Q).lt (qbp _))) ak;refine qba c9 rfl λev dq al=>?_;have dw:=b2.upda (qbj ar ((H.trans A).has Z).lt) al;have dr:=bu.upda (qbj ag ((H.trans A).has Z).lt) al;have dx:=b3.upda (qbj ah (((H.trans A).trans C).has Z).lt) al;have dy:=b4.upda (qbj au ((((H.trans A).trans C).trans F).has Z).lt) al;have dz:=ca.upda (qbj dp (((((H.trans A).trans C).trans F).trans I).has Z).lt) al;have cd:=cb.upda (qbj c7 ((((((H.trans A).trans C).trans F).trans I).trans aa).has Z).lt) al;have ce:=cc.upda (qbj c8 (((((((H.trans A).trans C).trans F).trans I).trans aa).trans ae).has Z).lt) al;have bi:=qx ef (Nat.ne_of_lt (qbr (Q).lt (qbp _))) al;have eg:=qx da (Nat.ne_of_gt (qbr (Z).lt (qbp _))) al;refine qz (qbf bi 0 rfl rfl) (qz (qbf bi 1 rfl qco) (qz (qbf dq 0 rfl rfl) (qz (qbf dq 1 rfl qco) ?_)));cases e;cases ai;exact qy ⟨d9,ec,rfl,cd,ce,(((((((((((((Y.trans U).trans X).trans K).trans H).trans A).trans C).trans F).trans I).trans aa).trans ae).trans aj).updr (qbq ((Y.trans U)).size (qbp _)) ak).updr (qbq (((Y.trans U).trans X)).size (qbp _)) al),(c7.of_le (((((((((Y.trans U).trans X).trans K).trans H).trans A).trans C).trans F).trans I).trans aa)),(c8.of_le ((((((((((Y.trans U).trans X).trans K).trans H).trans A).trans C).trans F).trans I).trans aa).trans ae))⟩
     ·replace e:=(condF c3).symm.trans e;refine qz (qbf ((((((U.trans X).trans K).trans H).trans A).trans C).has b5) 0 rfl rfl) ?_;obtain⟨b0,dh,bq,ba,F,ah⟩:=kdo a0 a1;refine qz bq (qz rfl ?_);refine qbb rfl ?_;refine qz (seenAt rfl rfl) (qz (seenAt rfl qco) ?_);obtain⟨di,dj,c4,br,I,au⟩:=kdo (af.grow F) false;refine qz c4 (qz rfl ?_);refine qbb rfl ?_;refine qz (seenAt rfl rfl) (qz (seenAt rfl qco) ?_);refine qba ((((((K.trans H).trans A).trans C).trans F).trans I).has Q) rfl λeh cf ad=>?_;have bj:=(a0.grow (F.trans I)).upda (qbj ar (((K.trans H).trans A).has Q).lt) ad;have ax:=(af.grow (F.trans I)).upda (qbj ag (((K.trans H).trans A).has Q).lt) ad;have aq:=(ba.grow I).upda (qbj ah ((((K.trans H).trans A).trans C).has Q).lt) ad;have cg:=br.upda (qbj au (((((K.trans H).trans A).trans C).trans F).has Q).lt) ad;have db:=qx (((((H.trans A).trans C).trans F).trans I).has Z) (Nat.ne_of_gt (qbr (Q).lt (qbp _))) ad;have bv:=qx ((((A.trans C).trans F).trans I).has b9) (Nat.ne_of_gt (qbr (K.has Q).lt (qbp _))) ad;refine qba db rfl λdk b1 ac=>?_;have bg:=bj.upda (qbj ar ((H.trans A).has Z).lt) ac;have aw:=ax.upda (qbj ag ((H.trans A).has Z).lt) ac;have an:=aq.upda (qbj ah (((H.trans A).trans C).has Z).lt) ac;have ap:=cg.upda (qbj au ((((H.trans A).trans C).trans F).has Z).lt) ac;have bk:=qx cf (Nat.ne_of_lt (qbr (Q).lt (qbp _))) ac;have bt:=qx bv (Nat.ne_of_gt (qbr (Z).lt (qbp _))) ac;refine qz (qbf bk 0 rfl rfl) (qz (qbf bk 1 rfl qco) (qz (qbf b1 0 rfl rfl) (qz (qbf b1 1 rfl qco) ?_)));cases e;cases ai;exact qy ⟨b0,di,rfl,an,ap,((((((((((Y.trans U).trans X).trans K).trans H).trans A).trans C).trans F).trans I).updr (qbq ((Y.trans U)).size (qbp _)) ad).updr (qbq (((Y.trans U).trans X)).size (qbp _)) ac),(ah.of_le ((((((Y.trans U).trans X).trans K).trans H).trans A).trans C)),(au.of_le (((((((Y.trans U).trans X).trans K).trans H).trans A).trans C).trans F))⟩
    ·replace e:=(condF c2).symm.trans e;refine qz (qbf ((((((U.trans X).trans K).trans H).trans A).trans C).has b5) 0 rfl rfl) ?_;obtain⟨ei,ew,ej,ek,am,dc⟩:=kdo a0 a1;refine qz ej (qz rfl ?_);refine qbb rfl ?_;refine qz (seenAt rfl rfl) (qz (seenAt rfl qco) ?_);obtain⟨b0,dh,bq,ba,F,ah⟩:=kdo (af.grow am) false;refine qz bq (qz rfl ?_);refine qbb rfl ?_;refine qz (seenAt rfl rfl) (qz (seenAt rfl qco) ?_);refine qba ((((((K.trans H).trans A).trans C).trans am).trans F).has Q) rfl λdj el bc=>?_;have ci:=(a0.grow (am.trans F)).upda (qbj ar (((K.trans H).trans A).has Q).lt) bc;have bw:=(af.grow (am.trans F)).upda (qbj ag (((K.trans H).trans A).has Q).lt) bc;have cj:=(ek.grow F).upda (qbj dc ((((K.trans H).trans A).trans C).has Q).lt) bc;have cl:=ba.upda (qbj ah (((((K.trans H).trans A).trans C).trans am).has Q).lt) bc;have dd:=qx (((((H.trans A).trans C).trans am).trans F).has Z) (Nat.ne_of_gt (qbr (Q).lt (qbp _))) bc;have de:=qx ((((A.trans C).trans am).trans F).has b9) (Nat.ne_of_gt (qbr (K.has Q).lt (qbp _))) bc;refine qba dd rfl λeh cf ad=>?_;have bj:=ci.upda (qbj ar ((H.trans A).has Z).lt) ad;have ax:=bw.upda (qbj ag ((H.trans A).has Z).lt) ad;have cm:=cj.upda (qbj dc (((H.trans A).trans C).has Z).lt) ad;have aq:=cl.upda (qbj ah ((((H.trans A).trans C).trans am).has Z).lt) ad;have bm:=qx el (Nat.ne_of_lt (qbr (Q).lt (qbp _))) ad;have bv:=qx de (Nat.ne_of_gt (qbr (Z).lt (qbp _))) ad;refine qz (qbf bm 0 rfl rfl) (qz (qbf bm 1 rfl qco) (qz (qbf cf 0 rfl rfl) (qz (qbf cf 1 rfl qco) ?_)));cases e;cases ai;exact qy ⟨ei,b0,rfl,cm,aq,((((((((((Y.trans U).trans X).trans K).trans H).trans A).trans C).trans am).trans F).updr (qbq ((Y.trans U)).size (qbp _)) bc).updr (qbq (((Y.trans U).trans X)).size (qbp _)) ad),(dc.of_le ((((((Y.trans U).trans X).trans K).trans H).trans A).trans C)),(ah.of_le (((((((Y.trans U).trans X).trans K).trans H).trans A).trans C).trans am))⟩
theorem k9s{s:kkx}{r:ki9}(C:Iter k3a s r):ksc r s:=qbg (λs o e A=>by
 cases s with
 | fn a1 x2 a3 x4=>exact @k6l _ _ a1 x2 a3 x4 e A
 | no=>exact True.intro
 ) C
inductive kkb
 | fn (a1:Bool) (x2:List Nat) (a3:Bool) (x4:List Nat)
 | no
abbrev ki1:=Bool×List Nat×Bool×List Nat×Int
noncomputable def kmp(a1:Bool)(x2:List Nat)(a3:Bool)(x4:List Nat):Option (kkb⊕ki1):=cond (!(rtI a1 x2)) (some (.inr (false,[],false,[],1))) (cond (!(rtI a3 x4)) (some (.inr (false,[],false,[],1))) (cond (decide ((List.length x4:Int)=0)) (some (.inr (false,[],false,[],3))) (cond (a3) (some (.inr (false,[],false,[],1))) (cond (!a1) (some (.inr ((((fromI false ((divN x2 x4).1)).1)),(fromI false ((divN x2 x4).1)).2,(((fromI false ((divN x2 x4).2.1)).1)),(fromI false ((divN x2 x4).2.1)).2,0))) (cond (decide ((List.length ((divN x2 x4).2.1):Int)=0)) (some (.inr ((((fromI true ((divN x2 x4).1)).1)),(fromI true ((divN x2 x4).1)).2,false,[],0))) ((u64P 1).bind λp18=>cond (!decide (((addN ((divN x2 x4).1) (digs B p18)).2)=0)) (some (.inr (false,[],false,[],((addN ((divN x2 x4).1) (digs B p18)).2)))) (some (.inr ((((fromI true ((addN ((divN x2 x4).1) (digs B p18)).1)).1)),(fromI true ((addN ((divN x2 x4).1) (digs B p18)).1)).2,(((fromI false ((subN x4 ((divN x2 x4).2.1)).1)).1)),(fromI false ((subN x4 ((divN x2 x4).2.1)).1)).2,0)))))))))
noncomputable def k2s:kkb->Option (kkb⊕ki1)
 | .fn a1 x2 a3 x4=>kmp a1 x2 a3 x4
 | .no=>none
@[reducible] def k1v(h0:AH)(r:ki1)(v:AV)(h':AH):Prop:=∃s1:Sl,∃s2:Sl,v=.tup [.agg [.bool r.1,s1.v],.agg [.bool r.2.2.1,s2.v],.i r.2.2.2.2]/\Nats h' s1 r.2.1/\Nats h' s2 r.2.2.2.1/\Grow h0 h'/\Own h0 s1/\Own h0 s2
def ksi(r:ki1):kkb->Prop
 | .fn a1 x2 a3 x4=>∀{h:AH}{a2:Sl}{a4:Sl},Nats h a2 x2->Nats h a4 x4->Runs (go (.fn kpr [.agg [.bool a1,a2.v],.agg [.bool a3,a4.v]]) h) (k1v h r)
 | .no=>True
theorem k9u{r:ki1}{o:kkb⊕ki1}{a1:Bool}{x2:List Nat}{a3:Bool}{x4:List Nat}(e:kmp a1 x2 a3 x4=some o)(ac:GoodS (ksi r) r o):ksi r (.fn a1 x2 a3 x4):=by
 intro h a2 a4 n2 n4;rw[kbi8];unfold kmp at e;refine q0 λH5 b5 Y=>?_;refine q0 λH6 b6 U=>?_;refine q0 λH7 Q X=>?_;refine q0 λH8 b8 I=>?_;refine qz (qbf (((U.trans X).trans I).has b5) 0 rfl rfl) (qz (qbf (((U.trans X).trans I).has b5) 1 rfl qco) ?_);obtain⟨H9,e9,H⟩:=keh (n2.grow (((Y.trans U).trans X).trans I)) a1;refine qz e9 (qz (seen rfl) (qz (qbf (((X.trans I).trans H).has b6) 0 rfl rfl) (qz (qbf (((X.trans I).trans H).has b6) 1 rfl qco) ?_)));obtain⟨ed,dp,A⟩:=keh (n4.grow ((((Y.trans U).trans X).trans I).trans H)) a3;refine qz dp (qz (seen rfl) ?_);refine qbd (λcf=>?_) (λcf=>?_)
 ·replace e:=(condT cf).symm.trans e;refine qba (((I.trans H).trans A).has Q) rfl λee dq c5=>?_;have cg:=qx ((H.trans A).has b8) (Nat.ne_of_gt (qbr (Q).lt (qbp _))) c5;refine qba cg rfl λdr bq bg=>?_;have az:=qx dq (Nat.ne_of_lt (qbr (Q).lt (qbp _))) bg;refine qz (qbf az 0 rfl rfl) (qz (qbf az 1 rfl qco) (qz (qbf bq 0 rfl rfl) (qz (qbf bq 1 rfl qco) ?_)));cases e;cases ac;exact qy ⟨(⟨none,0,.is 0⟩:Sl),(⟨none,0,.is 0⟩:Sl),rfl,(qw _),(qw _),(((((((Y.trans U).trans X).trans I).trans H).trans A).updr (qbq ((Y.trans U)).size (qbp _)) c5).updr (qbq (((Y.trans U).trans X)).size (qbp _)) bg),(qu _),(qu _)⟩
 ·replace e:=(condF cf).symm.trans e;refine qbd (λci=>?_) (λci=>?_)
  ·replace e:=(condT ci).symm.trans e;refine qba (((I.trans H).trans A).has Q) rfl λdr bq bg=>?_;have cj:=qx ((H.trans A).has b8) (Nat.ne_of_gt (qbr (Q).lt (qbp _))) bg;refine qba cj rfl λdt br bh=>?_;have a0:=qx bq (Nat.ne_of_lt (qbr (Q).lt (qbp _))) bh;refine qz (qbf a0 0 rfl rfl) (qz (qbf a0 1 rfl qco) (qz (qbf br 0 rfl rfl) (qz (qbf br 1 rfl qco) ?_)));cases e;cases ac;exact qy ⟨(⟨none,0,.is 0⟩:Sl),(⟨none,0,.is 0⟩:Sl),rfl,(qw _),(qw _),(((((((Y.trans U).trans X).trans I).trans H).trans A).updr (qbq ((Y.trans U)).size (qbp _)) bg).updr (qbq (((Y.trans U).trans X)).size (qbp _)) bh),(qu _),(qu _)⟩
  ·replace e:=(condF ci).symm.trans e;refine qz (qbf ((((X.trans I).trans H).trans A).has b6) 1 rfl qco) ?_;rw[(n4.grow (((((Y.trans U).trans X).trans I).trans H).trans A)).len];refine qbd (λcl=>?_) (λcl=>?_)
   ·replace e:=(condT cl).symm.trans e;refine qba (((I.trans H).trans A).has Q) rfl λdt br bh=>?_;have cm:=qx ((H.trans A).has b8) (Nat.ne_of_gt (qbr (Q).lt (qbp _))) bh;refine qba cm rfl λc6 bt bi=>?_;have ba:=qx br (Nat.ne_of_lt (qbr (Q).lt (qbp _))) bi;refine qz (qbf ba 0 rfl rfl) (qz (qbf ba 1 rfl qco) (qz (qbf bt 0 rfl rfl) (qz (qbf bt 1 rfl qco) ?_)));cases e;cases ac;exact qy ⟨(⟨none,0,.is 0⟩:Sl),(⟨none,0,.is 0⟩:Sl),rfl,(qw _),(qw _),(((((((Y.trans U).trans X).trans I).trans H).trans A).updr (qbq ((Y.trans U)).size (qbp _)) bh).updr (qbq (((Y.trans U).trans X)).size (qbp _)) bi),(qu _),(qu _)⟩
   ·replace e:=(condF cl).symm.trans e;refine qz (qbf ((((X.trans I).trans H).trans A).has b6) 0 rfl rfl) ?_;refine qbd (λcp=>?_) (λcp=>?_)
    ·replace e:=(condT cp).symm.trans e;refine qba (((I.trans H).trans A).has Q) rfl λc6 bt bi=>?_;have cu:=qx ((H.trans A).has b8) (Nat.ne_of_gt (qbr (Q).lt (qbp _))) bi;refine qba cu rfl λef c7 c8=>?_;have bb:=qx bt (Nat.ne_of_lt (qbr (Q).lt (qbp _))) c8;refine qz (qbf bb 0 rfl rfl) (qz (qbf bb 1 rfl qco) (qz (qbf c7 0 rfl rfl) (qz (qbf c7 1 rfl qco) ?_)));cases e;cases ac;exact qy ⟨(⟨none,0,.is 0⟩:Sl),(⟨none,0,.is 0⟩:Sl),rfl,(qw _),(qw _),(((((((Y.trans U).trans X).trans I).trans H).trans A).updr (qbq ((Y.trans U)).size (qbp _)) bi).updr (qbq (((Y.trans U).trans X)).size (qbp _)) c8),(qu _),(qu _)⟩
    ·replace e:=(condF cp).symm.trans e;refine qz (qbf (((((U.trans X).trans I).trans H).trans A).has b5) 1 rfl qco) (qz (qbf ((((X.trans I).trans H).trans A).has b6) 1 rfl qco) ?_);obtain⟨eg,ec,c6,du,aw,ai,C,au,ad⟩:=kqf (n2.grow (((((Y.trans U).trans X).trans I).trans H).trans A)) (n4.grow (((((Y.trans U).trans X).trans I).trans H).trans A));refine qz du (qz rfl (qz (seen qco) (qz (seen qco) ?_)));rw[ai.len];refine qz (seen qcp) (qz (qbf ((((((U.trans X).trans I).trans H).trans A).trans C).has b5) 0 rfl rfl) ?_);refine qbd (λcv=>?_) (λcv=>?_)
     ·replace e:=(condT cv).symm.trans e;obtain⟨dv,eh,dw,dx,ak,cw⟩:=kd2 aw false;refine qz dw (qz rfl ?_);refine qbb rfl ?_;refine qz (seenAt rfl rfl) (qz (seenAt rfl qco) ?_);obtain⟨bu,c9,bj,ax,F,ae⟩:=kd2 (ai.grow ak) false;refine qz bj (qz rfl ?_);refine qbb rfl ?_;refine qz (seenAt rfl rfl) (qz (seenAt rfl qco) ?_);refine qba ((((((I.trans H).trans A).trans C).trans ak).trans F).has Q) rfl λda cx af=>?_;have al:=(aw.grow (ak.trans F)).upda (qbj au (((I.trans H).trans A).has Q).lt) af;have aj:=(ai.grow (ak.trans F)).upda (qbj ad (((I.trans H).trans A).has Q).lt) af;have bv:=(dx.grow F).upda (qbj cw ((((I.trans H).trans A).trans C).has Q).lt) af;have am:=ax.upda (qbj ae (((((I.trans H).trans A).trans C).trans ak).has Q).lt) af;have ay:=qx (((((H.trans A).trans C).trans ak).trans F).has b8) (Nat.ne_of_gt (qbr (Q).lt (qbp _))) af;refine qba ay rfl λdy bk ag=>?_;have bw:=al.upda (qbj au ((H.trans A).has b8).lt) ag;have bm:=aj.upda (qbj ad ((H.trans A).has b8).lt) ag;have bx:=bv.upda (qbj cw (((H.trans A).trans C).has b8).lt) ag;have an:=am.upda (qbj ae ((((H.trans A).trans C).trans ak).has b8).lt) ag;have Z:=qx cx (Nat.ne_of_lt (qbr (Q).lt (qbp _))) ag;refine qz (qbf Z 0 rfl rfl) (qz (qbf Z 1 rfl qco) (qz (qbf bk 0 rfl rfl) (qz (qbf bk 1 rfl qco) ?_)));cases e;cases ac;exact qy ⟨dv,bu,rfl,bx,an,((((((((((Y.trans U).trans X).trans I).trans H).trans A).trans C).trans ak).trans F).updr (qbq ((Y.trans U)).size (qbp _)) af).updr (qbq (((Y.trans U).trans X)).size (qbp _)) ag),(cw.of_le ((((((Y.trans U).trans X).trans I).trans H).trans A).trans C)),(ae.of_le (((((((Y.trans U).trans X).trans I).trans H).trans A).trans C).trans ak))⟩
     ·replace e:=(condF cv).symm.trans e;refine qbd (λcy=>?_) (λcy=>?_)
      ·replace e:=(condT cy).symm.trans e;obtain⟨bu,c9,bj,ax,F,ae⟩:=kd2 aw true;refine qz bj (qz rfl ?_);refine qbb rfl ?_;refine qz (seenAt rfl rfl) (qz (seenAt rfl qco) ?_);refine qba (((((I.trans H).trans A).trans C).trans F).has Q) rfl λda cx af=>?_;have al:=(aw.grow F).upda (qbj au (((I.trans H).trans A).has Q).lt) af;have aj:=(ai.grow F).upda (qbj ad (((I.trans H).trans A).has Q).lt) af;have am:=ax.upda (qbj ae ((((I.trans H).trans A).trans C).has Q).lt) af;have ay:=qx ((((H.trans A).trans C).trans F).has b8) (Nat.ne_of_gt (qbr (Q).lt (qbp _))) af;refine qba ay rfl λdy bk ag=>?_;have bw:=al.upda (qbj au ((H.trans A).has b8).lt) ag;have bm:=aj.upda (qbj ad ((H.trans A).has b8).lt) ag;have an:=am.upda (qbj ae (((H.trans A).trans C).has b8).lt) ag;have Z:=qx cx (Nat.ne_of_lt (qbr (Q).lt (qbp _))) ag;refine qz (qbf Z 0 rfl rfl) (qz (qbf Z 1 rfl qco) (qz (qbf bk 0 rfl rfl) (qz (qbf bk 1 rfl qco) ?_)));cases e;cases ac;exact qy ⟨bu,(⟨none,0,.is 0⟩:Sl),rfl,an,(qw _),(((((((((Y.trans U).trans X).trans I).trans H).trans A).trans C).trans F).updr (qbq ((Y.trans U)).size (qbp _)) af).updr (qbq (((Y.trans U).trans X)).size (qbp _)) ag),(ae.of_le ((((((Y.trans U).trans X).trans I).trans H).trans A).trans C)),(qu _)⟩
      ·replace e:=(condF cy).symm.trans e;obtain⟨p18,dz,e⟩:=qbu.1 e;obtain⟨bu,c9,bj,ax,F,ae⟩:=kba5 dz;refine qz bj (qz (seen qco) ?_);obtain⟨ei,da,d0,cz,K,bz⟩:=kyf (aw.grow F) ax;refine qz d0 (qz rfl (qz (seen qco) (qz (seen qcp) ?_)));refine qbd (λc0=>?_) (λc0=>?_)
       ·replace e:=(condT c0).symm.trans e;refine qba ((((((I.trans H).trans A).trans C).trans F).trans K).has Q) rfl λd1 d2 be=>?_;have b0:=(aw.grow (F.trans K)).upda (qbj au (((I.trans H).trans A).has Q).lt) be;have bn:=(ai.grow (F.trans K)).upda (qbj ad (((I.trans H).trans A).has Q).lt) be;have b1:=(ax.grow K).upda (qbj ae ((((I.trans H).trans A).trans C).has Q).lt) be;have b2:=cz.upda (qbj bz (((((I.trans H).trans A).trans C).trans F).has Q).lt) be;have c1:=qx (((((H.trans A).trans C).trans F).trans K).has b8) (Nat.ne_of_gt (qbr (Q).lt (qbp _))) be;refine qba c1 rfl λd3 db bf=>?_;have dh:=b0.upda (qbj au ((H.trans A).has b8).lt) bf;have dc:=bn.upda (qbj ad ((H.trans A).has b8).lt) bf;have di:=b1.upda (qbj ae (((H.trans A).trans C).has b8).lt) bf;have dj:=b2.upda (qbj bz ((((H.trans A).trans C).trans F).has b8).lt) bf;have bc:=qx d2 (Nat.ne_of_lt (qbr (Q).lt (qbp _))) bf;refine qz (qbf bc 0 rfl rfl) (qz (qbf bc 1 rfl qco) (qz (qbf db 0 rfl rfl) (qz (qbf db 1 rfl qco) ?_)));cases e;cases ac;exact qy ⟨(⟨none,0,.is 0⟩:Sl),(⟨none,0,.is 0⟩:Sl),rfl,(qw _),(qw _),((((((((((Y.trans U).trans X).trans I).trans H).trans A).trans C).trans F).trans K).updr (qbq ((Y.trans U)).size (qbp _)) be).updr (qbq (((Y.trans U).trans X)).size (qbp _)) bf),(qu _),(qu _)⟩
       ·replace e:=(condF c0).symm.trans e;refine qz (qbf (((((((X.trans I).trans H).trans A).trans C).trans F).trans K).has b6) 1 rfl qco) ?_;obtain⟨ej,d1,d4,dd,aa,de⟩:=kv4 (n4.grow ((((((((Y.trans U).trans X).trans I).trans H).trans A).trans C).trans F).trans K)) (ai.grow (F.trans K));refine qz d4 (qz rfl (qz (seen qco) (qz (seen qcp) ?_)));obtain⟨d5,d3,d6,d7,ah,c2⟩:=kd2 (cz.grow aa) true;refine qz d6 (qz rfl ?_);refine qbb rfl ?_;refine qz (seenAt rfl rfl) (qz (seenAt rfl qco) ?_);obtain⟨d8,ek,d9,ea,ap,c3⟩:=kd2 (dd.grow ah) false;refine qz d9 (qz rfl ?_);refine qbb rfl ?_;refine qz (seenAt rfl rfl) (qz (seenAt rfl qco) ?_);refine qba (((((((((I.trans H).trans A).trans C).trans F).trans K).trans aa).trans ah).trans ap).has Q) rfl λel eb aq=>?_;have b3:=(aw.grow ((((F.trans K).trans aa).trans ah).trans ap)).upda (qbj au (((I.trans H).trans A).has Q).lt) aq;have bp:=(ai.grow ((((F.trans K).trans aa).trans ah).trans ap)).upda (qbj ad (((I.trans H).trans A).has Q).lt) aq;have b4:=(ax.grow (((K.trans aa).trans ah).trans ap)).upda (qbj ae ((((I.trans H).trans A).trans C).has Q).lt) aq;have b9:=(cz.grow ((aa.trans ah).trans ap)).upda (qbj bz (((((I.trans H).trans A).trans C).trans F).has Q).lt) aq;have ca:=(dd.grow (ah.trans ap)).upda (qbj de ((((((I.trans H).trans A).trans C).trans F).trans K).has Q).lt) aq;have cb:=(d7.grow ap).upda (qbj c2 (((((((I.trans H).trans A).trans C).trans F).trans K).trans aa).has Q).lt) aq;have cc:=ea.upda (qbj c3 ((((((((I.trans H).trans A).trans C).trans F).trans K).trans aa).trans ah).has Q).lt) aq;have c4:=qx ((((((((H.trans A).trans C).trans F).trans K).trans aa).trans ah).trans ap).has b8) (Nat.ne_of_gt (qbr (Q).lt (qbp _))) aq;refine qba c4 rfl λem df ar=>?_;have dk:=b3.upda (qbj au ((H.trans A).has b8).lt) ar;have dg:=bp.upda (qbj ad ((H.trans A).has b8).lt) ar;have dl:=b4.upda (qbj ae (((H.trans A).trans C).has b8).lt) ar;have dm:=b9.upda (qbj bz ((((H.trans A).trans C).trans F).has b8).lt) ar;have dn:=ca.upda (qbj de (((((H.trans A).trans C).trans F).trans K).has b8).lt) ar;have cd:=cb.upda (qbj c2 ((((((H.trans A).trans C).trans F).trans K).trans aa).has b8).lt) ar;have ce:=cc.upda (qbj c3 (((((((H.trans A).trans C).trans F).trans K).trans aa).trans ah).has b8).lt) ar;have bd:=qx eb (Nat.ne_of_lt (qbr (Q).lt (qbp _))) ar;refine qz (qbf bd 0 rfl rfl) (qz (qbf bd 1 rfl qco) (qz (qbf df 0 rfl rfl) (qz (qbf df 1 rfl qco) ?_)));cases e;cases ac;exact qy ⟨d5,d8,rfl,cd,ce,(((((((((((((Y.trans U).trans X).trans I).trans H).trans A).trans C).trans F).trans K).trans aa).trans ah).trans ap).updr (qbq ((Y.trans U)).size (qbp _)) aq).updr (qbq (((Y.trans U).trans X)).size (qbp _)) ar),(c2.of_le (((((((((Y.trans U).trans X).trans I).trans H).trans A).trans C).trans F).trans K).trans aa)),(c3.of_le ((((((((((Y.trans U).trans X).trans I).trans H).trans A).trans C).trans F).trans K).trans aa).trans ah))⟩
theorem k6g{s:kkb}{r:ki1}(C:Iter k2s s r):ksi r s:=qbg (λs o e A=>by
 cases s with
 | fn a1 x2 a3 x4=>exact @k9u _ _ a1 x2 a3 x4 e A
 | no=>exact True.intro
 ) C
end Go.Ab
