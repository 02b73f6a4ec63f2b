/- squeezed -/
import Derived.Test.YtnoegamaadakpaaGreatDoorPS2
import Derived.Test.YtnoegamaadakpaaGreatDoorPAbsS
set_option linter.unusedVariables false
set_option linter.unusedSimpArgs false
set_option linter.unusedSectionVars false

set_option maxRecDepth 10000
namespace Go.Ab
open Go.Proofs Go.Num
theorem Bl.uniq{x n m:Nat}(a:Bl x n)(b:Bl x m):n=m:=Nat.le_antisymm (a.le b.1) (b.le a.1)
theorem ky1(a:Int){h:AH}(ha:0≤a∧a<18446744073709551616):go (.fn F.kqp [.int .u64 a]) h=some (.int .i64 ((64-bl a.toNat:Nat):Int),h):=by
 obtain⟨x,rfl⟩:∃x:Nat,a=(x:Int):=⟨a.toNat,by omega⟩;obtain⟨l,e,b⟩:=k0f (x:=x) (by omega) (h:=h);have hl:=b.le (m:=64) (show x<2^64 by omega);have:=b.uniq (bl_Bl x);subst this;rw[kbac,e,Option.bind_some,Option.bind_some,kc,Option.bind_some,Int.toNat_natCast,wrap64 (by omega) (by omega)];rw[show(64:Int)-(bl x:Int)=((64-bl x:Nat):Int)from by omega]
theorem kw5{x:Nat}(hx:x<18446744073709551616)(h0:0<x):64-bl x≤63∧9223372036854775808≤x*2^(64-bl x)∧x*2^(64-bl x)<18446744073709551616:=by
 have b:=bl_Bl x;generalize bl x=l at b;have hl:=b.le (m:=64) (show x<2^64 by omega)
 have hl1:1≤l:=by
  rcases Nat.eq_zero_or_pos l with e | e
  ·subst e;have:=b.1;rw[Nat.pow_zero]at this;omega
  ·exact e
 refine⟨by omega,?_,?_⟩
 ·rcases b.2 with h1 | h1
  ·omega
  ·have h2:2^(l-1)*2^(64-l)≤x*2^(64-l):=Nat.mul_le_mul_right _ h1;rw[← Nat.pow_add,show l-1+(64-l)=63 from by omega]at h2;exact h2
 ·have h2:x*2^(64-l)<2^l*2^(64-l):=Nat.mul_lt_mul_of_pos_right b.1 (Nat.pow_pos (by decide));rw[← Nat.pow_add,show l+(64-l)=64 from by omega]at h2;exact h2
theorem km4(x n:Nat)(hn:n≤64):ishl .u64 (x:Int) (n:Int)=((x*2^n%18446744073709551616:Nat):Int):=by
 unfold ishl;rw[Int.toNat_natCast,show IntKind.bits .u64=64 from rfl,Nat.min_eq_left hn,wrapU];have:(x:Int)*(2:Int)^n=((x*2^n:Nat):Int):=by simp
 rw[this];rfl
theorem krs{a c s:Nat}(h:a*2^s<18446744073709551616)(hc:c<2^s)(hs:s≤64):ior .u64 ((a*2^s:Nat):Int) (c:Int)=((a*2^s+c:Nat):Int):=by
 have p:0<2^s:=Nat.pow_pos (by decide);have hc':c<18446744073709551616:=show c<2^64 from Nat.lt_of_lt_of_le hc (Nat.pow_le_pow_right (by decide) hs)
 have hsum:a*2^s+c<18446744073709551616:=by
  have e:2^(64-s)*2^s=18446744073709551616:=by rw[← Nat.pow_add,show 64-s+s=64 from by omega]
  have h1:a<2^(64-s):=Nat.lt_of_mul_lt_mul_right (a:=2^s) (by rw[e];exact h);have h2:(a+1)*2^s≤2^(64-s)*2^s:=Nat.mul_le_mul_right _ h1;rw[e,Nat.add_mul,Nat.one_mul]at h2;omega
 unfold ior;rw[show IntKind.bits .u64=64 from rfl,wrapU];have e1:BitVec.ofInt 64 ((a*2^s:Nat):Int)=BitVec.ofNat 64 (a*2^s):=rfl;have e2:BitVec.ofInt 64 (c:Int)=BitVec.ofNat 64 c:=rfl;have e3:=Nat.shiftLeft_add_eq_or_of_lt hc a;rw[Nat.shiftLeft_eq]at e3;rw[e1,e2,BitVec.toNat_or,BitVec.toNat_ofNat,BitVec.toNat_ofNat,Nat.mod_eq_of_lt (show a*2^s<2^64 from h),Nat.mod_eq_of_lt (show c<2^64 from hc'),← e3];omega
end Go.Ab

/- squeezed -/
set_option maxRecDepth 10000
namespace Go.Ab
open Go.Proofs Go.Num
inductive kck
 | fn (a1:Int) (a2:Int) (a3:Int)
 | p3 (a1:Int) (a2:Int) (a3:Int)
 | p17 (a1:Int) (a2:Int) (a3:Int) (a4:Int) (a5:Int) (a6:Int) (a7:Int) (a8:Int) (a9:Int)
 | p24 (a1:Int) (a2:Int) (a3:Int) (a4:Int) (a5:Int) (a6:Int) (a7:Int) (a8:Int) (a9:Int)
abbrev kbx:=Int×Int
noncomputable def km8(a1 a2 a3:Int):Option (kck⊕kbx) :=
 cond (decide (a3=0)) (none) (some (.inl (.p3 a1 a2 a3)))
noncomputable def kim(a1 a2 a3:Int):Option (kck⊕kbx) :=
 cond (decide (a3≤a1)) (none) (cond (decide (a1=0)) (cond (decide (a3=0)) (none) (cond (decide (a3=0)) (none) (some (.inr (IntKind.wrap .u64 (Int.tdiv a2 a3),Int.tmod a2 a3))))) ((need (0≤a3∧a3<18446744073709551616)).bind fun c6_0=>cond (decide ((IntKind.wrap .u64 (((64-bl (Int.toNat a3):Nat):Int)))<0)) (none) (cond (decide ((IntKind.wrap .u64 (((64-bl (Int.toNat a3):Nat):Int)))<0)) (none) (cond (decide ((IntKind.wrap .u64 (64-(IntKind.wrap .u64 (((64-bl (Int.toNat a3):Nat):Int)))))<0)) (none) (cond (decide ((IntKind.wrap .u64 (((64-bl (Int.toNat a3):Nat):Int)))<0)) (none) (cond (decide ((ishr .u64 (ishl .u64 a3 (IntKind.wrap .u64 (((64-bl (Int.toNat a3):Nat):Int)))) 32)=0)) (none) (some (.inl (.p17 (ishl .u64 a3 (IntKind.wrap .u64 (((64-bl (Int.toNat a3):Nat):Int)))) (IntKind.wrap .u64 (((64-bl (Int.toNat a3):Nat):Int))) (ishr .u64 (ishl .u64 a3 (IntKind.wrap .u64 (((64-bl (Int.toNat a3):Nat):Int)))) 32) (iand .u64 (ishl .u64 a3 (IntKind.wrap .u64 (((64-bl (Int.toNat a3):Nat):Int)))) 4294967295) (ior .u64 (ishl .u64 a1 (IntKind.wrap .u64 (((64-bl (Int.toNat a3):Nat):Int)))) (ishr .u64 a2 (IntKind.wrap .u64 (64-(IntKind.wrap .u64 (((64-bl (Int.toNat a3):Nat):Int))))))) (ishr .u64 (ishl .u64 a2 (IntKind.wrap .u64 (((64-bl (Int.toNat a3):Nat):Int)))) 32) (iand .u64 (ishl .u64 a2 (IntKind.wrap .u64 (((64-bl (Int.toNat a3):Nat):Int)))) 4294967295) (IntKind.wrap .u64 (Int.tdiv (ior .u64 (ishl .u64 a1 (IntKind.wrap .u64 (((64-bl (Int.toNat a3):Nat):Int)))) (ishr .u64 a2 (IntKind.wrap .u64 (64-(IntKind.wrap .u64 (((64-bl (Int.toNat a3):Nat):Int))))))) (ishr .u64 (ishl .u64 a3 (IntKind.wrap .u64 (((64-bl (Int.toNat a3):Nat):Int)))) 32))) (IntKind.wrap .u64 ((ior .u64 (ishl .u64 a1 (IntKind.wrap .u64 (((64-bl (Int.toNat a3):Nat):Int)))) (ishr .u64 a2 (IntKind.wrap .u64 (64-(IntKind.wrap .u64 (((64-bl (Int.toNat a3):Nat):Int)))))))-(IntKind.wrap .u64 ((IntKind.wrap .u64 (Int.tdiv (ior .u64 (ishl .u64 a1 (IntKind.wrap .u64 (((64-bl (Int.toNat a3):Nat):Int)))) (ishr .u64 a2 (IntKind.wrap .u64 (64-(IntKind.wrap .u64 (((64-bl (Int.toNat a3):Nat):Int))))))) (ishr .u64 (ishl .u64 a3 (IntKind.wrap .u64 (((64-bl (Int.toNat a3):Nat):Int)))) 32)))*(ishr .u64 (ishl .u64 a3 (IntKind.wrap .u64 (((64-bl (Int.toNat a3):Nat):Int)))) 32))))))))))))))
noncomputable def kf7(a1 a2 a3 a4 a5 a6 a7 a8 a9:Int):Option (kck⊕kbx) :=
 cond (decide (a8≥4294967296)) (cond (decide ((IntKind.wrap .u64 (a9+a3))≥4294967296)) (cond (decide (a3=0)) (none) (some (.inl (.p24 a1 a2 a3 a4 a7 (IntKind.wrap .u64 (a8-1)) (IntKind.wrap .u64 ((IntKind.wrap .u64 ((IntKind.wrap .u64 ((IntKind.wrap .u64 (a5*4294967296))+a6))-(IntKind.wrap .u64 ((IntKind.wrap .u64 (a8-1))*a1))))-(IntKind.wrap .u64 ((IntKind.wrap .u64 (Int.tdiv (IntKind.wrap .u64 ((IntKind.wrap .u64 ((IntKind.wrap .u64 (a5*4294967296))+a6))-(IntKind.wrap .u64 ((IntKind.wrap .u64 (a8-1))*a1)))) a3))*a3)))) (IntKind.wrap .u64 ((IntKind.wrap .u64 ((IntKind.wrap .u64 (a5*4294967296))+a6))-(IntKind.wrap .u64 ((IntKind.wrap .u64 (a8-1))*a1)))) (IntKind.wrap .u64 (Int.tdiv (IntKind.wrap .u64 ((IntKind.wrap .u64 ((IntKind.wrap .u64 (a5*4294967296))+a6))-(IntKind.wrap .u64 ((IntKind.wrap .u64 (a8-1))*a1)))) a3)))))) (some (.inl (.p17 a1 a2 a3 a4 a5 a6 a7 (IntKind.wrap .u64 (a8-1)) (IntKind.wrap .u64 (a9+a3)))))) (cond (decide ((IntKind.wrap .u64 (a8*a4))>(IntKind.wrap .u64 ((IntKind.wrap .u64 (4294967296*a9))+a6)))) (cond (decide ((IntKind.wrap .u64 (a9+a3))≥4294967296)) (cond (decide (a3=0)) (none) (some (.inl (.p24 a1 a2 a3 a4 a7 (IntKind.wrap .u64 (a8-1)) (IntKind.wrap .u64 ((IntKind.wrap .u64 ((IntKind.wrap .u64 ((IntKind.wrap .u64 (a5*4294967296))+a6))-(IntKind.wrap .u64 ((IntKind.wrap .u64 (a8-1))*a1))))-(IntKind.wrap .u64 ((IntKind.wrap .u64 (Int.tdiv (IntKind.wrap .u64 ((IntKind.wrap .u64 ((IntKind.wrap .u64 (a5*4294967296))+a6))-(IntKind.wrap .u64 ((IntKind.wrap .u64 (a8-1))*a1)))) a3))*a3)))) (IntKind.wrap .u64 ((IntKind.wrap .u64 ((IntKind.wrap .u64 (a5*4294967296))+a6))-(IntKind.wrap .u64 ((IntKind.wrap .u64 (a8-1))*a1)))) (IntKind.wrap .u64 (Int.tdiv (IntKind.wrap .u64 ((IntKind.wrap .u64 ((IntKind.wrap .u64 (a5*4294967296))+a6))-(IntKind.wrap .u64 ((IntKind.wrap .u64 (a8-1))*a1)))) a3)))))) (some (.inl (.p17 a1 a2 a3 a4 a5 a6 a7 (IntKind.wrap .u64 (a8-1)) (IntKind.wrap .u64 (a9+a3)))))) (cond (decide (a3=0)) (none) (some (.inl (.p24 a1 a2 a3 a4 a7 a8 (IntKind.wrap .u64 ((IntKind.wrap .u64 ((IntKind.wrap .u64 ((IntKind.wrap .u64 (a5*4294967296))+a6))-(IntKind.wrap .u64 (a8*a1))))-(IntKind.wrap .u64 ((IntKind.wrap .u64 (Int.tdiv (IntKind.wrap .u64 ((IntKind.wrap .u64 ((IntKind.wrap .u64 (a5*4294967296))+a6))-(IntKind.wrap .u64 (a8*a1)))) a3))*a3)))) (IntKind.wrap .u64 ((IntKind.wrap .u64 ((IntKind.wrap .u64 (a5*4294967296))+a6))-(IntKind.wrap .u64 (a8*a1)))) (IntKind.wrap .u64 (Int.tdiv (IntKind.wrap .u64 ((IntKind.wrap .u64 ((IntKind.wrap .u64 (a5*4294967296))+a6))-(IntKind.wrap .u64 (a8*a1)))) a3)))))))
noncomputable def kf3(a1 a2 a3 a4 a5 a6 a7 a8 a9:Int):Option (kck⊕kbx) :=
 cond (decide (a9≥4294967296)) (cond (decide ((IntKind.wrap .u64 (a7+a3))≥4294967296)) (cond (decide (a2<0)) (none) (some (.inr (IntKind.wrap .u64 ((IntKind.wrap .u64 (a6*4294967296))+(IntKind.wrap .u64 (a9-1))),ishr .u64 (IntKind.wrap .u64 ((IntKind.wrap .u64 ((IntKind.wrap .u64 (a8*4294967296))+a5))-(IntKind.wrap .u64 ((IntKind.wrap .u64 (a9-1))*a1)))) a2)))) (some (.inl (.p24 a1 a2 a3 a4 a5 a6 (IntKind.wrap .u64 (a7+a3)) a8 (IntKind.wrap .u64 (a9-1)))))) (cond (decide ((IntKind.wrap .u64 (a9*a4))>(IntKind.wrap .u64 ((IntKind.wrap .u64 (4294967296*a7))+a5)))) (cond (decide ((IntKind.wrap .u64 (a7+a3))≥4294967296)) (cond (decide (a2<0)) (none) (some (.inr (IntKind.wrap .u64 ((IntKind.wrap .u64 (a6*4294967296))+(IntKind.wrap .u64 (a9-1))),ishr .u64 (IntKind.wrap .u64 ((IntKind.wrap .u64 ((IntKind.wrap .u64 (a8*4294967296))+a5))-(IntKind.wrap .u64 ((IntKind.wrap .u64 (a9-1))*a1)))) a2)))) (some (.inl (.p24 a1 a2 a3 a4 a5 a6 (IntKind.wrap .u64 (a7+a3)) a8 (IntKind.wrap .u64 (a9-1)))))) (cond (decide (a2<0)) (none) (some (.inr (IntKind.wrap .u64 ((IntKind.wrap .u64 (a6*4294967296))+a9),ishr .u64 (IntKind.wrap .u64 ((IntKind.wrap .u64 ((IntKind.wrap .u64 (a8*4294967296))+a5))-(IntKind.wrap .u64 (a9*a1)))) a2)))))
noncomputable def kff:kck→Option (kck⊕kbx)
 | .fn a1 a2 a3=>km8 a1 a2 a3
 | .p3 a1 a2 a3=>kim a1 a2 a3
 | .p17 a1 a2 a3 a4 a5 a6 a7 a8 a9=>kf7 a1 a2 a3 a4 a5 a6 a7 a8 a9
 | .p24 a1 a2 a3 a4 a5 a6 a7 a8 a9=>kf3 a1 a2 a3 a4 a5 a6 a7 a8 a9
@[reducible] def kp8(h0:AH)(r:kbx)(v:AV)(h':AH):Prop:=v=.tup [.int .u64 r.1,.int .u64 r.2]∧Grow h0 h'
def kfn(r:kbx):kck→Prop
 | .fn a1 a2 a3=>∀{h:AH},Runs (go (.fn F.kbu [.int .u64 a1,.int .u64 a2,.int .u64 a3]) h) (kp8 h r)
 | .p3 a1 a2 a3=>∀{h0 h:AH},Grow h0 h→Runs (go (.pt F.kbu Td.kte [(0,.int .u64 a1),(1,.int .u64 a2),(2,.int .u64 a3)]) h) (kp8 h0 r)
 | .p17 a1 a2 a3 a4 a5 a6 a7 a8 a9=>∀{h0 h:AH},Grow h0 h→Runs (go (.pt F.kbu Td.kky [(2,.int .u64 a1),(8,.int .u64 a2),(9,.int .u64 a3),(10,.int .u64 a4),(11,.int .u64 a5),(13,.int .u64 a6),(14,.int .u64 a7),(15,.int .u64 a8),(16,.int .u64 a9)]) h) (kp8 h0 r)
 | .p24 a1 a2 a3 a4 a5 a6 a7 a8 a9=>∀{h0 h:AH},Grow h0 h→Runs (go (.pt F.kbu Td.khh [(2,.int .u64 a1),(8,.int .u64 a2),(9,.int .u64 a3),(10,.int .u64 a4),(14,.int .u64 a5),(15,.int .u64 a6),(16,.int .u64 a7),(17,.int .u64 a8),(18,.int .u64 a9)]) h) (kp8 h0 r)
theorem k6d{r:kbx}{o:kck⊕kbx}{a1 a2 a3:Int}(e:km8 a1 a2 a3=some o)(good:GoodS (kfn r) r o):kfn r (.fn a1 a2 a3):=by
 intro h;rw[k8g];unfold km8 at e;refine Runs.cond (fun k4=>?_) (fun k4=>?_)
 ·replace e:=(condT k4).symm.trans e;cases e
 ·replace e:=(condF k4).symm.trans e;cases e;exact good (Grow.refl _)
theorem kbgc{r:kbx}{o:kck⊕kbx}{a1 a2 a3:Int}(e:kim a1 a2 a3=some o)(good:GoodS (kfn r) r o):kfn r (.p3 a1 a2 a3):=by
 intro h0 h g0;rw[k93];unfold kim at e;refine Runs.cond (fun k4=>?_) (fun k4=>?_)
 ·replace e:=(condT k4).symm.trans e;cases e
 ·replace e:=(condF k4).symm.trans e;refine Runs.cond (fun k5=>?_) (fun k5=>?_)
  ·replace e:=(condT k5).symm.trans e;refine Runs.cond (fun k6=>?_) (fun k6=>?_)
   ·replace e:=(condT k6).symm.trans e;cases e
   ·replace e:=(condF k6).symm.trans e;refine Runs.cond (fun k7=>?_) (fun k7=>?_)
    ·replace e:=(condT k7).symm.trans e;cases e
    ·replace e:=(condF k7).symm.trans e;cases e;cases good;exact Runs.ret ⟨rfl,g0⟩
  ·replace e:=(condF k5).symm.trans e;obtain⟨c6_0,q6_0,e⟩:=Option.bind_eq_some_iff.1 e;refine Runs.step (ky1 a3  c6_0.down) ?_;refine Runs.step (seen (kc _ _)) ?_;refine Runs.cond (fun k7=>?_) (fun k7=>?_)
   ·replace e:=(condT k7).symm.trans e;cases e
   ·replace e:=(condF k7).symm.trans e;refine Runs.cond (fun k8=>?_) (fun k8=>?_)
    ·replace e:=(condT k8).symm.trans e;cases e
    ·replace e:=(condF k8).symm.trans e;refine Runs.cond (fun k9=>?_) (fun k9=>?_)
     ·replace e:=(condT k9).symm.trans e;cases e
     ·replace e:=(condF k9).symm.trans e;refine Runs.cond (fun k10=>?_) (fun k10=>?_)
      ·replace e:=(condT k10).symm.trans e;cases e
      ·replace e:=(condF k10).symm.trans e;refine Runs.cond (fun k11=>?_) (fun k11=>?_)
       ·replace e:=(condT k11).symm.trans e;cases e
       ·replace e:=(condF k11).symm.trans e;cases e;exact good g0
theorem kbdm{r:kbx}{o:kck⊕kbx}{a1 a2 a3 a4 a5 a6 a7 a8 a9:Int}(e:kf7 a1 a2 a3 a4 a5 a6 a7 a8 a9=some o)(good:GoodS (kfn r) r o):kfn r (.p17 a1 a2 a3 a4 a5 a6 a7 a8 a9):=by
 intro h0 h g0;rw[k56];unfold kf7 at e;refine Runs.cond (fun k10=>?_) (fun k10=>?_)
 ·replace e:=(condT k10).symm.trans e;refine Runs.cond (fun k11=>?_) (fun k11=>?_)
  ·replace e:=(condT k11).symm.trans e;refine Runs.cond (fun k12=>?_) (fun k12=>?_)
   ·replace e:=(condT k12).symm.trans e;cases e
   ·replace e:=(condF k12).symm.trans e;cases e;exact good g0
  ·replace e:=(condF k11).symm.trans e;cases e;exact good g0
 ·replace e:=(condF k10).symm.trans e;refine Runs.cond (fun k11=>?_) (fun k11=>?_)
  ·replace e:=(condT k11).symm.trans e;refine Runs.cond (fun k12=>?_) (fun k12=>?_)
   ·replace e:=(condT k12).symm.trans e;refine Runs.cond (fun k13=>?_) (fun k13=>?_)
    ·replace e:=(condT k13).symm.trans e;cases e
    ·replace e:=(condF k13).symm.trans e;cases e;exact good g0
   ·replace e:=(condF k12).symm.trans e;cases e;exact good g0
  ·replace e:=(condF k11).symm.trans e;refine Runs.cond (fun k12=>?_) (fun k12=>?_)
   ·replace e:=(condT k12).symm.trans e;cases e
   ·replace e:=(condF k12).symm.trans e;cases e;exact good g0
theorem k7f{r:kbx}{o:kck⊕kbx}{a1 a2 a3 a4 a5 a6 a7 a8 a9:Int}(e:kf3 a1 a2 a3 a4 a5 a6 a7 a8 a9=some o)(good:GoodS (kfn r) r o):kfn r (.p24 a1 a2 a3 a4 a5 a6 a7 a8 a9):=by
 intro h0 h g0;rw[k8f];unfold kf3 at e;refine Runs.cond (fun k10=>?_) (fun k10=>?_)
 ·replace e:=(condT k10).symm.trans e;refine Runs.cond (fun k11=>?_) (fun k11=>?_)
  ·replace e:=(condT k11).symm.trans e;refine Runs.cond (fun k12=>?_) (fun k12=>?_)
   ·replace e:=(condT k12).symm.trans e;cases e
   ·replace e:=(condF k12).symm.trans e;cases e;cases good;exact Runs.ret ⟨rfl,g0⟩
  ·replace e:=(condF k11).symm.trans e;cases e;exact good g0
 ·replace e:=(condF k10).symm.trans e;refine Runs.cond (fun k11=>?_) (fun k11=>?_)
  ·replace e:=(condT k11).symm.trans e;refine Runs.cond (fun k12=>?_) (fun k12=>?_)
   ·replace e:=(condT k12).symm.trans e;refine Runs.cond (fun k13=>?_) (fun k13=>?_)
    ·replace e:=(condT k13).symm.trans e;cases e
    ·replace e:=(condF k13).symm.trans e;cases e;cases good;exact Runs.ret ⟨rfl,g0⟩
   ·replace e:=(condF k12).symm.trans e;cases e;exact good g0
  ·replace e:=(condF k11).symm.trans e;refine Runs.cond (fun k12=>?_) (fun k12=>?_)
   ·replace e:=(condT k12).symm.trans e;cases e
   ·replace e:=(condF k12).symm.trans e;cases e;cases good;exact Runs.ret ⟨rfl,g0⟩
theorem kbfc{s:kck}{r:kbx}(it:Iter kff s r):kfn r s:=Iter.ind (fun s o e good=>by
 cases s with
 | fn a1 a2 a3=>exact @k6d _ _ a1 a2 a3 e good
 | p3 a1 a2 a3=>exact @kbgc _ _ a1 a2 a3 e good
 | p17 a1 a2 a3 a4 a5 a6 a7 a8 a9=>exact @kbdm _ _ a1 a2 a3 a4 a5 a6 a7 a8 a9 e good
 | p24 a1 a2 a3 a4 a5 a6 a7 a8 a9=>exact @k7f _ _ a1 a2 a3 a4 a5 a6 a7 a8 a9 e good
 ) it
end Go.Ab

/- squeezed -/
set_option maxRecDepth 10000
namespace Go.Ab
open Go.Proofs Go.Num
theorem kvj(a c:Nat):Int.tdiv (a:Int) (c:Int)=((a/c:Nat):Int):=rfl
theorem k9k(a c:Nat):Int.tmod (a:Int) (c:Int)=((a%c:Nat):Int):=rfl
def st24(a1 a2 a3 a4 a5 a6 a7 q:Int):kck :=
 .p24 a1 a2 a3 a4 a7 q (IntKind.wrap .u64 ((IntKind.wrap .u64 ((IntKind.wrap .u64 ((IntKind.wrap .u64 (a5*4294967296))+a6))-(IntKind.wrap .u64 (q*a1))))-(IntKind.wrap .u64 ((IntKind.wrap .u64 (Int.tdiv (IntKind.wrap .u64 ((IntKind.wrap .u64 ((IntKind.wrap .u64 (a5*4294967296))+a6))-(IntKind.wrap .u64 (q*a1)))) a3))*a3)))) (IntKind.wrap .u64 ((IntKind.wrap .u64 ((IntKind.wrap .u64 (a5*4294967296))+a6))-(IntKind.wrap .u64 (q*a1)))) (IntKind.wrap .u64 (Int.tdiv (IntKind.wrap .u64 ((IntKind.wrap .u64 ((IntKind.wrap .u64 (a5*4294967296))+a6))-(IntKind.wrap .u64 (q*a1)))) a3))
theorem un_eq{u32 u1 q v:Nat}(hq:q=(u32*4294967296+u1)/v)(hv0:0<v)(hv:v<18446744073709551616):IntKind.wrap .u64 ((IntKind.wrap .u64 ((IntKind.wrap .u64 ((u32:Int)*4294967296))+(u1:Int)))-(IntKind.wrap .u64 ((q:Int)*(v:Int))))=(((u32*4294967296+u1)%v:Nat):Int):=by
 have h1:=Nat.div_add_mod (u32*4294967296+u1) v;have h2:=Nat.mod_lt (u32*4294967296+u1) hv0;rw[← hq,Nat.mul_comm]at h1;rw[wrapU,wrapU,wrapU,wrapU,← Int.natCast_mul];generalize q*v=t at *
 generalize (u32*4294967296+u1)%v=m at *
 omega
theorem k6m{s v v1 v0 u32 u1 u0 q:Nat}(hq:q=(u32*4294967296+u1)/v)(hv0:0<v)(hv:v<18446744073709551616)(h1:0<v1) :
  st24 v s v1 v0 u32 u1 u0 q=.p24 v s v1 v0 u0 q (((u32*4294967296+u1)%v%v1:Nat):Int) (((u32*4294967296+u1)%v:Nat):Int) (((u32*4294967296+u1)%v/v1:Nat):Int):=by
 unfold st24;rw[un_eq hq hv0 hv,kvj];have h2:=Nat.mod_lt (u32*4294967296+u1) hv0;generalize (u32*4294967296+u1)%v=m at *
 have h3:=Nat.div_le_self m v1;rw[kci (n:=m/v1) (by omega),← Int.natCast_mul];have h4:=Nat.div_add_mod m v1;rw[Nat.mul_comm]at h4;have h5:=Nat.mod_lt m h1;rw[wrapU,wrapU]
 have e:((m:Int)-((m/v1*v1:Nat):Int)%18446744073709551616)%18446744073709551616=((m%v1:Nat):Int):=by
  generalize m/v1*v1=t at *
  generalize m%v1=z at *
  omega
 rw[e]
theorem div17{s v v1 v0 u32 u1 u0:Nat}{res:kbx}(hv:v=v1*4294967296+v0)(h1:0<v1)(h1':v1<4294967296)(h0:v0<4294967296)(hu:u32<v)(hu1:u1<4294967296)
  (K:Iter kff (st24 v s v1 v0 u32 u1 u0 (((u32*4294967296+u1)/v:Nat):Int)) res) :
  ∀(q r:Nat),q*v1+r=u32→(u32*4294967296+u1)/v≤q→r<4294967296→q<8589934592→Iter kff (.p17 v s v1 v0 u32 u1 u0 q r) res
 | q,r,e,hge,hr,hq=>by
  have hv':v<18446744073709551616:=by omega
  have less:(4294967296≤q∨4294967296*r+u1<q*v0)→∃o,Iter kff o res∧
    cond (decide ((IntKind.wrap .u64 ((r:Int)+(v1:Int)))≥4294967296)) (cond (decide ((v1:Int)=0)) none (some (Sum.inl (β:=kbx) (st24 v s v1 v0 u32 u1 u0 (IntKind.wrap .u64 ((q:Int)-1)))))) (some (.inl (.p17 v s v1 v0 u32 u1 u0 (IntKind.wrap .u64 ((q:Int)-1)) (IntKind.wrap .u64 ((r:Int)+(v1:Int))))))=some (.inl o):=by
   intro t;obtain⟨k1,k2⟩:=kn_hi hv hu hu1 rfl e hge t;obtain⟨p,rfl⟩:∃p,q=p+1:=⟨q-1,by omega⟩;rw[Nat.add_sub_cancel]at k1
   have e':p*v1+(r+v1)=u32:=by
    rw[Nat.add_mul,Nat.one_mul]at e;omega
   have w1:IntKind.wrap .u64 (((p+1:Nat):Int)-1)=(p:Int):=by rw[wrapU];omega
   have w2:IntKind.wrap .u64 ((r:Int)+(v1:Int))=((r+v1:Nat):Int):=by rw[wrapU];omega
   rw[w1,w2];by_cases ho:4294967296≤r+v1
   ·have:=kn_lo hv hu rfl e' k1 (kn_out hv h0 hu e' ho);rw[this]at K;refine⟨_,K,?_⟩;rw[condT (by rw[decide_eq_true_eq];omega),condF (by rw[decide_eq_false_iff_not];omega)]
   ·refine⟨_,div17 hv h1 h1' h0 hu hu1 K p (r+v1) e' k1 (by omega) (by omega),?_⟩;rw[condF (by rw[decide_eq_false_iff_not];omega)]
  by_cases c1:4294967296≤q
  ·obtain⟨o,k1,k2⟩:=less (.inl c1);refine .next ?_ k1;show kf7 _ _ _ _ _ _ _ _ _=_;unfold kf7;rw[condT (by rw[decide_eq_true_eq];omega)];exact k2
  ·have m1:q*v0≤4294967295*4294967295:=Nat.mul_le_mul (by omega) (by omega)
   have w3:IntKind.wrap .u64 ((q:Int)*(v0:Int))=((q*v0:Nat):Int):=by
    rw[← Int.natCast_mul];exact kci (by omega)
   have w4:IntKind.wrap .u64 ((IntKind.wrap .u64 (4294967296*(r:Int)))+(u1:Int))=((4294967296*r+u1:Nat):Int):=by
    rw[wrapU,wrapU];omega
   by_cases c2:4294967296*r+u1<q*v0
   ·obtain⟨o,k1,k2⟩:=less (.inr c2);refine .next ?_ k1;show kf7 _ _ _ _ _ _ _ _ _=_;unfold kf7;rw[condF (by rw[decide_eq_false_iff_not];omega),w3,w4,condT (by rw[decide_eq_true_eq];omega)];exact k2
   ·have:=kn_lo hv hu rfl e hge (by omega);rw[this]at K;refine .next ?_ K;show kf7 _ _ _ _ _ _ _ _ _=_;unfold kf7;rw[condF (by rw[decide_eq_false_iff_not];omega),w3,w4,condF (by rw[decide_eq_false_iff_not];omega),condF (by rw[decide_eq_false_iff_not];omega)];rfl
termination_by q=>q
def fin24(a1 a2 a5 a6 a8 q:Int):Option (kck⊕kbx) :=
 cond (decide (a2<0)) none (some (.inr (IntKind.wrap .u64 ((IntKind.wrap .u64 (a6*4294967296))+q),ishr .u64 (IntKind.wrap .u64 ((IntKind.wrap .u64 ((IntKind.wrap .u64 (a8*4294967296))+a5))-(IntKind.wrap .u64 (q*a1)))) a2)))
theorem div24{s v v1 v0 u32 u1 q1:Nat}{res:kbx}(hv:v=v1*4294967296+v0)(h1:0<v1)(h1':v1<4294967296)(h0:v0<4294967296)(hu:u32<v)(hu1:u1<4294967296)
  (K:fin24 v s u1 q1 u32 (((u32*4294967296+u1)/v:Nat):Int)=some (.inr res)) :
  ∀(q r:Nat),q*v1+r=u32→(u32*4294967296+u1)/v≤q→r<4294967296→q<8589934592→Iter kff (.p24 v s v1 v0 u1 q1 r u32 q) res
 | q,r,e,hge,hr,hq=>by
  have hv':v<18446744073709551616:=by omega
  have less:(4294967296≤q∨4294967296*r+u1<q*v0)→∃o,(o=Sum.inr res∨∃st,o=.inl st∧Iter kff st res)∧
    cond (decide ((IntKind.wrap .u64 ((r:Int)+(v1:Int)))≥4294967296)) (fin24 v s u1 q1 u32 (IntKind.wrap .u64 ((q:Int)-1))) (some (.inl (.p24 v s v1 v0 u1 q1 (IntKind.wrap .u64 ((r:Int)+(v1:Int))) u32 (IntKind.wrap .u64 ((q:Int)-1)))))=some o:=by
   intro t;obtain⟨k1,k2⟩:=kn_hi hv hu hu1 rfl e hge t;obtain⟨p,rfl⟩:∃p,q=p+1:=⟨q-1,by omega⟩;rw[Nat.add_sub_cancel]at k1
   have e':p*v1+(r+v1)=u32:=by
    rw[Nat.add_mul,Nat.one_mul]at e;omega
   have w1:IntKind.wrap .u64 (((p+1:Nat):Int)-1)=(p:Int):=by rw[wrapU];omega
   have w2:IntKind.wrap .u64 ((r:Int)+(v1:Int))=((r+v1:Nat):Int):=by rw[wrapU];omega
   rw[w1,w2];by_cases ho:4294967296≤r+v1
   ·have:=kn_lo hv hu rfl e' k1 (kn_out hv h0 hu e' ho);rw[this]at K;refine⟨.inr res,.inl rfl,?_⟩;rw[condT (by rw[decide_eq_true_eq];omega)];exact K
   ·refine⟨_,.inr ⟨_,rfl,div24 hv h1 h1' h0 hu hu1 K p (r+v1) e' k1 (by omega) (by omega)⟩,?_⟩;rw[condF (by rw[decide_eq_false_iff_not];omega)]
  have go_on:∀{st:kck}{o:kck⊕kbx},(o=Sum.inr res∨∃st,o=.inl st∧Iter kff st res)→kff st=some o→Iter kff st res:=by
   intro st o h e;rcases h with rfl | ⟨st',rfl,it⟩
   ·exact .done e
   ·exact .next e it
  by_cases c1:4294967296≤q
  ·obtain⟨o,k1,k2⟩:=less (.inl c1);refine go_on k1 ?_;show kf3 _ _ _ _ _ _ _ _ _=_;unfold kf3;rw[condT (by rw[decide_eq_true_eq];omega)];exact k2
  ·have m1:q*v0≤4294967295*4294967295:=Nat.mul_le_mul (by omega) (by omega)
   have w3:IntKind.wrap .u64 ((q:Int)*(v0:Int))=((q*v0:Nat):Int):=by
    rw[← Int.natCast_mul];exact kci (by omega)
   have w4:IntKind.wrap .u64 ((IntKind.wrap .u64 (4294967296*(r:Int)))+(u1:Int))=((4294967296*r+u1:Nat):Int):=by
    rw[wrapU,wrapU];omega
   by_cases c2:4294967296*r+u1<q*v0
   ·obtain⟨o,k1,k2⟩:=less (.inr c2);refine go_on k1 ?_;show kf3 _ _ _ _ _ _ _ _ _=_;unfold kf3;rw[condF (by rw[decide_eq_false_iff_not];omega),w3,w4,condT (by rw[decide_eq_true_eq];omega)];exact k2
   ·have:=kn_lo hv hu rfl e hge (by omega);rw[this]at K;refine .done ?_;show kf3 _ _ _ _ _ _ _ _ _=_;unfold kf3;rw[condF (by rw[decide_eq_false_iff_not];omega),w3,w4,condF (by rw[decide_eq_false_iff_not];omega)];exact K
termination_by q=>q
end Go.Ab

/- squeezed -/
set_option maxRecDepth 10000
namespace Go.Ab
open Go.Proofs Go.Num
theorem k5q{hi lo y s:Nat}(hy:y*2^s<18446744073709551616)(hlo:lo<18446744073709551616)(hhi:hi<y)(hs:s≤63) :
  hi*2^s+lo/2^(64-s)<y*2^s∧(hi*2^s+lo/2^(64-s))*18446744073709551616+lo*2^s%18446744073709551616=(hi*18446744073709551616+lo)*2^s∧lo/2^(64-s)<2^s∧hi*2^s<18446744073709551616:=by
 have p:0<2^s:=Nat.pow_pos (by decide);have e:2^(64-s)*2^s=18446744073709551616:=by rw[← Nat.pow_add,show 64-s+s=64 from by omega]
 have k1:lo/2^(64-s)<2^s:=by
  rw[Nat.div_lt_iff_lt_mul (Nat.pow_pos (by decide)),Nat.mul_comm,e];exact hlo
 have k2:(hi+1)*2^s≤y*2^s:=Nat.mul_le_mul_right _ hhi;rw[Nat.add_mul,Nat.one_mul]at k2;refine⟨by omega,?_,k1,by omega⟩
 have k3:lo*2^s/18446744073709551616=lo/2^(64-s):=by
  rw[← e,Nat.mul_div_mul_right _ _ p]
 have k4:=Nat.div_add_mod (lo*2^s) 18446744073709551616;rw[k3]at k4;have k5:hi*18446744073709551616*2^s=hi*2^s*18446744073709551616:=Nat.mul_right_comm _ _ _;rw[Nat.add_mul,Nat.add_mul,k5];omega
theorem kbdu{z1 z2:Nat}(h:z1*4294967296+z2<18446744073709551616):IntKind.wrap .u64 ((IntKind.wrap .u64 ((z1:Int)*4294967296))+(z2:Int))=((z1*4294967296+z2:Nat):Int):=by
 rw[wrapU,wrapU];omega
theorem kbkw{hi lo y:Nat}(hy:y<18446744073709551616)(hlo:lo<18446744073709551616)(hhi:hi<y) :
  Iter kff (.fn hi lo y) ((((hi*18446744073709551616+lo)/y:Nat):Int),(((hi*18446744073709551616+lo)%y:Nat):Int)):=by
 refine .next (s':=.p3 hi lo y) ?_ ?_
 ·show km8 _ _ _=_;unfold km8;rw[condF (by rw[decide_eq_false_iff_not];omega)]
 by_cases h0:hi=0
 ·subst h0;refine .done ?_;show kim _ _ _=_;unfold kim;have hd:=Nat.div_le_self lo y;rw[condF (by rw[decide_eq_false_iff_not];omega),condT (by rfl),condF (by rw[decide_eq_false_iff_not];omega),condF (by rw[decide_eq_false_iff_not];omega),kvj,k9k,kci (by omega),Nat.zero_mul,Nat.zero_add]
 obtain⟨hs,hb1,hb2⟩:=kw5 hy (by omega);have hs64:64-bl y≤64:=by omega
 obtain⟨p1,p2,p3,p4⟩:=k5q hb2 hlo hhi hs;have ws:IntKind.wrap .u64 ((64-bl (Int.toNat (y:Int)):Nat):Int)=((64-bl y:Nat):Int):=by rw[Int.toNat_natCast];exact kci (by omega)
 have wt:IntKind.wrap .u64 (64-((64-bl y:Nat):Int))=((64-(64-bl y):Nat):Int):=by rw[wrapU];omega
 generalize hsd:64-bl y=s at *
 have ey:ishl .u64 (y:Int) (s:Int)=((y*2^s:Nat):Int):=by rw[km4 _ _ hs64,Nat.mod_eq_of_lt hb2]
 have eh:ishl .u64 (hi:Int) (s:Int)=((hi*2^s:Nat):Int):=by rw[km4 _ _ hs64,Nat.mod_eq_of_lt p4]
 have el:ishl .u64 (lo:Int) (s:Int)=((lo*2^s%18446744073709551616:Nat):Int):=km4 _ _ hs64;have er:ishr .u64 (lo:Int) ((64-s:Nat):Int)=((lo/2^(64-s):Nat):Int):=by rw[kb3,Nat.min_eq_left (by omega)]
 have eo:=krs p4 p3 hs64;generalize hu32:hi*2^s+lo/2^(64-s)=u32 at *
 have hl10:=Nat.mod_lt (lo*2^s) (show 0<18446744073709551616 by omega);generalize hl:lo*2^s%18446744073709551616=l10 at *
 generalize hv:y*2^s=v at *
 have e32:∀x:Nat,ishr .u64 (x:Int) 32=((x/4294967296:Nat):Int):=fun x=>kb3 x 32;have tot:u32*18446744073709551616+l10=(u32*4294967296+l10/4294967296)*4294967296+l10%4294967296:=by omega
 have hvv:v=v/4294967296*4294967296+v%4294967296:=by omega
 have hv0:0<v:=by omega
 have hv1:0<v/4294967296:=by omega
 have hv1':v/4294967296<4294967296:=by omega
 have hm0:v%4294967296<4294967296:=by omega
 have hu1:l10/4294967296<4294967296:=by omega
 have hu0:l10%4294967296<4294967296:=by omega
 have first:u32/(v/4294967296)<8589934592:=by
  rw[Nat.div_lt_iff_lt_mul hv1];omega
 have hm:=Nat.mod_lt (u32*4294967296+l10/4294967296) hv0
 have first2:(u32*4294967296+l10/4294967296)%v/(v/4294967296)<8589934592:=by
  rw[Nat.div_lt_iff_lt_mul hv1];omega
 have td:=kbi2 (w:=u32*4294967296+l10/4294967296) hv0 hu0;rw[← tot,p2]at td;have p:=Nat.pow_pos (a:=2) (n:=s) (by decide);rw[← hv,Nat.mul_div_mul_right _ _ p,Nat.mul_mod_mul_right,hv]at td;refine .next (s':=.p17 v s (v/4294967296:Nat) (v%4294967296:Nat) u32 (l10/4294967296:Nat) (l10%4294967296:Nat) (u32/(v/4294967296):Nat) (u32%(v/4294967296):Nat)) ?_ ?_
 ·show kim _ _ _=_;unfold kim
  rw[condF (by rw[decide_eq_false_iff_not];omega),condF (by rw[decide_eq_false_iff_not];omega),ki (by omega),Option.bind_some,ws,wt,ey,eh,el,er,eo,e32,e32,kmv (show v<_ by omega),kmv (show l10<_ by omega),
   condF (by rw[decide_eq_false_iff_not];omega),condF (by rw[decide_eq_false_iff_not];omega),condF (by rw[decide_eq_false_iff_not];omega),condF (by rw[decide_eq_false_iff_not];omega),condF (by rw[decide_eq_false_iff_not];omega),kvj]
  have d1:=Nat.div_add_mod u32 (v/4294967296);have d2:=Nat.div_le_self u32 (v/4294967296);rw[Nat.mul_comm]at d1;rw[kci (n:=u32/(v/4294967296)) (by omega),← Int.natCast_mul];generalize u32/(v/4294967296)*(v/4294967296)=z at *
  generalize u32%(v/4294967296)=z2 at *
  rw[kci (n:=z) (by omega),show(u32:Int)-(z:Int)=(z2:Int)from by omega,kci (by omega)]
 ·refine div17 hvv hv1 hv1' hm0 p1 hu1 ?_ _ _ (by rw[Nat.mul_comm];exact Nat.div_add_mod _ _) (kwb hv1 hvv p1 hu1 rfl (by omega)) (Nat.lt_trans (Nat.mod_lt _ hv1) hv1') first
  rw[k6m rfl hv0 (by omega) hv1];refine div24 hvv hv1 hv1' hm0 hm hu0 ?_ _ _ (by rw[Nat.mul_comm];exact Nat.div_add_mod _ _) (kwb hv1 hvv hm hu0 rfl (by omega)) (Nat.lt_trans (Nat.mod_lt _ hv1) hv1') first2;unfold fin24;rw[condF (by rw[decide_eq_false_iff_not];omega),un_eq rfl hv0 (by omega),← td.2,kb3,Nat.min_eq_left hs64,Nat.mul_div_cancel _ p]
  have hq:(hi*18446744073709551616+lo)/y<18446744073709551616:=by
   rw[Nat.div_lt_iff_lt_mul (by omega)];have:(hi+1)*18446744073709551616≤y*18446744073709551616:=Nat.mul_le_mul_right _ hhi;omega
  have w:IntKind.wrap .u64 ((IntKind.wrap .u64 ((((u32*4294967296+l10/4294967296)/v:Nat):Int)*4294967296))+((((u32*4294967296+l10/4294967296)%v*4294967296+l10%4294967296)/v:Nat):Int))=(((hi*18446744073709551616+lo)/y:Nat):Int):=by
   rw[td.1]at hq⊢;exact kbdu hq
  rw[w]
theorem kbfh{hi lo y:Nat}(hy:y<18446744073709551616)(hlo:lo<18446744073709551616)(hhi:hi<y){h:AH}:∃h',go (.fn F.kbu [.int .u64 (hi:Int),.int .u64 (lo:Int),.int .u64 (y:Int)]) h=some (.tup [.int .u64 (((hi*18446744073709551616+lo)/y:Nat):Int),.int .u64 (((hi*18446744073709551616+lo)%y:Nat):Int)],h')∧Grow h h':=by
 obtain⟨_,h',e,rfl,g⟩:=kbfc (kbkw hy hlo hhi) (h:=h);exact⟨h',e,g⟩
end Go.Ab

/- squeezed -/
set_option maxRecDepth 10000
namespace Go.Ab
open Go.Proofs Go.Num
def div64P(h l d:Int):Option (Int×Int):=if 0≤l∧l<18446744073709551616∧0≤h∧h<d∧d<18446744073709551616 then some ((h*18446744073709551616+l)/d,(h*18446744073709551616+l)%d)else none
theorem kyy{hi lo y:Nat}(hy:y<18446744073709551616)(hlo:lo<18446744073709551616)(hhi:hi<y):div64P (hi:Int) (lo:Int) (y:Int)=some ((((hi*18446744073709551616+lo)/y:Nat):Int),(((hi*18446744073709551616+lo)%y:Nat):Int)):=by
 unfold div64P;rw[if_pos (by omega)];rfl
theorem kze{a b c:Int}{p:Int×Int}{h:AH}(q:div64P a b c=some p):∃h',go (.fn F.kbu [.int .u64 a,.int .u64 b,.int .u64 c]) h=some (.tup [.int .u64 p.1,.int .u64 p.2],h')∧Grow h h':=by
 unfold div64P at q;split at q
 ·rename_i hc;cases q;obtain⟨hi,rfl⟩:∃x:Nat,a=(x:Int):=⟨a.toNat,by omega⟩;obtain⟨lo,rfl⟩:∃x:Nat,b=(x:Int):=⟨b.toNat,by omega⟩;obtain⟨y,rfl⟩:∃x:Nat,c=(x:Int):=⟨c.toNat,by omega⟩;exact kbfh (by omega) (by omega) (by omega)
 ·cases q
end Go.Ab

/- squeezed -/
set_option maxRecDepth 10000
namespace Go.Ab
open Go.Proofs Go.Num
inductive kgt
 | fn (x1:List Nat) (a2:Int)
 | p4 (x1:List Nat) (a2:Int) (x3:List Nat) (a4:Int) (a5:Int)
abbrev ke0:=List Nat×Int
noncomputable def kmg(x1:List Nat)(a2:Int):Option (kgt⊕ke0) :=
 (mkI (List.length x1:Int) (List.length x1:Int)).bind fun m3=>some (.inl (.p4 x1 a2 (List.replicate m3 0) 0 (IntKind.wrap .i64 ((List.length x1:Int)-1))))
noncomputable def khr(x1:List Nat)(a2:Int)(x3:List Nat)(a4 a5:Int):Option (kgt⊕ke0) :=
 cond (decide (a5≥0)) ((atI x1 a5).bind fun y7=>(div64P a4 ((y7:Int)) a2).bind fun p8=>(inI (List.length x3) a5).bind fun j9=>(u64P (p8.1)).bind fun w10=>some (.inl (.p4 x1 a2 (List.set x3 j9 w10) (p8.2) (IntKind.wrap .i64 (a5-1))))) (some (.inr (digs B (num B x3),a4)))
noncomputable def kr3:kgt→Option (kgt⊕ke0)
 | .fn x1 a2=>kmg x1 a2
 | .p4 x1 a2 x3 a4 a5=>khr x1 a2 x3 a4 a5
@[reducible] def k2o(h0:AH)(r:ke0)(v:AV)(h':AH):Prop:=∃s1:Sl,v=.tup [s1.v,.int .u64 r.2]∧Nats h' s1 r.1∧Grow h0 h'∧Own h0 s1
def kkv(r:ke0):kgt→Prop
 | .fn x1 a2=>∀{h:AH}{a1:Sl},Nats h a1 x1→Runs (go (.fn F.kfi [a1.v,.int .u64 a2]) h) (k2o h r)
 | .p4 x1 a2 x3 a4 a5=>∀{h0 h:AH}{a1:Sl}{a3:Sl}{i3:Nat},Grow h0 h→Nats h a1 x1→Vec h a3 i3 x3→h0.blks.size≤i3→Av a1 i3 x1→Runs (go (.pt F.kfi Td.knz [(0,a1.v),(1,.int .u64 a2),(6,a3.v),(7,.int .u64 a4),(8,.int .i64 a5)]) h) (k2o h0 r)
theorem kbbs{r:ke0}{o:kgt⊕ke0}{x1:List Nat}{a2:Int}(e:kmg x1 a2=some o)(good:GoodS (kkv r) r o):kkv r (.fn x1 a2):=by
 intro h a1 n1;rw[kbau];unfold kmg at e;rw[n1.len];obtain⟨m3,q3,e⟩:=Option.bind_eq_some_iff.1 e;refine Runs.mk q3 kc0 fun s3 H3 v3 g3=>?_;cases e;exact good g3 (n1.grow g3) v3 (Nat.le_refl _) (Av.of_base n1 (Nat.le_refl _))
theorem kbbl{r:ke0}{o:kgt⊕ke0}{x1:List Nat}{a2:Int}{x3:List Nat}{a4 a5:Int}(e:khr x1 a2 x3 a4 a5=some o)(good:GoodS (kkv r) r o):kkv r (.p4 x1 a2 x3 a4 a5):=by
 intro h0 h a1 a3 i3 g0 n1 v3 hi3 av1_3;rw[k5y];unfold khr at e;rw[n1.len];rw[v3.nats.len];refine Runs.cond (fun k6=>?_) (fun k6=>?_)
 ·replace e:=(condT k6).symm.trans e;obtain⟨y7,q7,e⟩:=Option.bind_eq_some_iff.1 e;obtain⟨r7,j7,l7⟩:=n1.atI q7;refine Runs.step j7 ?_;refine Runs.step (rdc l7 (kc _ _)) ?_;obtain⟨p8,q8,e⟩:=Option.bind_eq_some_iff.1 e;obtain⟨H8,e8,g8⟩:=kze q8;refine Runs.step e8 ?_;refine Runs.step rfl ?_;refine Runs.step (seen (kc _ _)) ?_;refine Runs.step (seen (kc _ _)) ?_;obtain⟨j9,q9,e⟩:=Option.bind_eq_some_iff.1 e;refine Runs.step ((v3.grow g8).idx rfl q9) ?_;obtain⟨w10,z10,e⟩:=Option.bind_eq_some_iff.1 e;refine Runs.vput (v3.grow g8) rfl q9 z10 fun H10 v10 u10=>?_;have n1_10:=(n1.grow g8).upda av1_3 u10;cases e;exact good ((g0.trans g8).updr hi3 u10) n1_10 v10 hi3 av1_3
 ·replace e:=(condF k6).symm.trans e;obtain⟨s7,e7,n7,o7⟩:=kdp v3.nats;refine Runs.step e7 ?_;refine Runs.step (seen (asSl_v _)) ?_;cases e;cases good;exact Runs.ret ⟨s7,rfl,n7,g0,((o7 _ (v3.own hi3)).of_le (Grow.refl _))⟩
theorem k3p{s:kgt}{r:ke0}(it:Iter kr3 s r):kkv r s:=Iter.ind (fun s o e good=>by
 cases s with
 | fn x1 a2=>exact @kbbs _ _ x1 a2 e good
 | p4 x1 a2 x3 a4 a5=>exact @kbbl _ _ x1 a2 x3 a4 a5 e good
 ) it
inductive kgy
 | fn (x1:List Nat) (a2:Int)
 | p3 (a1:Int) (x2:List Nat) (x3:List Nat) (a4:Int) (a5:Int)
abbrev kes:=List Nat
noncomputable def klb(x1:List Nat)(a2:Int):Option (kgy⊕kes) :=
 (mkI (IntKind.wrap .i64 ((List.length x1:Int)+1)) (IntKind.wrap .i64 ((List.length x1:Int)+1))).bind fun m3=>some (.inl (.p3 a2 (List.replicate m3 0) x1 (List.length x1:Int) 0))
noncomputable def kf6(a1:Int)(x2 x3:List Nat)(a4 a5:Int):Option (kgy⊕kes) :=
 cond (decide (a5<a4)) ((atI x3 a5).bind fun y7=>(inI (List.length x2) a5).bind fun j8=>cond (decide (a1<0)) (none) ((inI (List.length x2) a5).bind fun j10=>(u64P (ior .u64 (((List.getD x2 j8 0:Nat):Int)) (ishl .u64 ((y7:Int)) a1))).bind fun w11=>cond (decide (a1>0)) (cond (decide ((IntKind.wrap .u64 (64-a1))<0)) (none) ((inI (List.length x2) (IntKind.wrap .i64 (a5+1))).bind fun j14=>(u64P (ishr .u64 ((y7:Int)) (IntKind.wrap .u64 (64-a1)))).bind fun w15=>some (.inl (.p3 a1 (List.set (List.set x2 j10 w11) j14 w15) x3 a4 (IntKind.wrap .i64 (a5+1)))))) (some (.inl (.p3 a1 (List.set x2 j10 w11) x3 a4 (IntKind.wrap .i64 (a5+1))))))) (some (.inr x2))
noncomputable def kj9:kgy→Option (kgy⊕kes)
 | .fn x1 a2=>klb x1 a2
 | .p3 a1 x2 x3 a4 a5=>kf6 a1 x2 x3 a4 a5
@[reducible] def ks3(h0:AH)(r:kes)(v:AV)(h':AH):Prop:=∃s1:Sl,∃j1:Nat,v=s1.v∧Vec h' s1 j1 r∧Grow h0 h'∧h0.blks.size≤j1
def kmq(r:kes):kgy→Prop
 | .fn x1 a2=>∀{h:AH}{a1:Sl},Nats h a1 x1→Runs (go (.fn F.kez [a1.v,.int .u64 a2]) h) (ks3 h r)
 | .p3 a1 x2 x3 a4 a5=>∀{h0 h:AH}{a2:Sl}{a3:Sl}{i2:Nat},Grow h0 h→Vec h a2 i2 x2→Nats h a3 x3→h0.blks.size≤i2→Av a3 i2 x3→Runs (go (.pt F.kez Td.kk0 [(1,.int .u64 a1),(5,a2.v),(12,a3.v),(13,.int .i64 a4),(14,.int .i64 a5)]) h) (ks3 h0 r)
theorem kbfy{r:kes}{o:kgy⊕kes}{x1:List Nat}{a2:Int}(e:klb x1 a2=some o)(good:GoodS (kmq r) r o):kmq r (.fn x1 a2):=by
 intro h a1 n1;rw[k43];unfold klb at e;rw[n1.len];obtain⟨m3,q3,e⟩:=Option.bind_eq_some_iff.1 e;refine Runs.mk q3 kc0 fun s3 H3 v3 g3=>?_;cases e;exact good g3 v3 (n1.grow g3) (Nat.le_refl _) (Av.of_base n1 (Nat.le_refl _))
theorem k69{r:kes}{o:kgy⊕kes}{a1:Int}{x2 x3:List Nat}{a4 a5:Int}(e:kf6 a1 x2 x3 a4 a5=some o)(good:GoodS (kmq r) r o):kmq r (.p3 a1 x2 x3 a4 a5):=by
 intro h0 h a2 a3 i2 g0 v2 n3 hi2 av3_2;rw[kbdj];unfold kf6 at e;rw[v2.nats.len];rw[n3.len];refine Runs.cond (fun k6=>?_) (fun k6=>?_)
 ·replace e:=(condT k6).symm.trans e;obtain⟨y7,q7,e⟩:=Option.bind_eq_some_iff.1 e;obtain⟨r7,j7,l7⟩:=n3.atI q7;refine Runs.step j7 ?_;refine Runs.step (rdc l7 (kc _ _)) ?_;obtain⟨j8,q8,e⟩:=Option.bind_eq_some_iff.1 e;refine Runs.step (v2.idx rfl q8) ?_;refine Runs.step (v2.rd rfl q8 (kc _ _)) ?_;refine Runs.cond (fun k9=>?_) (fun k9=>?_)
  ·replace e:=(condT k9).symm.trans e;cases e
  ·replace e:=(condF k9).symm.trans e;obtain⟨j10,q10,e⟩:=Option.bind_eq_some_iff.1 e;refine Runs.step (v2.idx rfl q10) ?_;obtain⟨w11,z11,e⟩:=Option.bind_eq_some_iff.1 e;refine Runs.vput v2 rfl q10 z11 fun H11 v11 u11=>?_;have n3_11:=n3.upda av3_2 u11;refine Runs.cond (fun k12=>?_) (fun k12=>?_)
   ·replace e:=(condT k12).symm.trans e;refine Runs.cond (fun k13=>?_) (fun k13=>?_)
    ·replace e:=(condT k13).symm.trans e;cases e
    ·replace e:=(condF k13).symm.trans e;obtain⟨j14,q14,e⟩:=Option.bind_eq_some_iff.1 e;refine Runs.step (v11.idx (by simp only[List.length_set]) q14) ?_;obtain⟨w15,z15,e⟩:=Option.bind_eq_some_iff.1 e;refine Runs.vput v11 (by simp only[List.length_set]) q14 z15 fun H15 v15 u15=>?_;have n3_15:=n3_11.upda av3_2 u15;cases e;exact good ((g0.updr hi2 u11).updr hi2 u15) v15 n3_15 hi2 av3_2
   ·replace e:=(condF k12).symm.trans e;cases e;exact good (g0.updr hi2 u11) v11 n3_11 hi2 av3_2
 ·replace e:=(condF k6).symm.trans e;cases e;cases good;exact Runs.ret ⟨a2,i2,rfl,v2,g0,hi2⟩
theorem k7b{s:kgy}{r:kes}(it:Iter kj9 s r):kmq r s:=Iter.ind (fun s o e good=>by
 cases s with
 | fn x1 a2=>exact @kbfy _ _ x1 a2 e good
 | p3 a1 x2 x3 a4 a5=>exact @k69 _ _ a1 x2 x3 a4 a5 e good
 ) it
theorem kwh{h:AH}{a1:Sl}{x1:List Nat}{a2:Int}(n1:Nats h a1 x1){r:kes}(q:runP kj9 (.fn x1 a2)=some r):Runs (go (.fn F.kez [a1.v,.int .u64 a2]) h) (ks3 h r):=k7b (kdc q) n1
inductive kf8
 | fn (a1:Int) (a2:Int) (a3:Int) (a4:Int) (a5:Int)
 | p4 (a1:Int) (a2:Int) (a3:Int) (a4:Int) (a5:Int)
abbrev ken:=Int
noncomputable def khv(a1 a2 a3 a4 a5:Int):Option (kf8⊕ken) :=
 cond (decide (a1≥a4)) (some (.inr 18446744073709551615)) ((div64P a1 a2 a4).bind fun p7=>some (.inl (.p4 a3 a4 a5 (p7.1) (p7.2))))
noncomputable def kf2(a1 a2 a3 a4 a5:Int):Option (kf8⊕ken) :=
 cond (decide (((mul64 a4 a3).1)<a5)) (some (.inr a4)) (cond (decide (((mul64 a4 a3).1)=a5)) (cond (decide (((mul64 a4 a3).2)≤a1)) (some (.inr a4)) (cond (decide ((IntKind.wrap .u64 (a5+a2))<a5)) (some (.inr (IntKind.wrap .u64 (a4-1)))) (some (.inl (.p4 a1 a2 a3 (IntKind.wrap .u64 (a4-1)) (IntKind.wrap .u64 (a5+a2))))))) (cond (decide ((IntKind.wrap .u64 (a5+a2))<a5)) (some (.inr (IntKind.wrap .u64 (a4-1)))) (some (.inl (.p4 a1 a2 a3 (IntKind.wrap .u64 (a4-1)) (IntKind.wrap .u64 (a5+a2)))))))
noncomputable def kka:kf8→Option (kf8⊕ken)
 | .fn a1 a2 a3 a4 a5=>khv a1 a2 a3 a4 a5
 | .p4 a1 a2 a3 a4 a5=>kf2 a1 a2 a3 a4 a5
@[reducible] def ktd(h0:AH)(r:ken)(v:AV)(h':AH):Prop:=v=.int .u64 r∧Grow h0 h'
def kmi(r:ken):kf8→Prop
 | .fn a1 a2 a3 a4 a5=>∀{h:AH},Runs (go (.fn F.kgc [.int .u64 a1,.int .u64 a2,.int .u64 a3,.int .u64 a4,.int .u64 a5]) h) (ktd h r)
 | .p4 a1 a2 a3 a4 a5=>∀{h0 h:AH},Grow h0 h→Runs (go (.pt F.kgc Td.kll [(2,.int .u64 a1),(3,.int .u64 a2),(4,.int .u64 a3),(11,.int .u64 a4),(12,.int .u64 a5)]) h) (ktd h0 r)
theorem k7a{r:ken}{o:kf8⊕ken}{a1 a2 a3 a4 a5:Int}(e:khv a1 a2 a3 a4 a5=some o)(good:GoodS (kmi r) r o):kmi r (.fn a1 a2 a3 a4 a5):=by
 intro h;rw[kbbx];unfold khv at e;refine Runs.cond (fun k6=>?_) (fun k6=>?_)
 ·replace e:=(condT k6).symm.trans e;cases e;cases good;exact Runs.ret ⟨rfl,(Grow.refl _)⟩
 ·replace e:=(condF k6).symm.trans e;obtain⟨p7,q7,e⟩:=Option.bind_eq_some_iff.1 e;obtain⟨H7,e7,g7⟩:=kze q7;refine Runs.step e7 ?_;refine Runs.step rfl ?_;refine Runs.step (seen (kc _ _)) ?_;refine Runs.step (seen (kc _ _)) ?_;cases e;exact good g7
theorem k5j{r:ken}{o:kf8⊕ken}{a1 a2 a3 a4 a5:Int}(e:kf2 a1 a2 a3 a4 a5=some o)(good:GoodS (kmi r) r o):kmi r (.p4 a1 a2 a3 a4 a5):=by
 intro h0 h g0;rw[kbgi];unfold kf2 at e;refine Runs.step (kty a4 a3) ?_;refine Runs.step rfl ?_;refine Runs.step (seen (kc _ _)) ?_;refine Runs.step (seen (kc _ _)) ?_;refine Runs.cond (fun k7=>?_) (fun k7=>?_)
 ·replace e:=(condT k7).symm.trans e;cases e;cases good;exact Runs.ret ⟨rfl,g0⟩
 ·replace e:=(condF k7).symm.trans e;refine Runs.cond (fun k8=>?_) (fun k8=>?_)
  ·replace e:=(condT k8).symm.trans e;refine Runs.cond (fun k9=>?_) (fun k9=>?_)
   ·replace e:=(condT k9).symm.trans e;cases e;cases good;exact Runs.ret ⟨rfl,g0⟩
   ·replace e:=(condF k9).symm.trans e;refine Runs.cond (fun k10=>?_) (fun k10=>?_)
    ·replace e:=(condT k10).symm.trans e;cases e;cases good;exact Runs.ret ⟨rfl,g0⟩
    ·replace e:=(condF k10).symm.trans e;cases e;exact good g0
  ·replace e:=(condF k8).symm.trans e;refine Runs.cond (fun k9=>?_) (fun k9=>?_)
   ·replace e:=(condT k9).symm.trans e;cases e;cases good;exact Runs.ret ⟨rfl,g0⟩
   ·replace e:=(condF k9).symm.trans e;cases e;exact good g0
theorem kbeb{s:kf8}{r:ken}(it:Iter kka s r):kmi r s:=Iter.ind (fun s o e good=>by
 cases s with
 | fn a1 a2 a3 a4 a5=>exact @k7a _ _ a1 a2 a3 a4 a5 e good
 | p4 a1 a2 a3 a4 a5=>exact @k5j _ _ a1 a2 a3 a4 a5 e good
 ) it
theorem k5m{h:AH}  {a1 a2 a3 a4 a5:Int}  {r:ken}(q:runP kka (.fn a1 a2 a3 a4 a5)=some r):Runs (go (.fn F.kgc [.int .u64 a1,.int .u64 a2,.int .u64 a3,.int .u64 a4,.int .u64 a5]) h) (ktd h r):=kbeb (kdc q)
end Go.Ab

/- squeezed -/
set_option maxRecDepth 10000
namespace Go.Ab
open Go.Proofs Go.Num
def padD(b:Nat):Nat→Nat→List Nat
 | 0,_=>[]
 | k+1,n=>n%b::padD b k (n/b)
theorem kt6(b:Nat):∀k n,(padD b k n).length=k
 | 0,_=>rfl
 | k+1,n=>by simp[padD,kt6 b k]
theorem k26{b:Nat}(hb:0<b):∀k n,∀x∈padD b k n,x<b
 | 0,_=>by simp[padD]
 | k+1,n=>by
  intro x hx;rcases List.mem_cons.1 hx with rfl | hx
  ·exact Nat.mod_lt _ hb
  ·exact k26 hb k _ x hx
theorem kwm{b:Nat}(hb:0<b):∀(k n:Nat),n<b^k→num b (padD b k n)=n
 | 0,n,h=>by
  rw[Nat.pow_zero]at h;have:n=0:=by omega
  subst this;rfl
 | k+1,n,h=>by
  rw[padD,num,kwm hb k (n/b) (by rw[Nat.div_lt_iff_lt_mul hb,← Nat.pow_succ];exact h)];exact Nat.mod_add_div n b
theorem k08{b:Nat}(hb:0<b):∀{zs:List Nat},(∀x∈zs,x<b)→padD b zs.length (num b zs)=zs
 | [],_=>rfl
 | z::zs,h=>by
  have hz:=h z (by simp);rw[List.length_cons,padD,num,Nat.add_mul_mod_self_left,Nat.mod_eq_of_lt hz,Nat.add_mul_div_left _ _ hb,Nat.div_eq_of_lt hz,Nat.zero_add,k08 hb fun x hx=>h x (by simp[hx])]
theorem Sl.v_inj{s t:Sl}(e:s.v=t.v):s=t:=by
 cases s;cases t;simp only[Sl.v,AV.slice.injEq]at e;simp only[Sl.mk.injEq];exact e
theorem kw0{h:AH}{s:Sl}{xs:List Nat}(n:Nats h s xs){i:Nat}(b:InB s i):∀(k:Nat),k≤xs.length→∃s',go (.pt F.kbq Td.kmr [(0,s.v),(3,.int .i64 (k:Int))]) h=some (s'.v,h)∧InB s' i
 | 0,hk=>by
  rw[krb];obtain⟨s',e1,_,_⟩:=n.cut (l:=0) (n:=0) (Nat.le_refl _) hk;have b':=b.cut e1;simp at e1;simp only[Int.natCast_zero,gt_iff_lt,Int.lt_irrefl,decide_false,cond_false,e1,Option.bind_some];exact⟨s',rfl,b'⟩
 | k+1,hk=>by
  rw[krb];obtain⟨r,e1,e2⟩:=n.at (i:=k) (by omega);have hs:=n.short;rw[klq (by omega)];rw[show(decide (((k+1:Nat):Int)>0))=true from by rw[decide_eq_true_eq];omega];simp only[cond_true,e1,e2,Option.bind_some,kc];by_cases hx:xs[k]=0
  ·rw[hx,show(decide (((0:Nat):Int)=0))=true from rfl,cond_true];exact kw0 n b k (by omega)
  ·obtain⟨s',e3,_,_⟩:=n.cut (l:=0) (n:=k+1) (by omega) hk;rw[show(decide (((xs[k]:Nat):Int)=0))=false from by rw[decide_eq_false_iff_not];omega];simp only[cond_false];rw[show cutSl s 0 ((k+1:Nat):Int) 1=some s' from e3];exact⟨s',rfl,b.cut e3⟩
theorem krk{h:AH}{s:Sl}{i:Nat}{xs:List Nat}(v:Vec h s i xs):∃s',go (.fn F.kbq [s.v]) h=some (s'.v,h)∧Nats h s' (digs B (num B xs))∧InB s' i:=by
 obtain⟨s',e,n,_⟩:=kdp v.nats;obtain⟨s2,e2,b⟩:=kw0 v.nats v.inB xs.length (Nat.le_refl _);rw[ks6,v.len,e2]at e;have:s2=s':=Sl.v_inj (Prod.mk.inj (Option.some.inj e)).1;subst this;exact⟨s2,by rw[ks6,v.len,e2],n,b⟩
theorem B0:0<B:=by decide
theorem kst{a:Int}{x:Nat}{h:AH}(q:u64P a=some x):∃(s':Sl)(h':AH),go (.fn F.kfw [.int .u64 a]) h=some (s'.v,h')∧Nats h' s' (digs B x)∧Grow h h'∧Own h s':=by
 obtain⟨rfl,hx⟩:=kq3 q;exact kx4 hx
theorem kba4{h:AH}{s t:Sl}{xs ys:List Nat}(n:Nats h s xs)(m:Nats h t ys)(c:xs.length≤1073741824∧ys.length≤xs.length∧num B ys≤num B xs) :
  ∃(s':Sl)(h':AH),go (.fn F.kdf [s.v,t.v]) h=some (s'.v,h')∧Nats h' s' (padD B xs.length (num B xs-num B ys))∧Grow h h'∧Own h s':=by
 obtain⟨s',h',zs,e,n',g,o,v,l⟩:=kok n m c.1 c.2.1 c.2.2;refine⟨s',h',e,?_,g,o⟩;rw[← v,← l,k08 B0 n'.lt];exact n'
end Go.Ab

/- squeezed -/
set_option maxRecDepth 10000
namespace Go.Ab
open Go.Proofs Go.Num
inductive kdz
 | fn (x1:List Nat) (x2:List Nat)
 | p6 (a1:Int) (x2:List Nat) (x3:List Nat) (a4:Int) (x5:List Nat) (a6:Int)
 | p10 (a1:Int) (x2:List Nat) (x3:List Nat) (a4:Int) (x5:List Nat) (a6:Int) (a7:Int) (x8:Nat×Nat)
 | p18 (a1:Int) (x2:List Nat) (x3:List Nat) (x4:List Nat) (a5:Int) (a6:Int)
abbrev kcb:=List Nat×List Nat
noncomputable def kne(x1 x2:List Nat):Option (kdz⊕kcb) :=
 (atI x2 (IntKind.wrap .i64 ((List.length x2:Int)-1))).bind fun y3=>(need (0≤((y3:Int))∧((y3:Int))<18446744073709551616)).bind fun c4_0=>(runP kj9 (.fn x1 (IntKind.wrap .u64 (((64-bl (Int.toNat ((y3:Int))):Nat):Int))))).bind fun p5=>(runP kj9 (.fn x2 (IntKind.wrap .u64 (((64-bl (Int.toNat ((y3:Int))):Nat):Int))))).bind fun p6=>(mkI (IntKind.wrap .i64 ((List.length p5:Int)-(List.length (digs B (num B p6)):Int))) (IntKind.wrap .i64 ((List.length p5:Int)-(List.length (digs B (num B p6)):Int)))).bind fun m8=>some (.inl (.p6 (IntKind.wrap .u64 (((64-bl (Int.toNat ((y3:Int))):Nat):Int))) p5 (digs B (num B p6)) (List.length (digs B (num B p6)):Int) (List.replicate m8 0) (IntKind.wrap .i64 ((List.length (List.replicate m8 0):Int)-1))))
noncomputable def khk(a1:Int)(x2 x3:List Nat)(a4:Int)(x5:List Nat)(a6:Int):Option (kdz⊕kcb) :=
 cond (decide (a6≥0)) ((inI (List.length x2) (IntKind.wrap .i64 (a6+a4))).bind fun j8=>(inI (List.length x2) (IntKind.wrap .i64 ((IntKind.wrap .i64 (a6+a4))-1))).bind fun j9=>(inI (List.length x2) (IntKind.wrap .i64 ((IntKind.wrap .i64 (a6+a4))-2))).bind fun j10=>(atI x3 (IntKind.wrap .i64 (a4-1))).bind fun y11=>(atI x3 (IntKind.wrap .i64 (a4-2))).bind fun y12=>(runP kka (.fn (((List.getD x2 j8 0:Nat):Int)) (((List.getD x2 j9 0:Nat):Int)) (((List.getD x2 j10 0:Nat):Int)) ((y11:Int)) ((y12:Int)))).bind fun p13=>(cutP (List.length x2) a6 (IntKind.wrap .i64 ((IntKind.wrap .i64 (a6+a4))+1))).bind fun p14=>some (.inl (.p10 a1 x2 x3 a4 x5 a6 p13 (p14.1,p14.2)))) ((mkI (List.length (digs B (num B x2)):Int) (List.length (digs B (num B x2)):Int)).bind fun m9=>some (.inl (.p18 a1 x5 (digs B (num B x2)) (List.replicate m9 0) (List.length (digs B (num B x2)):Int) 0)))
noncomputable def kiz(a1:Int)(x2 x3:List Nat)(a4:Int)(x5:List Nat)(a6 a7:Int)(x8:Nat×Nat):Option (kdz⊕kcb) :=
 (u64P a7).bind fun p9=>(need (List.length x3+List.length (digs B p9)≤8796093022208)).bind fun c10_0=>(need (List.length (List.take x8.2 (List.drop x8.1 x2))≤8796093022208)).bind fun c11_0=>(need (Trim (digs B (num B (List.take x8.2 (List.drop x8.1 x2)))))).bind fun c13_0=>(need (Trim (digs B (num B x3*num B (digs B p9))))).bind fun c13_1=>cond (decide ((cmp (num B (digs B (num B (List.take x8.2 (List.drop x8.1 x2))))) (num B (digs B (num B x3*num B (digs B p9)))))≥0)) ((need (List.length (List.take x8.2 (List.drop x8.1 x2))≤1073741824∧List.length (digs B (num B x3*num B (digs B p9)))≤List.length (List.take x8.2 (List.drop x8.1 x2))∧num B (digs B (num B x3*num B (digs B p9)))≤num B (List.take x8.2 (List.drop x8.1 x2)))).bind fun c15_0=>(setW x2 x8.1 x8.2 (padD B (List.length (List.take x8.2 (List.drop x8.1 x2))) (num B (List.take x8.2 (List.drop x8.1 x2))-num B (digs B (num B x3*num B (digs B p9)))))).bind fun y16=>(inI (List.length x5) a6).bind fun j17=>(u64P a7).bind fun w18=>some (.inl (.p6 a1 y16 x3 a4 (List.set x5 j17 w18) (IntKind.wrap .i64 (a6-1))))) (some (.inl (.p10 a1 x2 x3 a4 x5 a6 (IntKind.wrap .u64 (a7-1)) (x8.1,x8.2))))
noncomputable def ked(a1:Int)(x2 x3 x4:List Nat)(a5 a6:Int):Option (kdz⊕kcb) :=
 cond (decide (a6<a5)) ((atI x3 a6).bind fun y8=>cond (decide (a1<0)) (none) ((inI (List.length x4) a6).bind fun j10=>(u64P (ishr .u64 ((y8:Int)) a1)).bind fun w11=>cond (decide (a1>0)) (cond (decide ((IntKind.wrap .i64 (a6+1))<(List.length x3:Int))) ((inI (List.length x4) a6).bind fun j14=>(atI x3 (IntKind.wrap .i64 (a6+1))).bind fun y15=>cond (decide ((IntKind.wrap .u64 (64-a1))<0)) (none) ((inI (List.length x4) a6).bind fun j17=>(u64P (ior .u64 (((List.getD (List.set x4 j10 w11) j14 0:Nat):Int)) (ishl .u64 ((y15:Int)) (IntKind.wrap .u64 (64-a1))))).bind fun w18=>some (.inl (.p18 a1 x2 x3 (List.set (List.set x4 j10 w11) j17 w18) a5 (IntKind.wrap .i64 (a6+1)))))) (some (.inl (.p18 a1 x2 x3 (List.set x4 j10 w11) a5 (IntKind.wrap .i64 (a6+1)))))) (some (.inl (.p18 a1 x2 x3 (List.set x4 j10 w11) a5 (IntKind.wrap .i64 (a6+1))))))) (some (.inr (digs B (num B x2),digs B (num B x4))))
noncomputable def kkp:kdz→Option (kdz⊕kcb)
 | .fn x1 x2=>kne x1 x2
 | .p6 a1 x2 x3 a4 x5 a6=>khk a1 x2 x3 a4 x5 a6
 | .p10 a1 x2 x3 a4 x5 a6 a7 x8=>kiz a1 x2 x3 a4 x5 a6 a7 x8
 | .p18 a1 x2 x3 x4 a5 a6=>ked a1 x2 x3 x4 a5 a6
@[reducible] def kor(h0:AH)(r:kcb)(v:AV)(h':AH):Prop:=∃s1:Sl,∃s2:Sl,v=.tup [s1.v,s2.v]∧Nats h' s1 r.1∧Nats h' s2 r.2∧Grow h0 h'∧Own h0 s1∧Own h0 s2
def kfh(r:kcb):kdz→Prop
 | .fn x1 x2=>∀{h:AH}{a1:Sl}{a2:Sl},Nats h a1 x1→Nats h a2 x2→Runs (go (.fn F.kb8 [a1.v,a2.v]) h) (kor h r)
 | .p6 a1 x2 x3 a4 x5 a6=>∀{h0 h:AH}{a2:Sl}{a3:Sl}{a5:Sl}{i2:Nat}{i5:Nat},Grow h0 h→Vec h a2 i2 x2→Nats h a3 x3→Vec h a5 i5 x5→h0.blks.size≤i2→h0.blks.size≤i5→Av a3 i2 x3→Av a3 i5 x3→i2≠i5→Runs (go (.pt F.kb8 Td.kpf [(6,.int .u64 a1),(7,a2.v),(8,a3.v),(9,.int .i64 a4),(10,a5.v),(11,.int .i64 a6)]) h) (kor h0 r)
 | .p10 a1 x2 x3 a4 x5 a6 a7 x8=>∀{h0 h:AH}{a2:Sl}{a3:Sl}{a5:Sl}{a8:Sl}{i2:Nat}{i5:Nat},Grow h0 h→Vec h a2 i2 x2→Nats h a3 x3→Vec h a5 i5 x5→h0.blks.size≤i2→h0.blks.size≤i5→Win a8 i2 x8.1 x8.2→x8.1+x8.2≤List.length x2→Av a3 i2 x3→Av a3 i5 x3→i2≠i5→Runs (go (.pt F.kb8 Td.kpn [(6,.int .u64 a1),(7,a2.v),(8,a3.v),(9,.int .i64 a4),(10,a5.v),(11,.int .i64 a6),(12,.int .u64 a7),(13,a8.v)]) h) (kor h0 r)
 | .p18 a1 x2 x3 x4 a5 a6=>∀{h0 h:AH}{a2:Sl}{a3:Sl}{a4:Sl}{i2:Nat}{i4:Nat},Grow h0 h→Vec h a2 i2 x2→Nats h a3 x3→Vec h a4 i4 x4→h0.blks.size≤i2→h0.blks.size≤i4→Av a3 i2 x3→Av a3 i4 x3→i2≠i4→Runs (go (.pt F.kb8 Td.kkm [(6,.int .u64 a1),(10,a2.v),(15,a3.v),(16,a4.v),(112,.int .i64 a5),(113,.int .i64 a6)]) h) (kor h0 r)
theorem kbj7{r:kcb}{o:kdz⊕kcb}{x1 x2:List Nat}(e:kne x1 x2=some o)(good:GoodS (kfh r) r o):kfh r (.fn x1 x2):=by
 intro h a1 a2 n1 n2;rw[k6e];unfold kne at e;rw[n2.len];obtain⟨y3,q3,e⟩:=Option.bind_eq_some_iff.1 e;obtain⟨r3,j3,l3⟩:=n2.atI q3;refine Runs.step j3 ?_;refine Runs.step (rdc l3 (kc _ _)) ?_;obtain⟨c4_0,q4_0,e⟩:=Option.bind_eq_some_iff.1 e;refine Runs.step (ky1 ((y3:Int))  c4_0.down) ?_;refine Runs.step (seen (kc _ _)) ?_;obtain⟨p5,q5,e⟩:=Option.bind_eq_some_iff.1 e;obtain⟨_,H5,e5,s5,j5,rfl,n5,g5,o5⟩:=kwh n1 q5;refine Runs.step e5 ?_;refine Runs.step (seen (asSl_v _)) ?_;rw[n5.nats.len];obtain⟨p6,q6,e⟩:=Option.bind_eq_some_iff.1 e;obtain⟨_,H6,e6,s6,j6,rfl,n6,g6,o6⟩:=kwh (n2.grow g5) q6;refine Runs.step e6 ?_;refine Runs.step (seen (asSl_v _)) ?_;obtain⟨s7,e7,n7,i7⟩:=krk n6;refine Runs.step e7 ?_;refine Runs.step (seen (asSl_v _)) ?_;rw[n7.len];obtain⟨m8,q8,e⟩:=Option.bind_eq_some_iff.1 e;refine Runs.mk q8 kc0 fun s8 H8 v8 g8=>?_;rw[v8.nats.len];cases e;exact good ((g5.trans g6).trans g8) (n5.grow (g6.trans g8)) (n7.grow g8) v8 o5 (Nat.le_trans ((g5.trans g6)).size (Nat.le_refl _)) (Av.of_in i7 (Nat.ne_of_gt (Nat.lt_of_lt_of_le (n5).inn o6))) (Av.of_in i7 (Nat.ne_of_lt (Nat.lt_of_lt_of_le (n6).inn (Nat.le_refl _)))) (Nat.ne_of_lt (Nat.lt_of_lt_of_le ((n5.grow g6)).inn (Nat.le_refl _)))
theorem kbjx{r:kcb}{o:kdz⊕kcb}{a1:Int}{x2 x3:List Nat}{a4:Int}{x5:List Nat}{a6:Int}(e:khk a1 x2 x3 a4 x5 a6=some o)(good:GoodS (kfh r) r o):kfh r (.p6 a1 x2 x3 a4 x5 a6):=by
 intro h0 h a2 a3 a5 i2 i5 g0 v2 n3 v5 hi2 hi5 av3_2 av3_5 ne2_5;rw[kbfd];unfold khk at e;rw[v2.nats.len];rw[n3.len];refine Runs.cond (fun k7=>?_) (fun k7=>?_)
 ·replace e:=(condT k7).symm.trans e;obtain⟨j8,q8,e⟩:=Option.bind_eq_some_iff.1 e;refine Runs.step (v2.idx rfl q8) ?_;refine Runs.step (v2.rd rfl q8 (kc _ _)) ?_;obtain⟨j9,q9,e⟩:=Option.bind_eq_some_iff.1 e;refine Runs.step (v2.idx rfl q9) ?_;refine Runs.step (v2.rd rfl q9 (kc _ _)) ?_;obtain⟨j10,q10,e⟩:=Option.bind_eq_some_iff.1 e;refine Runs.step (v2.idx rfl q10) ?_;refine Runs.step (v2.rd rfl q10 (kc _ _)) ?_;obtain⟨y11,q11,e⟩:=Option.bind_eq_some_iff.1 e;obtain⟨r11,j11,l11⟩:=n3.atI q11;refine Runs.step j11 ?_;refine Runs.step (rdc l11 (kc _ _)) ?_;obtain⟨y12,q12,e⟩:=Option.bind_eq_some_iff.1 e;obtain⟨r12,j12,l12⟩:=n3.atI q12;refine Runs.step j12 ?_;refine Runs.step (rdc l12 (kc _ _)) ?_;obtain⟨p13,q13,e⟩:=Option.bind_eq_some_iff.1 e;obtain⟨_,H13,e13,rfl,g13⟩:=k5m q13;refine Runs.step e13 ?_;refine Runs.step (seen (kc _ _)) ?_;obtain⟨p14,q14,e⟩:=Option.bind_eq_some_iff.1 e;obtain⟨s14,e14,w14⟩:=(v2.grow g13).cutW rfl q14;refine Runs.step e14 ?_;cases e;exact good (g0.trans g13) (v2.grow g13) (n3.grow g13) (v5.grow g13) hi2 hi5 w14 (kou q14).2.2.2 av3_2 av3_5 ne2_5
 ·replace e:=(condF k7).symm.trans e;obtain⟨s8,e8,n8,i8⟩:=krk v2;refine Runs.step e8 ?_;refine Runs.step (seen (asSl_v _)) ?_;rw[n8.len];obtain⟨m9,q9,e⟩:=Option.bind_eq_some_iff.1 e;refine Runs.mk q9 kc0 fun s9 H9 v9 g9=>?_;cases e;exact good (g0.trans g9) (v5.grow g9) (n8.grow g9) v9 hi5 (Nat.le_trans (g0).size (Nat.le_refl _)) (Av.of_in i8 ne2_5) (Av.of_in i8 (Nat.ne_of_lt (Nat.lt_of_lt_of_le (v2).inn (Nat.le_refl _)))) (Nat.ne_of_lt (Nat.lt_of_lt_of_le (v5).inn (Nat.le_refl _)))
theorem k96{r:kcb}{o:kdz⊕kcb}{a1:Int}{x2 x3:List Nat}{a4:Int}{x5:List Nat}{a6 a7:Int}{x8:Nat×Nat}(e:kiz a1 x2 x3 a4 x5 a6 a7 x8=some o)(good:GoodS (kfh r) r o):kfh r (.p10 a1 x2 x3 a4 x5 a6 a7 x8):=by
 intro h0 h a2 a3 a5 a8 i2 i5 g0 v2 n3 v5 hi2 hi5 w8 wl8 av3_2 av3_5 ne2_5;rw[kbfj];unfold kiz at e;rw[v5.nats.len];obtain⟨p9,q9,e⟩:=Option.bind_eq_some_iff.1 e;obtain⟨s9,H9,e9,n9,g9,o9⟩:=kst q9;refine Runs.step e9 ?_;refine Runs.step (seen (asSl_v _)) ?_;obtain⟨c10_0,q10_0,e⟩:=Option.bind_eq_some_iff.1 e;obtain⟨s10,H10,e10,n10,g10,o10⟩:=ku4 (n3.grow g9) n9  c10_0.down;refine Runs.step e10 ?_;refine Runs.step (seen (asSl_v _)) ?_;obtain⟨c11_0,q11_0,e⟩:=Option.bind_eq_some_iff.1 e;obtain⟨s11,H11,e11,n11,g11,o11⟩:=kki (w8.nats (v2.grow (g9.trans g10)) wl8)  c11_0.down;refine Runs.step e11 ?_;refine Runs.step (seen (asSl_v _)) ?_;obtain⟨s12,e12,n12,o12⟩:=kdp n11;refine Runs.step e12 ?_;refine Runs.step (seen (asSl_v _)) ?_;obtain⟨c13_0,q13_0,e⟩:=Option.bind_eq_some_iff.1 e;obtain⟨c13_1,q13_1,e⟩:=Option.bind_eq_some_iff.1 e;refine Runs.step (kqi n12 (n10.grow g11)  c13_0.down c13_1.down) ?_;refine Runs.step (seen (kc _ _)) ?_;refine Runs.cond (fun k14=>?_) (fun k14=>?_)
 ·replace e:=(condT k14).symm.trans e;obtain⟨c15_0,q15_0,e⟩:=Option.bind_eq_some_iff.1 e;obtain⟨s15,H15,e15,n15,g15,o15⟩:=kba4 (w8.nats (v2.grow ((g9.trans g10).trans g11)) wl8) (n10.grow g11)  c15_0.down;refine Runs.step e15 ?_;refine Runs.step (seen (asSl_v _)) ?_;obtain⟨y16,q16,e⟩:=Option.bind_eq_some_iff.1 e;have hl16:=kwi q16;obtain⟨H16,e16,v16,u16⟩:=(v2.grow (((g9.trans g10).trans g11).trans g15)).copyW w8 n15 q16;refine Runs.step e16 ?_;have n3_16:=(n3.grow (((g9.trans g10).trans g11).trans g15)).upda av3_2 u16;have n9_16:=(n9.grow ((g10.trans g11).trans g15)).upda (Av.of_own o9 (v2).inn) u16;have n10_16:=(n10.grow (g11.trans g15)).upda (Av.of_own o10 ((v2.grow g9)).inn) u16;have n11_16:=(n11.grow g15).upda (Av.of_own o11 ((v2.grow (g9.trans g10))).inn) u16;have n12_16:=(n12.grow g15).upda (Av.of_own (o12 _ o11) ((v2.grow (g9.trans g10))).inn) u16;have n15_16:=n15.upda (Av.of_own o15 ((v2.grow ((g9.trans g10).trans g11))).inn) u16;have v5_16:=(v5.grow (((g9.trans g10).trans g11).trans g15)).updr (Ne.symm ne2_5) u16;obtain⟨j17,q17,e⟩:=Option.bind_eq_some_iff.1 e;refine Runs.step (v5_16.idx rfl q17) ?_;obtain⟨w18,z18,e⟩:=Option.bind_eq_some_iff.1 e;refine Runs.vput v5_16 rfl q17 z18 fun H18 v18 u18=>?_;have n3_18:=n3_16.upda av3_5 u18;have n9_18:=n9_16.upda (Av.of_own o9 (v5).inn) u18;have n10_18:=n10_16.upda (Av.of_own o10 ((v5.grow g9)).inn) u18;have n11_18:=n11_16.upda (Av.of_own o11 ((v5.grow (g9.trans g10))).inn) u18;have n12_18:=n12_16.upda (Av.of_own (o12 _ o11) ((v5.grow (g9.trans g10))).inn) u18;have n15_18:=n15_16.upda (Av.of_own o15 ((v5.grow ((g9.trans g10).trans g11))).inn) u18;have v16_18:=v16.updr ne2_5 u18;cases e;exact good ((((((g0.trans g9).trans g10).trans g11).trans g15).updr hi2 u16).updr hi5 u18) v16_18 n3_18 v18 hi2 hi5 av3_2 av3_5 ne2_5
 ·replace e:=(condF k14).symm.trans e;cases e;exact good (((g0.trans g9).trans g10).trans g11) (v2.grow ((g9.trans g10).trans g11)) (n3.grow ((g9.trans g10).trans g11)) (v5.grow ((g9.trans g10).trans g11)) hi2 hi5 w8 wl8 av3_2 av3_5 ne2_5
theorem kbda{r:kcb}{o:kdz⊕kcb}{a1:Int}{x2 x3 x4:List Nat}{a5 a6:Int}(e:ked a1 x2 x3 x4 a5 a6=some o)(good:GoodS (kfh r) r o):kfh r (.p18 a1 x2 x3 x4 a5 a6):=by
 intro h0 h a2 a3 a4 i2 i4 g0 v2 n3 v4 hi2 hi4 av3_2 av3_4 ne2_4;rw[kbcv];unfold ked at e;rw[n3.len];rw[v4.nats.len];refine Runs.cond (fun k7=>?_) (fun k7=>?_)
 ·replace e:=(condT k7).symm.trans e;obtain⟨y8,q8,e⟩:=Option.bind_eq_some_iff.1 e;obtain⟨r8,j8,l8⟩:=n3.atI q8;refine Runs.step j8 ?_;refine Runs.step (rdc l8 (kc _ _)) ?_;refine Runs.cond (fun k9=>?_) (fun k9=>?_)
  ·replace e:=(condT k9).symm.trans e;cases e
  ·replace e:=(condF k9).symm.trans e;obtain⟨j10,q10,e⟩:=Option.bind_eq_some_iff.1 e;refine Runs.step (v4.idx rfl q10) ?_;obtain⟨w11,z11,e⟩:=Option.bind_eq_some_iff.1 e;refine Runs.vput v4 rfl q10 z11 fun H11 v11 u11=>?_;have n3_11:=n3.upda av3_4 u11;have v2_11:=v2.updr ne2_4 u11;refine Runs.cond (fun k12=>?_) (fun k12=>?_)
   ·replace e:=(condT k12).symm.trans e;refine Runs.cond (fun k13=>?_) (fun k13=>?_)
    ·replace e:=(condT k13).symm.trans e;obtain⟨j14,q14,e⟩:=Option.bind_eq_some_iff.1 e;refine Runs.step (v11.idx (by simp only[List.length_set]) q14) ?_;refine Runs.step (v11.rd (by simp only[List.length_set]) q14 (kc _ _)) ?_;obtain⟨y15,q15,e⟩:=Option.bind_eq_some_iff.1 e;obtain⟨r15,j15,l15⟩:=n3_11.atI q15;refine Runs.step j15 ?_;refine Runs.step (rdc l15 (kc _ _)) ?_;refine Runs.cond (fun k16=>?_) (fun k16=>?_)
     ·replace e:=(condT k16).symm.trans e;cases e
     ·replace e:=(condF k16).symm.trans e;obtain⟨j17,q17,e⟩:=Option.bind_eq_some_iff.1 e;refine Runs.step (v11.idx (by simp only[List.length_set]) q17) ?_;obtain⟨w18,z18,e⟩:=Option.bind_eq_some_iff.1 e;refine Runs.vput v11 (by simp only[List.length_set]) q17 z18 fun H18 v18 u18=>?_;have n3_18:=n3_11.upda av3_4 u18;have v2_18:=v2_11.updr ne2_4 u18;cases e;exact good ((g0.updr hi4 u11).updr hi4 u18) v2_18 n3_18 v18 hi2 hi4 av3_2 av3_4 ne2_4
    ·replace e:=(condF k13).symm.trans e;cases e;exact good (g0.updr hi4 u11) v2_11 n3_11 v11 hi2 hi4 av3_2 av3_4 ne2_4
   ·replace e:=(condF k12).symm.trans e;cases e;exact good (g0.updr hi4 u11) v2_11 n3_11 v11 hi2 hi4 av3_2 av3_4 ne2_4
 ·replace e:=(condF k7).symm.trans e;obtain⟨s8,e8,n8,i8⟩:=krk v2;refine Runs.step e8 ?_;refine Runs.step (seen (asSl_v _)) ?_;obtain⟨s9,e9,n9,i9⟩:=krk v4;refine Runs.step e9 ?_;refine Runs.step (seen (asSl_v _)) ?_;cases e;cases good;exact Runs.ret ⟨s8,s9,rfl,n8,n9,g0,((i8.own hi2).of_le (Grow.refl _)),((i9.own hi4).of_le (Grow.refl _))⟩
theorem k39{s:kdz}{r:kcb}(it:Iter kkp s r):kfh r s:=Iter.ind (fun s o e good=>by
 cases s with
 | fn x1 x2=>exact @kbj7 _ _ x1 x2 e good
 | p6 a1 x2 x3 a4 x5 a6=>exact @kbjx _ _ a1 x2 x3 a4 x5 a6 e good
 | p10 a1 x2 x3 a4 x5 a6 a7 x8=>exact @k96 _ _ a1 x2 x3 a4 x5 a6 a7 x8 e good
 | p18 a1 x2 x3 x4 a5 a6=>exact @kbda _ _ a1 x2 x3 x4 a5 a6 e good
 ) it
end Go.Ab

/- squeezed -/
set_option maxRecDepth 10000
namespace Go.Ab
open Go.Proofs Go.Num
theorem k9j{d q r r' x Q R:Nat}(h1:r*18446744073709551616+x=q*d+r')(h2:R=d*Q+r):x+18446744073709551616*R=d*(q+18446744073709551616*Q)+r':=by
 rw[h2,Nat.mul_add,Nat.mul_add];have e1:18446744073709551616*(d*Q)=d*(18446744073709551616*Q):=Nat.mul_left_comm _ _ _;rw[e1,Nat.mul_comm d q];omega
theorem kr5{o:List Nat}{i w:Nat}(h:i<o.length):(o.set i w).drop i=w::o.drop (i+1):=by
 rw[List.drop_eq_getElem_cons (by simpa using h),List.getElem_set_self,List.drop_set_of_lt (by omega)]
theorem ky2{xs:List Nat}{d:Nat}(lx:∀x∈xs,x<B)(hd:d<B)(hd0:0<d)(hl:xs.length≤8796093022208) :
  ∀(i:Nat)(o:List Nat)(r:Nat),i≤xs.length→o.length=xs.length→r<d→num B (xs.drop i)=d*num B (o.drop i)+r→
   Iter kr3 (.p4 xs d o r ((i:Int)-1)) (digs B (num B xs/d),((num B xs%d:Nat):Int))
 | 0,o,r,hi,lo,hr,e=>by
  refine .done ?_;show khr _ _ _ _ _=_;unfold khr;rw[List.drop_zero,List.drop_zero]at e;rw[condF (by rw[decide_eq_false_iff_not];omega),e,Nat.mul_add_div hd0,Nat.div_eq_of_lt hr,Nat.add_zero,Nat.mul_add_mod,Nat.mod_eq_of_lt hr]
 | i+1,o,r,hi,lo,hr,e=>by
  have hi':i<xs.length:=by omega
  have hio:i<o.length:=by omega
  have hx:=lx xs[i] (List.getElem_mem _);have hd':d<18446744073709551616:=hd;have hx':xs[i]<18446744073709551616:=hx
  have hq:(r*18446744073709551616+xs[i])/d<18446744073709551616:=by
   rw[Nat.div_lt_iff_lt_mul hd0];have:(r+1)*18446744073709551616≤d*18446744073709551616:=Nat.mul_le_mul_right _ hr;omega
  refine .next (s':=.p4 xs d (o.set i ((r*18446744073709551616+xs[i])/d)) ((r*18446744073709551616+xs[i])%d:Nat) ((i:Int)-1)) ?_ (ky2 lx hd hd0 hl i _ _ (by omega) (by simpa using lo) (Nat.mod_lt _ hd0) ?_)
  ·show khr _ _ _ _ _=_;unfold khr;rw[condT (by rw[decide_eq_true_eq];omega),show((i+1:Nat):Int)-1=(i:Int)from by omega,kbn hi',Option.bind_some,kyy hd' hx' hr,Option.bind_some,kz hio,Option.bind_some];dsimp only;rw[kbf hq,Option.bind_some,wrap64 (by omega) (by omega)]
  ·rw[kr5 hio,List.drop_eq_getElem_cons hi'];simp only[num];have dm:=Nat.div_add_mod (r*18446744073709551616+xs[i]) d;rw[Nat.mul_comm d]at dm;exact k9j dm.symm e
theorem kbg7{xs:List Nat}{d:Nat}(lx:∀x∈xs,x<B)(hd:d<B)(hd0:0<d)(hl:xs.length≤8796093022208):Iter kr3 (.fn xs d) (digs B (num B xs/d),((num B xs%d:Nat):Int)):=by
 refine .next (s':=.p4 xs d (List.replicate xs.length 0) ((0:Nat):Int) ((xs.length:Int)-1)) ?_ (ky2 lx hd hd0 hl xs.length _ _ (Nat.le_refl _) (by simp) hd0 (by simp[num]));show kmg _ _=_;unfold kmg;rw[kd4 hl,Option.bind_some,wrap64 (by omega) (by omega)];rfl
theorem kbbg{h:AH}{s:Sl}{xs:List Nat}(n:Nats h s xs){d:Nat}(hd:d<B)(hd0:0<d)(hl:xs.length≤8796093022208):∃(s':Sl)(h':AH),go (.fn F.kfi [s.v,.int .u64 (d:Int)]) h=some (.tup [s'.v,.int .u64 ((num B xs%d:Nat):Int)],h')∧Nats h' s' (digs B (num B xs/d))∧Grow h h'∧Own h s':=by
 obtain⟨_,h',e,s',rfl,n',g,o⟩:=k3p (kbg7 n.lt hd hd0 hl) n;exact⟨s',h',e,n',g,o⟩
theorem kys(a b:Int):ior .u64 a b=ior .u64 b a:=by
 unfold ior;rw[BitVec.or_comm]
theorem k9g{x n:Nat}(hx:x<18446744073709551616)(hn:n≤63):x*2^n%18446744073709551616=x%2^(64-n)*2^n∧x*2^n/18446744073709551616=x/2^(64-n)∧x/2^(64-n)<2^n∧x%2^(64-n)*2^n<18446744073709551616:=by
 have p:0<2^n:=Nat.pow_pos (by decide);have p2:0<2^(64-n):=Nat.pow_pos (by decide);have e:2^(64-n)*2^n=18446744073709551616:=by rw[← Nat.pow_add,show 64-n+n=64 from by omega]
 refine⟨?_,?_,?_,?_⟩
 ·rw[← e,Nat.mul_mod_mul_right]
 ·rw[← e,Nat.mul_div_mul_right _ _ p]
 ·rw[Nat.div_lt_iff_lt_mul p2,Nat.mul_comm,e];exact hx
 ·have:=Nat.mul_lt_mul_of_pos_right (Nat.mod_lt x p2) p;rw[e]at this;exact this
theorem up_alg{P c l hgh t n0 n1 n2 X:Nat}(h1:n1+P*c=n0+P*(l+c))(h2:n2+P*18446744073709551616*0=n1+P*18446744073709551616*hgh)(ht:t=hgh*18446744073709551616+l)(h3:n0=X):n2=X+P*t:=by
 rw[Nat.mul_add]at h1;rw[ht,Nat.mul_add,Nat.mul_comm hgh,← Nat.mul_assoc];omega
theorem krt{xs:List Nat}{n:Nat}(lx:∀x∈xs,x<B)(hn:n≤63)(hl:xs.length<8796093022208) :
  ∀(d i:Nat)(o:List Nat),i+d=xs.length→o.length=xs.length+1→(∀y∈o,y<B)→Empty o (i+1)→(∀h:i<o.length,o[i]<2^n)→num B o=num B (xs.take i)*2^n→
   ∃r,Iter kj9 (.p3 n o xs xs.length i) r∧r.length=xs.length+1∧(∀y∈r,y<B)∧num B r=num B xs*2^n
 | 0,i,o,hi,lo,to,zo,ho,e=>by
  have hi:i=xs.length:=by omega
  subst hi;rw[List.take_length]at e;refine⟨o,.done ?_,lo,to,e⟩;show kf6 _ _ _ _ _=_;unfold kf6;rw[condF (by rw[decide_eq_false_iff_not];omega)]
 | d+1,i,o,hi,lo,to,zo,ho,e=>by
  have hi':i<xs.length:=by omega
  have hio:i<o.length:=by omega
  have hx:xs[i]<18446744073709551616:=lx xs[i] (List.getElem_mem _);have hc:=ho hio;obtain⟨u1,u2,u3,u4⟩:=k9g hx hn;have shl:ishl .u64 (xs[i]:Int) (n:Int)=((xs[i]%2^(64-n)*2^n:Nat):Int):=by rw[km4 _ _ (by omega),u1]
  have io:ior .u64 (o[i]:Int) ((xs[i]%2^(64-n)*2^n:Nat):Int)=((xs[i]%2^(64-n)*2^n+o[i]:Nat):Int):=by rw[kys,krs u4 hc (by omega)]
  have hw:xs[i]%2^(64-n)*2^n+o[i]<18446744073709551616:=by
   have p:0<2^n:=Nat.pow_pos (by decide);have p2:0<2^(64-n):=Nat.pow_pos (by decide);have e:2^(64-n)*2^n=18446744073709551616:=by rw[← Nat.pow_add,show 64-n+n=64 from by omega]
   have:=Nat.mul_le_mul_right (2^n) (Nat.mod_lt xs[i] p2);rw[e,Nat.succ_mul]at this;omega
  generalize hlw:xs[i]%2^(64-n)*2^n=l at *
  have hset:i+1<(o.set i (l+o[i])).length:=by simp;omega
  have h1:=kkl (b:=B) hio (l+o[i])
  have hz:(o.set i (l+o[i]))[i+1]=0:=by
   rw[List.getElem_set_ne (by omega)];exact zo _ (by omega) (by omega)
  have htot:xs[i]*2^n=xs[i]/2^(64-n)*18446744073709551616+l:=by
   have:=Nat.div_add_mod (xs[i]*2^n) 18446744073709551616;rw[u2,u1,Nat.mul_comm]at this;exact this.symm
  have htake:num B (xs.take (i+1))*2^n=num B (xs.take i)*2^n+B^i*(xs[i]*2^n):=by
   rw[kc5 B hi',Nat.add_mul,Nat.mul_assoc]
  have hB:xs[i]/2^(64-n)<18446744073709551616:=Nat.lt_of_le_of_lt (Nat.div_le_self _ _) hx;by_cases hn0:n=0
  ·
   have hh:xs[i]/2^(64-n)=0:=by
    subst hn0;rw[Nat.pow_zero]at u3;omega
   obtain⟨r,it,r1,r2,r3⟩:=krt lx hn hl d (i+1) (o.set i (l+o[i])) (by omega) (by simpa using lo) (set_lt to hw) (by intro t ht hk;rw[List.getElem_set_ne (by omega)];exact zo t (by simpa using ht) (by omega)) (by intro ht;rw[hz];exact Nat.pow_pos (by decide)) (by
    rw[htake,htot,hh];exact up_alg (hgh:=0) h1 (by omega) rfl e)
   refine⟨r,.next ?_ it,r1,r2,r3⟩;show kf6 _ _ _ _ _=_;unfold kf6;rw[condT (by rw[decide_eq_true_eq];omega),kbn hi',Option.bind_some,kz hio,Option.bind_some,condF (by rw[decide_eq_false_iff_not];omega),Option.bind_some,kec hio,shl,io,kbf hw,Option.bind_some,condF (by rw[decide_eq_false_iff_not];omega),kj (by omega)]
  ·have h2:=kkl (b:=B) hset (xs[i]/2^(64-n));rw[hz]at h2
   obtain⟨r,it,r1,r2,r3⟩:=krt lx hn hl d (i+1) ((o.set i (l+o[i])).set (i+1) (xs[i]/2^(64-n))) (by omega) (by simpa using lo) (set_lt (set_lt to hw) hB) (by intro t ht hk;rw[List.getElem_set_ne (by omega),List.getElem_set_ne (by omega)];exact zo t (by simpa using ht) (by omega)) (by intro ht;rw[List.getElem_set_self];exact u3) (by
    rw[htake];rw[Nat.pow_succ]at h2;exact up_alg h1 h2 htot e)
   refine⟨r,.next ?_ it,r1,r2,r3⟩;have sh2:ishr .u64 (xs[i]:Int) ((64-n:Nat):Int)=((xs[i]/2^(64-n):Nat):Int):=by rw[kb3,Nat.min_eq_left (by omega)]
   have w64:IntKind.wrap .u64 (64-(n:Int))=((64-n:Nat):Int):=by rw[wrapU];omega
   show kf6 _ _ _ _ _=_;unfold kf6;rw[condT (by rw[decide_eq_true_eq];omega),kbn hi',Option.bind_some,kz hio,Option.bind_some,condF (by rw[decide_eq_false_iff_not];omega),Option.bind_some,kec hio,shl,io,kbf hw,Option.bind_some,condT (by rw[decide_eq_true_eq];omega),w64,condF (by rw[decide_eq_false_iff_not];omega),kj (by omega),kz (by omega),Option.bind_some,sh2,kbf hB,Option.bind_some]
theorem k0j{xs:List Nat}{n:Nat}(lx:∀x∈xs,x<B)(hn:n≤63)(hl:xs.length<8796093022208):∃r,Iter kj9 (.fn xs n) r∧r.length=xs.length+1∧(∀y∈r,y<B)∧num B r=num B xs*2^n:=by
 obtain⟨r,it,k⟩:=krt lx hn hl xs.length 0 (List.replicate (xs.length+1) 0) (by omega) (by simp) (fun y hy=>by rw[List.eq_of_mem_replicate hy];exact B0) (fun t ht hk=>by simp) (fun ht=>by simp;exact Nat.pow_pos (by decide)) (by
  have:=kfq B [] (xs.length+1)
  simpa[num]using this)
 refine⟨r,.next ?_ it,k⟩;show klb _ _=_;unfold klb;rw[kj (by omega),kd4 (by omega),Option.bind_some];rfl
end Go.Ab

/- squeezed -/
set_option maxRecDepth 10000
namespace Go.Ab
open Go.Proofs Go.Num
theorem kn_hi2{b v1 v0 W r0 q r:Nat}(hv:0<v1*b+v0)(e:q*v1+r=W)(t:b*r+r0<q*v0):(W*b+r0)/(v1*b+v0)≤q-1∧1≤q:=by
 have h1:(W*b+r0)/(v1*b+v0)<q:=by
  rw[Nat.div_lt_iff_lt_mul hv,kn_mul (v:=v1*b+v0) rfl,← e,Nat.add_mul,Nat.mul_comm r b];omega
 generalize (W*b+r0)/(v1*b+v0)=k at *
 omega
theorem kzm{d1 d0 W r0:Nat}(h1:d1<18446744073709551616)(h1':0<d1)(h0:d0<18446744073709551616)(hr:r0<18446744073709551616) :
  ∀(q r:Nat),q*d1+r=W→q<18446744073709551616→r<18446744073709551616→(W*18446744073709551616+r0)/(d1*18446744073709551616+d0)≤q→
   ∃g:Nat,Iter kka (.p4 r0 d1 d0 q r) (g:Int)∧g<18446744073709551616∧(W*18446744073709551616+r0)/(d1*18446744073709551616+d0)≤g
 | q,r,e,hq,hrr,hge=>by
  have hm:mul64 (q:Int) (d0:Int)=(((q*d0/18446744073709551616:Nat):Int),((q*d0%18446744073709551616:Nat):Int)):=ksw hq h0;by_cases c1:q*d0/18446744073709551616<r
  ·refine⟨q,.done ?_,hq,hge⟩;show kf2 _ _ _ _ _=_;unfold kf2;rw[hm];dsimp only;rw[condT (by rw[decide_eq_true_eq];omega)]
  by_cases c2:q*d0/18446744073709551616=r∧q*d0%18446744073709551616≤r0
  ·refine⟨q,.done ?_,hq,hge⟩;show kf2 _ _ _ _ _=_;unfold kf2;rw[hm];dsimp only;rw[condF (by rw[decide_eq_false_iff_not];omega),condT (by rw[decide_eq_true_eq];omega),condT (by rw[decide_eq_true_eq];omega)]
  have t:18446744073709551616*r+r0<q*d0:=by
   generalize q*d0=t at *
   omega
  obtain⟨k1,k2⟩:=kn_hi2 (by omega) e t;obtain⟨p,rfl⟩:∃p,q=p+1:=⟨q-1,by omega⟩;rw[Nat.add_sub_cancel]at k1
  have e':p*d1+(r+d1)=W:=by
   rw[Nat.add_mul,Nat.one_mul]at e;omega
  have w1:IntKind.wrap .u64 (((p+1:Nat):Int)-1)=(p:Int):=by rw[wrapU];omega
  have step:∀o,cond (decide ((IntKind.wrap .u64 ((r:Int)+(d1:Int)))<(r:Int))) (some (Sum.inr (α:=kf8) (p:Int))) (some (.inl (.p4 r0 d1 d0 p (IntKind.wrap .u64 ((r:Int)+(d1:Int))))))=o→kka (.p4 r0 d1 d0 ((p+1:Nat):Int) r)=o:=by
   intro o ho;show kf2 _ _ _ _ _=_;unfold kf2;rw[hm];dsimp only;rw[w1,condF (by rw[decide_eq_false_iff_not];omega)];refine kb9 (fun _=>?_) fun _=>ho;rw[condF (by rw[decide_eq_false_iff_not];rename_i h;rw[decide_eq_true_eq]at h;omega)];exact ho
  by_cases ho:r+d1<18446744073709551616
  ·have w2:IntKind.wrap .u64 ((r:Int)+(d1:Int))=((r+d1:Nat):Int):=by rw[wrapU];omega
   obtain⟨g,it,k3,k4⟩:=kzm h1 h1' h0 hr p (r+d1) e' (by omega) ho k1;refine⟨g,.next (step _ ?_) it,k3,k4⟩;rw[w2,condF (by rw[decide_eq_false_iff_not];omega)]
  ·have w2:IntKind.wrap .u64 ((r:Int)+(d1:Int))=((r+d1-18446744073709551616:Nat):Int):=by rw[wrapU];omega
   refine⟨p,.done (step _ ?_),by omega,k1⟩;rw[w2,condT (by rw[decide_eq_true_eq];omega)]
termination_by q=>q
theorem kbas{r2 r1 r0 d1 d0:Nat}(h2:r2<18446744073709551616)(hr1:r1<18446744073709551616)(hr:r0<18446744073709551616)(h1:d1<18446744073709551616)(h1':0<d1)(h0:d0<18446744073709551616) :
  ∃g:Nat,Iter kka (.fn r2 r1 r0 d1 d0) (g:Int)∧g<18446744073709551616∧(g=18446744073709551615∨((r2*18446744073709551616+r1)*18446744073709551616+r0)/(d1*18446744073709551616+d0)≤g):=by
 by_cases hc:d1≤r2
 ·refine⟨18446744073709551615,.done ?_,by omega,.inl rfl⟩;show khv _ _ _ _ _=_;unfold khv;rw[condT (by rw[decide_eq_true_eq];omega)];rfl
 ·have hr2:r2<d1:=by omega
  have hq:(r2*18446744073709551616+r1)/d1<18446744073709551616:=by
   rw[Nat.div_lt_iff_lt_mul h1'];have:(r2+1)*18446744073709551616≤d1*18446744073709551616:=Nat.mul_le_mul_right _ hr2;omega
  have hm:=Nat.mod_lt (r2*18446744073709551616+r1) h1'
  have first:((r2*18446744073709551616+r1)*18446744073709551616+r0)/(d1*18446744073709551616+d0)≤(r2*18446744073709551616+r1)/d1:=by
   rw[Nat.le_div_iff_mul_le h1'];have h3:=Nat.div_mul_le_self ((r2*18446744073709551616+r1)*18446744073709551616+r0) (d1*18446744073709551616+d0);rw[kn_mul (v:=d1*18446744073709551616+d0) rfl]at h3
   have h4:((r2*18446744073709551616+r1)*18446744073709551616+r0)/(d1*18446744073709551616+d0)*d1*18446744073709551616<(r2*18446744073709551616+r1+1)*18446744073709551616:=by
    rw[Nat.add_mul _ 1];omega
   have:=Nat.lt_of_mul_lt_mul_right h4;omega
  obtain⟨g,it,k3,k4⟩:=kzm h1 h1' h0 hr ((r2*18446744073709551616+r1)/d1) ((r2*18446744073709551616+r1)%d1) (by rw[Nat.mul_comm];exact Nat.div_add_mod _ _) hq (by omega) first
  refine⟨g,.next ?_ it,k3,.inr k4⟩;show khv _ _ _ _ _=_;unfold khv;rw[condF (by rw[decide_eq_false_iff_not];omega),kyy h1 hr1 hr2,Option.bind_some]
end Go.Ab

/- squeezed -/
set_option maxRecDepth 10000
namespace Go.Ab
open Go.Proofs Go.Num
theorem kmd{s:Nat}(hs:s≤64):2^(64-s)*2^s=18446744073709551616:=by rw[← Nat.pow_add,show 64-s+s=64 from by omega]
theorem k9o{s:Nat}(hs:s≤64)(t:List Nat):num B t%2^s=t.getD 0 0%2^s:=by
 cases t with
 | nil=>rfl
 | cons x t =>
  show(x+B*num B t)%2^s=x%2^s
  have e:B*num B t=2^s*(2^(64-s)*num B t):=by
   rw[← Nat.mul_assoc,Nat.mul_comm (2^s),kmd hs]
  rw[e,Nat.add_mul_mod_self_left]
theorem kbjy{s x:Nat}(hs:s≤64)(t:List Nat):(x+B*num B t)/2^s=(t.getD 0 0%2^s*2^(64-s)+x/2^s)+B*(num B t/2^s):=by
 have p:0<2^s:=Nat.pow_pos (by decide);have hm:=k9o hs t;have dm:=Nat.div_add_mod (num B t) (2^s);rw[hm]at dm;generalize t.getD 0 0%2^s=z at *
 generalize num B t/2^s=q at *
 have e:x+B*num B t=x+2^s*(B*q+2^(64-s)*z):=by
  rw[← dm,Nat.mul_add,Nat.mul_add,Nat.mul_left_comm B,← Nat.mul_assoc (2^s) (2^(64-s)),Nat.mul_comm (2^s) (2^(64-s)),kmd hs]
 rw[e,Nat.add_mul_div_left _ _ p,Nat.mul_comm (2^(64-s))];omega
theorem kbkr{s x z:Nat}(hs:s≤64)(hx:x<18446744073709551616):z%2^s*2^(64-s)+x/2^s<18446744073709551616∧x/2^s<2^(64-s)∧z%2^s*2^(64-s)<18446744073709551616:=by
 have p:0<2^s:=Nat.pow_pos (by decide);have e:=kmd hs;have h1:x/2^s<2^(64-s):=by rw[Nat.div_lt_iff_lt_mul p,e];exact hx
 have h2:=Nat.mul_le_mul_right (2^(64-s)) (Nat.mod_lt z p);rw[Nat.mul_comm (2^s),e,Nat.succ_mul]at h2;generalize x/2^s=f at *
 omega
theorem koj{q L:List Nat}{s:Nat}(lL:∀x∈L,x<B)(hs:s≤63)(hl:L.length≤8796093022208) :
  ∀(d i:Nat)(o:List Nat),i+d=L.length→o.length=L.length→num B (o.take i)+B^i*(num B (L.drop i)/2^s)=num B L/2^s→
   Iter kkp (.p18 s q L o L.length i) (digs B (num B q),digs B (num B L/2^s))
 | 0,i,o,hi,lo,e=>by
  have hi:i=L.length:=by omega
  subst hi;refine .done ?_;show ked _ _ _ _ _ _=_;unfold ked;rw[condF (by rw[decide_eq_false_iff_not];omega)];rw[List.take_of_length_le (by omega),List.drop_of_length_le (by omega)]at e;simp only[num,Nat.zero_div,Nat.mul_zero,Nat.add_zero]at e;rw[e]
 | d+1,i,o,hi,lo,e=>by
  have hi':i<L.length:=by omega
  have hio:i<o.length:=by omega
  have hx:L[i]<18446744073709551616:=lL L[i] (List.getElem_mem _);obtain⟨w1,w2,w3⟩:=kbkr (z:=(L.drop (i+1)).getD 0 0) (show s≤64 by omega) hx;have hg:(L.drop (i+1)).getD 0 0=L.getD (i+1) 0:=by simp[List.getD]
  have inv:∀w,w=(L.drop (i+1)).getD 0 0%2^s*2^(64-s)+L[i]/2^s→num B ((o.set i w).take (i+1))+B^(i+1)*(num B (L.drop (i+1))/2^s)=num B L/2^s:=by
   intro w hw;rw[List.drop_eq_getElem_cons hi']at e;simp only[num]at e;rw[kbjy (by omega),← hw]at e;rw[kc5 B (by simpa using hio),List.getElem_set_self,List.take_set_of_le (Nat.le_refl i),Nat.pow_succ,Nat.mul_assoc];rw[Nat.mul_add]at e;omega
  have sr:ishr .u64 (L[i]:Int) (s:Int)=((L[i]/2^s:Nat):Int):=by rw[kb3,Nat.min_eq_left (by omega)]
  have hL0:L[i]/2^s<18446744073709551616:=Nat.lt_of_le_of_lt (Nat.div_le_self _ _) hx;by_cases hs0:s=0
  ·subst hs0;refine .next (s':=.p18 ((0:Nat):Int) q L (o.set i (L[i]/2^0)) L.length ((i+1:Nat):Int)) ?_ (koj lL hs hl d (i+1) _ (by omega) (by simpa using lo) (inv _ (by rw[Nat.pow_zero,Nat.mod_one];omega)));show ked _ _ _ _ _ _=_;unfold ked;rw[condT (by rw[decide_eq_true_eq];omega),kbn hi',Option.bind_some,condF (by rfl),kz hio,Option.bind_some,sr,kbf hL0,Option.bind_some,condF (by rfl),kj (by omega)]
  by_cases hl1:i+1<L.length
  ·have hg':L.getD (i+1) 0=L[i+1]:=kec hl1;rw[hg,hg']at w1 w3 inv;refine .next (s':=.p18 s q L (o.set i (L[i+1]%2^s*2^(64-s)+L[i]/2^s)) L.length ((i+1:Nat):Int)) ?_ (koj lL hs hl d (i+1) _ (by omega) (by simpa using lo) (inv _ rfl));show ked _ _ _ _ _ _=_;unfold ked;have w64:IntKind.wrap .u64 (64-(s:Int))=((64-s:Nat):Int):=by rw[wrapU];omega
   have sl:ishl .u64 (L[i+1]:Int) ((64-s:Nat):Int)=((L[i+1]%2^s*2^(64-s):Nat):Int):=by
    rw[km4 _ _ (by omega)];congr 1;rw[← kmd (show s≤64 by omega),Nat.mul_comm (2^(64-s)) (2^s),Nat.mul_mod_mul_right]
   have io:ior .u64 ((L[i]/2^s:Nat):Int) ((L[i+1]%2^s*2^(64-s):Nat):Int)=((L[i+1]%2^s*2^(64-s)+L[i]/2^s:Nat):Int):=by rw[kys,krs w3 w2 (by omega)]
   have hio2:i<(o.set i (L[i]/2^s)).length:=by simpa using hio
   rw[condT (by rw[decide_eq_true_eq];omega),kbn hi',Option.bind_some,condF (by rw[decide_eq_false_iff_not];omega),kz hio,Option.bind_some,sr,kbf hL0,Option.bind_some,condT (by rw[decide_eq_true_eq];omega),kj (by omega),condT (by rw[decide_eq_true_eq];omega),Option.bind_some,kbn hl1,Option.bind_some,w64,condF (by rw[decide_eq_false_iff_not];omega),Option.bind_some,kec hio2,List.getElem_set_self,sl,io,kbf w1,Option.bind_some,List.set_set]
  ·have hg':L.getD (i+1) 0=0:=by simp[List.getD,List.getElem?_eq_none (Nat.le_of_not_lt hl1)]
   rw[hg,hg']at inv;refine .next (s':=.p18 s q L (o.set i (L[i]/2^s)) L.length ((i+1:Nat):Int)) ?_ (koj lL hs hl d (i+1) _ (by omega) (by simpa using lo) (inv _ (by rw[Nat.zero_mod];omega)));show ked _ _ _ _ _ _=_;unfold ked;rw[condT (by rw[decide_eq_true_eq];omega),kbn hi',Option.bind_some,condF (by rw[decide_eq_false_iff_not];omega),kz hio,Option.bind_some,sr,kbf hL0,Option.bind_some,condT (by rw[decide_eq_true_eq];omega),kj (by omega),condF (by rw[decide_eq_false_iff_not];omega)]
theorem cmp_ge{a b:Nat}:cmp a b≥0↔b≤a:=by
 unfold cmp;by_cases h:a<b
 ·rw[if_pos h];omega
 ·rw[if_neg h];by_cases h2:a=b
  ·rw[if_pos h2];omega
  ·rw[if_neg h2];omega
theorem kbb1{xs ys:List Nat}{lo n:Nat}(h:lo+n≤xs.length)(hy:ys.length=n):setW xs lo n ys=some (xs.take lo++ys++xs.drop (lo+n)):=by
 unfold setW;rw[if_pos ⟨h,hy⟩]
theorem k2u{s:Int}{r d q:List Nat}{j:Nat}{res:kcb}(hr:∀x∈r,x<B)(hd:∀x∈d,x<B)(hj:j<q.length)(hw:j+(d.length+1)≤r.length)(hrl:r.length≤1073741823)(hql:q.length≤1073741823)(hd0:0<num B d)
  (K:Iter kkp (.p6 s (r.take j++padD B (d.length+1) (num B ((r.drop j).take (d.length+1))%num B d)++r.drop (j+(d.length+1))) d d.length (q.set j (num B ((r.drop j).take (d.length+1))/num B d)) ((j:Int)-1)) res) :
  ∀g:Nat,g<18446744073709551616→num B ((r.drop j).take (d.length+1))/num B d≤g→Iter kkp (.p10 s r d d.length q j g (j,d.length+1)) res
 | g,hg,hge=>by
  have lw:((r.drop j).take (d.length+1)).length=d.length+1:=by simp;omega
  have tw:∀x∈(r.drop j).take (d.length+1),x<B:=fun x hx=>hr x (List.mem_of_mem_drop (List.mem_of_mem_take hx));have hP:=num_lt B1 tw;rw[lw]at hP
  have lg:(digs B g).length≤1:=by
   rw[kbb B2,Nat.pow_one];exact hg
  by_cases hc:num B d*g≤num B ((r.drop j).take (d.length+1))
  ·have hq:num B ((r.drop j).take (d.length+1))/num B d=g:=Nat.le_antisymm hge (by rw[Nat.le_div_iff_mul_le hd0,Nat.mul_comm];exact hc)
   have hm:num B ((r.drop j).take (d.length+1))-num B d*g=num B ((r.drop j).take (d.length+1))%num B d:=by
    have:=Nat.div_add_mod (num B ((r.drop j).take (d.length+1))) (num B d);rw[hq]at this;omega
   rw[hq]at K;refine .next ?_ K;show kiz _ _ _ _ _ _ _ _=_;unfold kiz
   have lp:(digs B (num B d*g)).length≤d.length+1:=by
    rw[kbb B2];omega
   rw[kbf hg,Option.bind_some,ki (by omega),Option.bind_some,ki (by rw[lw];omega),Option.bind_some,ki (kc4 B2 _),Option.bind_some,ki (kc4 B2 _),Option.bind_some];dsimp only;rw[kg B2,kg B2,kg B2,condT (by rw[decide_eq_true_eq,cmp_ge];exact hc),ki (by rw[lw];exact⟨by omega,lp,hc⟩),Option.bind_some,lw,hm,kbb1 (by omega) (kt6 _ _ _),Option.bind_some,kz hj,Option.bind_some,Option.bind_some,wrap64 (by omega) (by omega)]
  ·obtain⟨p,rfl⟩:∃p,g=p+1:=⟨g-1,by
    rcases Nat.eq_zero_or_pos g with e | e
    ·subst e;rw[Nat.mul_zero]at hc;omega
    ·omega⟩
   have hlt:num B ((r.drop j).take (d.length+1))/num B d<p+1:=by
    rw[Nat.div_lt_iff_lt_mul hd0,Nat.mul_comm];omega
   refine .next (s':=.p10 s r d d.length q j p (j,d.length+1)) ?_ (k2u hr hd hj hw hrl hql hd0 K p (by omega) (by omega));show kiz _ _ _ _ _ _ _ _=_;unfold kiz;rw[kbf hg,Option.bind_some,ki (by omega),Option.bind_some,ki (by rw[lw];omega),Option.bind_some,ki (kc4 B2 _),Option.bind_some,ki (kc4 B2 _),Option.bind_some];dsimp only;rw[kg B2,kg B2,kg B2,condF (by rw[decide_eq_false_iff_not,cmp_ge];exact hc),show IntKind.wrap .u64 (((p+1:Nat):Int)-1)=(p:Int)from by rw[wrapU];omega]
termination_by g=>g
end Go.Ab

/- squeezed -/
set_option maxRecDepth 10000
namespace Go.Ab
open Go.Proofs Go.Num
theorem k90{b:Nat}{zs:List Nat}{n:Nat}(h:zs.length=n+2):num b zs=num b (zs.take n)+b^n*(zs[n+1]*b+zs[n]):=by
 have e:num b zs=num b (zs.take (n+1+1)):=by rw[List.take_of_length_le (by omega)]
 rw[e,kc5 b (by omega),kc5 b (by omega),Nat.pow_succ,Nat.mul_add,Nat.mul_assoc,Nat.mul_comm b];omega
theorem k8v{b:Nat}{zs:List Nat}{n:Nat}(h:zs.length=n+3):num b zs=num b (zs.take n)+b^n*((zs[n+2]*b+zs[n+1])*b+zs[n]):=by
 have e:num b zs=num b (zs.take (n+1+1+1)):=by rw[List.take_of_length_le (by omega)]
 rw[e,kc5 b (by omega),kc5 b (by omega),kc5 b (by omega)];have e1:b^(n+1)*zs[n+1]=b^n*(zs[n+1]*b):=by rw[Nat.pow_succ,Nat.mul_assoc,Nat.mul_comm b]
 have e2:b^(n+1+1)*zs[n+1+1]=b^n*(zs[n+2]*b*b):=by rw[Nat.pow_succ,Nat.pow_succ,Nat.mul_assoc,Nat.mul_assoc,Nat.mul_comm b,Nat.mul_comm b]
 rw[e1,e2,Nat.add_mul,Nat.mul_add,Nat.mul_add];omega
theorem top_le{E T D p e:Nat}(hp:p<E)(hD:0<D):(p+E*T)/(e+E*D)≤T/D:=by
 have hE:0<E:=by omega
 have hv:0<e+E*D:=by have:=Nat.mul_pos hE hD;omega
 have h1:T<(T/D+1)*D:=by rw[Nat.mul_comm];exact Nat.lt_mul_div_succ T hD
 have h2:E*(T+1)≤E*((T/D+1)*D):=Nat.mul_le_mul_left _ h1;rw[Nat.mul_add,Nat.mul_one]at h2
 have h3:(p+E*T)/(e+E*D)<T/D+1:=by
  rw[Nat.div_lt_iff_lt_mul hv,Nat.mul_add,Nat.mul_left_comm _ E D];omega
 omega
theorem kbbr{dn P low Bj X Qh n1:Nat}(h1:n1+dn*(Bj*18446744073709551616)*Qh=X)(h2:n1=low+Bj*P):low+Bj*(P%dn)+dn*Bj*(P/dn+18446744073709551616*Qh)=X:=by
 have dm:=Nat.div_add_mod P dn;have e1:Bj*P=Bj*(dn*(P/dn))+Bj*(P%dn):=by rw[← Nat.mul_add,dm]
 have e2:dn*Bj*(P/dn)=Bj*(dn*(P/dn)):=by rw[Nat.mul_comm dn Bj,Nat.mul_assoc]
 have e3:dn*(Bj*18446744073709551616)*Qh=dn*Bj*(18446744073709551616*Qh):=by rw[← Nat.mul_assoc dn,Nat.mul_assoc (dn*Bj)]
 rw[Nat.mul_add,e2,← e3];omega
theorem kv2{s X m k:Nat}{d:List Nat}(hs:s≤63)(hk:d.length=k+2)(hd:∀x∈d,x<B)(ht:Trim d)(hm:m≤536870911)(hk2:k≤536870000) :
  ∀(i:Nat)(r q:List Nat),i≤m→r.length=m+(k+2)→q.length=m→(∀x∈r,x<B)→num B r+num B d*B^i*num B (q.drop i)=X→num B r<num B d*B^i→
   Iter kkp (.p6 s r d d.length q ((i:Int)-1)) (digs B (X/num B d),digs B (X%num B d/2^s))
 | 0,r,q,hi,lr,lq,tr,e,lt=>by
  rw[List.drop_zero,Nat.pow_zero,Nat.mul_one]at e;rw[Nat.pow_zero,Nat.mul_one]at lt;have hd0:0<num B d:=by omega
  have hq:X/num B d=num B q:=by rw[← e,Nat.add_mul_div_left _ _ hd0,Nat.div_eq_of_lt lt,Nat.zero_add]
  have hr:X%num B d=num B r:=by rw[← e,Nat.add_mul_mod_self_left,Nat.mod_eq_of_lt lt]
  rw[hq,hr];have hl:=kly tr;have key:=koj (q:=q) (kbe B2 (num B r)) hs (by omega) (digs B (num B r)).length 0 (List.replicate (digs B (num B r)).length 0) (by omega) (by simp) (by simp[num]);rw[kg B2]at key;refine .next ?_ key;show khk _ _ _ _ _ _=_;unfold khk;rw[condF (by rw[decide_eq_false_iff_not];omega),kd4 (by omega),Option.bind_some];rfl
 | j+1,r,q,hi,lr,lq,tr,e,lt=>by
  have hd0:0<num B d:=by
   rcases Nat.eq_zero_or_pos (num B d)with h | h
   ·rw[h,Nat.zero_mul]at lt;omega
   ·exact h
  have hdB:=num_lt B1 hd;rw[hk]at hdB;have lw:((r.drop j).take (d.length+1)).length=k+3:=by simp;omega
  have tw:∀x∈(r.drop j).take (d.length+1),x<B:=fun x hx=>tr x (List.mem_of_mem_drop (List.mem_of_mem_take hx));have ltake:(r.take j).length=j:=by simp;omega
  have er:num B r=num B (r.take j)+B^j*num B ((r.drop j).take (d.length+1))+B^(j+(d.length+1))*num B (r.drop (j+(d.length+1))):=by
   have e1:num B r=num B (r.take j++((r.drop j).take (d.length+1)++(r.drop j).drop (d.length+1))):=by rw[List.take_append_drop,List.take_append_drop]
   rw[kc7,kc7,ltake,lw,List.drop_drop]at e1;have e3:j+(k+3)=j+(d.length+1):=by omega
   rw[e1,Nat.mul_add (B^j),← Nat.mul_assoc (B^j),← Nat.pow_add,e3];omega
  have hlow:=num_lt (b:=B) B1 (xs:=r.take j) fun x hx=>tr x (List.mem_of_mem_take hx);rw[ltake]at hlow
  have hrest:num B (r.drop (j+(d.length+1)))=0:=by
   rcases Nat.eq_zero_or_pos (num B (r.drop (j+(d.length+1))))with h | h
   ·exact h
   ·exfalso;have h1:B^(j+(d.length+1))*1≤B^(j+(d.length+1))*num B (r.drop (j+(d.length+1))):=Nat.mul_le_mul_left _ h;have h2:num B d*B^(j+1)≤B^(k+2)*B^(j+1):=Nat.mul_le_mul_right _ (by omega);rw[← Nat.pow_add,show k+2+(j+1)=j+(d.length+1)from by omega]at h2;omega
  rw[hrest,Nat.mul_zero,Nat.add_zero]at er
  have hP:num B ((r.drop j).take (d.length+1))<num B d*B:=by
   have h1:B^j*num B ((r.drop j).take (d.length+1))<B^j*(num B d*B):=by
    have:num B d*B^(j+1)=B^j*(num B d*B):=by rw[Nat.pow_succ,Nat.mul_left_comm]
    omega
   exact Nat.lt_of_mul_lt_mul_left h1
  have hq:num B ((r.drop j).take (d.length+1))/num B d<18446744073709551616:=by
   rw[Nat.div_lt_iff_lt_mul hd0,Nat.mul_comm];exact hP
  have i2:j+(k+2)<r.length:=by omega
  have i1:j+(k+1)<r.length:=by omega
  have i0:j+k<r.length:=by omega
  have g2:((r.drop j).take (d.length+1))[k+2]=r[j+(k+2)]:=by simp
  have g1:((r.drop j).take (d.length+1))[k+1]=r[j+(k+1)]:=by simp
  have g0:((r.drop j).take (d.length+1))[k]=r[j+k]:=by simp
  have top:=k8v (b:=B) lw;rw[g2,g1,g0]at top;have topd:=k90 (b:=B) hk
  have hd1:0<d[k+1]:=by
   have hne:d≠[]:=by intro h;rw[h]at hk;simp at hk
   have:=ht hne;rw[List.getLast_eq_getElem]at this;have e:d.length-1=k+1:=by omega
   simp only[e]at this;omega
  have lpt:(((r.drop j).take (d.length+1)).take k).length=k:=by simp;omega
  have hpt:=num_lt (b:=B) B1 (xs:=((r.drop j).take (d.length+1)).take k) fun x hx=>tw x (List.mem_of_mem_take hx);rw[lpt]at hpt;have tl:=top_le (E:=B^k) (T:=(r[j+(k+2)]*B+r[j+(k+1)])*B+r[j+k]) (D:=d[k+1]*B+d[k]) (e:=num B (d.take k)) hpt (by have:1*B≤d[k+1]*B:=Nat.mul_le_mul_right _ hd1;have:=B0;omega);rw[← top,← topd]at tl;obtain⟨g,itg,hg1,hg2⟩:=kbas (r2:=r[j+(k+2)]) (r1:=r[j+(k+1)]) (r0:=r[j+k]) (d1:=d[k+1]) (d0:=d[k]) (tr _ (List.getElem_mem _)) (tr _ (List.getElem_mem _)) (tr _ (List.getElem_mem _)) (hd _ (List.getElem_mem _)) hd1 (hd _ (List.getElem_mem _))
  have hge:num B ((r.drop j).take (d.length+1))/num B d≤g:=by
   rcases hg2 with h | h
   ·omega
   ·exact Nat.le_trans tl h
  have hmod:=Nat.mod_lt (num B ((r.drop j).take (d.length+1))) hd0
  have hpd:num B (padD B (d.length+1) (num B ((r.drop j).take (d.length+1))%num B d))=num B ((r.drop j).take (d.length+1))%num B d:=by
   refine kwm B0 _ _ ?_;have:B^(k+2)≤B^(d.length+1):=Nat.pow_le_pow_right B1 (by omega);omega
  have nr:num B (r.take j++padD B (d.length+1) (num B ((r.drop j).take (d.length+1))%num B d)++r.drop (j+(d.length+1)))=num B (r.take j)+B^j*(num B ((r.drop j).take (d.length+1))%num B d):=by
   rw[kc7,kc7,hrest,Nat.mul_zero,Nat.add_zero,ltake,hpd]
  have hjq:j<q.length:=by omega
  have IH:=kv2 (s:=s) (X:=X) hs hk hd ht hm hk2 j (r.take j++padD B (d.length+1) (num B ((r.drop j).take (d.length+1))%num B d)++r.drop (j+(d.length+1))) (q.set j (num B ((r.drop j).take (d.length+1))/num B d)) (by omega) (by simp[kt6];omega) (by simpa using lq) (by
    intro x hx;rcases List.mem_append.1 hx with hx | hx
    ·rcases List.mem_append.1 hx with hx | hx
     ·exact tr x (List.mem_of_mem_take hx)
     ·exact k26 B0 _ _ x hx
    ·exact tr x (List.mem_of_mem_drop hx)) (by
    rw[nr,kr5 hjq];simp only[num];rw[Nat.pow_succ]at e;exact kbbr e er) (by
    rw[nr];have:B^j*(num B ((r.drop j).take (d.length+1))%num B d+1)≤B^j*num B d:=Nat.mul_le_mul_left _ hmod;rw[Nat.mul_add,Nat.mul_one,Nat.mul_comm _ (num B d)]at this;omega)
  refine .next (s':=.p10 s r d d.length q j g (j,d.length+1)) ?_ (k2u tr hd hjq (by omega) (by omega) (by omega) hd0 IH g hg1 hge);show khk _ _ _ _ _ _=_;unfold khk;have w0:IntKind.wrap .i64 ((j:Int)+(d.length:Int))=((j+(k+2):Nat):Int):=by rw[wrap64 (by omega) (by omega)];omega
  rw[condT (by rw[decide_eq_true_eq];omega),show((j+1:Nat):Int)-1=(j:Int)from by omega,w0];rw[show IntKind.wrap .i64 (((j+(k+2):Nat):Int)-1)=((j+(k+1):Nat):Int)from by rw[wrap64 (by omega) (by omega)];omega];rw[show IntKind.wrap .i64 (((j+(k+2):Nat):Int)-2)=((j+k:Nat):Int)from by rw[wrap64 (by omega) (by omega)];omega];rw[show IntKind.wrap .i64 ((d.length:Int)-1)=((k+1:Nat):Int)from by rw[wrap64 (by omega) (by omega)];omega];rw[show IntKind.wrap .i64 ((d.length:Int)-2)=(k:Int)from by rw[wrap64 (by omega) (by omega)];omega];rw[show IntKind.wrap .i64 (((j+(k+2):Nat):Int)+1)=((j+(d.length+1):Nat):Int)from by rw[wrap64 (by omega) (by omega)];omega];rw[kz i2,Option.bind_some,kz i1,Option.bind_some,kz i0,Option.bind_some,kbn (by omega),Option.bind_some,kbn (by omega),Option.bind_some,kec i2,kec i1,kec i0,kcw itg,Option.bind_some,kzw (by omega) (by omega),Option.bind_some]
end Go.Ab

/- squeezed -/
set_option maxRecDepth 10000
namespace Go.Ab
open Go.Proofs Go.Num
theorem k5b{xs ys:List Nat}(lx:∀x∈xs,x<B)(ly:∀x∈ys,x<B)(ty:Trim ys)(hy:2≤ys.length)(hxl:xs.length≤64)(hle:ys.length≤xs.length) :
  Iter kkp (.fn xs ys) (digs B (num B xs/num B ys),digs B (num B xs%num B ys)):=by
 obtain⟨k,hk⟩:∃k,ys.length=k+2:=⟨ys.length-2,by omega⟩;have hky:k+1<ys.length:=by omega
 have hy0:0<ys[k+1]:=by
  have hne:ys≠[]:=by intro h;rw[h]at hk;simp at hk
  have:=ty hne;rw[List.getLast_eq_getElem]at this;have e:ys.length-1=k+1:=by omega
  simp only[e]at this;omega
 have hyB:ys[k+1]<18446744073709551616:=ly _ (List.getElem_mem _);obtain⟨hs,hb1,hb2⟩:=kw5 hyB hy0;obtain⟨r,itr,lr,tr,vr⟩:=k0j (n:=64-bl ys[k+1]) lx hs (by omega);obtain⟨p,itp,lp,tp,vp⟩:=k0j (n:=64-bl ys[k+1]) ly hs (by omega);have hs':64-bl ys[k+1]≤63:=hs;generalize hsd:64-bl ys[k+1]=s at *
 have ps:0<2^s:=Nat.pow_pos (by decide);have e64:=kmd (show s≤64 by omega)
 have eys:num B ys=num B (ys.take (k+1))+B^(k+1)*ys[k+1]:=by
  have:num B ys=num B (ys.take (k+1+1)):=by rw[List.take_of_length_le (by omega)]
  rw[this,kc5 B hky]
 have hlow:=num_lt (b:=B) B1 (xs:=ys.take (k+1)) fun x hx=>ly x (List.mem_of_mem_take hx);have hl1:(ys.take (k+1)).length=k+1:=by simp;omega
 rw[hl1]at hlow
 have y1:ys[k+1]+1≤2^(64-s):=by
  have:ys[k+1]<2^(64-s):=Nat.lt_of_mul_lt_mul_right (a:=2^s) (by rw[e64];exact hb2);omega
 have up:num B ys*2^s<B^(k+2):=by
  have h1:num B ys<B^(k+1)*(ys[k+1]+1):=by rw[Nat.mul_add,Nat.mul_one];omega
  have h2:B^(k+1)*(ys[k+1]+1)≤B^(k+1)*2^(64-s):=Nat.mul_le_mul_left _ y1;have h3:num B ys*2^s<B^(k+1)*2^(64-s)*2^s:=Nat.mul_lt_mul_of_pos_right (by omega) ps;rw[Nat.mul_assoc,e64]at h3;exact h3
 have lo:B^(k+1)*9223372036854775808≤num B ys*2^s:=by
  have h1:B^(k+1)*ys[k+1]≤num B ys:=by omega
  have h2:=Nat.mul_le_mul_right (2^s) h1;rw[Nat.mul_assoc]at h2;exact Nat.le_trans (Nat.mul_le_mul_left _ hb1) h2
 have ld:(digs B (num B p)).length=k+2:=by
  rw[vp];refine Nat.le_antisymm ((kbb B2 _ _).2 up) ?_;rcases Nat.lt_or_ge (digs B (num B ys*2^s)).length (k+2)with h | h
  ·have:=(kbb B2 (num B ys*2^s) (k+1)).1 (by omega);omega
  ·exact h
 have hX:num B r<num B p*B^(xs.length+1-(k+2)):=by
  rw[vr,vp];have h1:num B xs*2^s<B^xs.length*2^s:=Nat.mul_lt_mul_of_pos_right (num_lt B1 lx) ps;have h2:B^xs.length*2^s≤B^xs.length*9223372036854775808:=Nat.mul_le_mul_left _ (show 2^s≤2^63 from Nat.pow_le_pow_right (by decide) hs');have h3:=Nat.mul_le_mul_right (B^(xs.length+1-(k+2))) lo;rw[Nat.mul_right_comm,← Nat.pow_add,show k+1+(xs.length+1-(k+2))=xs.length from by omega]at h3;omega
 have key:=kv2 (s:=s) (X:=num B xs*2^s) (m:=xs.length+1-(k+2)) (k:=k) (d:=digs B (num B p)) hs' ld (kbe B2 _) (kc4 B2 _) (by omega) (by omega) (xs.length+1-(k+2)) r (List.replicate (xs.length+1-(k+2)) 0) (Nat.le_refl _) (by rw[lr];omega) (by simp) tr (by simp[num,vr]) (by rw[kg B2];exact hX);rw[kg B2,vp,Nat.mul_div_mul_right _ _ ps,Nat.mul_mod_mul_right,Nat.mul_div_cancel _ ps]at key;refine .next ?_ key;show kne _ _=_;unfold kne;have w1:IntKind.wrap .i64 ((ys.length:Int)-1)=((k+1:Nat):Int):=by rw[wrap64 (by omega) (by omega)];omega
 have w2:IntKind.wrap .u64 ((s:Nat):Int)=(s:Int):=kci (by omega);have w3:IntKind.wrap .i64 ((r.length:Int)-((digs B (num B p)).length:Int))=((xs.length+1-(k+2):Nat):Int):=by rw[lr,ld,wrap64 (by omega) (by omega)];omega
 rw[w1,kbn hky,Option.bind_some,ki (by omega),Option.bind_some,Int.toNat_natCast,hsd,w2,kcw itr,Option.bind_some,kcw itp,Option.bind_some,w3,kd4 (by omega),Option.bind_some,← vp,List.length_replicate,wrap64 (by omega) (by omega)]
theorem kbb7{h:AH}{s t:Sl}{xs ys:List Nat}(n:Nats h s xs)(m:Nats h t ys)(ty:Trim ys)(hy:2≤ys.length)(hxl:xs.length≤64)(hle:ys.length≤xs.length) :
  ∃(a b:Sl)(h':AH),go (.fn F.kb8 [s.v,t.v]) h=some (.tup [a.v,b.v],h')∧Nats h' a (digs B (num B xs/num B ys))∧Nats h' b (digs B (num B xs%num B ys))∧Grow h h'∧Own h a∧Own h b:=by
 obtain⟨_,h',e,a,b,rfl,k⟩:=k39 (k5b n.lt m.lt ty hy hxl hle) n m;exact⟨a,b,h',e,k⟩
end Go.Ab

/- squeezed -/
set_option maxRecDepth 10000
namespace Go.Ab
open Go.Proofs Go.Num
theorem kbds{h:AH}{i:Nat}{a b:Sl}{xs ys:List Nat}(c:h.has i [a.v,b.v] T.kr)(n:Nats h a xs)(m:Nats h b ys):go (.fn F.kgn [(⟨some (.new i 0),2,.is 2⟩:Sl).v]) h=some (.bool (rt xs&&rt ys),h):=by
 have r:Rows h ⟨some (.new i 0),2,.is 2⟩ [(a,xs),(b,ys)]:=⟨Cells.of_has c rfl,fun p hp=>by
  simp at hp;rcases hp with rfl | rfl
  ·exact n
  ·exact m,by simp⟩
 rw[kl7 r];simp
theorem k6h{h:AH}{s:Sl}{xs:List Nat}(n:Nats h s xs)(d:Int)(c:0<d∧d<18446744073709551616∧xs.length≤8796093022208):∃(s':Sl)(h':AH),go (.fn F.kfi [s.v,.int .u64 d]) h=some (.tup [s'.v,.int .u64 ((num B xs%d.toNat:Nat):Int)],h')∧Nats h' s' (digs B (num B xs/d.toNat))∧Grow h h'∧Own h s':=by
 obtain⟨x,rfl⟩:∃x:Nat,d=(x:Int):=⟨d.toNat,by omega⟩;rw[Int.toNat_natCast];exact kbbg n (show x<18446744073709551616 by omega) (by omega) c.2.2
theorem Nats.of_has1{h:AH}{i:Nat}{e:TypeId}{v:Int}{x:Nat}(b:h.has i [.int .u64 v] e)(z:u64P v=some x):Nats h ⟨some (.new i 0),1,.is 1⟩ [x]:=by
 obtain⟨rfl,hx⟩:=kq3 z;exact Nats.of_has (xs:=[x]) b (by simpa using hx) (by simp)
theorem kuz{h:AH}{s:Sl}{xs:List Nat}(n:Nats h s xs):ky Pg T.kf s.v h=some (xs.map u64,xs.length):=by
 have c:=n.cells;rw[← kj6]at c;rw[km0 c,n.len]
theorem kbgk{h h0:AH}{i:Nat}{e:TypeId}{v:Int}{x:Nat}{s:Sl}{xs:List Nat}(b:h.has i [.int .u64 v] e)(z:u64P v=some x)(n:Nats h s xs)(g0:Grow h0 h)(hi:h0.blks.size≤i)(hl:xs.length≤1073741824) :
  ∃(s':Sl)(h':AH),ku Pg (⟨some (.new i 0),1,.is 1⟩:Sl) (xs.map u64) xs.length T.kf 1 h=some (s'.v,h')∧Nats h' s' (x::xs)∧Grow h h'∧Own h0 s':=by
 have n1:=Nats.of_has1 b z;obtain⟨rfl,hx⟩:=kq3 z;cases xs with
 | nil =>
  obtain⟨s',e1,c,o⟩:=ksx (P:=Pg) (elem:=T.kf) (m:=1) (by omega) n1.cells;exact⟨s',h,e1,⟨c,by simpa using hx,by simp⟩,Grow.refl h,o h0 fun r hr=>by cases hr;exact⟨_,_,rfl,hi⟩⟩
 | cons y ys =>
  refine⟨_,_,kh6 (c:=1) rfl (by simp) (kpz (by simp at hl⊢;omega)) n1.cells,⟨⟨rfl,by simp;omega,fun k w hw=>⟨_,rfl,?_⟩⟩,?_,?_⟩,Grow.push _ _,fun r hr=>?_⟩
  ·have:=AH.cell_push h ([u64 x]++(y::ys).map u64) T.kf k;rw[Ref.add_new,Nat.zero_add];rw[List.map_cons,List.map_nil];rw[this]
   simpa using hw
  ·intro w hw;rcases List.mem_cons.1 hw with rfl | hw
   ·exact hx
   ·exact n.lt w hw
  ·have:=n.short;simp at hl⊢;omega
  ·cases hr;exact⟨_,_,rfl,g0.size⟩
end Go.Ab

/- squeezed -/
set_option maxRecDepth 10000
namespace Go.Ab
open Go.Proofs Go.Num
inductive kji
 | fn (x1:List Nat) (x2:List Nat)
 | no
abbrev kh9:=List Nat×List Nat×Int
noncomputable def kms(x1 x2:List Nat):Option (kji⊕kh9) :=
 cond (!((rt x1&&rt x2))) (some (.inr ([],[],1))) (cond (decide ((List.length x2:Int)=0)) (some (.inr ([],[],3))) ((need (Trim x1)).bind fun c7_0=>(need (Trim x2)).bind fun c7_1=>cond (decide ((cmp (num B x1) (num B x2))<0)) ((need (List.length x1≤8796093022208)).bind fun c9_0=>some (.inr ([],x1,0))) (cond (decide ((List.length x2:Int)=1)) ((atI x2 0).bind fun y10=>(need (0<((y10:Int))∧((y10:Int))<18446744073709551616∧List.length x1≤8796093022208)).bind fun c11_0=>(u64P (((num B x1%Int.toNat ((y10:Int)):Nat):Int))).bind fun p12=>some (.inr (digs B (num B x1/Int.toNat ((y10:Int))),digs B p12,0))) ((need (Trim x2)).bind fun c10_0=>(need (2≤List.length x2)).bind fun c10_1=>(need (List.length x1≤64)).bind fun c10_2=>(need (List.length x2≤List.length x1)).bind fun c10_3=>some (.inr (digs B (num B x1/num B x2),digs B (num B x1%num B x2),0))))))
noncomputable def k1u:kji→Option (kji⊕kh9)
 | .fn x1 x2=>kms x1 x2
 | .no=>none
@[reducible] def kbei(h0:AH)(r:kh9)(v:AV)(h':AH):Prop:=∃s1:Sl,∃s2:Sl,v=.tup [s1.v,s2.v,.int .i64 r.2.2]∧Nats h' s1 r.1∧Nats h' s2 r.2.1∧Grow h0 h'∧Own h0 s1∧Own h0 s2
def kt8(r:kh9):kji→Prop
 | .fn x1 x2=>∀{h:AH}{a1:Sl}{a2:Sl},Nats h a1 x1→Nats h a2 x2→Runs (go (.fn F.kdq [a1.v,a2.v]) h) (kbei h r)
 | .no=>True
theorem kbgq{r:kh9}{o:kji⊕kh9}{x1 x2:List Nat}(e:kms x1 x2=some o)(good:GoodS (kt8 r) r o):kt8 r (.fn x1 x2):=by
 intro h a1 a2 n1 n2;rw[kban];unfold kms at e;rw[n2.len];refine Runs.new fun H3 b3 g3=>?_;refine Runs.step (kbds b3 (n1.grow g3) (n2.grow g3)) ?_;refine Runs.step (seen rfl) ?_;refine Runs.cond (fun k5=>?_) (fun k5=>?_)
 ·replace e:=(condT k5).symm.trans e;cases e;cases good;exact Runs.ret ⟨(⟨none,0,.is 0⟩:Sl),(⟨none,0,.is 0⟩:Sl),rfl,(Nats.nil _),(Nats.nil _),g3,(Own.nil _),(Own.nil _)⟩
 ·replace e:=(condF k5).symm.trans e;refine Runs.cond (fun k6=>?_) (fun k6=>?_)
  ·replace e:=(condT k6).symm.trans e;cases e;cases good;exact Runs.ret ⟨(⟨none,0,.is 0⟩:Sl),(⟨none,0,.is 0⟩:Sl),rfl,(Nats.nil _),(Nats.nil _),g3,(Own.nil _),(Own.nil _)⟩
  ·replace e:=(condF k6).symm.trans e;obtain⟨c7_0,q7_0,e⟩:=Option.bind_eq_some_iff.1 e;obtain⟨c7_1,q7_1,e⟩:=Option.bind_eq_some_iff.1 e;refine Runs.step (kqi (n1.grow g3) (n2.grow g3)  c7_0.down c7_1.down) ?_;refine Runs.step (seen (kc _ _)) ?_;refine Runs.cond (fun k8=>?_) (fun k8=>?_)
   ·replace e:=(condT k8).symm.trans e;obtain⟨c9_0,q9_0,e⟩:=Option.bind_eq_some_iff.1 e;obtain⟨s9,H9,e9,n9,g9,o9⟩:=kki (n1.grow g3)  c9_0.down;refine Runs.step e9 ?_;refine Runs.step (seen (asSl_v _)) ?_;cases e;cases good;exact Runs.ret ⟨(⟨none,0,.is 0⟩:Sl),s9,rfl,(Nats.nil _),n9,(g3.trans g9),(Own.nil _),(o9.of_le g3)⟩
   ·replace e:=(condF k8).symm.trans e;refine Runs.cond (fun k9=>?_) (fun k9=>?_)
    ·replace e:=(condT k9).symm.trans e;obtain⟨y10,q10,e⟩:=Option.bind_eq_some_iff.1 e;obtain⟨r10,j10,l10⟩:=(n2.grow g3).atI q10;refine Runs.step j10 ?_;refine Runs.step (rdc l10 (kc _ _)) ?_;obtain⟨c11_0,q11_0,e⟩:=Option.bind_eq_some_iff.1 e;obtain⟨s11,H11,e11,n11,g11,o11⟩:=k6h (n1.grow g3) ((y10:Int))  c11_0.down;refine Runs.step e11 ?_;refine Runs.step rfl ?_;refine Runs.step (seen (asSl_v _)) ?_;refine Runs.step (seen (kc _ _)) ?_;obtain⟨p12,q12,e⟩:=Option.bind_eq_some_iff.1 e;obtain⟨s12,H12,e12,n12,g12,o12⟩:=kst q12;refine Runs.step e12 ?_;refine Runs.step (seen (asSl_v _)) ?_;cases e;cases good;exact Runs.ret ⟨s11,s12,rfl,(n11.grow g12),n12,((g3.trans g11).trans g12),(o11.of_le g3),(o12.of_le (g3.trans g11))⟩
    ·replace e:=(condF k9).symm.trans e;obtain⟨c10_0,q10_0,e⟩:=Option.bind_eq_some_iff.1 e;obtain⟨c10_1,q10_1,e⟩:=Option.bind_eq_some_iff.1 e;obtain⟨c10_2,q10_2,e⟩:=Option.bind_eq_some_iff.1 e;obtain⟨c10_3,q10_3,e⟩:=Option.bind_eq_some_iff.1 e;obtain⟨s10,s10b,H10,e10,n10,n10b,g10,o10,o10b⟩:=kbb7 (n1.grow g3) (n2.grow g3)  c10_0.down c10_1.down c10_2.down c10_3.down;refine Runs.step e10 ?_;refine Runs.step rfl ?_;refine Runs.step (seen (asSl_v _)) ?_;refine Runs.step (seen (asSl_v _)) ?_;cases e;cases good;exact Runs.ret ⟨s10,s10b,rfl,n10,n10b,(g3.trans g10),(o10.of_le g3),(o10b.of_le g3)⟩
theorem k6q{s:kji}{r:kh9}(it:Iter k1u s r):kt8 r s:=Iter.ind (fun s o e good=>by
 cases s with
 | fn x1 x2=>exact @kbgq _ _ x1 x2 e good
 | no=>exact True.intro
 ) it
inductive kd8
 | fn (x1:List Nat) (x2:List Nat)
 | p4 (x1:List Nat) (x2:List Nat) (x3:List Nat) (x4:List Nat) (a5:Int)
 | p9 (x1:List Nat) (x2:List Nat) (x3:List Nat) (x4:List Nat) (a5:Int) (a6:Int) (a7:Int)
abbrev kcn:=List Nat×List Nat
noncomputable def klz(x1 x2:List Nat):Option (kd8⊕kcn) :=
 (mkI (List.length x1:Int) (List.length x1:Int)).bind fun m3=>some (.inl (.p4 x1 x2 (List.replicate m3 0) [] (IntKind.wrap .i64 ((List.length x1:Int)-1))))
noncomputable def kh5(x1 x2 x3 x4:List Nat)(a5:Int):Option (kd8⊕kcn) :=
 cond (decide (a5≥0)) ((atI x1 a5).bind fun y7=>(u64P ((y7:Int))).bind fun w10=>(need (List.length x4≤1073741824)).bind fun c9=>(need (∀x∈(w10::x4),x<D)).bind fun c11_0=>some (.inl (.p9 x1 x2 x3 (digs D (num D (w10::x4))) a5 0 65535))) ((need (∀x∈x3,x<D)).bind fun c7_0=>some (.inr (digs D (num D x3),x4)))
noncomputable def khp(x1 x2 x3 x4:List Nat)(a5 a6 a7:Int):Option (kd8⊕kcn) :=
 cond (decide (a6<a7)) ((u64P (IntKind.wrap .u64 (Int.tdiv (IntKind.wrap .u64 ((IntKind.wrap .u64 (a6+a7))+1)) 2))).bind fun w10=>(need (∀x∈x2,x<D)).bind fun c11_0=>(need (∀x∈[w10],x<D)).bind fun c11_1=>(need (List.length x2+List.length [w10]≤8796093022208)).bind fun c11_2=>(need (∀x∈(digs D (num D x2*num D [w10])),x<D)).bind fun c12_0=>(need (∀x∈x4,x<D)).bind fun c12_1=>(need (Trim (digs D (num D x2*num D [w10])))).bind fun c12_2=>(need (Trim x4)).bind fun c12_3=>cond (decide ((cmp (num D (digs D (num D x2*num D [w10]))) (num D x4))≤0)) (some (.inl (.p9 x1 x2 x3 x4 a5 (IntKind.wrap .u64 (Int.tdiv (IntKind.wrap .u64 ((IntKind.wrap .u64 (a6+a7))+1)) 2)) a7))) (some (.inl (.p9 x1 x2 x3 x4 a5 a6 (IntKind.wrap .u64 ((IntKind.wrap .u64 (Int.tdiv (IntKind.wrap .u64 ((IntKind.wrap .u64 (a6+a7))+1)) 2))-1)))))) ((inI (List.length x3) a5).bind fun j9=>(u64P a6).bind fun w10=>(u64P a6).bind fun w12=>(need (∀x∈x2,x<D)).bind fun c13_0=>(need (∀x∈[w12],x<D)).bind fun c13_1=>(need (List.length x2+List.length [w12]≤8796093022208)).bind fun c13_2=>(need (∀x∈x4,x<D)).bind fun c14_0=>(need (∀x∈(digs D (num D x2*num D [w12])),x<D)).bind fun c14_1=>(need (List.length x4≤1073741824)).bind fun c14_2=>(need (List.length (digs D (num D x2*num D [w12]))≤List.length x4)).bind fun c14_3=>(need (num D (digs D (num D x2*num D [w12]))≤num D x4)).bind fun c14_4=>some (.inl (.p4 x1 x2 (List.set x3 j9 w10) (digs D (num D x4-num D (digs D (num D x2*num D [w12])))) (IntKind.wrap .i64 (a5-1)))))
noncomputable def kjn:kd8→Option (kd8⊕kcn)
 | .fn x1 x2=>klz x1 x2
 | .p4 x1 x2 x3 x4 a5=>kh5 x1 x2 x3 x4 a5
 | .p9 x1 x2 x3 x4 a5 a6 a7=>khp x1 x2 x3 x4 a5 a6 a7
@[reducible] def kuf(h0:AH)(r:kcn)(v:AV)(h':AH):Prop:=∃s1:Sl,∃s2:Sl,v=.tup [s1.v,s2.v]∧Nats h' s1 r.1∧Nats h' s2 r.2∧Grow h0 h'∧Own h0 s1∧Own h0 s2
def kie(r:kcn):kd8→Prop
 | .fn x1 x2=>∀{h:AH}{a1:Sl}{a2:Sl},Nats h a1 x1→Nats h a2 x2→Runs (go (.fn F.kdh [a1.v,a2.v]) h) (kuf h r)
 | .p4 x1 x2 x3 x4 a5=>∀{h0 h:AH}{a1:Sl}{a2:Sl}{a3:Sl}{a4:Sl}{i3:Nat},Grow h0 h→Nats h a1 x1→Nats h a2 x2→Vec h a3 i3 x3→Nats h a4 x4→h0.blks.size≤i3→Av a1 i3 x1→Av a2 i3 x2→Av a4 i3 x4→Own h0 a4→Runs (go (.pt F.kdh Td.kpq [(0,a1.v),(1,a2.v),(6,a3.v),(7,a4.v),(8,.int .i64 a5)]) h) (kuf h0 r)
 | .p9 x1 x2 x3 x4 a5 a6 a7=>∀{h0 h:AH}{a1:Sl}{a2:Sl}{a3:Sl}{a4:Sl}{i3:Nat},Grow h0 h→Nats h a1 x1→Nats h a2 x2→Vec h a3 i3 x3→Nats h a4 x4→h0.blks.size≤i3→Av a1 i3 x1→Av a2 i3 x2→Av a4 i3 x4→Own h0 a4→Runs (go (.pt F.kdh Td.kna [(0,a1.v),(1,a2.v),(6,a3.v),(7,a4.v),(8,.int .i64 a5),(9,.int .u64 a6),(10,.int .u64 a7)]) h) (kuf h0 r)
theorem kbj9{r:kcn}{o:kd8⊕kcn}{x1 x2:List Nat}(e:klz x1 x2=some o)(good:GoodS (kie r) r o):kie r (.fn x1 x2):=by
 intro h a1 a2 n1 n2;rw[kbci];unfold klz at e;rw[n1.len];obtain⟨m3,q3,e⟩:=Option.bind_eq_some_iff.1 e;refine Runs.mk q3 kc0 fun s3 H3 v3 g3=>?_;cases e;exact good g3 (n1.grow g3) (n2.grow g3) v3 (Nats.nil _) (Nat.le_refl _) (Av.of_base n1 (Nat.le_refl _)) (Av.of_base n2 (Nat.le_refl _)) (Av.nil _ _) (Own.nil _)
theorem k44{r:kcn}{o:kd8⊕kcn}{x1 x2 x3 x4:List Nat}{a5:Int}(e:kh5 x1 x2 x3 x4 a5=some o)(good:GoodS (kie r) r o):kie r (.p4 x1 x2 x3 x4 a5):=by
 intro h0 h a1 a2 a3 a4 i3 g0 n1 n2 v3 n4 hi3 av1_3 av2_3 av4_3 ow4;rw[kbkv];unfold kh5 at e;rw[n1.len];refine Runs.cond (fun k6=>?_) (fun k6=>?_)
 ·replace e:=(condT k6).symm.trans e;obtain⟨y7,q7,e⟩:=Option.bind_eq_some_iff.1 e;obtain⟨r7,j7,l7⟩:=n1.atI q7;refine Runs.step j7 ?_;refine Runs.step (rdc l7 (kc _ _)) ?_;refine Runs.new fun H8 b8 g8=>?_;refine Runs.step (kuz (n4.grow g8)) ?_;obtain⟨w10,z10,e⟩:=Option.bind_eq_some_iff.1 e;obtain⟨c9,q9,e⟩:=Option.bind_eq_some_iff.1 e;obtain⟨s9,H9,e9,n9,g9,o9⟩:=kbgk b8 z10 (n4.grow g8) g8 (Nat.le_refl _) c9.down;refine Runs.step e9 ?_;refine Runs.step (asSl_v _) ?_;obtain⟨c11_0,q11_0,e⟩:=Option.bind_eq_some_iff.1 e;obtain⟨s11,e11,n11,o11⟩:=kk9 n9  c11_0.down;refine Runs.step e11 ?_;refine Runs.step (seen (asSl_v _)) ?_;cases e;exact good ((g0.trans g8).trans g9) (n1.grow (g8.trans g9)) (n2.grow (g8.trans g9)) (v3.grow (g8.trans g9)) n11 hi3 av1_3 av2_3 (Av.of_own (o11 _ o9) (v3).inn) ((o11 _ o9).of_le g0)
 ·replace e:=(condF k6).symm.trans e;obtain⟨c7_0,q7_0,e⟩:=Option.bind_eq_some_iff.1 e;obtain⟨s7,e7,n7,o7⟩:=kk9 v3.nats  c7_0.down;refine Runs.step e7 ?_;refine Runs.step (seen (asSl_v _)) ?_;cases e;cases good;exact Runs.ret ⟨s7,a4,rfl,n7,n4,g0,((o7 _ (v3.own hi3)).of_le (Grow.refl _)),(ow4.of_le (Grow.refl _))⟩
theorem k4e{r:kcn}{o:kd8⊕kcn}{x1 x2 x3 x4:List Nat}{a5 a6 a7:Int}(e:khp x1 x2 x3 x4 a5 a6 a7=some o)(good:GoodS (kie r) r o):kie r (.p9 x1 x2 x3 x4 a5 a6 a7):=by
 intro h0 h a1 a2 a3 a4 i3 g0 n1 n2 v3 n4 hi3 av1_3 av2_3 av4_3 ow4;rw[kbdp];unfold khp at e;rw[v3.nats.len];refine Runs.cond (fun k8=>?_) (fun k8=>?_)
 ·replace e:=(condT k8).symm.trans e;refine Runs.new fun H9 b9 g9=>?_;obtain⟨w10,z10,e⟩:=Option.bind_eq_some_iff.1 e;obtain⟨c11_0,q11_0,e⟩:=Option.bind_eq_some_iff.1 e;obtain⟨c11_1,q11_1,e⟩:=Option.bind_eq_some_iff.1 e;obtain⟨c11_2,q11_2,e⟩:=Option.bind_eq_some_iff.1 e;obtain⟨s11,H11,e11,n11,g11,o11⟩:=ksz (n2.grow g9) (Nats.of_has1 b9 z10)  c11_0.down c11_1.down c11_2.down;refine Runs.step e11 ?_;refine Runs.step (seen (asSl_v _)) ?_;obtain⟨c12_0,q12_0,e⟩:=Option.bind_eq_some_iff.1 e;obtain⟨c12_1,q12_1,e⟩:=Option.bind_eq_some_iff.1 e;obtain⟨c12_2,q12_2,e⟩:=Option.bind_eq_some_iff.1 e;obtain⟨c12_3,q12_3,e⟩:=Option.bind_eq_some_iff.1 e;refine Runs.step (kv6 n11 (n4.grow (g9.trans g11))  c12_0.down c12_1.down c12_2.down c12_3.down) ?_;refine Runs.step (seen (kc _ _)) ?_;refine Runs.cond (fun k13=>?_) (fun k13=>?_)
  ·replace e:=(condT k13).symm.trans e;cases e;exact good ((g0.trans g9).trans g11) (n1.grow (g9.trans g11)) (n2.grow (g9.trans g11)) (v3.grow (g9.trans g11)) (n4.grow (g9.trans g11)) hi3 av1_3 av2_3 av4_3 (ow4.of_le (Grow.refl _))
  ·replace e:=(condF k13).symm.trans e;cases e;exact good ((g0.trans g9).trans g11) (n1.grow (g9.trans g11)) (n2.grow (g9.trans g11)) (v3.grow (g9.trans g11)) (n4.grow (g9.trans g11)) hi3 av1_3 av2_3 av4_3 (ow4.of_le (Grow.refl _))
 ·replace e:=(condF k8).symm.trans e;obtain⟨j9,q9,e⟩:=Option.bind_eq_some_iff.1 e;refine Runs.step (v3.idx rfl q9) ?_;obtain⟨w10,z10,e⟩:=Option.bind_eq_some_iff.1 e;refine Runs.vput v3 rfl q9 z10 fun H10 v10 u10=>?_;have n1_10:=n1.upda av1_3 u10;have n2_10:=n2.upda av2_3 u10;have n4_10:=n4.upda av4_3 u10;refine Runs.new fun H11 b11 g11=>?_;obtain⟨w12,z12,e⟩:=Option.bind_eq_some_iff.1 e;obtain⟨c13_0,q13_0,e⟩:=Option.bind_eq_some_iff.1 e;obtain⟨c13_1,q13_1,e⟩:=Option.bind_eq_some_iff.1 e;obtain⟨c13_2,q13_2,e⟩:=Option.bind_eq_some_iff.1 e;obtain⟨s13,H13,e13,n13,g13,o13⟩:=ksz (n2_10.grow g11) (Nats.of_has1 b11 z12)  c13_0.down c13_1.down c13_2.down;refine Runs.step e13 ?_;refine Runs.step (seen (asSl_v _)) ?_;obtain⟨c14_0,q14_0,e⟩:=Option.bind_eq_some_iff.1 e;obtain⟨c14_1,q14_1,e⟩:=Option.bind_eq_some_iff.1 e;obtain⟨c14_2,q14_2,e⟩:=Option.bind_eq_some_iff.1 e;obtain⟨c14_3,q14_3,e⟩:=Option.bind_eq_some_iff.1 e;obtain⟨c14_4,q14_4,e⟩:=Option.bind_eq_some_iff.1 e;obtain⟨s14,H14,e14,n14,g14,o14⟩:=k4d (n4_10.grow (g11.trans g13)) n13  c14_0.down c14_1.down c14_2.down c14_3.down c14_4.down;refine Runs.step e14 ?_;refine Runs.step (seen (asSl_v _)) ?_;cases e;exact good ((((g0.updr hi3 u10).trans g11).trans g13).trans g14) (n1_10.grow ((g11.trans g13).trans g14)) (n2_10.grow ((g11.trans g13).trans g14)) (v10.grow ((g11.trans g13).trans g14)) n14 hi3 av1_3 av2_3 (Av.of_own o14 ((v10.grow (g11.trans g13))).inn) (o14.of_le (((g0.updr hi3 u10).trans g11).trans g13))
theorem kble{s:kd8}{r:kcn}(it:Iter kjn s r):kie r s:=Iter.ind (fun s o e good=>by
 cases s with
 | fn x1 x2=>exact @kbj9 _ _ x1 x2 e good
 | p4 x1 x2 x3 x4 a5=>exact @k44 _ _ x1 x2 x3 x4 a5 e good
 | p9 x1 x2 x3 x4 a5 a6 a7=>exact @k4e _ _ x1 x2 x3 x4 a5 a6 a7 e good
 ) it
end Go.Ab

/- squeezed -/
set_option maxRecDepth 10000
namespace Go.Ab
open Go.Proofs Go.Num
def divN(xs ys:List Nat):List Nat×List Nat×Int :=
 if rt xs=true∧rt ys=true then(if ys=[]then([],[],3)else(digs B (num B xs/num B ys),digs B (num B xs%num B ys),0))else([],[],1)
theorem krc{b:Nat}(hb:1≤b){xs:List Nat}(t:Trim xs)(h:xs≠[]):0<num b xs:=by
 rcases Nat.eq_zero_or_pos (num b xs)with e | e
 ·exact absurd (koy hb t e) h
 ·exact e
theorem cmp_lt{a b:Nat}:cmp a b<0↔a<b:=by
 unfold cmp;by_cases h:a<b
 ·rw[if_pos h];omega
 ·rw[if_neg h];by_cases h2:a=b
  ·rw[if_pos h2];omega
  ·rw[if_neg h2];omega
theorem cmp_le{a b:Nat}:cmp a b≤0↔a≤b:=by
 unfold cmp;by_cases h:a<b
 ·rw[if_pos h];omega
 ·rw[if_neg h];by_cases h2:a=b
  ·rw[if_pos h2];omega
  ·rw[if_neg h2];omega
theorem k7o{xs ys:List Nat}(lx:∀x∈xs,x<B)(ly:∀x∈ys,x<B):Iter k1u (.fn xs ys) (divN xs ys):=by
 refine .done ?_;show kms _ _=_;unfold kms divN;cases hx:rt xs with
 | false=>simp
 | true =>
  cases hy:rt ys with
  | false=>simp
  | true =>
   obtain⟨lx64,tx⟩:=rt_iff.1 hx;obtain⟨ly64,ty⟩:=rt_iff.1 hy;simp only[Bool.and_self,Bool.not_true,cond_false,and_self,if_true];by_cases h0:ys=[]
   ·subst h0;rfl
   ·have hl:ys.length≠0:=by simpa using h0
    have hp:=krc B1 ty h0;rw[if_neg h0,condF (by rw[decide_eq_false_iff_not];omega),ki tx,Option.bind_some,ki ty,Option.bind_some];by_cases hc:num B xs<num B ys
    ·rw[condT (by rw[decide_eq_true_eq,cmp_lt];exact hc),ki (by omega),Option.bind_some,Nat.div_eq_of_lt hc,Nat.mod_eq_of_lt hc,kbp,kcs B2 lx tx]
    ·rw[condF (by rw[decide_eq_false_iff_not,cmp_lt];exact hc)];by_cases h1:ys.length=1
     ·obtain⟨y,rfl⟩:=List.length_eq_one_iff.1 h1;have hy:y<18446744073709551616:=ly y (by simp);have e:num B [y]=y:=by simp[num]
      rw[e]at hp⊢;have hm:=Nat.mod_lt (num B xs) hp;have a0:=kbn (xs:=[y]) (i:=0) (by simp);rw[show((0:Nat):Int)=0 from rfl]at a0;rw[condT (by rw[decide_eq_true_eq];omega),a0,Option.bind_some];rw[List.getElem_cons_zero,ki ⟨by omega,by omega,by omega⟩,Option.bind_some,Int.toNat_natCast,kbf (by omega),Option.bind_some]
     ·have hle:=ky4 lx ly ty (Nat.le_of_not_lt hc);rw[condF (by rw[decide_eq_false_iff_not];omega),Option.bind_some,ki (by omega),Option.bind_some,ki lx64,Option.bind_some,ki hle,Option.bind_some]
theorem kfu{h:AH}{s t:Sl}{xs ys:List Nat}(n:Nats h s xs)(m:Nats h t ys):∃(a b:Sl)(h':AH),go (.fn F.kdq [s.v,t.v]) h=some (.tup [a.v,b.v,.int .i64 (divN xs ys).2.2],h')∧Nats h' a (divN xs ys).1∧Nats h' b (divN xs ys).2.1∧Grow h h'∧Own h a∧Own h b:=by
 obtain⟨_,h',e,a,b,rfl,k⟩:=k6q (k7o n.lt m.lt) n m;exact⟨a,b,h',e,k⟩
theorem ktx{a c:Nat}(h:a≤c):(digs D a).length≤(digs D c).length:=by
 rw[kbb D2];exact Nat.lt_of_le_of_lt h ((kbb D2 c _).1 (Nat.le_refl _))
theorem k9h{xs ys q:List Nat}{R j:Nat}{res:kcn}(ly:∀y∈ys,y<D)(hl:ys.length≤536870912)(hy:0<num D ys)(hR:(digs D R).length≤1073741824)(hj:j<q.length)
  (K:Iter kjn (.p4 xs ys (q.set j (R/num D ys)) (digs D (R%num D ys)) (IntKind.wrap .i64 ((j:Int)-1))) res) :
  ∀(n low high:Nat),high-low=n→low≤R/num D ys→R/num D ys≤high→high<65536→Iter kjn (.p9 xs ys q (digs D R) j low high) res:=by
 intro n
 induction n using Nat.strongRecOn with
 | ind n ih =>
  intro low high hn h1 h2 h3;have tR:=kc4 D2 R;have lR:=kbe D2 R;by_cases hc:low<high
  ·have hm:IntKind.wrap .u64 (Int.tdiv (IntKind.wrap .u64 ((IntKind.wrap .u64 ((low:Int)+(high:Int)))+1)) 2)=(((low+high+1)/2:Nat):Int):=by
    rw[← Int.natCast_add,kci (by omega),show(((low+high:Nat):Int)+1)=((low+high+1:Nat):Int)from by omega,kci (by omega)];rw[show Int.tdiv ((low+high+1:Nat):Int) 2=(((low+high+1)/2:Nat):Int)from rfl,kci (by omega)]
   obtain⟨mid,hmid⟩:∃mid,mid=(low+high+1)/2:=⟨_,rfl⟩;have e1:num D [mid]=mid:=by simp[num]
   have lm:∀x∈[mid],x<D:=by
    intro x hx;rw[List.mem_singleton.1 hx];exact show mid<65536 by omega
   have unf:∀o,cond (decide (num D ys*mid≤R)) (some (Sum.inl (β:=kcn) (kd8.p9 xs ys q (digs D R) j mid high))) (some (.inl (.p9 xs ys q (digs D R) j low (IntKind.wrap .u64 ((mid:Int)-1)))))=o→kjn (.p9 xs ys q (digs D R) j low high)=o:=by
    intro o ho;show khp _ _ _ _ _ _ _=_;unfold khp;rw[condT (by rw[decide_eq_true_eq];omega),hm,← hmid,kbf (by omega),Option.bind_some,ki ly,Option.bind_some,ki lm,Option.bind_some,ki (by simp;omega),Option.bind_some,ki (kbe D2 _),Option.bind_some,ki lR,Option.bind_some,ki (kc4 D2 _),Option.bind_some,ki tR,Option.bind_some,kg D2,kg D2,e1];rw[← ho];congr 1;rw[decide_eq_decide];exact cmp_le
   by_cases hle:num D ys*mid≤R
   ·have hq:mid≤R/num D ys:=by rw[Nat.le_div_iff_mul_le hy,Nat.mul_comm];exact hle
    refine .next (unf _ ?_) (ih (high-mid) (by omega) mid high rfl hq h2 h3);rw[condT (by rw[decide_eq_true_eq];exact hle)]
   ·have hq:R/num D ys<mid:=by rw[Nat.div_lt_iff_lt_mul hy,Nat.mul_comm];omega
    refine .next (unf _ ?_) (ih (mid-1-low) (by omega) low (mid-1) rfl h1 (by omega) (by omega));rw[condF (by rw[decide_eq_false_iff_not];exact hle),show IntKind.wrap .u64 ((mid:Int)-1)=((mid-1:Nat):Int)from by rw[wrapU];omega]
  ·have hq:R/num D ys=low:=by omega
   rw[hq]at K;have e1:num D [low]=low:=by simp[num]
   have lm:∀x∈[low],x<D:=by
    intro x hx;rw[List.mem_singleton.1 hx];exact show low<65536 by omega
   have hml:num D ys*low≤R:=by rw[← hq];exact Nat.mul_div_le R _
   have hmod:R-num D ys*low=R%num D ys:=by
    have:=Nat.div_add_mod R (num D ys);rw[hq]at this;omega
   refine .next ?_ K;show khp _ _ _ _ _ _ _=_;unfold khp;rw[condF (by rw[decide_eq_false_iff_not];omega),kz hj,Option.bind_some,kbf (by omega),Option.bind_some,Option.bind_some,ki ly,Option.bind_some,ki lm,Option.bind_some,ki (by simp;omega),Option.bind_some,ki lR,Option.bind_some,ki (kbe D2 _),Option.bind_some,ki hR,Option.bind_some,e1,kg D2,kg D2,ki (ktx hml),Option.bind_some,ki hml,Option.bind_some,hmod]
theorem kxa{xs ys:List Nat}(lx:∀x∈xs,x<D)(ly:∀y∈ys,y<D)(hl:ys.length≤536870912)(hxl:xs.length≤536870912)(hy:0<num D ys) :
  ∀(i:Nat)(q:List Nat)(r:Nat),i≤xs.length→q.length=xs.length→(∀x∈q,x<D)→r<num D ys→num D (xs.drop i)=num D ys*num D (q.drop i)+r→
   Iter kjn (.p4 xs ys q (digs D r) ((i:Int)-1)) (digs D (num D xs/num D ys),digs D (num D xs%num D ys))
 | 0,q,r,hi,lq,tq,hr,e=>by
  rw[List.drop_zero,List.drop_zero]at e;refine .done ?_;show kh5 _ _ _ _ _=_;unfold kh5;rw[condF (by rw[decide_eq_false_iff_not];omega),ki tq,Option.bind_some,e,Nat.mul_add_div hy,Nat.div_eq_of_lt hr,Nat.add_zero,Nat.mul_add_mod,Nat.mod_eq_of_lt hr]
 | j+1,q,r,hi,lq,tq,hr,e=>by
  have hj:j<xs.length:=by omega
  have hjq:j<q.length:=by omega
  have hx:xs[j]<65536:=lx _ (List.getElem_mem _)
  have hR:(xs[j]+D*r)/num D ys<D:=by
   rw[Nat.div_lt_iff_lt_mul hy];have:D*(r+1)≤D*num D ys:=Nat.mul_le_mul_left _ hr;rw[Nat.mul_add,Nat.mul_one]at this;have h2:xs[j]<D:=hx;omega
  have lr:(digs D r).length≤ys.length:=by
   rw[kbb D2];exact Nat.lt_trans hr (num_lt (by decide) ly)
  have lR:(digs D (xs[j]+D*r)).length≤1073741824:=by
   have:(digs D (xs[j]+D*r)).length≤ys.length+1:=by
    rw[kbb D2,Nat.pow_succ];have h1:D*(r+1)≤D*D^ys.length:=Nat.mul_le_mul_left _ (Nat.lt_trans hr (num_lt (by decide) ly));rw[Nat.mul_add,Nat.mul_one,Nat.mul_comm D (D^ys.length)]at h1;have h2:xs[j]<D:=hx;omega
   omega
  have lcons:∀x∈xs[j]::digs D r,x<D:=by
   intro x hx';rcases List.mem_cons.1 hx' with rfl | h
   ·exact hx
   ·exact kbe D2 r x h
  have hmod:=Nat.mod_lt (xs[j]+D*r) hy
  have IH:=kxa lx ly hl hxl hy j (q.set j ((xs[j]+D*r)/num D ys)) ((xs[j]+D*r)%num D ys) (by omega) (by simpa using lq) (set_lt tq hR) hmod (by
   rw[kr5 hjq,List.drop_eq_getElem_cons hj];simp only[num];have dm:=Nat.div_add_mod (xs[j]+D*r) (num D ys);rw[e,Nat.mul_add D,Nat.mul_add (num D ys),Nat.mul_left_comm D];omega)
  refine .next (s':=.p9 xs ys q (digs D (xs[j]+D*r)) (j:Int) ((0:Nat):Int) ((65535:Nat):Int)) ?_ (k9h ly hl hy lR hjq (by rw[wrap64 (by omega) (by omega)];exact IH) _ 0 65535 rfl (Nat.zero_le _) (by have:(xs[j]+D*r)/num D ys<65536:=hR;omega) (by omega));show kh5 _ _ _ _ _=_;unfold kh5;rw[condT (by rw[decide_eq_true_eq];omega),show((j+1:Nat):Int)-1=(j:Int)from by omega,kbn hj,Option.bind_some,kbf (by omega),Option.bind_some,ki (by omega),Option.bind_some,ki lcons,Option.bind_some];simp only[num,kg D2];rfl
theorem kbif{xs ys:List Nat}(lx:∀x∈xs,x<D)(ly:∀y∈ys,y<D)(hl:ys.length≤536870912)(hxl:xs.length≤536870912)(hy:0<num D ys):Iter kjn (.fn xs ys) (digs D (num D xs/num D ys),digs D (num D xs%num D ys)):=by
 have key:=kxa lx ly hl hxl hy xs.length (List.replicate xs.length 0) 0 (Nat.le_refl _) (by simp) (fun x hx=>by rw[List.eq_of_mem_replicate hx];decide) hy (by simp[num]);rw[kbp]at key;refine .next ?_ key;show klz _ _=_;unfold klz;rw[kd4 (by omega),Option.bind_some,wrap64 (by omega) (by omega)]
theorem k8p{h:AH}{s t:Sl}{xs ys:List Nat}(n:Nats h s xs)(m:Nats h t ys)(lx:∀x∈xs,x<D)(ly:∀y∈ys,y<D)(hxl:xs.length≤536870912)(hl:ys.length≤536870912)(hy:0<num D ys) :
  ∃(a b:Sl)(h':AH),go (.fn F.kdh [s.v,t.v]) h=some (.tup [a.v,b.v],h')∧Nats h' a (digs D (num D xs/num D ys))∧Nats h' b (digs D (num D xs%num D ys))∧Grow h h'∧Own h a∧Own h b:=by
 obtain⟨_,h',e,a,b,rfl,k⟩:=kble (kbif lx ly hl hxl hy) n m;exact⟨a,b,h',e,k⟩
end Go.Ab

/- squeezed -/
set_option maxRecDepth 10000
namespace Go.Ab
open Go.Proofs Go.Num
inductive kjh
 | fn (x1:List Nat) (x2:List Nat)
 | no
abbrev kij:=List Nat×List Nat×Int
noncomputable def kl4(x1 x2:List Nat):Option (kjh⊕kij) :=
 cond (!(rt x1)) (some (.inr ([],[],1))) (cond (!(rt x2)) (some (.inr ([],[],1))) (cond (decide ((List.length x2:Int)=0)) (some (.inr ([],[],3))) ((need (List.length x1≤1073741824)).bind fun c8_0=>(need (List.length x2≤1073741824)).bind fun c9_0=>(need (∀x∈(digs D (num B x1)),x<D)).bind fun c10_0=>(need (∀x∈(digs D (num B x2)),x<D)).bind fun c10_1=>(need (List.length (digs D (num B x1))≤536870912)).bind fun c10_2=>(need (List.length (digs D (num B x2))≤536870912)).bind fun c10_3=>(need (0<num D (digs D (num B x2)))).bind fun c10_4=>(need (∀x∈(digs D (num D (digs D (num B x1))/num D (digs D (num B x2)))),x<D)).bind fun c11_0=>(need (Trim (digs D (num D (digs D (num B x1))/num D (digs D (num B x2)))))).bind fun c11_1=>(need (List.length (digs D (num D (digs D (num B x1))/num D (digs D (num B x2))))≤536870912)).bind fun c11_2=>(need (∀x∈(digs D (num D (digs D (num B x1))%num D (digs D (num B x2)))),x<D)).bind fun c12_0=>(need (Trim (digs D (num D (digs D (num B x1))%num D (digs D (num B x2)))))).bind fun c12_1=>(need (List.length (digs D (num D (digs D (num B x1))%num D (digs D (num B x2))))≤536870912)).bind fun c12_2=>some (.inr (digs B (num D (digs D (num D (digs D (num B x1))/num D (digs D (num B x2))))),digs B (num D (digs D (num D (digs D (num B x1))%num D (digs D (num B x2))))),0)))))
noncomputable def k2c:kjh→Option (kjh⊕kij)
 | .fn x1 x2=>kl4 x1 x2
 | .no=>none
@[reducible] def kbi6(h0:AH)(r:kij)(v:AV)(h':AH):Prop:=∃s1:Sl,∃s2:Sl,v=.tup [s1.v,s2.v,.int .i64 r.2.2]∧Nats h' s1 r.1∧Nats h' s2 r.2.1∧Grow h0 h'∧Own h0 s1∧Own h0 s2
def ktk(r:kij):kjh→Prop
 | .fn x1 x2=>∀{h:AH}{a1:Sl}{a2:Sl},Nats h a1 x1→Nats h a2 x2→Runs (go (.fn F.krm [a1.v,a2.v]) h) (kbi6 h r)
 | .no=>True
theorem k5p{r:kij}{o:kjh⊕kij}{x1 x2:List Nat}(e:kl4 x1 x2=some o)(good:GoodS (ktk r) r o):ktk r (.fn x1 x2):=by
 intro h a1 a2 n1 n2;rw[k34];unfold kl4 at e;rw[n2.len];refine Runs.step (kd9 n1) ?_;refine Runs.step (seen rfl) ?_;refine Runs.step (kd9 n2) ?_;refine Runs.step (seen rfl) ?_;refine Runs.cond (fun k5=>?_) (fun k5=>?_)
 ·replace e:=(condT k5).symm.trans e;cases e;cases good;exact Runs.ret ⟨(⟨none,0,.is 0⟩:Sl),(⟨none,0,.is 0⟩:Sl),rfl,(Nats.nil _),(Nats.nil _),(Grow.refl _),(Own.nil _),(Own.nil _)⟩
 ·replace e:=(condF k5).symm.trans e;refine Runs.cond (fun k6=>?_) (fun k6=>?_)
  ·replace e:=(condT k6).symm.trans e;cases e;cases good;exact Runs.ret ⟨(⟨none,0,.is 0⟩:Sl),(⟨none,0,.is 0⟩:Sl),rfl,(Nats.nil _),(Nats.nil _),(Grow.refl _),(Own.nil _),(Own.nil _)⟩
  ·replace e:=(condF k6).symm.trans e;refine Runs.cond (fun k7=>?_) (fun k7=>?_)
   ·replace e:=(condT k7).symm.trans e;cases e;cases good;exact Runs.ret ⟨(⟨none,0,.is 0⟩:Sl),(⟨none,0,.is 0⟩:Sl),rfl,(Nats.nil _),(Nats.nil _),(Grow.refl _),(Own.nil _),(Own.nil _)⟩
   ·replace e:=(condF k7).symm.trans e;obtain⟨c8_0,q8_0,e⟩:=Option.bind_eq_some_iff.1 e;obtain⟨s8,H8,e8,n8,g8,o8⟩:=kkd n1  c8_0.down;refine Runs.step e8 ?_;refine Runs.step (seen (asSl_v _)) ?_;obtain⟨c9_0,q9_0,e⟩:=Option.bind_eq_some_iff.1 e;obtain⟨s9,H9,e9,n9,g9,o9⟩:=kkd (n2.grow g8)  c9_0.down;refine Runs.step e9 ?_;refine Runs.step (seen (asSl_v _)) ?_;obtain⟨c10_0,q10_0,e⟩:=Option.bind_eq_some_iff.1 e;obtain⟨c10_1,q10_1,e⟩:=Option.bind_eq_some_iff.1 e;obtain⟨c10_2,q10_2,e⟩:=Option.bind_eq_some_iff.1 e;obtain⟨c10_3,q10_3,e⟩:=Option.bind_eq_some_iff.1 e;obtain⟨c10_4,q10_4,e⟩:=Option.bind_eq_some_iff.1 e;obtain⟨s10,s10b,H10,e10,n10,n10b,g10,o10,o10b⟩:=k8p (n8.grow g9) n9  c10_0.down c10_1.down c10_2.down c10_3.down c10_4.down;refine Runs.step e10 ?_;refine Runs.step rfl ?_;refine Runs.step (seen (asSl_v _)) ?_;refine Runs.step (seen (asSl_v _)) ?_;obtain⟨c11_0,q11_0,e⟩:=Option.bind_eq_some_iff.1 e;obtain⟨c11_1,q11_1,e⟩:=Option.bind_eq_some_iff.1 e;obtain⟨c11_2,q11_2,e⟩:=Option.bind_eq_some_iff.1 e;obtain⟨s11,H11,e11,n11,g11,o11⟩:=ktu n10  c11_0.down c11_1.down c11_2.down;refine Runs.step e11 ?_;refine Runs.step rfl ?_;refine Runs.step (seen (asSl_v _)) ?_;refine Runs.step (seen rfl) ?_;obtain⟨c12_0,q12_0,e⟩:=Option.bind_eq_some_iff.1 e;obtain⟨c12_1,q12_1,e⟩:=Option.bind_eq_some_iff.1 e;obtain⟨c12_2,q12_2,e⟩:=Option.bind_eq_some_iff.1 e;obtain⟨s12,H12,e12,n12,g12,o12⟩:=ktu (n10b.grow g11)  c12_0.down c12_1.down c12_2.down;refine Runs.step e12 ?_;refine Runs.step rfl ?_;refine Runs.step (seen (asSl_v _)) ?_;refine Runs.step (seen rfl) ?_;cases e;cases good;exact Runs.ret ⟨s11,s12,rfl,(n11.grow g12),n12,((((g8.trans g9).trans g10).trans g11).trans g12),(o11.of_le ((g8.trans g9).trans g10)),(o12.of_le (((g8.trans g9).trans g10).trans g11))⟩
theorem kba5{s:kjh}{r:kij}(it:Iter k2c s r):ktk r s:=Iter.ind (fun s o e good=>by
 cases s with
 | fn x1 x2=>exact @k5p _ _ x1 x2 e good
 | no=>exact True.intro
 ) it
end Go.Ab

/- squeezed -/
set_option maxRecDepth 10000
namespace Go.Ab
open Go.Proofs Go.Num
theorem kbjz{xs ys:List Nat}(lx:∀x∈xs,x<B)(ly:∀x∈ys,x<B):Iter k2c (.fn xs ys) (divN xs ys):=by
 refine .done ?_;show kl4 _ _=_;unfold kl4 divN;cases hx:rt xs with
 | false=>simp
 | true =>
  cases hy:rt ys with
  | false=>simp
  | true =>
   obtain⟨lx64,tx⟩:=rt_iff.1 hx;obtain⟨ly64,ty⟩:=rt_iff.1 hy;simp only[Bool.not_true,cond_false,and_self,if_true];by_cases h0:ys=[]
   ·subst h0;rfl
   ·have hl:ys.length≠0:=by simpa using h0
    have hp:=krc B1 ty h0;have k1:=kp0 lx lx64;have k2:=kp0 ly ly64;have k3:=ktx (Nat.div_le_self (num B xs) (num B ys));have k4:=ktx (Nat.mod_le (num B xs) (num B ys));rw[if_neg h0,condF (by rw[decide_eq_false_iff_not];omega),ki (by omega),Option.bind_some,ki (by omega),Option.bind_some,ki (kbe D2 _),Option.bind_some,ki (kbe D2 _),Option.bind_some,ki (by omega),Option.bind_some,ki (by omega),Option.bind_some];rw[ki (by rw[kg D2];exact hp),Option.bind_some,ki (kbe D2 _),Option.bind_some,ki (kc4 D2 _),Option.bind_some,ki (by simp only[kg D2];omega),Option.bind_some,ki (kbe D2 _),Option.bind_some,ki (kc4 D2 _),Option.bind_some,ki (by simp only[kg D2];omega),Option.bind_some];simp only[kg D2]
theorem k7c{h:AH}{s t:Sl}{xs ys:List Nat}(n:Nats h s xs)(m:Nats h t ys):∃(a b:Sl)(h':AH),go (.fn F.krm [s.v,t.v]) h=some (.tup [a.v,b.v,.int .i64 (divN xs ys).2.2],h')∧Nats h' a (divN xs ys).1∧Nats h' b (divN xs ys).2.1∧Grow h h'∧Own h a∧Own h b:=by
 obtain⟨_,h',e,a,b,rfl,k⟩:=kba5 (kbjz n.lt m.lt) n m;exact⟨a,b,h',e,k⟩
theorem k3q{h:AH}{s t:Sl}{xs ys:List Nat}(n:Nats h s xs)(m:Nats h t ys):∃(b:Sl)(h':AH),go (.fn F.kub [s.v,t.v]) h=some (b.v,h')∧Nats h' b (divN xs ys).2.1∧Grow h h'∧Own h b:=by
 obtain⟨a,b,h',e,na,nb,g,oa,ob⟩:=k7c n m;refine⟨b,h',?_,nb,g,ob⟩;rw[k4n,e];simp only[Option.bind_some,k3k,asSl_v,kc]
theorem kyt{h h0:AH}{i:Nat}{e:TypeId}{s:Sl}{xs:List Nat}(b:h.has i [] e)(n:Nats h s xs)(g0:Grow h0 h)(hi:h0.blks.size≤i)(hl:xs.length≤1073741824) :
  ∃(s':Sl)(h':AH),ku Pg (⟨some (.new i 0),0,.is 0⟩:Sl) (xs.map u64) xs.length T.kf 1 h=some (s'.v,h')∧Nats h' s' xs∧Grow h h'∧Own h0 s':=by
 have n1:Nats h ⟨some (.new i 0),0,.is 0⟩ []:=⟨Cells.of_has (n:=1) (m:=0) b rfl,by simp,by simp⟩;cases xs with
 | nil =>
  obtain⟨s',e1,c,o⟩:=ksx (P:=Pg) (elem:=T.kf) (m:=1) (by omega) n1.cells;exact⟨s',h,e1,⟨c,by simp,by simp⟩,Grow.refl h,o h0 fun r hr=>by cases hr;exact⟨_,_,rfl,hi⟩⟩
 | cons y ys =>
  refine⟨_,_,kh6 (c:=0) rfl (by simp) (kpz (by simp at hl⊢;omega)) n1.cells,⟨⟨rfl,by simp,fun k w hw=>⟨_,rfl,?_⟩⟩,n.lt,n.short⟩,Grow.push _ _,fun r hr=>?_⟩
  ·have:=AH.cell_push h ([]++(y::ys).map u64) T.kf k;rw[Ref.add_new,Nat.zero_add];rw[List.map_nil,this];exact hw
  ·cases hr;exact⟨_,_,rfl,g0.size⟩
end Go.Ab
