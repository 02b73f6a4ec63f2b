/- Words and laws that the last text joins. -/
import Derived.Test.YtgfeahhgoiidiaaGreatDoorPU1b
import Derived.Test.YtgfeahhgoiidiaaGreatDoorPG3
set_option linter.unusedVariables false
set_option linter.unusedSimpArgs false
set_option linter.unusedSectionVars false
namespace Go.Ab
theorem kuo:∀(n w:Nat),w≠0→w<2^n→∃k m,k<n∧w=2^(k+1)*m+2^k:=by
 intro n
 induction n with
 | zero=>intro w h0 h;omega
 | succ n ih =>
  intro w h0 h;rcases Nat.mod_two_eq_zero_or_one w with e | e
  ·obtain⟨k,m,hk,hm⟩:=ih (w/2) (by omega) (by rw[Nat.pow_succ]at h;omega);refine⟨k+1,m,by omega,?_⟩;have:w=2*(w/2):=by omega
   rw[this,hm,Nat.mul_add,← Nat.mul_assoc,← Nat.pow_succ',← Nat.pow_succ']
  ·exact⟨0,w/2,by omega,by simp;omega⟩
theorem kho{k m:Nat}(j:Nat):(2^(k+1)*m+2^k).testBit j=if j<k then false else if j=k then true else m.testBit (j-(k+1)):=by
 rw[Nat.testBit_two_pow_mul_add _ (Nat.pow_lt_pow_right (by decide) (Nat.lt_succ_self k)),Nat.testBit_two_pow]
 grind
theorem kyj(k m:Nat):(2^(k+1)*m+2^k)&&&(2^(k+1)*m+2^k-1)=2^(k+1)*m:=by
 have hp:0<2^k:=Nat.two_pow_pos k;have e:2^(k+1)*m+2^k-1=2^(k+1)*m+(2^k-1):=by omega
 rw[e];apply Nat.eq_of_testBit_eq;intro j;rw[Nat.testBit_and,kho,Nat.testBit_two_pow_mul_add _ (by rw[Nat.pow_succ];omega),Nat.testBit_two_pow_sub_one,Nat.testBit_two_pow_mul]
 grind
theorem kzp{k m n:Nat}(h:2^(k+1)*m+2^k<2^n):(2^(k+1)*m+2^k)&&&(2^n-(2^(k+1)*m+2^k))=2^k:=by
 have hk:k<n:=by
  rcases Nat.lt_or_ge k n with h1 | h1
  ·exact h1
  ·have:=Nat.pow_le_pow_right (n:=2) (by decide) h1;omega
 obtain⟨d,rfl⟩:∃d,n=(k+1)+d:=⟨n-(k+1),by omega⟩
 have hm:m<2^d:=by
  rcases Nat.lt_or_ge m (2^d)with h1 | h1
  ·exact h1
  ·have:=Nat.mul_le_mul_left (2^(k+1)) h1;rw[← Nat.pow_add]at this;exact absurd h (Nat.not_lt.2 (Nat.le_trans this (Nat.le_add_right _ _)))
 have e:2^(k+1+d)-(2^(k+1)*m+2^k)=2^(k+1)*(2^d-(m+1))+2^k:=by
  have a:2^(k+1+d)=2^(k+1)*2^d:=Nat.pow_add ..;have b:2^(k+1)*2^d=2^(k+1)*(2^d-(m+1))+2^(k+1)*(m+1):=by rw[← Nat.mul_add];congr 1;omega
  have c:2^(k+1)*(m+1)=2^(k+1)*m+2^(k+1):=by rw[Nat.mul_add,Nat.mul_one]
  have f:2^(k+1)=2^k+2^k:=by rw[Nat.pow_succ];omega
  omega
 rw[e];apply Nat.eq_of_testBit_eq;intro j;rw[Nat.testBit_and,kho,kho,Nat.testBit_two_pow];by_cases h1:j<k
 ·have:¬k=j:=by omega
  simp[h1,this]
 ·by_cases h2:j=k
  ·subst h2;simp
  ·have:¬k=j:=by omega
   rw[if_neg h1,if_neg h2,if_neg h1,if_neg h2,Nat.testBit_two_pow_sub_succ hm];simp[this];intro a b;exact a
def ones(w:Nat):List Nat:=(List.range 64).filter w.testBit
theorem k8l{p q:Nat→Bool}{k:Nat}:∀{n:Nat},k<n→p k=true→(∀j,j<k→p j=false)→(∀j,j<n→q j=(p j&&decide (j≠k)))→(List.range n).filter p=k::(List.range n).filter q:=by
 intro n
 induction n with
 | zero=>intro h;omega
 | succ n ih =>
  intro h hp hl hq;rw[List.range_succ,List.filter_append,List.filter_append];by_cases e:k=n
  ·subst e;have a:(List.range k).filter p=[]:=List.filter_eq_nil_iff.2 fun j hj=>by rw[hl j (List.mem_range.1 hj)];simp
   have b:(List.range k).filter q=[]:=List.filter_eq_nil_iff.2 fun j hj=>by
    have:=List.mem_range.1 hj;rw[hq j (by omega),hl j this];simp
   rw[a,b];have:q k=false:=by rw[hq k (by omega)];simp
   simp[hp,this]
  ·rw[ih (by omega) hp hl fun j hj=>hq j (by omega)];have:q n=p n:=by rw[hq n (by omega)];simp;intro _;omega
   simp[this,List.filter_cons]
theorem kul:ones 0=[]:=by
 unfold ones;exact List.filter_eq_nil_iff.2 fun j _=>by simp
theorem kr1{k m:Nat}(hk:k<64):ones (2^(k+1)*m+2^k)=k::ones (2^(k+1)*m):=by
 unfold ones;refine k8l hk (by rw[kho];simp) (fun j hj=>by rw[kho];simp[hj]) fun j _=>?_;rw[kho,Nat.testBit_two_pow_mul];by_cases h1:j<k
 ·have:¬k+1≤j:=by omega
  simp[h1,this]
 ·by_cases h2:j=k
  ·subst h2;have:¬j+1≤j:=by omega
   simp[this]
  ·have:k+1≤j:=by omega
   simp[h1,h2,this]
end Go.Ab
set_option maxRecDepth 10000
namespace Go.Ab
open Go.Proofs
theorem kql{a b:Nat}(ha:a<18446744073709551616)(hb:b<18446744073709551616):iand .u64 (a:Int) (b:Int)=((a&&&b:Nat):Int):=by
 unfold iand;rw[show IntKind.bits .u64=64 from rfl,wrapU];have e1:BitVec.ofInt 64 (a:Int)=BitVec.ofNat 64 a:=rfl;have e2:BitVec.ofInt 64 (b:Int)=BitVec.ofNat 64 b:=rfl;rw[e1,e2,BitVec.toNat_and,BitVec.toNat_ofNat,BitVec.toNat_ofNat,Nat.mod_eq_of_lt (show a<2^64 from ha),Nat.mod_eq_of_lt (show b<2^64 from hb)];have:a&&&b≤a:=Nat.and_le_left;omega
theorem or_nat{a b:Nat}(ha:a<18446744073709551616)(hb:b<18446744073709551616):ior .u64 (a:Int) (b:Int)=((a|||b:Nat):Int):=by
 unfold ior;rw[show IntKind.bits .u64=64 from rfl,wrapU];have e1:BitVec.ofInt 64 (a:Int)=BitVec.ofNat 64 a:=rfl;have e2:BitVec.ofInt 64 (b:Int)=BitVec.ofNat 64 b:=rfl;rw[e1,e2,BitVec.toNat_or,BitVec.toNat_ofNat,BitVec.toNat_ofNat,Nat.mod_eq_of_lt (show a<2^64 from ha),Nat.mod_eq_of_lt (show b<2^64 from hb)];have:a|||b<2^64:=Nat.or_lt_two_pow ha hb;omega
theorem kpt(x n:Nat):ishr .u64 (x:Int) (n:Int)=((x/2^min n 64:Nat):Int):=by
 unfold ishr;rw[Int.toNat_natCast,show IntKind.bits .u64=64 from rfl];have:((2:Int)^min n 64)=((2^min n 64:Nat):Int):=by simp
 rw[this,Int.fdiv_eq_ediv_of_nonneg _ (Int.natCast_nonneg _)];exact(Int.natCast_ediv _ _).symm
theorem krw{n:Nat}(hn:n<64):ishl .u64 1 (n:Int)=((2^n:Nat):Int):=by
 unfold ishl;rw[Int.toNat_natCast,show IntKind.bits .u64=64 from rfl,Nat.min_eq_left (by omega),wrapU];have h1:(1:Int)*(2:Int)^n=((2^n:Nat):Int):=by simp
 have h2:2^n<2^64:=Nat.pow_lt_pow_right (by decide) hn;rw[h1];generalize 2^n=q at *
 omega
def tzTab:List Nat:=[0,1,56,2,57,49,28,3,61,58,42,50,38,29,17,4,62,47,59,36,45,43,51,22,53,39,33,30,24,18,12,5,63,55,48,27,60,41,37,16,46,35,44,21,52,32,23,11,54,26,40,15,34,20,31,10,25,14,19,9,13,8,7,6]
theorem tz_idx:∀k:_root_.Fin 64,tzTab.getD ((2^k.val*285870213051353865%18446744073709551616)/288230376151711744) 0=k.val:=by decide +kernel
def Tab(h:AH):Prop:=∀k:Nat,k<64→h.cell (.old ⟨Gl.math_bits_deBruijn64tab,k,none⟩)=some (.int .u8 ((tzTab.getD k 0:Nat):Int))
theorem Tab.md{h h':AH}{T:Fp}(t:Tab h)(m:Md T h h'):Tab h':=fun k hk=>by
 rw[← t k hk];simp only[AH.cell,m.old]
theorem Tab.grow{h h':AH}(t:Tab h)(g:Grow h h'):Tab h':=t.md (g.md Fp.no)
theorem tz_is{h:AH}(T:Tab h){k m:Nat}(hk:k<64)(hw:2^(k+1)*m+2^k<18446744073709551616):go (.fn ko1 [.int .u64 ((2^(k+1)*m+2^k:Nat):Int)]) h=some (.int .i64 (k:Int),h):=by
 rw[k7n];have hp:=Nat.two_pow_pos k;have en:=kzp (k:=k) (m:=m) (n:=64) hw;generalize hW:2^(k+1)*m+2^k=W at *
 have hW0:0<W:=by omega
 have e1:IntKind.wrap .u64 (0-(W:Int))=((18446744073709551616-W:Nat):Int):=by rw[wrapU];omega
 rw[condF (decide_eq_false (by omega)),e1,kql hw (by omega),en]
 have e2:IntKind.wrap .u64 (((2^k:Nat):Int)*285870213051353865)=((2^k*285870213051353865%18446744073709551616:Nat):Int):=by
  rw[wrapU,show((2^k:Nat):Int)*285870213051353865=((2^k*285870213051353865:Nat):Int)from by simp];rfl
 have ht:=tz_idx ⟨k,hk⟩;dsimp only at ht;rw[e2,show(58:Int)=((58:Nat):Int)from rfl,kpt,show 2^min 58 64=288230376151711744 from rfl];generalize hJ:2^k*285870213051353865%18446744073709551616/288230376151711744=J at *
 have hJ64:J<64:=by
  rw[← hJ,Nat.div_lt_iff_lt_mul (by decide)];exact Nat.mod_lt _ (by decide)
 have ei:idx (some (Ref.old ⟨Gl.math_bits_deBruijn64tab,0,none⟩)) 64 (J:Int) 1=some (.old ⟨Gl.math_bits_deBruijn64tab,J,none⟩):=by
  rw[kcy _ _ _ _ (by omega) (by omega),Int.toNat_natCast,Nat.mul_one];simp[Ref.add,Addr.add];exact fun h=>h.symm
 rw[ei,Option.bind_some,T J hJ64,ht];show some (AV.int .i64 (IntKind.wrap .i64 (k:Int)),h)=_;rw[wrap64 (by omega) (by omega)]
def wbit(w:List Nat)(i:Nat):Bool:=(w.getD (i/64) 0).testBit (i%64)
def btR(n:Int)(w:List Nat):Bool:=decide (0≤n)&&(decide (n≤65536)&&(decide (w.length=(n.toNat+63)/64)&&(List.range (64*w.length)).all fun i=>decide (i<n.toNat)||!wbit w i))
theorem k0f{x k:Nat}:x<2^k↔∀i,k≤i→x.testBit i=false :=
 ⟨fun h i hi=>Nat.testBit_lt_two_pow (Nat.lt_of_lt_of_le h (Nat.pow_le_pow_right (by decide) hi)),fun h=>Nat.lt_pow_two_of_testBit x h⟩
section
variable{h0:AH}{s:Sl}{w:List Nat}{n:Int}
theorem Nats.rdN{h:AH}(N:Nats h s w){i:Nat}(hi:i<w.length):∃r:Ref,idx s.ref s.len (i:Int) 1=some r∧(h.cell r).bind (AV.asInt .u64)=some (w[i]:Int):=by
 obtain⟨r,e1,e2⟩:=N.at hi;exact⟨r,e1,rdc e2 (ke _ _)⟩
theorem kjq(N:Nats h0 s w):Runs (go (.fn kf3 [.agg [.int .i64 n,s.v]]) h0) fun v h'=>v=.bool (btR n w)∧Grow h0 h':=by
 rw[kba5];refine Runs.new fun h1 b1 g1=>Runs.step (b1.rd 0 rfl (ke _ _)) (Runs.cond (fun c=>?_) fun c=>?_)
 ·rw[decide_eq_true_eq]at c;refine Runs.ret ⟨?_,g1⟩;unfold btR;rw[decide_eq_false (by omega)];rfl
 rw[decide_eq_false_iff_not]at c;refine Runs.step (b1.rd 0 rfl (ke _ _)) (Runs.cond (fun c2=>?_) fun c2=>?_)
 ·rw[decide_eq_true_eq]at c2;refine Runs.ret ⟨?_,g1⟩;unfold btR;rw[decide_eq_false (show¬n≤65536 by omega)];simp
 rw[decide_eq_false_iff_not]at c2;obtain⟨z,rfl⟩:∃z:Nat,n=(z:Int):=⟨n.toNat,by omega⟩;have N1:=N.grow g1;refine Runs.step (b1.rd 1 rfl (asSl_v _)) (Runs.step (b1.rd 0 rfl (ke _ _)) ?_);rw[N.len,wrap64 (n:=(z:Int)+64) (by omega) (by omega),wrap64 (n:=(z:Int)+64-1) (by omega) (by omega),show(z:Int)+64-1=((z+63:Nat):Int)from by omega,show Int.tdiv ((z+63:Nat):Int) 64=(((z+63)/64:Nat):Int)from rfl,wrap64 (by omega) (by omega)]
 have hb:btR (z:Int) w=(decide (w.length=(z+63)/64)&&(List.range (64*w.length)).all fun i=>decide (i<z)||!wbit w i):=by
  unfold btR;rw[decide_eq_true (show(0:Int)≤(z:Int) by omega),decide_eq_true (show(z:Int)≤65536 by omega),Int.toNat_natCast];rfl
 rw[hb];refine Runs.cond (fun c3=>?_) fun c3=>?_
 ·refine Runs.ret ⟨?_,g1⟩;rw[Bool.not_eq_true',decide_eq_false_iff_not]at c3;rw[decide_eq_false (by omega)];rfl
 rw[Bool.not_eq_false',decide_eq_true_eq]at c3;have hl:w.length=(z+63)/64:=by omega
 rw[decide_eq_true hl,Bool.true_and];refine Runs.step (b1.rd 0 rfl (ke _ _)) ?_;rw[show Int.tmod (z:Int) 64=((z%64:Nat):Int)from rfl];refine Runs.cond (fun c4=>?_) fun c4=>?_
 ·rw[decide_eq_true_eq]at c4;refine Runs.ret ⟨congrArg AV.bool ?_,g1⟩;symm;rw[List.all_eq_true];intro i hi;rw[List.mem_range]at hi;rw[decide_eq_true (by omega)];rfl
 rw[decide_eq_false_iff_not]at c4;have hi:z/64<w.length:=by omega
 obtain⟨r,e1,e2⟩:=N1.rdN hi;refine Runs.step (b1.rd 1 rfl (asSl_v _)) (Runs.step (b1.rd 1 rfl (asSl_v _)) ?_);rw[N.len,show((w.length:Nat):Int)-1=((z/64:Nat):Int)from by omega,wrap64 (by omega) (by omega)];rw[N.len]at e1;refine Runs.step e1 (Runs.step e2 (Runs.step (b1.rd 0 rfl (ke _ _)) ?_));rw[show Int.tmod (z:Int) 64=((z%64:Nat):Int)from rfl,kpt];refine Runs.ifF (decide_eq_false (by omega)) (Runs.ret ⟨congrArg AV.bool ?_,g1⟩);rw[Bool.eq_iff_iff,decide_eq_true_eq,List.all_eq_true,Nat.min_eq_left (by omega)]
 have hx:((w[z/64]/2^(z%64):Nat):Int)=0↔w[z/64]<2^(z%64):=by
  have:=Nat.div_eq_zero_iff (a:=w[z/64]) (b:=2^(z%64));have:=Nat.two_pow_pos (z%64);omega
 rw[hx,k0f];have hg:w.getD (z/64) 0=w[z/64]:=by simp[List.getD,hi]
 constructor
 ·intro H i hi';rw[List.mem_range]at hi';rcases Nat.lt_or_ge i z with h | h
  ·rw[decide_eq_true h];rfl
  ·have:i/64=z/64:=by omega
   unfold wbit;rw[this,hg,H (i%64) (by omega)];simp
 ·intro H j hj;rcases Nat.lt_or_ge j 64 with h | h
  ·have:=H (64*(z/64)+j) (by rw[List.mem_range];omega);unfold wbit at this;rw[decide_eq_false (by omega),show(64*(z/64)+j)/64=z/64 from by omega,show(64*(z/64)+j)%64=j from by omega,hg]at this
   simpa using this
  ·exact Nat.testBit_lt_two_pow (Nat.lt_of_lt_of_le (N.lt _ (List.getElem_mem hi)) (show 2^64≤2^j from Nat.pow_le_pow_right (by decide) h))
end
def zs(l:List Nat):List Int:=l.map fun x:Nat=>(x:Int)
theorem zs_len(l:List Nat):(zs l).length=l.length:=List.length_map _
theorem zs_app(l m:List Nat):zs (l++m)=zs l++zs m:=List.map_append
theorem ku9{n:Nat}(h:n≤1000000):growOk Pg n T.int 1=true:=by
 unfold growOk;rw[kye,knl];have h1:n*8≤ks:=by simp only[ks];omega
 have h2:n≤ks:=by simp only[ks];omega
 simp[h1,h2]
def btL(n:Int)(w:List Nat):List Nat:=if btR n w then(List.range n.toNat).filter (wbit w)else []
theorem btR_n{n:Int}{w:List Nat}(h:btR n w=true):0≤n∧n≤65536∧w.length=(n.toNat+63)/64∧∀i,i<64*w.length→n.toNat≤i→wbit w i=false:=by
 unfold btR at h;simp only[Bool.and_eq_true,decide_eq_true_eq,List.all_eq_true,List.mem_range,Bool.or_eq_true,Bool.not_eq_true']at h;exact⟨h.1,h.2.1,h.2.2.1,fun i hi hn=>(h.2.2.2 i hi).resolve_left (by omega)⟩
theorem btR_of{n:Int}{w:List Nat}(h1:0≤n)(h2:n≤65536)(h3:w.length=(n.toNat+63)/64)(h4:∀i,i<64*w.length→n.toNat≤i→wbit w i=false):btR n w=true:=by
 unfold btR;simp only[Bool.and_eq_true,decide_eq_true_eq,List.all_eq_true,List.mem_range,Bool.or_eq_true,Bool.not_eq_true'];exact⟨h1,h2,h3,fun i hi=>(Nat.lt_or_ge i n.toNat).imp_right (h4 i hi)⟩
section
variable{h0:AH}{s:Sl}{w:List Nat}{n:Int}
end
theorem kzz{w:List Nat}{i j:Nat}(hi:i/64<w.length):wbit (w.set (i/64) (w[i/64]|||2^(i%64))) j=(decide (j=i)||wbit w j):=by
 unfold wbit;by_cases h:j/64=i/64
 ·rw[h];have:(w.set (i/64) (w[i/64]|||2^(i%64))).getD (i/64) 0=w[i/64]|||2^(i%64):=by simp[List.getD,hi]
  rw[this,Nat.testBit_or,Nat.testBit_two_pow];have h2:w.getD (i/64) 0=w[i/64]:=by simp[List.getD,hi]
  rw[h2,Bool.or_comm];congr 1;rw[decide_eq_decide];omega
 ·have h1:(w.set (i/64) (w[i/64]|||2^(i%64))).getD (j/64) 0=w.getD (j/64) 0:=by
   simp only[List.getD];rw[List.getElem?_set_ne (by omega)]
  rw[h1];have:¬j=i:=fun e=>h (by rw[e]);simp[this]
theorem kbd2(n i:Nat):wbit (List.replicate n 0) i=false:=by
 unfold wbit
 have:(List.replicate n 0).getD (i/64) 0=0:=by
  simp only[List.getD,List.getElem?_replicate];split<;>rfl
 rw[this];exact Nat.zero_testBit _
section
variable{h0:AH}
theorem km1{n:Nat}(hn:n≤65536):Runs (go (.fn khd [.int .i64 (n:Int)]) h0) fun v h'=>Grow h0 h'∧∃(s:Sl)(i:Nat),v=.tup [.agg [.int .i64 (n:Int),s.v],.int .i64 0]∧h0.blks.size≤i∧Vec h' s i (List.replicate ((n+63)/64) 0):=by
 rw[k73];refine Runs.new fun h1 b1 g1=>Runs.ifF (decide_eq_false (by omega)) (Runs.ifF (decide_eq_false (by omega)) ?_);rw[wrap64 (n:=(n:Int)+64) (by omega) (by omega),wrap64 (n:=(n:Int)+64-1) (by omega) (by omega),show(n:Int)+64-1=((n+63:Nat):Int)from by omega,show Int.tdiv ((n+63:Nat):Int) 64=(((n+63)/64:Nat):Int)from rfl,wrap64 (by omega) (by omega)];refine Runs.mk (kgl (by omega)) ket fun s h2 V g2=>?_;refine Runs.puts (g2.has b1) rfl fun h3 b3 u3=>?_;refine Runs.step (b3.rd 0 rfl (ke _ _)) (Runs.step (b3.rd 1 rfl (asSl_v _)) (Runs.ret ⟨(g1.trans g2).updr (Nat.le_refl _) u3,s,h1.blks.size,rfl,g1.size,V.updr (by have:=b1.lt;omega) u3⟩))
end
theorem kz2{w:List Nat}{i:Nat}(hi:i<w.length):(List.range (64*(i+1))).filter (wbit w)=(List.range (64*i)).filter (wbit w)++(ones w[i]).map (fun k=>64*i+k):=by
 rw[Nat.mul_add,Nat.mul_one,List.range_add,List.filter_append,List.filter_map];congr 1;unfold ones;congr 1;apply List.filter_congr;intro k hk;rw[List.mem_range]at hk;simp only[Function.comp,wbit];rw[show(64*i+k)/64=i from by omega,show(64*i+k)%64=k from by omega];simp[List.getD,hi]
section
variable{w:List Nat}{s:Sl}{l:Nat}
theorem k49{Inv:List Nat→AH→Prop}(hT:∀d h,Inv d h→Tab h)(hround:∀d i h,Inv d h→i<64*w.length→d.length<64*w.length→Runs (go (.round l [.int .i64 (i:Int)]) h) fun v h'=>v=.bool true∧Inv (d++[i]) h')(hl:w.length≤2000){i:Nat}(hi:i<w.length){P:AV→AH→Prop} :
  ∀(n x:Nat),x<18446744073709551616→(ones x).length=n→∀(d:List Nat)(h:AH),d.length+n≤64*w.length→Inv d h→(∀h',Inv (d++(ones x).map (fun k=>64*i+k)) h'→Runs (go (.pt kb5 kkl [(0,.func (.yield l) [] []),(6,s.v),(7,.int .i64 (w.length:Int)),(8,.int .i64 ((i+1:Nat):Int))]) h') P)→
  Runs (go (.pt kb5 kma [(0,.func (.yield l) [] []),(3,.int .i64 (i:Int)),(4,.int .u64 (x:Int)),(6,s.v),(7,.int .i64 (w.length:Int)),(8,.int .i64 (i:Int))]) h) P:=by
 intro n
 induction n with
 | zero =>
  intro x hx hn d h hd I H
  have hx0:x=0:=by
   rcases Nat.eq_zero_or_pos x with h0 | h0
   ·exact h0
   ·obtain⟨k,m,hk,rfl⟩:=kuo 64 x (by omega) hx;rw[kr1 hk]at hn;simp at hn
  subst hx0;rw[kwm];refine Runs.ifF (by rfl) ?_;rw[ko (by omega)];rw[kul]at H;exact H h (by simpa using I)
 | succ n ih =>
  intro x hx hn d h hd I H;have hx0:x≠0:=fun e=>by subst e;rw[kul]at hn;simp at hn
  obtain⟨k,m,hk,hxe⟩:=kuo 64 x hx0 hx;subst hxe;rw[kr1 hk]at hn H;rw[kwm];refine Runs.ifT (by rw[decide_eq_false (by omega)];rfl) ?_;refine Runs.step (tz_is (hT _ _ I) hk hx) (Runs.step (seen rfl) ?_);rw[wrap64 (n:=64*(i:Int)) (by omega) (by omega),wrap64 (by omega) (by omega),show 64*(i:Int)+(k:Int)=((64*i+k:Nat):Int)from by omega];refine(hround d (64*i+k) h I (by omega) (by omega)).call fun v h1 ⟨e,I1⟩=>?_;subst e;refine Runs.step (seen rfl) (Runs.ifF rfl ?_)
  have e1:IntKind.wrap .u64 (((2^(k+1)*m+2^k:Nat):Int)-1)=((2^(k+1)*m+2^k-1:Nat):Int):=by
   have:=Nat.two_pow_pos k;generalize 2^(k+1)*m+2^k=W at *
   rw[wrapU];omega
  have hle:2^(k+1)*m<18446744073709551616:=by
   have:=Nat.two_pow_pos k;exact Nat.lt_of_le_of_lt (Nat.le_add_right _ _) hx
  dsimp only;rw[e1,kql hx (by omega),kyj];refine ih _ hle (by simpa using hn) (d++[64*i+k]) h1 (by rw[List.length_append,List.length_singleton];omega) I1 fun h' I'=>H h' ?_
  simpa using I'
theorem kza{Inv:List Nat→AH→Prop}(hT:∀d h,Inv d h→Tab h)(hN:∀d h,Inv d h→Nats h s w)(hround:∀d i h,Inv d h→i<64*w.length→d.length<64*w.length→Runs (go (.round l [.int .i64 (i:Int)]) h) fun v h'=>v=.bool true∧Inv (d++[i]) h')(hl:w.length≤2000) :
  ∀(k i:Nat),i+k=w.length→∀h,Inv ((List.range (64*i)).filter (wbit w)) h→
  Runs (go (.pt kb5 kkl [(0,.func (.yield l) [] []),(6,s.v),(7,.int .i64 (w.length:Int)),(8,.int .i64 (i:Int))]) h) fun v h'=>v=.tup []∧Inv ((List.range (64*w.length)).filter (wbit w)) h':=by
 intro k
 induction k with
 | zero =>
  intro i hi h I;obtain rfl:i=w.length:=by omega
  rw[kv1];exact Runs.ifF (decide_eq_false (by omega)) (Runs.ret ⟨rfl,I⟩)
 | succ k ih =>
  intro i hi h I;have hlt:i<w.length:=by omega
  obtain⟨r,e1,e2⟩:=(hN _ _ I).rdN hlt;rw[kv1];refine Runs.ifT (decide_eq_true (by omega)) (Runs.step e1 (Runs.step e2 ?_));refine k49 hT hround hl hlt _ _ ((hN _ _ I).lt _ (List.getElem_mem hlt)) rfl _ h ?_ I fun h' I'=>?_
  ·have h1:=List.length_filter_le (wbit w) (List.range (64*i));have h2:=List.length_filter_le w[i].testBit (List.range 64);rw[List.length_range]at h1 h2;show _+((List.range 64).filter _).length≤_;omega
  rw[← kz2 hlt]at I';exact ih (i+1) (by omega) h' I'
end
noncomputable def aNote(st:LoopState)(b:Nat)(g:AV):ABlk:=kqo kp0 kdy 0 st none [(0,(⟨none,0,.is 0⟩:Sl).v),(1,g),(2,.ptr (some (.new b 0))),(4,(⟨none,0,.is 0⟩:Sl).v),(6,g)]
structure Coll(h0:AH)(b l:Nat)(g:AV)(d:List Nat)(h:AH):Prop where
 grow:Grow h0 h
 note:h.blks[l]?=some (aNote .ready b g)
 out:∃(t:Sl)(j:Option Nat),h.has b [t.v] kgr∧LeO (l+1) j∧GF EI T.int h Fp.no t j (zs d)
theorem krn{m n:Nat}(h:m<n):∀{j:Option Nat},LeO n j→∀k,j=some k→k≠m
 | some x,l,k,e=>by cases e;have:n≤x:=l;omega
theorem ky8{h0 h:AH}{b l:Nat}{g:AV}{d:List Nat}(hb:h0.blks.size≤b)(hbl:b<l)(I:Coll h0 b l g d h)(hd:d.length<900000)(i:Nat):Runs (go (.round l [.int .i64 (i:Int)]) h) fun v h'=>v=.bool true∧Coll h0 b l g (d++[i]) h':=by
 obtain⟨G,hn,t,j,B,lj,V⟩:=I;have hl:l<h.blks.size:=(Array.getElem?_eq_some_iff.1 hn).1;rw[kbdw l none _ _ _ _ _ _ _ hn,k9r (h:=h) hn,Option.bind_some];generalize hq:h.setBlk l _=h1;have u1:Upd h h1 l:=by rw[← hq];exact AH.setBlk_Upd _
 have n1:h1.blks[l]?=some (aNote .busy b g):=by rw[← hq];exact AH.setBlk_get hl
 have B1:h1.has b [t.v] kgr:=B.updr (by omega) u1;have V1:GF EI T.int h1 Fp.no t j (zs d):=V.upd u1 Fp.not_no (krn (Nat.lt_succ_self l) lj);refine Runs.step (B1.rd0 rfl (asSl_v _)) ?_;refine Runs.new fun h2 b2 g2=>?_;refine Runs.step (kd2 b2 (by rw[knf];rfl)) ?_;obtain⟨t',h3,e3,V3,u3⟩:=(V1.grow g2).push (T:=Fp.no) (cs:=[.int .i64 (i:Int)]) (x:=(i:Int)) rfl NotO.no (ku9 (by rw[zs_len];omega));refine Runs.step e3 (Runs.step (asSl_v _) ?_);have m3:Md (Fp.opt j) h2 h3:=u3.md fun k e=>e;have no:∀{m:Nat},m≤l→¬Fp.opt j m:=fun hm e=>krn (Nat.lt_succ_of_le hm) lj _ e rfl;have B3:h3.has b [t.v] kgr:=m3.has (g2.has B1) (no (by omega));have n3:h3.blks[l]?=some (aNote .busy b g):=m3.get ((g2.blk l (Array.getElem?_eq_some_iff.1 n1).1).trans n1) (no (Nat.le_refl _));refine Runs.puts B3 rfl fun h4 B4 u4=>?_;have n4:h4.blks[l]?=some (aNote .busy b g):=(u4.blk l (by omega) (Array.getElem?_eq_some_iff.1 n3).1).trans n3;rw[k7d n4];have u5:Upd h4 (h4.setBlk l (aNote .ready b g)) l:=AH.setBlk_Upd _;have hs:h.blks.size≤h2.blks.size:=Nat.le_trans u1.size g2.size;refine Runs.ret ⟨rfl,?_,AH.setBlk_get (Array.getElem?_eq_some_iff.1 n4).1,t',some h2.blks.size,B4.updr (by omega) u5,show l+1≤h2.blks.size by omega,?_⟩
 ·have G2:Grow h0 h2:=(G.updr (by omega) u1).trans g2;have G3:Grow h0 h3:=G2.updo (LeO.trans (by omega) lj) u3;exact(G3.updr hb u4).updr (by omega) u5
 ·rw[zs_app];have V4:GF EI T.int h3 Fp.no t' (some h2.blks.size) (zs d++[(i:Int)]):=V3.mono (fun j x=>x.1.elim id id) NotO.no;have:=(V4.upd u4 Fp.not_no fun k e=>by cases e;omega).upd u5 Fp.not_no fun k e=>by cases e;omega
  exact this
section
variable{h0:AH}{s:Sl}{w:List Nat}{n:Int}
theorem kuh(T0:Tab h0)(N:Nats h0 s w):Runs (go (.fn klz [.agg [.int .i64 n,s.v]]) h0) fun v h'=>Grow h0 h'∧∃(t':Sl)(j':Option Nat),v=t'.v∧LeO h0.blks.size j'∧GF EI T.int h' Fp.no t' j' (zs (btL n w)):=by
 rw[kzn];refine Runs.new fun h1 b1 g1=>Runs.step (b1.rd 0 rfl (ke _ _)) (Runs.step (b1.rd 1 rfl (asSl_v _)) ?_);refine(kjq (N.grow g1)).call fun v h2 ⟨e,g2⟩=>?_;subst e;refine Runs.step (seen rfl) ?_;cases hR:btR n w with
 | false =>
  refine Runs.ifT rfl (Runs.ret ⟨g1.trans g2,_,none,rfl,trivial,?_⟩);unfold btL;rw[hR];exact GF.none _ _ _ _
 | true =>
  obtain⟨hn0,hn1,hlen,hov⟩:=btR_n hR;refine Runs.ifF rfl (Runs.step ((g2.has b1).rd 0 rfl (ke _ _)) (Runs.step ((g2.has b1).rd 1 rfl (asSl_v _)) ?_))
  have k0:Runs (go (.fn kpw [.agg [.int .i64 n,s.v]]) h2) fun v h'=>v=.func (.func kb5) [] [.ptr (some (.new h2.blks.size 0))]∧h'.has h2.blks.size [.int .i64 n,s.v] ky∧Grow h2 h':=by
   rw[kbcz];exact Runs.new fun h3 b3 g3=>Runs.ret ⟨rfl,b3,g3⟩
  refine k0.call fun v h3 ⟨e,b3,g3⟩=>?_;subst e;have G3:Grow h0 h3:=(g1.trans g2).trans g3
  have key:Runs (go (.fn kdy [(⟨none,0,.is 0⟩:Sl).v,.func (.func kb5) [] [.ptr (some (.new h2.blks.size 0))]]) h3) fun v h'=>Grow h3 h'∧∃(t':Sl)(j':Option Nat),v=t'.v∧LeO h3.blks.size j'∧GF EI T.int h' Fp.no t' j' (zs (btL n w)):=by
   rw[kbbe];refine Runs.new fun h4 b4 g4=>?_;rw[k0p,k5l];refine Runs.newM fun h5 hb g5=>?_;rw[k68];generalize hgv:(AV.func (.func kb5) [] [AV.ptr (some (Ref.new h2.blks.size 0))])=gv at hb;have s4:h3.blks.size<h4.blks.size:=b4.lt;have b3':h5.has h2.blks.size [.int .i64 n,s.v] ky:=g5.has (g4.has b3);have I0:Coll h3 h3.blks.size h4.blks.size gv [] h5:=⟨g4.trans g5,hb,_,none,g5.has b4,trivial,GF.none _ _ _ _⟩;have N3:Nats h3 s w:=N.grow G3;have T3:Tab h3:=T0.grow G3
   have k1:Runs (go (.fn kb5 [.func (.yield h4.blks.size) [] [],.ptr (some (.new h2.blks.size 0))]) h5) fun v h'=>v=.tup []∧Coll h3 h3.blks.size h4.blks.size gv ((List.range (64*w.length)).filter (wbit w)) h':=by
    rw[k5i];refine Runs.step (b3'.rd 1 rfl (asSl_v _)) ?_;rw[N.len];exact kza (Inv:=Coll h3 h3.blks.size h4.blks.size gv) (fun d h I=>T3.grow I.grow) (fun d h I=>N3.grow I.grow) (fun d i h I hi hd=>ky8 (Nat.le_refl _) s4 I (by omega) i) (by omega) w.length 0 (by omega) h5 (by simpa using I0)
   refine k1.call fun v h6 ⟨e,I⟩=>?_;obtain⟨G,hn,t,j,B,lj,V⟩:=I;rw[kbdf hn,Option.bind_some];rw[k7w];have hl:=(Array.getElem?_eq_some_iff.1 hn).1;have u6:Upd h6 (h6.setBlk h4.blks.size .dead) h4.blks.size:=AH.setBlk_Upd _;refine Runs.step ((B.updr (by omega) u6).rd0 rfl (asSl_v _)) (Runs.ret ⟨G.updr (by omega) u6,t,j,rfl,LeO.trans (by omega) lj,?_⟩)
   have e:btL n w=(List.range (64*w.length)).filter (wbit w):=by
    unfold btL;rw[hR,if_pos rfl];obtain⟨z,rfl⟩:∃z:Nat,n=(z:Int):=⟨n.toNat,by omega⟩;rw[Int.toNat_natCast]at hlen hov⊢;obtain⟨q,hq⟩:∃q,64*w.length=z+q:=⟨64*w.length-z,by omega⟩;rw[hq,List.range_add,List.filter_append]
    have:((List.range q).map (z + ·)).filter (wbit w)=[]:=List.filter_eq_nil_iff.2 fun x hx=>by
     rw[List.mem_map]at hx;obtain⟨y,hy,rfl⟩:=hx;rw[List.mem_range]at hy;rw[hov (z+y) (by omega) (by omega)];simp
    rw[this,List.append_nil]
   rw[e];exact V.upd u6 Fp.not_no (krn (Nat.lt_succ_self _) lj)
  have k2:Runs (go (.fn krh [.func (.func kb5) [] [.ptr (some (.new h2.blks.size 0))]]) h3) fun v h'=>Grow h3 h'∧∃(t':Sl)(j':Option Nat),v=t'.v∧LeO h3.blks.size j'∧GF EI T.int h' Fp.no t' j' (zs (btL n w)):=by
   rw[k1d];refine key.call fun v h' ⟨g,t',j',e,lj,V⟩=>?_;subst e;exact Runs.step (seen (asSl_v _)) (Runs.ret ⟨g,t',j',rfl,lj,V⟩)
  refine k2.call fun v h' ⟨g,t',j',e,lj,V⟩=>?_;subst e;exact Runs.step (seen (asSl_v _)) (Runs.ret ⟨G3.trans g,t',j',rfl,LeO.trans G3.size lj,V⟩)
end
theorem kix{w:List Nat}{i x:Nat}(hi:i<w.length)(j:Nat):wbit (w.set i x) j=if j/64=i then x.testBit (j%64)else wbit w j:=by
 unfold wbit;split
 ·rename_i h;rw[h];have:(w.set i x).getD i 0=x:=by simp[List.getD,hi]
  rw[this]
 ·rename_i h
  have:(w.set i x).getD (j/64) 0=w.getD (j/64) 0:=by
   simp only[List.getD];rw[List.getElem?_set_ne (by omega)]
  rw[this]
theorem kjs{w:List Nat}{j:Nat}(h:w.length≤j/64):wbit w j=false:=by
 unfold wbit;have:w.getD (j/64) 0=0:=by simp[List.getD,h]
 rw[this];exact Nat.zero_testBit _
section
variable{h0:AH}{S:Fp}{s:Sl}
theorem k5k{xs:List Int}(n:Sq EI h0 S s xs){b:Nat}{z:Int}{e:TypeId}(hb:h0.has b [.int .i64 z] e):Runs (go (.fn kdg [s.v,.func (.func kdh) [] [.ptr (some (.new b 0))]]) h0) fun v h'=>v=.bool (xs.any fun x=>decide (x<0)||decide (x≥z))∧Grow h0 h':=by
 rw[k9z];refine Runs.contains (xs:=xs) ?_;rw[k9b,n.len];refine km2 (n:=xs.length) (G:=fun y h=>go (.pt kbn kcg [(0,s.v),(1,.func (.func kdh) [] [.ptr (some (.new b 0))]),(7,.int .i64 (xs.length:Int)),(8,.int .i64 y)]) h) (fun i h P hi g hT hF=>?_) (fun h g=>?_) xs.length 0 (by omega) (Grow.refl h0) (fun j hj=>by omega)
 ·obtain⟨r,e1,e2⟩:=(n.grow g).int hi;rw[List.getElem?_eq_getElem hi]at hT hF;simp only[Option.any_some]at hT hF;show Runs (go _ _) _;rw[kso];refine Runs.ifT (decide_eq_true (by omega)) (Runs.step e1 (Runs.step e2 ?_))
  have key:Runs (go (.fn kdh [.int .i64 xs[i],.ptr (some (.new b 0))]) h) fun v h'=>v=.bool (decide (xs[i]<0)||decide (xs[i]≥z))∧h'=h:=by
   rw[k7t];cases decide (xs[i]<0)
   ·refine Runs.ifF rfl (Runs.step rfl (Runs.step ((g.has hb).rd0 rfl (ke _ _)) ?_));exact Runs.ret ⟨rfl,rfl⟩
   ·exact Runs.ret ⟨rfl,rfl⟩
  refine key.call fun v h' ⟨ev,eh⟩=>?_;subst ev;subst eh;refine Runs.step (seen rfl) ?_;rw[ko (by have:=n.short;omega)];exact Runs.cond (fun c=>Runs.ret (hT _ g c)) fun c=>hF _ g c
 ·rw[kso,condF (decide_eq_false (by omega))]
theorem k93{l:List Nat}{n:Nat}(q:Sq EI h0 S s (zs l))(hl:∀x∈l,x<n)(hn:n≤65536){b c i:Nat}{t:Sl}(hb:h0.blks.size≤b)(hci:c≠i)(hbc:b≠c)(hbi:b≠i)(hi:h0.blks.size≤i):∀(k j:Nat),j+k=l.length→∀(h:AH)(w:List Nat),Grow h0 h→(∃cs:List AV,cs.length=2∧h.has b cs ky)→h.has c [.int .i64 (n:Int),t.v] ky→Vec h t i w→w.length=(n+63)/64→(∀m,wbit w m=decide (m∈l.take j))→
  Runs (go (.pt kgv km7 [(4,.ptr (some (.new b 0))),(6,.ptr (some (.new c 0))),(23,s.v),(24,.int .i64 (l.length:Int)),(25,.int .i64 (j:Int))]) h) fun v h'=>Grow h0 h'∧∃(t:Sl)(w:List Nat),v=.tup [.agg [.int .i64 (n:Int),t.v],.int .i64 0]∧Nats h' t w∧w.length=(n+63)/64∧Own h0 t∧∀m,wbit w m=decide (m∈l):=by
 intro k
 induction k with
 | zero =>
  intro j hj h w g ⟨cs,hcs,B⟩ C V hw hm;obtain rfl:j=l.length:=by omega
  rw[kx9];refine Runs.ifF (decide_eq_false (by omega)) (Runs.step (C.rd 0 rfl (ke _ _)) (Runs.step (C.rd 1 rfl (asSl_v _)) ?_));refine Runs.puts B (by rw[hcs];rfl) fun h1 B1 u1=>?_;refine Runs.step (B1.rd 0 rfl (ke _ _)) (Runs.step (B1.rd 1 rfl (asSl_v _)) (Runs.ret ⟨g.updr hb u1,t,w,rfl,(V.updr (fun e=>hbi e.symm) u1).nats,hw,V.own hi,fun m=>?_⟩));rw[hm,List.take_length]
 | succ k ih =>
  intro j hj h w g hB C V hw hm;have hj':j<(zs l).length:=by rw[zs_len];omega
  obtain⟨r,e1,e2⟩:=(q.grow g).int hj';have hx:(zs l)[j]=((l[j]'(by omega):Nat):Int):=by simp[zs]
  have hjl:j<l.length:=by omega
  have hxn:l[j]<n:=hl _ (List.getElem_mem hjl);have hq:l[j]/64<w.length:=by omega
  rw[kx9];refine Runs.ifT (decide_eq_true (by omega)) (Runs.step e1 (Runs.step e2 ?_));rw[hx];refine Runs.step (C.rd 1 rfl (asSl_v _)) ?_;rw[show Int.tdiv ((l[j]:Nat):Int) 64=((l[j]/64:Nat):Int)from rfl,wrap64 (by omega) (by omega),show Int.tmod ((l[j]:Nat):Int) 64=((l[j]%64:Nat):Int)from rfl,V.len];refine Runs.step (V.idx rfl (kbb hq)) (Runs.step (V.rd rfl (kbb hq) (ke _ _)) (Runs.ifF (decide_eq_false (by omega)) (Runs.step (V.idx rfl (kbb hq)) ?_)));have hwl:w[l[j]/64]<18446744073709551616:=V.lt _ (List.getElem_mem hq);have hpl:2^(l[j]%64)<2^64:=Nat.pow_lt_pow_right (by decide) (by omega);have hgd:w.getD (l[j]/64) 0=w[l[j]/64]:=by simp[List.getD,hq]
  rw[hgd,krw (by omega),or_nat hwl hpl];refine Runs.vput V rfl (kbb hq) (kbr (Nat.or_lt_two_pow (n:=64) hwl hpl)) fun h1 V1 u1=>?_;rw[ko (by have:=q.short;rw[zs_len]at this;omega)];obtain⟨cs,hcs,B⟩:=hB;refine ih (j+1) (by omega) h1 _ (g.updr hi u1) ⟨cs,hcs,B.updr hbi u1⟩ (C.updr hci u1) V1 (by rw[List.length_set];exact hw) fun m=>?_;rw[kzz hq,hm,List.take_succ_eq_append_getElem hjl,Bool.eq_iff_iff];simp only[Bool.or_eq_true,decide_eq_true_eq,List.mem_append,List.mem_singleton];exact Or.comm
theorem kbcm{l:List Nat}{n:Nat}(q:Sq EI h0 S s (zs l))(hl:∀x∈l,x<n)(hn:n≤65536):Runs (go (.fn kgv [.int .i64 (n:Int),s.v]) h0) fun v h'=>Grow h0 h'∧∃(t:Sl)(w:List Nat),v=.tup [.agg [.int .i64 (n:Int),t.v],.int .i64 0]∧Nats h' t w∧w.length=(n+63)/64∧Own h0 t∧∀m,wbit w m=decide (m∈l):=by
 rw[kbcf];refine Runs.new fun h1 b1 g1=>Runs.new fun h2 b2 g2=>Runs.step ((g2.has b1).rd0 rfl (ke _ _)) ?_;refine(km1 hn).call fun v h3 ⟨g3,t,i,e,hi,V⟩=>?_;subst e;refine Runs.step rfl (Runs.step rfl (Runs.ifT rfl (Runs.step rfl (Runs.step (seenAt rfl (asSl_v _)) (Runs.step rfl ?_)))));dsimp only;refine Runs.new fun h4 b4 g4=>Runs.puts b4 rfl fun h5 b5 u5=>Runs.ifF rfl ?_;have s1:h0.blks.size<h1.blks.size:=b1.lt;have s2:h1.blks.size<h2.blks.size:=b2.lt;have s3:i<h3.blks.size:=V.inn;have s4:h2.blks.size≤h3.blks.size:=g3.size;have G4:Grow h0 h4:=(((g1.trans g2).trans g3).trans g4);have G5:Grow h0 h5:=G4.updr (by have:=G4.size;omega) u5;have G25:Grow h2 h5:=(g3.trans g4).updr (by omega) u5;refine(k5k (q.grow G5) (G25.has (g2.has b1))).call fun v h6 ⟨e,g6⟩=>?_;subst e
 have hany:((zs l).any fun x=>decide (x<0)||decide (x≥(n:Int)))=false:=by
  rw[List.any_eq_false];intro x hx;unfold zs at hx;rw[List.mem_map]at hx;obtain⟨y,hy,rfl⟩:=hx;have:=hl y hy;simp;omega
 rw[hany];refine Runs.step (seen rfl) (Runs.ifF rfl ?_);rw[q.len,zs_len];have V6:Vec h6 t i (List.replicate ((n+63)/64) 0):=((V.grow g4).updr (by omega) u5).grow g6;exact k93 q hl hn (b:=h1.blks.size) (c:=h3.blks.size) (i:=i) (by omega) (by omega) (by omega) (by omega) (by omega) l.length 0 (by omega) h6 _ (G5.trans g6) ⟨_,rfl,g6.has (G25.has b2)⟩ (g6.has b5) V6 (by simp) (fun m=>by rw[kbd2];simp)
end
end Go.Ab
set_option maxRecDepth 10000
namespace Go.Ab
open Go.Proofs
section
variable{h0:AH}{s1 s2:Sl}{w1 w2:List Nat}{n1 n2:Int}
theorem k5y(N1:Nats h0 s1 w1)(N2:Nats h0 s2 w2)(hl:w1.length=w2.length)(hs:w1.length≤2000){b1 b2 b3 b4 i:Nat}{t:Sl}{x1 x2:Int}(i1:b1≠i)(i2:b2≠i)(i3:b3≠i)(i4:b4≠i)(h3:h0.blks.size≤b3)(hi:h0.blks.size≤i):∀(k j:Nat),j+k=w1.length→∀(h:AH)(w:List Nat),Grow h0 h→h.has b1 [.int .i64 x1,s1.v] ky→h.has b2 [.int .i64 x2,s2.v] ky→(∃cs:List AV,cs.length=2∧h.has b3 cs ky)→h.has b4 [.int .i64 n1,t.v] ky→Vec h t i w→w.length=w1.length→(∀m,m/64<j→wbit w m=(wbit w1 m&&wbit w2 m))→
  Runs (go (.pt kcn kfb [(2,.func (.func kew) [] []),(3,.ptr (some (.new b1 0))),(4,.ptr (some (.new b2 0))),(6,.ptr (some (.new b3 0))),(8,.ptr (some (.new b4 0))),(9,.int .i64 0),(35,.int .i64 (w1.length:Int)),(36,.int .i64 (j:Int))]) h) fun v h'=>Grow h0 h'∧∃(t:Sl)(w:List Nat),v=.tup [.agg [.int .i64 n1,t.v],.int .i64 0]∧Nats h' t w∧w.length=w1.length∧Own h0 t∧∀m,wbit w m=(wbit w1 m&&wbit w2 m):=by
 intro k
 induction k with
 | zero =>
  intro j hj h w g B1 B2 ⟨cs,hcs,B3⟩ B4 V hw hm;obtain rfl:j=w1.length:=by omega
  rw[kw7];refine Runs.ifF (decide_eq_false (by omega)) (Runs.step (B4.rd 0 rfl (ke _ _)) (Runs.step (B4.rd 1 rfl (asSl_v _)) ?_));refine Runs.puts B3 (by rw[hcs];rfl) fun h1 B5 u1=>?_;refine Runs.step (B5.rd 0 rfl (ke _ _)) (Runs.step (B5.rd 1 rfl (asSl_v _)) (Runs.ret ⟨g.updr h3 u1,t,w,rfl,(V.updr (fun e=>i3 e.symm) u1).nats,hw,V.own hi,fun m=>?_⟩));rcases Nat.lt_or_ge (m/64) w1.length with h' | h'
  ·exact hm m h'
  ·rw[kjs (by omega),kjs (w:=w1) h'];rfl
 | succ k ih =>
  intro j hj h w g B1 B2 ⟨cs,hcs,B3⟩ B4 V hw hm;have j1:j<w1.length:=by omega
  have j2:j<w2.length:=by omega
  obtain⟨r1,e1,e2⟩:=(N1.grow g).rdN j1;obtain⟨r2,e3,e4⟩:=(N2.grow g).rdN j2;rw[kw7];refine Runs.ifT (decide_eq_true (by omega)) (Runs.step (B4.rd 1 rfl (asSl_v _)) (Runs.step (B1.rd 1 rfl (asSl_v _)) (Runs.step e1 (Runs.step e2 (Runs.step (B2.rd 1 rfl (asSl_v _)) (Runs.step e3 (Runs.step e4 ?_)))))));have a1:w1[j]<18446744073709551616:=N1.lt _ (List.getElem_mem j1);have a2:w2[j]<18446744073709551616:=N2.lt _ (List.getElem_mem j2);refine Runs.step (k30 _ _ _) (Runs.step (seen rfl) ?_);rw[kql a1 a2];refine Runs.when ((Grow.refl h).same B4 1 1) ?_;rw[V.len];have hq:j<w.length:=by omega
  have hlt:w1[j]&&&w2[j]<18446744073709551616:=Nat.lt_of_le_of_lt Nat.and_le_left a1;refine Runs.step (V.idx rfl (kbb hq)) (Runs.vput V rfl (kbb hq) (kbr hlt) fun h1 V1 u1=>?_);rw[ko (by omega)];refine ih (j+1) (by omega) h1 _ (g.updr hi u1) (B1.updr i1 u1) (B2.updr i2 u1) ⟨cs,hcs,B3.updr i3 u1⟩ (B4.updr i4 u1) V1 (by rw[List.length_set];exact hw) fun m hm'=>?_;rw[kix hq];split
  ·rename_i hmj;subst hmj;rw[Nat.testBit_and];unfold wbit;simp[List.getD,j1,j2]
  ·exact hm m (by omega)
end
end Go.Ab
set_option maxRecDepth 10000
namespace Go.Ab
open Go.Proofs
theorem kns{t:Tb}(h:tabR t=true):t.ids.length≤256∧t.cols.length≤16∧t.bins.length=t.cols.length∧∀i,i<t.cols.length→colR t i=true:=by
 unfold tabR idsR at h;simp only[Bool.and_eq_true,decide_eq_true_eq,List.all_eq_true,List.mem_range,Bool.not_eq_true',decide_eq_false_iff_not]at h;exact⟨h.1.1.1.1,by omega,h.1.2,h.2⟩
theorem kkg{t:Tb}{i:Nat}(h:colR t i=true)(hi:i<t.cols.length)(hb:t.bins.length=t.cols.length):∃hb':i<t.bins.length,2≤t.bins[i]∧t.bins[i]≤32∧t.cols[i].length=t.ids.length:=by
 unfold colR at h;have hb':i<t.bins.length:=by omega
 simp only[Bool.and_eq_true,decide_eq_true_eq,Bool.not_eq_true',decide_eq_false_iff_not,List.getD,List.getElem?_eq_getElem hi,List.getElem?_eq_getElem hb',Option.getD_some]at h;exact⟨hb',by omega,by omega,h.1.2⟩
def leftP(t:Tb)(f:Nat)(c:Int)(i:Nat):Bool:=decide ((t.cols.getD f []).getD i 0≤c)
def leftR(t:Tb)(f:Nat)(c:Int):List Nat:=(List.range t.ids.length).filter (leftP t f c)
section
variable{h0:AH}{S:Fp}{s1 s2 s3:Sl}{t:Tb}
theorem k9m{s:Sl}{f:Nat}{c:Int}(hf:f<t.cols.length)(hc:t.cols[f].length=t.ids.length)(hids:t.ids.length≤256)(q:Sq EI h0 S s t.cols[f]){b1 b2:Nat}{cs2:List AV}(n1:Sq EI h0 S s1 t.ids)(B1:h0.has b1 [s1.v,s2.v,s3.v] kds)(B2:h0.has b2 [.int .i64 0,(⟨none,0,.is 0⟩:Sl).v] ky){ha:AH}(ga:Grow ha h0)(hb2:ha.blks.size≤b2):∀(k i:Nat),i+k=t.ids.length→∀(h:AH)(x:Sl)(j:Option Nat),Grow h0 h→LeO h0.blks.size j→GF EI T.int h Fp.no x j (zs ((List.range i).filter (leftP t f c)))→
  Runs (go (.pt kfl kkv [(2,.int .i64 c),(3,.ptr (some (.new b1 0))),(6,.ptr (some (.new b2 0))),(8,x.v),(44,s.v),(45,.int .i64 (t.ids.length:Int)),(46,.int .i64 (i:Int))]) h) fun v h'=>Grow ha h'∧∃(y:Sl)(w:List Nat),v=.tup [.agg [.int .i64 (t.ids.length:Int),y.v],.int .i64 0]∧Nats h' y w∧Own ha y∧w.length=(t.ids.length+63)/64∧∀m,wbit w m=decide (m∈leftR t f c):=by
 intro k
 induction k with
 | zero =>
  intro i hi h x j g lj V;obtain rfl:i=t.ids.length:=by omega
  rw[ktf];refine Runs.ifF (decide_eq_false (by omega)) (Runs.step ((g.has B1).rd 0 rfl (asSl_v _)) ?_);rw[n1.len];refine(kbcm (S:=Fp.or (Fp.opt j) Fp.no) (l:=leftR t f c) (n:=t.ids.length) V.sq (fun y hy=>?_) (by omega)).call fun v h1 ⟨g1,y,w,e,N,hw,o,hm⟩=>?_
  ·unfold leftR at hy;rw[List.mem_filter,List.mem_range]at hy;exact hy.1
  subst e;refine Runs.step rfl (Runs.step rfl (Runs.ifT rfl (Runs.step rfl (Runs.step (seenAt rfl (asSl_v _)) (Runs.step rfl ?_)))));dsimp only;have hlt:=(g.has B2).lt;refine Runs.puts (g1.has (g.has B2)) rfl fun h2 b2' u2=>Runs.step (b2'.rd 0 rfl (ke _ _)) (Runs.step (b2'.rd 1 rfl (asSl_v _)) (Runs.ret ⟨?_,y,w,rfl,N.updr o hlt u2,?_,hw,hm⟩))
  ·exact((ga.trans g).trans g1).updr hb2 u2
  ·exact o.of_le (ga.trans g)
 | succ k ih =>
  intro i hi h x j g lj V;have hi':i<t.cols[f].length:=by omega
  obtain⟨r,e1,e2⟩:=(q.grow g).int hi';rw[q.len,hc]at e1;rw[ktf]
  have hp:leftP t f c i=decide (t.cols[f][i]≤c):=by
   unfold leftP;simp[List.getD,hf,hi']
  have hr:(List.range (i+1)).filter (leftP t f c)=(List.range i).filter (leftP t f c)++if leftP t f c i then [i]else []:=by
   rw[List.range_succ,List.filter_append];cases hq:leftP t f c i<;>simp[hq]
  have hlen:(zs ((List.range i).filter (leftP t f c))).length≤i:=by
   rw[zs_len];exact Nat.le_trans (List.length_filter_le _ _) (by simp)
  refine Runs.ifT (decide_eq_true (by omega)) ?_;rw[q.len,hc];refine Runs.step e1 (Runs.step e2 (Runs.cond (fun k1=>?_) fun k1=>?_))
  ·refine Runs.new fun h2 b2 g2=>?_;refine Runs.step (kd2 b2 (by rw[knf];rfl)) ?_;have V2:=V.grow g2;obtain⟨y,h3,e3,V3,u3⟩:=V2.push (T:=Fp.no) (cs:=[.int .i64 (i:Int)]) (x:=(i:Int)) rfl NotO.no (ku9 (by omega));refine Runs.step e3 (Runs.step (asSl_v _) ?_);rw[ko (by omega)];refine ih (i+1) (by omega) h3 y (some h2.blks.size) ((g.trans g2).updo lj u3) (show _≤_ from(g.trans g2).size) ?_;rw[hr,hp,k1,if_pos rfl,zs_app];exact V3.mono (fun j x=>x.1.elim id id) NotO.no
  ·rw[ko (by omega)];refine ih (i+1) (by omega) h x j g lj ?_;rw[hr,hp,k1]
   simpa using V
theorem kbas(n:TabAt h0 S s1 s2 s3 t)(hR:tabR t=true){f c:Nat}(hf:f<t.cols.length)(hc:(c:Int)<t.bins.getD f 0):Runs (go (.fn kfl [.agg [s1.v,s2.v,s3.v],.int .i64 (f:Int),.int .i64 (c:Int)]) h0) fun v h'=>Grow h0 h'∧∃(y:Sl)(w:List Nat),v=.tup [.agg [.int .i64 (t.ids.length:Int),y.v],.int .i64 0]∧Nats h' y w∧Own h0 y∧w.length=(t.ids.length+63)/64∧∀m,wbit w m=decide (m∈leftR t f (c:Int)):=by
 obtain⟨hids,hcols,hbins,hall⟩:=kns hR;obtain⟨hb,h2,h32,hcl⟩:=kkg (hall f hf) hf hbins;rw[k9t];refine Runs.new fun h1 b1 g1=>Runs.new fun h2 b2 g2=>?_;have B1:=g2.has b1;refine Runs.step (B1.rd 0 rfl (asSl_v _)) (Runs.step (B1.rd 1 rfl (asSl_v _)) (Runs.step (B1.rd 2 rfl (asSl_v _)) ?_));refine(kxi (n.grow (g1.trans g2))).call fun v h3 ⟨e,g3⟩=>?_;subst e;rw[hR];refine Runs.step (seen rfl) (Runs.ifF rfl (Runs.ifF (decide_eq_false (by omega)) ?_));have G3:Grow h0 h3:=(g1.trans g2).trans g3;have B1':=g3.has B1;refine Runs.step (B1'.rd 2 rfl (asSl_v _)) ?_;rw[n.cols.len];refine Runs.ifF (decide_eq_false (by omega)) (Runs.ifF (decide_eq_false (by omega)) (Runs.step (B1'.rd 1 rfl (asSl_v _)) ?_));obtain⟨r,e1,e2⟩:=(n.bins.grow G3).int hb;have hgd:t.bins.getD f 0=t.bins[f]:=by simp[List.getD,hb]
 rw[hgd]at hc;refine Runs.step e1 (Runs.step e2 (Runs.ifF (decide_eq_false (by omega)) (Runs.step (B1'.rd 2 rfl (asSl_v _)) ?_)));obtain⟨r2,s',e3,e4,-,q⟩:=(n.cols.grow G3).sl hf;refine Runs.step e3 (Runs.step e4 ?_);rw[q.len,hcl];have s1':=b1.lt;exact k9m (cs2:=[]) hf hcl hids q ((n.grow G3).ids) B1' (g3.has b2) G3 (by have:=g1.size;omega) t.ids.length 0 (by omega) h3 _ none (Grow.refl h3) trivial (GF.none _ _ _ _)
end
def nb(t:Tb)(f:Nat):Nat:=(t.bins.getD f 0).toNat-1
def cutsTo(t:Tb)(f:Nat):List (Nat×Nat):=(List.range f).flatMap fun f=>(List.range (nb t f)).map fun c=>(f,c)
theorem kwe(t:Tb)(f:Nat):cutsTo t (f+1)=cutsTo t f++(List.range (nb t f)).map fun c=>(f,c):=by
 unfold cutsTo;rw[List.range_succ,List.flatMap_append];simp
theorem kov(t:Tb):∀f:Nat,(∀i,i<f→nb t i≤31)→(cutsTo t f).length≤31*f
 | 0,_=>by simp[cutsTo]
 | f+1,h=>by
  rw[kwe,List.length_append,List.length_map,List.length_range];have:=kov t f fun i hi=>h i (by omega);have:=h f (by omega);omega
section
variable{S:Fp}{s1 s2 s3 s:Sl}{t:Tb}{n:Int}{w:List Nat}{l b1 b2:Nat}
end
@[reducible] def EP:Ef (Int×Int):=Ef.pair EI EI
theorem EP.of{h:AH}{S:Fp}(a b:Int):EP.has h S [.int .i64 a,.int .i64 b] (a,b):=⟨[.int .i64 a],[.int .i64 b],rfl,rfl,rfl⟩
section
variable{α:Type}{E:Ef α}{elem tl:TypeId}{note:LoopState→ABlk}{hs h:AH}{bo l:Nat}{xs:List α}
end
section
variable{h0:AH}{S:Fp}{s1 s2 s3:Sl}{t:Tb}
end
def sumG(g:List Int)(l:List Nat)(a:Int):Int:=l.foldl (fun a i=>IntKind.wrap .i64 (a+g.getD i 0)) a
section
variable{h0:AH}{S:Fp}{s1 s2 s3 s u:Sl}{t:Tb}{n:Int}{w:List Nat}{g:List Int}
end
end Go.Ab
set_option maxRecDepth 10000
namespace Go.Ab
open Go.Proofs
section
variable{h0:AH}{S:Fp}{s1 s2 s3 s u:Sl}{t:Tb}{n:Int}{w:List Nat}{g:List Int}
end
end Go.Ab
set_option maxRecDepth 10000
namespace Go.Ab
open Go.Proofs
theorem ofP_bt{n:Nat}{w l:List Nat}(hn:n≤65536)(hl:∀x∈l,x<n)(hw:w.length=(n+63)/64)(hm:∀m,wbit w m=decide (m∈l)):btR (n:Int) w=true∧btL (n:Int) w=(List.range n).filter fun i=>decide (i∈l):=by
 have hov:∀i,n≤i→wbit w i=false:=fun i hi=>by
  rw[hm,decide_eq_false];intro h;have:=hl i h;omega
 have hR:btR (n:Int) w=true:=btR_of (by omega) (by omega) (by rw[Int.toNat_natCast];exact hw) fun i _ hi=>hov i (by rw[Int.toNat_natCast]at hi;exact hi);refine⟨hR,?_⟩;unfold btL;rw[hR,if_pos rfl,Int.toNat_natCast];apply List.filter_congr;intro i hi;rw[hm]
section
variable{h0:AH}{S:Fp}{s s1 s2 s3:Sl}{t:Tb}
variable{w1 w2:List Nat}
end
def SetN(h0:AH)(z:Nat)(R:List Nat)(v:AV)(h':AH):Prop:=Grow h0 h'∧∃(t:Sl)(w:List Nat)(e:Int),v=.tup [.agg [.int .i64 (z:Int),t.v],.int .i64 e]∧Nats h' t w∧Own h0 t∧btR (z:Int) w=true∧btL (z:Int) w=R
def bclr(a b:Nat):Nat:=(BitVec.ofNat 64 a&&&~~~ BitVec.ofNat 64 b).toNat
theorem kvp(a b:Nat):bclr a b<18446744073709551616:=(BitVec.ofNat 64 a&&&~~~ BitVec.ofNat 64 b).isLt
theorem k80{a b i:Nat}(hi:i<64):(bclr a b).testBit i=(a.testBit i&&!b.testBit i):=by
 unfold bclr;rw[BitVec.testBit_toNat,BitVec.getLsbD_and,BitVec.getLsbD_not,BitVec.getLsbD_ofNat,BitVec.getLsbD_ofNat];simp[hi]
theorem kz0{a b:Nat}:kih .u64 (a:Int) (b:Int)=((bclr a b:Nat):Int):=by
 unfold kih;rw[show IntKind.bits .u64=64 from rfl,wrapU];have e1:BitVec.ofInt 64 (a:Int)=BitVec.ofNat 64 a:=rfl;have e2:BitVec.ofInt 64 (b:Int)=BitVec.ofNat 64 b:=rfl;rw[e1,e2];have:=kvp a b;unfold bclr at this⊢;omega
section
variable{h0:AH}{s1 s2:Sl}{w1 w2:List Nat}
theorem kbcx{n1:Int}(N1:Nats h0 s1 w1)(N2:Nats h0 s2 w2)(hl:w1.length=w2.length)(hs:w1.length≤2000){b1 b2 b3 b4 i:Nat}{t:Sl}{x1 x2:Int}(i1:b1≠i)(i2:b2≠i)(i3:b3≠i)(i4:b4≠i)(h3:h0.blks.size≤b3)(hi:h0.blks.size≤i):∀(k j:Nat),j+k=w1.length→∀(h:AH)(w:List Nat),Grow h0 h→h.has b1 [.int .i64 x1,s1.v] ky→h.has b2 [.int .i64 x2,s2.v] ky→(∃cs:List AV,cs.length=2∧h.has b3 cs ky)→h.has b4 [.int .i64 n1,t.v] ky→Vec h t i w→w.length=w1.length→(∀m,m/64<j→wbit w m=(wbit w1 m&&!wbit w2 m))→
  Runs (go (.pt kcn kfb [(2,.func (.func ke7) [] []),(3,.ptr (some (.new b1 0))),(4,.ptr (some (.new b2 0))),(6,.ptr (some (.new b3 0))),(8,.ptr (some (.new b4 0))),(9,.int .i64 0),(35,.int .i64 (w1.length:Int)),(36,.int .i64 (j:Int))]) h) fun v h'=>Grow h0 h'∧∃(t:Sl)(w:List Nat),v=.tup [.agg [.int .i64 n1,t.v],.int .i64 0]∧Nats h' t w∧w.length=w1.length∧Own h0 t∧∀m,wbit w m=(wbit w1 m&&!wbit w2 m):=by
 intro k
 induction k with
 | zero =>
  intro j hj h w g B1 B2 ⟨cs,hcs,B3⟩ B4 V hw hm;obtain rfl:j=w1.length:=by omega
  rw[kxu];refine Runs.ifF (decide_eq_false (by omega)) (Runs.step (B4.rd 0 rfl (ke _ _)) (Runs.step (B4.rd 1 rfl (asSl_v _)) ?_));refine Runs.puts B3 (by rw[hcs];rfl) fun h1 B5 u1=>?_;refine Runs.step (B5.rd 0 rfl (ke _ _)) (Runs.step (B5.rd 1 rfl (asSl_v _)) (Runs.ret ⟨g.updr h3 u1,t,w,rfl,(V.updr (fun e=>i3 e.symm) u1).nats,hw,V.own hi,fun m=>?_⟩));rcases Nat.lt_or_ge (m/64) w1.length with h' | h'
  ·exact hm m h'
  ·rw[kjs (by omega),kjs (w:=w1) h'];rfl
 | succ k ih =>
  intro j hj h w g B1 B2 ⟨cs,hcs,B3⟩ B4 V hw hm;have j1:j<w1.length:=by omega
  have j2:j<w2.length:=by omega
  obtain⟨r1,e1,e2⟩:=(N1.grow g).rdN j1;obtain⟨r2,e3,e4⟩:=(N2.grow g).rdN j2;rw[kxu];refine Runs.ifT (decide_eq_true (by omega)) (Runs.step (B4.rd 1 rfl (asSl_v _)) (Runs.step (B1.rd 1 rfl (asSl_v _)) (Runs.step e1 (Runs.step e2 (Runs.step (B2.rd 1 rfl (asSl_v _)) (Runs.step e3 (Runs.step e4 ?_)))))));refine Runs.step (k45 _ _ _) (Runs.step (seen rfl) ?_);rw[kz0];refine Runs.when ((Grow.refl h).same B4 1 1) ?_;rw[V.len];have hq:j<w.length:=by omega
  refine Runs.step (V.idx rfl (kbb hq)) (Runs.vput V rfl (kbb hq) (kbr (kvp _ _)) fun h1 V1 u1=>?_);rw[ko (by omega)];refine ih (j+1) (by omega) h1 _ (g.updr hi u1) (B1.updr i1 u1) (B2.updr i2 u1) ⟨cs,hcs,B3.updr i3 u1⟩ (B4.updr i4 u1) V1 (by rw[List.length_set];exact hw) fun m hm'=>?_;rw[kix hq];split
  ·rename_i hmj;subst hmj;rw[k80 (Nat.mod_lt _ (by decide))];unfold wbit;simp[List.getD,j1,j2]
  ·exact hm m (by omega)
theorem and_ok{z:Nat}(N1:Nats h0 s1 w1)(N2:Nats h0 s2 w2)(c:btR (z:Int) w1=true)(c2:btR (z:Int) w2=true):Runs (go (.fn kcn [.agg [.int .i64 (z:Int),s1.v],.agg [.int .i64 (z:Int),s2.v],.func (.func kew) [] []]) h0) (SetN h0 z ((btL (z:Int) w1).filter (wbit w2))):=by
 rw[kbdr];refine Runs.new fun h1 b1 g1=>Runs.new fun h2 b2 g2=>Runs.new fun h3 b3 g3=>?_;have B1:=g3.has (g2.has b1);have B2:=g3.has b2;have G3:Grow h0 h3:=(g1.trans g2).trans g3;have s1':h0.blks.size<h1.blks.size:=b1.lt;have s2':h1.blks.size<h2.blks.size:=b2.lt;have s3':h2.blks.size<h3.blks.size:=b3.lt;refine Runs.step (B1.rd 0 rfl (ke _ _)) (Runs.step (B1.rd 1 rfl (asSl_v _)) ?_);refine(kjq (N1.grow G3)).call fun v h4 ⟨e,g4⟩=>?_;subst e;refine Runs.step (seen rfl) (Runs.ifF (by rw[c];rfl) ?_);have B2':=g4.has B2;refine Runs.step (B2'.rd 0 rfl (ke _ _)) (Runs.step (B2'.rd 1 rfl (asSl_v _)) ?_);refine(kjq (N2.grow (G3.trans g4))).call fun v h5 ⟨e,g5⟩=>?_;subst e;have g35:Grow h3 h5:=g4.trans g5;refine Runs.step (seen rfl) (Runs.ifF (by rw[c2];rfl) ?_);refine Runs.step ((g35.has B1).rd 0 rfl (ke _ _)) (Runs.step ((g35.has B2).rd 0 rfl (ke _ _)) (Runs.ifF (by rw[decide_eq_true rfl];rfl) ?_));obtain⟨p0,p1,p2,p3⟩:=btR_n c;obtain⟨-,-,q2,q3⟩:=btR_n c2;rw[Int.toNat_natCast]at p2 q2 p3 q3;refine Runs.step ((g35.has B1).rd 0 rfl (ke _ _)) ?_;refine(km1 (n:=z) (by omega)).call fun v h6 ⟨g6,t,i,e,hi,V⟩=>?_;have hi:h5.blks.size≤i:=hi;subst e;refine Runs.step rfl (Runs.step rfl (Runs.ifT rfl (Runs.step rfl (Runs.step (seenAt rfl (asSl_v _)) (Runs.step rfl ?_)))));dsimp only;refine Runs.new fun h7 b7 g7=>Runs.puts b7 rfl fun h8 b8 u8=>Runs.step (b8.rd 1 rfl (asSl_v _)) ?_;have s6:i<h6.blks.size:=V.inn;have s5:h3.blks.size≤h5.blks.size:=g35.size;have s6':h5.blks.size≤h6.blks.size:=g6.size;have g38:Grow h3 h8:=((g35.trans g6).trans g7).updr (by omega) u8;have V8:Vec h8 t i (List.replicate ((z+63)/64) 0):=(V.grow g7).updr (by omega) u8;rw[V8.len,List.length_replicate,← p2];have:=k5y (n1:=(z:Int)) (x1:=(z:Int)) (x2:=(z:Int)) N1 N2 (by omega) (by omega) (b1:=h0.blks.size) (b2:=h1.blks.size) (b3:=h2.blks.size) (b4:=h6.blks.size) (i:=i) (t:=t) (by omega) (by omega) (by omega) (by omega) (by omega) (by omega) w1.length 0 (by omega) h8 _ (G3.trans g38) (g38.has B1) (g38.has B2) ⟨_,rfl,g38.has b3⟩ b8 V8 (by rw[List.length_replicate,p2]) (fun m hm=>absurd hm (Nat.not_lt_zero _));refine this.imp fun v h' ⟨g,t',w,e,N,hw,o,hm⟩=>⟨g,t',w,0,e,N,o,?_⟩
 have hR:btR (z:Int) w=true:=btR_of p0 p1 (by rw[Int.toNat_natCast];omega) fun m hm1 hm2=>by
  rw[hm,p3 m (by omega) hm2];rfl
 refine⟨hR,?_⟩;unfold btL;rw[hR,c,Int.toNat_natCast];simp only[if_true,List.filter_filter];apply List.filter_congr;intro x _;rw[hm,Bool.and_comm]
theorem kbar{z:Nat}(N1:Nats h0 s1 w1)(N2:Nats h0 s2 w2)(c:btR (z:Int) w1=true)(c2:btR (z:Int) w2=true):Runs (go (.fn kqt [.agg [.int .i64 (z:Int),s1.v],.agg [.int .i64 (z:Int),s2.v]]) h0) (SetN h0 z ((btL (z:Int) w1).filter (wbit w2))):=by
 rw[k4z];refine Runs.new fun h1 b1 g1=>Runs.new fun h2 b2 g2=>Runs.new fun h3 b3 g3=>?_;have B1:=g3.has (g2.has b1);have B2:=g3.has b2;have G3:Grow h0 h3:=(g1.trans g2).trans g3;refine Runs.step (B1.rd 0 rfl (ke _ _)) (Runs.step (B1.rd 1 rfl (asSl_v _)) (Runs.step (B2.rd 0 rfl (ke _ _)) (Runs.step (B2.rd 1 rfl (asSl_v _)) ?_)));refine(and_ok (N1.grow G3) (N2.grow G3) c c2).call fun v h4 ⟨g4,t,w,e,he,N,ho,hr,hb⟩=>?_;subst he;refine Runs.step rfl (Runs.step rfl (Runs.ifT rfl (Runs.step rfl (Runs.step (seenAt rfl (asSl_v _)) (Runs.step rfl ?_)))));dsimp only;have s1:h0.blks.size<h1.blks.size:=b1.lt;have s2:h1.blks.size<h2.blks.size:=b2.lt;refine Runs.puts (g4.has b3) rfl fun h5 b5 u5=>Runs.step (b5.rd 0 rfl (ke _ _)) (Runs.step (b5.rd 1 rfl (asSl_v _)) (Runs.ret ⟨(G3.trans g4).updr (by omega) u5,t,w,e,rfl,N.updr ho b3.lt u5,ho.of_le G3,hr,hb⟩))
theorem k89{z:Nat}(N1:Nats h0 s1 w1)(N2:Nats h0 s2 w2)(c:btR (z:Int) w1=true)(c2:btR (z:Int) w2=true):Runs (go (.fn kcn [.agg [.int .i64 (z:Int),s1.v],.agg [.int .i64 (z:Int),s2.v],.func (.func ke7) [] []]) h0) (SetN h0 z ((btL (z:Int) w1).filter fun i=>!wbit w2 i)):=by
 rw[k71];refine Runs.new fun h1 b1 g1=>Runs.new fun h2 b2 g2=>Runs.new fun h3 b3 g3=>?_;have B1:=g3.has (g2.has b1);have B2:=g3.has b2;have G3:Grow h0 h3:=(g1.trans g2).trans g3;have s1':h0.blks.size<h1.blks.size:=b1.lt;have s2':h1.blks.size<h2.blks.size:=b2.lt;have s3':h2.blks.size<h3.blks.size:=b3.lt;refine Runs.step (B1.rd 0 rfl (ke _ _)) (Runs.step (B1.rd 1 rfl (asSl_v _)) ?_);refine(kjq (N1.grow G3)).call fun v h4 ⟨e,g4⟩=>?_;subst e;refine Runs.step (seen rfl) (Runs.ifF (by rw[c];rfl) ?_);have B2':=g4.has B2;refine Runs.step (B2'.rd 0 rfl (ke _ _)) (Runs.step (B2'.rd 1 rfl (asSl_v _)) ?_);refine(kjq (N2.grow (G3.trans g4))).call fun v h5 ⟨e,g5⟩=>?_;subst e;have g35:Grow h3 h5:=g4.trans g5;refine Runs.step (seen rfl) (Runs.ifF (by rw[c2];rfl) ?_);refine Runs.step ((g35.has B1).rd 0 rfl (ke _ _)) (Runs.step ((g35.has B2).rd 0 rfl (ke _ _)) (Runs.ifF (by rw[decide_eq_true rfl];rfl) ?_));obtain⟨p0,p1,p2,p3⟩:=btR_n c;obtain⟨-,-,q2,q3⟩:=btR_n c2;rw[Int.toNat_natCast]at p2 q2 p3 q3;refine Runs.step ((g35.has B1).rd 0 rfl (ke _ _)) ?_;refine(km1 (n:=z) (by omega)).call fun v h6 ⟨g6,t,i,e,hi,V⟩=>?_;have hi:h5.blks.size≤i:=hi;subst e;refine Runs.step rfl (Runs.step rfl (Runs.ifT rfl (Runs.step rfl (Runs.step (seenAt rfl (asSl_v _)) (Runs.step rfl ?_)))));dsimp only;refine Runs.new fun h7 b7 g7=>Runs.puts b7 rfl fun h8 b8 u8=>Runs.step (b8.rd 1 rfl (asSl_v _)) ?_;have s6:i<h6.blks.size:=V.inn;have s5:h3.blks.size≤h5.blks.size:=g35.size;have s6':h5.blks.size≤h6.blks.size:=g6.size;have g38:Grow h3 h8:=((g35.trans g6).trans g7).updr (by omega) u8;have V8:Vec h8 t i (List.replicate ((z+63)/64) 0):=(V.grow g7).updr (by omega) u8;rw[V8.len,List.length_replicate,← p2];have:=kbcx (n1:=(z:Int)) (x1:=(z:Int)) (x2:=(z:Int)) N1 N2 (by omega) (by omega) (b1:=h0.blks.size) (b2:=h1.blks.size) (b3:=h2.blks.size) (b4:=h6.blks.size) (i:=i) (t:=t) (by omega) (by omega) (by omega) (by omega) (by omega) (by omega) w1.length 0 (by omega) h8 _ (G3.trans g38) (g38.has B1) (g38.has B2) ⟨_,rfl,g38.has b3⟩ b8 V8 (by rw[List.length_replicate,p2]) (fun m hm=>absurd hm (Nat.not_lt_zero _));refine this.imp fun v h' ⟨g,t',w,e,N,hw,o,hm⟩=>⟨g,t',w,0,e,N,o,?_⟩
 have hR:btR (z:Int) w=true:=btR_of p0 p1 (by rw[Int.toNat_natCast];omega) fun m hm1 hm2=>by
  rw[hm,p3 m (by omega) hm2];rfl
 refine⟨hR,?_⟩;unfold btL;rw[hR,c,Int.toNat_natCast];simp only[if_true,List.filter_filter];apply List.filter_congr;intro x _;rw[hm,Bool.and_comm]
theorem k7k{z:Nat}(N1:Nats h0 s1 w1)(N2:Nats h0 s2 w2)(c:btR (z:Int) w1=true)(c2:btR (z:Int) w2=true):Runs (go (.fn kqn [.agg [.int .i64 (z:Int),s1.v],.agg [.int .i64 (z:Int),s2.v]]) h0) (SetN h0 z ((btL (z:Int) w1).filter fun i=>!wbit w2 i)):=by
 rw[k0r];refine Runs.new fun h1 b1 g1=>Runs.new fun h2 b2 g2=>Runs.new fun h3 b3 g3=>?_;have B1:=g3.has (g2.has b1);have B2:=g3.has b2;have G3:Grow h0 h3:=(g1.trans g2).trans g3;refine Runs.step (B1.rd 0 rfl (ke _ _)) (Runs.step (B1.rd 1 rfl (asSl_v _)) (Runs.step (B2.rd 0 rfl (ke _ _)) (Runs.step (B2.rd 1 rfl (asSl_v _)) ?_)));refine(k89 (N1.grow G3) (N2.grow G3) c c2).call fun v h4 ⟨g4,t,w,e,he,N,ho,hr,hb⟩=>?_;subst he;refine Runs.step rfl (Runs.step rfl (Runs.ifT rfl (Runs.step rfl (Runs.step (seenAt rfl (asSl_v _)) (Runs.step rfl ?_)))));dsimp only;have s1:h0.blks.size<h1.blks.size:=b1.lt;have s2:h1.blks.size<h2.blks.size:=b2.lt;refine Runs.puts (g4.has b3) rfl fun h5 b5 u5=>Runs.step (b5.rd 0 rfl (ke _ _)) (Runs.step (b5.rd 1 rfl (asSl_v _)) (Runs.ret ⟨(G3.trans g4).updr (by omega) u5,t,w,e,rfl,N.updr ho b3.lt u5,ho.of_le G3,hr,hb⟩))
theorem kbbv{n:Nat}(hn:n≤65536){b1 b4 i:Nat}{t:Sl}(i1:b1≠i)(i4:b4≠i)(h1b:h0.blks.size≤b1)(hi:h0.blks.size≤i):∀(k j:Nat),j+k=(n+63)/64→∀(h:AH)(w:List Nat),Grow h0 h→h.has b1 [.int .i64 0,(⟨none,0,.is 0⟩:Sl).v] ky→h.has b4 [.int .i64 (n:Int),t.v] ky→Vec h t i w→w.length=(n+63)/64→(∀m,m/64<j→wbit w m=decide (m<n))→
  Runs (go (.pt kfv ki4 [(0,.int .i64 (n:Int)),(2,.ptr (some (.new b1 0))),(4,.ptr (some (.new b4 0))),(5,.int .i64 0),(15,.int .i64 (((n+63)/64:Nat):Int)),(16,.int .i64 (j:Int))]) h) (SetN h0 n (List.range n)):=by
 intro k
 induction k with
 | zero =>
  intro j hj h w g B1 B4 V hw hm;obtain rfl:j=(n+63)/64:=by omega
  rw[kr4];refine Runs.ifF (decide_eq_false (by omega)) (Runs.step (B4.rd 0 rfl (ke _ _)) (Runs.step (B4.rd 1 rfl (asSl_v _)) ?_));refine Runs.puts B1 rfl fun h1 B5 u1=>?_
  have hm':∀m,wbit w m=decide (m∈List.range n):=fun m=>by
   rw[show decide (m∈List.range n)=decide (m<n)from by rw[decide_eq_decide];exact List.mem_range];rcases Nat.lt_or_ge (m/64) ((n+63)/64)with h' | h'
   ·exact hm m h'
   ·rw[kjs (by omega),decide_eq_false (by omega)]
  obtain⟨r1,r2⟩:=ofP_bt hn (fun x hx=>List.mem_range.1 hx) hw hm';refine Runs.step (B5.rd 0 rfl (ke _ _)) (Runs.step (B5.rd 1 rfl (asSl_v _)) (Runs.ret ⟨g.updr h1b u1,t,w,0,rfl,(V.updr (fun e=>i1 e.symm) u1).nats,V.own hi,r1,?_⟩));rw[r2,List.filter_eq_self];intro x hx;exact decide_eq_true hx
 | succ k ih =>
  intro j hj h w g B1 B4 V hw hm;have hq:j<w.length:=by omega
  rw[kr4];refine Runs.ifT (decide_eq_true (by omega)) (Runs.step (B4.rd 1 rfl (asSl_v _)) ?_);rw[V.len];refine Runs.step (V.idx rfl (kbb hq)) (Runs.vput V rfl (kbb hq) (kbr (n:=18446744073709551615) (by decide)) fun h1 V1 u1=>?_);rw[wrap64 (n:=64*(j:Int)) (by omega) (by omega),wrap64 (n:=(n:Int)-64*(j:Int)) (by omega) (by omega),ko (by omega)];have b4':=B4.updr i4 u1;have b1':=B1.updr i1 u1
  have hall:∀x,x<64→(18446744073709551615:Nat).testBit x=true:=fun x hx=>by
   have:(18446744073709551615:Nat)=2^64-1:=by decide
   rw[this,Nat.testBit_two_pow_sub_one];exact decide_eq_true hx
  refine Runs.cond (fun c=>?_) fun c=>?_
  ·rw[decide_eq_true_eq]at c;have hz:∃z:Nat,(n:Int)-64*(j:Int)=(z:Int)∧z<64∧n=64*j+z:=⟨n-64*j,by omega,by omega,by omega⟩;obtain⟨z,hz,z64,hnz⟩:=hz;refine Runs.step (b4'.rd 1 rfl (asSl_v _)) (Runs.ifF (decide_eq_false (by omega)) ?_);have hq1:j<(w.set j 18446744073709551615).length:=by rw[List.length_set];exact hq
   have hpos:1≤2^z:=Nat.one_le_two_pow;have hlt:2^z<18446744073709551616:=Nat.pow_lt_pow_right (n:=64) (by decide) z64
   have hval:IntKind.wrap .u64 (ishl .u64 1 ((n:Int)-64*(j:Int))-1)=((2^z-1:Nat):Int):=by
    rw[hz,krw z64,wrapU];generalize 2^z=q at *
    omega
   rw[V1.len,hval];refine Runs.step (V1.idx rfl (kbb hq1)) (Runs.vput V1 rfl (kbb hq1) (kbr (by omega)) fun h2 V2 u2=>?_);refine ih (j+1) (by omega) h2 _ ((g.updr hi u1).updr hi u2) (b1'.updr i1 u2) (b4'.updr i4 u2) V2 (by rw[List.length_set,List.length_set];exact hw) fun m hm'=>?_;rw[kix hq1];split
   ·rename_i hmj;rw[Nat.testBit_two_pow_sub_one,decide_eq_decide];omega
   ·rw[kix hq,if_neg (by assumption)];exact hm m (by omega)
  ·rw[decide_eq_false_iff_not]at c;refine ih (j+1) (by omega) h1 _ (g.updr hi u1) b1' b4' V1 (by rw[List.length_set];exact hw) fun m hm'=>?_;rw[kix hq];split
   ·rename_i hmj;rw[hall _ (Nat.mod_lt _ (by decide)),eq_comm,decide_eq_true_eq];omega
   ·exact hm m (by omega)
theorem kzi{n:Nat}(hn:n≤65536):Runs (go (.fn kfv [.int .i64 (n:Int)]) h0) (SetN h0 n (List.range n)):=by
 rw[kys];refine Runs.new fun h1 b1 g1=>?_;refine(km1 hn).call fun v h2 ⟨g2,t,i,e,hi,V⟩=>?_;subst e;refine Runs.step rfl (Runs.step rfl (Runs.ifT rfl (Runs.step rfl (Runs.step (seenAt rfl (asSl_v _)) (Runs.step rfl ?_)))));dsimp only;refine Runs.new fun h3 b3 g3=>Runs.puts b3 rfl fun h4 b4 u4=>Runs.step (b4.rd 1 rfl (asSl_v _)) ?_;have z1:=b1.lt;have z2:=V.inn;have z3:=g2.size;have g24:Grow h2 h4:=g3.updr (Nat.le_refl _) u4;have G4:=(g1.trans g2).trans g24;have V4:=V.grow g24;rw[V4.len,List.length_replicate];exact kbbv hn (b1:=h0.blks.size) (b4:=h2.blks.size) (i:=i) (by omega) (by omega) (Nat.le_refl _) (by omega) ((n+63)/64) 0 (by omega) h4 _ G4 ((g2.trans g24).has b1) b4 V4 (by simp) (fun m hm=>absurd hm (Nat.not_lt_zero _))
end
end Go.Ab
set_option maxRecDepth 10000
namespace Go.Ab
open Go.Proofs Go.Num
def Tb.no:Tb:=⟨[],[],[]⟩
abbrev Spl:=Nat×Nat×Nat
def kiy(p:Nat)(t:Tb):List Spl:=(cutsTo t t.cols.length).map fun x=>(p,x.1,x.2)
def ke2(ts:List Tb)(n:Nat):List Spl:=(List.range n).flatMap fun p=>kiy p (ts.getD p Tb.no)
def kb8(ts:List Tb):List Spl:=ke2 ts ts.length
def leftS(ts:List Tb)(x:Spl)(i:Nat):Bool:=leftP (ts.getD x.1 Tb.no) x.2.1 (x.2.2:Int) i
def sumR(g:List Int)(R:List Nat):Int×Int:=(sumG g R 0,(R.length:Int))
def sumsS(ts:List Tb)(g:List Int)(R:List Nat):List (Int×Int):=(kb8 ts).map fun x=>sumR g (R.filter (leftS ts x))
structure Wt where
 place:Nat
 deep:Nat
 rows:List Nat
def bestS(c:Cfg)(ts:List Tb)(g:List Int)(x:Wt):List Int:=if(x.deep:Int)<c.depth then(bestF c.lambda c.gamma (sumR g x.rows).1 (sumR g x.rows).2 (sumsS ts g x.rows)).1 else []
def kfq(c:Cfg)(s:Int×Int):Int:=(kmj c.trees c.depth c.lambda c.gamma c.num c.den c.loss c.clip s.1 s.2).1
def addS(w:Int)(R:List Nat)(sc:List Int):List Int:=R.foldl (fun sc i=>sc.set i (IntKind.wrap .i64 (sc.getD i 0+w))) sc
def leafN(w:Int):Nd:=⟨true,w,0,0,0,0,0⟩
def splitN(x:Spl)(l r:Nat):Nd:=⟨false,0,(x.1:Int),(x.2.1:Int),(x.2.2:Int),(l:Int),(r:Int)⟩
def kidsS(ts:List Tb)(x:Wt)(s:Spl)(n:Nat):List Wt:=[⟨n,x.deep+1,x.rows.filter (leftS ts s)⟩,⟨n+1,x.deep+1,x.rows.filter fun i=>!leftS ts s i⟩]
def growS(c:Cfg)(ts:List Tb)(g:List Int):Nat→List Wt→List Nd→List Int→List Nd×List Int
 | 0,_,nodes,sc=>(nodes,sc)
 | _+1,[],nodes,sc=>(nodes,sc)
 | n+1,x::W,nodes,sc=>match bestS c ts g x with
  | []=>growS c ts g n W (nodes.set x.place (leafN (kfq c (sumR g x.rows)))) (addS (kfq c (sumR g x.rows)) x.rows sc)
  | b::_=>growS c ts g n (W++kidsS ts x ((kb8 ts).getD b.toNat (0,0,0)) nodes.length) (nodes.set x.place (splitN ((kb8 ts).getD b.toNat (0,0,0)) nodes.length (nodes.length+1))++[Nd.no,Nd.no]) sc
def firstW(n:Nat):Wt:=⟨0,0,List.range n⟩
def gradS(c:Cfg)(sc labels:List Int):List Int:=(List.range labels.length).map fun i=>(c.grad (sc.getD i 0) (labels.getD i 0)).1
def treeS(c:Cfg)(ts:List Tb)(labels sc:List Int):List Nd×List Int:=growS c ts (gradS c sc labels) 64 [firstW labels.length] [Nd.no] sc
def trainS(c:Cfg)(ts:List Tb)(labels:List Int):Nat→List (List Nd)→List Int→List (List Nd)×List Int
 | 0,m,sc=>(m,sc)
 | n+1,m,sc=>trainS c ts labels n (m++[(treeS c ts labels sc).1]) (treeS c ts labels sc).2
def oddL(l:List Int):Bool:=l.any fun x=>decide (x < -1048576)||decide (x>1048576)
def badT(ts:List Tb):Bool:=ts.any fun t=>!tabR t||(!decide (t.ids=(ts.getD 0 Tb.no).ids)||decide (t.ids.length=0))
def faultC(c:Cfg)(ts:List Tb)(labels:List Int):Int:=if !c.right then 1 else if ts.length=0 then 1 else if ts.length>16 then 1 else if badT ts then 20 else if labels.length≠(ts.getD 0 Tb.no).ids.length then 1 else if oddL labels then 1 else 0
def trainC(c:Cfg)(ts:List Tb)(labels:List Int):List (List Nd)×List Int×Int:=if faultC c ts labels=0 then((trainS c ts labels c.trees.toNat [] (List.replicate labels.length 0)).1,(trainS c ts labels c.trees.toNat [] (List.replicate labels.length 0)).2,0)else([],[],faultC c ts labels)
theorem Cfg.right_depth{c:Cfg}(h:c.right=true):1≤c.trees∧c.trees≤16∧1≤c.depth∧c.depth≤5:=by
 unfold Cfg.right at h;rw[decide_eq_true_eq]at h;omega
theorem kr5{c:Cfg}{ts:List Tb}{labels:List Int}(h:faultC c ts labels=0):c.right=true∧ts≠[]∧ts.length≤16∧badT ts=false∧labels.length=(ts.getD 0 Tb.no).ids.length∧oddL labels=false:=by
 unfold faultC at h;by_cases h1:c.right=true<;>simp only[h1,Bool.not_true,Bool.not_false,Bool.false_eq_true,if_false,if_true]at h
 ·split at h
  ·cases h
  rename_i h2;split at h
  ·cases h
  split at h
  ·cases h
  rename_i h3 h4;split at h
  ·cases h
  rename_i h5;split at h
  ·cases h
  rename_i h6;exact⟨h1,fun e=>h2 (by rw[e];rfl),by omega,by simpa using h4,by simpa using h5,by simpa using h6⟩
 ·simp at h
theorem ktz{ts:List Tb}(h:badT ts=false){p:Nat}(hp:p<ts.length):tabR ts[p]=true∧ts[p].ids=(ts.getD 0 Tb.no).ids∧ts[p].ids.length≠0:=by
 unfold badT at h;rw[List.any_eq_false]at h;have:=h _ (List.getElem_mem hp);simp only[Bool.or_eq_true,Bool.not_eq_true',decide_eq_true_eq,decide_eq_false_iff_not,not_or]at this;obtain⟨h1,h2,h3⟩:=this;exact⟨by simpa using h1,Classical.byContradiction fun e=>h2 e,h3⟩
theorem kxl{l G N:Int}:∀(xs:List (Int×Int))(i:Nat)(st:List Int×Fr3),(∀b∈st.1,∃j:Nat,b=(j:Int)∧j<i+xs.length)→∀b∈(bestGo l G N xs (i:Int) st).1,∃j:Nat,b=(j:Int)∧j<i+xs.length
 | [],i,st,h=>by
  rw[bestGo];exact h
 | x::xs,i,st,h=>by
  rw[bestGo];split
  ·have hst:∀b∈(ke6 l G N x (i:Int) st).1,∃j:Nat,b=(j:Int)∧j<(i+1)+xs.length:=by
    intro b hb
    have h':∀b∈st.1,∃j:Nat,b=(j:Int)∧j<(i+1)+xs.length:=fun b hb=>by
     obtain⟨j,e,hj⟩:=h b hb;rw[List.length_cons]at hj;exact⟨j,e,by omega⟩
    have hi:∃j:Nat,(i:Int)=(j:Int)∧j<(i+1)+xs.length:=⟨i,rfl,by omega⟩;unfold ke6 at hb;split at hb
    ·unfold askF at hb;split at hb
     ·rw[List.mem_singleton]at hb;rw[hb];exact hi
     ·split at hb
      ·rcases List.mem_append.1 hb with hb | hb
       ·exact h' b hb
       ·rw[List.mem_singleton]at hb;rw[hb];exact hi
      ·exact h' b hb
    ·exact h' b hb
   have:=kxl (l:=l) (G:=G) (N:=N) xs (i+1) (ke6 l G N x (i:Int) st) hst;intro b hb;obtain⟨j,e,hj⟩:=this b (by simpa using hb);exact⟨j,e,by rw[List.length_cons];omega⟩
  ·intro b hb;simp at hb
theorem kyv{l γ G N:Int}{xs:List (Int×Int)}:∀b∈(bestF l γ G N xs).1,∃j:Nat,b=(j:Int)∧j<xs.length:=by
 intro b hb;unfold bestF at hb;cases h1:!kbe G N<;>rw[h1]at hb
 ·cases h2:!kb1 l<;>rw[h2]at hb
  ·cases h3:decide (γ<0)<;>rw[h3]at hb
   ·cases h4:decide (γ>1048576)<;>rw[h4]at hb
    ·cases h5:decide ((xs.length:Int)>16384)<;>rw[h5]at hb
     ·obtain⟨j,e,hj⟩:=kxl xs 0 ([],gammaF γ) (fun b hb=>by cases hb) b hb;exact⟨j,e,by omega⟩
     ·cases hb
    ·cases hb
   ·cases hb
  ·cases hb
 ·cases hb
theorem k0g{c:Cfg}{ts:List Tb}{g:List Int}{x:Wt}:∀b∈bestS c ts g x,∃j:Nat,b=(j:Int)∧j<(kb8 ts).length:=by
 intro b hb;unfold bestS at hb;split at hb
 ·obtain⟨j,e,hj⟩:=kyv b hb;exact⟨j,e,by unfold sumsS at hj;rwa[List.length_map]at hj⟩
 ·cases hb
theorem k7i{c:Cfg}{ts:List Tb}{g:List Int}{x:Wt}{b:Int}{bs:List Int}(h:bestS c ts g x=b::bs):(x.deep:Int)<c.depth:=by
 unfold bestS at h;split at h
 ·assumption
 ·cases h
def muW(D:Nat)(W:List Wt):Nat:=(W.map fun x=>2^(D+1-x.deep)-1).sum
theorem kjc(D:Nat)(x:Wt)(W:List Wt):muW D (x::W)=(2^(D+1-x.deep)-1)+muW D W:=by simp[muW]
theorem ku7(D:Nat)(V W:List Wt):muW D (V++W)=muW D V+muW D W:=by simp[muW]
theorem muW_le{D:Nat}:∀{W:List Wt},(∀x∈W,x.deep≤D)→W.length≤muW D W
 | [],_=>by simp[muW]
 | x::W,h=>by
  have h1:=muW_le (W:=W) fun y hy=>h y (by simp[hy]);have h2:=h x (by simp)
  have h3:2≤2^(D+1-x.deep):=by
   have:=Nat.pow_le_pow_right (n:=2) (i:=1) (j:=D+1-x.deep) (by decide) (by omega)
   simpa using this
  rw[kjc,List.length_cons];omega
theorem k3f{D n:Nat}{ts:List Tb}{x:Wt}{s:Spl}(h:x.deep<D):muW D (kidsS ts x s n)+1=2^(D+1-x.deep)-1:=by
 have h1:D+1-x.deep=(D-x.deep)+1:=by omega
 have h2:D+1-(x.deep+1)=D-x.deep:=by omega
 have h3:2≤2^(D-x.deep):=by
  have:=Nat.pow_le_pow_right (n:=2) (i:=1) (j:=D-x.deep) (by decide) (by omega)
  simpa using this
 unfold kidsS;rw[kjc,kjc,h2,h1,Nat.pow_succ];simp only[muW,List.map_nil,List.sum_nil];omega
structure GrowOk(D n:Nat)(N:Nat)(W:List Wt)(nodes:List Nd):Prop where
 mu:muW D W≤n
 deep:∀x∈W,x.deep≤D
 rows:∀x∈W,x.rows.Sublist (List.range N)
 place:∀(i:Nat)(hi:i<W.length),W[i].place+W.length=nodes.length+i
 size:nodes.length+muW D W≤W.length+(2^(D+1)-1)
theorem GrowOk.start{D N:Nat}:GrowOk D (2^(D+1)-1) N [firstW N] [Nd.no]:=by
 have hm:muW D [firstW N]=2^(D+1)-1:=by simp[muW,firstW]
 refine⟨by rw[hm];exact Nat.le_refl _,fun x hx=>?_,fun x hx=>?_,fun i hi=>?_,by rw[hm];simp⟩
 ·rw[List.mem_singleton.1 hx];simp[firstW]
 ·rw[List.mem_singleton.1 hx];exact List.Sublist.refl _
 ·simp at hi;subst hi;simp[firstW]
theorem GrowOk.leaf{D n N:Nat}{x:Wt}{W:List Wt}{nodes:List Nd}(h:GrowOk D (n+1) N (x::W) nodes)(y:Nd):GrowOk D n N W (nodes.set x.place y):=by
 have hd:=h.deep x (by simp)
 have h3:2≤2^(D+1-x.deep):=by
  have:=Nat.pow_le_pow_right (n:=2) (i:=1) (j:=D+1-x.deep) (by decide) (by omega)
  simpa using this
 have hm:=h.mu;have hs:=h.size;rw[kjc]at hm hs;rw[List.length_cons]at hs;refine⟨by omega,fun y hy=>h.deep y (by simp[hy]),fun y hy=>h.rows y (by simp[hy]),fun i hi=>?_,by rw[List.length_set];omega⟩;have:=h.place (i+1) (by simp;omega);simp only[List.getElem_cons_succ,List.length_cons]at this;rw[List.length_set];omega
theorem GrowOk.split{D n N:Nat}{x:Wt}{W:List Wt}{nodes:List Nd}(h:GrowOk D (n+1) N (x::W) nodes)(hx:x.deep<D)(ts:List Tb)(s:Spl)(y:Nd):GrowOk D n N (W++kidsS ts x s nodes.length) (nodes.set x.place y++[Nd.no,Nd.no]):=by
 have hk:=k3f (n:=nodes.length) (ts:=ts) (s:=s) hx;have hm:=h.mu;have hs:=h.size;rw[kjc]at hm hs;rw[List.length_cons]at hs;have hl:(nodes.set x.place y++[Nd.no,Nd.no]).length=nodes.length+2:=by simp
 have hl2:(W++kidsS ts x s nodes.length).length=W.length+2:=by simp[kidsS]
 have p0:=h.place 0 (by simp);simp only[List.getElem_cons_zero,List.length_cons]at p0;refine⟨by rw[ku7];omega,fun z hz=>?_,fun z hz=>?_,fun i hi=>?_,by rw[ku7,hl,hl2];omega⟩
 ·rcases List.mem_append.1 hz with hz | hz
  ·exact h.deep z (by simp[hz])
  ·unfold kidsS at hz;simp only[List.mem_cons,List.not_mem_nil,or_false]at hz;rcases hz with rfl | rfl<;>exact hx
 ·have hr:=h.rows x (by simp);rcases List.mem_append.1 hz with hz | hz
  ·exact h.rows z (by simp[hz])
  ·unfold kidsS at hz;simp only[List.mem_cons,List.not_mem_nil,or_false]at hz;rcases hz with rfl | rfl<;>exact List.filter_sublist.trans hr
 ·rw[hl,hl2];rcases Nat.lt_or_ge i W.length with hiW | hiW
  ·rw[List.getElem_append_left hiW];have:=h.place (i+1) (by simp;omega);simp only[List.getElem_cons_succ,List.length_cons]at this;omega
  ·rw[List.getElem_append_right hiW];have:i-W.length=0∨i-W.length=1:=by rw[hl2]at hi;omega
   rcases this with e | e
   ·simp only[e,kidsS,List.getElem_cons_zero];omega
   ·simp only[e,kidsS,List.getElem_cons_succ,List.getElem_cons_zero];omega
theorem GrowOk.nodes63{D n N:Nat}{W:List Wt}{nodes:List Nd}(h:GrowOk D n N W nodes)(hD:D≤5):nodes.length≤63:=by
 have h1:=muW_le h.deep;have h2:=h.size;have h3:2^(D+1)≤2^6:=Nat.pow_le_pow_right (by decide) (by omega);omega
theorem GrowOk.first{D n N:Nat}{x:Wt}{W:List Wt}{nodes:List Nd}(h:GrowOk D n N (x::W) nodes):x.place<nodes.length:=by
 have p0:=h.place 0 (by simp);simp only[List.getElem_cons_zero,List.length_cons]at p0;omega
theorem GrowOk.least{D n N:Nat}{x:Wt}{W:List Wt}{nodes:List Nd}(h:GrowOk D n N (x::W) nodes):∀y∈W,x.place<y.place:=by
 intro y hy;obtain⟨i,hi,rfl⟩:=List.getElem_of_mem hy;have p0:=h.place 0 (by simp);have p1:=h.place (i+1) (by simp;omega);simp only[List.getElem_cons_zero,List.getElem_cons_succ,List.length_cons]at p0 p1;omega
theorem GrowOk.below{D n N:Nat}{W:List Wt}{nodes:List Nd}(h:GrowOk D n N W nodes):∀y∈W,y.place<nodes.length:=by
 intro y hy;obtain⟨i,hi,rfl⟩:=List.getElem_of_mem hy;have p1:=h.place i hi;omega
@[reducible] def Ef.tb:Ef Tb where
 w:=3
 pos:=by decide
 has h S cs t:=∃s1 s2 s3:Sl,cs=[s1.v,s2.v,s3.v]∧TabAt h S s1 s2 s3 t
 len:=fun⟨_,_,_,e,_⟩=>by rw[e];rfl
 grow g:=fun⟨a,b,c,e,n⟩=>⟨a,b,c,e,n.grow g⟩
 mono f:=fun⟨a,b,c,e,n⟩=>⟨a,b,c,e,⟨n.ids.mono f,n.bins.mono f,n.cols.mono f⟩⟩
 upd no u:=fun⟨a,b,c,e,n⟩=>⟨a,b,c,e,⟨n.ids.upd no u,n.bins.upd no u,n.cols.upd no u⟩⟩
 bound:=fun⟨a,b,c,e,n⟩=>⟨a,b,c,e,⟨n.ids.bound,n.bins.bound,n.cols.bound⟩⟩
theorem Sq.tb{h:AH}{S:Fp}{s:Sl}{ts:List Tb}(n:Sq Ef.tb h S s ts){i:Nat}(hi:i<ts.length):∃(r:Ref)(s1 s2 s3:Sl),idx s.ref s.len (i:Int) 3=some r∧(h.cell (r.add 0)).bind AV.asSl=some s1∧(h.cell (r.add 1)).bind AV.asSl=some s2∧(h.cell (r.add 2)).bind AV.asSl=some s3∧TabAt h S s1 s2 s3 ts[i]:=by
 obtain⟨r,cs,e1,⟨s1,s2,s3,rfl,t⟩,l⟩:=n.at (kgg hi);rw[n.len];exact⟨r,s1,s2,s3,e1,l.rd (Grow.refl _) 0 rfl (asSl_v _),l.rd (Grow.refl _) 1 rfl (asSl_v _),l.rd (Grow.refl _) 2 rfl (asSl_v _),t⟩
def BitsAt(h:AH)(S:Fp)(z:Nat)(y:Sl)(R:List Nat):Prop:=∃w:List Nat,Nats h y w∧(∀j,¬Av y j w→S j)∧btR (z:Int) w=true∧btL (z:Int) w=R
theorem BitsAt.grow{h h':AH}{S:Fp}{z:Nat}{y:Sl}{R:List Nat}(b:BitsAt h S z y R)(g:Grow h h'):BitsAt h' S z y R:=by
 obtain⟨w,N,a,r,l⟩:=b;exact⟨w,N.grow g,a,r,l⟩
theorem BitsAt.mono{h:AH}{S T:Fp}{z:Nat}{y:Sl}{R:List Nat}(f:∀j,S j→T j)(b:BitsAt h S z y R):BitsAt h T z y R:=by
 obtain⟨w,N,a,r,l⟩:=b;exact⟨w,N,fun j k=>f j (a j k),r,l⟩
theorem BitsAt.upd{h h':AH}{S:Fp}{z i:Nat}{y:Sl}{R:List Nat}(no:¬S i)(u:Upd h h' i)(b:BitsAt h S z y R):BitsAt h' S z y R:=by
 obtain⟨w,N,a,r,l⟩:=b;exact⟨w,N.upda (Classical.byContradiction fun k=>no (a _ k)) u,a,r,l⟩
theorem BitsAt.md{h h':AH}{S T:Fp}{z:Nat}{y:Sl}{R:List Nat}(m:Md T h h')(d:Dis S T)(b:BitsAt h S z y R):BitsAt h' S z y R:=by
 obtain⟨w,N,a,r,l⟩:=b;exact⟨w,N.mdE a m d,a,r,l⟩
theorem BitsAt.bound{h:AH}{S:Fp}{z:Nat}{y:Sl}{R:List Nat}(b:BitsAt h S z y R):BitsAt h (fun j=>S j∧j<h.blks.size) z y R:=by
 obtain⟨w,N,a,r,l⟩:=b;refine⟨w,N,fun j k=>⟨a j k,?_⟩,r,l⟩;rcases Nat.lt_or_ge j h.blks.size with h1 | h1
 ·exact h1
 ·exact absurd (Av.of_base N h1) k
theorem BitsAt.lt{h:AH}{S:Fp}{z:Nat}{y:Sl}{R:List Nat}(b:BitsAt h S z y R):R.Sublist (List.range z):=by
 obtain⟨w,N,a,r,rfl⟩:=b;unfold btL;rw[r,if_pos rfl,Int.toNat_natCast];exact List.filter_sublist
theorem kbci{h:AH}{p:Sl}{xs:List Nat}(o:Own h p){m:Nat}(k:¬Av p m xs):h.blks.size≤m:=by
 rcases Nat.lt_or_ge m h.blks.size with hm | hm
 ·exact absurd (Av.of_own o hm) k
 ·exact hm
theorem SetN.bits{h0 h':AH}{z:Nat}{R:List Nat}{v:AV}(p:SetN h0 z R v h'):Grow h0 h'∧∃(t:Sl)(e:Int)(S:Fp),v=.tup [.agg [.int .i64 (z:Int),t.v],.int .i64 e]∧BitsAt h' S z t R∧(∀m,S m→h0.blks.size≤m)∧Own h0 t:=by
 obtain⟨g,t,w,e,rfl,N,o,r,l⟩:=p;exact⟨g,t,e,fun j=>¬Av t j w,rfl,⟨w,N,fun j k=>k,r,l⟩,fun m k=>kbci o k,o⟩
structure SpR where
 spl:Spl
 rows:List Nat
@[reducible] def Ef.spr(z:Nat):Ef SpR where
 w:=9
 pos:=by decide
 has h S cs x:=∃y:Sl,cs=[.bool false,.int .i64 0,.int .i64 (x.spl.1:Int),.int .i64 (x.spl.2.1:Int),.int .i64 (x.spl.2.2:Int),.int .i64 0,.int .i64 0,.int .i64 (z:Int),y.v]∧BitsAt h S z y x.rows
 len:=fun⟨_,e,_⟩=>by rw[e];rfl
 grow g:=fun⟨a,e,n⟩=>⟨a,e,n.grow g⟩
 mono f:=fun⟨a,e,n⟩=>⟨a,e,n.mono f⟩
 upd no u:=fun⟨a,e,n⟩=>⟨a,e,n.upd no u⟩
 bound:=fun⟨a,e,n⟩=>⟨a,e,n.bound⟩
theorem k52{n:Nat}(h:n≤1000000):growOk Pg n kec 9=true:=by
 unfold growOk;rw[kz4,k7m];have h1:n*88≤ks:=by simp only[ks];omega
 have h2:n*9≤ks:=by simp only[ks];omega
 have h3:n≤ks:=by simp only[ks];omega
 simp[h1,h2,h3]
theorem kz1{n:Nat}(h:n≤1000000):growOk Pg n kbc 2=true:=by
 unfold growOk;rw[kbck,k2s];have h1:n*16≤ks:=by simp only[ks];omega
 have h2:n*2≤ks:=by simp only[ks];omega
 have h3:n≤ks:=by simp only[ks];omega
 simp[h1,h2,h3]
theorem kbcp(g:List Int)(l:List Nat)(i:Nat)(a:Int):sumG g (l++[i]) a=IntKind.wrap .i64 (sumG g l a+g.getD i 0):=by
 unfold sumG;rw[List.foldl_append,List.foldl_cons,List.foldl_nil]
section
variable{h0:AH}{S Sg St:Fp}{gs ys tsl:Sl}{g:List Int}{R:List Nat}{z:Nat}{ts:List Tb}
theorem k6i(Q:Sq EI h0 Sg gs g){x:Sl}{Sx:Fp}(hR:∀i∈R,i<g.length)(hl:R.length≤100000){b1 b2:Nat}(hb1:h0.blks.size≤b1)(hb2:h0.blks.size≤b2)(hb:b1≠b2)(hx2:¬Sx b2):∀(k i:Nat),i+k=R.length→∀(h:AH),Grow h0 h→Sq EI h Sx x (zs R)→h.has b1 [.int .i64 0,.int .i64 0] kbc→h.has b2 [.int .i64 (sumG g (R.take i) 0),.int .i64 (i:Int)] kbc→
  Runs (go (.pt kfh klc [(0,gs.v),(4,.ptr (some (.new b1 0))),(5,.ptr (some (.new b2 0))),(9,x.v),(10,.int .i64 (R.length:Int)),(11,.int .i64 (i:Int))]) h) fun v h'=>v=.agg [.int .i64 (sumR g R).1,.int .i64 (sumR g R).2]∧Grow h0 h':=by
 intro k
 induction k with
 | zero =>
  intro i hi h G X B1 B2;obtain rfl:i=R.length:=by omega
  rw[List.take_length]at B2;rw[ks2];refine Runs.ifF (decide_eq_false (by omega)) (Runs.step (B2.rd 0 rfl (ke _ _)) (Runs.step (B2.rd 1 rfl (ke _ _)) ?_));refine Runs.puts B1 rfl fun h1 B3 u1=>?_;exact Runs.step (B3.rd 0 rfl (ke _ _)) (Runs.step (B3.rd 1 rfl (ke _ _)) (Runs.ret ⟨rfl,G.updr hb1 u1⟩))
 | succ k ih =>
  intro i hi h G X B1 B2;have hi':i<R.length:=by omega
  have hz:i<(zs R).length:=by rw[zs_len];exact hi'
  obtain⟨r1,e1,e2⟩:=X.int hz;have ex:(zs R)[i]=((R[i]:Nat):Int):=by simp[zs]
  rw[ex]at e2;have hg:=hR _ (List.getElem_mem hi');obtain⟨r2,e3,e4⟩:=(Q.grow G).int hg;rw[ks2];refine Runs.ifT (decide_eq_true (by omega)) (Runs.step e1 (Runs.step e2 (Runs.step (B2.rd 0 rfl (ke _ _)) (Runs.step e3 (Runs.step e4 ?_)))));refine Runs.putAt (o:=0) B2 (by simp) rfl fun h1 B3 u1=>?_;refine Runs.step (B3.rd 1 rfl (ke _ _)) ?_;refine Runs.putAt (o:=1) B3 (by simp) rfl fun h2 B4 u2=>?_;rw[ko (i:=i) (by omega)];have hgd:g.getD R[i] 0=g[R[i]]:=by simp[List.getD,hg]
  refine ih (i+1) (by omega) h2 ((G.updr hb2 u1).updr hb2 u2) ((X.upd hx2 u1).upd hx2 u2) ((B1.updr hb u1).updr hb u2) ?_;rw[List.take_succ_eq_append_getElem hi',kbcp,hgd];have hw:IntKind.wrap .i64 ((i:Int)+1)=((i+1:Nat):Int):=ko (by omega)
  simpa[hw]using B4
theorem krz(T0:Tab h0)(Q:Sq EI h0 Sg gs g)(B:BitsAt h0 S z ys R)(hz:z≤g.length)(hz2:z≤65536):Runs (go (.fn kfh [gs.v,.agg [.int .i64 (z:Int),ys.v]]) h0) fun v h'=>v=.agg [.int .i64 (sumR g R).1,.int .i64 (sumR g R).2]∧Grow h0 h':=by
 have hsub:=B.lt;obtain⟨w,N,-,r,l⟩:=B;rw[k9u];refine Runs.new fun h1 b1 g1=>Runs.new fun h2 b2 g2=>Runs.new fun h3 b3 g3=>?_;have G3:=(g1.trans g2).trans g3;refine Runs.step (((g2.trans g3).has b1).rd 0 rfl (ke _ _)) (Runs.step (((g2.trans g3).has b1).rd 1 rfl (asSl_v _)) ?_);refine(kuh (n:=(z:Int)) (T0.grow G3) (N.grow G3)).call fun v h4 ⟨g4,x,j,e,lj,X⟩=>?_;subst e;rw[l]at X;refine Runs.step (seen (asSl_v _)) ?_;rw[X.len,zs_len];have hlen:R.length≤z:=by have:=hsub.length_le;rwa[List.length_range]at this
 have z1:=b1.lt;have z2:=b2.lt;have z3:=b3.lt;have G4:=G3.trans g4;refine k6i Q (fun i hi=>Nat.lt_of_lt_of_le (List.mem_range.1 (hsub.subset hi)) hz) (by omega) (b1:=h1.blks.size) (b2:=h2.blks.size) g1.size (by omega) (by omega) (fun k=>?_) R.length 0 (by omega) h4 G4 X.sq (((g3.trans g4).has b2)) (g4.has b3);rcases k with k | k
 ·have k:j=some h2.blks.size:=k;subst k;have:h3.blks.size≤h2.blks.size:=lj;omega
 ·exact k
end
theorem kbdb{z:Nat}{w:List Nat}{p:Nat→Bool}(r:btR (z:Int) w=true):((List.range z).filter p).filter (wbit w)=(btL (z:Int) w).filter p:=by
 unfold btL;rw[r,if_pos rfl,Int.toNat_natCast,List.filter_filter,List.filter_filter];apply List.filter_congr;intro x _;exact Bool.and_comm _ _
structure SplI(h0:AH)(z:Nat)(ts:List Tb)(g:List Int)(R:List Nat)(D:List Spl)(l:Sl)(jl:Option Nat)(s:Sl)(js:Option Nat)(h:AH):Prop where
 grow:Grow h0 h
 ll:LeO h0.blks.size jl
 ls:LeO h0.blks.size js
 ne:∀k,jl=some k→js≠some k
 spl:∃S:Fp,(∀m,S m→h0.blks.size≤m)∧NotO S js∧GF (Ef.spr z) kec h S l jl (D.map fun x=>⟨x,R.filter (leftS ts x)⟩)
 sum:GF EP kbc h Fp.no s js (D.map fun x=>sumR g (R.filter (leftS ts x)))
theorem opt_lt{n k:Nat}:∀{j:Option Nat},LtO n j→j=some k→k<n
 | some _,l,e=>by cases e;exact l
theorem opt_ge{n k:Nat}:∀{j:Option Nat},LeO n j→j=some k→n≤k
 | some _,l,e=>by cases e;exact l
theorem kxb(ts:List Tb)(n:Nat):ke2 ts (n+1)=ke2 ts n++kiy n (ts.getD n Tb.no):=by
 unfold ke2;rw[List.range_succ,List.flatMap_append];simp
section
variable{h0:AH}{Sg Sb:Fp}{gs ys:Sl}{g:List Int}{R:List Nat}{z:Nat}{ts:List Tb}
theorem k50(T0:Tab h0)(Q:Sq EI h0 Sg gs g)(By:BitsAt h0 Sb z ys R)(hz:z≤g.length)(hz2:z≤256){p:Nat}(hp:p<ts.length){s1 s2 s3:Sl}{St:Fp}(qt:TabAt h0 St s1 s2 s3 ts[p])(hR:tabR ts[p]=true)(hid:ts[p].ids.length=z){b bt:Nat}(hb0:b<h0.blks.size)(Bb:h0.has b [.int .i64 (z:Int),ys.v] ky){f:Nat}(hf:f<ts[p].cols.length){D0:List Spl}(hD0:D0.length≤16*512){tsl bn:Sl}{m1 m2:Int}{P:AV→AH→Prop}
  (hP:∀h l jl s js,SplI h0 z ts g R (D0++(cutsTo ts[p] (f+1)).map fun x=>(p,x.1,x.2)) l jl s js h→h.has bt [s1.v,s2.v,s3.v] kds→(∀k,jl=some k∨js=some k→k≠bt)→Runs (go (.pt kcb kja [(1,gs.v),(5,.ptr (some (.new b 0))),(8,l.v),(9,s.v),(10,.int .i64 (p:Int)),(11,.ptr (some (.new bt 0))),(17,tsl.v),(18,.int .i64 m1),(19,.int .i64 (p:Int)),(25,bn.v),(26,.int .i64 m2),(27,.int .i64 ((f+1:Nat):Int))]) h) P) :
  ∀(k c:Nat),c+k=nb ts[p] f→∀h l jl s js,SplI h0 z ts g R (D0++(cutsTo ts[p] f++(List.range c).map fun c=>(f,c)).map fun x=>(p,x.1,x.2)) l jl s js h→h.has bt [s1.v,s2.v,s3.v] kds→(∀k,jl=some k∨js=some k→k≠bt)→
  Runs (go (.pt kcb kme [(1,gs.v),(5,.ptr (some (.new b 0))),(8,l.v),(9,s.v),(10,.int .i64 (p:Int)),(11,.ptr (some (.new bt 0))),(12,.int .i64 (f:Int)),(17,tsl.v),(18,.int .i64 m1),(19,.int .i64 (p:Int)),(25,bn.v),(26,.int .i64 m2),(27,.int .i64 (f:Int)),(33,.int .i64 (nb ts[p] f:Int)),(34,.int .i64 (c:Int))]) h) P:=by
 obtain⟨hids,hcols,hbins,hall⟩:=kns hR;obtain⟨hb,hb2,hb32,hcl⟩:=kkg (hall f hf) hf hbins;have hgd:ts[p].bins.getD f 0=ts[p].bins[f]:=by simp[List.getD,hb]
 have hnb:(nb ts[p] f:Int)=ts[p].bins[f]-1:=by
  unfold nb;rw[hgd];omega
 have htp:ts.getD p Tb.no=ts[p]:=by simp[List.getD,hp]
 have hlen:(cutsTo ts[p] f).length≤31*f:=kov ts[p] f fun i hi=>by
  obtain⟨hb',h2',h32',-⟩:=kkg (hall i (by omega)) (by omega) hbins;have:ts[p].bins.getD i 0=ts[p].bins[i]:=by simp[List.getD,hb']
  unfold nb;rw[this];omega
 intro k
 induction k with
 | zero =>
  intro c hc h l jl s js I Bt hbt;obtain rfl:c=nb ts[p] f:=by omega
  rw[← kwe]at I;rw[ku2];refine Runs.ifF (decide_eq_false (by omega)) ?_;rw[ko (by omega)];exact hP h l jl s js I Bt hbt
 | succ k ih =>
  intro c hc h l jl s js I Bt hbt;have hcb:(c:Int)<ts[p].bins.getD f 0:=by rw[hgd];omega
  obtain⟨G,ll,ls,hne,⟨S,hS,nS,V⟩,W⟩:=I;have ltl:=V.lt;have lts:=W.lt;have hsz:=G.size
  have hnl:(D0++(cutsTo ts[p] f++(List.range c).map fun c=>(f,c)).map fun x=>(p,x.1,x.2)).length≤20000:=by
   simp only[List.length_append,List.length_map,List.length_range];omega
  rw[ku2];refine Runs.ifT (decide_eq_true (by omega)) (Runs.step (Bt.rd 0 rfl (asSl_v _)) (Runs.step (Bt.rd 1 rfl (asSl_v _)) (Runs.step (Bt.rd 2 rfl (asSl_v _)) ?_)));refine(kbas (qt.grow G) hR hf hcb).call fun v h1 ⟨g1,y1,w1,e,N1,o1,l1,m1'⟩=>?_;subst e;refine Runs.step rfl (Runs.step rfl (Runs.ifT rfl (Runs.step rfl (Runs.step (seenAt rfl (asSl_v _)) (Runs.step rfl ?_)))));dsimp only;refine Runs.new fun h2 b2 g2=>Runs.puts b2 rfl fun h3 b3 u3=>?_;have g13:Grow h1 h3:=g2.updr (Nat.le_refl _) u3;have G3:=(G.trans g1).trans g13;refine Runs.step (b3.rd 0 rfl (ke _ _)) (Runs.step (b3.rd 1 rfl (asSl_v _)) (Runs.step ((G3.has Bb).rd 0 rfl (ke _ _)) (Runs.step ((G3.has Bb).rd 1 rfl (asSl_v _)) ?_)));rw[hid];rw[hid]at l1;obtain⟨wy,Ny,ay,ry,ly⟩:=By
  have hleft:∀x∈leftR ts[p] f (c:Int),x<z:=fun x hx=>by
   unfold leftR at hx;rw[← hid];exact List.mem_range.1 (List.mem_filter.1 hx).1
  obtain⟨r1,l1'⟩:=ofP_bt (by omega) hleft l1 m1';refine(kbar (N1.grow g13) (Ny.grow G3) r1 ry).call fun v h4 pp=>?_;obtain⟨g4,y4,e4,T4,e,B4,hT4,o4⟩:=pp.bits;subst e
  have hrows:(btL (z:Int) w1).filter (wbit wy)=R.filter (leftS ts (p,f,c)):=by
   have e1:btL (z:Int) w1=(List.range z).filter (leftP ts[p] f (c:Int)):=by
    rw[l1'];apply List.filter_congr;intro i hi;rw[Bool.eq_iff_iff,decide_eq_true_eq];unfold leftR;rw[List.mem_filter,hid];exact⟨fun h=>h.2,fun h=>⟨hi,h⟩⟩
   rw[e1,kbdb ry,ly];apply List.filter_congr;intro i _;unfold leftS;rw[htp]
  rw[hrows]at B4;refine Runs.step rfl (Runs.step rfl (Runs.ifT rfl (Runs.step rfl (Runs.step (seenAt rfl (asSl_v _)) (Runs.step rfl ?_)))));dsimp only;have z1:=g1.size;have z3:=b3.lt;have z4:=g4.size;have z13:=g13.size;refine Runs.puts (g4.has b3) rfl fun h5 b5 u5=>Runs.step (b5.rd 0 rfl (ke _ _)) (Runs.step (b5.rd 1 rfl (asSl_v _)) (Runs.new fun h6 b6 g6=>?_));have G15:Grow h1 h5:=(g13.trans g4).updr (Nat.le_refl _) u5;have B5:BitsAt h5 T4 z y4 (R.filter (leftS ts (p,f,c))):=B4.upd (fun x=>by have:=hT4 _ x;omega) u5;have g06:Grow h h6:=(g1.trans G15).trans g6;refine Runs.step (kd2 b6 (by rw[kbdq];rfl)) ?_;have z5:=u5.size;have z6:=g6.size
  obtain⟨l',h7,e7,V7,u7⟩:=(V.grow g06).push (T:=T4) (show(Ef.spr z).has h6 T4 _ ⟨(p,f,c),R.filter (leftS ts (p,f,c))⟩from⟨y4,rfl,B5.grow g6⟩) (by
   cases jl with
   | none=>trivial
   | some a =>
    intro hm;have:=hT4 _ hm;have:a<h.blks.size:=ltl;omega) (k52 (by rw[List.length_map];omega))
  refine Runs.step e7 (Runs.step (asSl_v _) ?_);have m7:Md (Fp.opt jl) h6 h7:=u7.md fun k e=>e;have njl:∀{m:Nat},h.blks.size≤m→¬Fp.opt jl m:=fun hm e=>by have:=opt_lt ltl e;omega
  have b7:=m7.has (g6.has b5) (njl (by omega));refine Runs.step (b7.rd 0 rfl (ke _ _)) (Runs.step (b7.rd 1 rfl (asSl_v _)) ?_);have G7:Grow h0 h7:=(G.trans g06).updo ll u7;have B7:BitsAt h7 T4 z y4 (R.filter (leftS ts (p,f,c))):=(B5.grow g6).md m7 fun m a e=>by have:=hT4 _ a;have:=opt_lt ltl e;omega
  refine(krz (T0.grow G7) (Q.grow G7) B7 hz (by omega)).call fun v h8 ⟨e,g8⟩=>?_;subst e;refine Runs.step rfl (Runs.ifT rfl (Runs.step rfl (Runs.step rfl (Runs.new fun h9 b9 g9=>?_))));refine Runs.step (kd2 b9 (by rw[kbd6];rfl)) ?_;have g79:=g8.trans g9;have W7:GF EP kbc h7 Fp.no s js _:=GF.md m7 (fun j a _=>a) (W.grow g06) fun k e e2=>hne k e2 e;obtain⟨s',h10,e10,W10,u10⟩:=(W7.grow g79).push (T:=Fp.no) (EP.of _ _) NotO.no (kz1 (by rw[List.length_map];omega));refine Runs.step e10 (Runs.step (asSl_v _) ?_);have m10:Md (Fp.opt js) h9 h10:=u10.md fun k e=>e;rw[ko (by omega)];have z7:=m7.size;have z9:=g79.size;have z9':=b9.lt;have v7:h6.blks.size<h7.blks.size:=V7.lt
  have hnew:(D0++(cutsTo ts[p] f++(List.range (c+1)).map fun c=>(f,c)).map fun x=>(p,x.1,x.2))=(D0++(cutsTo ts[p] f++(List.range c).map fun c=>(f,c)).map fun x=>(p,x.1,x.2))++[(p,f,c)]:=by
   rw[List.range_succ];simp
  refine ih (c+1) (by omega) h10 l' (some h6.blks.size) s' (some h9.blks.size) ?_ ?_ ?_
  ·rw[hnew];refine⟨(G7.trans g79).updo ls u10,show _≤_ by omega,show _≤_ by omega,fun k e e2=>by injection e with e;injection e2 with e2;omega,⟨fun j=>(Fp.or S T4) j∧j<h6.blks.size,?_,?_,?_⟩,?_⟩
   ·exact fun m hm=>hm.1.elim (hS m) fun a=>by have:=hT4 _ a;omega
   ·exact fun hm=>by have:=hm.2;omega
   ·rw[List.map_append]
    have V10:=GF.md m10 (T:=Fp.opt js) (S:=fun j=>(Fp.or S T4) j∧j<h6.blks.size) (fun m a e=>by
     rcases a.1 with a1 | a1
     ·subst e;exact nS a1
     ·have:=hT4 _ a1;have:=opt_lt lts e;omega) (V7.grow g79) (fun k e e2=>by cases e;have:=opt_lt lts e2;omega)
    exact V10
   ·rw[List.map_append];exact W10.mono (fun j x=>x.1.elim id id) NotO.no
  ·exact m10.has (g79.has (m7.has (g06.has Bt) fun e=>hbt _ (.inl e) rfl)) fun e=>hbt _ (.inr e) rfl
  ·have zb:=Bt.lt;intro k hk;rcases hk with hk | hk<;>cases hk<;>omega
theorem kbad(T0:Tab h0)(Q:Sq EI h0 Sg gs g)(By:BitsAt h0 Sb z ys R)(hz:z≤g.length)(hz2:z≤256){p:Nat}(hp:p<ts.length)(hp16:ts.length≤16){s1 s2 s3:Sl}{St:Fp}(qt:TabAt h0 St s1 s2 s3 ts[p])(hR:tabR ts[p]=true)(hid:ts[p].ids.length=z){b bt:Nat}(hb0:b<h0.blks.size)(Bb:h0.has b [.int .i64 (z:Int),ys.v] ky){D0:List Spl}(hD0:D0.length≤16*512){tsl:Sl}{m1:Int}{P:AV→AH→Prop}
  (hP:∀h l jl s js,SplI h0 z ts g R (D0++kiy p ts[p]) l jl s js h→Runs (go (.pt kcb kiw [(1,gs.v),(5,.ptr (some (.new b 0))),(8,l.v),(9,s.v),(17,tsl.v),(18,.int .i64 m1),(19,.int .i64 ((p+1:Nat):Int))]) h) P) :
  ∀(k f:Nat),f+k=ts[p].cols.length→∀h l jl s js,SplI h0 z ts g R (D0++(cutsTo ts[p] f).map fun x=>(p,x.1,x.2)) l jl s js h→h.has bt [s1.v,s2.v,s3.v] kds→(∀k,jl=some k∨js=some k→k≠bt)→
  Runs (go (.pt kcb kja [(1,gs.v),(5,.ptr (some (.new b 0))),(8,l.v),(9,s.v),(10,.int .i64 (p:Int)),(11,.ptr (some (.new bt 0))),(17,tsl.v),(18,.int .i64 m1),(19,.int .i64 (p:Int)),(25,s2.v),(26,.int .i64 (ts[p].bins.length:Int)),(27,.int .i64 (f:Int))]) h) P:=by
 obtain⟨hids,hcols,hbins,hall⟩:=kns hR;intro k
 induction k with
 | zero =>
  intro f hf h l jl s js I Bt hbt;obtain rfl:f=ts[p].cols.length:=by omega
  rw[kx0];refine Runs.ifF (decide_eq_false (by omega)) ?_;rw[ko (by omega)];exact hP h l jl s js I
 | succ k ih =>
  intro f hf h l jl s js I Bt hbt;have hf':f<ts[p].cols.length:=by omega
  obtain⟨hb,hb2,hb32,hcl⟩:=kkg (hall f hf') hf' hbins;have hgd:ts[p].bins.getD f 0=ts[p].bins[f]:=by simp[List.getD,hb]
  obtain⟨r,e1,e2⟩:=(qt.bins.grow I.grow).int hb;rw[kx0];refine Runs.ifT (decide_eq_true (by omega)) (Runs.step e1 (Runs.step e2 ?_));rw[wrap64 (by omega) (by omega),show ts[p].bins[f]-1=(nb ts[p] f:Int)from by unfold nb;rw[hgd];omega];exact k50 T0 Q By hz hz2 hp qt hR hid hb0 Bb hf' hD0 (fun h l jl s js I Bt hbt=>ih (f+1) (by omega) h l jl s js I Bt hbt) (nb ts[p] f) 0 (by omega) h l jl s js (by simpa using I) Bt hbt
theorem k82{p:Nat}{t:Tb}(hR:tabR t=true):(kiy p t).length≤496:=by
 obtain⟨hids,hcols,hbins,hall⟩:=kns hR;unfold kiy;rw[List.length_map]
 have:=kov t t.cols.length fun i hi=>by
  obtain⟨hb',h2',h32',-⟩:=kkg (hall i hi) hi hbins;have:t.bins.getD i 0=t.bins[i]:=by simp[List.getD,hb']
  unfold nb;rw[this];omega
 omega
theorem ktk(hts:∀(p:Nat)(hp:p<ts.length),tabR ts[p]=true):∀n,n≤ts.length→(ke2 ts n).length≤496*n
 | 0,_=>by simp[ke2]
 | n+1,h=>by
  rw[kxb,List.length_append];have h1:=ktk hts n (by omega);have:ts.getD n Tb.no=ts[n]:=by simp[List.getD,show n<ts.length by omega]
  rw[this];have h2:=k82 (p:=n) (hts n (by omega));omega
theorem ky3(T0:Tab h0)(Q:Sq EI h0 Sg gs g)(By:BitsAt h0 Sb z ys R)(hz:z≤g.length)(hz2:z≤256)(hp16:ts.length≤16){tsl:Sl}{St:Fp}(Qt:Sq Ef.tb h0 St tsl ts)(hts:∀(p:Nat)(hp:p<ts.length),tabR ts[p]=true∧ts[p].ids.length=z){b:Nat}(hb0:b<h0.blks.size)(Bb:h0.has b [.int .i64 (z:Int),ys.v] ky) :
  ∀(k p:Nat),p+k=ts.length→∀h l jl s js,SplI h0 z ts g R (ke2 ts p) l jl s js h→
  Runs (go (.pt kcb kiw [(1,gs.v),(5,.ptr (some (.new b 0))),(8,l.v),(9,s.v),(17,tsl.v),(18,.int .i64 (ts.length:Int)),(19,.int .i64 (p:Int))]) h) fun v h'=>∃l jl s js,v=.tup [l.v,s.v]∧SplI h0 z ts g R (kb8 ts) l jl s js h':=by
 intro k
 induction k with
 | zero =>
  intro p hp h l jl s js I;obtain rfl:p=ts.length:=by omega
  rw[kua];exact Runs.ifF (decide_eq_false (by omega)) (Runs.ret ⟨l,jl,s,js,rfl,I⟩)
 | succ k ih =>
  intro p hp h l jl s js I;have hp':p<ts.length:=by omega
  obtain⟨hR,hid⟩:=hts p hp';obtain⟨r,s1,s2,s3,e1,e2,e3,e4,qt⟩:=(Qt).tb hp';have G:=I.grow;obtain⟨r',s1',s2',s3',e1',e2',e3',e4',qt'⟩:=(Qt.grow G).tb hp';rw[kua];rw[Qt.len]at e1'⊢;refine Runs.ifT (decide_eq_true (by omega)) (Runs.step e1' (Runs.step e2' (Runs.step e3' (Runs.step e4' (Runs.new fun h1 b1 g1=>Runs.puts b1 rfl fun h2 b2 u2=>Runs.step (b2.rd 1 rfl (asSl_v _)) ?_)))));have g02:Grow h h2:=g1.updr (Nat.le_refl _) u2
  have es:s1'=s1∧s2'=s2∧s3'=s3:=by
   rw[Qt.len]at e1;rw[e1]at e1';cases e1'
   have f:∀(o:Nat)(a b:Sl),(h0.cell (r.add o)).bind AV.asSl=some a→(h.cell (r.add o)).bind AV.asSl=some b→b=a:=fun o a b ha hb=>by
    obtain⟨v,hv,hva⟩:=Option.bind_eq_some_iff.1 ha;rw[G.cell_some hv,Option.bind_some,hva]at hb;cases hb;rfl
   exact⟨f 0 _ _ e2 e2',f 1 _ _ e3 e3',f 2 _ _ e4 e4'⟩
  obtain⟨rfl,rfl,rfl⟩:=es;have htp:ts.getD p Tb.no=ts[p]:=by simp[List.getD,hp']
  have I2:SplI h0 z ts g R (ke2 ts p) l jl s js h2:=by
   obtain⟨G,ll,ls,hne,⟨S,hS,nS,V⟩,W⟩:=I;exact⟨G.trans g02,ll,ls,hne,⟨S,hS,nS,V.grow g02⟩,W.grow g02⟩
  have hjl:∀k,jl=some k∨js=some k→k≠h.blks.size:=fun k hk=>by
   obtain⟨G,ll,ls,hne,⟨S,hS,nS,V⟩,W⟩:=I;rcases hk with hk | hk
   ·have:=opt_lt V.lt hk;omega
   ·have:=opt_lt W.lt hk;omega
  have hlen:=ktk (fun p hp=>(hts p hp).1) p (by omega);rw[qt.bins.len];refine kbad T0 Q By hz hz2 hp' hp16 qt hR hid hb0 Bb (bt:=h.blks.size) (D0:=ke2 ts p) (by omega) (fun h l jl s js I=>?_) ts[p].cols.length 0 (by omega) h2 l jl s js (by simpa[cutsTo]using I2) b2 hjl;refine ih (p+1) (by omega) h l jl s js ?_;rw[kxb,htp];exact I
theorem kbcs(T0:Tab h0)(Q:Sq EI h0 Sg gs g)(By:BitsAt h0 Sb z ys R)(hz:z≤g.length)(hz2:z≤256)(hp16:ts.length≤16){tsl:Sl}{St:Fp}(Qt:Sq Ef.tb h0 St tsl ts)(hts:∀(p:Nat)(hp:p<ts.length),tabR ts[p]=true∧ts[p].ids.length=z) :
  Runs (go (.fn kcb [tsl.v,gs.v,.agg [.int .i64 (z:Int),ys.v]]) h0) fun v h'=>Grow h0 h'∧∃(l s:Sl)(S S':Fp),v=.tup [l.v,s.v]∧Sq (Ef.spr z) h' S l ((kb8 ts).map fun x=>⟨x,R.filter (leftS ts x)⟩)∧Sq EP h' S' s (sumsS ts g R)∧∀m,S m→h0.blks.size≤m:=by
 rw[k8n];refine Runs.new fun h1 b1 g1=>?_;rw[Qt.len];refine(ky3 (T0.grow g1) (Q.grow g1) (By.grow g1) hz hz2 hp16 (Qt.grow g1) hts b1.lt b1 ts.length 0 (by omega) h1 _ none _ none ⟨Grow.refl _,trivial,trivial,(fun k e=>by cases e),⟨Fp.no,fun m x=>x.elim,trivial,GF.none _ _ _ _⟩,GF.none _ _ _ _⟩).imp fun v h' ⟨l,jl,s,js,e,I⟩=>?_;obtain⟨G,ll,ls,hne,⟨S,hS,nS,V⟩,W⟩:=I;refine⟨g1.trans G,l,s,_,_,e,V.sq,W.sq,fun m hm=>?_⟩;have:=g1.size;rcases hm with hm | hm
 ·have:=opt_ge ll hm;omega
 ·have:=hS m hm;omega
end
end Go.Ab
set_option maxRecDepth 10000
namespace Go.Ab
open Go.Proofs Go.Num Go.Heap
@[reducible] def Ef.wt(z:Nat):Ef Wt where
 w:=4
 pos:=by decide
 has h S cs x:=∃y:Sl,cs=[.int .i64 (x.place:Int),.int .i64 (x.deep:Int),.int .i64 (z:Int),y.v]∧BitsAt h S z y x.rows
 len:=fun⟨_,e,_⟩=>by rw[e];rfl
 grow g:=fun⟨a,e,n⟩=>⟨a,e,n.grow g⟩
 mono f:=fun⟨a,e,n⟩=>⟨a,e,n.mono f⟩
 upd no u:=fun⟨a,e,n⟩=>⟨a,e,n.upd no u⟩
 bound:=fun⟨a,e,n⟩=>⟨a,e,n.bound⟩
theorem kbct{n:Nat}(h:n≤1000000):growOk Pg n kbf 4=true:=by
 unfold growOk;rw[kbd8,kba8];have h1:n*48≤ks:=by simp only[ks];omega
 have h2:n*4≤ks:=by simp only[ks];omega
 have h3:n≤ks:=by simp only[ks];omega
 simp[h1,h2,h3]
def keyW(x:Wt):Int:=(x.place:Int)
def QAt(z bq:Nat)(S:Fp)(q:List Wt)(k:Nat)(h:AH):Prop:=k≠bq∧¬S bq∧∃s:Sl,h.has bq [s.v] ksx∧GQ (Ef.wt z) kbf h S s k q
theorem QAt.grow{z bq k:Nat}{S:Fp}{q:List Wt}{h h':AH}(Q:QAt z bq S q k h)(g:Grow h h'):QAt z bq S q k h':=by
 obtain⟨a,b,s,B,V⟩:=Q;exact⟨a,b,s,g.has B,V.grow g⟩
theorem QAt.md{z bq k:Nat}{S T:Fp}{q:List Wt}{h h':AH}(Q:QAt z bq S q k h)(m:Md T h h')(d:Dis S T)(n1:¬T k)(n2:¬T bq):QAt z bq S q k h':=by
 obtain⟨a,b,s,B,V⟩:=Q;exact⟨a,b,s,m.has B n2,V.md m d n1⟩
theorem QAt.lt{z bq k:Nat}{S:Fp}{q:List Wt}{h:AH}(Q:QAt z bq S q k h):k<h.blks.size∧bq<h.blks.size:=by
 obtain⟨a,b,s,B,V⟩:=Q;exact⟨V.lt,B.lt⟩
theorem at_key(q:List Wt){i:Nat}(hi:i<q.length):at' keyW q i=(q[i].place:Int):=by
 unfold at' keyW;rw[List.getElem?_eq_getElem hi];rfl
section
variable{z bq k:Nat}{S:Fp}{q:List Wt}{h:AH}{s:Sl}
theorem wt_at(V:GQ (Ef.wt z) kbf h S s k q){i:Nat}(hi:i<q.length):∃(r:Ref)(y:Sl),idx s.ref s.len (i:Int) 4=some r∧(h.cell (r.add 0)).bind (AV.asInt .i64)=some (q[i].place:Int)∧(h.cell (r.add 1)).bind (AV.asInt .i64)=some (q[i].deep:Int)∧(h.cell (r.add 2)).bind (AV.asInt .i64)=some (z:Int)∧(h.cell (r.add 3)).bind AV.asSl=some y∧BitsAt h S z y q[i].rows:=by
 obtain⟨r,cs,e1,⟨y,rfl,B⟩,l⟩:=V.at hi;have g:=Grow.refl h;exact⟨r,y,e1,l.rd g 0 rfl (ke _ _),l.rd g 1 rfl (ke _ _),l.rd g 2 rfl (ke _ _),l.rd g 3 rfl (asSl_v _),B⟩
theorem kpd(V:GQ (Ef.wt z) kbf h S s k q){i j:Nat}(hi:i<q.length)(hj:j<q.length):go (.fn kfy [s.v,.int .i64 (i:Int),.int .i64 (j:Int)]) h=some (.bool (decide (at' keyW q i<at' keyW q j)),h):=by
 obtain⟨r1,y1,e1,a1,-⟩:=wt_at V hi;obtain⟨r2,y2,e2,a2,-⟩:=wt_at V hj;rw[kbbh,e1,Option.bind_some,a1,Option.bind_some,e2,Option.bind_some,a2,Option.bind_some,at_key q hi,at_key q hj]
theorem kwx(V:GQ (Ef.wt z) kbf h S s k q){i j:Nat}(hi:i<q.length)(hj:j<q.length):Runs (go (.fn kfj [s.v,.int .i64 (i:Int),.int .i64 (j:Int)]) h) fun v h'=>v=.tup []∧GQ (Ef.wt z) kbf h' S s k (swapL q i j)∧Upd h h' k:=by
 obtain⟨r1,y1,e1,a0,a1,a2,a3,B1⟩:=wt_at V hj;obtain⟨r2,y2,e2,c0,c1,c2,c3,B2⟩:=wt_at V hi;rw[kbb9];refine Runs.step e1 (Runs.step a0 (Runs.step a1 (Runs.step a2 (Runs.step a3 (Runs.step e2 (Runs.step c0 (Runs.step c1 (Runs.step c2 (Runs.step c3 (Runs.step e2 ?_))))))))));have nS:=V.not;obtain⟨r3,h1,e3,p3,V1,u1⟩:=V.set (T:=S) (x:=q[j]) (show(Ef.wt z).has h S _ q[j]from⟨y1,rfl,B1⟩) nS hi;rw[e2]at e3;cases e3;refine Runs.step p3 ?_;have V1:=V1.mono (T:=S) (fun j x=>x.elim id id) nS;have hj':j<(q.set i q[j]).length:=by rw[List.length_set];exact hj
 obtain⟨r4,h2,e4,p4,V2,u2⟩:=V1.set (T:=S) (x:=q[i]) (show(Ef.wt z).has h1 S _ q[i]from⟨y2,rfl,B2.upd nS u1⟩) nS hj';refine Runs.step e4 (Runs.step p4 (Runs.ret ⟨rfl,?_,u1.trans u2⟩))
 have:swapL q i j=(q.set i q[j]).set j q[i]:=by
  unfold swapL;rw[List.getElem?_eq_getElem hi,List.getElem?_eq_getElem hj]
 rw[this];exact V2.mono (T:=S) (fun j x=>x.elim id id) nS
theorem kban{i0:Int}{n:Nat}(hn64:n≤1000000):∀(m i:Nat),n≤m+i→i≤1000000→∀(h:AH)(q:List Wt),n≤q.length→QAt z bq S q k h→
  Runs (go (.pt kd7 kgc [(0,.iface kbp (.ptr (some (.new bq 0)))),(1,.int .i64 i0),(2,.int .i64 (n:Int)),(7,.int .i64 (i:Int))]) h) fun v h'=>(∃b,v=.bool b)∧QAt z bq S (downL keyW n m i q) k h'∧Md (fun j=>j=k) h h':=by
 intro m
 induction m with
 | zero =>
  intro i hm hi h q hq Q;rw[kxx];rw[wrap64 (n:=2*(i:Int)) (by omega) (by omega),wrap64 (n:=2*(i:Int)+1) (by omega) (by omega)];exact Runs.ifT (decide_eq_true (by omega)) (Runs.ret ⟨⟨_,rfl⟩,Q,Md.refl _ _⟩)
 | succ m ih =>
  intro i hm hi h q hq Q;rw[kxx];rw[wrap64 (n:=2*(i:Int)) (by omega) (by omega),wrap64 (n:=2*(i:Int)+1) (by omega) (by omega),wrap64 (n:=2*(i:Int)+1+1) (by omega) (by omega),show 2*(i:Int)+1+1=((2*i+2:Nat):Int)from by omega,show 2*(i:Int)+1=((2*i+1:Nat):Int)from by omega];refine Runs.cond (fun c=>?_) fun c=>?_
  ·rw[decide_eq_true_eq]at c;refine Runs.ret ⟨⟨_,rfl⟩,?_,Md.refl _ _⟩;unfold downL;rw[if_neg (by omega)];exact Q
  rw[decide_eq_false_iff_not]at c;refine Runs.ifF (decide_eq_false (by omega)) ?_;obtain⟨hk,hb,s,B,V⟩:=Q;have h1:2*i+1<n:=by omega
  have fin:∀j:Nat,j<n→j≠i→kidL keyW n i q=j→Runs (((h.cell (.new bq 0)).bind AV.asSl).bind fun l18=>(go (.fn kfy [l18.v,.int .i64 (j:Int),.int .i64 (i:Int)]) h).bind fun q19=>((some q19.1).bind AV.asBool).bind fun b20=>cond (!b20) (some (.bool (decide ((i:Int)>i0)),q19.2)) (((q19.2.cell (.new bq 0)).bind AV.asSl).bind fun l21=>(go (.fn kfj [l21.v,.int .i64 (i:Int),.int .i64 (j:Int)]) q19.2).bind fun q22=>(AV.asTup0 q22.1).bind fun _=>go (.pt kd7 kgc [(0,.iface kbp (.ptr (some (.new bq 0)))),(1,.int .i64 i0),(2,.int .i64 (n:Int)),(7,.int .i64 (j:Int))]) q22.2)) fun v h'=>(∃b,v=.bool b)∧QAt z bq S (downL keyW n (m+1) i q) k h'∧Md (fun j=>j=k) h h':=by
   intro j hj hji hkid;refine Runs.step (B.rd0 rfl (asSl_v _)) (Runs.step (kpd V (i:=j) (j:=i) (by omega) (by omega)) (Runs.step (seen rfl) ?_));refine Runs.cond (fun c2=>?_) fun c2=>?_
   ·rw[Bool.not_eq_true',decide_eq_false_iff_not]at c2;refine Runs.ret ⟨⟨_,rfl⟩,?_,Md.refl _ _⟩;unfold downL;rw[if_pos h1,hkid,if_neg c2];exact⟨hk,hb,s,B,V⟩
   ·rw[Bool.not_eq_false',decide_eq_true_eq]at c2;refine Runs.step (B.rd0 rfl (asSl_v _)) ?_;refine(kwx V (i:=i) (j:=j) (by omega) (by omega)).call fun v h2 ⟨e,V2,u2⟩=>?_;subst e;refine Runs.step rfl ?_;have:=ih j (by rcases kqg keyW n i q with⟨e,_⟩ | ⟨e,_⟩<;>omega) (by omega) h2 (swapL q i j) (by rw[kfk];exact hq) ⟨hk,hb,s,B.updr (fun e=>hk e.symm) u2,V2⟩;refine this.imp fun v h' ⟨e,Q',md⟩=>⟨e,?_,(u2.md (T:=fun j=>j=k) rfl).trans md⟩;unfold downL;rw[if_pos h1,hkid,if_pos c2];exact Q'
  refine Runs.cond (fun c1=>?_) fun c1=>?_
  ·rw[decide_eq_true_eq]at c1;refine Runs.step (B.rd0 rfl (asSl_v _)) (Runs.step (kpd V (i:=2*i+2) (j:=2*i+1) (by omega) (by omega)) (Runs.step (seen rfl) ?_));refine Runs.cond (fun c2=>?_) fun c2=>?_
   ·rw[decide_eq_true_eq]at c2;exact fin (2*i+2) (by omega) (by omega) (by unfold kidL;rw[if_pos ⟨by omega,c2⟩])
   ·rw[decide_eq_false_iff_not]at c2;exact fin (2*i+1) (by omega) (by omega) (by unfold kidL;rw[if_neg fun hh=>c2 hh.2])
  ·rw[decide_eq_false_iff_not]at c1;exact fin (2*i+1) (by omega) (by omega) (by unfold kidL;rw[if_neg fun hh=>c1 (by omega)])
theorem k0n(Q:QAt z bq S q k h)(hq:0<q.length)(hq2:q.length≤1000){x:Wt}(hx:(downL keyW (q.length-1) q.length 0 (swapL q 0 (q.length-1)))[q.length-1]?=some x) :
  Runs (go (.fn krl [.iface kbp (.ptr (some (.new bq 0)))]) h) fun v h'=>∃y:Sl,v=.iface kbf (.agg [.int .i64 (x.place:Int),.int .i64 (x.deep:Int),.int .i64 (z:Int),y.v])∧BitsAt h' S z y x.rows∧QAt z bq S (popL keyW q) k h'∧Md (fun j=>j=k∨j=bq) h h':=by
 obtain⟨hk,hb,s,B,V⟩:=Q;rw[kbba];refine Runs.step (B.rd0 rfl (asSl_v _)) (Runs.step (km0 _ _) (Runs.step (seen rfl) (Runs.step (B.rd0 rfl (asSl_v _)) ?_)));have ln:s.len=q.length:=V.sq.len;dsimp only;rw[ln,wrap64 (n:=(q.length:Int)-1) (by omega) (by omega),show(q.length:Int)-1=((q.length-1:Nat):Int)from by omega];refine(kwx V (i:=0) (j:=q.length-1) (by omega) (by omega)).call fun v h1 ⟨e,V1,u1⟩=>?_;subst e;refine Runs.step rfl ?_;have B1:=B.updr (fun e=>hk e.symm) u1
 have kd:Runs (go (.fn kd7 [.iface kbp (.ptr (some (.new bq 0))),.int .i64 0,.int .i64 ((q.length-1:Nat):Int)]) h1) fun v h'=>(∃b,v=.bool b)∧QAt z bq S (downL keyW (q.length-1) q.length 0 (swapL q 0 (q.length-1))) k h'∧Md (fun j=>j=k) h1 h':=by
  rw[kbal];exact kban (by omega) q.length 0 (by omega) (by omega) h1 _ (by rw[kfk];omega) ⟨hk,hb,s,B1,V1⟩
 refine kd.call fun v h2 ⟨⟨b,e⟩,⟨_,_,s2,B2,V2⟩,m2⟩=>?_;subst e;refine Runs.step (seen rfl) ?_;generalize hd:downL keyW (q.length-1) q.length 0 (swapL q 0 (q.length-1))=d at *
 have hdl:d.length=q.length:=by rw[← hd,kpo,kfk]
 have hi:q.length-1<d.length:=by omega
 have hxd:d[q.length-1]=x:=by
  rw[List.getElem?_eq_getElem hi]at hx
  simpa using hx
 have ln2:s2.len=d.length:=V2.sq.len;obtain⟨r,y,e1,a0,a1,a2,a3,By⟩:=wt_at V2 hi;rw[hxd]at a0 a1 By
 have kp:Runs (go (.fn koc [.ptr (some (.new bq 0))]) h2) fun v h'=>v=.iface kbf (.agg [.int .i64 (x.place:Int),.int .i64 (x.deep:Int),.int .i64 (z:Int),y.v])∧QAt z bq S (d.take (q.length-1)) k h'∧BitsAt h' S z y x.rows∧Md (fun j=>j=bq) h2 h':=by
  rw[k1q,Option.bind_some];refine Runs.step (B2.rd0 rfl (asSl_v _)) ?_;rw[Option.bind_some];refine Runs.step (B2.rd0 rfl (asSl_v _)) ?_;rw[wrap64 (n:=(s2.len:Int)-1) (by omega) (by omega),show(s2.len:Int)-1=((q.length-1:Nat):Int)from by omega];refine Runs.step e1 (Runs.step a0 (Runs.step a1 (Runs.step a2 (Runs.step a3 (Runs.new fun h3 b3 g3=>Runs.puts b3 rfl fun h4 b4 u4=>?_)))));have g24:Grow h2 h4:=g3.updr (Nat.le_refl _) u4;rw[Option.bind_some];have B4:=g24.has B2;refine Runs.step (B4.rd0 rfl (asSl_v _)) ?_;obtain⟨s5,e5,V5⟩:=(V2.grow g24).cut (n:=q.length-1) (by omega);refine Runs.step e5 ?_;rw[Option.bind_some];refine Runs.puts B4 rfl fun h6 B6 u6=>?_;have zb:=B2.lt;have b6:=b4.updr (i:=bq) (by omega) u6;refine Runs.step (b6.rd 0 rfl (ke _ _)) (Runs.step (b6.rd 1 rfl (ke _ _)) (Runs.step (b6.rd 2 rfl (ke _ _)) (Runs.step (b6.rd 3 rfl (asSl_v _)) (Runs.ret ⟨rfl,⟨hk,hb,s5,B6,V5.upd u6 hb hk⟩,(By.grow g24).upd hb u6,(g24.md _).trans (u6.md rfl)⟩))))
 refine kp.call fun v h3 ⟨e,Q3,By3,m3⟩=>?_;subst e;refine Runs.ret ⟨y,rfl,By3,?_,?_⟩
 ·unfold popL;rw[hd];exact Q3
 ·exact((u1.md (.inl rfl)).trans (m2.mono fun _ _ e=>.inl e)).trans (m3.mono fun _ _ e=>.inr e)
theorem kxm(Q:QAt z bq S q k h)(hq2:q.length≤1000){x:Wt}{y:Sl}{Tx:Fp}(By:BitsAt h Tx z y x.rows)(nk:¬Tx k)(nb:¬Tx bq)(hx:∀w∈q,keyW w≤keyW x) :
  Runs (go (.fn kng [.iface kbp (.ptr (some (.new bq 0))),.iface kbf (.agg [.int .i64 (x.place:Int),.int .i64 (x.deep:Int),.int .i64 (z:Int),y.v])]) h) fun v h'=>v=.tup []∧∃(S':Fp)(k':Nat),(∀m,S' m→S m∨Tx m)∧QAt z bq S' (q++[x]) k' h'∧Md (fun j=>j=k∨j=bq) h h'∧(k'=k∨h.blks.size≤k'):=by
 obtain⟨hk,hb,s,B,V⟩:=Q;rw[k9e];have zb:=B.lt;have zk:=V.lt
 have kp:Runs (go (.fn kru [.ptr (some (.new bq 0)),.iface kbf (.agg [.int .i64 (x.place:Int),.int .i64 (x.deep:Int),.int .i64 (z:Int),y.v])]) h) fun v h'=>v=.tup []∧∃(S':Fp)(k':Nat),(∀m,S' m→S m∨Tx m)∧QAt z bq S' (q++[x]) k' h'∧Md (fun j=>j=k∨j=bq) h h'∧(k'=k∨h.blks.size≤k'):=by
  rw[kbb2,Option.bind_some];refine Runs.step (B.rd0 rfl (asSl_v _)) (Runs.new fun h1 b1 g1=>?_);refine Runs.when (g1.same B 0 1) ?_;refine Runs.step (kd2 b1 (by rw[kbbb];rfl)) ?_;obtain⟨s',h2,k',e2,V2,u2,hk'⟩:=(V.grow g1).push (T:=Tx) (show(Ef.wt z).has h1 Tx _ x from⟨y,rfl,By.grow g1⟩) nk (kbct (by omega));refine Runs.step e2 (Runs.step (asSl_v _) ?_);rw[Option.bind_some];have B2:=(g1.has B).updr (i:=k) (fun e=>hk e.symm) u2;have z1:=g1.size
  have hne:k'≠bq:=by
   rcases hk' with rfl | rfl
   ·exact hk
   ·omega
  have nbS:¬((Fp.or S Tx) bq∧bq<h1.blks.size):=fun x=>x.1.elim hb nb;refine Runs.puts B2 rfl fun h3 B3 u3=>Runs.ret ⟨rfl,_,k',fun m x=>x.1,⟨hne,nbS,s',B3,V2.upd u3 nbS hne⟩,?_,?_⟩
  ·exact((g1.md _).trans (u2.md (.inl rfl))).trans (u3.md (.inr rfl))
  ·rcases hk' with rfl | rfl
   ·exact .inl rfl
   ·exact .inr z1
 refine kp.call fun v h2 ⟨e,S',k',hS',Q2,m2,hk2⟩=>?_;subst e;refine Runs.step rfl ?_;have Q2':=Q2;obtain⟨hk',hb',s2,B2,V2⟩:=Q2;have ln:s2.len=q.length+1:=by rw[V2.sq.len,List.length_append];rfl
 refine Runs.step (B2.rd0 rfl (asSl_v _)) (Runs.step (km0 _ _) (Runs.step (seen rfl) ?_));dsimp only;rw[ln,wrap64 (n:=((q.length+1:Nat):Int)-1) (by omega) (by omega),show((q.length+1:Nat):Int)-1=(q.length:Int)from by omega]
 have ku:Runs (go (.fn kh9 [.iface kbp (.ptr (some (.new bq 0))),.int .i64 (q.length:Int)]) h2) fun v h'=>v=.tup []∧h'=h2:=by
  rw[k70,k6k];refine Runs.cond (fun c=>Runs.ret ⟨rfl,rfl⟩) fun c=>?_;rw[decide_eq_false_iff_not]at c;by_cases h0:q.length=0
  ·rw[h0]at c;exact absurd (by decide) c
  ·rw[wrap64 (n:=(q.length:Int)-1) (by omega) (by omega),show(q.length:Int)-1=((q.length-1:Nat):Int)from by omega,show Int.tdiv ((q.length-1:Nat):Int) 2=(((q.length-1)/2:Nat):Int)from rfl,wrap64 (n:=(((q.length-1)/2:Nat):Int)) (by omega) (by omega)];have hl:(q++[x]).length=q.length+1:=by simp
   refine Runs.step (B2.rd0 rfl (asSl_v _)) (Runs.step (kpd V2 (i:=q.length) (j:=(q.length-1)/2) (by omega) (by omega)) (Runs.step (seen rfl) ?_));refine Runs.ifT ?_ (Runs.ret ⟨rfl,rfl⟩);rw[Bool.not_eq_true',decide_eq_false_iff_not];have hm:(q.length-1)/2<q.length:=by omega
   have e1:at' keyW (q++[x]) q.length=keyW x:=by
    unfold at';rw[List.getElem?_append_right (Nat.le_refl _)];simp
   have e2:at' keyW (q++[x]) ((q.length-1)/2)=keyW q[(q.length-1)/2]:=by
    unfold at';rw[List.getElem?_append_left hm,List.getElem?_eq_getElem hm];rfl
   rw[e1,e2];have:=hx _ (List.getElem_mem hm);omega
 refine ku.call fun v h3 ⟨e,e'⟩=>?_;subst e;subst e';exact Runs.step rfl (Runs.ret ⟨rfl,S',k',hS',Q2',m2,hk2⟩)
end
theorem k3n{n:Nat}(h:n≤1000000):growOk Pg n kbl 7=true:=by
 unfold growOk;rw[kbd4,kqs];have h1:n*56≤ks:=by simp only[ks];omega
 have h2:n*7≤ks:=by simp only[ks];omega
 have h3:n≤ks:=by simp only[ks];omega
 simp[h1,h2,h3]
theorem koq(w:Int):∀(R:List Nat)(sc:List Int),(addS w R sc).length=sc.length
 | [],_=>rfl
 | i::R,sc=>by
  unfold addS;rw[List.foldl_cons];have:=koq w R (sc.set i (IntKind.wrap .i64 (sc.getD i 0+w)));unfold addS at this;rw[this,List.length_set]
structure Pl where
 c:Nat
 r:Nat
 t:Nat
 q:Nat
 s:Nat
 n:Nat
 k:Nat
def Pl.all(p:Pl)(j:Nat):Prop:=j=p.c∨j=p.r∨j=p.t∨j=p.q∨j=p.s∨j=p.n∨j=p.k
structure Pl.ok(p:Pl):Prop where
 cr:p.c≠p.r
 ct:p.c≠p.t
 cq:p.c≠p.q
 cs:p.c≠p.s
 cn:p.c≠p.n
 ck:p.c≠p.k
 rt:p.r≠p.t
 rq:p.r≠p.q
 rs:p.r≠p.s
 rn:p.r≠p.n
 rk:p.r≠p.k
 tq:p.t≠p.q
 ts:p.t≠p.s
 tn:p.t≠p.n
 tk:p.t≠p.k
 qs:p.q≠p.s
 qn:p.q≠p.n
 qk:p.q≠p.k
 sn:p.s≠p.n
 sk:p.s≠p.k
 nk:p.n≠p.k
def Cfg.cells(c:Cfg):List AV:=[.int .i64 c.trees,.int .i64 c.depth,.int .i64 c.lambda,.int .i64 c.gamma,.int .i64 c.num,.int .i64 c.den,.int .i64 c.loss,.int .i64 c.clip]
structure GrAt(c:Cfg)(z:Nat)(scs:Sl)(p:Pl)(q:List Wt)(nodes:List Nd)(sc:List Int)(h:AH):Prop where
 ok:p.ok
 cfg:h.has p.c c.cells kdu
 res:h.has p.r [(⟨none,0,.is 0⟩:Sl).v] kbz
 tree:∃nd:Sl,h.has p.t [nd.v] kbz∧GF Ef.nd kbl h Fp.no nd (some p.n) nodes
 que:∃S:Fp,(∀m,S m→¬p.all m)∧QAt z p.q S q p.k h
 sco:GF EI T.int h Fp.no scs (some p.s) sc
def Pl.ch(p:Pl)(j:Nat):Prop:=j=p.r∨j=p.t∨j=p.q∨j=p.s∨j=p.n∨j=p.k
section
variable{hE:AH}{c:Cfg}{z:Nat}{scs gs tsl:Sl}{p:Pl}{q:List Wt}{nodes:List Nd}{sc g:List Int}{ts:List Tb}{h:AH}
theorem GrAt.grow(A:GrAt c z scs p q nodes sc h){h':AH}(G:Grow h h'):GrAt c z scs p q nodes sc h':=by
 obtain⟨ok,cfg,res,⟨nd,B,V⟩,⟨S,hS,Q⟩,sco⟩:=A;exact⟨ok,G.has cfg,G.has res,⟨nd,G.has B,V.grow G⟩,⟨S,hS,Q.grow G⟩,sco.grow G⟩
theorem GrAt.lt(A:GrAt c z scs p q nodes sc h):∀j,p.all j→j<h.blks.size:=by
 obtain⟨ok,cfg,res,⟨nd,B,V⟩,⟨S,hS,Q⟩,sco⟩:=A
 rintro j (rfl | rfl | rfl | rfl | rfl | rfl | rfl)
 ·exact cfg.lt
 ·exact res.lt
 ·exact B.lt
 ·exact Q.lt.2
 ·exact sco.lt
 ·exact V.lt
 ·exact Q.lt.1
theorem kbb6{w:Int}{x:Sl}{R:List Nat}(hR:∀i∈R,i<sc.length)(hl:R.length≤100000){P:AV→AH→Prop} :
  ∀(k i:Nat),i+k=R.length→∀(h:AH)(sc':List Int),(∃Sx:Fp,¬Sx p.s∧Sq EI h Sx x (zs R))→sc'.length=sc.length→GrAt c z scs p q nodes sc' h→sc'=addS w (R.take i) sc→(∀h',Md (fun j=>j=p.s) h h'→GrAt c z scs p q nodes (addS w R sc) h'→Runs (go (.pt kbt kfc [(1,tsl.v),(2,gs.v),(3,scs.v),(4,.ptr (some (.new p.c 0))),(8,.ptr (some (.new p.r 0))),(11,.ptr (some (.new p.t 0))),(12,.ptr (some (.new p.q 0)))]) h') P)→
  Runs (go (.pt kbt kmm [(1,tsl.v),(2,gs.v),(3,scs.v),(4,.ptr (some (.new p.c 0))),(8,.ptr (some (.new p.r 0))),(11,.ptr (some (.new p.t 0))),(12,.ptr (some (.new p.q 0))),(18,.int .i64 w),(92,x.v),(93,.int .i64 (R.length:Int)),(94,.int .i64 (i:Int))]) h) P:=by
 intro k
 induction k with
 | zero =>
  intro i hi h sc' X hl' A e hP;obtain rfl:i=R.length:=by omega
  rw[List.take_length]at e;subst e;rw[kvg];exact Runs.ifF (decide_eq_false (by omega)) (hP h (Md.refl _ _) A)
 | succ k ih =>
  intro i hi h sc' ⟨Sx,nx,X⟩ hl' A e hP;have hi':i<R.length:=by omega
  have hz:i<(zs R).length:=by rw[zs_len];exact hi'
  obtain⟨r1,e1,e2⟩:=X.int hz;have ex:(zs R)[i]=((R[i]:Nat):Int):=by simp[zs]
  rw[ex]at e2;have hg:R[i]<sc'.length:=by rw[hl'];exact hR _ (List.getElem_mem hi')
  have ln:scs.len=sc'.length:=A.sco.len;obtain⟨r2,e3,e4⟩:=A.sco.sq.int hg;rw[kvg];refine Runs.ifT (decide_eq_true (by omega)) (Runs.step e1 (Runs.step e2 (Runs.step e3 (Runs.step e4 (Runs.step e3 ?_)))));have hgd:sc'.getD R[i] 0=sc'[R[i]]:=by simp[List.getD,hg]
  obtain⟨r3,h1,e5,p5,V5,u5⟩:=A.sco.set (T:=Fp.no) (x:=IntKind.wrap .i64 (sc'[R[i]]+w)) (show EI.has h Fp.no [.int .i64 (IntKind.wrap .i64 (sc'[R[i]]+w))] _ from rfl) Fp.not_no (kbb hg);have e5:idx scs.ref sc'.length ((R[i]:Nat):Int) 1=some r3:=e5;rw[← ln,e3]at e5;cases e5;refine Runs.step p5 ?_;rw[ko (by omega)];have u5:Upd h h1 p.s:=u5
  have A1:GrAt c z scs p q nodes (sc'.set R[i] (IntKind.wrap .i64 (sc'[R[i]]+w))) h1:=by
   obtain⟨ok,cfg,res,⟨nd,B,V⟩,⟨S,hS,Q⟩,sco⟩:=A;refine⟨ok,cfg.updr ok.cs u5,res.updr ok.rs u5,⟨nd,B.updr ok.ts u5,V.upd u5 Fp.not_no fun k e=>by cases e;exact ok.sn.symm⟩,⟨S,hS,Q.md (u5.md (T:=fun j=>j=p.s) rfl) (fun j a e=>hS j a (by subst e;simp[Pl.all])) ok.sk.symm ok.qs⟩,V5.mono (fun j x=>x.elim id id) Fp.not_no⟩
  refine ih (i+1) (by omega) h1 _ ⟨Sx,nx,X.upd nx u5⟩ (by rw[List.length_set];exact hl') A1 ?_ fun h' m A'=>hP h' ((u5.md (T:=fun j=>j=p.s) rfl).trans m) A';rw[List.take_succ_eq_append_getElem hi'];unfold addS at e⊢;rw[List.foldl_append,List.foldl_cons,List.foldl_nil,← e,hgd]
end
theorem k8j(c:Cfg)(s:Int×Int){h:AH}:Runs (go (.fn kjp [.agg [.int .i64 c.trees,.int .i64 c.depth,.int .i64 c.lambda,.int .i64 c.gamma,.int .i64 c.num,.int .i64 c.den,.int .i64 c.loss,.int .i64 c.clip],.agg [.int .i64 s.1,.int .i64 s.2]]) h) fun v h'=>(∃e:Int,v=.tup [.int .i64 (kfq c s),.int .i64 e])∧Grow h h' :=
 (k7l c.trees c.depth c.lambda c.gamma c.num c.den c.loss c.clip s.1 s.2).imp fun v h' ⟨e,g⟩=>⟨⟨_,e⟩,g⟩
section
variable{c:Cfg}{z:Nat}{scs gs tsl y sb l:Sl}{p:Pl}{q:List Wt}{nodes:List Nd}{sc g:List Int}{ts:List Tb}{h:AH}{Sy Sl':Fp}{x:Wt}
theorem GrAt.setn(A:GrAt c z scs p q nodes sc h){i:Nat}(hi:i<nodes.length)(y:Nd):∃(nd:Sl)(r:Ref)(h':AH),h.has p.t [nd.v] kbz∧idx nd.ref nd.len (i:Int) 7=some r∧h.puts r y.cells=some h'∧Upd h h' p.n∧GrAt c z scs p q (nodes.set i y) sc h':=by
 obtain⟨ok,cfg,res,⟨nd,B,V⟩,⟨S,hS,Q⟩,sco⟩:=A;obtain⟨r,h1,e1,p1,V1,u1⟩:=V.set (T:=Fp.no) (x:=y) (show Ef.nd.has h Fp.no y.cells y from rfl) Fp.not_no (kbb hi);have u1:Upd h h1 p.n:=u1;have e1:idx nd.ref nodes.length (i:Int) 7=some r:=e1;rw[← V.len]at e1;refine⟨nd,r,h1,B,e1,p1,u1,ok,cfg.updr ok.cn u1,res.updr ok.rn u1,⟨nd,B.updr ok.tn u1,V1.mono (fun j x=>x.elim id id) Fp.not_no⟩,⟨S,hS,Q.md (u1.md (T:=fun j=>j=p.n) rfl) (fun j a e=>hS j a (by subst e;simp[Pl.all])) ok.nk.symm ok.qn⟩,sco.upd u1 Fp.not_no fun k e=>by cases e;exact ok.sn⟩
theorem k4i(T0:Tab h)(A:GrAt c z scs p q nodes sc h){b18 b26:Nat}(n18:¬p.all b18)(B18:h.has b18 [.int .i64 (x.place:Int),.int .i64 (x.deep:Int),.int .i64 (z:Int),y.v] kbf)(B26:h.has b26 [.int .i64 (sumR g x.rows).1,.int .i64 (sumR g x.rows).2] kbc)(By:BitsAt h Sy z y x.rows)(hSy:∀m,Sy m→¬p.all m)(hpl:x.place<nodes.length)(hscl:sc.length=z)(hz:z≤256)(hsb:sb.len=0){P:AV→AH→Prop}
  (hP:∀h',Md p.ch h h'→GrAt c z scs p q (nodes.set x.place (leafN (kfq c (sumR g x.rows)))) (addS (kfq c (sumR g x.rows)) x.rows sc) h'→Runs (go (.pt kbt kfc [(1,tsl.v),(2,gs.v),(3,scs.v),(4,.ptr (some (.new p.c 0))),(8,.ptr (some (.new p.r 0))),(11,.ptr (some (.new p.t 0))),(12,.ptr (some (.new p.q 0)))]) h') P) :
  Runs (go (.pt kbt khb [(1,tsl.v),(2,gs.v),(3,scs.v),(4,.ptr (some (.new p.c 0))),(8,.ptr (some (.new p.r 0))),(11,.ptr (some (.new p.t 0))),(12,.ptr (some (.new p.q 0))),(13,.ptr (some (.new b18 0))),(14,.ptr (some (.new b26 0))),(15,sb.v),(16,l.v)]) h) P:=by
 have hsub:=By.lt;rw[kt9,hsb];have C:=A.cfg;refine Runs.ifT rfl ?_;refine Runs.step (C.rd 0 rfl (ke _ _)) (Runs.step (C.rd 1 rfl (ke _ _)) (Runs.step (C.rd 2 rfl (ke _ _)) (Runs.step (C.rd 3 rfl (ke _ _)) (Runs.step (C.rd 4 rfl (ke _ _)) (Runs.step (C.rd 5 rfl (ke _ _)) (Runs.step (C.rd 6 rfl (ke _ _)) (Runs.step (C.rd 7 rfl (ke _ _)) (Runs.step (B26.rd 0 rfl (ke _ _)) (Runs.step (B26.rd 1 rfl (ke _ _)) ?_)))))))));refine(k8j c (sumR g x.rows)).call fun v h1 ⟨⟨e,he⟩,g1⟩=>?_;subst he;refine Runs.step rfl (Runs.step (seen (ke _ _)) (Runs.step (seen (ke _ _)) ?_));dsimp only;have A1:=A.grow g1;obtain⟨nd,r,h2,Bt,e1,p2,u2,A2⟩:=A1.setn hpl (leafN (kfq c (sumR g x.rows)));refine Runs.step (Bt.rd 0 rfl (asSl_v _)) (Runs.step ((g1.has B18).rd 0 rfl (ke _ _)) (Runs.step e1 (Runs.step p2 ?_)));have n18n:b18≠p.n:=fun e=>n18 (by subst e;simp[Pl.all]);have B18':=(g1.has B18).updr n18n u2;refine Runs.step (B18'.rd 2 rfl (ke _ _)) (Runs.step (B18'.rd 3 rfl (asSl_v _)) ?_);have By2:=(By.grow g1).upd (fun x=>hSy _ x (by simp[Pl.all])) u2;obtain⟨w,N,a,rr,ll⟩:=By2;have T2:Tab h2:=(T0.grow g1).md (u2.md (T:=fun j=>j=p.n) rfl);refine(kuh (n:=(z:Int)) T2 N).call fun v h3 ⟨g3,xl,j,e,lj,X⟩=>?_;subst e;rw[ll]at X;refine Runs.step (seen (asSl_v _)) ?_;rw[X.len,zs_len];have hlen:x.rows.length≤z:=by have:=hsub.length_le;rwa[List.length_range]at this
 have A3:=A2.grow g3;have hs:=A2.lt p.s (by simp[Pl.all]);refine kbb6 (sc:=sc) (fun i hi=>by rw[hscl];exact List.mem_range.1 (hsub.subset hi)) (by omega) x.rows.length 0 (by omega) h3 sc ⟨_,?_,X.sq⟩ rfl A3 rfl fun h' m A'=>hP h' ?_ A'
 ·rintro (k | k)
  ·have:=opt_ge lj k;omega
  ·exact k
 ·exact((g1.md _).trans ((u2.md (T:=p.ch) (by simp[Pl.ch])).thenG g3)).trans (m.mono fun j _ e=>by subst e;simp[Pl.ch])
end
theorem k1a{z:Nat}{w R:List Nat}(r:btR (z:Int) w=true)(l:btL (z:Int) w=R){i:Nat}(hi:i<z):wbit w i=decide (i∈R):=by
 rw[← l];unfold btL;rw[r,if_pos rfl,Int.toNat_natCast,Bool.eq_iff_iff,decide_eq_true_eq,List.mem_filter,List.mem_range];exact⟨fun h=>⟨hi,h⟩,fun h=>h.2⟩
section
variable{c:Cfg}{z:Nat}{scs gs tsl y sb l:Sl}{p:Pl}{q:List Wt}{nodes:List Nd}{sc g:List Int}{ts:List Tb}{h:AH}{Sy Sl' Sb:Fp}{x:Wt}{b:Int}{bs:List Int}
theorem Sq.spr{L:List SpR}(n:Sq (Ef.spr z) h Sl' l L){i:Nat}(hi:i<L.length):∃(r:Ref)(y:Sl),idx l.ref l.len (i:Int) 9=some r∧(h.cell (r.add 0)).bind AV.asBool=some false∧(h.cell (r.add 1)).bind (AV.asInt .i64)=some 0∧(h.cell (r.add 2)).bind (AV.asInt .i64)=some (L[i].spl.1:Int)∧(h.cell (r.add 3)).bind (AV.asInt .i64)=some (L[i].spl.2.1:Int)∧(h.cell (r.add 4)).bind (AV.asInt .i64)=some (L[i].spl.2.2:Int)∧(h.cell (r.add 5)).bind (AV.asInt .i64)=some 0∧(h.cell (r.add 6)).bind (AV.asInt .i64)=some 0∧(h.cell (r.add 7)).bind (AV.asInt .i64)=some (z:Int)∧(h.cell (r.add 8)).bind AV.asSl=some y∧BitsAt h Sl' z y L[i].rows:=by
 obtain⟨r,cs,e1,⟨y,rfl,B⟩,k⟩:=n.at (kgg hi);rw[n.len];have g:=Grow.refl h;exact⟨r,y,e1,k.rd g 0 rfl rfl,k.rd g 1 rfl (ke _ _),k.rd g 2 rfl (ke _ _),k.rd g 3 rfl (ke _ _),k.rd g 4 rfl (ke _ _),k.rd g 5 rfl (ke _ _),k.rd g 6 rfl (ke _ _),k.rd g 7 rfl (ke _ _),k.rd g 8 rfl (asSl_v _),B⟩
theorem k51(T0:Tab h)(A:GrAt c z scs p q nodes sc h){b18 b26:Nat}(n18:¬p.all b18)(B18:h.has b18 [.int .i64 (x.place:Int),.int .i64 (x.deep:Int),.int .i64 (z:Int),y.v] kbf)(By:BitsAt h Sy z y x.rows)(hSy:∀m,Sy m→¬p.all m)(hpl:x.place<nodes.length)(hn:nodes.length≤63)(hq:q.length≤64)(hdeep:x.deep≤64)(hz:z≤256)(hqp:∀w∈q,w.place<nodes.length)(hsb:Sq (Ef.int .i64) h Sb sb (b::bs)){L:List SpR}(hL:Sq (Ef.spr z) h Sl' l L)(hSl:∀m,Sl' m→¬p.all m){j:Nat}(hb:b=(j:Int))(hj:j<L.length)(hrow:L[j].rows=x.rows.filter (leftS ts L[j].spl)){P:AV→AH→Prop}
  (hP:∀(h':AH)(p':Pl),p'.c=p.c→p'.r=p.r→p'.t=p.t→p'.q=p.q→p'.s=p.s→Md p.ch h h'→(p'.n=p.n∨h.blks.size≤p'.n)→(p'.k=p.k∨h.blks.size≤p'.k)→GrAt c z scs p' (q++kidsS ts x L[j].spl nodes.length) (nodes.set x.place (splitN L[j].spl nodes.length (nodes.length+1))++[Nd.no,Nd.no]) sc h'→Runs (go (.pt kbt kfc [(1,tsl.v),(2,gs.v),(3,scs.v),(4,.ptr (some (.new p.c 0))),(8,.ptr (some (.new p.r 0))),(11,.ptr (some (.new p.t 0))),(12,.ptr (some (.new p.q 0)))]) h') P) :
  Runs (go (.pt kbt khb [(1,tsl.v),(2,gs.v),(3,scs.v),(4,.ptr (some (.new p.c 0))),(8,.ptr (some (.new p.r 0))),(11,.ptr (some (.new p.t 0))),(12,.ptr (some (.new p.q 0))),(13,.ptr (some (.new b18 0))),(14,.ptr (some (.new b26 0))),(15,sb.v),(16,l.v)]) h) P:=by
 have hsub:=By.lt;have hlt:=A.lt;have B18lt:=B18.lt;rw[kt9];have ln:sb.len=bs.length+1:=hsb.len;have hsh:=hsb.short;refine Runs.ifF (decide_eq_false (by omega)) ?_;obtain⟨r1,e1,e2⟩:=hsb.int (i:=0) (by simp);have e2':(h.cell r1).bind (AV.asInt .i64)=some (j:Int):=by rw[e2];simp[hb]
 obtain⟨r2,y2,e3,a0,a1,a2,a3,a4,a5,a6,a7,a8,B2⟩:=hL.spr hj;refine Runs.step e1 (Runs.step e2' (Runs.step e3 (Runs.step a0 (Runs.step a1 (Runs.step a2 (Runs.step a3 (Runs.step a4 (Runs.step a5 (Runs.step a6 (Runs.step a7 (Runs.step a8 ?_)))))))))));generalize hs:L[j].spl=s at *
 rw[hrow]at B2;refine Runs.new fun h1 b1 g1=>Runs.puts b1 rfl fun h2 b2 u2=>?_;have g02:Grow h h2:=g1.updr (Nat.le_refl _) u2;refine Runs.step (b2.rd 0 rfl rfl) (Runs.step (b2.rd 1 rfl (ke _ _)) (Runs.step (b2.rd 2 rfl (ke _ _)) (Runs.step (b2.rd 3 rfl (ke _ _)) (Runs.step (b2.rd 4 rfl (ke _ _)) (Runs.step (b2.rd 5 rfl (ke _ _)) (Runs.step (b2.rd 6 rfl (ke _ _)) ?_))))));refine Runs.new fun h3 b3 g3=>Runs.puts b3 rfl fun h4 b4 u4=>?_;have g24:Grow h2 h4:=g3.updr (Nat.le_refl _) u4;have g04:=g02.trans g24;have z2:=b2.lt;have z4:=b4.lt;have A4:=A.grow g04;obtain⟨nd,Bt,V⟩:=A4.tree;have lnd:nd.len=nodes.length:=V.len;refine Runs.step (Bt.rd 0 rfl (asSl_v _)) (Runs.step (Bt.rd 0 rfl (asSl_v _)) ?_);rw[lnd];have nall:∀{m:Nat},h.blks.size≤m→¬p.all m:=fun hm a=>by have:=hlt _ a;omega
 have tne:p.t≠h2.blks.size:=fun e=>by have:=hlt p.t (by simp[Pl.all]);have:=g02.size;omega
 refine Runs.putAt (o:=5) b4 (by simp) rfl fun h5 b5 u5=>?_;have Bt5:=Bt.updr tne u5;refine Runs.when (kxh Bt Bt5 0 1) ?_;rw[ko (by omega)];refine Runs.putAt (o:=6) b5 (by simp) rfl fun h6 b6 u6=>?_;have g46:Grow h2 h6:=((g3.updr (Nat.le_refl _) u4).updr (Nat.le_refl _) u5).updr (Nat.le_refl _) u6;have g06:=g02.trans g46;have A6:=A.grow g06;have B18':=g06.has B18;obtain⟨nd6,r6,h7,Bt6,e6,p7,u7,A7⟩:=A6.setn hpl (splitN s nodes.length (nodes.length+1));refine Runs.step (Bt6.rd 0 rfl (asSl_v _)) (Runs.step (B18'.rd 0 rfl (ke _ _)) (Runs.step (b6.rd 0 rfl rfl) (Runs.step (b6.rd 1 rfl (ke _ _)) (Runs.step (b6.rd 2 rfl (ke _ _)) (Runs.step (b6.rd 3 rfl (ke _ _)) (Runs.step (b6.rd 4 rfl (ke _ _)) (Runs.step (b6.rd 5 rfl (ke _ _)) (Runs.step (b6.rd 6 rfl (ke _ _)) (Runs.step e6 (Runs.step p7 ?_))))))))));have z6:=b6.lt;have z06:=g06.size;have z02:=g02.size;have nlt:=hlt p.n (by simp[Pl.all]);have b2':h7.has h.blks.size _ kec:=(g46.has b2).updr (by omega) u7;have b6':h7.has h2.blks.size _ kbl:=b6.updr (by omega) u7;have B18'':=B18'.updr (fun e=>n18 (by subst e;simp[Pl.all])) u7;have m07:Md p.ch h h7:=(g06.md _).trans (u7.md (by simp[Pl.ch]));have By7:BitsAt h7 (fun j=>Sy j∧j<h.blks.size) z y x.rows:=(By.bound.grow g06).upd (fun k=>hSy _ k.1 (by simp[Pl.all])) u7;have B27:BitsAt h7 (fun j=>Sl' j∧j<h.blks.size) z y2 (x.rows.filter (leftS ts s)):=(B2.bound.grow g06).upd (fun k=>hSl _ k.1 (by simp[Pl.all])) u7;obtain⟨ok7,cfg7,res7,⟨nd7,Bt7,V7⟩,⟨S70,hS70,Q70⟩,sco7⟩:=A7
 obtain⟨S7,hS7,hS7b,Q7⟩:∃S:Fp,(∀m,S m→¬p.all m)∧(∀m,S m→m<h7.blks.size)∧QAt z p.q S q p.k h7:=by
  obtain⟨a,b,s',Bq,Vq⟩:=Q70;exact⟨fun j=>S70 j∧j<h7.blks.size,fun m k=>hS70 m k.1,fun m k=>k.2,a,fun k=>b k.1,s',Bq,Vq.bound⟩
 refine Runs.step (Bt7.rd 0 rfl (asSl_v _)) (Runs.new fun h8 b8 g8=>?_);refine Runs.step (kd2 (n:=2) b8 (by rw[kn8];rfl)) ?_;have hset:(nodes.set x.place (splitN s nodes.length (nodes.length+1))).length=nodes.length:=List.length_set;obtain⟨nd9,h9,e9,V9,u9⟩:=(V7.grow g8).pushs (T:=Fp.no) (rows':=[Nd.no.cells,Nd.no.cells]) (ys:=[Nd.no,Nd.no]) (n:=2) (.cons rfl (.cons rfl .nil)) rfl (by decide) NotO.no (k3n (by omega));refine Runs.step e9 (Runs.step (asSl_v _) ?_);dsimp only;have u9:Upd h8 h9 p.n:=u9;have Bt9:=(g8.has Bt7).updr ok7.tn u9;refine Runs.putAt (o:=0) (cs':=[nd9.v]) Bt9 (by simp) rfl fun h10 B10 u10=>?_;have z7:=u7.size;have z8:=g8.size;have z9:=u9.size;have z10:=u10.size;have m710:Md (fun j=>j=p.n∨j=p.t) h7 h10:=((g8.md _).trans (u9.md (.inl rfl))).trans (u10.md (.inr rfl));have tlt:=hlt p.t (by simp[Pl.all]);have nold:∀{m:Nat},h.blks.size≤m→¬(m=p.n∨m=p.t):=fun hm a=>by omega
 have b2'':=m710.has b2' (nold (Nat.le_refl _));have b6'':=m710.has b6' (nold (by omega));have B18x:=m710.has B18'' fun e=>n18 (by rcases e with rfl | rfl<;>simp[Pl.all]);have By10:=By7.md m710 fun j a e=>hSy j a.1 (by rcases e with rfl | rfl<;>simp[Pl.all]);have B210:=B27.md m710 fun j a e=>hSl j a.1 (by rcases e with rfl | rfl<;>simp[Pl.all]);have m010:Md p.ch h h10:=m07.trans (m710.mono fun j _ e=>by rcases e with rfl | rfl<;>simp[Pl.ch]);have V10:GF Ef.nd kbl h10 Fp.no nd9 (some h8.blks.size) (nodes.set x.place (splitN s nodes.length (nodes.length+1))++[Nd.no,Nd.no]):=(V9.mono (fun j k=>k.1.elim id id) Fp.not_no).upd u10 Fp.not_no fun k e=>by cases e;omega
 refine Runs.step (B18x.rd 2 rfl (ke _ _)) (Runs.step (B18x.rd 3 rfl (asSl_v _)) (Runs.step (b2''.rd 7 rfl (ke _ _)) (Runs.step (b2''.rd 8 rfl (asSl_v _)) ?_)));have By10':=By10;obtain⟨wy,Ny,ay,ry,ly⟩:=By10';have B210':=B210;obtain⟨w2,N2,ax2,rr2,l2⟩:=B210';refine(k7k Ny N2 ry rr2).call fun v h11 pp=>?_;obtain⟨g11,y3,er,T3,e,B3,hT3,o3⟩:=pp.bits;subst e
 have hrows:((btL (z:Int) wy).filter fun i=>!wbit w2 i)=x.rows.filter fun i=>!leftS ts s i:=by
  rw[ly];apply List.filter_congr;intro i hi;rw[k1a rr2 l2 (List.mem_range.1 (hsub.subset hi))];congr 1;rw[Bool.eq_iff_iff,decide_eq_true_eq,List.mem_filter];exact⟨fun h=>h.2,fun h=>⟨hi,h⟩⟩
 rw[hrows]at B3;refine Runs.step rfl (Runs.step rfl (Runs.ifT rfl (Runs.step rfl (Runs.step (seenAt rfl (asSl_v _)) (Runs.step rfl ?_)))));dsimp only;refine Runs.new fun h12 b12 g12=>Runs.puts b12 rfl fun h13 b13 u13=>?_;have g1113:Grow h11 h13:=g12.updr (Nat.le_refl _) u13;have g1013:=g11.trans g1113;have b2x:=g1013.has b2'';have b6x:=g1013.has b6'';have B18y:=g1013.has B18x;refine Runs.step (b6x.rd 5 rfl (ke _ _)) (Runs.step (B18y.rd 1 rfl (ke _ _)) (Runs.step (b2x.rd 7 rfl (ke _ _)) (Runs.step (b2x.rd 8 rfl (asSl_v _)) ?_)));rw[ko (i:=x.deep) (by omega)];have z11:=g11.size;have z13:=b13.lt;have klt:=hlt p.k (by simp[Pl.all]);have qlt:=hlt p.q (by simp[Pl.all]);have Q13:QAt z p.q S7 q p.k h13:=(Q7.md m710 (fun j a e=>hS7 j a (by rcases e with rfl | rfl<;>simp[Pl.all])) (by rintro (e | e);exact ok7.nk e.symm;exact ok7.tk e.symm) (by rintro (e | e);exact ok7.qn e;exact ok7.tq e.symm)).grow g1013
 have Q13:QAt z p.q (fun j=>S7 j∧j<h13.blks.size) q p.k h13:=by
  obtain⟨a,b,s',Bq,Vq⟩:=Q13;exact⟨a,fun k=>b k.1,s',Bq,Vq.bound⟩
 have B213:=B210.grow g1013;have By13:=By10.grow g1013;refine(kxm Q13 (by omega) (x:=⟨nodes.length,x.deep+1,x.rows.filter (leftS ts s)⟩) B213 (fun k=>hSl _ k.1 (by simp[Pl.all])) (fun k=>hSl _ k.1 (by simp[Pl.all])) (fun w hw=>by have:=hqp w hw;unfold keyW;show(w.place:Int)≤(nodes.length:Int);omega)).call fun v h14 ⟨e,S14,k14,hS14,Q14,m14,hk14⟩=>?_;subst e;refine Runs.step rfl ?_;have nold2:∀{m:Nat},h.blks.size≤m→¬(m=p.k∨m=p.q):=fun hm a=>by omega
 have b6y:=m14.has b6x (nold2 (by omega));have B18z:=m14.has B18y fun e=>n18 (by rcases e with rfl | rfl<;>simp[Pl.all]);have b13':=m14.has b13 (nold2 (by omega));refine Runs.step (b6y.rd 6 rfl (ke _ _)) (Runs.step (B18z.rd 1 rfl (ke _ _)) (Runs.step (b13'.rd 0 rfl (ke _ _)) (Runs.step (b13'.rd 1 rfl (asSl_v _)) ?_)));rw[ko (i:=x.deep) (by omega)];have hT3':∀m,T3 m→h10.blks.size≤m:=hT3;have B3':BitsAt h13 (fun j=>T3 j∧j<h13.blks.size) z y3 (x.rows.filter fun i=>!leftS ts s i):=(B3.grow g1113).bound;have B314:=B3'.md m14 fun j a e=>by have:=hT3' j a.1;rcases e with rfl | rfl<;>omega
 have z14:=m14.size
 refine(kxm Q14 (by rw[List.length_append];simp;omega) (x:=⟨nodes.length+1,x.deep+1,x.rows.filter fun i=>!leftS ts s i⟩) B314 (fun k=>by
  have:=hT3' _ k.1;rcases hk14 with e | e
  ·omega
  ·have:=k.2;omega) (fun k=>by have:=hT3' _ k.1;omega) (fun w hw=>by
  unfold keyW;show(w.place:Int)≤((nodes.length+1:Nat):Int);rcases List.mem_append.1 hw with hw | hw
  ·have:=hqp w hw;omega
  ·rw[List.mem_singleton.1 hw];show(nodes.length:Int)≤_;omega)).call fun v h15 ⟨e,S15,k15,hS15,Q15,m15,hk15⟩=>?_
 subst e;refine Runs.step rfl ?_;rw[List.append_assoc]at Q15;have hk14s:k14=p.k∨h13.blks.size≤k14:=hk14;have hk15s:k15=k14∨h14.blks.size≤k15:=hk15
 have hk:k15=p.k∨h13.blks.size≤k15:=by
  rcases hk15s with e | e
  ·rw[e];exact hk14s
  ·exact .inr (by omega)
 have q14lt:=Q14.lt.1
 have m1315:Md (fun j=>j=p.k∨j=p.q) h13 h15:=m14.next m15 fun j hj e=>by
  rcases e with rfl | rfl
  ·rcases hk14s with e | e
   ·exact .inl e
   ·omega
  ·exact .inr rfl
 have m1015:Md (fun j=>j=p.k∨j=p.q) h10 h15:=(g1013.md _).trans m1315;have clt:=hlt p.c (by simp[Pl.all]);have rlt:=hlt p.r (by simp[Pl.all]);have slt:=hlt p.s (by simp[Pl.all])
 have hok:Pl.ok ⟨p.c,p.r,p.t,p.q,p.s,h8.blks.size,k15⟩:=by
  obtain⟨o1,o2,o3',o4,o5,o6,o7,o8,o9,o10,o11,o12,o13,o14,o15,o16,o17,o18,o19,o20,o21⟩:=ok7
  have kk:∀{m:Nat},m<h.blks.size→m≠p.k→m≠k15:=fun h1 h2 e=>by
   rcases hk with e2 | e2
   ·exact h2 (e.trans e2)
   ·omega
  refine⟨o1,o2,o3',o4,by show p.c≠h8.blks.size;omega,kk clt o6,o7,o8,o9,by show p.r≠h8.blks.size;omega,kk rlt o11,o12,o13,by show p.t≠h8.blks.size;omega,kk tlt o15,o16,by show p.q≠h8.blks.size;omega,kk qlt o18,by show p.s≠h8.blks.size;omega,kk slt o20,?_⟩;show h8.blks.size≠k15;have:=V10.lt;have:h8.blks.size<h10.blks.size:=this;rcases hk with e2 | e2<;>omega
 have n8:h8.blks.size<h10.blks.size:=V10.lt;refine hP h15 ⟨p.c,p.r,p.t,p.q,p.s,h8.blks.size,k15⟩ rfl rfl rfl rfl rfl ?_ (.inr (by show h.blks.size≤h8.blks.size;omega)) (by rcases hk with e | e;exact .inl e;exact .inr (by show h.blks.size≤k15;omega)) ⟨hok,?_,?_,⟨nd9,?_,?_⟩,⟨S15,?_,Q15⟩,?_⟩
 ·exact m010.trans (m1015.mono fun j _ e=>by rcases e with rfl | rfl<;>simp[Pl.ch])
 ·exact m1015.has (m710.has cfg7 (by rintro (e | e);exact ok7.cn e;exact ok7.ct e)) (by rintro (e | e);exact ok7.ck e;exact ok7.cq e)
 ·exact m1015.has (m710.has res7 (by rintro (e | e);exact ok7.rn e;exact ok7.rt e)) (by rintro (e | e);exact ok7.rk e;exact ok7.rq e)
 ·exact m1015.has B10 (by rintro (e | e);exact ok7.tk e;exact ok7.tq e)
 ·have V15:GF Ef.nd kbl h15 Fp.no nd9 (some h8.blks.size) (nodes.set x.place (splitN s nodes.length (nodes.length+1))++[Nd.no,Nd.no]):=GF.md m1015 (S:=Fp.no) (fun j a _=>a) V10 fun k e x=>by cases e;rcases x with e | e<;>omega
  exact V15
 ·intro m hm;have hb15:=Q15.2.1;obtain⟨-,-,s15,-,V15⟩:=Q15;have hn15:=V15.not
  have src:(S7 m∧m<h13.blks.size)∨(Sl' m∧m<h.blks.size)∨(T3 m∧m<h13.blks.size):=by
   rcases hS15 m hm with a | a
   ·rcases hS14 m a with a | a
    ·exact .inl a
    ·exact .inr (.inl a)
   ·exact .inr (.inr a)
  have nal:∀j,p.all j→j≠p.n→j≠p.k→m≠j:=fun j hj h1 h2 e=>by
   subst e;rcases src with a | a | a
   ·exact hS7 _ a.1 hj
   ·exact hSl _ a.1 hj
   ·have:=hT3' _ a.1;have:=hlt _ hj;omega
  rintro (e | e | e | e | e | e | e)
  ·exact nal p.c (by simp[Pl.all]) ok7.cn ok7.ck e
  ·exact nal p.r (by simp[Pl.all]) ok7.rn ok7.rk e
  ·exact nal p.t (by simp[Pl.all]) ok7.tn ok7.tk e
  ·exact nal p.q (by simp[Pl.all]) ok7.qn ok7.qk e
  ·exact nal p.s (by simp[Pl.all]) ok7.sn ok7.sk e
  ·have e:m=h8.blks.size:=e;subst e;rcases src with a | a | a
   ·have:=hS7b _ a.1;omega
   ·have:=a.2;omega
   ·have:=hT3' _ a.1;omega
  ·have e:m=k15:=e;subst e;exact hn15 hm
 ·exact GF.md m1015 (S:=Fp.no) (fun j a _=>a) (GF.md m710 (S:=Fp.no) (fun j a _=>a) sco7 fun k e x=>by cases e;rcases x with e | e;exact ok7.sn e;exact ok7.ts e.symm) fun k e x=>by cases e;rcases x with e | e;exact ok7.sk e;exact ok7.qs e.symm
end
def GrowP(c:Cfg)(scs:Sl)(js:Nat)(hE:AH)(r:List Nd×List Int)(v:AV)(h':AH):Prop:=∃(nd:Sl)(jn:Nat),v=.agg [nd.v]∧hE.blks.size≤jn∧GF Ef.nd kbl h' Fp.no nd (some jn) r.1∧GF EI T.int h' Fp.no scs (some js) r.2∧Md (fun j=>j=js) hE h'
section
variable{c:Cfg}{z D:Nat}{scs gs tsl:Sl}{g:List Int}{ts:List Tb}{hE:AH}{St Sg:Fp}
theorem k6p(T0:Tab hE)(hc:c.right=true)(hD:c.depth=(D:Int))(Q:Sq EI hE Sg gs g)(Qt:Sq Ef.tb hE St tsl ts){js:Nat}(hjs:js<hE.blks.size)(nSg:¬Sg js)(nSt:¬St js)(hg:g.length=z)(hz2:z≤256)(hp16:ts.length≤16)(hts:∀(p:Nat)(hp:p<ts.length),tabR ts[p]=true∧ts[p].ids.length=z) :
  ∀(n:Nat)(W q:List Wt)(nodes:List Nd)(sc:List Int)(p:Pl)(h:AH),GrowOk D n z W nodes→q.Perm W→IsHeap keyW q.length q→sc.length=z→GrAt c z scs p q nodes sc h→Md (fun j=>j=js) hE h→p.s=js→hE.blks.size≤p.c→hE.blks.size≤p.r→hE.blks.size≤p.t→hE.blks.size≤p.q→hE.blks.size≤p.n→hE.blks.size≤p.k→
  Runs (go (.pt kbt kfc [(1,tsl.v),(2,gs.v),(3,scs.v),(4,.ptr (some (.new p.c 0))),(8,.ptr (some (.new p.r 0))),(11,.ptr (some (.new p.t 0))),(12,.ptr (some (.new p.q 0)))]) h) (GrowP c scs js hE (growS c ts g n W nodes sc)):=by
 intro n
 induction n with
 | zero =>
  intro W q nodes sc p h ok hp hh hsc A M hs g1 g2 g3 g4 g5 g6
  have hW:W=[]:=by
   have:=muW_le ok.deep;have:=ok.mu;exact List.length_eq_zero_iff.1 (by omega)
  subst hW;obtain rfl:=hp.eq_nil;obtain⟨S,hS,-,-,s,Bq,Vq⟩:=A.que;rw[kxs];refine Runs.step (Bq.rd0 rfl (asSl_v _)) (Runs.step (km0 _ _) (Runs.step (seen rfl) ?_));dsimp only;have ln:s.len=0:=Vq.sq.len;rw[ln];refine Runs.ifF rfl ?_;obtain⟨nd,Bt,V⟩:=A.tree;refine Runs.step (Bt.rd 0 rfl (asSl_v _)) (Runs.puts A.res rfl fun h1 B1 u1=>?_);have nr:p.n≠p.r:=A.ok.rn.symm;have sr:p.s≠p.r:=A.ok.rs.symm;refine Runs.step (B1.rd 0 rfl (asSl_v _)) (Runs.ret ⟨nd,p.n,rfl,g5,V.upd u1 Fp.not_no fun k e=>by cases e;exact nr,?_,M.next (u1.md (T:=fun j=>j=p.r) rfl) fun j hj e=>by omega⟩);subst hs;exact A.sco.upd u1 Fp.not_no fun k e=>by cases e;exact sr
 | succ n ih =>
  intro W q nodes sc p h ok hp hh hsc A M hs g1 g2 g3 g4 g5 g6;have hw63:=ok.nodes63 (by have:=Cfg.right_depth hc;omega);obtain⟨S,hS,Qq⟩:=A.que;have Qq':=Qq;obtain⟨hkq,hbq,s,Bq,Vq⟩:=Qq';have ln:s.len=q.length:=Vq.sq.len;have hql:q.length=W.length:=hp.length_eq;rw[kxs];refine Runs.step (Bq.rd0 rfl (asSl_v _)) (Runs.step (km0 _ _) (Runs.step (seen rfl) ?_));dsimp only;rw[ln];cases W with
  | nil =>
   obtain rfl:=hp.eq_nil;refine Runs.ifF rfl ?_;obtain⟨nd,Bt,V⟩:=A.tree;refine Runs.step (Bt.rd 0 rfl (asSl_v _)) (Runs.puts A.res rfl fun h1 B1 u1=>?_);have nr:p.n≠p.r:=A.ok.rn.symm;have sr:p.s≠p.r:=A.ok.rs.symm;refine Runs.step (B1.rd 0 rfl (asSl_v _)) (Runs.ret ⟨nd,p.n,rfl,g5,V.upd u1 Fp.not_no fun k e=>by cases e;exact nr,?_,M.next (u1.md (T:=fun j=>j=p.r) rfl) fun j hj e=>by omega⟩);subst hs;exact A.sco.upd u1 Fp.not_no fun k e=>by cases e;exact sr
  | cons x W =>
   have hWl:=muW_le ok.deep;have hpl:=ok.first
   have hlW:(x::W).length≤63:=by
    have h1:=ok.size;have h2:=Cfg.right_depth hc;have h3:2^(D+1)≤2^6:=Nat.pow_le_pow_right (by decide) (by omega);have h4:=ok.place 0 (by simp);simp only[List.getElem_cons_zero]at h4;omega
   obtain⟨e0,ex,pp,hh'⟩:=k6v keyW hh (x:=x) (W:=W) (fun y hy=>by have:=ok.least y hy;unfold keyW;omega) hp;refine Runs.ifT (decide_eq_true (by simp at hql;omega)) ?_;refine(k0n Qq (by simp at hql;omega) (by omega) ex).call fun v h1 ⟨y,e,By,Q1,m1⟩=>?_;subst e;have hdl:=ok.deep x (by simp);have hd5:=Cfg.right_depth hc;have hsub:=ok.rows x (by simp);refine Runs.step rfl (Runs.ifT rfl (Runs.step rfl (Runs.ifT rfl (Runs.step rfl (Runs.step rfl (Runs.step rfl (Runs.step (seenAt rfl (asSl_v _)) ?_)))))))
   have A1:GrAt c z scs p (popL keyW q) nodes sc h1:=by
    obtain⟨o,cfg,res,⟨nd,Bt,V⟩,-,sco⟩:=A;exact⟨o,m1.has cfg (by rintro (e | e);exact o.ck e;exact o.cq e),m1.has res (by rintro (e | e);exact o.rk e;exact o.rq e),⟨nd,m1.has Bt (by rintro (e | e);exact o.tk e;exact o.tq e),GF.md m1 (S:=Fp.no) (fun j a _=>a) V fun k e x=>by cases e;rcases x with e | e;exact o.nk e;exact o.qn e.symm⟩,⟨S,hS,Q1⟩,GF.md m1 (S:=Fp.no) (fun j a _=>a) sco fun k e x=>by cases e;rcases x with e | e;exact o.sk e;exact o.qs e.symm⟩
   have M1:Md (fun j=>j=js) hE h1:=M.next m1 fun j hj e=>by rcases e with rfl | rfl<;>omega
   have hl1:=A1.lt;have hz1:=M1.size;refine Runs.new fun h2 b2 g12=>Runs.puts b2 rfl fun h3 b3 u3=>?_;have G13:Grow h1 h3:=g12.updr (Nat.le_refl _) u3;refine Runs.step (b3.rd 2 rfl (ke _ _)) (Runs.step (b3.rd 3 rfl (asSl_v _)) ?_);have dg:∀{T:Fp},(∀j,T j→j=js∨hE.blks.size≤j)→True:=fun _=>trivial;have Q3:Sq EI h3 Sg gs g:=(Q.md M1 fun j a e=>nSg (e▸a)).grow G13;have Qt3:Sq Ef.tb h3 St tsl ts:=(Qt.md M1 fun j a e=>nSt (e▸a)).grow G13;have T3:Tab h3:=(T0.md M1).grow G13;refine(krz T3 Q3 (By.grow G13) (by omega) (by omega)).call fun v h4 ⟨e,g34⟩=>?_;subst e;refine Runs.step rfl (Runs.ifT rfl (Runs.step rfl (Runs.step rfl ?_)));refine Runs.new fun h5 b5 g45=>Runs.puts b5 rfl fun h6 b6 u6=>?_;have G46:Grow h4 h6:=g45.updr (Nat.le_refl _) u6;have G36:Grow h3 h6:=g34.trans G46;have G16:Grow h1 h6:=G13.trans G36;have B18:=G36.has b3;have A6:=A1.grow G16;refine Runs.step (B18.rd 1 rfl (ke _ _)) (Runs.step (A6.cfg.rd 1 rfl (ke _ _)) ?_);have n18:¬p.all h1.blks.size:=fun a=>by have:=hl1 _ a;omega
   have By6:=(By.grow G16);have M6:Md (fun j=>j=js) hE h6:=M1.thenG G16;have least:=ok.least
   have leafCase:∀{sb l:Sl}{h7:AH}{b26:Nat},Grow h6 h7→h7.has b26 [.int .i64 (sumR g x.rows).1,.int .i64 (sumR g x.rows).2] kbc→bestS c ts g x=[]→sb.len=0→Runs (go (.pt kbt khb [(1,tsl.v),(2,gs.v),(3,scs.v),(4,.ptr (some (.new p.c 0))),(8,.ptr (some (.new p.r 0))),(11,.ptr (some (.new p.t 0))),(12,.ptr (some (.new p.q 0))),(13,.ptr (some (.new h1.blks.size 0))),(14,.ptr (some (.new b26 0))),(15,sb.v),(16,l.v)]) h7) (GrowP c scs js hE (growS c ts g (n+1) (x::W) nodes sc)):=by
    intro sb l h7 b26 G67 B26 hbest hsb;have A7:=A6.grow G67;refine k4i ((T0.md M6).grow G67) A7 n18 (G67.has B18) B26 (By6.grow G67) hS hpl hsc (by omega) hsb fun h' m A'=>?_
    have:growS c ts g (n+1) (x::W) nodes sc=growS c ts g n W (nodes.set x.place (leafN (kfq c (sumR g x.rows)))) (addS (kfq c (sumR g x.rows)) x.rows sc):=by
     rw[growS,hbest]
    rw[this];refine ih W (popL keyW q) _ _ p h' (ok.leaf _) pp hh' (by rw[koq];exact hsc) A' ((M6.thenG G67).next m fun j hj e=>?_) hs g1 g2 g3 g4 g5 g6;rcases e with rfl | rfl | rfl | rfl | rfl | rfl<;>omega
   refine Runs.cond (fun hdp=>?_) fun hdp=>?_
   ·rw[decide_eq_true_eq]at hdp;refine Runs.step (B18.rd 2 rfl (ke _ _)) (Runs.step (B18.rd 3 rfl (asSl_v _)) ?_);refine(kbcs ((T0.md M6)) (Q3.grow G36) By6 (by omega) hz2 hp16 (Qt3.grow G36) hts).call fun v h7 ⟨G67,l,sl,Sl',Ss,e,VL,VS,hSl⟩=>?_;subst e;refine Runs.step rfl (Runs.step (seen (asSl_v _)) (Runs.step (seen (asSl_v _)) ?_));have A7:=A6.grow G67;have b26:=G67.has b6;refine Runs.step (A7.cfg.rd 2 rfl (ke _ _)) (Runs.step (A7.cfg.rd 3 rfl (ke _ _)) (Runs.step (b26.rd 0 rfl (ke _ _)) (Runs.step (b26.rd 1 rfl (ke _ _)) ?_)));refine(k0a (xs:=sumsS ts g x.rows) (VS.mono fun _ _=>trivial) c.lambda c.gamma (sumR g x.rows).1 (sumR g x.rows).2).call fun v h8 ⟨sb,e,Vb,G78⟩=>?_;subst e;refine Runs.step rfl (Runs.step (seen (asSl_v _)) (Runs.step (seen (ke _ _)) ?_))
    have hbest:bestS c ts g x=(bestF c.lambda c.gamma (sumR g x.rows).1 (sumR g x.rows).2 (sumsS ts g x.rows)).1:=by
     unfold bestS;rw[if_pos hdp]
    rw[← hbest]at Vb;cases hbb:bestS c ts g x with
    | nil =>
     rw[hbb]at Vb;exact leafCase (G67.trans G78) (G78.has b26) hbb Vb.len
    | cons b bs =>
     rw[hbb]at Vb;obtain⟨j,hj,hjl⟩:=k0g (c:=c) (ts:=ts) (g:=g) (x:=x) b (by rw[hbb];simp);have hjL:j<((kb8 ts).map fun s=>(⟨s,x.rows.filter (leftS ts s)⟩:SpR)).length:=by rw[List.length_map];exact hjl
     have hget:((kb8 ts).map fun s=>(⟨s,x.rows.filter (leftS ts s)⟩:SpR))[j]=⟨(kb8 ts)[j],x.rows.filter (leftS ts (kb8 ts)[j])⟩:=by rw[List.getElem_map]
     have hgs:(kb8 ts).getD b.toNat (0,0,0)=(kb8 ts)[j]:=by rw[hj];simp[List.getD,hjl]
     have z67:=G67.size;have z16:=G16.size;have A8:=A7.grow G78;refine k51 (ts:=ts) ((T0.md M6).grow (G67.trans G78)) A8 n18 ((G67.trans G78).has B18) ((By6.grow G67).grow G78) hS hpl hw63 (by rw[pp.length_eq];simp at hlW;omega) (by omega) hz2 (fun w hw=>ok.below w (List.mem_cons_of_mem _ (pp.mem_iff.1 hw))) Vb (VL.grow G78) (fun m hm a=>by have:=hSl m hm;have:=hl1 _ a;omega) hj hjL (by rw[hget]) fun h' p' e1 e2 e3 e4 e5 m hn' hk' A'=>?_;rw[hget]at A';have hx:x.deep<D:=by omega
     have hgrow:growS c ts g (n+1) (x::W) nodes sc=growS c ts g n (W++kidsS ts x (kb8 ts)[j] nodes.length) (nodes.set x.place (splitN (kb8 ts)[j] nodes.length (nodes.length+1))++[Nd.no,Nd.no]) sc:=by
      rw[growS,hbb];dsimp only;rw[hgs]
     rw[hgrow,← e1,← e2,← e3,← e4]
     have hkey:∀w∈popL keyW q,keyW w≤keyW ⟨nodes.length,x.deep+1,x.rows.filter (leftS ts (kb8 ts)[j])⟩:=fun w hw=>by
      have:=ok.below w (List.mem_cons_of_mem _ (pp.mem_iff.1 hw));unfold keyW;show(w.place:Int)≤(nodes.length:Int);omega
     have hheap:IsHeap keyW (popL keyW q++kidsS ts x (kb8 ts)[j] nodes.length).length (popL keyW q++kidsS ts x (kb8 ts)[j] nodes.length):=by
      have h1:=kto keyW hh' hkey
      have h2:=kto keyW h1 (y:=⟨nodes.length+1,x.deep+1,x.rows.filter fun i=>!leftS ts (kb8 ts)[j] i⟩) fun w hw=>by
       rcases List.mem_append.1 hw with hw | hw
       ·have:=hkey w hw;unfold keyW at this⊢;have this:(w.place:Int)≤(nodes.length:Int):=this;show(w.place:Int)≤((nodes.length+1:Nat):Int);omega
       ·rw[List.mem_singleton.1 hw];unfold keyW;show(nodes.length:Int)≤((nodes.length+1:Nat):Int);omega
      rw[List.append_assoc]at h2;exact h2
     have z78:=G78.size;have z8:hE.blks.size≤h8.blks.size:=by omega
     refine ih _ _ _ sc p' h' (ok.split hx ts _ _) (pp.append (List.Perm.refl _)) hheap hsc A' ((M6.thenG (G67.trans G78)).next m fun j hj e=>?_) (e5.trans hs) (by omega) (by omega) (by omega) (by omega) (by rcases hn' with e | e<;>omega) (by rcases hk' with e | e<;>omega);rcases e with rfl | rfl | rfl | rfl | rfl | rfl<;>omega
   ·rw[decide_eq_false_iff_not]at hdp;exact leafCase (Grow.refl _) b6 (by unfold bestS;rw[if_neg hdp]) rfl
theorem koi{c:Cfg}{ts:List Tb}{g:List Int}{D N:Nat}(hD:c.depth=(D:Int)):∀(n m:Nat)(W:List Wt)(nodes:List Nd)(sc:List Int),n≤m→GrowOk D n N W nodes→growS c ts g n W nodes sc=growS c ts g m W nodes sc
 | 0,m,W,nodes,sc,_,ok=>by
  have hW:W=[]:=by
   have:=muW_le ok.deep;have:=ok.mu;exact List.length_eq_zero_iff.1 (by omega)
  subst hW;cases m<;>rfl
 | n+1,0,W,nodes,sc,h,ok=>by omega
 | n+1,m+1,[],nodes,sc,h,ok=>rfl
 | n+1,m+1,x::W,nodes,sc,h,ok=>by
  rw[growS,growS];cases hb:bestS c ts g x with
  | nil=>exact koi hD n m W _ _ (by omega) (ok.leaf _)
  | cons b bs =>
   have:=k7i hb;exact koi hD n m _ _ sc (by omega) (ok.split (by omega) ts _ _)
theorem k3a(T0:Tab hE)(hc:c.right=true)(Q:Sq EI hE Sg gs g)(Qt:Sq Ef.tb hE St tsl ts){js:Nat}{sc:List Int}(V:GF EI T.int hE Fp.no scs (some js) sc)(nSg:¬Sg js)(nSt:¬St js)(hg:g.length=z)(hsc:sc.length=z)(hz2:z≤256)(hp16:ts.length≤16)(hts:∀(p:Nat)(hp:p<ts.length),tabR ts[p]=true∧ts[p].ids.length=z) :
  Runs (go (.fn kbt [.agg c.cells,tsl.v,gs.v,scs.v]) hE) (GrowP c scs js hE (growS c ts g 64 [firstW z] [Nd.no] sc)):=by
 have hd:=Cfg.right_depth hc;obtain⟨D,hD⟩:∃D:Nat,c.depth=(D:Int):=⟨c.depth.toNat,by omega⟩;have hjs:js<hE.blks.size:=V.lt;unfold Cfg.cells;rw[kbcw];refine Runs.new fun h1 b1 g1=>Runs.new fun h2 b2 g2=>?_;rw[Q.len,hg];refine(kzi (n:=z) (by omega)).call fun v h3 pp=>?_;obtain⟨g3,t3,e3,S3,e,B3,hS3,o3⟩:=pp.bits;subst e;refine Runs.step rfl (Runs.step rfl (Runs.ifT rfl (Runs.step rfl (Runs.step (seenAt rfl (asSl_v _)) (Runs.step rfl ?_)))));dsimp only;refine Runs.new fun h4 b4 g4=>Runs.puts b4 rfl fun h5 b5 u5=>?_;have G35:Grow h3 h5:=g4.updr (Nat.le_refl _) u5;obtain⟨h6,e6,g6,V6⟩:=GF.mk (E:=Ef.nd) (elem:=kbl) (S:=Fp.no) (h:=h5) (n:=1) (bytes:=Pg.bytesOf kbl) (l:=1) (c:=1) (cs:=Nd.no.cells) (x:=Nd.no) (fun h'=>rfl) Fp.not_no rfl rfl (by rw[kqs];decide) (by decide);refine Runs.step e6 ?_;dsimp only;refine Runs.new fun h7 b7 g7=>Runs.puts b7 rfl fun h8 b8 u8=>?_;have G68:Grow h6 h8:=g7.updr (Nat.le_refl _) u8;have b5':=(g6.trans G68).has b5;refine Runs.step (b5'.rd 0 rfl (ke _ _)) (Runs.step (b5'.rd 1 rfl (asSl_v _)) (Runs.new fun h9 b9 g9=>Runs.new fun h10 b10 g10=>?_));have z1:=b1.lt;have z2:=b2.lt;have z3:=g3.size;have z4:=b4.lt;have z5:=b5.lt;have z6:=V6.lt;have z6':h5.blks.size<h6.blks.size:=z6;have z8:=b8.lt;have z9:=b9.lt;have z10:=b10.lt;have G26:Grow h2 h6:=(g3.trans G35).trans g6;have G610:Grow h6 h10:=(G68.trans g9).trans g10;have G510:Grow h5 h10:=g6.trans G610;have GE:Grow hE h10:=((g1.trans g2).trans G26).trans G610;have B310:BitsAt h10 (fun j=>S3 j∧j<h3.blks.size) z t3 (List.range z):=((B3.bound.grow G35).grow G510);have zE1:=g1.size;have zE2:=g2.size;have z35:=G35.size;have z68:=G68.size;have z810:=g9.size
 have A:GrAt c z scs ⟨hE.blks.size,h1.blks.size,h6.blks.size,h9.blks.size,js,h5.blks.size,h8.blks.size⟩ [firstW z] [Nd.no] sc h10:=by
  refine⟨⟨?_,?_,?_,?_,?_,?_,?_,?_,?_,?_,?_,?_,?_,?_,?_,?_,?_,?_,?_,?_,?_⟩,(((g2.trans G26).trans G610).has b1),((G26.trans G610).has b2),⟨_,(g9.trans g10).has b8,V6.grow G610⟩,⟨fun j=>S3 j∧j<h3.blks.size,?_,?_,?_,_,b10,?_⟩,V.grow GE⟩
  all_goals first
   | (dsimp only;omega)
   | skip
  ·intro m hm a;have h1:=hS3 m hm.1;have h2:=hm.2;unfold Pl.all at a;dsimp only at a;omega
  ·refine GQ.lit (rows:=[[.int .i64 0,.int .i64 0,.int .i64 (z:Int),t3.v]]) (e:=kbf) (g10.has b9) (.cons ⟨t3,rfl,B310⟩ .nil) ?_ rfl;intro hm;have h2:=hm.2;omega
 have ok:GrowOk D (2^(D+1)-1) z [firstW z] [Nd.no]:=GrowOk.start
 have h64:2^(D+1)-1≤64:=by
  have:2^(D+1)≤2^6:=Nat.pow_le_pow_right (by decide) (by omega);omega
 rw[← koi hD _ 64 [firstW z] [Nd.no] sc h64 ok];exact k6p T0 hc hD Q Qt hjs nSg nSt hg hz2 hp16 hts _ [firstW z] [firstW z] [Nd.no] sc _ h10 ok (List.Perm.refl _) (fun k k0 kn=>by simp at kn;omega) hsc A (GE.md _) rfl (Nat.le_refl _) (by dsimp only;omega) (by dsimp only;omega) (by dsimp only;omega) (by dsimp only;omega) (by dsimp only;omega)
end
end Go.Ab
