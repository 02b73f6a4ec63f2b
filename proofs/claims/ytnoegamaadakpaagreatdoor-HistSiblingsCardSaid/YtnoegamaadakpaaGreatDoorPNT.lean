/- squeezed -/
import Derived.Test.YtnoegamaadakpaaGreatDoorPAbsU
import Derived.Test.YtnoegamaadakpaaGreatDoorPS42
import Derived.Test.YtnoegamaadakpaaGreatDoorU1
set_option linter.unusedVariables false
set_option linter.unusedSimpArgs false
set_option linter.unusedSectionVars false

namespace Go.Num
def Cg(n a b:Nat):Prop:=a%n=b%n
theorem Cg.rfl{n a:Nat}:Cg n a a:=Eq.refl _
theorem Cg.symm{n a b:Nat}(h:Cg n a b):Cg n b a:=Eq.symm h
theorem Cg.trans{n a b c:Nat}(h:Cg n a b)(k:Cg n b c):Cg n a c:=Eq.trans h k
theorem Cg.of_eq{n a b:Nat}(h:a=b):Cg n a b:=by subst h;exact Cg.rfl
theorem Cg.mod{n a:Nat}:Cg n (a%n) a:=Nat.mod_mod _ _
theorem Cg.add{n a b c d:Nat}(h:Cg n a b)(k:Cg n c d):Cg n (a+c) (b+d):=by
 unfold Cg at *
 rw[Nat.add_mod,h,k,← Nat.add_mod]
theorem Cg.mul{n a b c d:Nat}(h:Cg n a b)(k:Cg n c d):Cg n (a*c) (b*d):=by
 unfold Cg at *
 rw[Nat.mul_mod,h,k,← Nat.mul_mod]
theorem Cg.pow{n a b:Nat}(h:Cg n a b):∀k:Nat,Cg n (a^k) (b^k)
 | 0=>Cg.rfl
 | k+1=>(h.pow k).mul h
theorem Cg.zero{n a:Nat}:Cg n (n*a) 0:=by unfold Cg;rw[Nat.mul_mod_right,Nat.zero_mod]
theorem Cg.add_mul{n a b:Nat}:Cg n (a+n*b) a:=by unfold Cg;rw[Nat.add_mul_mod_self_left]
theorem Cg.of_dvd{m n a b:Nat}(d:m∣n)(h:Cg n a b):Cg m a b:=by
 unfold Cg at *
 rw[← Nat.mod_mod_of_dvd a d,h,Nat.mod_mod_of_dvd b d]
theorem Cg.eq{n a b:Nat}(h:Cg n a b)(ha:a<n)(hb:b<n):a=b:=by
 unfold Cg at h;rwa[Nat.mod_eq_of_lt ha,Nat.mod_eq_of_lt hb]at h
theorem Cg.dvd_sub{n a b:Nat}(h:Cg n a b)(hl:b≤a):n∣a-b:=Nat.dvd_of_mod_eq_zero (Nat.sub_mod_eq_zero_of_mod_eq h)
theorem Cg.of_dvd_sub{n a b:Nat}(hl:b≤a)(h:n∣a-b):Cg n a b:=by
 obtain⟨c,hc⟩:=h;have:a=b+n*c:=by omega
 rw[this];exact Cg.add_mul
theorem Cg.cancel_le{n a b c:Nat}(co:Nat.Coprime n c)(hl:b≤a)(h:Cg n (a*c) (b*c)):Cg n a b:=by
 have h1:=h.dvd_sub (Nat.mul_le_mul_right _ hl);rw[← Nat.sub_mul]at h1;exact Cg.of_dvd_sub hl (Nat.Coprime.dvd_of_dvd_mul_right co h1)
theorem Cg.cancel{n a b c:Nat}(co:Nat.Coprime n c)(h:Cg n (a*c) (b*c)):Cg n a b:=by
 rcases Nat.le_total b a with hl | hl
 ·exact Cg.cancel_le co hl h
 ·exact(Cg.cancel_le co hl h.symm).symm
theorem Cg.cancel_left{n a b c:Nat}(co:Nat.Coprime n c)(h:Cg n (c*a) (c*b)):Cg n a b:=by
 rw[Nat.mul_comm c,Nat.mul_comm c]at h;exact h.cancel co
theorem Cg.div{m n a b:Nat}(hm:0<m)(h:Cg (m*n) (m*a) (m*b)):Cg n a b:=by
 unfold Cg at *
 rw[Nat.mul_mod_mul_left,Nat.mul_mod_mul_left]at h;exact Nat.eq_of_mul_eq_mul_left hm h
theorem Cg.times{m n a b:Nat}(h:Cg n a b):Cg (m*n) (m*a) (m*b):=by
 unfold Cg at *
 rw[Nat.mul_mod_mul_left,Nat.mul_mod_mul_left,h]
theorem Cg.cancel_add{n a b c:Nat}(h:Cg n (c+a) (c+b)):Cg n a b:=by
 rcases Nat.le_total b a with hl | hl
 ·refine Cg.of_dvd_sub hl ?_;have:=h.dvd_sub (by omega);rwa[Nat.add_sub_add_left]at this
 ·refine(Cg.of_dvd_sub hl ?_).symm;have:=h.symm.dvd_sub (by omega);rwa[Nat.add_sub_add_left]at this
theorem Cg.both{m n a b:Nat}(co:Nat.Coprime m n)(h:Cg m a b)(k:Cg n a b):Cg (m*n) a b:=by
 rcases Nat.le_total b a with hl | hl
 ·exact Cg.of_dvd_sub hl (co.mul_dvd_of_dvd_of_dvd (h.dvd_sub hl) (k.dvd_sub hl))
 ·exact(Cg.of_dvd_sub hl (co.mul_dvd_of_dvd_of_dvd (h.symm.dvd_sub hl) (k.symm.dvd_sub hl))).symm
def prodL:List Nat→Nat
 | []=>1
 | x::xs=>x*prodL xs
theorem kbks{l m:List Nat}(h:l.Perm m):prodL l=prodL m:=by
 induction h with
 | nil=>rfl
 | cons x _ ih=>rw[prodL,prodL,ih]
 | swap x y l=>simp only[prodL];rw[Nat.mul_left_comm]
 | trans _ _ i j=>rw[i,j]
theorem kr7:∀{l m:List Nat},l.Nodup→(∀x∈l,x∈m)→l.length=m.length→l.Perm m
 | [],m,_,_,h=>by
  have:m=[]:=List.length_eq_zero_iff.1 h.symm;subst this;exact .nil
 | x::l,m,hn,hs,h=>by
  have hx:x∈m:=hs x (by simp);obtain⟨h1,h2⟩:=List.nodup_cons.1 hn;have hl:(m.erase x).length=l.length:=by rw[List.length_erase_of_mem hx,← h];simp
  refine List.Perm.trans (List.Perm.cons x (kr7 h2 (fun y hy=>?_) hl.symm)) (List.perm_cons_erase hx).symm;have:y≠x:=fun e=>h1 (e▸hy);exact(List.mem_erase_of_ne this).2 (hs y (by simp[hy]))
def IsPrime(p:Nat):Prop:=2≤p∧∀d,d∣p→d=1∨d=p
theorem IsPrime.coprime{p a:Nat}(h:IsPrime p)(ha:¬p∣a):Nat.Coprime p a:=by
 rcases h.2 _ (Nat.gcd_dvd_left p a)with e | e
 ·exact e
 ·exact absurd (e▸Nat.gcd_dvd_right p a) ha
theorem IsPrime.dvd_mul{p a b:Nat}(h:IsPrime p)(d:p∣a*b):p∣a∨p∣b:=by
 by_cases ha:p∣a
 ·exact .inl ha
 ·exact .inr ((h.coprime ha).dvd_of_dvd_mul_left d)
theorem kzp{p a:Nat}:∀l:List Nat,Cg p (prodL (l.map fun i=>a*i%p)) (a^l.length*prodL l)
 | []=>Cg.of_eq (by simp[prodL])
 | x::l=>by
  have:=(Cg.mod (n:=p) (a:=a*x)).mul (kzp (p:=p) (a:=a) l);refine this.trans (Cg.of_eq ?_);rw[List.length_cons,Nat.pow_succ,prodL];simp only[Nat.mul_assoc,Nat.mul_comm,Nat.mul_left_comm]
theorem kxx{p:Nat}(h:IsPrime p):∀l:List Nat,(∀x∈l,¬p∣x)→¬p∣prodL l
 | [],_,d=>by
  have:=Nat.le_of_dvd (by decide) d;have:=h.1;simp[prodL]at *
  omega
 | x::l,hx,d=>by
  rcases h.dvd_mul d with e | e
  ·exact hx x (by simp) e
  ·exact kxx h l (fun y hy=>hx y (by simp[hy])) e
theorem kvm{f:Nat→Nat}:∀{l:List Nat},l.Nodup→(∀x∈l,∀y∈l,f x=f y→x=y)→(l.map f).Nodup
 | [],_,_=>by simp
 | x::l,hn,hi=>by
  obtain⟨h1,h2⟩:=List.nodup_cons.1 hn;rw[List.map_cons,List.nodup_cons];refine⟨fun hm=>?_,kvm h2 fun a ha b hb=>hi a (by simp[ha]) b (by simp[hb])⟩;obtain⟨y,hy,e⟩:=List.mem_map.1 hm;exact h1 (hi y (by simp[hy]) x (by simp) e▸hy)
theorem fermat{p a:Nat}(h:IsPrime p)(ha:¬p∣a):Cg p (a^(p-1)) 1:=by
 have hp:=h.1;have hl:(List.range' 1 (p-1)).length=p-1:=by simp
 have hmem:∀x,x∈List.range' 1 (p-1)↔1≤x∧x<p:=fun x=>by rw[List.mem_range'_1];omega
 have nd:∀x,1≤x∧x<p→¬p∣x:=fun x hx d=>by have:=Nat.le_of_dvd (by omega) d;omega
 have inj:∀x∈List.range' 1 (p-1),∀y∈List.range' 1 (p-1),a*x%p=a*y%p→x=y:=fun x hx y hy e=>by
  have h1:=(hmem x).1 hx;have h2:=(hmem y).1 hy;exact(Cg.cancel_left (h.coprime ha) e).eq h1.2 h2.2
 have pm:((List.range' 1 (p-1)).map fun i=>a*i%p).Perm (List.range' 1 (p-1)):=by
  refine kr7 (kvm List.nodup_range' inj) (fun z hz=>?_) (by simp);obtain⟨x,hx,e⟩:=List.mem_map.1 hz;subst e;rw[hmem];refine⟨?_,Nat.mod_lt _ (by omega)⟩;rcases Nat.eq_zero_or_pos (a*x%p)with e | e
  ·rcases h.dvd_mul (Nat.dvd_of_mod_eq_zero e)with d | d
   ·exact absurd d ha
   ·exact absurd d (nd x ((hmem x).1 hx))
  ·exact e
 have e:=kzp (p:=p) (a:=a) (List.range' 1 (p-1));rw[kbks pm,hl]at e;have co:Nat.Coprime p (prodL (List.range' 1 (p-1))):=h.coprime (kxx h _ fun x hx=>nd x ((hmem x).1 hx));refine(Cg.cancel co ?_).symm;rw[Nat.one_mul];exact e
theorem binom1(n x:Nat):∀k:Nat,Cg (n*n) ((1+n*x)^k) (1+n*(x*k))
 | 0=>Cg.of_eq (by simp)
 | k+1=>by
  have:=(binom1 n x k).mul (Cg.rfl (n:=n*n) (a:=1+n*x));refine this.trans ?_
  have e:(1+n*(x*k))*(1+n*x)=1+n*(x*(k+1))+n*n*(x*k*x):=by
   rw[Nat.add_mul,Nat.mul_add,Nat.mul_add,Nat.mul_add];simp only[Nat.mul_assoc,Nat.mul_comm,Nat.mul_left_comm,Nat.one_mul,Nat.mul_one,Nat.mul_add];omega
  rw[e];exact Cg.add_mul
end Go.Num

/- squeezed -/
namespace Go.Num
theorem k6x{n f:Nat}(co:Nat.Coprime n f)(hn:1<n):∃g,g<n∧Cg n (f*g) 1:=by
 have pm:((List.range n).map fun i=>f*i%n).Perm (List.range n):=by
  refine kr7 (kvm List.nodup_range fun x hx y hy e=>?_) (fun z hz=>?_) (by simp)
  ·exact(Cg.cancel_left co e).eq (List.mem_range.1 hx) (List.mem_range.1 hy)
  ·obtain⟨x,_,e⟩:=List.mem_map.1 hz;subst e;exact List.mem_range.2 (Nat.mod_lt _ (by omega))
 have h1:1∈(List.range n).map fun i=>f*i%n:=pm.mem_iff.2 (List.mem_range.2 hn);obtain⟨g,hg,e⟩:=List.mem_map.1 h1;exact⟨g,List.mem_range.1 hg,by unfold Cg;rw[e,Nat.mod_eq_of_lt hn]⟩
def Hid(n f c m:Nat):Prop:=m<n∧Cg (n*n) (c^f) (1+n*(m*f))
theorem Hid.cg{n f c d m:Nat}(h:Hid n f c m)(e:Cg (n*n) c d):Hid n f d m:=⟨h.1,(e.symm.pow f).trans h.2⟩
theorem Hid.uniq{n f c x y:Nat}(co:Nat.Coprime n f)(hn:0<n)(h:Hid n f c x)(k:Hid n f c y):x=y:=by
 have e:=(h.2.symm.trans k.2).cancel_add;exact((e.div hn).cancel co).eq h.1 k.1
theorem Hid.mul{n f c d x y:Nat}(hn:0<n)(h:Hid n f c x)(k:Hid n f d y):Hid n f (c*d) ((x+y)%n):=by
 refine⟨Nat.mod_lt _ hn,?_⟩;rw[Nat.mul_pow];refine(h.2.mul k.2).trans ?_
 have e:(1+n*(x*f))*(1+n*(y*f))=1+n*((x+y)*f)+n*n*(x*f*(y*f)):=by
  rw[Nat.add_mul,Nat.mul_add,Nat.mul_add,Nat.add_mul x y,Nat.mul_add];simp only[Nat.mul_assoc,Nat.mul_comm,Nat.mul_left_comm,Nat.one_mul,Nat.mul_one];omega
 rw[e];refine Cg.add_mul.trans (Cg.rfl.add (Cg.times ?_));exact(Cg.mod.symm).mul Cg.rfl
theorem Hid.pow{n f c x:Nat}(hn:0<n)(h:Hid n f c x)(k:Nat):Hid n f (c^k) (x*k%n):=by
 refine⟨Nat.mod_lt _ hn,?_⟩;rw[← Nat.pow_mul,Nat.mul_comm k f,Nat.pow_mul];refine((h.2.pow k).trans (binom1 n (x*f) k)).trans (Cg.rfl.add (Cg.times ?_));have e:x*f*k=x*k*f:=by simp only[Nat.mul_assoc,Nat.mul_comm,Nat.mul_left_comm]
 rw[e];exact(Cg.mod.symm).mul Cg.rfl
theorem Hid.shown{n f m:Nat}(h:m<n):Hid n f (m*n+1) m:=⟨h,by
 rw[Nat.add_comm,Nat.mul_comm m n];exact binom1 n m f⟩
structure KeyOk(p q:Nat):Prop where
 hp:IsPrime p
 hq:IsPrime q
 ne:p≠q
 co:Nat.Coprime (p*q) ((p-1)*(q-1))
theorem KeyOk.swap{p q:Nat}(k:KeyOk p q):KeyOk q p:=⟨k.hq,k.hp,fun e=>k.ne e.symm,by rw[Nat.mul_comm q p,Nat.mul_comm (q-1)];exact k.co⟩
section
variable{p q:Nat}(k:KeyOk p q)
include k
theorem KeyOk.not_dvd:¬p∣q:=fun d=>by
 rcases k.hq.2 p d with e | e
 ·have:=k.hp.1;omega
 ·exact k.ne e
theorem KeyOk.copq:Nat.Coprime p q:=k.hp.coprime k.not_dvd
theorem KeyOk.pos:1<p*q:=by
 have:=Nat.mul_le_mul k.hp.1 k.hq.1;omega
theorem KeyOk.cof:Nat.Coprime p (q-1):=Nat.Coprime.coprime_dvd_left (Nat.dvd_mul_right p q) (Nat.Coprime.coprime_dvd_right (Nat.dvd_mul_left (q-1) (p-1)) k.co)
theorem KeyOk.ndq:¬p∣q*(p-1):=fun d=>by
 rcases k.hp.dvd_mul d with d | d
 ·exact k.not_dvd d
 ·have:=Nat.le_of_dvd (by have:=k.hp.1;omega) d;have:=k.hp.1;omega
theorem KeyOk.unit{c:Nat}(h:Nat.Coprime c (p*q)):¬p∣c:=fun d=>by
 have h1:p∣Nat.gcd c (p*q):=Nat.dvd_gcd d (Nat.dvd_mul_right p q);rw[h]at h1;have:=Nat.le_of_dvd (by decide) h1;have:=k.hp.1;omega
theorem KeyOk.euler{c:Nat}(h:Nat.Coprime c (p*q)):Cg (p*q) (c^((p-1)*(q-1))) 1:=by
 refine Cg.both k.copq ?_ ?_
 ·rw[Nat.pow_mul];refine((fermat k.hp (k.unit h)).pow _).trans (Cg.of_eq (Nat.one_pow _))
 ·rw[Nat.mul_comm,Nat.pow_mul];refine((fermat k.hq (k.swap.unit (by rw[Nat.mul_comm];exact h))).pow _).trans (Cg.of_eq (Nat.one_pow _))
omit k in
theorem ky7{n u:Nat}(hn:1<n)(h:Cg n u 1):u=1+n*(u/n):=by
 unfold Cg at h;rw[Nat.mod_eq_of_lt hn]at h;have:=Nat.div_add_mod u n;omega
theorem KeyOk.hid{c:Nat}(h:Nat.Coprime c (p*q)):∃m,Hid (p*q) ((p-1)*(q-1)) c m:=by
 obtain⟨g,hg,eg⟩:=k6x k.co k.pos;have e:=ky7 k.pos (k.euler h);generalize hf:(p-1)*(q-1)=f at *
 generalize hn:p*q=n at *
 refine⟨c^f/n*g%n,Nat.mod_lt _ (by have:=k.pos;omega),?_⟩;refine(Cg.of_eq e).trans (Cg.rfl.add (Cg.times ?_));refine Cg.trans ?_ ((Cg.mod.symm).mul Cg.rfl);have e2:c^f/n*g*f=c^f/n*(f*g):=by simp only[Nat.mul_assoc,Nat.mul_comm,Nat.mul_left_comm]
 rw[e2];have:=(Cg.rfl (n:=n) (a:=c^f/n)).mul eg.symm;rwa[Nat.mul_one]at this
def sayP(p x:Nat):Nat:=(x%(p*p))^(p-1)%(p*p)/p
theorem KeyOk.say{x:Nat}(h:¬p∣x):(x%(p*p))^(p-1)%(p*p)=1+p*sayP p x∧sayP p x<p∧Cg (p*p) (x^(p-1)) (1+p*sayP p x):=by
 have hp:=k.hp.1;have e0:Cg (p*p) ((x%(p*p))^(p-1)%(p*p)) (x^(p-1)):=Cg.mod.trans (Cg.mod.pow _);have e1:Cg p ((x%(p*p))^(p-1)%(p*p)) 1:=(e0.of_dvd (Nat.dvd_mul_right p p)).trans (fermat k.hp h);have e2:=ky7 (by omega:1<p) e1;refine⟨e2,?_,?_⟩
 ·unfold sayP;rw[Nat.div_lt_iff_lt_mul (by omega)];exact Nat.mod_lt _ (Nat.mul_pos (by omega) (by omega))
 ·exact e0.symm.trans (Cg.of_eq e2)
theorem KeyOk.say_one:Cg p (sayP p (1*(p*q)+1)) (q*(p-1)):=by
 have hp:=k.hp.1
 have nd:¬p∣1*(p*q)+1:=fun d=>by
  have:p∣1:=(Nat.dvd_add_right (Nat.dvd_trans (Nat.dvd_mul_right p q) (Nat.dvd_mul_left _ _))).1 d;have:=Nat.le_of_dvd (by decide) this;omega
 obtain⟨_,_,e⟩:=k.say nd;have e1:1*(p*q)+1=1+p*q:=by omega
 rw[e1]at e⊢;exact((e.symm.trans (binom1 p q (p-1))).cancel_add).div (by omega)
theorem KeyOk.part{c m:Nat}(h:Nat.Coprime c (p*q))(d:Hid (p*q) ((p-1)*(q-1)) c m):Cg p (sayP p c) (m*sayP p (1*(p*q)+1)):=by
 have hp:=k.hp.1;obtain⟨_,_,e⟩:=k.say (k.unit h)
 have e1:Cg (p*p) (c^((p-1)*(q-1))) (1+p*(sayP p c*(q-1))):=by
  rw[Nat.pow_mul];exact(e.pow _).trans (binom1 p _ _)
 have e2:Cg (p*p) (c^((p-1)*(q-1))) (1+p*q*(m*((p-1)*(q-1)))):=d.2.of_dvd (Nat.mul_dvd_mul (Nat.dvd_mul_right p q) (Nat.dvd_mul_right p q));have e3:=(e1.symm.trans e2).cancel_add;rw[Nat.mul_assoc]at e3;have e4:=e3.div (by omega);have e5:q*(m*((p-1)*(q-1)))=m*(q*(p-1))*(q-1):=by simp only[Nat.mul_assoc,Nat.mul_comm,Nat.mul_left_comm]
 rw[e5]at e4;refine(e4.cancel k.cof).trans ?_;exact Cg.rfl.mul k.say_one.symm
theorem KeyOk.say_unit:Nat.Coprime p (sayP p (1*(p*q)+1)):=k.hp.coprime fun d=>k.ndq (by
 have e:=k.say_one;unfold Cg at e;rw[Nat.mod_eq_zero_of_dvd d]at e;exact Nat.dvd_of_mod_eq_zero e.symm)
theorem KeyOk.found{c m i:Nat}(h:Nat.Coprime c (p*q))(d:Hid (p*q) ((p-1)*(q-1)) c m)(hi:Cg p (sayP p (1*(p*q)+1)*i) 1):sayP p c*i%p=m%p:=by
 have e:=(k.part h d).mul (Cg.rfl (n:=p) (a:=i));refine e.trans ?_;rw[Nat.mul_assoc];have:=(Cg.rfl (n:=p) (a:=m)).mul hi;rwa[Nat.mul_one]at this
end
end Go.Num

/- squeezed -/
namespace Go.Num
def Least(n d:Nat):Prop:=2≤d∧d∣n∧∀e,2≤e→e∣n→d≤e
theorem Least.uniq{n d e:Nat}(a:Least n d)(b:Least n e):d=e:=Nat.le_antisymm (a.2.2 e b.1 b.2.1) (b.2.2 d a.1 a.2.1)
theorem k21{n:Nat}(h:2≤n):∃d,Least n d:=by
 have key:∀k,(∃d,d≤k∧2≤d∧d∣n)→∃d,Least n d:=by
  intro k
  induction k with
  | zero=>rintro ⟨d,h1,h2,_⟩;omega
  | succ k ih =>
   rintro ⟨d,h1,h2,h3⟩
   by_cases hk:∃e,e≤k∧2≤e∧e∣n
   ·exact ih hk
   ·refine⟨d,h2,h3,fun e he hd=>?_⟩;rcases Nat.lt_or_ge e d with h | h
    ·exact absurd ⟨e,by omega,he,hd⟩ hk
    ·exact h
 exact key n ⟨n,Nat.le_refl _,h,Nat.dvd_refl _⟩
noncomputable def leastN(n:Nat):Nat:=by
 classical
 exact if h:∃d,Least n d then h.choose else 0
theorem kiv{n d:Nat}(h:Least n d):leastN n=d:=by
 unfold leastN;have hx:∃d,Least n d:=⟨d,h⟩;rw[dif_pos hx];exact hx.choose_spec.uniq h
theorem kbf3{n:Nat}(h:2≤n):Least n (leastN n):=by
 obtain⟨d,hd⟩:=k21 h;rw[kiv hd];exact hd
theorem Least.prime{n d:Nat}(h:Least n d):IsPrime d:=⟨h.1,fun e he=>by
 rcases Nat.eq_zero_or_pos e with h0 | h0
 ·rw[h0]at he;have:=Nat.eq_zero_of_zero_dvd he;have:=h.1;omega
 ·rcases Nat.lt_or_ge e 2 with h1 | h1
  ·left;omega
  ·right
   exact Nat.le_antisymm (Nat.le_of_dvd (by have:=h.1;omega) he) (h.2.2 e h1 (Nat.dvd_trans he h.2.1))⟩
theorem kk7{n:Nat}(h:2≤n)(no:∀e,2≤e→e*e≤n→¬e∣n):Least n n:=by
 obtain⟨d,hd⟩:=k21 h;rcases Nat.lt_or_ge n (d*d)with hl | hl
 ·obtain⟨c,hc⟩:=hd.2.1
  have:c=1:=by
   rcases Nat.lt_or_ge c 2 with h2 | h2
   ·rcases Nat.eq_zero_or_pos c with h0 | h0
    ·rw[h0]at hc;omega
    ·omega
   ·have h3:=hd.2.2 c h2 ⟨d,by rw[hc,Nat.mul_comm]⟩;have:d*d≤d*c:=Nat.mul_le_mul_left _ h3;omega
  rw[this,Nat.mul_one]at hc;rw[← hc]at hd;exact hd
 ·exact absurd hd.2.1 (no d hd.1 hl)
theorem kpu{n d:Nat}(h:2≤d)(hd:d∣n)(no:∀e,2≤e→e<d→¬e∣n):Least n d:=⟨h,hd,fun e he hn=>by
 rcases Nat.lt_or_ge e d with h' | h'
 ·exact absurd hn (no e he h')
 ·exact h'⟩
theorem k09{n:Nat}(h:2≤n):leastN n=n↔IsPrime n:=by
 constructor
 ·intro e;have:=(kbf3 h).prime;rwa[e]at this
 ·intro hp;refine kiv ⟨h,Nat.dvd_refl _,fun e he hd=>?_⟩;rcases hp.2 e hd with h1 | h1<;>omega
end Go.Num

/- squeezed -/
set_option maxRecDepth 10000
namespace Go.Ab
open Go.Proofs Go.Num
section
variable{h:AH}{l i2 i3 n:Nat}
noncomputable def lnote(st:LoopState)(pe:Option Code)(n i2 i3:Nat)(g:AV):ABlk:=kcx Fx.kvd F.kcm 0 st pe [(0,.int .u64 (n:Int)),(1,.ptr (some (.new i2 0))),(2,.ptr (some (.new i3 0))),(4,.int .u64 (n:Int)),(5,g)]
noncomputable def lfin(h:AH)(l n i2 i3:Nat)(g:AV)(d:Nat):AH:=(h.upd i3 [.int .u64 (d:Int)] T.kf).setBlk l (lnote .done (some .ret) n i2 i3 g)
theorem rdU{h:AH}{i:Nat}{x:Int}{e:TypeId}(b:h.has i [.int .u64 x] e):(h.cell (.new i 0)).bind (AV.asInt .u64)=some x:=b.rd0 rfl rfl
theorem wrapSq{d:Nat}(hd:d<4294967296):IntKind.wrap .u64 ((d:Int)*(d:Int))=((d*d:Nat):Int):=by
 rw[← Int.natCast_mul,wrapU];have:d*d<18446744073709551616:=Nat.lt_of_lt_of_le (Nat.mul_lt_mul'' hd hd) (by decide);omega
theorem kns{g:AV}(hb:h.blks[l]?=some (lnote .ready none n i2 i3 g))(b2:h.has i2 [.int .u64 (n:Int)] T.kf)(b3:h.has i3 [.int .u64 0] T.kf){d:Nat}(hd:0<d) :
  go (.round l [.int .u64 (d:Int)]) h=if d∣n then some (.bool false,lfin h l n i2 i3 g d)else some (.bool true,h):=by
 have hl:l<h.blks.size:=(Array.getElem?_eq_some_iff.1 hb).1;have n2:i2≠l:=fun e=>by rw[e]at b2;rw[AH.has,hb]at b2;cases b2
 have n3:i3≠l:=fun e=>by rw[e]at b3;rw[AH.has,hb]at b3;cases b3
 rw[k9r l none _ _ _ _ _ _ _ hb,koh (h:=h) hb,Option.bind_some];generalize hq:h.setBlk l _=h';have b2':h'.has i2 [.int .u64 (n:Int)] T.kf:=by rw[AH.has,← hq,AH.setBlk_ne n2];exact b2
 have b3':h'.has i3 [.int .u64 0] T.kf:=by rw[AH.has,← hq,AH.setBlk_ne n3];exact b3
 have bl:h'.blks[l]?=some (lnote .busy none n i2 i3 g):=by rw[← hq];exact AH.setBlk_get hl
 rw[rdU b2',Option.bind_some,condF (by rw[decide_eq_false_iff_not];omega)];have hmod:Int.tmod (n:Int) (d:Int)=((n%d:Nat):Int):=rfl;rw[hmod];by_cases hdv:d∣n
 ·rw[if_pos hdv,condT (by rw[decide_eq_true_eq,Nat.mod_eq_zero_of_dvd hdv];rfl),b3'.puts_all (vs:=[AV.int .u64 (d:Int)]) rfl,Option.bind_some]
  have hb4:(h'.upd i3 [AV.int .u64 (d:Int)] T.kf).blks[l]?=some (lnote .busy none n i2 i3 g):=by
   simp only[AH.upd];rw[Array.getElem?_setIfInBounds_ne n3];exact bl
  rw[kmt hb4]
  have e:(h'.upd i3 [AV.int .u64 (d:Int)] T.kf)=(h.upd i3 [AV.int .u64 (d:Int)] T.kf).setBlk l (lnote .busy none n i2 i3 g):=by
   rw[← hq];simp only[AH.upd,AH.setBlk];rw[Array.setIfInBounds_comm _ _ n3.symm];rfl
  rw[e,AH.setBlk_setBlk];rfl
 ·rw[if_neg hdv,condF (by rw[decide_eq_false_iff_not];intro e;exact hdv (Nat.dvd_of_mod_eq_zero (by omega))),kmt bl];rw[← hq,AH.setBlk_setBlk];show some (AV.bool true,h.setBlk l (lnote .ready none n i2 i3 g))=_;rw[AH.setBlk_same hb]
def Found(h:AH)(l n i2 i3:Nat)(g:AV)(x:Option (AV×AH)):Prop:=(x=some (.tup [],h)∧Least n n)∨x=some (.tup [],lfin h l n i2 i3 g (leastN n))
theorem wheel{g:AV}(h2n:2≤n)(hn:n<1099511627776)(hb:h.blks[l]?=some (lnote .ready none n i2 i3 g))(b2:h.has i2 [.int .u64 (n:Int)] T.kf)(b3:h.has i3 [.int .u64 0] T.kf){j2:Nat}(c2:h.has j2 [.int .u64 (n:Int)] T.kf) :
  ∀k d,1048600≤d+6*k→d≤1048600→5≤d→d%6=5→(∀e,2≤e→e<d→¬e∣n)→Found h l n i2 i3 g (go (.pt F.kb1 Td.kme [(0,.func (.yield l) [] []),(1,.ptr (some (.new j2 0))),(5,.int .u64 (d:Int))]) h):=by
 intro k
 induction k with
 | zero =>
  intro d h1 h2 h5 h6 no;rw[ksu,rdU c2,Option.bind_some,wrapSq (by omega)];have:1048600*1048600≤d*d:=Nat.mul_le_mul (by omega) (by omega);rw[condF (by rw[decide_eq_false_iff_not];omega)];refine .inl ⟨rfl,kk7 h2n fun e he hee=>?_⟩
  exact no e he (by
   rcases Nat.lt_or_ge e d with h | h
   ·exact h
   ·have:d*d≤e*e:=Nat.mul_le_mul h h;omega)
 | succ k ih =>
  intro d h1 h2 h5 h6 no;rw[ksu,rdU c2,Option.bind_some,wrapSq (by omega)];by_cases hdd:d*d≤n
  ·rw[condT (by rw[decide_eq_true_eq];omega),kns hb b2 b3 (by omega)]
   have hd20:d<1048576:=by
    rcases Nat.lt_or_ge d 1048576 with h | h
    ·exact h
    ·have:1048576*1048576≤d*d:=Nat.mul_le_mul h h;omega
   by_cases hdv:d∣n
   ·rw[if_pos hdv,Option.bind_some];refine .inr ?_;rw[kiv (kpu (by omega) hdv no)];rfl
   ·rw[if_neg hdv,Option.bind_some];show Found h l n i2 i3 g (((h.cell (.new j2 0)).bind (AV.asInt .u64)).bind _);rw[rdU c2,Option.bind_some]
    have w2:IntKind.wrap .u64 ((d:Int)+2)=((d+2:Nat):Int):=by
     rw[show((d:Int)+2)=((d+2:Nat):Int)from by omega,wrapU];omega
    have w6:IntKind.wrap .u64 ((d:Int)+6)=((d+6:Nat):Int):=by
     rw[show((d:Int)+6)=((d+6:Nat):Int)from by omega,wrapU];omega
    rw[w2,w6,wrapSq (by omega)];have even:∀e,e%2=0→¬e∣n:=fun e he hv=>no 2 (by omega) (by omega) (Nat.dvd_trans (Nat.dvd_of_mod_eq_zero he) hv);have three:∀e,e%3=0→¬e∣n:=fun e he hv=>no 3 (by omega) (by omega) (Nat.dvd_trans (Nat.dvd_of_mod_eq_zero he) hv)
    have no2:∀e,2≤e→e<d+2→¬e∣n:=fun e he hl hv=>by
     rcases Nat.lt_or_ge e d with h | h
     ·exact no e he h hv
     ·rcases Nat.lt_or_ge d e with h' | h'
      ·exact even e (by omega) hv
      ·have:e=d:=by omega
       subst this;exact hdv hv
    by_cases hd2:(d+2)*(d+2)≤n
    ·rw[condT (by rw[decide_eq_true_eq];omega),kns hb b2 b3 (by omega)];by_cases hdv2:d+2∣n
     ·rw[if_pos hdv2,Option.bind_some];refine .inr ?_;rw[kiv (kpu (by omega) hdv2 no2)];rfl
     ·rw[if_neg hdv2,Option.bind_some];refine ih (d+6) (by omega) (by omega) (by omega) (by omega) fun e he hl hv=>?_;rcases Nat.lt_or_ge e (d+2)with h | h
      ·exact no2 e he h hv
      ·have:e=d+2∨e=d+3∨e=d+4∨e=d+5:=by omega
       rcases this with rfl | rfl | rfl | rfl
       ·exact hdv2 hv
       ·exact even _ (by omega) hv
       ·exact three _ (by omega) hv
       ·exact even _ (by omega) hv
    ·rw[condF (by rw[decide_eq_false_iff_not];omega)]
     have self:Least n n:=kk7 h2n fun e he hee hv=>by
      rcases Nat.lt_or_ge e (d+2)with h | h
      ·exact no2 e he h hv
      ·have:(d+2)*(d+2)≤e*e:=Nat.mul_le_mul h h;omega
     refine .inl ⟨?_,self⟩;rw[ksu,rdU c2,Option.bind_some,wrapSq (by omega)];have:(d+2)*(d+2)≤(d+6)*(d+6):=Nat.mul_le_mul (by omega) (by omega);rw[condF (by rw[decide_eq_false_iff_not];omega)]
  ·rw[condF (by rw[decide_eq_false_iff_not];omega)];refine .inl ⟨rfl,kk7 h2n fun e he hee hv=>?_⟩;rcases Nat.lt_or_ge e d with h | h
   ·exact no e he h hv
   ·have:d*d≤e*e:=Nat.mul_le_mul h h;omega
theorem small{g:AV}(h2n:2≤n)(hn:n<1099511627776)(hb:h.blks[l]?=some (lnote .ready none n i2 i3 g))(b2:h.has i2 [.int .u64 (n:Int)] T.kf)(b3:h.has i3 [.int .u64 0] T.kf){j2 j:Nat}(c2:h.has j2 [.int .u64 (n:Int)] T.kf)(cj:h.has j [.int .u64 2,.int .u64 3] T.kf) :
  Found h l n i2 i3 g (go (.pt F.kb1 Td.kip [(0,.func (.yield l) [] []),(1,.ptr (some (.new j2 0))),(6,(⟨some (.new j 0),2,.is 2⟩:Sl).v),(7,.int .i64 2),(8,.int .i64 0)]) h):=by
 have r2:=kns (d:=2) hb b2 b3 (by decide);have r3:=kns (d:=3) hb b2 b3 (by decide);have e0:idx (⟨some (.new j 0),2,.is 2⟩:Sl).ref (⟨some (.new j 0),2,.is 2⟩:Sl).len 0 1=some (.new j 0):=rfl;have e1:idx (⟨some (.new j 0),2,.is 2⟩:Sl).ref (⟨some (.new j 0),2,.is 2⟩:Sl).len 1 1=some (.new j 1):=rfl;have l0:(h.cell (Ref.new j 0)).bind (AV.asInt .u64)=some 2:=by rw[cj.cell];rfl
 have l1:(h.cell (Ref.new j 1)).bind (AV.asInt .u64)=some 3:=by rw[cj.cell];rfl
 have w4:IntKind.wrap .u64 ((2:Int)*2)=4:=by decide
 have w9:IntKind.wrap .u64 ((3:Int)*3)=9:=by decide
 have i1:IntKind.wrap .i64 ((0:Int)+1)=1:=by decide
 have i2':IntKind.wrap .i64 ((1:Int)+1)=2:=by decide
 rw[ktm,condT (show decide ((0:Int)<2)=true from rfl),e0,Option.bind_some,l0,Option.bind_some,rdU c2,Option.bind_some,w4];by_cases h4:n<4
 ·rw[condT (by rw[decide_eq_true_eq];omega)];refine .inl ⟨rfl,kk7 h2n fun e he hee=>?_⟩;have:2*2≤e*e:=Nat.mul_le_mul he he;omega
 ·rw[condF (by rw[decide_eq_false_iff_not];omega),show(2:Int)=((2:Nat):Int)from rfl,r2];by_cases d2:2∣n
  ·rw[if_pos d2,Option.bind_some];refine .inr ?_;rw[kiv (d:=2) (kpu (by decide) d2 fun e h1 h2=>by omega)];rfl
  ·rw[if_neg d2,Option.bind_some];show Found h l n i2 i3 g (go (.pt F.kb1 Td.kip [(0,.func (.yield l) [] []),(1,.ptr (some (.new j2 0))),(6,(⟨some (.new j 0),2,.is 2⟩:Sl).v),(7,.int .i64 2),(8,.int .i64 (IntKind.wrap .i64 ((0:Int)+1)))]) h);rw[i1,ktm,condT (show decide ((1:Int)<2)=true from rfl),e1,Option.bind_some,l1,Option.bind_some,rdU c2,Option.bind_some,w9];by_cases h9:n<9
   ·rw[condT (by rw[decide_eq_true_eq];omega)];refine .inl ⟨rfl,kk7 h2n fun e he hee=>?_⟩;rcases Nat.lt_or_ge e 3 with h | h
    ·have:e=2:=by omega
     subst this;exact d2
    ·have:3*3≤e*e:=Nat.mul_le_mul h h;omega
   ·rw[condF (by rw[decide_eq_false_iff_not];omega),show(3:Int)=((3:Nat):Int)from rfl,r3];by_cases d3:3∣n
    ·rw[if_pos d3,Option.bind_some];refine .inr ?_
     have d23:∀e,2≤e→e<3→¬e∣n:=fun e h1 h2=>by
      have:e=2:=by omega
      subst this;exact d2
     rw[kiv (d:=3) (kpu (by decide) d3 d23)];rfl
    ·rw[if_neg d3,Option.bind_some];show Found h l n i2 i3 g (go (.pt F.kb1 Td.kip [(0,.func (.yield l) [] []),(1,.ptr (some (.new j2 0))),(6,(⟨some (.new j 0),2,.is 2⟩:Sl).v),(7,.int .i64 2),(8,.int .i64 (IntKind.wrap .i64 ((1:Int)+1)))]) h);rw[i2',ktm,condF (show decide ((2:Int)<2)=false from rfl)];refine wheel h2n hn hb b2 b3 c2 174766 5 (by omega) (by omega) (by omega) (by omega) fun e h1 h2 hv=>?_;have:e=2∨e=3∨e=4:=by omega
     rcases this with rfl | rfl | rfl
     ·exact d2 hv
     ·exact d3 hv
     ·exact d2 (Nat.dvd_trans (by decide) hv)
end
theorem a_none{a1:Int}{a2 a3:Ref}{a4:Int}{a5:AV}{h:AH}:go (.pt F.kcm (((none:Option Code).map Item.code).toList++Ta.kl9) [(0,.int .u64 a1),(1,.ptr (some a2)),(2,.ptr (some a3)),(4,.int .u64 a4),(5,a5)]) h =
 ((h.cell a2).bind (AV.asInt .u64)).bind fun n6=>(h.puts a3 [.int .u64 n6]).bind fun h7=>((h7.cell a3).bind (AV.asInt .u64)).bind fun n8=>some (.int .u64 n8,h7):=kbd8 a1 a2 a3 a4 a5 h
theorem kbbw{n:Nat}(h2n:2≤n)(hn:n<1099511627776)(h:AH):Runs (go (.fn F.kcm [.int .u64 (n:Int)]) h) fun v h'=>v=.int .u64 ((leastN n:Nat):Int)∧Grow h h':=by
 rw[kbcq];refine Runs.new fun h1 b1 g1=>Runs.new fun h2 b2 g2=>?_;have b1':=g2.has b1;refine Runs.step (rdU b1') ?_;rw[k6c];show Runs (newK h2 (.cells [.int .u64 (n:Int)] T.kf) fun h2r h3=>go (.pt F.kcm Tr.ksc [(0,.int .u64 (n:Int)),(1,.ptr (some (.new h.blks.size 0))),(2,.ptr (some (.new h1.blks.size 0))),(4,.int .u64 (n:Int)),(5,.func (.func F.kb1) [] [.ptr (some h2r)])]) h3) _;refine Runs.new fun h3 b3 g3=>?_;rw[kbgu,knp];refine Runs.newM fun h4 hb g4=>?_;rw[kbb5];have c1:h4.has h.blks.size [.int .u64 (n:Int)] T.kf:=g4.has (g3.has b1');have c2:h4.has h1.blks.size [.int .u64 0] T.kf:=g4.has (g3.has b2);have c3:h4.has h2.blks.size [.int .u64 (n:Int)] T.kf:=g4.has b3;have hs1:h.blks.size<h1.blks.size:=b1.lt;have hs2:h1.blks.size<h2.blks.size:=b2.lt;have hs3:h2.blks.size<h3.blks.size:=b3.lt;have hs4:h3.blks.size<h4.blks.size:=(Array.getElem?_eq_some_iff.1 hb).1;have gA:Grow h h4:=((g1.trans g2).trans g3).trans g4;generalize hg:(AV.func (.func F.kb1) [] [AV.ptr (some (Ref.new h2.blks.size 0))])=gv at hb;show Runs ((go (.fn F.kb1 [.func (.yield h3.blks.size) [] [],.ptr (some (.new h2.blks.size 0))]) h4).bind _) _;rw[k85];generalize hK:(fun q8:AV×AH=>(kc2 h3.blks.size q8.2).bind fun p9=>go (.pt F.kcm ((p9.1.map Item.code).toList++Ta.kl9) [(0,.int .u64 (n:Int)),(1,.ptr (some (.new h.blks.size 0))),(2,.ptr (some (.new h1.blks.size 0))),(4,.int .u64 (n:Int)),(5,gv)]) p9.2)=K;show Runs ((newK h4 (.cells [.int .u64 2,.int .u64 3] T.kf) fun h3r h5=>(go (.pt F.kb1 Td.kip [(0,.func (.yield h3.blks.size) [] []),(1,.ptr (some (.new h2.blks.size 0))),(6,(⟨some h3r,2,.is 2⟩:Sl).v),(7,.int .i64 2),(8,.int .i64 0)]) h5).bind K)) _;refine Runs.new fun h5 b5 g5=>?_;have hb5:h5.blks[h3.blks.size]?=some (lnote .ready none n h.blks.size h1.blks.size gv):=(g5.blk _ hs4).trans hb;have gB:=gA.trans g5;rcases small h2n hn hb5 (g5.has c1) (g5.has c2) (g5.has c3) b5 with⟨e,hl⟩ | e
 ·rw[e,← hK];show Runs ((kc2 h3.blks.size h5).bind _) _;rw[kp6 hb5,Option.bind_some,a_none];have d1:(h5.setBlk h3.blks.size .dead).has h.blks.size [.int .u64 (n:Int)] T.kf:=by rw[AH.has,AH.setBlk_ne (by omega)];exact g5.has c1
  have d2:(h5.setBlk h3.blks.size .dead).has h1.blks.size [.int .u64 0] T.kf:=by rw[AH.has,AH.setBlk_ne (by omega)];exact g5.has c2
  refine Runs.step (rdU d1) (Runs.puts d2 rfl fun h6 b6 u6=>Runs.step (rdU b6) (Runs.ret ⟨by rw[kiv hl],?_⟩));exact(gB.setBlk (l:=h3.blks.size) (by omega) .dead).updr (by omega) u6
 ·rw[e,← hK];have f1:(lfin h5 h3.blks.size n h.blks.size h1.blks.size gv (leastN n)).blks[h3.blks.size]?=some (lnote .done (some .ret) n h.blks.size h1.blks.size gv):=AH.setBlk_get (by simp only[AH.upd];simp;exact(Array.getElem?_eq_some_iff.1 hb5).1);show Runs ((kc2 h3.blks.size _).bind _) _;rw[kbk2 f1,Option.bind_some,kbg3]
  have f2:((lfin h5 h3.blks.size n h.blks.size h1.blks.size gv (leastN n)).setBlk h3.blks.size .dead).has h1.blks.size [.int .u64 ((leastN n:Nat):Int)] T.kf:=by
   rw[AH.has,AH.setBlk_ne (by omega)];unfold lfin;rw[AH.setBlk_ne (by omega)];exact AH.has_upd (g5.has c2) _ _
  refine Runs.step (rdU f2) (Runs.ret ⟨rfl,?_⟩);exact((gB.upd (by omega) _ _).setBlk (by omega) _).setBlk (by omega) _
end Go.Ab

/- squeezed -/
set_option maxRecDepth 10000
namespace Go.Ab
open Go.Proofs Go.Num
theorem k9b{a:Int}{h:AH}(c:(2:Int)≤a∧a<1099511627776):Runs (go (.fn F.kcm [.int .u64 a]) h) fun v h'=>v=.int .u64 ((leastN (Int.toNat a):Nat):Int)∧Grow h h':=by
 obtain⟨x,rfl⟩:∃x:Nat,a=(x:Int):=⟨a.toNat,by omega⟩;exact kbbw (by omega) (by omega) h
inductive kjo
 | fn (a1:Int)
 | no
abbrev kgj:=Bool
noncomputable def klo(a1:Int):Option (kjo⊕kgj) :=
 cond (decide (a1<128)) (some (.inr true)) (cond (decide (a1≥1099511627776)) (some (.inr true)) ((need ((2:Int)≤a1∧a1<1099511627776)).bind fun c4_0=>some (.inr (!decide ((((leastN (Int.toNat a1):Nat):Int))=a1)))))
noncomputable def k25:kjo→Option (kjo⊕kgj)
 | .fn a1=>klo a1
 | .no=>none
@[reducible] def k01(h0:AH)(r:kgj)(v:AV)(h':AH):Prop:=v=.bool r∧Grow h0 h'
def kuq(r:kgj):kjo→Prop
 | .fn a1=>∀{h:AH},Runs (go (.fn F.kj4 [.int .u64 a1]) h) (k01 h r)
 | .no=>True
theorem kbes{r:kgj}{o:kjo⊕kgj}{a1:Int}(e:klo a1=some o)(good:GoodS (kuq r) r o):kuq r (.fn a1):=by
 intro h;rw[k3l];unfold klo at e;refine Runs.cond (fun k2=>?_) (fun k2=>?_)
 ·replace e:=(condT k2).symm.trans e;cases e;cases good;exact Runs.ret ⟨rfl,(Grow.refl _)⟩
 ·replace e:=(condF k2).symm.trans e;refine Runs.cond (fun k3=>?_) (fun k3=>?_)
  ·replace e:=(condT k3).symm.trans e;cases e;cases good;exact Runs.ret ⟨rfl,(Grow.refl _)⟩
  ·replace e:=(condF k3).symm.trans e;obtain⟨c4_0,q4_0,e⟩:=Option.bind_eq_some_iff.1 e;obtain⟨_,H4,e4,rfl,g4⟩:=k9b  c4_0.down;refine Runs.step e4 ?_;refine Runs.step (seen (kc _ _)) ?_;cases e;cases good;exact Runs.ret ⟨rfl,g4⟩
theorem k79{s:kjo}{r:kgj}(it:Iter k25 s r):kuq r s:=Iter.ind (fun s o e good=>by
 cases s with
 | fn a1=>exact @kbes _ _ a1 e good
 | no=>exact True.intro
 ) it
theorem kbf5{h:AH}{a1:Int}  {r:kgj}(q:runP k25 (.fn a1)=some r):Runs (go (.fn F.kj4 [.int .u64 a1]) h) (k01 h r):=k79 (kdc q)
end Go.Ab

/- squeezed -/
set_option maxRecDepth 10000
namespace Go.Ab
open Go.Proofs Go.Num
noncomputable def oddF(a:Int):Bool:=cond (decide (a<128)) true (cond (decide (a≥1099511627776)) true (!decide (((leastN (Int.toNat a):Nat):Int)=a)))
theorem k0i{h:AH}(a:Int):Runs (go (.fn F.kj4 [.int .u64 a]) h) fun v h'=>v=.bool (oddF a)∧Grow h h':=kbf5 (kcw (.done (by
 show klo a=_;unfold klo oddF;by_cases h1:a<128
 ·rw[decide_eq_true h1];rfl
 ·rw[decide_eq_false h1];by_cases h2:a≥1099511627776
  ·rw[decide_eq_true h2];rfl
  ·rw[decide_eq_false h2,ki (by omega)];rfl)))
end Go.Ab

/- squeezed -/
set_option maxRecDepth 10000
namespace Go.Ab
open Go.Proofs Go.Num
inductive kjb
 | fn (a1:Int) (a2:Int)
 | no
abbrev kg6:=Int
noncomputable def kmz(a1 a2:Int):Option (kjb⊕kg6) :=
 cond (((oddF a1))) (some (.inr 9)) (cond (((oddF a2))) (some (.inr 9)) (cond (decide (a1=a2)) (some (.inr 9)) ((need (0≤a1∧a1<18446744073709551616)).bind fun c9_0=>(need (0≤a2∧a2<18446744073709551616)).bind fun c10_0=>cond (!decide ((((bl (Int.toNat a1):Nat):Int))=(((bl (Int.toNat a2):Nat):Int)))) (some (.inr 9)) ((u64P a1).bind fun w16=>(u64P a2).bind fun w17=>(u64P (IntKind.wrap .u64 (a1-1))).bind fun w23=>(u64P (IntKind.wrap .u64 (a2-1))).bind fun w24=>(u64P 1).bind fun w30=>cond (!decide ((cmpN ((gcdN ((mulN [w16] [w17]).1) ((mulN [w23] [w24]).1)).1) [w30])=0)) (some (.inr 9)) (some (.inr 0))))))
noncomputable def kry:kjb→Option (kjb⊕kg6)
 | .fn a1 a2=>kmz a1 a2
 | .no=>none
@[reducible] def ksp(h0:AH)(r:kg6)(v:AV)(h':AH):Prop:=v=.int .i64 r∧Grow h0 h'
def ktf(r:kg6):kjb→Prop
 | .fn a1 a2=>∀{h:AH},Runs (go (.fn F.klp [.agg [.int .u64 a1,.int .u64 a2]]) h) (ksp h r)
 | .no=>True
theorem kbcw{r:kg6}{o:kjb⊕kg6}{a1 a2:Int}(e:kmz a1 a2=some o)(good:GoodS (ktf r) r o):ktf r (.fn a1 a2):=by
 intro h;rw[kbak];unfold kmz at e;refine Runs.new fun H3 b3 g3=>?_;refine Runs.step (AH.has.rd b3 0 rfl (kc _ _)) ?_;obtain⟨_,H4,e4,rfl,g4⟩:=k0i a1;refine Runs.step e4 ?_;refine Runs.step (seen rfl) ?_;refine Runs.cond (fun k5=>?_) (fun k5=>?_)
 ·replace e:=(condT k5).symm.trans e;cases e;cases good;exact Runs.ret ⟨rfl,(g3.trans g4)⟩
 ·replace e:=(condF k5).symm.trans e;refine Runs.step (AH.has.rd (g4.has b3) 1 rfl (kc _ _)) ?_;obtain⟨_,H6,e6,rfl,g6⟩:=k0i a2;refine Runs.step e6 ?_;refine Runs.step (seen rfl) ?_;refine Runs.cond (fun k7=>?_) (fun k7=>?_)
  ·replace e:=(condT k7).symm.trans e;cases e;cases good;have G8:=((g3.trans g4).trans g6);exact Runs.ret ⟨rfl,G8⟩
  ·replace e:=(condF k7).symm.trans e;refine Runs.step (AH.has.rd ((g4.trans g6).has b3) 0 rfl (kc _ _)) ?_;refine Runs.step (AH.has.rd ((g4.trans g6).has b3) 1 rfl (kc _ _)) ?_;refine Runs.cond (fun k8=>?_) (fun k8=>?_)
   ·replace e:=(condT k8).symm.trans e;cases e;cases good;have G9:=((g3.trans g4).trans g6);exact Runs.ret ⟨rfl,G9⟩
   ·replace e:=(condF k8).symm.trans e;refine Runs.step (AH.has.rd ((g4.trans g6).has b3) 0 rfl (kc _ _)) ?_;refine Runs.step (AH.has.rd ((g4.trans g6).has b3) 1 rfl (kc _ _)) ?_;obtain⟨c9_0,q9_0,e⟩:=Option.bind_eq_some_iff.1 e;refine Runs.step (kus  c9_0.down) ?_;refine Runs.step (seen (kc _ _)) ?_;refine Runs.when ((Grow.refl _).same ((g4.trans g6).has b3) 1 1) ?_;obtain⟨c10_0,q10_0,e⟩:=Option.bind_eq_some_iff.1 e;refine Runs.step (kus  c10_0.down) ?_;refine Runs.step (seen (kc _ _)) ?_;refine Runs.cond (fun k11=>?_) (fun k11=>?_)
    ·replace e:=(condT k11).symm.trans e;cases e;cases good;have G12:=((g3.trans g4).trans g6);exact Runs.ret ⟨rfl,G12⟩
    ·replace e:=(condF k11).symm.trans e;refine Runs.step (AH.has.rd ((g4.trans g6).has b3) 0 rfl (kc _ _)) ?_;refine Runs.new fun H12 b12 g12=>?_;have G13:=((g4.trans g6).trans g12);have b3_14:=G13.has b3;refine Runs.step (AH.has.rd b3_14 1 rfl (kc _ _)) ?_;refine Runs.new fun H15 b15 g15=>?_;obtain⟨w16,z16,e⟩:=Option.bind_eq_some_iff.1 e;obtain⟨w17,z17,e⟩:=Option.bind_eq_some_iff.1 e;obtain⟨s18,H18,e18,n18,g18,o18⟩:=kek (Nats.of_has1 (g15.has b12) z16) (Nats.of_has1 b15 z17);refine Runs.step e18 ?_;refine Runs.step rfl ?_;refine Runs.step (seen (asSl_v _)) ?_;refine Runs.step (seen (kc _ _)) ?_;refine Runs.step (AH.has.rd ((g15.trans g18).has b3_14) 0 rfl (kc _ _)) ?_;refine Runs.new fun H19 b19 g19=>?_;have G20:=((g15.trans g18).trans g19);have b3_21:=G20.has b3_14;refine Runs.step (AH.has.rd b3_21 1 rfl (kc _ _)) ?_;refine Runs.new fun H22 b22 g22=>?_;obtain⟨w23,z23,e⟩:=Option.bind_eq_some_iff.1 e;obtain⟨w24,z24,e⟩:=Option.bind_eq_some_iff.1 e;obtain⟨s25,H25,e25,n25,g25,o25⟩:=kek (Nats.of_has1 (g22.has b19) z23) (Nats.of_has1 b22 z24);refine Runs.step e25 ?_;refine Runs.step rfl ?_;refine Runs.step (seen (asSl_v _)) ?_;refine Runs.step (seen (kc _ _)) ?_;have G26:=((g19.trans g22).trans g25);have n18_27:=n18.grow G26;obtain⟨_,H28,e28,s28,rfl,n28,g28,o28⟩:=kyo n18_27 n25;refine Runs.step e28 ?_;refine Runs.step rfl ?_;refine Runs.step (seen (asSl_v _)) ?_;refine Runs.step (seen (kc _ _)) ?_;refine Runs.new fun H29 b29 g29=>?_;obtain⟨w30,z30,e⟩:=Option.bind_eq_some_iff.1 e;obtain⟨H31,e31,g31⟩:=kef (n28.grow g29) (Nats.of_has1 b29 z30);refine Runs.step e31 ?_;refine Runs.step (seen (kc _ _)) ?_;refine Runs.cond (fun k32=>?_) (fun k32=>?_)
     ·replace e:=(condT k32).symm.trans e;cases e;cases good;have G33:=(((((((((((g3.trans g4).trans g6).trans g12).trans g15).trans g18).trans g19).trans g22).trans g25).trans g28).trans g29).trans g31);exact Runs.ret ⟨rfl,G33⟩
     ·replace e:=(condF k32).symm.trans e;cases e;cases good;have G33:=(((((((((((g3.trans g4).trans g6).trans g12).trans g15).trans g18).trans g19).trans g22).trans g25).trans g28).trans g29).trans g31);exact Runs.ret ⟨rfl,G33⟩
theorem kbgo{s:kjb}{r:kg6}(it:Iter kry s r):ktf r s:=Iter.ind (fun s o e good=>by
 cases s with
 | fn a1 a2=>exact @kbcw _ _ a1 a2 e good
 | no=>exact True.intro
 ) it
theorem k72{h:AH}{a1 a2:Int}  {r:kg6}(q:runP kry (.fn a1 a2)=some r):Runs (go (.fn F.klp [.agg [.int .u64 a1,.int .u64 a2]]) h) (ksp h r):=kbgo (kdc q)
end Go.Ab

/- squeezed -/
set_option maxRecDepth 10000
namespace Go.Ab
open Go.Proofs Go.Num
theorem kfg{x:Nat}(h0:0<x)(h:x<B):digs B x=[x]:=by
 rw[ket B2 (by omega),Nat.mod_eq_of_lt h,Nat.div_eq_of_lt h,kbp]
theorem krd{x:Nat}(h0:0<x)(h:x<B):rt [x]=true:=by
 rw[← kfg h0 h];exact kp (Nat.lt_of_lt_of_le h (by decide))
theorem ke6{a:Nat}(h:a<1099511627776):a<B^30:=Nat.lt_of_lt_of_le h (by decide)
noncomputable def badF(a b:Int):Bool:=oddF a||(oddF b||(decide (a=b)||(!decide (bl a.toNat=bl b.toNat)||!decide (Nat.gcd (a.toNat*b.toNat) ((a.toNat-1)*(b.toNat-1))=1))))
noncomputable def keyF(a b:Int):Int:=cond (badF a b) 9 0
theorem kpo{a:Int}(h:oddF a=false):∃p:Nat,a=(p:Int)∧128≤p∧p<1099511627776∧leastN p=p:=by
 unfold oddF at h;by_cases h1:a<128
 ·rw[decide_eq_true h1]at h;cases h
 ·rw[decide_eq_false h1,cond_false]at h;by_cases h2:a≥1099511627776
  ·rw[decide_eq_true h2]at h;cases h
  ·rw[decide_eq_false h2,cond_false]at h;have h3:((leastN (Int.toNat a):Nat):Int)=a:=by simpa using h
   exact⟨a.toNat,by omega,by omega,by omega,by omega⟩
theorem B40:(1099511627776:Nat)<B:=by decide
theorem kbd5{p q:Nat}(hp:128≤p)(hp2:p<1099511627776)(hq:128≤q)(hq2:q<1099511627776) :
  (gcdN ((mulN [p] [q]).1) ((mulN [p-1] [q-1]).1)).1=digs B (Nat.gcd (p*q) ((p-1)*(q-1))):=by
 have b40:=B40;have lt:∀{a b:Nat},a<1099511627776→b<1099511627776→a*b<B^2:=fun ha hb=>Nat.lt_of_lt_of_le (Nat.mul_lt_mul'' ha hb) (by decide)
 have e1:mulN [p] [q]=(digs B (p*q),0):=by
  rw[← kfg (x:=p) (by omega) (by omega),← kfg (x:=q) (by omega) (by omega),kf0 (ke6 hp2) (ke6 hq2)]
 have e2:mulN [p-1] [q-1]=(digs B ((p-1)*(q-1)),0):=by
  rw[← kfg (x:=p-1) (by omega) (by omega),← kfg (x:=q-1) (by omega) (by omega),kf0 (ke6 (by omega)) (ke6 (by omega))]
 have r1:rt (digs B (p*q))=true:=kp (Nat.lt_of_lt_of_le (lt hp2 hq2) (Nat.pow_le_pow_right (by decide) (by decide)));have r2:rt (digs B ((p-1)*(q-1)))=true:=kp (Nat.lt_of_lt_of_le (lt (by omega) (by omega)) (Nat.pow_le_pow_right (by decide) (by decide)));rw[e1,e2];unfold gcdN;rw[if_pos ⟨r1,r2⟩,kg B2,kg B2]
theorem gcd_lt{p q:Nat}(hp:128≤p)(hp2:p<1099511627776)(hq:128≤q)(hq2:q<1099511627776):Nat.gcd (p*q) ((p-1)*(q-1))<B^64:=by
 have h1:Nat.gcd (p*q) ((p-1)*(q-1))≤p*q:=Nat.gcd_le_left _ (Nat.mul_pos (by omega) (by omega));have h2:p*q<1099511627776*1099511627776:=Nat.mul_lt_mul'' hp2 hq2;exact Nat.lt_of_le_of_lt h1 (Nat.lt_of_lt_of_le h2 (by decide))
theorem kx7{g:Nat}(h:g<B^64):decide (cmpN (digs B g) [1]=0)=decide (g=1):=by
 rw[khm (kp h) (by decide),kg B2];have:num B [1]=1:=by decide
 rw[this,decide_eq_decide];unfold cmp;split
 ·omega
 ·split<;>omega
theorem ktw{p:Nat}(h1:1≤p)(h:p<B):IntKind.wrap .u64 ((p:Int)-1)=((p-1:Nat):Int):=by
 have e:((p:Int)-1)=((p-1:Nat):Int):=by omega
 rw[e,wrapU];have:p-1<18446744073709551616:=Nat.lt_of_le_of_lt (Nat.sub_le _ _) h;omega
theorem u64P_B{p:Nat}(h:p<B):u64P (p:Int)=some p:=kbf h
theorem kbeg(a b:Int):Iter kry (.fn a b) (keyF a b):=by
 refine .done ?_;show kmz a b=_;unfold kmz keyF badF;cases ha:oddF a
 case true=>rfl
 cases hb:oddF b
 case true=>rfl
 obtain⟨p,rfl,p1,p2,p3⟩:=kpo ha;obtain⟨q,rfl,q1,q2,q3⟩:=kpo hb;have b40:=B40;rw[cond_false,cond_false,Bool.false_or,Bool.false_or];cases hpq:decide ((p:Int)=(q:Int))
 case true=>rfl
 rw[cond_false,Bool.false_or,ki (by omega),Option.bind_some,ki (by omega),Option.bind_some,Int.toNat_natCast,Int.toNat_natCast];have e1:decide (((bl p:Nat):Int)=((bl q:Nat):Int))=decide (bl p=bl q):=by rw[decide_eq_decide];omega
 rw[e1];cases hl:decide (bl p=bl q)
 case false=>rfl
 rw[Bool.not_true,cond_false,Bool.false_or,u64P_B (by omega),Option.bind_some,u64P_B (by omega),Option.bind_some,ktw (by omega) (by omega),ktw (by omega) (by omega),u64P_B (by omega),Option.bind_some,u64P_B (by omega),Option.bind_some,show u64P 1=some 1 from rfl,Option.bind_some,kbd5 p1 p2 q1 q2,kx7 (gcd_lt p1 p2 q1 q2)];cases decide (Nat.gcd (p*q) ((p-1)*(q-1))=1)<;>rfl
theorem k46{h:AH}(a b:Int):Runs (go (.fn F.klp [.agg [.int .u64 a,.int .u64 b]]) h) (ksp h (keyF a b)):=k72 (kcw (kbeg a b))
end Go.Ab

/- squeezed -/
set_option maxRecDepth 10000
namespace Go.Ab
open Go.Proofs Go.Num
inductive kke
 | fn (a1:Int) (a2:Int)
 | no
abbrev kg5:=List Nat×Int
noncomputable def kmu(a1 a2:Int):Option (kke⊕kg5) :=
 cond (!decide (((keyF a1 a2))=0)) (some (.inr ([],((keyF a1 a2))))) ((u64P a1).bind fun w8=>(u64P a2).bind fun w9=>some (.inr ((mulN [w8] [w9]).1,((mulN [w8] [w9]).2))))
noncomputable def ks2:kke→Option (kke⊕kg5)
 | .fn a1 a2=>kmu a1 a2
 | .no=>none
@[reducible] def ksm(h0:AH)(r:kg5)(v:AV)(h':AH):Prop:=∃s1:Sl,v=.tup [s1.v,.int .i64 r.2]∧Nats h' s1 r.1∧Grow h0 h'∧Own h0 s1
def krp(r:kg5):kke→Prop
 | .fn a1 a2=>∀{h:AH},Runs (go (.fn F.kjd [.agg [.int .u64 a1,.int .u64 a2]]) h) (ksm h r)
 | .no=>True
theorem kbjp{r:kg5}{o:kke⊕kg5}{a1 a2:Int}(e:kmu a1 a2=some o)(good:GoodS (krp r) r o):krp r (.fn a1 a2):=by
 intro h;rw[kbay];unfold kmu at e;refine Runs.new fun H3 b3 g3=>?_;refine Runs.step (AH.has.rd b3 0 rfl (kc _ _)) ?_;refine Runs.step (AH.has.rd b3 1 rfl (kc _ _)) ?_;obtain⟨_,H4,e4,rfl,g4⟩:=k46 a1 a2;refine Runs.step e4 ?_;refine Runs.step (seen (kc _ _)) ?_;refine Runs.cond (fun k5=>?_) (fun k5=>?_)
 ·replace e:=(condT k5).symm.trans e;cases e;cases good;exact Runs.ret ⟨(⟨none,0,.is 0⟩:Sl),rfl,(Nats.nil _),(g3.trans g4),(Own.nil _)⟩
 ·replace e:=(condF k5).symm.trans e;refine Runs.step (AH.has.rd (g4.has b3) 0 rfl (kc _ _)) ?_;refine Runs.new fun H6 b6 g6=>?_;refine Runs.step (AH.has.rd ((g4.trans g6).has b3) 1 rfl (kc _ _)) ?_;refine Runs.new fun H7 b7 g7=>?_;obtain⟨w8,z8,e⟩:=Option.bind_eq_some_iff.1 e;obtain⟨w9,z9,e⟩:=Option.bind_eq_some_iff.1 e;obtain⟨s10,H10,e10,n10,g10,o10⟩:=kek (Nats.of_has1 (g7.has b6) z8) (Nats.of_has1 b7 z9);refine Runs.step e10 ?_;refine Runs.step rfl ?_;refine Runs.step (seen (asSl_v _)) ?_;refine Runs.step (seen (kc _ _)) ?_;cases e;cases good;have G11:=(((g3.trans g4).trans g6).trans g7);have G12:=(G11.trans g10);exact Runs.ret ⟨s10,rfl,n10,G12,(o10.of_le G11)⟩
theorem kbbt{s:kke}{r:kg5}(it:Iter ks2 s r):krp r s:=Iter.ind (fun s o e good=>by
 cases s with
 | fn a1 a2=>exact @kbjp _ _ a1 a2 e good
 | no=>exact True.intro
 ) it
theorem kbip{h:AH}{a1 a2:Int}  {r:kg5}(q:runP ks2 (.fn a1 a2)=some r):Runs (go (.fn F.kjd [.agg [.int .u64 a1,.int .u64 a2]]) h) (ksm h r):=kbbt (kdc q)
end Go.Ab

/- squeezed -/
set_option maxRecDepth 10000
namespace Go.Ab
open Go.Proofs Go.Num
noncomputable def pubF(a b:Int):List Nat×Int:=cond (badF a b) ([],9) (digs B (a.toNat*b.toNat),0)
theorem kr9{a b:Int}(h:badF a b=false):∃p q:Nat,a=(p:Int)∧b=(q:Int)∧128≤p∧p<1099511627776∧leastN p=p∧128≤q∧q<1099511627776∧leastN q=q∧p≠q∧bl p=bl q∧Nat.gcd (p*q) ((p-1)*(q-1))=1:=by
 unfold badF at h;rw[Bool.or_eq_false_iff,Bool.or_eq_false_iff,Bool.or_eq_false_iff,Bool.or_eq_false_iff]at h;obtain⟨ha,hb,hne,hl,hg⟩:=h;obtain⟨p,rfl,p1,p2,p3⟩:=kpo ha;obtain⟨q,rfl,q1,q2,q3⟩:=kpo hb;refine⟨p,q,rfl,rfl,p1,p2,p3,q1,q2,q3,?_,?_,?_⟩
 ·intro e;subst e;simp at hne
 ·simpa using hl
 ·simpa using hg
theorem kbev{p q:Nat}(hp:128≤p)(hp2:p<1099511627776)(hq:128≤q)(hq2:q<1099511627776):mulN [p] [q]=(digs B (p*q),0):=by
 have b40:=B40;rw[← kfg (x:=p) (by omega) (by omega),← kfg (x:=q) (by omega) (by omega),kf0 (ke6 hp2) (ke6 hq2)]
theorem k5e(a b:Int):Iter ks2 (.fn a b) (pubF a b):=by
 refine .done ?_;show kmu a b=_;unfold kmu keyF pubF;cases hb:badF a b
 ·obtain⟨p,q,rfl,rfl,p1,p2,-,q1,q2,-,-,-,-⟩:=kr9 hb;have b40:=B40;rw[cond_false,condF (show(!decide ((0:Int)=0))=false from rfl),u64P_B (by omega),Option.bind_some,u64P_B (by omega),Option.bind_some,kbev p1 p2 q1 q2];rfl
 ·rfl
theorem kw1{h:AH}(a b:Int):Runs (go (.fn F.kjd [.agg [.int .u64 a,.int .u64 b]]) h) (ksm h (pubF a b)):=kbip (kcw (k5e a b))
end Go.Ab

/- squeezed -/
set_option maxRecDepth 10000
namespace Go.Ab
open Go.Proofs Go.Num
end Go.Ab

/- squeezed -/
set_option maxRecDepth 10000
namespace Go.Ab
open Go.Proofs Go.Num
end Go.Ab

/- squeezed -/
set_option maxRecDepth 10000
namespace Go.Ab
open Go.Proofs Go.Num
def RingAt(h:AH)(j N:Nat):Prop:=∃(v:Nat)(s0 s2 s3:Sl),RingOk N (digs B N).length v∧h.has j [s0.v,.int .u64 (v:Int),s2.v,s3.v] T.kco∧Nats h s0 (digs B N)∧Nats h s2 (form N (digs B N).length 1)∧
 Nats h s3 (digs B (2^(64*(digs B N).length)*2^(64*(digs B N).length)%N))
theorem RingAt.grow{h h':AH}{j N:Nat}(r:RingAt h j N)(g:Grow h h'):RingAt h' j N:=by
 obtain⟨v,s0,s2,s3,a,b,c,d,e⟩:=r;exact⟨v,s0,s2,s3,a,g.has b,c.grow g,d.grow g,e.grow g⟩
theorem kbji{h:AH}{s:Sl}{N:Nat}(n:Nats h s (digs B N))(h8:N<B^8)(h1:1<N)(ho:N%2=1):Runs (go (.fn F.kew [s.v]) h) fun w h'=>∃j,w=.tup [.ptr (some (.new j 0)),.int .i64 0]∧RingAt h' j N∧Grow h h':=by
 have hn:num B (digs B N)=N:=kg B2 _;have l8:(digs B N).length≤8:=(kbb B2 _ 8).2 h8;obtain⟨_,h2,e2,j,v,s0,s2,s3,rfl,v1,v2,b,m0,m2,m3,g2⟩:=k9s n (kp (Nat.lt_of_lt_of_le h8 (Nat.pow_le_pow_right (by decide) (by decide)))) (fun e=>by rw[List.length_eq_zero_iff]at e;have:=(kep B2).1 e;omega) l8 (by rw[hn];exact ho) (by rw[hn];exact h1);refine⟨_,h2,e2,j,rfl,⟨v,s0,s2,s3,?_,b,m0,?_,?_⟩,g2⟩
 ·rw[hn]at v2;exact⟨by omega,by have:=num_lt B1 (kbe B2 N);rwa[hn]at this,h1,ho,v1,v2,rfl⟩
 ·rw[hn]at m2;unfold form;rw[Nat.one_mul,← B_pow2];rwa[Nat.one_mul]at m2
 ·rw[hn]at m3;rw[← Nat.pow_add,← Nat.two_mul,show 2*(64*(digs B N).length)=64*(2*(digs B N).length)from by omega,← B_pow2];exact m3
theorem kbh3{h:AH}{j N A:Nat}(r:RingAt h j N)(hA:A<N){t u:Sl}{es:List Nat}(n:Nats h t (digs B A))(m:Nats h u es)(re:rt es=true)(h8:es.length≤8) :
  Runs (go (.fn F.kb7 [.ptr (some (.new j 0)),t.v,u.v]) h) fun w h'=>∃s':Sl,w=.tup [s'.v,.int .i64 0]∧Nats h' s' (digs B (A^num B es%N))∧Grow h h'∧Own h s':=by
 obtain⟨v,s0,s2,s3,a,b,c,d,e⟩:=r;obtain⟨_,h3,e3,s4,rfl,n4,g4,o4⟩:=kbid b c d e n m (k91 a hA m.lt re h8);exact⟨_,h3,e3,s4,rfl,n4,g4,o4⟩
theorem kio{h:AH}{i x:Nat}{e:TypeId}(b:h.has i [.int .u64 (x:Int)] e)(hx:x<B):Nats h (⟨some (.new i 0),1,.is 1⟩:Sl) [x]:=Nats.of_has (xs:=[x]) b (by intro y hy;rw[List.mem_singleton.1 hy];exact hx) (by simp)
theorem k1e{p:Nat}(hp:0<p)(hp2:p<1099511627776):kbd [p]=digs B (p*p):=by
 unfold kbd;rw[← kfg (x:=p) hp (Nat.lt_trans hp2 B40),kf0 (ke6 hp2) (ke6 hp2)]
theorem sq_lt{p:Nat}(hp2:p<1099511627776):p*p<B^2:=Nat.lt_of_lt_of_le (Nat.mul_lt_mul'' hp2 hp2) (by decide)
theorem up64{a:Nat}(h:a<B^2):a<B^64:=Nat.lt_of_lt_of_le h (Nat.pow_le_pow_right (by decide) (by decide))
theorem kno{xs:List Nat}(lx:∀x∈xs,x<B)(hx:rt xs=true){m:Nat}(h0:0<m)(hm:m<B^64):divN xs (digs B m)=(digs B (num B xs/m),digs B (num B xs%m),0):=by
 unfold divN;rw[if_pos ⟨hx,kp hm⟩,if_neg (fun e=>by have:=(kep B2).1 e;omega),kg B2]
section
variable{h:AH}{p i2 i3 i4 j:Nat}{s:Sl}
structure SayAt(h:AH)(p i2 i3 i4 j:Nat)(s:Sl):Prop where
 b2:h.has i2 [s.v] T.kr
 n2:Nats h s [p]
 b3:h.has i3 [.ptr (some (.new j 0))] T.kq7
 ring:RingAt h j (p*p)
 b4:h.has i4 [.int .u64 (p:Int)] T.kf
theorem SayAt.grow{h':AH}(a:SayAt h p i2 i3 i4 j s)(g:Grow h h'):SayAt h' p i2 i3 i4 j s:=⟨g.has a.b2,a.n2.grow g,g.has a.b3,a.ring.grow g,g.has a.b4⟩
theorem say_is(a:SayAt h p i2 i3 i4 j s){q:Nat}(k:KeyOk p q)(p1:128≤p)(p2:p<1099511627776){t:Sl}{xs:List Nat}(n:Nats h t xs)(hx:rt xs=true)(nd:¬p∣num B xs) :
  Runs (go (.fn F.knw [t.v,.ptr (some (.new i2 0)),.ptr (some (.new i3 0)),.ptr (some (.new i4 0))]) h) fun w h'=>∃s':Sl,w=s'.v∧Nats h' s' (digs B (sayP p (num B xs)))∧Grow h h'∧Own h s':=by
 have b40:=B40;have hpp:0<p*p:=Nat.mul_pos (by omega) (by omega);rw[kbjk];refine Runs.step (a.b2.rd0 (f:=AV.asSl) rfl (asSl_v _)) ?_;obtain⟨_,h1,e1,s1,rfl,n1,g1,o1⟩:=kue a.n2;refine Runs.step e1 ?_;refine Runs.step (seen (asSl_v _)) ?_;rw[k1e (by omega) p2]at n1;obtain⟨sa,sb,h2,e2,na,nb,g2,-,-⟩:=kfu (n.grow g1) n1;rw[kno n.lt hx hpp (up64 (sq_lt p2))]at e2 na nb;have G2:=g1.trans g2;refine Runs.step e2 ?_;refine Runs.step rfl ?_;refine Runs.step (seen (asSl_v _)) ?_;refine Runs.step (seen (asSl_v _)) ?_;refine Runs.step (seen (kc _ _)) ?_;refine Runs.step ((G2.has a.b3).rd0 (f:=AV.asPtr) rfl rfl) ?_;refine Runs.step ((G2.has a.b4).rd0 (f:=AV.asInt .u64) rfl (kc _ _)) ?_;rw[ktw (by omega) (by omega)];refine Runs.new fun h3 b3 g3=>?_;have ne:Nats h3 (⟨some (.new h2.blks.size 0),1,.is 1⟩:Sl) [p-1]:=kio b3 (by omega);have G3:=G2.trans g3;obtain⟨_,h4,e4,s4,rfl,n4,g4,-⟩:=kbh3 (a.ring.grow G3) (Nat.mod_lt _ hpp) (nb.grow g3) ne (krd (by omega) (by omega)) (by simp);refine Runs.step e4 ?_;refine Runs.step rfl ?_;refine Runs.step (seen (asSl_v _)) ?_;refine Runs.step (seen (kc _ _)) ?_;refine Runs.new fun h5 b5 g5=>?_;have n1':Nats h5 (⟨some (.new h4.blks.size 0),1,.is 1⟩:Sl) [1]:=kio b5 (by decide);obtain⟨s6,h6,e6,n6,g6,-⟩:=kk5 (n4.grow g5) n1';obtain⟨u1,u2,-⟩:=k.say nd;have num1:∀y:Nat,num B [y]=y:=fun y=>by simp[num]
 rw[num1,u1]at n6 e6;generalize hy:sayP p (num B xs)=y at *
 have hu:1+p*y<B^64:=by
  have:p*y<p*p:=Nat.mul_lt_mul_of_pos_left u2 (by omega);have:=sq_lt p2
  exact Nat.lt_of_lt_of_le (show 1+p*y<B^3 from by
   have:B^2+1<B^3:=by decide
   omega) (Nat.pow_le_pow_right (by decide) (by decide))
 have es:subN (digs B (1+p*y)) [1]=(digs B (p*y),0):=by
  unfold subN;rw[if_pos ⟨kp hu,by decide⟩,kg B2,num1,if_neg (by omega),Nat.add_sub_cancel_left]
 rw[es]at n6 e6;refine Runs.step e6 ?_;refine Runs.step rfl ?_;refine Runs.step (seen (asSl_v _)) ?_;refine Runs.step (seen (kc _ _)) ?_;have G6:=((G3.trans g4).trans g5).trans g6;refine Runs.step ((G6.has a.b2).rd0 (f:=AV.asSl) rfl (asSl_v _)) ?_;have hpy:p*y<B^64:=by omega
 have np:=a.n2.grow G6;rw[← kfg (x:=p) (by omega) (by omega)]at np;obtain⟨sc,sd,h7,e7,nc,nd',g7,oc,-⟩:=kfu n6 np;rw[kno n6.lt (kp hpy) (by omega) (Nat.lt_of_lt_of_le (show p<B from by omega) (by decide)),kg B2,Nat.mul_div_cancel_left _ (show 0<p from by omega)]at e7 nc;refine Runs.step e7 ?_;refine Runs.step rfl ?_;refine Runs.step (seen (asSl_v _)) ?_;refine Runs.step (seen (asSl_v _)) ?_;refine Runs.step (seen (kc _ _)) ?_;exact Runs.ret ⟨sc,rfl,nc,G6.trans g7,oc.of_le G6⟩
end
end Go.Ab

/- squeezed -/
set_option maxRecDepth 10000
namespace Go.Ab
open Go.Proofs Go.Num
theorem kd1(y:Nat):num B [y]=y:=by simp[num]
section
variable{p q:Nat}(k:KeyOk p q)(p1:128≤p)(p2:p<1099511627776)(q2:q<1099511627776)
include k p1 p2 q2
omit k p1 in
theorem kbkc:kmc (digs B (p*q)) [1]=digs B (1*(p*q)+1):=by
 have h1:p*q<B^2:=Nat.lt_of_lt_of_le (Nat.mul_lt_mul'' p2 q2) (by decide)
 have h2:1*(p*q)+1<B^64:=by
  have:B^2+1<B^64:=by decide
  omega
 unfold kmc;rw[← khs,kf0 (by decide) (Nat.lt_of_lt_of_le h1 (Nat.pow_le_pow_right (by decide) (by decide)))];unfold addN told;rw[if_pos ⟨kp (by omega),kp (by decide)⟩,kg B2,kg B2];rw[if_pos h2]
theorem kzn{h:AH}{s t:Sl}{cs:List Nat}(nc:Nats h s cs)(nn:Nats h t (digs B (p*q)))(rc:rt cs=true)(co:Nat.Coprime (num B cs) (p*q)){m:Nat}(d:Hid (p*q) ((p-1)*(q-1)) (num B cs) m) :
  Runs (go (.fn F.kpl [s.v,t.v,.int .u64 (p:Int)]) h) fun w h'=>∃s':Sl,w=s'.v∧Nats h' s' (digs B (m%p))∧Grow h h'∧Own h s':=by
 have b40:=B40;have hpp:1<p*p:=Nat.lt_of_lt_of_le (by decide) (Nat.mul_le_mul p1 p1)
 have odd:p%2=1:=by
  rcases Nat.mod_two_eq_zero_or_one p with e | e
  ·rcases k.hp.2 2 (Nat.dvd_of_mod_eq_zero e)with h | h<;>omega
  ·exact e
 rw[kbcg];refine Runs.new fun h4 b4 g4=>?_;refine Runs.step (b4.rd0 (f:=AV.asInt .u64) rfl (kc _ _)) ?_;refine Runs.new fun h6 b6 g6=>?_;refine Runs.new fun h7 b7 g7=>?_;have l4:h.blks.size<h4.blks.size:=b4.lt;have l6:h4.blks.size<h6.blks.size:=b6.lt;have l7:h6.blks.size<h7.blks.size:=b7.lt;refine Runs.puts b7 rfl fun h8 b8 u8=>?_;have G7:=(g4.trans g6).trans g7;have G8:Grow h h8:=G7.updr (by omega) u8;have c4:h8.has h.blks.size [.int .u64 (p:Int)] T.kf:=(g7.has (g6.has b4)).updr (by omega) u8;have c6:h8.has h4.blks.size [.int .u64 (p:Int)] T.kf:=(g7.has b6).updr (by omega) u8;have l8:h7.blks.size≤h8.blks.size:=u8.size;generalize hs:(⟨some (.new h4.blks.size 0),1,.is 1⟩:Sl)=ps at *
 have np:Nats h8 ps [p]:=by rw[← hs];exact kio c6 (by omega)
 refine Runs.step (b8.rd0 (f:=AV.asSl) rfl (asSl_v _)) ?_;obtain⟨_,h9,e9,s9,rfl,n9,g9,-⟩:=kue np;refine Runs.step e9 ?_;refine Runs.step (seen (asSl_v _)) ?_;rw[k1e (by omega) p2]at n9;obtain⟨_,h10,e10,j,rfl,r10,g10⟩:=kbji n9 (Nat.lt_of_lt_of_le (sq_lt p2) (by decide)) hpp (by rw[Nat.mul_mod,odd]);refine Runs.step e10 ?_;refine Runs.step rfl ?_;refine Runs.step (seen rfl) ?_;refine Runs.step (seen (kc _ _)) ?_;refine Runs.new fun h11 b11 g11=>?_;have l11:h10.blks.size<h11.blks.size:=b11.lt;have lA:=g9.size;have lB:=g10.size
 have jlt:j<h10.blks.size:=by
  obtain⟨_,_,_,_,_,bb,_⟩:=r10;exact bb.lt
 refine Runs.puts b11 rfl fun h12 b12 u12=>?_;have GG:=(g9.trans g10).trans g11;have d4:=(GG.has c4).updr (i:=h10.blks.size) (by omega) u12;have d6:=(GG.has c6).updr (i:=h10.blks.size) (by omega) u12;have d8:=(GG.has b8).updr (i:=h10.blks.size) (by omega) u12;have gU:Grow h10 h12:=g11.updr (Nat.le_refl _) u12;have r12:RingAt h12 j (p*p):=r10.grow gU;have G12:Grow h h12:=((G8.trans g9).trans g10).trans gU;have at12:SayAt h12 p h6.blks.size h10.blks.size h.blks.size j ps:=⟨d8,by rw[← hs];exact kio d6 (by omega),b12,r12,d4⟩;refine Runs.step (d8.rd0 (f:=AV.asSl) rfl (asSl_v _)) ?_;refine Runs.new fun h13 b13 g13=>?_;refine Runs.when (g13.same d8 0 1) ?_;obtain⟨_,h14,e14,s14,rfl,n14,g14,-⟩:=kbfx (nn.grow (G12.trans g13)) (kio b13 (x:=1) (by decide));refine Runs.step e14 ?_;refine Runs.step (seen (asSl_v _)) ?_;rw[kbkc p2 q2]at n14;refine Runs.when (g14.same (g13.has d8) 0 1) ?_
 have sh64:1*(p*q)+1<B^64:=by
  have h1:p*q<B^2:=Nat.lt_of_lt_of_le (Nat.mul_lt_mul'' p2 q2) (by decide);have:B^2+1<B^64:=by decide
  omega
 have nd1:¬p∣num B (digs B (1*(p*q)+1)):=by
  rw[kg B2];intro hd;have:p∣1:=(Nat.dvd_add_right (Nat.dvd_trans (Nat.dvd_mul_right p q) (by rw[Nat.one_mul];exact Nat.dvd_refl _))).1 hd;have:=Nat.le_of_dvd (by decide) this;omega
 have at14:=at12.grow (g13.trans g14);obtain⟨_,h15,e15,s15,rfl,n15,g15,-⟩:=say_is at14 k p1 p2 n14 (kp sh64) nd1;refine Runs.step e15 ?_;refine Runs.step (seen (asSl_v _)) ?_;rw[kg B2]at n15;refine Runs.when (g15.same at14.b2 0 1) ?_;have at15:=at14.grow g15;have sayB:∀{x:Nat},¬p∣x→sayP p x<p:=fun h=>(k.say h).2.1;rw[kg B2]at nd1;have hA:=sayB nd1;have np15:=at15.n2;obtain⟨_,h16,e16,s16,rfl,n16,g16,-⟩:=kui n15 np15;have sp:=(kl5 n15.lt np15.lt).2.2.1 ⟨kp (Nat.lt_trans hA (Nat.lt_of_lt_of_le (show p<B from by omega) (by decide))),krd (by omega) (by omega),by rw[kd1];omega⟩;rw[kd1,kg B2]at sp
 obtain⟨w,w1,w2,w3⟩:=sp.2 (by
  rw[Nat.gcd_comm,← Nat.gcd_rec];exact k.say_unit)
 rw[w2]at e16 n16;refine Runs.step e16 ?_;refine Runs.step rfl ?_;refine Runs.step (seen (asSl_v _)) ?_;refine Runs.step (seen (kc _ _)) ?_;have at16:=at15.grow g16;have ndc:¬p∣num B cs:=k.unit co;have G16:=((((G12.trans g13).trans g14).trans g15).trans g16);obtain⟨_,h17,e17,s17,rfl,n17,g17,-⟩:=say_is at16 k p1 p2 (nc.grow G16) rc ndc;refine Runs.step e17 ?_;refine Runs.step (seen (asSl_v _)) ?_;obtain⟨s18,h18,e18,n18,g18,-⟩:=kek n17 (n16.grow g17);have hC:=sayB ndc;rw[kf0 (ke6 (by omega)) (ke6 (by omega))]at e18 n18;refine Runs.step e18 ?_;refine Runs.step rfl ?_;refine Runs.step (seen (asSl_v _)) ?_;refine Runs.step (seen (kc _ _)) ?_;have at18:=(at16.grow g17).grow g18;refine Runs.step (at18.b2.rd0 (f:=AV.asSl) rfl (asSl_v _)) ?_;have np18:=at18.n2;rw[← kfg (x:=p) (by omega) (by omega)]at np18;obtain⟨sx,sy,h19,e19,nx,ny,g19,ox,oy⟩:=kfu n18 np18;have hprod:sayP p (num B cs)*w<B^64:=Nat.lt_of_lt_of_le (Nat.mul_lt_mul'' (show _<1099511627776 from by omega) (show w<1099511627776 from by omega)) (by decide);rw[kno n18.lt (kp hprod) (by omega) (Nat.lt_of_lt_of_le (show p<B from by omega) (by decide)),kg B2]at e19 ny
 rw[k.found co d (i:=w) (by
  show _%p=1%p;rw[Nat.mul_comm,w3,Nat.mod_eq_of_lt (show 1<p from by omega)])]at e19 ny
 refine Runs.step e19 ?_;refine Runs.step rfl ?_;refine Runs.step (seen (asSl_v _)) ?_;refine Runs.step (seen (asSl_v _)) ?_;refine Runs.step (seen (kc _ _)) ?_;have G18:=(G16.trans g17).trans g18;exact Runs.ret ⟨sy,rfl,ny,G18.trans g19,oy.of_le G18⟩
end
end Go.Ab

/- squeezed -/
set_option maxRecDepth 10000
namespace Go.Ab
open Go.Proofs Go.Num
noncomputable def hidOf(p q c:Nat):Nat:=by
 classical
 exact if h:∃m,Hid (p*q) ((p-1)*(q-1)) c m then h.choose else 0
theorem kg8{p q:Nat}(k:KeyOk p q):0<p*q:=by have:=k.pos;omega
theorem k1j{p q c:Nat}(k:KeyOk p q)(h:Nat.Coprime c (p*q)):Hid (p*q) ((p-1)*(q-1)) c (hidOf p q c):=by
 unfold hidOf;have hx:=k.hid h;rw[dif_pos hx];exact hx.choose_spec
theorem kbir{p q c m:Nat}(k:KeyOk p q)(h:Hid (p*q) ((p-1)*(q-1)) c m):hidOf p q c=m:=by
 unfold hidOf;have hx:∃m,Hid (p*q) ((p-1)*(q-1)) c m:=⟨m,h⟩;rw[dif_pos hx];exact hx.choose_spec.uniq k.co (kg8 k) h
theorem k2x{p q:Nat}(p1:128≤p)(hp:leastN p=p)(q1:128≤q)(hq:leastN q=q)(ne:p≠q)(hg:Nat.gcd (p*q) ((p-1)*(q-1))=1):KeyOk p q :=
 ⟨(k09 (by omega)).1 hp,(k09 (by omega)).1 hq,ne,hg⟩
theorem kbhp{cs ns bs:List Nat}(lc:∀x∈cs,x<B)(hn:rt ns=true)(ln:∀x∈ns,x<B)(hb:rt bs=true):kbv cs ns bs=true↔rt cs=true∧cs≠[]∧num B cs<num B bs∧Nat.gcd (num B cs) (num B ns)=1:=by
 unfold kbv;cases hc:rt cs with
 | false=>simp
 | true =>
  rw[Bool.not_true,cond_false];by_cases h0:(List.length cs:Int)=0
  ·rw[decide_eq_true h0,cond_true];have:cs=[]:=List.length_eq_zero_iff.1 (by omega);simp[this]
  ·rw[decide_eq_false h0,cond_false,khm hc hb];have hne:cs≠[]:=fun e=>h0 (by simp[e])
   have hg:Nat.gcd (num B cs) (num B ns)<B^64:=by
    have h1:=kif lc hc;have h2:0<num B cs:=krc B1 (rt_iff.1 hc).2 hne;exact Nat.lt_of_le_of_lt (Nat.gcd_le_left _ h2) h1
   have e1:decide (cmpN ((gcdN cs ns).1) [1]=0)=decide (Nat.gcd (num B cs) (num B ns)=1):=by
    unfold gcdN;rw[if_pos ⟨hc,hn⟩,kx7 hg]
   rw[e1];by_cases hl:num B cs<num B bs
   ·have:cmp (num B cs) (num B bs)<0:=cmp_lt.2 hl;rw[decide_eq_false (show¬cmp (num B cs) (num B bs)≥0 from by omega),cond_false];simp[hne,hl]
   ·have:¬cmp (num B cs) (num B bs)<0:=fun h=>hl (cmp_lt.1 h);rw[decide_eq_true (show cmp (num B cs) (num B bs)≥0 from by omega),cond_true];simp[hl]
theorem kts{N:Nat}(h:N<B^30):kbd (digs B N)=digs B (N*N):=by
 unfold kbd;rw[kf0 h h]
theorem key_lt{p q:Nat}(p2:p<1099511627776)(q2:q<1099511627776):p*q<B^2:=Nat.lt_of_lt_of_le (Nat.mul_lt_mul'' p2 q2) (by decide)
theorem krw{p q:Nat}(p2:p<1099511627776)(q2:q<1099511627776):p*q<B^30:=Nat.lt_of_lt_of_le (key_lt p2 q2) (Nat.pow_le_pow_right (by decide) (by decide))
theorem key_sq{p q:Nat}(p2:p<1099511627776)(q2:q<1099511627776):p*q*(p*q)<B^4:=Nat.lt_of_lt_of_le (Nat.mul_lt_mul'' (key_lt p2 q2) (key_lt p2 q2)) (by decide)
theorem ko8{p q:Nat}(p2:p<1099511627776)(q2:q<1099511627776){cs:List Nat}(lc:∀x∈cs,x<B) :
  kbl (digs B (p*q)) cs=true↔kbc (digs B (p*q))=true∧rt cs=true∧cs≠[]∧num B cs<p*q*(p*q)∧Nat.Coprime (num B cs) (p*q):=by
 unfold kbl;rw[kts (krw p2 q2)];cases kbc (digs B (p*q))with
 | false=>simp
 | true =>
  rw[cond_true,kbhp lc (kp (up64 (key_lt p2 q2))) (kbe B2 _) (kp (Nat.lt_of_lt_of_le (key_sq p2 q2) (Nat.pow_le_pow_right (by decide) (by decide)))),kg B2,kg B2];simp[Nat.Coprime]
noncomputable def decF(a b:Int)(cs:List Nat):List Nat×Int:=cond (badF a b) ([],9) (cond (!kbl (digs B (a.toNat*b.toNat)) cs) ([],11) (digs B (hidOf a.toNat b.toNat (num B cs)),0))
@[reducible] def k7t(h0:AH)(r:List Nat×Int)(v:AV)(h':AH):Prop:=∃s1:Sl,v=.tup [s1.v,.int .i64 r.2]∧Nats h' s1 r.1∧Grow h0 h'∧Own h0 s1
theorem kbeo{p q m:Nat}(k:KeyOk p q)(p1:128≤p)(p2:p<1099511627776)(q1:128≤q)(q2:q<1099511627776)(hm:m<p*q):crtN (digs B (m%p)) [p] (digs B (m%q)) [q]=(digs B m,0):=by
 have b40:=B40;have lp:m%p<B:=Nat.lt_trans (Nat.mod_lt _ (by omega)) (by omega);have lq:m%q<B:=Nat.lt_trans (Nat.mod_lt _ (by omega)) (by omega);have one:∀{x:Nat},x<B→∀y∈[x],y<B:=fun h y hy=>by rw[List.mem_singleton.1 hy];exact h
 obtain⟨-,-,-,s2,s3⟩:=kz5 (x1:=digs B (m%p)) (x2:=[p]) (x3:=digs B (m%q)) (x4:=[q]) (kbe B2 _) (one (by omega)) (kbe B2 _) (one (by omega));have l1:∀{x:Nat},x<B→(digs B x).length≤8:=fun h=>(kbb B2 _ 8).2 (Nat.lt_of_lt_of_le h (by decide));have r1:∀{x:Nat},x<B→rt (digs B x)=true:=fun h=>kp (Nat.lt_of_lt_of_le h (by decide))
 have ok:CrtOk (digs B (m%p)) [p] (digs B (m%q)) [q]:=by
  refine⟨⟨r1 lp,l1 lp⟩,⟨krd (by omega) (by omega),by simp⟩,⟨r1 lq,l1 lq⟩,⟨krd (by omega) (by omega),by simp⟩,?_,?_,?_,?_⟩
  ·rw[kd1];omega
  ·rw[kd1];omega
  ·rw[kd1,kg B2];exact Nat.mod_lt _ (by omega)
  ·rw[kd1,kg B2];exact Nat.mod_lt _ (by omega)
 have cop:Nat.gcd q p=1:=by rw[Nat.gcd_comm];exact k.copq
 obtain⟨X,e1,-,e2,e3,e4⟩:=s3 (s2 ok (by rw[kd1,kd1,Nat.gcd_comm,← Nat.gcd_rec];exact cop));rw[kd1,kd1]at e2;rw[kd1,kg B2]at e3;rw[kd1,kg B2]at e4;have:Cg (p*q) X m:=Cg.both k.copq e3 e4;rw[e1,this.eq e2 hm]
theorem kzo{h:AH}{s:Sl}{cs:List Nat}(n:Nats h s cs)(a b:Int):Runs (go (.fn F.kod [.agg [.int .u64 a,.int .u64 b],s.v]) h) (k7t h (decF a b cs)):=by
 rw[k3j];refine Runs.new fun h4 b4 g4=>?_;refine Runs.step (b4.rd 0 (f:=AV.asInt .u64) rfl (kc _ _)) ?_;refine Runs.step (b4.rd 1 (f:=AV.asInt .u64) rfl (kc _ _)) ?_;obtain⟨_,h7,e7,s7,rfl,n7,g7,o7⟩:=kw1 (h:=h4) a b;refine Runs.step e7 ?_;refine Runs.step rfl ?_;refine Runs.step (seen (asSl_v _)) ?_;refine Runs.step (seen (kc _ _)) ?_;have nilN:∀h:AH,Nats h (⟨none,0,.is 0⟩:Sl) []:=fun h=>Nats.nil h;cases hb:badF a b with
 | true =>
  have e:pubF a b=([],9):=by unfold pubF;rw[hb];rfl
  rw[e];refine Runs.ifT rfl ?_;have dec:decF a b cs=([],9):=by unfold decF;rw[hb];rfl
  rw[dec];exact Runs.ret ⟨(⟨none,0,.is 0⟩:Sl),rfl,nilN _,g4.trans g7,Own.nil _⟩
 | false =>
  have e:pubF a b=(digs B (a.toNat*b.toNat),0):=by unfold pubF;rw[hb];rfl
  rw[e]at n7⊢;refine Runs.ifF rfl ?_;obtain⟨p,q,rfl,rfl,p1,p2,p3,q1,q2,q3,ne,-,hg⟩:=kr9 hb;rw[Int.toNat_natCast,Int.toNat_natCast]at n7;have k:=k2x p1 p3 q1 q3 ne hg;obtain⟨_,h11,e11,rfl,g11⟩:=kpv n7 (n.grow (g4.trans g7));refine Runs.step e11 ?_;refine Runs.step (seen rfl) ?_
  have dec:decF (p:Int) (q:Int) cs=cond (!kbl (digs B (p*q)) cs) ([],11) (digs B (hidOf p q (num B cs)),0):=by
   unfold decF;rw[hb,cond_false,Int.toNat_natCast,Int.toNat_natCast]
  rw[dec];cases hv:kbl (digs B (p*q)) cs with
  | false =>
   refine Runs.ifT rfl ?_;exact Runs.ret ⟨(⟨none,0,.is 0⟩:Sl),rfl,nilN _,(g4.trans g7).trans g11,Own.nil _⟩
  | true =>
   refine Runs.ifF rfl ?_;obtain⟨-,rc,-,-,co⟩:=(ko8 p2 q2 n.lt).1 hv;have hm:=k1j k co;have co':Nat.Coprime (num B cs) (q*p):=by rw[Nat.mul_comm];exact co
   have hm':Hid (q*p) ((q-1)*(p-1)) (num B cs) (hidOf p q (num B cs)):=by rw[Nat.mul_comm q p,Nat.mul_comm (q-1)];exact hm
   have G11:=(g7.trans g11);have c4:=G11.has b4;refine Runs.step (c4.rd 0 (f:=AV.asInt .u64) rfl (kc _ _)) ?_;refine Runs.step (c4.rd 1 (f:=AV.asInt .u64) rfl (kc _ _)) ?_;refine Runs.new fun h15 b15 g15=>Runs.new fun h16 b16 g16=>?_;have d4:=g16.has (g15.has c4);have d15:=g16.has b15;refine Runs.step (d4.rd 0 (f:=AV.asInt .u64) rfl (kc _ _)) ?_;refine Runs.step (d4.rd 0 (f:=AV.asInt .u64) rfl (kc _ _)) ?_;refine Runs.step (d4.rd 1 (f:=AV.asInt .u64) rfl (kc _ _)) ?_;refine Runs.step (d4.rd 1 (f:=AV.asInt .u64) rfl (kc _ _)) ?_;have G16:Grow h h16:=((g4.trans G11).trans g15).trans g16;have nn:Nats h16 s7 (digs B (p*q)):=n7.grow ((g11.trans g15).trans g16);obtain⟨_,h21,e21,s21,rfl,n21,g21,-⟩:=kzn k p1 p2 q2 (n.grow G16) nn rc co hm;refine Runs.step e21 ?_;refine Runs.step (seen (asSl_v _)) ?_;refine Runs.when (g21.same d4 1 1) (Runs.when (g21.same d4 1 1) (Runs.when (g21.same d4 0 1) (Runs.when (g21.same b16 0 0) (Runs.when (g21.same d15 0 0) ?_))));have nn':=nn.grow g21;rw[Nat.mul_comm p q]at nn';obtain⟨_,h23,e23,s23,rfl,n23,g23,-⟩:=kzn k.swap q1 q2 p2 (n.grow (G16.trans g21)) nn' rc co' hm';refine Runs.step e23 ?_;refine Runs.step (seen (asSl_v _)) ?_;refine Runs.when (g23.same (g21.has d4) 1 1) (Runs.when (g23.same (g21.has d4) 0 1) (Runs.when (g23.same (g21.has b16) 0 0) (Runs.when (g23.same (g21.has d15) 0 0) ?_)));have b40:=B40;obtain⟨_,h25,e25,s25,rfl,n25,g25,o25⟩:=kbjs (n21.grow g23) (kio (g23.has (g21.has d15)) (by omega)) n23 (kio (g23.has (g21.has b16)) (by omega));rw[kbeo k p1 p2 q1 q2 hm.1]at e25 n25;refine Runs.step e25 ?_;refine Runs.step rfl ?_;refine Runs.step (seen (asSl_v _)) ?_;refine Runs.step (seen (kc _ _)) ?_;refine Runs.when rfl ?_;have G23:=(G16.trans g21).trans g23;exact Runs.ret ⟨s25,rfl,n25,G23.trans g25,o25.of_le G23⟩
end Go.Ab

/- squeezed -/
set_option maxRecDepth 10000
namespace Go.Ab
open Go.Proofs Go.Num
end Go.Ab

/- squeezed -/
set_option maxRecDepth 10000
namespace Go.Ab
open Go.Proofs Go.Num
end Go.Ab

/- squeezed -/
set_option maxRecDepth 10000
namespace Go.Ab
open Go.Proofs Go.Num
theorem k7u{X Y:Nat}(hX:X<B^64)(hY:Y<B^64)(h0:0<Y):(divN (digs B X) (digs B Y)).2.1=digs B (X%Y):=by
 rw[kno (kbe B2 X) (kp hX) h0 hY,kg B2]
end Go.Ab

/- squeezed -/
set_option maxRecDepth 10000
namespace Go.Ab
open Go.Proofs Go.Num
end Go.Ab

/- squeezed -/
set_option maxRecDepth 10000
namespace Go.Ab
open Go.Proofs Go.Num
end Go.Ab

/- squeezed -/
set_option maxRecDepth 10000
namespace Go.Ab
open Go.Proofs Go.Num
end Go.Ab

/- squeezed -/
set_option maxRecDepth 10000
namespace Go.Ab
open Go.Proofs Go.Num
end Go.Ab

/- squeezed -/
set_option maxRecDepth 10000
namespace Go.Ab
open Go.Proofs Go.Num
end Go.Ab

/- squeezed -/
set_option maxRecDepth 10000
namespace Go.Ab
open Go.Proofs Go.Num
theorem kyf{X Y N:Nat}(hX:X<B^30)(hY:Y<B^30)(hN:N<B^64)(h0:0<N):km1 (digs B X) (digs B Y) (digs B N)=digs B (X*Y%N):=by
 unfold km1;rw[kf0 hX hY]
 have hprod:X*Y<B^64:=by
  calc _<B^30*B^30:=Nat.mul_lt_mul'' hX hY
   _=B^60:=by rw[← Nat.pow_add]
   _≤B^64:=Nat.pow_le_pow_right (by decide) (by decide)
 rw[k7u hprod hN h0]
theorem ktg{n a b:Nat}(h:Cg n a b)(c:Nat.Coprime a n):Nat.Coprime b n:=by
 unfold Nat.Coprime at c⊢;have h2:a%n=b%n:=h;rw[Nat.gcd_comm,Nat.gcd_rec,← h2,← Nat.gcd_rec,Nat.gcd_comm];exact c
section
variable{p q:Nat}(k:KeyOk p q)(p2:p<1099511627776)(q2:q<1099511627776)(hb:badF (p:Int) (q:Int)=false)(may:kbc (digs B (p*q))=true)
include k p2 q2 hb may
theorem dec_of{X M:Nat}(co:Nat.Coprime X (p*q))(hid:Hid (p*q) ((p-1)*(q-1)) X M):decF (p:Int) (q:Int) (digs B (X%(p*q*(p*q))))=(digs B M,0):=by
 have h0:=kg8 k;have hNN:0<p*q*(p*q):=Nat.mul_pos h0 h0;generalize hC:X%(p*q*(p*q))=C;have cg:Cg (p*q*(p*q)) X C:=by rw[← hC];exact Cg.mod.symm
 have coC:Nat.Coprime C (p*q):=ktg (cg.of_dvd (Nat.dvd_mul_right _ _)) co;have ltC:C<p*q*(p*q):=by rw[← hC];exact Nat.mod_lt _ hNN
 have CB:C<B^64:=Nat.lt_trans ltC (Nat.lt_of_lt_of_le (key_sq p2 q2) (Nat.pow_le_pow_right (by decide) (by decide)))
 have v:kbl (digs B (p*q)) (digs B C)=true:=(ko8 p2 q2 (kbe B2 _)).2 ⟨may,kp CB,fun hn=>by
  have:C=0:=(kep B2).1 hn;rw[this,Nat.coprime_zero_left]at coC;have:=k.pos;omega,by rw[kg B2];exact ltC,by rw[kg B2];exact coC⟩
 unfold decF;rw[hb,cond_false,Int.toNat_natCast,Int.toNat_natCast,v,Bool.not_true,cond_false,kg B2,kbir k (hid.cg cg)]
end
end Go.Ab

/- squeezed -/
set_option maxRecDepth 10000
namespace Go.Ab
open Go.Proofs
def idsR(l:List Int):Bool:=decide (l.length≤256)&&(!(l.any fun x=>decide (x<0)||decide (x>1073741824))&&decide l.Nodup)
structure Tb where
 ids:List Int
 bins:List Int
 cols:List (List Int)
def colR(t:Tb)(i:Nat):Bool:=!decide (t.bins.getD i 0<2)&&!decide (t.bins.getD i 0>32)&&decide ((t.cols.getD i []).length=t.ids.length)&&!((t.cols.getD i []).any fun x=>decide (x<0)||decide (x≥t.bins.getD i 0))
def tabR(t:Tb):Bool:=idsR t.ids&&!decide (t.cols.length>16)&&decide (t.bins.length=t.cols.length)&&(List.range t.cols.length).all (colR t)
structure TabAt(h:AH)(S:Fp)(s1 s2 s3:Sl)(t:Tb):Prop where
 ids:Sq EI h S s1 t.ids
 bins:Sq EI h S s2 t.bins
 cols:Sq (Ef.seq EI) h S s3 t.cols
theorem TabAt.md{h h':AH}{S T:Fp}{s1 s2 s3:Sl}{t:Tb}(n:TabAt h S s1 s2 s3 t)(m:Md T h h')(d:Dis S T):TabAt h' S s1 s2 s3 t:=⟨n.ids.md m d,n.bins.md m d,n.cols.md m d⟩
theorem TabAt.grow{h h':AH}{S:Fp}{s1 s2 s3:Sl}{t:Tb}(n:TabAt h S s1 s2 s3 t)(g:Grow h h'):TabAt h' S s1 s2 s3 t:=⟨n.ids.grow g,n.bins.grow g,n.cols.grow g⟩
section
variable{h0:AH}{S:Fp}{s:Sl}{xs:List Int}
theorem kbc7(n:Sq EI h0 S s xs):Runs (go (.fn F.kdu [s.v,.func (.func F.kdo) [] []]) h0) fun v h'=>v=.bool (xs.any fun x=>decide (x<0)||decide (x>1073741824))∧Grow h0 h':=by
 rw[k8k];refine Runs.contains (xs:=xs) ?_;rw[kbjj,n.len];refine klc (n:=xs.length) (G:=fun z h=>go (.pt F.kbm Td.kcl [(0,s.v),(1,.func (.func F.kdo) [] []),(7,.int .i64 (xs.length:Int)),(8,.int .i64 z)]) h) (fun i h P hi g hT hF=>?_) (fun h g=>?_) xs.length 0 (by omega) (Grow.refl h0) (fun j hj=>by omega)
 ·obtain⟨r,e1,e2⟩:=(n.grow g).int hi;rw[List.getElem?_eq_getElem hi]at hT hF;simp only[Option.any_some]at hT hF;show Runs (go _ _) _;rw[kx2];refine Runs.ifT (decide_eq_true (by omega)) (Runs.step e1 (Runs.step e2 ?_))
  have key:go (.fn F.kdo [.int .i64 xs[i]]) h=some (.bool (decide (xs[i]<0)||decide (xs[i]>1073741824)),h):=by
   rw[kbca];cases decide (xs[i]<0)<;>rfl
  refine Runs.step key (Runs.step (seen rfl) ?_);rw[kj (by have:=n.short;omega)];exact Runs.cond (fun c=>Runs.ret (hT h g c)) fun c=>hF h g c
 ·rw[kx2,condF (decide_eq_false (by omega))]
theorem kbec(n:Sq EI h0 S s xs)(hl:xs.length≤256){m:Nat}(hm:h0.blks.size≤m):∀(k i:Nat),i+k=xs.length→∀{h:AH}{l:List (Int×AV)},Grow h0 h→MapIs h m l→(∀x,(kvGet l x).isSome=true↔x∈xs.take i)→l.length≤i→(l.length=i↔(xs.take i).Nodup)→
  Runs (go (.pt F.khi Td.kqa [(3,.map (some m)),(7,s.v),(8,.int .i64 (xs.length:Int)),(9,.int .i64 (i:Int))]) h) fun v h'=>Grow h0 h'∧v=.map (some m)∧∃l,MapIs h' m l∧(l.length=xs.length↔xs.Nodup):=by
 intro k
 induction k with
 | zero =>
  intro i hi h l g M hk hle hn;rw[kzk];refine Runs.ifF (decide_eq_false (by omega)) (Runs.ret ⟨g,rfl,l,M,?_⟩);rw[show i=xs.length from by omega,List.take_length]at hn;exact hn
 | succ k ih =>
  intro i hi h l g M hk hle hn;have hlt:i<xs.length:=by omega
  obtain⟨r,e1,e2⟩:=(n.grow g).int hlt;rw[kzk];refine Runs.ifT (decide_eq_true (by omega)) (Runs.step e1 (Runs.step e2 ?_));obtain⟨h1,e3,M1,u1⟩:=M.put xs[i] (.int .i64 (i:Int));refine Runs.step e3 ?_;rw[kj (by omega)];have ht:xs.take (i+1)=xs.take i++[xs[i]]:=List.take_succ_eq_append_getElem hlt;have hi:=hk xs[i];refine ih (i+1) (by omega) (g.updr hm u1) M1 (fun x=>?_) ?_ ?_
  ·rw[kbcm,ht,List.mem_append,List.mem_singleton];by_cases hx:x=xs[i]
   ·rw[if_pos hx];exact⟨fun _=>.inr hx,fun _=>rfl⟩
   ·rw[if_neg hx,hk x];exact⟨.inl,fun h=>h.resolve_right hx⟩
  ·cases hg:kvGet l xs[i]with
   | none=>rw[kz4 _ hg];simp;omega
   | some w=>rw[k0a _ hg];omega
  ·rw[ht,List.nodup_append];cases hg:kvGet l xs[i]with
   | none =>
    rw[hg]at hi;have hni:xs[i]∉xs.take i:=fun h=>by simpa using hi.2 h
    rw[kz4 _ hg];simp only[List.length_append,List.length_singleton];constructor
    ·intro e;refine⟨hn.1 (by omega),by simp,fun a ha b hb=>?_⟩;rw[List.mem_singleton]at hb;subst hb
     rintro rfl
     exact hni ha
    ·intro e;rw[hn.2 e.1]
   | some w =>
    rw[hg]at hi;have hin:xs[i]∈xs.take i:=hi.1 rfl;rw[k0a _ hg];constructor
    ·intro e;omega
    ·intro e;exact absurd rfl (e.2.2 _ hin _ (by simp))
theorem kbaj(n:Sq EI h0 S s xs):Runs (go (.fn F.ksg [s.v]) h0) fun v h'=>v=.bool (idsR xs)∧Grow h0 h':=by
 rw[kbe1,n.len];unfold idsR;refine Runs.cond (fun c=>?_) (fun c=>?_)
 ·rw[decide_eq_true_eq]at c;rw[decide_eq_true (show xs.length≤256 by omega),Bool.true_and];refine(kbc7 n).call fun v h1 ⟨e,g1⟩=>?_;subst e;refine Runs.step (seen rfl) ?_;refine Runs.cond (fun c2=>?_) (fun c2=>?_)
  ·rw[c2,Bool.true_and]
   have key:Runs (go (.fn F.khi [s.v]) h1) fun v h'=>Grow h1 h'∧∃m l,v=.map (some m)∧MapIs h' m l∧(l.length=xs.length↔xs.Nodup):=by
    rw[k9i,n.len];refine Runs.newMap fun h2 M g2=>?_;exact(kbec (n.grow g1) (by omega) (m:=h1.blks.size) (Nat.le_refl _) xs.length 0 (by omega) (l:=[]) g2 M (fun x=>by simp[kvGet]) (Nat.le_refl _) (by simp)).imp fun v h' ⟨g,e,l,M,hn⟩=>⟨g,_,l,e,M,hn⟩
   refine key.call fun v h2 ⟨g2,m,l,e,M,hn⟩=>?_;subst e;refine Runs.step (seen rfl) (Runs.step M.size (Runs.ret ⟨congrArg AV.bool ?_,g1.trans g2⟩));rw[decide_eq_decide,← hn];omega
  ·rw[c2,Bool.false_and];exact Runs.ret ⟨rfl,g1⟩
 ·rw[decide_eq_false_iff_not]at c;rw[decide_eq_false (show¬xs.length≤256 by omega),Bool.false_and];exact Runs.ret ⟨rfl,Grow.refl _⟩
end
end Go.Ab

/- squeezed -/
set_option maxRecDepth 10000
namespace Go.Ab
open Go.Proofs
theorem kbdl{h0:AH}{S:Fp}{s:Sl}{xs:List Int}(n:Sq EI h0 S s xs){b:Nat}{z:Int}{e:TypeId}(hb:h0.has b [.int .i64 z] e):Runs (go (.fn F.kdu [s.v,.func (.func F.kdn) [] [.ptr (some (.new b 0))]]) h0) fun v h'=>v=.bool (xs.any fun x=>decide (x<0)||decide (x≥z))∧Grow h0 h':=by
 rw[k38];refine Runs.contains (xs:=xs) ?_;rw[kbg8,n.len];refine klc (n:=xs.length) (G:=fun y h=>go (.pt F.kbm Td.kcl [(0,s.v),(1,.func (.func F.kdn) [] [.ptr (some (.new b 0))]),(7,.int .i64 (xs.length:Int)),(8,.int .i64 y)]) h) (fun i h P hi g hT hF=>?_) (fun h g=>?_) xs.length 0 (by omega) (Grow.refl h0) (fun j hj=>by omega)
 ·obtain⟨r,e1,e2⟩:=(n.grow g).int hi;rw[List.getElem?_eq_getElem hi]at hT hF;simp only[Option.any_some]at hT hF;show Runs (go _ _) _;rw[kx1];refine Runs.ifT (decide_eq_true (by omega)) (Runs.step e1 (Runs.step e2 ?_))
  have key:Runs (go (.fn F.kdn [.int .i64 xs[i],.ptr (some (.new b 0))]) h) fun v h'=>v=.bool (decide (xs[i]<0)||decide (xs[i]≥z))∧h'=h:=by
   rw[k6i];cases decide (xs[i]<0)
   ·refine Runs.ifF rfl (Runs.step rfl (Runs.step ((g.has hb).rd0 rfl (kc _ _)) ?_));exact Runs.ret ⟨rfl,rfl⟩
   ·exact Runs.ret ⟨rfl,rfl⟩
  refine key.call fun v h' ⟨ev,eh⟩=>?_;subst ev;subst eh;refine Runs.step (seen rfl) ?_;rw[kj (by have:=n.short;omega)];exact Runs.cond (fun c=>Runs.ret (hT _ g c)) fun c=>hF _ g c
 ·rw[kx1,condF (decide_eq_false (by omega))]
section
variable{h0:AH}{S:Fp}{s1 s2 s3:Sl}{t:Tb}
theorem k47(n:TabAt h0 S s1 s2 s3 t)(hl:t.cols.length≤16)(hb:t.bins.length=t.cols.length){b:Nat}(hbb:h0.blks.size≤b):∀(k i:Nat),i+k=t.cols.length→∀{h:AH},Grow h0 h→h.has b [s1.v,s2.v,s3.v] T.kbt→
  Runs (go (.pt F.kgd Td.kpc [(1,.ptr (some (.new b 0))),(27,s3.v),(28,.int .i64 (t.cols.length:Int)),(29,.int .i64 (i:Int))]) h) fun v h'=>v=.bool (((List.range t.cols.length).drop i).all (colR t))∧Grow h0 h':=by
 intro k
 induction k with
 | zero =>
  intro i hi h g B;rw[k1f];refine Runs.ifF (decide_eq_false (by omega)) (Runs.ret ⟨?_,g⟩);rw[kob (by simp;omega)]
 | succ k ih =>
  intro i hi h g B;have hc:i<t.cols.length:=by omega
  have hbi:i<t.bins.length:=by omega
  obtain⟨r,s',e1,e2,-,n'⟩:=(n.cols.grow g).sl hc;obtain⟨r2,e3,e4⟩:=(n.bins.grow g).int hbi;rw[k1f];refine Runs.ifT (decide_eq_true (by omega)) (Runs.step e1 (Runs.step e2 (Runs.step (B.rd 1 rfl (asSl_v _)) (Runs.step e3 (Runs.step e4 ?_)))));refine Runs.new fun h1 b1 g1=>Runs.puts b1 rfl fun h2 b2 u2=>?_;have G:Grow h h2:=g1.updr (Nat.le_refl _) u2;have B2:=G.has B;rw[kr4 hc]
  have hcol:colR t i=(!decide (t.bins[i]<2)&&!decide (t.bins[i]>32)&&decide (t.cols[i].length=t.ids.length)&&!(t.cols[i].any fun x=>decide (x<0)||decide (x≥t.bins[i]))):=by
   simp[colR,List.getD,hbi,hc]
  rw[hcol];refine Runs.step (b2.rd0 rfl (kc _ _)) (Runs.cond (fun c=>Runs.ret ⟨by rw[c];rfl,g.trans G⟩) fun c=>?_);refine Runs.step (b2.rd0 rfl (kc _ _)) (Runs.cond (fun c2=>Runs.ret ⟨by rw[c,c2];rfl,g.trans G⟩) fun c2=>?_);refine Runs.step (B2.rd 0 rfl (asSl_v _)) ?_;rw[n'.len,n.ids.len];refine Runs.cond (fun c3=>Runs.ret ⟨?_,g.trans G⟩) fun c3=>?_
  ·have:¬t.cols[i].length=t.ids.length:=by simpa[Int.ofNat_inj]using c3
   rw[c,c2,decide_eq_false this];rfl
  have c3:t.cols[i].length=t.ids.length:=by simpa[Int.ofNat_inj]using c3
  refine(kbdl (n'.grow G) b2).call fun v h3 ⟨ev,g3⟩=>?_;subst ev;refine Runs.step (seen rfl) (Runs.cond (fun c4=>Runs.ret ⟨by rw[c,c2,decide_eq_true c3,c4];rfl,(g.trans G).trans g3⟩) fun c4=>?_);rw[c,c2,decide_eq_true c3,c4,kj (by omega)];exact ih (i+1) (by omega) ((g.trans G).trans g3) (g3.has B2)
theorem k1n(n:TabAt h0 S s1 s2 s3 t):Runs (go (.fn F.kgd [.agg [s1.v,s2.v,s3.v]]) h0) fun v h'=>v=.bool (tabR t)∧Grow h0 h':=by
 rw[k7z];refine Runs.new fun h4 b4 g4=>Runs.step (b4.rd 0 rfl (asSl_v _)) ?_;refine(kbaj (n.ids.grow g4)).call fun v h6 ⟨ev,g6⟩=>?_;subst ev;have B:=g6.has b4;have G:=g4.trans g6;unfold tabR;refine Runs.step (seen rfl) (Runs.cond (fun c=>Runs.ret ⟨by rw[show idsR t.ids=false by simpa using c];rfl,G⟩) fun c=>?_);rw[show idsR t.ids=true by simpa using c,Bool.true_and];refine Runs.step (B.rd 2 rfl (asSl_v _)) ?_;rw[n.cols.len];refine Runs.cond (fun c2=>Runs.ret ⟨?_,G⟩) fun c2=>?_
 ·rw[decide_eq_true_eq]at c2;rw[decide_eq_true (show t.cols.length>16 by omega)];rfl
 rw[decide_eq_false_iff_not]at c2;rw[decide_eq_false (show¬t.cols.length>16 by omega)];refine Runs.step (B.rd 1 rfl (asSl_v _)) (Runs.step (B.rd 2 rfl (asSl_v _)) ?_);rw[n.bins.len,n.cols.len];refine Runs.cond (fun c3=>Runs.ret ⟨?_,G⟩) fun c3=>?_
 ·have:¬t.bins.length=t.cols.length:=by simpa[Int.ofNat_inj]using c3
  rw[decide_eq_false this];rfl
 have c3:t.bins.length=t.cols.length:=by simpa[Int.ofNat_inj]using c3
 rw[decide_eq_true c3];refine Runs.step (B.rd 2 rfl (asSl_v _)) ?_;rw[n.cols.len];exact k47 n (by omega) c3 (Nat.le_refl _) t.cols.length 0 (by omega) G B
theorem k31{s:Sl}{xs:List Int}(n:Sq EI h0 S s xs)(x:Int)(hl:xs.length≤1000000):∀(k i:Nat),i+k=xs.length→(∀j (hj:j<xs.length),j<i→xs[j]≠x)→
  ∃z,go (.pt F.khl Td.kqq [(0,s.v),(1,.int .i64 x),(5,.int .i64 (i:Int))]) h0=some (.int .i64 z,h0)∧∀t (ht:t<xs.length),xs[t]=x→(z=(t:Int)↔∀j (hj:j<xs.length),j<t→xs[j]≠x):=by
 intro k
 induction k with
 | zero =>
  intro i hi hn;refine⟨-1,?_,fun t ht e=>absurd e (hn t ht (by omega))⟩;rw[kyv,n.len,condF (decide_eq_false (by omega))]
 | succ k ih =>
  intro i hi hn;have hlt:i<xs.length:=by omega
  obtain⟨r,e1,e2⟩:=n.int hlt;rw[kyv,e1,n.len,condT (decide_eq_true (by omega)),Option.bind_some,e2,Option.bind_some];by_cases hx:xs[i]=x
  ·rw[condT (decide_eq_true hx)];refine⟨_,rfl,fun t ht e=>⟨fun h j hj hjt=>hn j hj (by omega),fun h=>?_⟩⟩;rcases Nat.lt_trichotomy i t with h1 | h1 | h1
   ·exact absurd hx (h i hlt h1)
   ·rw[h1]
   ·exact absurd e (hn t ht h1)
  ·rw[condF (decide_eq_false hx),kj (by omega)];refine ih (i+1) (by omega) fun j hj hji=>?_;by_cases h1:j=i
   ·subst h1;exact hx
   ·exact hn j hj (by omega)
theorem k8e{s:Sl}{xs:List Int}(n:Sq EI h0 S s xs)(hl:xs.length≤256):∀(k i:Nat),i+k=xs.length→(∀j (hj:j<xs.length),j<i→0≤xs[j]∧xs[j]≤1073741824)→(xs.take i).Nodup→
  go (.pt F.kia Td.knn [(0,s.v),(3,.int .i64 (i:Int))]) h0=some (.bool (!(xs.any fun x=>decide (x<0)||decide (x>1073741824))&&decide xs.Nodup),h0):=by
 intro k
 induction k with
 | zero =>
  intro i hi hr hn;rw[k1t,n.len,condF (decide_eq_false (by omega))]
  have h1:(xs.any fun x=>decide (x<0)||decide (x>1073741824))=false:=by
   rw[List.any_eq_false];intro x hx;obtain⟨j,hj,rfl⟩:=List.getElem_of_mem hx;have:=hr j hj (by omega);simp;omega
  rw[show i=xs.length by omega,List.take_length]at hn;rw[h1,decide_eq_true hn];rfl
 | succ k ih =>
  intro i hi hr hn;have hlt:i<xs.length:=by omega
  obtain⟨r,e1,e2⟩:=n.int hlt;rw[k1t,e1,n.len,condT (decide_eq_true (by omega))];rw[n.len]at e1;simp only[Option.bind_some,e1,e2]
  have bad:(xs[i]<0∨xs[i]>1073741824)→(xs.any fun x=>decide (x<0)||decide (x>1073741824))=true:=fun h=>by
   rw[List.any_eq_true];exact⟨xs[i],List.getElem_mem hlt,by simpa using h⟩
  by_cases c1:xs[i]<0
  ·rw[condT (decide_eq_true c1),bad (.inl c1)];rfl
  rw[condF (decide_eq_false c1)];by_cases c2:xs[i]>1073741824
  ·rw[condT (decide_eq_true c2),bad (.inr c2)];rfl
  rw[condF (decide_eq_false c2)];obtain⟨z,e3,hz⟩:=k31 n xs[i] (by omega) xs.length 0 (by omega) fun j hj h=>by omega
  have hz:=hz i hlt rfl
  have hu:go (.fn F.khl [s.v,.int .i64 xs[i]]) h0=some (.int .i64 z,h0):=by
   rw[k3x];exact e3
  rw[hu];simp only[Option.bind_some,kc];have ht:xs.take (i+1)=xs.take i++[xs[i]]:=List.take_succ_eq_append_getElem hlt;by_cases c3:z=(i:Int)
  ·rw[condF (by rw[decide_eq_true c3];rfl),kj (by omega)];refine ih (i+1) (by omega) (fun j hj hji=>?_) ?_
   ·by_cases h1:j=i
    ·subst h1;omega
    ·exact hr j hj (by omega)
   ·rw[ht,List.nodup_append];refine⟨hn,by simp,fun a ha b hb=>?_⟩;rw[List.mem_singleton]at hb;subst hb
    rintro rfl
    obtain⟨j,hj,e⟩:=List.getElem_of_mem ha;rw[List.getElem_take]at e;rw[List.length_take]at hj;exact hz.1 c3 j (by omega) (by omega) e
  ·rw[condT (by rw[decide_eq_false c3];rfl)]
   have:¬xs.Nodup:=fun h=>c3 (hz.2 fun j hj hji e=>by
    have:=(List.nodup_iff_pairwise_ne.1 h);rw[List.pairwise_iff_getElem]at this;exact this j i hj hlt hji e)
   rw[decide_eq_false this,Bool.and_false]
theorem kbjt{s:Sl}{xs:List Int}(n:Sq EI h0 S s xs):go (.fn F.kia [s.v]) h0=some (.bool (idsR xs),h0):=by
 rw[k9m,n.len];unfold idsR;by_cases c:xs.length>256
 ·rw[condT (decide_eq_true (by omega)),decide_eq_false (by omega)];rfl
 ·rw[condF (decide_eq_false (by omega)),decide_eq_true (show xs.length≤256 by omega),Bool.true_and];exact k8e n (by omega) xs.length 0 (by omega) (fun j hj h=>by omega) (by simp)
theorem kbgr(n:TabAt h0 S s1 s2 s3 t){b:Nat}(B:h0.has b [s1.v,s2.v,s3.v] T.kbt){i:Nat}(hc:i<t.cols.length)(hl:t.cols.length≤16)(hb:t.bins.length=t.cols.length)(hi:t.cols[i].length=t.ids.length)(hids:t.ids.length≤256):∀(k j:Nat),j+k=t.ids.length→
  go (.pt F.kdd Td.kqr [(1,.ptr (some (.new b 0))),(4,.int .i64 (i:Int)),(5,.int .i64 (j:Int))]) h0=cond ((t.cols[i].drop j).any fun x=>decide (x<0)||decide (x≥t.bins[i])) (some (.bool false,h0)) (go (.pt F.kdd Td.kmw [(1,.ptr (some (.new b 0))),(4,.int .i64 ((i+1:Nat):Int))]) h0):=by
 have hbi:i<t.bins.length:=by omega
 obtain⟨r,s',e1,e2,-,n'⟩:=n.cols.sl hc;obtain⟨r2,e3,e4⟩:=n.bins.int hbi;intro k
 induction k with
 | zero =>
  intro j hj;rw[kyb,B.rd 0 rfl (asSl_v _),Option.bind_some,n.ids.len,condF (decide_eq_false (by omega)),kj (by omega),List.drop_of_length_le (by omega)];rfl
 | succ k ih =>
  intro j hj;have hjc:j<t.cols[i].length:=by omega
  obtain⟨r3,e5,e6⟩:=n'.int hjc;rw[kyb,B.rd 0 rfl (asSl_v _),Option.bind_some,n.ids.len,condT (decide_eq_true (by omega)),B.rd 2 rfl (asSl_v _)];simp only[Option.bind_some,e1,e2,e5,e6,B.rd 1 rfl (asSl_v _),e3,e4];rw[List.drop_eq_getElem_cons hjc,List.any_cons];by_cases c1:t.cols[i][j]<0
  ·rw[condT (decide_eq_true c1),decide_eq_true c1];rfl
  rw[condF (decide_eq_false c1),decide_eq_false c1,Bool.false_or];by_cases c2:t.cols[i][j]≥t.bins[i]
  ·rw[condT (decide_eq_true c2),decide_eq_true c2];rfl
  rw[condF (decide_eq_false c2),decide_eq_false c2,Bool.false_or,kj (by omega)];exact ih (j+1) (by omega)
theorem k89(n:TabAt h0 S s1 s2 s3 t){b:Nat}(B:h0.has b [s1.v,s2.v,s3.v] T.kbt)(hl:t.cols.length≤16)(hb:t.bins.length=t.cols.length)(hids:t.ids.length≤256):∀(k i:Nat),i+k=t.cols.length→
  go (.pt F.kdd Td.kmw [(1,.ptr (some (.new b 0))),(4,.int .i64 (i:Int))]) h0=some (.bool (((List.range t.cols.length).drop i).all (colR t)),h0):=by
 intro k
 induction k with
 | zero =>
  intro i hi;rw[kx8,B.rd 2 rfl (asSl_v _),Option.bind_some,n.cols.len,condF (decide_eq_false (by omega)),kob (by simp;omega)]
 | succ k ih =>
  intro i hi;have hc:i<t.cols.length:=by omega
  have hbi:i<t.bins.length:=by omega
  obtain⟨r,s',e1,e2,-,n'⟩:=n.cols.sl hc;obtain⟨r2,e3,e4⟩:=n.bins.int hbi
  have hcol:colR t i=(!decide (t.bins[i]<2)&&!decide (t.bins[i]>32)&&decide (t.cols[i].length=t.ids.length)&&!(t.cols[i].any fun x=>decide (x<0)||decide (x≥t.bins[i]))):=by
   simp[colR,List.getD,hbi,hc]
  rw[kr4 hc,hcol];rw[kx8,B.rd 2 rfl (asSl_v _),Option.bind_some,n.cols.len,condT (decide_eq_true (by omega)),B.rd 1 rfl (asSl_v _),Option.bind_some,e3,Option.bind_some,e4,Option.bind_some];simp only[Option.bind_some,B.rd 0 rfl (asSl_v _),e1,e2,e3,e4];by_cases c1:t.bins[i]<2
  ·rw[condT (decide_eq_true c1),decide_eq_true c1];rfl
  rw[condF (decide_eq_false c1),decide_eq_false c1];by_cases c2:t.bins[i]>32
  ·rw[condT (decide_eq_true c2),decide_eq_true c2];rfl
  rw[condF (decide_eq_false c2),decide_eq_false c2,n'.len,n.ids.len];by_cases c3:t.cols[i].length=t.ids.length
  ·rw[condF (by rw[decide_eq_true (by omega)];rfl),decide_eq_true c3,show(0:Int)=((0:Nat):Int)from rfl,kbgr n B hc hl hb c3 hids t.ids.length 0 (by omega),List.drop_zero];cases(t.cols[i].any fun x=>decide (x<0)||decide (x≥t.bins[i]))with
   | true=>rfl
   | false=>rw[cond_false,ih (i+1) (by omega)];rfl
  ·rw[condT (by rw[decide_eq_false (by omega)];rfl),decide_eq_false c3];rfl
theorem k1a(n:TabAt h0 S s1 s2 s3 t):Runs (go (.fn F.kdd [.agg [s1.v,s2.v,s3.v]]) h0) fun v h'=>v=.bool (tabR t)∧Grow h0 h':=by
 rw[k8j];refine Runs.new fun h4 B G=>Runs.step (B.rd 0 rfl (asSl_v _)) ?_;refine Runs.step (kbjt (n.ids.grow G)) ?_;unfold tabR;refine Runs.step (seen rfl) (Runs.cond (fun c=>Runs.ret ⟨by rw[show idsR t.ids=false by simpa using c];rfl,G⟩) fun c=>?_);have c:idsR t.ids=true:=by simpa using c
 rw[c,Bool.true_and];refine Runs.step (B.rd 2 rfl (asSl_v _)) ?_;rw[n.cols.len];refine Runs.cond (fun c2=>Runs.ret ⟨?_,G⟩) fun c2=>?_
 ·rw[decide_eq_true_eq]at c2;rw[decide_eq_true (show t.cols.length>16 by omega)];rfl
 rw[decide_eq_false_iff_not]at c2;rw[decide_eq_false (show¬t.cols.length>16 by omega)];refine Runs.step (B.rd 1 rfl (asSl_v _)) (Runs.step (B.rd 2 rfl (asSl_v _)) ?_);rw[n.bins.len,n.cols.len];refine Runs.cond (fun c3=>Runs.ret ⟨?_,G⟩) fun c3=>?_
 ·have:¬t.bins.length=t.cols.length:=by simpa[Int.ofNat_inj]using c3
  rw[decide_eq_false this];rfl
 have c3:t.bins.length=t.cols.length:=by simpa[Int.ofNat_inj]using c3
 rw[decide_eq_true c3]
 have hids:t.ids.length≤256:=by
  unfold idsR at c;simp at c;exact c.1
 have:=k89 (n.grow G) B (by omega) c3 hids t.cols.length 0 (by omega);exact⟨_,_,this,rfl,G⟩
end
end Go.Ab

/- squeezed -/
namespace Go.Ab
theorem kwj:∀(n w:Nat),w≠0→w<2^n→∃k m,k<n∧w=2^(k+1)*m+2^k:=by
 intro n
 induction n with
 | zero=>intro w h0 h;omega
 | succ n ih =>
  intro w h0 h;rcases Nat.mod_two_eq_zero_or_one w with e | e
  ·obtain⟨k,m,hk,hm⟩:=ih (w/2) (by omega) (by rw[Nat.pow_succ]at h;omega);refine⟨k+1,m,by omega,?_⟩;have:w=2*(w/2):=by omega
   rw[this,hm,Nat.mul_add,← Nat.mul_assoc,← Nat.pow_succ',← Nat.pow_succ']
  ·exact⟨0,w/2,by omega,by simp;omega⟩
theorem ki7{k m:Nat}(j:Nat):(2^(k+1)*m+2^k).testBit j=if j<k then false else if j=k then true else m.testBit (j-(k+1)):=by
 rw[Nat.testBit_two_pow_mul_add _ (Nat.pow_lt_pow_right (by decide) (Nat.lt_succ_self k)),Nat.testBit_two_pow]
 grind
theorem kbhq(k m:Nat):(2^(k+1)*m+2^k)&&&(2^(k+1)*m+2^k-1)=2^(k+1)*m:=by
 have hp:0<2^k:=Nat.two_pow_pos k;have e:2^(k+1)*m+2^k-1=2^(k+1)*m+(2^k-1):=by omega
 rw[e];apply Nat.eq_of_testBit_eq;intro j;rw[Nat.testBit_and,ki7,Nat.testBit_two_pow_mul_add _ (by rw[Nat.pow_succ];omega),Nat.testBit_two_pow_sub_one,Nat.testBit_two_pow_mul]
 grind
theorem kbcl{k m n:Nat}(h:2^(k+1)*m+2^k<2^n):(2^(k+1)*m+2^k)&&&(2^n-(2^(k+1)*m+2^k))=2^k:=by
 have hk:k<n:=by
  rcases Nat.lt_or_ge k n with h1 | h1
  ·exact h1
  ·have:=Nat.pow_le_pow_right (n:=2) (by decide) h1;omega
 obtain⟨d,rfl⟩:∃d,n=(k+1)+d:=⟨n-(k+1),by omega⟩
 have hm:m<2^d:=by
  rcases Nat.lt_or_ge m (2^d)with h1 | h1
  ·exact h1
  ·have:=Nat.mul_le_mul_left (2^(k+1)) h1;rw[← Nat.pow_add]at this;exact absurd h (Nat.not_lt.2 (Nat.le_trans this (Nat.le_add_right _ _)))
 have e:2^(k+1+d)-(2^(k+1)*m+2^k)=2^(k+1)*(2^d-(m+1))+2^k:=by
  have a:2^(k+1+d)=2^(k+1)*2^d:=Nat.pow_add ..;have b:2^(k+1)*2^d=2^(k+1)*(2^d-(m+1))+2^(k+1)*(m+1):=by rw[← Nat.mul_add];congr 1;omega
  have c:2^(k+1)*(m+1)=2^(k+1)*m+2^(k+1):=by rw[Nat.mul_add,Nat.mul_one]
  have f:2^(k+1)=2^k+2^k:=by rw[Nat.pow_succ];omega
  omega
 rw[e];apply Nat.eq_of_testBit_eq;intro j;rw[Nat.testBit_and,ki7,ki7,Nat.testBit_two_pow];by_cases h1:j<k
 ·have:¬k=j:=by omega
  simp[h1,this]
 ·by_cases h2:j=k
  ·subst h2;simp
  ·have:¬k=j:=by omega
   rw[if_neg h1,if_neg h2,if_neg h1,if_neg h2,Nat.testBit_two_pow_sub_succ hm];simp[this];intro a b;exact a
def ones(w:Nat):List Nat:=(List.range 64).filter w.testBit
theorem k8a{p q:Nat→Bool}{k:Nat}:∀{n:Nat},k<n→p k=true→(∀j,j<k→p j=false)→(∀j,j<n→q j=(p j&&decide (j≠k)))→(List.range n).filter p=k::(List.range n).filter q:=by
 intro n
 induction n with
 | zero=>intro h;omega
 | succ n ih =>
  intro h hp hl hq;rw[List.range_succ,List.filter_append,List.filter_append];by_cases e:k=n
  ·subst e;have a:(List.range k).filter p=[]:=List.filter_eq_nil_iff.2 fun j hj=>by rw[hl j (List.mem_range.1 hj)];simp
   have b:(List.range k).filter q=[]:=List.filter_eq_nil_iff.2 fun j hj=>by
    have:=List.mem_range.1 hj;rw[hq j (by omega),hl j this];simp
   rw[a,b];have:q k=false:=by rw[hq k (by omega)];simp
   simp[hp,this]
  ·rw[ih (by omega) hp hl fun j hj=>hq j (by omega)];have:q n=p n:=by rw[hq n (by omega)];simp;intro _;omega
   simp[this,List.filter_cons]
theorem kxv:ones 0=[]:=by
 unfold ones;exact List.filter_eq_nil_iff.2 fun j _=>by simp
theorem kyp{k m:Nat}(hk:k<64):ones (2^(k+1)*m+2^k)=k::ones (2^(k+1)*m):=by
 unfold ones;refine k8a hk (by rw[ki7];simp) (fun j hj=>by rw[ki7];simp[hj]) fun j _=>?_;rw[ki7,Nat.testBit_two_pow_mul];by_cases h1:j<k
 ·have:¬k+1≤j:=by omega
  simp[h1,this]
 ·by_cases h2:j=k
  ·subst h2;have:¬j+1≤j:=by omega
   simp[this]
  ·have:k+1≤j:=by omega
   simp[h1,h2,this]
end Go.Ab

/- squeezed -/
set_option maxRecDepth 10000
namespace Go.Ab
open Go.Proofs
theorem ktz{a b:Nat}(ha:a<18446744073709551616)(hb:b<18446744073709551616):iand .u64 (a:Int) (b:Int)=((a&&&b:Nat):Int):=by
 unfold iand;rw[show IntKind.bits .u64=64 from rfl,wrapU];have e1:BitVec.ofInt 64 (a:Int)=BitVec.ofNat 64 a:=rfl;have e2:BitVec.ofInt 64 (b:Int)=BitVec.ofNat 64 b:=rfl;rw[e1,e2,BitVec.toNat_and,BitVec.toNat_ofNat,BitVec.toNat_ofNat,Nat.mod_eq_of_lt (show a<2^64 from ha),Nat.mod_eq_of_lt (show b<2^64 from hb)];have:a&&&b≤a:=Nat.and_le_left;omega
theorem or_nat{a b:Nat}(ha:a<18446744073709551616)(hb:b<18446744073709551616):ior .u64 (a:Int) (b:Int)=((a|||b:Nat):Int):=by
 unfold ior;rw[show IntKind.bits .u64=64 from rfl,wrapU];have e1:BitVec.ofInt 64 (a:Int)=BitVec.ofNat 64 a:=rfl;have e2:BitVec.ofInt 64 (b:Int)=BitVec.ofNat 64 b:=rfl;rw[e1,e2,BitVec.toNat_or,BitVec.toNat_ofNat,BitVec.toNat_ofNat,Nat.mod_eq_of_lt (show a<2^64 from ha),Nat.mod_eq_of_lt (show b<2^64 from hb)];have:a|||b<2^64:=Nat.or_lt_two_pow ha hb;omega
theorem kyd(x n:Nat):ishr .u64 (x:Int) (n:Int)=((x/2^min n 64:Nat):Int):=by
 unfold ishr;rw[Int.toNat_natCast,show IntKind.bits .u64=64 from rfl];have:((2:Int)^min n 64)=((2^min n 64:Nat):Int):=by simp
 rw[this,Int.fdiv_eq_ediv_of_nonneg _ (Int.natCast_nonneg _)];exact(Int.natCast_ediv _ _).symm
theorem k76{n:Nat}(hn:n<64):ishl .u64 1 (n:Int)=((2^n:Nat):Int):=by
 unfold ishl;rw[Int.toNat_natCast,show IntKind.bits .u64=64 from rfl,Nat.min_eq_left (by omega),wrapU];have h1:(1:Int)*(2:Int)^n=((2^n:Nat):Int):=by simp
 have h2:2^n<2^64:=Nat.pow_lt_pow_right (by decide) hn;rw[h1];generalize 2^n=q at *
 omega
def tzTab:List Nat:=[0,1,56,2,57,49,28,3,61,58,42,50,38,29,17,4,62,47,59,36,45,43,51,22,53,39,33,30,24,18,12,5,63,55,48,27,60,41,37,16,46,35,44,21,52,32,23,11,54,26,40,15,34,20,31,10,25,14,19,9,13,8,7,6]
theorem tz_idx:∀k:_root_.Fin 64,tzTab.getD ((2^k.val*285870213051353865%18446744073709551616)/288230376151711744) 0=k.val:=by decide +kernel
def Tab(h:AH):Prop:=∀k:Nat,k<64→h.cell (.old ⟨Gl.math_bits_deBruijn64tab,k,none⟩)=some (.int .u8 ((tzTab.getD k 0:Nat):Int))
theorem Tab.md{h h':AH}{T:Fp}(t:Tab h)(m:Md T h h'):Tab h':=fun k hk=>by
 rw[← t k hk];simp only[AH.cell,m.old]
theorem Tab.grow{h h':AH}(t:Tab h)(g:Grow h h'):Tab h':=t.md (g.md Fp.no)
theorem tz_is{h:AH}(T:Tab h){k m:Nat}(hk:k<64)(hw:2^(k+1)*m+2^k<18446744073709551616):go (.fn F.kvn [.int .u64 ((2^(k+1)*m+2^k:Nat):Int)]) h=some (.int .i64 (k:Int),h):=by
 rw[k99];have hp:=Nat.two_pow_pos k;have en:=kbcl (k:=k) (m:=m) (n:=64) hw;generalize hW:2^(k+1)*m+2^k=W at *
 have hW0:0<W:=by omega
 have e1:IntKind.wrap .u64 (0-(W:Int))=((18446744073709551616-W:Nat):Int):=by rw[wrapU];omega
 rw[condF (decide_eq_false (by omega)),e1,ktz hw (by omega),en]
 have e2:IntKind.wrap .u64 (((2^k:Nat):Int)*285870213051353865)=((2^k*285870213051353865%18446744073709551616:Nat):Int):=by
  rw[wrapU,show((2^k:Nat):Int)*285870213051353865=((2^k*285870213051353865:Nat):Int)from by simp];rfl
 have ht:=tz_idx ⟨k,hk⟩;dsimp only at ht;rw[e2,show(58:Int)=((58:Nat):Int)from rfl,kyd,show 2^min 58 64=288230376151711744 from rfl];generalize hJ:2^k*285870213051353865%18446744073709551616/288230376151711744=J at *
 have hJ64:J<64:=by
  rw[← hJ,Nat.div_lt_iff_lt_mul (by decide)];exact Nat.mod_lt _ (by decide)
 have ei:idx (some (Ref.old ⟨Gl.math_bits_deBruijn64tab,0,none⟩)) 64 (J:Int) 1=some (.old ⟨Gl.math_bits_deBruijn64tab,J,none⟩):=by
  rw[kee _ _ _ _ (by omega) (by omega),Int.toNat_natCast,Nat.mul_one];simp[Ref.add,Addr.add];exact fun h=>h.symm
 rw[ei,Option.bind_some,T J hJ64,ht];show some (AV.int .i64 (IntKind.wrap .i64 (k:Int)),h)=_;rw[wrap64 (by omega) (by omega)]
def wbit(w:List Nat)(i:Nat):Bool:=(w.getD (i/64) 0).testBit (i%64)
def btR(n:Int)(w:List Nat):Bool:=decide (0≤n)&&(decide (n≤65536)&&(decide (w.length=(n.toNat+63)/64)&&(List.range (64*w.length)).all fun i=>decide (i<n.toNat)||!wbit w i))
theorem kbhn{x k:Nat}:x<2^k↔∀i,k≤i→x.testBit i=false :=
 ⟨fun h i hi=>Nat.testBit_lt_two_pow (Nat.lt_of_lt_of_le h (Nat.pow_le_pow_right (by decide) hi)),fun h=>Nat.lt_pow_two_of_testBit x h⟩
section
variable{h0:AH}{s:Sl}{w:List Nat}{n:Int}
theorem Nats.rdN{h:AH}(N:Nats h s w){i:Nat}(hi:i<w.length):∃r:Ref,idx s.ref s.len (i:Int) 1=some r∧(h.cell r).bind (AV.asInt .u64)=some (w[i]:Int):=by
 obtain⟨r,e1,e2⟩:=N.at hi;exact⟨r,e1,rdc e2 (kc _ _)⟩
theorem kog(N:Nats h0 s w):Runs (go (.fn F.ki9 [.agg [.int .i64 n,s.v]]) h0) fun v h'=>v=.bool (btR n w)∧Grow h0 h':=by
 rw[kbc6];refine Runs.new fun h1 b1 g1=>Runs.step (b1.rd 0 rfl (kc _ _)) (Runs.cond (fun c=>?_) fun c=>?_)
 ·rw[decide_eq_true_eq]at c;refine Runs.ret ⟨?_,g1⟩;unfold btR;rw[decide_eq_false (by omega)];rfl
 rw[decide_eq_false_iff_not]at c;refine Runs.step (b1.rd 0 rfl (kc _ _)) (Runs.cond (fun c2=>?_) fun c2=>?_)
 ·rw[decide_eq_true_eq]at c2;refine Runs.ret ⟨?_,g1⟩;unfold btR;rw[decide_eq_false (show¬n≤65536 by omega)];simp
 rw[decide_eq_false_iff_not]at c2;obtain⟨z,rfl⟩:∃z:Nat,n=(z:Int):=⟨n.toNat,by omega⟩;have N1:=N.grow g1;refine Runs.step (b1.rd 1 rfl (asSl_v _)) (Runs.step (b1.rd 0 rfl (kc _ _)) ?_);rw[N.len,wrap64 (n:=(z:Int)+64) (by omega) (by omega),wrap64 (n:=(z:Int)+64-1) (by omega) (by omega),show(z:Int)+64-1=((z+63:Nat):Int)from by omega,show Int.tdiv ((z+63:Nat):Int) 64=(((z+63)/64:Nat):Int)from rfl,wrap64 (by omega) (by omega)]
 have hb:btR (z:Int) w=(decide (w.length=(z+63)/64)&&(List.range (64*w.length)).all fun i=>decide (i<z)||!wbit w i):=by
  unfold btR;rw[decide_eq_true (show(0:Int)≤(z:Int) by omega),decide_eq_true (show(z:Int)≤65536 by omega),Int.toNat_natCast];rfl
 rw[hb];refine Runs.cond (fun c3=>?_) fun c3=>?_
 ·refine Runs.ret ⟨?_,g1⟩;rw[Bool.not_eq_true',decide_eq_false_iff_not]at c3;rw[decide_eq_false (by omega)];rfl
 rw[Bool.not_eq_false',decide_eq_true_eq]at c3;have hl:w.length=(z+63)/64:=by omega
 rw[decide_eq_true hl,Bool.true_and];refine Runs.step (b1.rd 0 rfl (kc _ _)) ?_;rw[show Int.tmod (z:Int) 64=((z%64:Nat):Int)from rfl];refine Runs.cond (fun c4=>?_) fun c4=>?_
 ·rw[decide_eq_true_eq]at c4;refine Runs.ret ⟨congrArg AV.bool ?_,g1⟩;symm;rw[List.all_eq_true];intro i hi;rw[List.mem_range]at hi;rw[decide_eq_true (by omega)];rfl
 rw[decide_eq_false_iff_not]at c4;have hi:z/64<w.length:=by omega
 obtain⟨r,e1,e2⟩:=N1.rdN hi;refine Runs.step (b1.rd 1 rfl (asSl_v _)) (Runs.step (b1.rd 1 rfl (asSl_v _)) ?_);rw[N.len,show((w.length:Nat):Int)-1=((z/64:Nat):Int)from by omega,wrap64 (by omega) (by omega)];rw[N.len]at e1;refine Runs.step e1 (Runs.step e2 (Runs.step (b1.rd 0 rfl (kc _ _)) ?_));rw[show Int.tmod (z:Int) 64=((z%64:Nat):Int)from rfl,kyd];refine Runs.ifF (decide_eq_false (by omega)) (Runs.ret ⟨congrArg AV.bool ?_,g1⟩);rw[Bool.eq_iff_iff,decide_eq_true_eq,List.all_eq_true,Nat.min_eq_left (by omega)]
 have hx:((w[z/64]/2^(z%64):Nat):Int)=0↔w[z/64]<2^(z%64):=by
  have:=Nat.div_eq_zero_iff (a:=w[z/64]) (b:=2^(z%64));have:=Nat.two_pow_pos (z%64);omega
 rw[hx,kbhn];have hg:w.getD (z/64) 0=w[z/64]:=by simp[List.getD,hi]
 constructor
 ·intro H i hi';rw[List.mem_range]at hi';rcases Nat.lt_or_ge i z with h | h
  ·rw[decide_eq_true h];rfl
  ·have:i/64=z/64:=by omega
   unfold wbit;rw[this,hg,H (i%64) (by omega)];simp
 ·intro H j hj;rcases Nat.lt_or_ge j 64 with h | h
  ·have:=H (64*(z/64)+j) (by rw[List.mem_range];omega);unfold wbit at this;rw[decide_eq_false (by omega),show(64*(z/64)+j)/64=z/64 from by omega,show(64*(z/64)+j)%64=j from by omega,hg]at this
   simpa using this
  ·exact Nat.testBit_lt_two_pow (Nat.lt_of_lt_of_le (N.lt _ (List.getElem_mem hi)) (show 2^64≤2^j from Nat.pow_le_pow_right (by decide) h))
end
end Go.Ab

/- squeezed -/
set_option maxRecDepth 10000
namespace Go.Ab
open Go.Proofs
def zs(l:List Nat):List Int:=l.map fun x:Nat=>(x:Int)
theorem zs_len(l:List Nat):(zs l).length=l.length:=List.length_map _
theorem zs_app(l m:List Nat):zs (l++m)=zs l++zs m:=List.map_append
theorem knb{n:Nat}(h:n≤1000000):growOk Pg n T.int 1=true:=by
 unfold growOk;rw[kben,k9w];have h1:n*8≤kbg:=by simp only[kbg];omega
 have h2:n≤kbg:=by simp only[kbg];omega
 simp[h1,h2]
def btL(n:Int)(w:List Nat):List Nat:=if btR n w then(List.range n.toNat).filter (wbit w)else []
theorem btR_n{n:Int}{w:List Nat}(h:btR n w=true):0≤n∧n≤65536∧w.length=(n.toNat+63)/64∧∀i,i<64*w.length→n.toNat≤i→wbit w i=false:=by
 unfold btR at h;simp only[Bool.and_eq_true,decide_eq_true_eq,List.all_eq_true,List.mem_range,Bool.or_eq_true,Bool.not_eq_true']at h;exact⟨h.1,h.2.1,h.2.2.1,fun i hi hn=>(h.2.2.2 i hi).resolve_left (by omega)⟩
theorem btR_of{n:Int}{w:List Nat}(h1:0≤n)(h2:n≤65536)(h3:w.length=(n.toNat+63)/64)(h4:∀i,i<64*w.length→n.toNat≤i→wbit w i=false):btR n w=true:=by
 unfold btR;simp only[Bool.and_eq_true,decide_eq_true_eq,List.all_eq_true,List.mem_range,Bool.or_eq_true,Bool.not_eq_true'];exact⟨h1,h2,h3,fun i hi=>(Nat.lt_or_ge i n.toNat).imp_right (h4 i hi)⟩
section
variable{h0:AH}{s:Sl}{w:List Nat}{n:Int}
theorem k7l{i:Nat}:∀(k j:Nat),j+k=i%64→∀(x:Nat)(h:AH),x<18446744073709551616→
  go (.pt F.ke7 Td.kqk [(1,.int .i64 (i:Int)),(5,.int .u64 (x:Int)),(6,.int .i64 (j:Int))]) h=some (.bool (x.testBit k),h):=by
 intro k
 induction k with
 | zero =>
  intro j hj x h hx;rw[k0b,show Int.tmod (i:Int) 64=((i%64:Nat):Int)from rfl,condF (decide_eq_false (by omega)),show Int.tmod (x:Int) 2=((x%2:Nat):Int)from rfl]
  have:x.testBit 0=decide (((x%2:Nat):Int)=1):=by
   rw[Nat.testBit_zero,decide_eq_decide];omega
  rw[this]
 | succ k ih =>
  intro j hj x h hx;rw[k0b,show Int.tmod (i:Int) 64=((i%64:Nat):Int)from rfl,condT (decide_eq_true (by omega)),show Int.tdiv (x:Int) 2=((x/2:Nat):Int)from rfl,kj (by omega)];have:IntKind.wrap .u64 ((x/2:Nat):Int)=((x/2:Nat):Int):=by rw[wrapU];omega
  rw[this,ih (j+1) (by omega) (x/2) h (by omega),Nat.testBit_succ]
theorem kpg(N:Nats h0 s w){i:Nat}(hi:i/64<w.length)(hl:i<4611686018427387904):Runs (go (.fn F.ke7 [.agg [.int .i64 n,s.v],.int .i64 (i:Int)]) h0) fun v h'=>v=.bool (wbit w i)∧Grow h0 h':=by
 rw[kbib];refine Runs.new fun h1 b1 g1=>Runs.step (b1.rd 1 rfl (asSl_v _)) ?_;obtain⟨r,e1,e2⟩:=(N.grow g1).rdN hi;rw[show Int.tdiv (i:Int) 64=((i/64:Nat):Int)from rfl,wrap64 (by omega) (by omega)];refine Runs.step e1 (Runs.step e2 ?_);rw[show(0:Int)=((0:Nat):Int)from rfl,k7l (i%64) 0 (by omega) _ _ (N.lt _ (List.getElem_mem hi))];refine Runs.ret ⟨?_,g1⟩;unfold wbit;simp[List.getD,hi]
theorem kbhy{b:Nat}(N:Nats h0 s w)(hl:w.length≤2000)(hb:h0.has b [.int .i64 n,s.v] T.ko):∀(k i:Nat),(64*w.length)≤i+k→∀{h:AH},Grow h0 h→
  Runs (go (.pt F.kgo Td.knm [(1,.ptr (some (.new b 0))),(3,.int .i64 (i:Int))]) h) fun v h'=>v=.bool (((List.range (64*w.length)).drop i).all fun j=>!wbit w j)∧Grow h0 h':=by
 intro k
 induction k with
 | zero =>
  intro i hi h g;rw[kzu];refine Runs.step ((g.has hb).rd 1 rfl (asSl_v _)) ?_;rw[N.len,wrap64 (by omega) (by omega)];refine Runs.ifF (decide_eq_false (by omega)) (Runs.ret ⟨?_,g⟩);rw[kob (by simp;omega)]
 | succ k ih =>
  intro i hi h g;rw[kzu];refine Runs.step ((g.has hb).rd 1 rfl (asSl_v _)) ?_;rw[N.len,wrap64 (by omega) (by omega)];refine Runs.cond (fun c=>?_) fun c=>?_
  ·rw[decide_eq_true_eq]at c;refine Runs.step ((g.has hb).rd 0 rfl (kc _ _)) (Runs.step ((g.has hb).rd 1 rfl (asSl_v _)) ?_);refine(kpg (N.grow g) (i:=i) (by omega) (by omega)).call fun v h1 ⟨e,g1⟩=>?_;subst e;refine Runs.step (seen rfl) ?_;rw[kr4 (by omega)];refine Runs.cond (fun c2=>Runs.ret ⟨by rw[c2];rfl,g.trans g1⟩) fun c2=>?_;rw[kj (by omega),c2];exact ih (i+1) (by omega) (g.trans g1)
  ·rw[decide_eq_false_iff_not]at c;refine Runs.ret ⟨?_,g⟩;rw[kob (by simp;omega)]
theorem kyw(N:Nats h0 s w):Runs (go (.fn F.kgo [.agg [.int .i64 n,s.v]]) h0) fun v h'=>v=.bool (btR n w)∧Grow h0 h':=by
 rw[k59];refine Runs.new fun h1 b1 g1=>Runs.step (b1.rd 0 rfl (kc _ _)) (Runs.cond (fun c=>?_) fun c=>?_)
 ·rw[decide_eq_true_eq]at c;refine Runs.ret ⟨?_,g1⟩;unfold btR;rw[decide_eq_false (by omega)];rfl
 rw[decide_eq_false_iff_not]at c;refine Runs.step (b1.rd 0 rfl (kc _ _)) (Runs.cond (fun c2=>?_) fun c2=>?_)
 ·rw[decide_eq_true_eq]at c2;refine Runs.ret ⟨?_,g1⟩;unfold btR;rw[decide_eq_false (show¬n≤65536 by omega)];simp
 rw[decide_eq_false_iff_not]at c2;obtain⟨z,rfl⟩:∃z:Nat,n=(z:Int):=⟨n.toNat,by omega⟩;have N1:=N.grow g1;refine Runs.step (b1.rd 1 rfl (asSl_v _)) (Runs.step (b1.rd 0 rfl (kc _ _)) ?_);rw[N.len,wrap64 (n:=(z:Int)+63) (by omega) (by omega),show(z:Int)+63=((z+63:Nat):Int)from by omega,show Int.tdiv ((z+63:Nat):Int) 64=(((z+63)/64:Nat):Int)from rfl,wrap64 (by omega) (by omega)]
 have hb:btR (z:Int) w=(decide (w.length=(z+63)/64)&&(List.range (64*w.length)).all fun i=>decide (i<z)||!wbit w i):=by
  unfold btR;rw[decide_eq_true (show(0:Int)≤(z:Int) by omega),decide_eq_true (show(z:Int)≤65536 by omega),Int.toNat_natCast];rfl
 rw[hb];refine Runs.cond (fun c3=>?_) fun c3=>?_
 ·refine Runs.ret ⟨?_,g1⟩;rw[Bool.not_eq_true',decide_eq_false_iff_not]at c3;rw[decide_eq_false (by omega)];rfl
 rw[Bool.not_eq_false',decide_eq_true_eq]at c3;have hl:w.length=(z+63)/64:=by omega
 rw[decide_eq_true hl,Bool.true_and];refine Runs.step (b1.rd 0 rfl (kc _ _)) ?_;refine(kbhy N1 (by omega) b1 (64*w.length) z (by omega) (Grow.refl h1)).imp fun v h' ⟨e,g⟩=>⟨?_,g1.trans g⟩;rw[e];congr 1;rw[Bool.eq_iff_iff,List.all_eq_true,List.all_eq_true];constructor
 ·intro H i hi;rw[List.mem_range]at hi;rcases Nat.lt_or_ge i z with h | h
  ·rw[decide_eq_true h];rfl
  ·rw[H i (by rw[List.mem_drop_iff_getElem];exact⟨i-z,by simp;omega,by simp;omega⟩)];simp
 ·intro H i hi;rw[List.mem_drop_iff_getElem]at hi;obtain⟨j,hj,e⟩:=hi;simp at hj e;have:=H i (by rw[List.mem_range];omega);rw[decide_eq_false (by omega)]at this
  simpa using this
end
end Go.Ab

/- squeezed -/
set_option maxRecDepth 10000
namespace Go.Ab
open Go.Proofs
theorem kwd{w:List Nat}{i j:Nat}(hi:i/64<w.length):wbit (w.set (i/64) (w[i/64]|||2^(i%64))) j=(decide (j=i)||wbit w j):=by
 unfold wbit;by_cases h:j/64=i/64
 ·rw[h];have:(w.set (i/64) (w[i/64]|||2^(i%64))).getD (i/64) 0=w[i/64]|||2^(i%64):=by simp[List.getD,hi]
  rw[this,Nat.testBit_or,Nat.testBit_two_pow];have h2:w.getD (i/64) 0=w[i/64]:=by simp[List.getD,hi]
  rw[h2,Bool.or_comm];congr 1;rw[decide_eq_decide];omega
 ·have h1:(w.set (i/64) (w[i/64]|||2^(i%64))).getD (j/64) 0=w.getD (j/64) 0:=by
   simp only[List.getD];rw[List.getElem?_set_ne (by omega)]
  rw[h1];have:¬j=i:=fun e=>h (by rw[e]);simp[this]
theorem kxf(n i:Nat):wbit (List.replicate n 0) i=false:=by
 unfold wbit
 have:(List.replicate n 0).getD (i/64) 0=0:=by
  simp only[List.getD,List.getElem?_replicate];split<;>rfl
 rw[this];exact Nat.zero_testBit _
section
variable{h0:AH}
theorem k1q{n:Nat}(hn:n≤65536):Runs (go (.fn F.knv [.int .i64 (n:Int)]) h0) fun v h'=>Grow h0 h'∧∃(s:Sl)(i:Nat),v=.tup [.agg [.int .i64 (n:Int),s.v],.int .i64 0]∧h0.blks.size≤i∧Vec h' s i (List.replicate ((n+63)/64) 0):=by
 rw[kbd9];refine Runs.new fun h1 b1 g1=>Runs.ifF (decide_eq_false (by omega)) (Runs.ifF (decide_eq_false (by omega)) ?_);rw[wrap64 (n:=(n:Int)+64) (by omega) (by omega),wrap64 (n:=(n:Int)+64-1) (by omega) (by omega),show(n:Int)+64-1=((n+63:Nat):Int)from by omega,show Int.tdiv ((n+63:Nat):Int) 64=(((n+63)/64:Nat):Int)from rfl,wrap64 (by omega) (by omega)];refine Runs.mk (kd4 (by omega)) kc0 fun s h2 V g2=>?_;refine Runs.puts (g2.has b1) rfl fun h3 b3 u3=>?_;refine Runs.step (b3.rd 0 rfl (kc _ _)) (Runs.step (b3.rd 1 rfl (asSl_v _)) (Runs.ret ⟨(g1.trans g2).updr (Nat.le_refl _) u3,s,h1.blks.size,rfl,g1.size,V.updr (by have:=b1.lt;omega) u3⟩))
end
end Go.Ab

/- squeezed -/
set_option maxRecDepth 10000
namespace Go.Ab
open Go.Proofs
theorem k6n{w:List Nat}{i:Nat}(hi:i<w.length):(List.range (64*(i+1))).filter (wbit w)=(List.range (64*i)).filter (wbit w)++(ones w[i]).map (fun k=>64*i+k):=by
 rw[Nat.mul_add,Nat.mul_one,List.range_add,List.filter_append,List.filter_map];congr 1;unfold ones;congr 1;apply List.filter_congr;intro k hk;rw[List.mem_range]at hk;simp only[Function.comp,wbit];rw[show(64*i+k)/64=i from by omega,show(64*i+k)%64=k from by omega];simp[List.getD,hi]
section
variable{w:List Nat}{s:Sl}{l:Nat}
theorem k4r{Inv:List Nat→AH→Prop}(hT:∀d h,Inv d h→Tab h)(hround:∀d i h,Inv d h→i<64*w.length→d.length<64*w.length→Runs (go (.round l [.int .i64 (i:Int)]) h) fun v h'=>v=.bool true∧Inv (d++[i]) h')(hl:w.length≤2000){i:Nat}(hi:i<w.length){P:AV→AH→Prop} :
  ∀(n x:Nat),x<18446744073709551616→(ones x).length=n→∀(d:List Nat)(h:AH),d.length+n≤64*w.length→Inv d h→(∀h',Inv (d++(ones x).map (fun k=>64*i+k)) h'→Runs (go (.pt F.kb4 Td.knd [(0,.func (.yield l) [] []),(6,s.v),(7,.int .i64 (w.length:Int)),(8,.int .i64 ((i+1:Nat):Int))]) h') P)→
  Runs (go (.pt F.kb4 Td.kpe [(0,.func (.yield l) [] []),(3,.int .i64 (i:Int)),(4,.int .u64 (x:Int)),(6,s.v),(7,.int .i64 (w.length:Int)),(8,.int .i64 (i:Int))]) h) P:=by
 intro n
 induction n with
 | zero =>
  intro x hx hn d h hd I H
  have hx0:x=0:=by
   rcases Nat.eq_zero_or_pos x with h0 | h0
   ·exact h0
   ·obtain⟨k,m,hk,rfl⟩:=kwj 64 x (by omega) hx;rw[kyp hk]at hn;simp at hn
  subst hx0;rw[kym];refine Runs.ifF (by rfl) ?_;rw[kj (by omega)];rw[kxv]at H;exact H h (by simpa using I)
 | succ n ih =>
  intro x hx hn d h hd I H;have hx0:x≠0:=fun e=>by subst e;rw[kxv]at hn;simp at hn
  obtain⟨k,m,hk,hxe⟩:=kwj 64 x hx0 hx;subst hxe;rw[kyp hk]at hn H;rw[kym];refine Runs.ifT (by rw[decide_eq_false (by omega)];rfl) ?_;refine Runs.step (tz_is (hT _ _ I) hk hx) (Runs.step (seen rfl) ?_);rw[wrap64 (n:=64*(i:Int)) (by omega) (by omega),wrap64 (by omega) (by omega),show 64*(i:Int)+(k:Int)=((64*i+k:Nat):Int)from by omega];refine(hround d (64*i+k) h I (by omega) (by omega)).call fun v h1 ⟨e,I1⟩=>?_;subst e;refine Runs.step (seen rfl) (Runs.ifF rfl ?_)
  have e1:IntKind.wrap .u64 (((2^(k+1)*m+2^k:Nat):Int)-1)=((2^(k+1)*m+2^k-1:Nat):Int):=by
   have:=Nat.two_pow_pos k;generalize 2^(k+1)*m+2^k=W at *
   rw[wrapU];omega
  have hle:2^(k+1)*m<18446744073709551616:=by
   have:=Nat.two_pow_pos k;exact Nat.lt_of_le_of_lt (Nat.le_add_right _ _) hx
  dsimp only;rw[e1,ktz hx (by omega),kbhq];refine ih _ hle (by simpa using hn) (d++[64*i+k]) h1 (by rw[List.length_append,List.length_singleton];omega) I1 fun h' I'=>H h' ?_
  simpa using I'
theorem k4q{Inv:List Nat→AH→Prop}(hT:∀d h,Inv d h→Tab h)(hN:∀d h,Inv d h→Nats h s w)(hround:∀d i h,Inv d h→i<64*w.length→d.length<64*w.length→Runs (go (.round l [.int .i64 (i:Int)]) h) fun v h'=>v=.bool true∧Inv (d++[i]) h')(hl:w.length≤2000) :
  ∀(k i:Nat),i+k=w.length→∀h,Inv ((List.range (64*i)).filter (wbit w)) h→
  Runs (go (.pt F.kb4 Td.knd [(0,.func (.yield l) [] []),(6,s.v),(7,.int .i64 (w.length:Int)),(8,.int .i64 (i:Int))]) h) fun v h'=>v=.tup []∧Inv ((List.range (64*w.length)).filter (wbit w)) h':=by
 intro k
 induction k with
 | zero =>
  intro i hi h I;obtain rfl:i=w.length:=by omega
  rw[kzg];exact Runs.ifF (decide_eq_false (by omega)) (Runs.ret ⟨rfl,I⟩)
 | succ k ih =>
  intro i hi h I;have hlt:i<w.length:=by omega
  obtain⟨r,e1,e2⟩:=(hN _ _ I).rdN hlt;rw[kzg];refine Runs.ifT (decide_eq_true (by omega)) (Runs.step e1 (Runs.step e2 ?_));refine k4r hT hround hl hlt _ _ ((hN _ _ I).lt _ (List.getElem_mem hlt)) rfl _ h ?_ I fun h' I'=>?_
  ·have h1:=List.length_filter_le (wbit w) (List.range (64*i));have h2:=List.length_filter_le w[i].testBit (List.range 64);rw[List.length_range]at h1 h2;show _+((List.range 64).filter _).length≤_;omega
  rw[← k6n hlt]at I';exact ih (i+1) (by omega) h' I'
end
end Go.Ab

/- squeezed -/
set_option maxRecDepth 10000
namespace Go.Ab
open Go.Proofs
noncomputable def aNote(st:LoopState)(b:Nat)(g:AV):ABlk:=kcx Fx.kt0 F.kfd 0 st none [(0,(⟨none,0,.is 0⟩:Sl).v),(1,g),(2,.ptr (some (.new b 0))),(4,(⟨none,0,.is 0⟩:Sl).v),(6,g)]
structure Coll(h0:AH)(b l:Nat)(g:AV)(d:List Nat)(h:AH):Prop where
 grow:Grow h0 h
 note:h.blks[l]?=some (aNote .ready b g)
 out:∃(t:Sl)(j:Option Nat),h.has b [t.v] T.kcp∧LeO (l+1) j∧GF EI T.int h Fp.no t j (zs d)
theorem kdx{m n:Nat}(h:m<n):∀{j:Option Nat},LeO n j→∀k,j=some k→k≠m
 | some x,l,k,e=>by cases e;have:n≤x:=l;omega
theorem kbh0{h0 h:AH}{b l:Nat}{g:AV}{d:List Nat}(hb:h0.blks.size≤b)(hbl:b<l)(I:Coll h0 b l g d h)(hd:d.length<900000)(i:Nat):Runs (go (.round l [.int .i64 (i:Int)]) h) fun v h'=>v=.bool true∧Coll h0 b l g (d++[i]) h':=by
 obtain⟨G,hn,t,j,B,lj,V⟩:=I;have hl:l<h.blks.size:=(Array.getElem?_eq_some_iff.1 hn).1;rw[kbkk l none _ _ _ _ _ _ _ hn,koh (h:=h) hn,Option.bind_some];generalize hq:h.setBlk l _=h1;have u1:Upd h h1 l:=by rw[← hq];exact AH.setBlk_Upd _
 have n1:h1.blks[l]?=some (aNote .busy b g):=by rw[← hq];exact AH.setBlk_get hl
 have B1:h1.has b [t.v] T.kcp:=B.updr (by omega) u1;have V1:GF EI T.int h1 Fp.no t j (zs d):=V.upd u1 Fp.not_no (kdx (Nat.lt_succ_self l) lj);refine Runs.step (B1.rd0 rfl (asSl_v _)) ?_;refine Runs.new fun h2 b2 g2=>?_;refine Runs.step (kgv b2 (by rw[kjq];rfl)) ?_;obtain⟨t',h3,e3,V3,u3⟩:=(V1.grow g2).push (T:=Fp.no) (cs:=[.int .i64 (i:Int)]) (x:=(i:Int)) rfl NotO.no (knb (by rw[zs_len];omega));refine Runs.step e3 (Runs.step (asSl_v _) ?_);have m3:Md (Fp.opt j) h2 h3:=u3.md fun k e=>e;have no:∀{m:Nat},m≤l→¬Fp.opt j m:=fun hm e=>kdx (Nat.lt_succ_of_le hm) lj _ e rfl;have B3:h3.has b [t.v] T.kcp:=m3.has (g2.has B1) (no (by omega));have n3:h3.blks[l]?=some (aNote .busy b g):=m3.get ((g2.blk l (Array.getElem?_eq_some_iff.1 n1).1).trans n1) (no (Nat.le_refl _));refine Runs.puts B3 rfl fun h4 B4 u4=>?_;have n4:h4.blks[l]?=some (aNote .busy b g):=(u4.blk l (by omega) (Array.getElem?_eq_some_iff.1 n3).1).trans n3;rw[kmt n4];have u5:Upd h4 (h4.setBlk l (aNote .ready b g)) l:=AH.setBlk_Upd _;have hs:h.blks.size≤h2.blks.size:=Nat.le_trans u1.size g2.size;refine Runs.ret ⟨rfl,?_,AH.setBlk_get (Array.getElem?_eq_some_iff.1 n4).1,t',some h2.blks.size,B4.updr (by omega) u5,show l+1≤h2.blks.size by omega,?_⟩
 ·have G2:Grow h0 h2:=(G.updr (by omega) u1).trans g2;have G3:Grow h0 h3:=G2.updo (LeO.trans (by omega) lj) u3;exact(G3.updr hb u4).updr (by omega) u5
 ·rw[zs_app];have V4:GF EI T.int h3 Fp.no t' (some h2.blks.size) (zs d++[(i:Int)]):=V3.mono (fun j x=>x.1.elim id id) NotO.no;have:=(V4.upd u4 Fp.not_no fun k e=>by cases e;omega).upd u5 Fp.not_no fun k e=>by cases e;omega
  exact this
section
variable{h0:AH}{s:Sl}{w:List Nat}{n:Int}
theorem kbe7(T0:Tab h0)(N:Nats h0 s w):Runs (go (.fn F.kp1 [.agg [.int .i64 n,s.v]]) h0) fun v h'=>Grow h0 h'∧∃(t':Sl)(j':Option Nat),v=t'.v∧LeO h0.blks.size j'∧GF EI T.int h' Fp.no t' j' (zs (btL n w)):=by
 rw[k62];refine Runs.new fun h1 b1 g1=>Runs.step (b1.rd 0 rfl (kc _ _)) (Runs.step (b1.rd 1 rfl (asSl_v _)) ?_);refine(kog (N.grow g1)).call fun v h2 ⟨e,g2⟩=>?_;subst e;refine Runs.step (seen rfl) ?_;cases hR:btR n w with
 | false =>
  refine Runs.ifT rfl (Runs.ret ⟨g1.trans g2,_,none,rfl,trivial,?_⟩);unfold btL;rw[hR];exact GF.none _ _ _ _
 | true =>
  obtain⟨hn0,hn1,hlen,hov⟩:=btR_n hR;refine Runs.ifF rfl (Runs.step ((g2.has b1).rd 0 rfl (kc _ _)) (Runs.step ((g2.has b1).rd 1 rfl (asSl_v _)) ?_))
  have k0:Runs (go (.fn F.kro [.agg [.int .i64 n,s.v]]) h2) fun v h'=>v=.func (.func F.kb4) [] [.ptr (some (.new h2.blks.size 0))]∧h'.has h2.blks.size [.int .i64 n,s.v] T.ko∧Grow h2 h':=by
   rw[kbea];exact Runs.new fun h3 b3 g3=>Runs.ret ⟨rfl,b3,g3⟩
  refine k0.call fun v h3 ⟨e,b3,g3⟩=>?_;subst e;have G3:Grow h0 h3:=(g1.trans g2).trans g3
  have key:Runs (go (.fn F.kfd [(⟨none,0,.is 0⟩:Sl).v,.func (.func F.kb4) [] [.ptr (some (.new h2.blks.size 0))]]) h3) fun v h'=>Grow h3 h'∧∃(t':Sl)(j':Option Nat),v=t'.v∧LeO h3.blks.size j'∧GF EI T.int h' Fp.no t' j' (zs (btL n w)):=by
   rw[kbb0];refine Runs.new fun h4 b4 g4=>?_;rw[kbfz,knp];refine Runs.newM fun h5 hb g5=>?_;rw[kbkx];generalize hgv:(AV.func (.func F.kb4) [] [AV.ptr (some (Ref.new h2.blks.size 0))])=gv at hb;have s4:h3.blks.size<h4.blks.size:=b4.lt;have b3':h5.has h2.blks.size [.int .i64 n,s.v] T.ko:=g5.has (g4.has b3);have I0:Coll h3 h3.blks.size h4.blks.size gv [] h5:=⟨g4.trans g5,hb,_,none,g5.has b4,trivial,GF.none _ _ _ _⟩;have N3:Nats h3 s w:=N.grow G3;have T3:Tab h3:=T0.grow G3
   have k1:Runs (go (.fn F.kb4 [.func (.yield h4.blks.size) [] [],.ptr (some (.new h2.blks.size 0))]) h5) fun v h'=>v=.tup []∧Coll h3 h3.blks.size h4.blks.size gv ((List.range (64*w.length)).filter (wbit w)) h':=by
    rw[kbhk];refine Runs.step (b3'.rd 1 rfl (asSl_v _)) ?_;rw[N.len];exact k4q (Inv:=Coll h3 h3.blks.size h4.blks.size gv) (fun d h I=>T3.grow I.grow) (fun d h I=>N3.grow I.grow) (fun d i h I hi hd=>kbh0 (Nat.le_refl _) s4 I (by omega) i) (by omega) w.length 0 (by omega) h5 (by simpa using I0)
   refine k1.call fun v h6 ⟨e,I⟩=>?_;obtain⟨G,hn,t,j,B,lj,V⟩:=I;rw[kp6 hn,Option.bind_some];rw[k7m];have hl:=(Array.getElem?_eq_some_iff.1 hn).1;have u6:Upd h6 (h6.setBlk h4.blks.size .dead) h4.blks.size:=AH.setBlk_Upd _;refine Runs.step ((B.updr (by omega) u6).rd0 rfl (asSl_v _)) (Runs.ret ⟨G.updr (by omega) u6,t,j,rfl,LeO.trans (by omega) lj,?_⟩)
   have e:btL n w=(List.range (64*w.length)).filter (wbit w):=by
    unfold btL;rw[hR,if_pos rfl];obtain⟨z,rfl⟩:∃z:Nat,n=(z:Int):=⟨n.toNat,by omega⟩;rw[Int.toNat_natCast]at hlen hov⊢;obtain⟨q,hq⟩:∃q,64*w.length=z+q:=⟨64*w.length-z,by omega⟩;rw[hq,List.range_add,List.filter_append]
    have:((List.range q).map (z + ·)).filter (wbit w)=[]:=List.filter_eq_nil_iff.2 fun x hx=>by
     rw[List.mem_map]at hx;obtain⟨y,hy,rfl⟩:=hx;rw[List.mem_range]at hy;rw[hov (z+y) (by omega) (by omega)];simp
    rw[this,List.append_nil]
   rw[e];exact V.upd u6 Fp.not_no (kdx (Nat.lt_succ_self _) lj)
  have k2:Runs (go (.fn F.kuj [.func (.func F.kb4) [] [.ptr (some (.new h2.blks.size 0))]]) h3) fun v h'=>Grow h3 h'∧∃(t':Sl)(j':Option Nat),v=t'.v∧LeO h3.blks.size j'∧GF EI T.int h' Fp.no t' j' (zs (btL n w)):=by
   rw[kbdh];refine key.call fun v h' ⟨g,t',j',e,lj,V⟩=>?_;subst e;exact Runs.step (seen (asSl_v _)) (Runs.ret ⟨g,t',j',rfl,lj,V⟩)
  refine k2.call fun v h' ⟨g,t',j',e,lj,V⟩=>?_;subst e;exact Runs.step (seen (asSl_v _)) (Runs.ret ⟨G3.trans g,t',j',rfl,LeO.trans G3.size lj,V⟩)
end
end Go.Ab

/- squeezed -/
set_option maxRecDepth 10000
namespace Go.Ab
open Go.Proofs
theorem kbiv{w:List Nat}{i x:Nat}(hi:i<w.length)(j:Nat):wbit (w.set i x) j=if j/64=i then x.testBit (j%64)else wbit w j:=by
 unfold wbit;split
 ·rename_i h;rw[h];have:(w.set i x).getD i 0=x:=by simp[List.getD,hi]
  rw[this]
 ·rename_i h
  have:(w.set i x).getD (j/64) 0=w.getD (j/64) 0:=by
   simp only[List.getD];rw[List.getElem?_set_ne (by omega)]
  rw[this]
theorem k1h{w:List Nat}{j:Nat}(h:w.length≤j/64):wbit w j=false:=by
 unfold wbit;have:w.getD (j/64) 0=0:=by simp[List.getD,h]
 rw[this];exact Nat.zero_testBit _
section
variable{h0:AH}{S:Fp}{s:Sl}
theorem kbbj{xs:List Int}(n:Sq EI h0 S s xs){b:Nat}{z:Int}{e:TypeId}(hb:h0.has b [.int .i64 z] e):Runs (go (.fn F.kdu [s.v,.func (.func F.kd3) [] [.ptr (some (.new b 0))]]) h0) fun v h'=>v=.bool (xs.any fun x=>decide (x<0)||decide (x≥z))∧Grow h0 h':=by
 rw[kbeh];refine Runs.contains (xs:=xs) ?_;rw[k3t,n.len];refine klc (n:=xs.length) (G:=fun y h=>go (.pt F.kbm Td.kcl [(0,s.v),(1,.func (.func F.kd3) [] [.ptr (some (.new b 0))]),(7,.int .i64 (xs.length:Int)),(8,.int .i64 y)]) h) (fun i h P hi g hT hF=>?_) (fun h g=>?_) xs.length 0 (by omega) (Grow.refl h0) (fun j hj=>by omega)
 ·obtain⟨r,e1,e2⟩:=(n.grow g).int hi;rw[List.getElem?_eq_getElem hi]at hT hF;simp only[Option.any_some]at hT hF;show Runs (go _ _) _;rw[kza];refine Runs.ifT (decide_eq_true (by omega)) (Runs.step e1 (Runs.step e2 ?_))
  have key:Runs (go (.fn F.kd3 [.int .i64 xs[i],.ptr (some (.new b 0))]) h) fun v h'=>v=.bool (decide (xs[i]<0)||decide (xs[i]≥z))∧h'=h:=by
   rw[kbit];cases decide (xs[i]<0)
   ·refine Runs.ifF rfl (Runs.step rfl (Runs.step ((g.has hb).rd0 rfl (kc _ _)) ?_));exact Runs.ret ⟨rfl,rfl⟩
   ·exact Runs.ret ⟨rfl,rfl⟩
  refine key.call fun v h' ⟨ev,eh⟩=>?_;subst ev;subst eh;refine Runs.step (seen rfl) ?_;rw[kj (by have:=n.short;omega)];exact Runs.cond (fun c=>Runs.ret (hT _ g c)) fun c=>hF _ g c
 ·rw[kza,condF (decide_eq_false (by omega))]
theorem kbk4{l:List Nat}{n:Nat}(q:Sq EI h0 S s (zs l))(hl:∀x∈l,x<n)(hn:n≤65536){b c i:Nat}{t:Sl}(hb:h0.blks.size≤b)(hci:c≠i)(hbc:b≠c)(hbi:b≠i)(hi:h0.blks.size≤i):∀(k j:Nat),j+k=l.length→∀(h:AH)(w:List Nat),Grow h0 h→(∃cs:List AV,cs.length=2∧h.has b cs T.ko)→h.has c [.int .i64 (n:Int),t.v] T.ko→Vec h t i w→w.length=(n+63)/64→(∀m,wbit w m=decide (m∈l.take j))→
  Runs (go (.pt F.kic Td.knq [(4,.ptr (some (.new b 0))),(6,.ptr (some (.new c 0))),(23,s.v),(24,.int .i64 (l.length:Int)),(25,.int .i64 (j:Int))]) h) fun v h'=>Grow h0 h'∧∃(t:Sl)(w:List Nat),v=.tup [.agg [.int .i64 (n:Int),t.v],.int .i64 0]∧Nats h' t w∧w.length=(n+63)/64∧Own h0 t∧∀m,wbit w m=decide (m∈l):=by
 intro k
 induction k with
 | zero =>
  intro j hj h w g ⟨cs,hcs,B⟩ C V hw hm;obtain rfl:j=l.length:=by omega
  rw[k2n];refine Runs.ifF (decide_eq_false (by omega)) (Runs.step (C.rd 0 rfl (kc _ _)) (Runs.step (C.rd 1 rfl (asSl_v _)) ?_));refine Runs.puts B (by rw[hcs];rfl) fun h1 B1 u1=>?_;refine Runs.step (B1.rd 0 rfl (kc _ _)) (Runs.step (B1.rd 1 rfl (asSl_v _)) (Runs.ret ⟨g.updr hb u1,t,w,rfl,(V.updr (fun e=>hbi e.symm) u1).nats,hw,V.own hi,fun m=>?_⟩));rw[hm,List.take_length]
 | succ k ih =>
  intro j hj h w g hB C V hw hm;have hj':j<(zs l).length:=by rw[zs_len];omega
  obtain⟨r,e1,e2⟩:=(q.grow g).int hj';have hx:(zs l)[j]=((l[j]'(by omega):Nat):Int):=by simp[zs]
  have hjl:j<l.length:=by omega
  have hxn:l[j]<n:=hl _ (List.getElem_mem hjl);have hq:l[j]/64<w.length:=by omega
  rw[k2n];refine Runs.ifT (decide_eq_true (by omega)) (Runs.step e1 (Runs.step e2 ?_));rw[hx];refine Runs.step (C.rd 1 rfl (asSl_v _)) ?_;rw[show Int.tdiv ((l[j]:Nat):Int) 64=((l[j]/64:Nat):Int)from rfl,wrap64 (by omega) (by omega),show Int.tmod ((l[j]:Nat):Int) 64=((l[j]%64:Nat):Int)from rfl,V.len];refine Runs.step (V.idx rfl (kz hq)) (Runs.step (V.rd rfl (kz hq) (kc _ _)) (Runs.ifF (decide_eq_false (by omega)) (Runs.step (V.idx rfl (kz hq)) ?_)));have hwl:w[l[j]/64]<18446744073709551616:=V.lt _ (List.getElem_mem hq);have hpl:2^(l[j]%64)<2^64:=Nat.pow_lt_pow_right (by decide) (by omega);have hgd:w.getD (l[j]/64) 0=w[l[j]/64]:=by simp[List.getD,hq]
  rw[hgd,k76 (by omega),or_nat hwl hpl];refine Runs.vput V rfl (kz hq) (kbf (Nat.or_lt_two_pow (n:=64) hwl hpl)) fun h1 V1 u1=>?_;rw[kj (by have:=q.short;rw[zs_len]at this;omega)];obtain⟨cs,hcs,B⟩:=hB;refine ih (j+1) (by omega) h1 _ (g.updr hi u1) ⟨cs,hcs,B.updr hbi u1⟩ (C.updr hci u1) V1 (by rw[List.length_set];exact hw) fun m=>?_;rw[kwd hq,hm,List.take_succ_eq_append_getElem hjl,Bool.eq_iff_iff];simp only[Bool.or_eq_true,decide_eq_true_eq,List.mem_append,List.mem_singleton];exact Or.comm
theorem kbff{l:List Nat}{n:Nat}(q:Sq EI h0 S s (zs l))(hl:∀x∈l,x<n)(hn:n≤65536):Runs (go (.fn F.kic [.int .i64 (n:Int),s.v]) h0) fun v h'=>Grow h0 h'∧∃(t:Sl)(w:List Nat),v=.tup [.agg [.int .i64 (n:Int),t.v],.int .i64 0]∧Nats h' t w∧w.length=(n+63)/64∧Own h0 t∧∀m,wbit w m=decide (m∈l):=by
 rw[kbhv];refine Runs.new fun h1 b1 g1=>Runs.new fun h2 b2 g2=>Runs.step ((g2.has b1).rd0 rfl (kc _ _)) ?_;refine(k1q hn).call fun v h3 ⟨g3,t,i,e,hi,V⟩=>?_;subst e;refine Runs.step rfl (Runs.step rfl (Runs.ifT rfl (Runs.step rfl (Runs.step (seenAt rfl (asSl_v _)) (Runs.step rfl ?_)))));dsimp only;refine Runs.new fun h4 b4 g4=>Runs.puts b4 rfl fun h5 b5 u5=>Runs.ifF rfl ?_;have s1:h0.blks.size<h1.blks.size:=b1.lt;have s2:h1.blks.size<h2.blks.size:=b2.lt;have s3:i<h3.blks.size:=V.inn;have s4:h2.blks.size≤h3.blks.size:=g3.size;have G4:Grow h0 h4:=(((g1.trans g2).trans g3).trans g4);have G5:Grow h0 h5:=G4.updr (by have:=G4.size;omega) u5;have G25:Grow h2 h5:=(g3.trans g4).updr (by omega) u5;refine(kbbj (q.grow G5) (G25.has (g2.has b1))).call fun v h6 ⟨e,g6⟩=>?_;subst e
 have hany:((zs l).any fun x=>decide (x<0)||decide (x≥(n:Int)))=false:=by
  rw[List.any_eq_false];intro x hx;unfold zs at hx;rw[List.mem_map]at hx;obtain⟨y,hy,rfl⟩:=hx;have:=hl y hy;simp;omega
 rw[hany];refine Runs.step (seen rfl) (Runs.ifF rfl ?_);rw[q.len,zs_len];have V6:Vec h6 t i (List.replicate ((n+63)/64) 0):=((V.grow g4).updr (by omega) u5).grow g6;exact kbk4 q hl hn (b:=h1.blks.size) (c:=h3.blks.size) (i:=i) (by omega) (by omega) (by omega) (by omega) (by omega) l.length 0 (by omega) h6 _ (G5.trans g6) ⟨_,rfl,g6.has (G25.has b2)⟩ (g6.has b5) V6 (by simp) (fun m=>by rw[kxf];simp)
end
end Go.Ab

/- squeezed -/
set_option maxRecDepth 10000
namespace Go.Ab
open Go.Proofs
def andL(n1:Int)(w1:List Nat)(n2:Int)(w2:List Nat):List Nat:=if btR n1 w1&&(btR n2 w2&&decide (n1=n2))then(btL n1 w1).filter (wbit w2)else []
def SetP(h0:AH)(l:List Nat)(v:AV)(h':AH):Prop:=Grow h0 h'∧∃(n:Int)(t:Sl)(w:List Nat)(e:Int),v=.tup [.agg [.int .i64 n,t.v],.int .i64 e]∧Nats h' t w∧Own h0 t∧btL n w=l
theorem kbf1:btL 0 []=[]:=by
 unfold btL;split<;>rfl
section
variable{h0:AH}{s1 s2:Sl}{w1 w2:List Nat}{n1 n2:Int}
theorem k7d(N1:Nats h0 s1 w1)(N2:Nats h0 s2 w2)(hl:w1.length=w2.length)(hs:w1.length≤2000){b1 b2 b3 b4 i:Nat}{t:Sl}{x1 x2:Int}(i1:b1≠i)(i2:b2≠i)(i3:b3≠i)(i4:b4≠i)(h3:h0.blks.size≤b3)(hi:h0.blks.size≤i):∀(k j:Nat),j+k=w1.length→∀(h:AH)(w:List Nat),Grow h0 h→h.has b1 [.int .i64 x1,s1.v] T.ko→h.has b2 [.int .i64 x2,s2.v] T.ko→(∃cs:List AV,cs.length=2∧h.has b3 cs T.ko)→h.has b4 [.int .i64 n1,t.v] T.ko→Vec h t i w→w.length=w1.length→(∀m,m/64<j→wbit w m=(wbit w1 m&&wbit w2 m))→
  Runs (go (.pt F.kir Td.kq2 [(2,.func (.func F.kfv) [] []),(3,.ptr (some (.new b1 0))),(4,.ptr (some (.new b2 0))),(6,.ptr (some (.new b3 0))),(8,.ptr (some (.new b4 0))),(9,.int .i64 0),(35,.int .i64 (w1.length:Int)),(36,.int .i64 (j:Int))]) h) fun v h'=>Grow h0 h'∧∃(t:Sl)(w:List Nat),v=.tup [.agg [.int .i64 n1,t.v],.int .i64 0]∧Nats h' t w∧w.length=w1.length∧Own h0 t∧∀m,wbit w m=(wbit w1 m&&wbit w2 m):=by
 intro k
 induction k with
 | zero =>
  intro j hj h w g B1 B2 ⟨cs,hcs,B3⟩ B4 V hw hm;obtain rfl:j=w1.length:=by omega
  rw[kw3];refine Runs.ifF (decide_eq_false (by omega)) (Runs.step (B4.rd 0 rfl (kc _ _)) (Runs.step (B4.rd 1 rfl (asSl_v _)) ?_));refine Runs.puts B3 (by rw[hcs];rfl) fun h1 B5 u1=>?_;refine Runs.step (B5.rd 0 rfl (kc _ _)) (Runs.step (B5.rd 1 rfl (asSl_v _)) (Runs.ret ⟨g.updr h3 u1,t,w,rfl,(V.updr (fun e=>i3 e.symm) u1).nats,hw,V.own hi,fun m=>?_⟩));rcases Nat.lt_or_ge (m/64) w1.length with h' | h'
  ·exact hm m h'
  ·rw[k1h (by omega),k1h (w:=w1) h'];rfl
 | succ k ih =>
  intro j hj h w g B1 B2 ⟨cs,hcs,B3⟩ B4 V hw hm;have j1:j<w1.length:=by omega
  have j2:j<w2.length:=by omega
  obtain⟨r1,e1,e2⟩:=(N1.grow g).rdN j1;obtain⟨r2,e3,e4⟩:=(N2.grow g).rdN j2;rw[kw3];refine Runs.ifT (decide_eq_true (by omega)) (Runs.step (B4.rd 1 rfl (asSl_v _)) (Runs.step (B1.rd 1 rfl (asSl_v _)) (Runs.step e1 (Runs.step e2 (Runs.step (B2.rd 1 rfl (asSl_v _)) (Runs.step e3 (Runs.step e4 ?_)))))));have a1:w1[j]<18446744073709551616:=N1.lt _ (List.getElem_mem j1);have a2:w2[j]<18446744073709551616:=N2.lt _ (List.getElem_mem j2);refine Runs.step (kbix _ _ _) (Runs.step (seen rfl) ?_);rw[ktz a1 a2];refine Runs.when ((Grow.refl h).same B4 1 1) ?_;rw[V.len];have hq:j<w.length:=by omega
  have hlt:w1[j]&&&w2[j]<18446744073709551616:=Nat.lt_of_le_of_lt Nat.and_le_left a1;refine Runs.step (V.idx rfl (kz hq)) (Runs.vput V rfl (kz hq) (kbf hlt) fun h1 V1 u1=>?_);rw[kj (by omega)];refine ih (j+1) (by omega) h1 _ (g.updr hi u1) (B1.updr i1 u1) (B2.updr i2 u1) ⟨cs,hcs,B3.updr i3 u1⟩ (B4.updr i4 u1) V1 (by rw[List.length_set];exact hw) fun m hm'=>?_;rw[kbiv hq];split
  ·rename_i hmj;subst hmj;rw[Nat.testBit_and];unfold wbit;simp[List.getD,j1,j2]
  ·exact hm m (by omega)
theorem kbju(N1:Nats h0 s1 w1)(N2:Nats h0 s2 w2):Runs (go (.fn F.kir [.agg [.int .i64 n1,s1.v],.agg [.int .i64 n2,s2.v],.func (.func F.kfv) [] []]) h0) (SetP h0 (andL n1 w1 n2 w2)):=by
 rw[k4t];refine Runs.new fun h1 b1 g1=>Runs.new fun h2 b2 g2=>Runs.new fun h3 b3 g3=>?_;have B1:=g3.has (g2.has b1);have B2:=g3.has b2;have G3:Grow h0 h3:=(g1.trans g2).trans g3;have s1':h0.blks.size<h1.blks.size:=b1.lt;have s2':h1.blks.size<h2.blks.size:=b2.lt;have s3':h2.blks.size<h3.blks.size:=b3.lt;refine Runs.step (B1.rd 0 rfl (kc _ _)) (Runs.step (B1.rd 1 rfl (asSl_v _)) ?_);refine(kog (N1.grow G3)).call fun v h4 ⟨e,g4⟩=>?_;subst e;refine Runs.step (seen rfl) ?_
 have bad:∀{h:AH},Grow h3 h→andL n1 w1 n2 w2=[]→Runs ((h.puts (Ref.new h2.blks.size 0) [.int .i64 0,(⟨none,0,.is 0⟩:Sl).v]).bind fun h12 =>
   ((h12.cell ((Ref.new h2.blks.size 0).add 0)).bind (AV.asInt .i64)).bind fun n13=>((h12.cell ((Ref.new h2.blks.size 0).add 1)).bind AV.asSl).bind fun l14=>some (.tup [.agg [.int .i64 n13,l14.v],.int .i64 1],h12)) (SetP h0 (andL n1 w1 n2 w2)):=by
  intro h g e;refine Runs.puts (g.has b3) rfl fun h' b' u'=>Runs.step (b'.rd 0 rfl (kc _ _)) (Runs.step (b'.rd 1 rfl (asSl_v _)) (Runs.ret ⟨(G3.trans g).updr (by omega) u',0,_,[],1,rfl,Nats.nil _,Own.nil _,?_⟩));rw[e,kbf1]
 refine Runs.cond (fun c=>bad g4 ?_) fun c=>?_
 ·rw[Bool.not_eq_true']at c;unfold andL;rw[c];rfl
 rw[Bool.not_eq_false']at c;have B2':=g4.has B2;refine Runs.step (B2'.rd 0 rfl (kc _ _)) (Runs.step (B2'.rd 1 rfl (asSl_v _)) ?_);refine(kog (N2.grow (G3.trans g4))).call fun v h5 ⟨e,g5⟩=>?_;subst e;refine Runs.step (seen rfl) ?_;have g35:Grow h3 h5:=g4.trans g5;refine Runs.cond (fun c2=>bad g35 ?_) fun c2=>?_
 ·rw[Bool.not_eq_true']at c2;unfold andL;rw[c,c2];rfl
 rw[Bool.not_eq_false']at c2;refine Runs.step ((g35.has B1).rd 0 rfl (kc _ _)) (Runs.step ((g35.has B2).rd 0 rfl (kc _ _)) ?_);refine Runs.cond (fun c3=>bad g35 ?_) fun c3=>?_
 ·rw[Bool.not_eq_true',decide_eq_false_iff_not]at c3;unfold andL;rw[c,c2,decide_eq_false c3];rfl
 rw[Bool.not_eq_false',decide_eq_true_eq]at c3;subst c3;obtain⟨p0,p1,p2,p3⟩:=btR_n c;obtain⟨-,-,q2,q3⟩:=btR_n c2;obtain⟨z,rfl⟩:∃z:Nat,n1=(z:Int):=⟨n1.toNat,by omega⟩;rw[Int.toNat_natCast]at p2 q2 p3 q3;refine Runs.step ((g35.has B1).rd 0 rfl (kc _ _)) ?_;refine(k1q (n:=z) (by omega)).call fun v h6 ⟨g6,t,i,e,hi,V⟩=>?_;have hi:h5.blks.size≤i:=hi;subst e;refine Runs.step rfl (Runs.step rfl (Runs.ifT rfl (Runs.step rfl (Runs.step (seenAt rfl (asSl_v _)) (Runs.step rfl ?_)))));dsimp only;refine Runs.new fun h7 b7 g7=>Runs.puts b7 rfl fun h8 b8 u8=>Runs.step (b8.rd 1 rfl (asSl_v _)) ?_;have s6:i<h6.blks.size:=V.inn;have s5:h3.blks.size≤h5.blks.size:=g35.size;have s6':h5.blks.size≤h6.blks.size:=g6.size;have g38:Grow h3 h8:=((g35.trans g6).trans g7).updr (by omega) u8;have V8:Vec h8 t i (List.replicate ((z+63)/64) 0):=(V.grow g7).updr (by omega) u8;rw[V8.len,List.length_replicate,← p2];have:=k7d (n1:=(z:Int)) (x1:=(z:Int)) (x2:=(z:Int)) N1 N2 (by omega) (by omega) (b1:=h0.blks.size) (b2:=h1.blks.size) (b3:=h2.blks.size) (b4:=h6.blks.size) (i:=i) (t:=t) (by omega) (by omega) (by omega) (by omega) (by omega) (by omega) w1.length 0 (by omega) h8 _ (G3.trans g38) (g38.has B1) (g38.has B2) ⟨_,rfl,g38.has b3⟩ b8 V8 (by rw[List.length_replicate,p2]) (fun m hm=>absurd hm (Nat.not_lt_zero _));refine this.imp fun v h' ⟨g,t',w,e,N,hw,o,hm⟩=>⟨g,(z:Int),t',w,0,e,N,o,?_⟩
 have hR:btR (z:Int) w=true:=btR_of p0 p1 (by rw[Int.toNat_natCast];omega) fun m hm1 hm2=>by
  rw[hm,p3 m (by omega) hm2];rfl
 unfold andL btL;rw[hR,c,c2,decide_eq_true rfl,Int.toNat_natCast];simp only[Bool.and_self,if_true,List.filter_filter];apply List.filter_congr;intro x _;rw[hm,Bool.and_comm]
theorem kbba(N1:Nats h0 s1 w1)(N2:Nats h0 s2 w2):Runs (go (.fn F.kql [.agg [.int .i64 n1,s1.v],.agg [.int .i64 n2,s2.v]]) h0) (SetP h0 (andL n1 w1 n2 w2)):=by
 rw[kbbc];refine Runs.new fun h1 b1 g1=>Runs.new fun h2 b2 g2=>Runs.new fun h3 b3 g3=>?_;have B1:=g3.has (g2.has b1);have B2:=g3.has b2;have G3:Grow h0 h3:=(g1.trans g2).trans g3;refine Runs.step (B1.rd 0 rfl (kc _ _)) (Runs.step (B1.rd 1 rfl (asSl_v _)) (Runs.step (B2.rd 0 rfl (kc _ _)) (Runs.step (B2.rd 1 rfl (asSl_v _)) ?_)));refine(kbju (N1.grow G3) (N2.grow G3)).call fun v h4 ⟨g4,n,t,w,e,he,N,ho,hb⟩=>?_;subst he;refine Runs.step rfl (Runs.step rfl (Runs.ifT rfl (Runs.step rfl (Runs.step (seenAt rfl (asSl_v _)) (Runs.step rfl ?_)))));dsimp only;have s1:h0.blks.size<h1.blks.size:=b1.lt;have s2:h1.blks.size<h2.blks.size:=b2.lt;refine Runs.puts (g4.has b3) rfl fun h5 b5 u5=>Runs.step (b5.rd 0 rfl (kc _ _)) (Runs.step (b5.rd 1 rfl (asSl_v _)) (Runs.ret ⟨(G3.trans g4).updr (by omega) u5,n,t,w,e,rfl,N.updr ho b3.lt u5,ho.of_le G3,hb⟩))
end
end Go.Ab

/- squeezed -/
set_option maxRecDepth 10000
namespace Go.Ab
open Go.Proofs
theorem khe{t:Tb}(h:tabR t=true):t.ids.length≤256∧t.cols.length≤16∧t.bins.length=t.cols.length∧∀i,i<t.cols.length→colR t i=true:=by
 unfold tabR idsR at h;simp only[Bool.and_eq_true,decide_eq_true_eq,List.all_eq_true,List.mem_range,Bool.not_eq_true',decide_eq_false_iff_not]at h;exact⟨h.1.1.1.1,by omega,h.1.2,h.2⟩
theorem khw{t:Tb}{i:Nat}(h:colR t i=true)(hi:i<t.cols.length)(hb:t.bins.length=t.cols.length):∃hb':i<t.bins.length,2≤t.bins[i]∧t.bins[i]≤32∧t.cols[i].length=t.ids.length:=by
 unfold colR at h;have hb':i<t.bins.length:=by omega
 simp only[Bool.and_eq_true,decide_eq_true_eq,Bool.not_eq_true',decide_eq_false_iff_not,List.getD,List.getElem?_eq_getElem hi,List.getElem?_eq_getElem hb',Option.getD_some]at h;exact⟨hb',by omega,by omega,h.1.2⟩
def leftP(t:Tb)(f:Nat)(c:Int)(i:Nat):Bool:=decide ((t.cols.getD f []).getD i 0≤c)
def leftR(t:Tb)(f:Nat)(c:Int):List Nat:=(List.range t.ids.length).filter (leftP t f c)
section
variable{h0:AH}{S:Fp}{s1 s2 s3:Sl}{t:Tb}
theorem k8m{s:Sl}{f:Nat}{c:Int}(hf:f<t.cols.length)(hc:t.cols[f].length=t.ids.length)(hids:t.ids.length≤256)(q:Sq EI h0 S s t.cols[f]){b1 b2:Nat}{cs2:List AV}(n1:Sq EI h0 S s1 t.ids)(B1:h0.has b1 [s1.v,s2.v,s3.v] T.kbt)(B2:h0.has b2 [.int .i64 0,(⟨none,0,.is 0⟩:Sl).v] T.ko){ha:AH}(ga:Grow ha h0)(hb2:ha.blks.size≤b2):∀(k i:Nat),i+k=t.ids.length→∀(h:AH)(x:Sl)(j:Option Nat),Grow h0 h→LeO h0.blks.size j→GF EI T.int h Fp.no x j (zs ((List.range i).filter (leftP t f c)))→
  Runs (go (.pt F.kfj Td.knf [(2,.int .i64 c),(3,.ptr (some (.new b1 0))),(6,.ptr (some (.new b2 0))),(8,x.v),(44,s.v),(45,.int .i64 (t.ids.length:Int)),(46,.int .i64 (i:Int))]) h) fun v h'=>Grow ha h'∧∃(y:Sl)(w:List Nat),v=.tup [.agg [.int .i64 (t.ids.length:Int),y.v],.int .i64 0]∧Nats h' y w∧Own ha y∧w.length=(t.ids.length+63)/64∧∀m,wbit w m=decide (m∈leftR t f c):=by
 intro k
 induction k with
 | zero =>
  intro i hi h x j g lj V;obtain rfl:i=t.ids.length:=by omega
  rw[kzt];refine Runs.ifF (decide_eq_false (by omega)) (Runs.step ((g.has B1).rd 0 rfl (asSl_v _)) ?_);rw[n1.len];refine(kbff (S:=Fp.or (Fp.opt j) Fp.no) (l:=leftR t f c) (n:=t.ids.length) V.sq (fun y hy=>?_) (by omega)).call fun v h1 ⟨g1,y,w,e,N,hw,o,hm⟩=>?_
  ·unfold leftR at hy;rw[List.mem_filter,List.mem_range]at hy;exact hy.1
  subst e;refine Runs.step rfl (Runs.step rfl (Runs.ifT rfl (Runs.step rfl (Runs.step (seenAt rfl (asSl_v _)) (Runs.step rfl ?_)))));dsimp only;have hlt:=(g.has B2).lt;refine Runs.puts (g1.has (g.has B2)) rfl fun h2 b2' u2=>Runs.step (b2'.rd 0 rfl (kc _ _)) (Runs.step (b2'.rd 1 rfl (asSl_v _)) (Runs.ret ⟨?_,y,w,rfl,N.updr o hlt u2,?_,hw,hm⟩))
  ·exact((ga.trans g).trans g1).updr hb2 u2
  ·exact o.of_le (ga.trans g)
 | succ k ih =>
  intro i hi h x j g lj V;have hi':i<t.cols[f].length:=by omega
  obtain⟨r,e1,e2⟩:=(q.grow g).int hi';rw[q.len,hc]at e1;rw[kzt]
  have hp:leftP t f c i=decide (t.cols[f][i]≤c):=by
   unfold leftP;simp[List.getD,hf,hi']
  have hr:(List.range (i+1)).filter (leftP t f c)=(List.range i).filter (leftP t f c)++if leftP t f c i then [i]else []:=by
   rw[List.range_succ,List.filter_append];cases hq:leftP t f c i<;>simp[hq]
  have hlen:(zs ((List.range i).filter (leftP t f c))).length≤i:=by
   rw[zs_len];exact Nat.le_trans (List.length_filter_le _ _) (by simp)
  refine Runs.ifT (decide_eq_true (by omega)) ?_;rw[q.len,hc];refine Runs.step e1 (Runs.step e2 (Runs.cond (fun k1=>?_) fun k1=>?_))
  ·refine Runs.new fun h2 b2 g2=>?_;refine Runs.step (kgv b2 (by rw[kjq];rfl)) ?_;have V2:=V.grow g2;obtain⟨y,h3,e3,V3,u3⟩:=V2.push (T:=Fp.no) (cs:=[.int .i64 (i:Int)]) (x:=(i:Int)) rfl NotO.no (knb (by omega));refine Runs.step e3 (Runs.step (asSl_v _) ?_);rw[kj (by omega)];refine ih (i+1) (by omega) h3 y (some h2.blks.size) ((g.trans g2).updo lj u3) (show _≤_ from(g.trans g2).size) ?_;rw[hr,hp,k1,if_pos rfl,zs_app];exact V3.mono (fun j x=>x.1.elim id id) NotO.no
  ·rw[kj (by omega)];refine ih (i+1) (by omega) h x j g lj ?_;rw[hr,hp,k1]
   simpa using V
theorem kbfp(n:TabAt h0 S s1 s2 s3 t)(hR:tabR t=true){f c:Nat}(hf:f<t.cols.length)(hc:(c:Int)<t.bins.getD f 0):Runs (go (.fn F.kfj [.agg [s1.v,s2.v,s3.v],.int .i64 (f:Int),.int .i64 (c:Int)]) h0) fun v h'=>Grow h0 h'∧∃(y:Sl)(w:List Nat),v=.tup [.agg [.int .i64 (t.ids.length:Int),y.v],.int .i64 0]∧Nats h' y w∧Own h0 y∧w.length=(t.ids.length+63)/64∧∀m,wbit w m=decide (m∈leftR t f (c:Int)):=by
 obtain⟨hids,hcols,hbins,hall⟩:=khe hR;obtain⟨hb,h2,h32,hcl⟩:=khw (hall f hf) hf hbins;rw[k7n];refine Runs.new fun h1 b1 g1=>Runs.new fun h2 b2 g2=>?_;have B1:=g2.has b1;refine Runs.step (B1.rd 0 rfl (asSl_v _)) (Runs.step (B1.rd 1 rfl (asSl_v _)) (Runs.step (B1.rd 2 rfl (asSl_v _)) ?_));refine(k1n (n.grow (g1.trans g2))).call fun v h3 ⟨e,g3⟩=>?_;subst e;rw[hR];refine Runs.step (seen rfl) (Runs.ifF rfl (Runs.ifF (decide_eq_false (by omega)) ?_));have G3:Grow h0 h3:=(g1.trans g2).trans g3;have B1':=g3.has B1;refine Runs.step (B1'.rd 2 rfl (asSl_v _)) ?_;rw[n.cols.len];refine Runs.ifF (decide_eq_false (by omega)) (Runs.ifF (decide_eq_false (by omega)) (Runs.step (B1'.rd 1 rfl (asSl_v _)) ?_));obtain⟨r,e1,e2⟩:=(n.bins.grow G3).int hb;have hgd:t.bins.getD f 0=t.bins[f]:=by simp[List.getD,hb]
 rw[hgd]at hc;refine Runs.step e1 (Runs.step e2 (Runs.ifF (decide_eq_false (by omega)) (Runs.step (B1'.rd 2 rfl (asSl_v _)) ?_)));obtain⟨r2,s',e3,e4,-,q⟩:=(n.cols.grow G3).sl hf;refine Runs.step e3 (Runs.step e4 ?_);rw[q.len,hcl];have s1':=b1.lt;exact k8m (cs2:=[]) hf hcl hids q ((n.grow G3).ids) B1' (g3.has b2) G3 (by have:=g1.size;omega) t.ids.length 0 (by omega) h3 _ none (Grow.refl h3) trivial (GF.none _ _ _ _)
end
end Go.Ab

/- squeezed -/
set_option maxRecDepth 10000
namespace Go.Ab
open Go.Proofs
def nb(t:Tb)(f:Nat):Nat:=(t.bins.getD f 0).toNat-1
def cutsTo(t:Tb)(f:Nat):List (Nat×Nat):=(List.range f).flatMap fun f=>(List.range (nb t f)).map fun c=>(f,c)
def cutsL(t:Tb):List (Nat×Nat):=if tabR t then cutsTo t t.cols.length else []
def rowsL(t:Tb)(n:Int)(w:List Nat)(p:Nat×Nat):List Nat:=if btR n w&&decide ((t.ids.length:Int)=n)then(leftR t p.1 (p.2:Int)).filter (wbit w)else []
theorem kwt(t:Tb)(f:Nat):cutsTo t (f+1)=cutsTo t f++(List.range (nb t f)).map fun c=>(f,c):=by
 unfold cutsTo;rw[List.range_succ,List.flatMap_append];simp
theorem kup(t:Tb):∀f:Nat,(∀i,i<f→nb t i≤31)→(cutsTo t f).length≤31*f
 | 0,_=>by simp[cutsTo]
 | f+1,h=>by
  rw[kwt,List.length_append,List.length_map,List.length_range];have:=kup t f fun i hi=>h i (by omega);have:=h f (by omega);omega
section
variable{S:Fp}{s1 s2 s3 s:Sl}{t:Tb}{n:Int}{w:List Nat}{l b1 b2:Nat}
structure EachOk(S:Fp)(s1 s2 s3 s:Sl)(t:Tb)(n:Int)(w:List Nat)(b1 b2:Nat)(h:AH):Prop where
 tab:Tab h
 at':TabAt h S s1 s2 s3 t
 nats:Nats h s w
 has1:h.has b1 [s1.v,s2.v,s3.v] T.kbt
 has2:h.has b2 [.int .i64 n,s.v] T.ko
theorem EachOk.grow{h h':AH}(e:EachOk S s1 s2 s3 s t n w b1 b2 h)(g:Grow h h'):EachOk S s1 s2 s3 s t n w b1 b2 h':=⟨e.tab.grow g,e.at'.grow g,e.nats.grow g,g.has e.has1,g.has e.has2⟩
theorem kbe4{h:AH}(E:EachOk S s1 s2 s3 s t n w b1 b2 h)(hR:tabR t=true){f c:Nat}(hf:f<t.cols.length)(hc:(c:Int)<t.bins.getD f 0){K:Sl→AH→Option (AV×AH)}{P:AV→AH→Prop}(H:∀(y:Sl)(j:Option Nat)(h':AH),Grow h h'→GF EI T.int h' Fp.no y j (zs (rowsL t n w (f,c)))→Runs (K y h') P) :
  Runs (((h.cell ((Ref.new b1 0).add 0)).bind AV.asSl).bind fun l10 =>
   ((h.cell ((Ref.new b1 0).add 1)).bind AV.asSl).bind fun l11 =>
   ((h.cell ((Ref.new b1 0).add 2)).bind AV.asSl).bind fun l12 =>
   (go (.fn F.kfj [.agg [l10.v,l11.v,l12.v],.int .i64 (f:Int),.int .i64 (c:Int)]) h).bind fun q13 =>
   (AV.asTup2 q13.1).bind fun p14 =>
   (AV.asAgg p14.1).bind fun cs15 =>
   cond (Nat.beq cs15.length 2) (
   ((cs15[0]?).bind (AV.asInt .i64)).bind fun n16 =>
   ((cs15[1]?).bind AV.asSl).bind fun l17 =>
   ((some p14.2).bind (AV.asInt .i64)).bind fun n18 =>
   newK q13.2 (.cells [.int .i64 0,(⟨none,0,.is 0⟩:Sl).v] T.ko) fun h19r h19 =>
   (h19.puts h19r [.int .i64 n16,l17.v]).bind fun h20 =>
   ((h20.cell (h19r.add 0)).bind (AV.asInt .i64)).bind fun n21 =>
   ((h20.cell (h19r.add 1)).bind AV.asSl).bind fun l22 =>
   ((h20.cell ((Ref.new b2 0).add 0)).bind (AV.asInt .i64)).bind fun n23 =>
   ((h20.cell ((Ref.new b2 0).add 1)).bind AV.asSl).bind fun l24 =>
   (go (.fn F.kql [.agg [.int .i64 n21,l22.v],.agg [.int .i64 n23,l24.v]]) h20).bind fun q25 =>
   (AV.asTup2 q25.1).bind fun p26 =>
   (AV.asAgg p26.1).bind fun cs27 =>
   cond (Nat.beq cs27.length 2) (
   ((cs27[0]?).bind (AV.asInt .i64)).bind fun n28 =>
   ((cs27[1]?).bind AV.asSl).bind fun l29 =>
   ((some p26.2).bind (AV.asInt .i64)).bind fun n30 =>
   (q25.2.puts h19r [.int .i64 n28,l29.v]).bind fun h31 =>
   ((h31.cell (h19r.add 0)).bind (AV.asInt .i64)).bind fun n32 =>
   ((h31.cell (h19r.add 1)).bind AV.asSl).bind fun l33 =>
   (go (.fn F.kp1 [.agg [.int .i64 n32,l33.v]]) h31).bind fun q34 =>
   ((some q34.1).bind AV.asSl).bind fun l35=>K l35 q34.2) none) none) P:=by
 refine Runs.step (E.has1.rd 0 rfl (asSl_v _)) (Runs.step (E.has1.rd 1 rfl (asSl_v _)) (Runs.step (E.has1.rd 2 rfl (asSl_v _)) ?_));refine(kbfp E.at' hR hf hc).call fun v h1 ⟨g1,y1,w1,e,N1,o1,l1,m1⟩=>?_;subst e;refine Runs.step rfl (Runs.step rfl (Runs.ifT rfl (Runs.step rfl (Runs.step (seenAt rfl (asSl_v _)) (Runs.step rfl ?_)))));dsimp only;refine Runs.new fun h2 b3 g2=>Runs.puts b3 rfl fun h3 b4 u3=>?_;have G3:Grow h1 h3:=g2.updr (Nat.le_refl _) u3;have E3:=E.grow (g1.trans G3);refine Runs.step (b4.rd 0 rfl (kc _ _)) (Runs.step (b4.rd 1 rfl (asSl_v _)) (Runs.step (E3.has2.rd 0 rfl (kc _ _)) (Runs.step (E3.has2.rd 1 rfl (asSl_v _)) ?_)));refine(kbba (N1.grow G3) E3.nats).call fun v h4 ⟨g4,n4,y4,w4,e4,he,N4,o4,hb⟩=>?_;subst he;refine Runs.step rfl (Runs.step rfl (Runs.ifT rfl (Runs.step rfl (Runs.step (seenAt rfl (asSl_v _)) (Runs.step rfl ?_)))));dsimp only;refine Runs.puts (g4.has b4) rfl fun h5 b5 u5=>Runs.step (b5.rd 0 rfl (kc _ _)) (Runs.step (b5.rd 1 rfl (asSl_v _)) ?_);have G5:Grow h1 h5:=(G3.trans g4).updr (Nat.le_refl _) u5;have G05:Grow h h5:=g1.trans G5;refine(kbe7 (n:=n4) (E.tab.grow G05) (N4.updr o4 b4.lt u5)).call fun v h6 ⟨g6,y6,j6,e,lj,V⟩=>?_;subst e;refine Runs.step (seen (asSl_v _)) ?_;refine H y6 j6 h6 (G05.trans g6) ?_;rw[hb]at V;have hids:=(khe hR).1
 have hov:∀i,t.ids.length≤i→wbit w1 i=false:=fun i hi=>by
  rw[m1,decide_eq_false];intro hm;unfold leftR at hm;rw[List.mem_filter,List.mem_range]at hm;omega
 have hR1:btR (t.ids.length:Int) w1=true:=btR_of (by omega) (by omega) (by rw[Int.toNat_natCast];exact l1) fun i _ hi=>hov i (by rw[Int.toNat_natCast]at hi;exact hi)
 have hL1:btL (t.ids.length:Int) w1=leftR t f (c:Int):=by
  unfold btL;rw[hR1,if_pos rfl,Int.toNat_natCast];unfold leftR;apply List.filter_congr;intro i hi;rw[m1];unfold leftR;rw[Bool.eq_iff_iff,decide_eq_true_eq,List.mem_filter];exact⟨fun h=>h.2,fun h=>⟨hi,h⟩⟩
 have:andL (t.ids.length:Int) w1 n w=rowsL t n w (f,c):=by
  unfold andL rowsL;rw[hR1,hL1,Bool.true_and]
 rw[this]at V;exact V
theorem k53{Inv:List (Nat×Nat)→AH→Prop}(hE:∀d h,Inv d h→EachOk S s1 s2 s3 s t n w b1 b2 h)(hG:∀d h h',Inv d h→Grow h h'→Inv d h')(hR:tabR t=true)
  (hround:∀(d:List (Nat×Nat))(f c:Nat)(h:AH)(y:Sl)(j:Option Nat),f<t.cols.length→(c:Int)<t.bins.getD f 0→d.length<1000→Inv d h→GF EI T.int h Fp.no y j (zs (rowsL t n w (f,c)))→Runs (go (.round l [.agg [.int .i64 (f:Int),.int .i64 (c:Int)],y.v]) h) fun v h'=>v=.bool true∧Inv (d++[(f,c)]) h')
  {f:Nat} (hf:f<t.cols.length) {P:AV→AH→Prop} (hP:∀h,Inv (cutsTo t (f+1)) h→Runs (go (.pt F.kbw Td.kkw [(0,.func (.yield l) [] []),(1,.ptr (some (.new b1 0))),(2,.ptr (some (.new b2 0))),(10,s2.v),(11,.int .i64 (t.bins.length:Int)),(12,.int .i64 ((f+1:Nat):Int))]) h) P) :
  ∀(k c:Nat),c+k=nb t f→∀h,Inv (cutsTo t f++(List.range c).map fun c=>(f,c)) h→
  Runs (go (.pt F.kbw Td.kk1 [(0,.func (.yield l) [] []),(1,.ptr (some (.new b1 0))),(2,.ptr (some (.new b2 0))),(4,.int .i64 (f:Int)),(10,s2.v),(11,.int .i64 (t.bins.length:Int)),(12,.int .i64 (f:Int)),(18,.int .i64 (nb t f:Int)),(19,.int .i64 (c:Int))]) h) P:=by
 obtain⟨hids,hcols,hbins,hall⟩:=khe hR;obtain⟨hb,hb2,hb32,hcl⟩:=khw (hall f hf) hf hbins;have hgd:t.bins.getD f 0=t.bins[f]:=by simp[List.getD,hb]
 have hnb:(nb t f:Int)=t.bins[f]-1:=by
  unfold nb;rw[hgd];omega
 have hlen:(cutsTo t f).length≤31*f:=kup t f fun i hi=>by
  obtain⟨hb',h2',h32',-⟩:=khw (hall i (by omega)) (by omega) hbins;have:t.bins.getD i 0=t.bins[i]:=by simp[List.getD,hb']
  unfold nb;rw[this];omega
 intro k
 induction k with
 | zero =>
  intro c hc h I;obtain rfl:c=nb t f:=by omega
  rw[← kwt]at I;rw[ky5];refine Runs.ifF (decide_eq_false (by omega)) ?_;rw[kj (by omega)];exact hP h I
 | succ k ih =>
  intro c hc h I;rw[ky5];refine Runs.ifT (decide_eq_true (by omega)) ?_;have hcb:(c:Int)<t.bins.getD f 0:=by rw[hgd];omega
  refine kbe4 (hE _ _ I) hR hf hcb (K:=fun y h'=>(go (.round l [.agg [.int .i64 (f:Int),.int .i64 (c:Int)],y.v]) h').bind fun q36=>((some q36.1).bind AV.asBool).bind fun b37=>cond (!b37) (some (.tup [],q36.2)) (go (.pt F.kbw Td.kk1 [(0,.func (.yield l) [] []),(1,.ptr (some (.new b1 0))),(2,.ptr (some (.new b2 0))),(4,.int .i64 (f:Int)),(10,s2.v),(11,.int .i64 (t.bins.length:Int)),(12,.int .i64 (f:Int)),(18,.int .i64 (nb t f:Int)),(19,.int .i64 (IntKind.wrap .i64 ((c:Int)+1)))]) q36.2)) fun y j h1 g1 V=>?_;refine(hround _ f c h1 y j hf hcb ?_ (hG _ _ _ I g1) V).call fun v h2 ⟨e,I2⟩=>?_
  ·rw[List.length_append,List.length_map,List.length_range];omega
  subst e;refine Runs.step (seen rfl) (Runs.ifF rfl ?_);rw[kj (by omega)];refine ih (c+1) (by omega) h2 ?_;rw[List.range_succ,List.map_append,← List.append_assoc];exact I2
theorem kblh{Inv:List (Nat×Nat)→AH→Prop}(hE:∀d h,Inv d h→EachOk S s1 s2 s3 s t n w b1 b2 h)(hG:∀d h h',Inv d h→Grow h h'→Inv d h')(hR:tabR t=true)
  (hround:∀(d:List (Nat×Nat))(f c:Nat)(h:AH)(y:Sl)(j:Option Nat),f<t.cols.length→(c:Int)<t.bins.getD f 0→d.length<1000→Inv d h→GF EI T.int h Fp.no y j (zs (rowsL t n w (f,c)))→Runs (go (.round l [.agg [.int .i64 (f:Int),.int .i64 (c:Int)],y.v]) h) fun v h'=>v=.bool true∧Inv (d++[(f,c)]) h') :
  ∀(k f:Nat),f+k=t.cols.length→∀h,Inv (cutsTo t f) h→
  Runs (go (.pt F.kbw Td.kkw [(0,.func (.yield l) [] []),(1,.ptr (some (.new b1 0))),(2,.ptr (some (.new b2 0))),(10,s2.v),(11,.int .i64 (t.bins.length:Int)),(12,.int .i64 (f:Int))]) h) fun v h'=>v=.tup []∧Inv (cutsTo t t.cols.length) h':=by
 obtain⟨hids,hcols,hbins,hall⟩:=khe hR;intro k
 induction k with
 | zero =>
  intro f hf h I;obtain rfl:f=t.cols.length:=by omega
  rw[k0w];exact Runs.ifF (decide_eq_false (by omega)) (Runs.ret ⟨rfl,I⟩)
 | succ k ih =>
  intro f hf h I;have hf':f<t.cols.length:=by omega
  obtain⟨hb,hb2,hb32,hcl⟩:=khw (hall f hf') hf' hbins;obtain⟨r,e1,e2⟩:=(hE _ _ I).at'.bins.int hb;rw[(hE _ _ I).at'.bins.len]at e1;rw[k0w];refine Runs.ifT (decide_eq_true (by omega)) ?_;rw[(hE _ _ I).at'.bins.len];refine Runs.step e1 (Runs.step e2 ?_);have hgd:t.bins.getD f 0=t.bins[f]:=by simp[List.getD,hb]
  rw[wrap64 (by omega) (by omega),show t.bins[f]-1=(nb t f:Int)from by unfold nb;rw[hgd];omega];exact k53 hE hG hR hround hf' (fun h I=>ih (f+1) (by omega) h I) (nb t f) 0 (by omega) h (by simpa using I)
theorem k17{Inv:List (Nat×Nat)→AH→Prop}(hE:∀d h,Inv d h→EachOk S s1 s2 s3 s t n w b1 b2 h)(hG:∀d h h',Inv d h→Grow h h'→Inv d h')(hR:tabR t=true)
  (hround:∀(d:List (Nat×Nat))(f c:Nat)(h:AH)(y:Sl)(j:Option Nat),f<t.cols.length→(c:Int)<t.bins.getD f 0→d.length<1000→Inv d h→GF EI T.int h Fp.no y j (zs (rowsL t n w (f,c)))→Runs (go (.round l [.agg [.int .i64 (f:Int),.int .i64 (c:Int)],y.v]) h) fun v h'=>v=.bool true∧Inv (d++[(f,c)]) h') {h:AH} (I:Inv [] h) :
  Runs (go (.fn F.kbw [.func (.yield l) [] [],.ptr (some (.new b1 0)),.ptr (some (.new b2 0))]) h) fun v h'=>v=.tup []∧Inv (cutsL t) h':=by
 rw[kbgl];refine Runs.step ((hE _ _ I).has1.rd 1 rfl (asSl_v _)) ?_;rw[(hE _ _ I).at'.bins.len];unfold cutsL;rw[hR,if_pos rfl];exact kblh hE hG hR hround t.cols.length 0 (by omega) h I
end
end Go.Ab
